/-
  NARROWER THAN 'FOR EVERY INPUT', by the rows' own cells (each row's printed sentence says how): BlindApart: laid · RekeyMeet: laid · RekeyMany: laid · RekeyLost: laid · RekeyOrder: laid · RekeySecret: laid · BlindMeet: laid · BlindPartly: laid · BlindSecret: laid.
  DERIVED. THE GIVEN ROWS OF THIS SEAT. 9 by the template 'for every input the law returns true; each argument reads behind the call as it read before'; 0 by the template 'total and deterministic' (their statements: YtfapphlhkfddoaaGreatDoorTotals.lean).
  GIVEN WITH THE SEED: the statements are not yours to turn. If you find one false, say at which input.
  Laid BY PROGRAM, IN A SANDBOX (cutbox-rows.mjs): the forced cells as the released guide's own fill.sh prints them over the translation 5ca994e375040a23… (all of the seat's roots in one cut). By AI agents, Wed Nov 11 2026. No macro, syntax, notation, axiom, sorry.
-/
import Derived.Test.YtfapphlhkfddoaaGreatDoorChecked
import GoSem.Claim
import GoSem.ClaimJoined
import GoSem.ClaimMapViews
import Derived.JoinedTies
import Derived.KernelRfl
namespace Go.Proofs.YtfapphlhkfddoaaGreatDoor
/- THE CELL 'sum', in the pinned program and in every row, IS THE sha256 OF THE DUMP (.gsa) THAT YtfapphlhkfddoaaGreatDoorProg.lean LOADS. Nothing in Lean hashes anything: it is a label: what it is worth is what the hold of that sum in a sandbox is worth. -/
noncomputable def Tryz.pinned : Pinned := { name := "ytfapphlhkfddoaagreatdoor", sum := "5ca994e375040a23e37f2c20f24b28284ddea271c71088e9ab2f567c1d94f985", checked := Tryz.checked }
namespace Rows
def none {H : Type} : Left H := { results := [], args := [] }

/- WHAT THE LISTED PACKAGE-LEVEL VARIABLES READ AS WHEN THE CALL BEGINS. Each datum BY PROGRAM (the guide's laid-datum.mjs) off the statement by which the dump's own 'gosem.cut.vars' lays the variable. In a bare row this is a premise. The card (YtfapphlhkfddoaaGreatDoorCards.lean) ties it to the program's text. -/
def laid_math_bits_deBruijn32tab {H : Type} : DataW H := .agg [.lit (.int .u8 0), .lit (.int .u8 1), .lit (.int .u8 28), .lit (.int .u8 2), .lit (.int .u8 29), .lit (.int .u8 14), .lit (.int .u8 24), .lit (.int .u8 3), .lit (.int .u8 30), .lit (.int .u8 22), .lit (.int .u8 20), .lit (.int .u8 15), .lit (.int .u8 25), .lit (.int .u8 17), .lit (.int .u8 4), .lit (.int .u8 8), .lit (.int .u8 31), .lit (.int .u8 27), .lit (.int .u8 13), .lit (.int .u8 23), .lit (.int .u8 21), .lit (.int .u8 19), .lit (.int .u8 16), .lit (.int .u8 7), .lit (.int .u8 26), .lit (.int .u8 12), .lit (.int .u8 18), .lit (.int .u8 6), .lit (.int .u8 11), .lit (.int .u8 5), .lit (.int .u8 10), .lit (.int .u8 9)]
def laid_math_bits_deBruijn64tab {H : Type} : DataW H := .agg [.lit (.int .u8 0), .lit (.int .u8 1), .lit (.int .u8 56), .lit (.int .u8 2), .lit (.int .u8 57), .lit (.int .u8 49), .lit (.int .u8 28), .lit (.int .u8 3), .lit (.int .u8 61), .lit (.int .u8 58), .lit (.int .u8 42), .lit (.int .u8 50), .lit (.int .u8 38), .lit (.int .u8 29), .lit (.int .u8 17), .lit (.int .u8 4), .lit (.int .u8 62), .lit (.int .u8 47), .lit (.int .u8 59), .lit (.int .u8 36), .lit (.int .u8 45), .lit (.int .u8 43), .lit (.int .u8 51), .lit (.int .u8 22), .lit (.int .u8 53), .lit (.int .u8 39), .lit (.int .u8 33), .lit (.int .u8 30), .lit (.int .u8 24), .lit (.int .u8 18), .lit (.int .u8 12), .lit (.int .u8 5), .lit (.int .u8 63), .lit (.int .u8 55), .lit (.int .u8 48), .lit (.int .u8 27), .lit (.int .u8 60), .lit (.int .u8 41), .lit (.int .u8 37), .lit (.int .u8 16), .lit (.int .u8 46), .lit (.int .u8 35), .lit (.int .u8 44), .lit (.int .u8 21), .lit (.int .u8 52), .lit (.int .u8 32), .lit (.int .u8 23), .lit (.int .u8 11), .lit (.int .u8 54), .lit (.int .u8 26), .lit (.int .u8 40), .lit (.int .u8 15), .lit (.int .u8 34), .lit (.int .u8 20), .lit (.int .u8 31), .lit (.int .u8 10), .lit (.int .u8 25), .lit (.int .u8 14), .lit (.int .u8 19), .lit (.int .u8 9), .lit (.int .u8 13), .lit (.int .u8 8), .lit (.int .u8 7), .lit (.int .u8 6)]
def laid_internal_strconv_uint64pow10 {H : Type} : DataW H := .agg [.lit (.int .u64 1), .lit (.int .u64 10), .lit (.int .u64 100), .lit (.int .u64 1000), .lit (.int .u64 10000), .lit (.int .u64 100000), .lit (.int .u64 1000000), .lit (.int .u64 10000000), .lit (.int .u64 100000000), .lit (.int .u64 1000000000), .lit (.int .u64 10000000000), .lit (.int .u64 100000000000), .lit (.int .u64 1000000000000), .lit (.int .u64 10000000000000), .lit (.int .u64 100000000000000), .lit (.int .u64 1000000000000000), .lit (.int .u64 10000000000000000), .lit (.int .u64 100000000000000000), .lit (.int .u64 1000000000000000000), .lit (.int .u64 10000000000000000000)]

/-- 'gemotlaw15.BlindApart': WHATEVER THE INPUT: true; the input reads as it did. -/
def blindApartSpec : ChangeSpec := { name := "blindApart", fn := fun _ => fun
  | [d1, d2, d3, d4, d5] => { results := [.lit (.bool true)], args := [d1, d2, d3, d4, d5] }
  | _ => none }
def blindApartRow : OpenClaim := { program := "ytfapphlhkfddoaagreatdoor", sum := "5ca994e375040a23e37f2c20f24b28284ddea271c71088e9ab2f567c1d94f985", func := "gemot/gemotlaw15.BlindApart", spec := "blindApart", inPlace := ["internal/abi.NoEscape", "internal/bytealg.MakeNoZero"], unfollowed := true, recurses := true, named := ["internal/strconv.uint64pow10", "math/bits.deBruijn32tab", "math/bits.deBruijn64tab"], apart := false, laid := [("math/bits.deBruijn32tab", laid_math_bits_deBruijn32tab), ("math/bits.deBruijn64tab", laid_math_bits_deBruijn64tab), ("internal/strconv.uint64pow10", laid_internal_strconv_uint64pow10)] }
def BlindApartSaid : Prop := blindApartRow.holds Tryz.pinned (OpenSpec.ofChange blindApartSpec)

/-- ITS FALSE NEIGHBOUR: 'it returns false'. Refute it at one input. -/
def blindApartWrong : ChangeSpec := { name := "blindApart", fn := fun _ => fun
  | [d1, d2, d3, d4, d5] => { results := [.lit (.bool false)], args := [d1, d2, d3, d4, d5] }
  | _ => none }
def BlindApartWrongFalsely : Prop := blindApartRow.holds Tryz.pinned (OpenSpec.ofChange blindApartWrong)

/-- 'gemotlaw16.RekeyMeet': WHATEVER THE INPUT: true; the input reads as it did. -/
def rekeyMeetSpec : ChangeSpec := { name := "rekeyMeet", fn := fun _ => fun
  | [d1, d2, d3, d4] => { results := [.lit (.bool true)], args := [d1, d2, d3, d4] }
  | _ => none }
def rekeyMeetRow : OpenClaim := { program := "ytfapphlhkfddoaagreatdoor", sum := "5ca994e375040a23e37f2c20f24b28284ddea271c71088e9ab2f567c1d94f985", func := "gemot/gemotlaw16.RekeyMeet", spec := "rekeyMeet", inPlace := ["internal/abi.NoEscape", "internal/bytealg.MakeNoZero"], unfollowed := true, recurses := true, named := ["internal/strconv.uint64pow10", "math/bits.deBruijn32tab", "math/bits.deBruijn64tab"], apart := false, laid := [("math/bits.deBruijn32tab", laid_math_bits_deBruijn32tab), ("math/bits.deBruijn64tab", laid_math_bits_deBruijn64tab), ("internal/strconv.uint64pow10", laid_internal_strconv_uint64pow10)] }
def RekeyMeetSaid : Prop := rekeyMeetRow.holds Tryz.pinned (OpenSpec.ofChange rekeyMeetSpec)

/-- ITS FALSE NEIGHBOUR: 'it returns false'. Refute it at one input. -/
def rekeyMeetWrong : ChangeSpec := { name := "rekeyMeet", fn := fun _ => fun
  | [d1, d2, d3, d4] => { results := [.lit (.bool false)], args := [d1, d2, d3, d4] }
  | _ => none }
def RekeyMeetWrongFalsely : Prop := rekeyMeetRow.holds Tryz.pinned (OpenSpec.ofChange rekeyMeetWrong)

/-- 'gemotlaw16.RekeyMany': WHATEVER THE INPUT: true; the input reads as it did. -/
def rekeyManySpec : ChangeSpec := { name := "rekeyMany", fn := fun _ => fun
  | [d1, d2, d3] => { results := [.lit (.bool true)], args := [d1, d2, d3] }
  | _ => none }
def rekeyManyRow : OpenClaim := { program := "ytfapphlhkfddoaagreatdoor", sum := "5ca994e375040a23e37f2c20f24b28284ddea271c71088e9ab2f567c1d94f985", func := "gemot/gemotlaw16.RekeyMany", spec := "rekeyMany", inPlace := ["internal/abi.NoEscape", "internal/bytealg.MakeNoZero"], unfollowed := true, recurses := true, named := ["internal/strconv.uint64pow10", "math/bits.deBruijn32tab", "math/bits.deBruijn64tab"], apart := false, laid := [("math/bits.deBruijn32tab", laid_math_bits_deBruijn32tab), ("math/bits.deBruijn64tab", laid_math_bits_deBruijn64tab), ("internal/strconv.uint64pow10", laid_internal_strconv_uint64pow10)] }
def RekeyManySaid : Prop := rekeyManyRow.holds Tryz.pinned (OpenSpec.ofChange rekeyManySpec)

/-- ITS FALSE NEIGHBOUR: 'it returns false'. Refute it at one input. -/
def rekeyManyWrong : ChangeSpec := { name := "rekeyMany", fn := fun _ => fun
  | [d1, d2, d3] => { results := [.lit (.bool false)], args := [d1, d2, d3] }
  | _ => none }
def RekeyManyWrongFalsely : Prop := rekeyManyRow.holds Tryz.pinned (OpenSpec.ofChange rekeyManyWrong)

/-- 'gemotlaw16.RekeyLost': WHATEVER THE INPUT: true; the input reads as it did. -/
def rekeyLostSpec : ChangeSpec := { name := "rekeyLost", fn := fun _ => fun
  | [d1, d2] => { results := [.lit (.bool true)], args := [d1, d2] }
  | _ => none }
def rekeyLostRow : OpenClaim := { program := "ytfapphlhkfddoaagreatdoor", sum := "5ca994e375040a23e37f2c20f24b28284ddea271c71088e9ab2f567c1d94f985", func := "gemot/gemotlaw16.RekeyLost", spec := "rekeyLost", inPlace := ["internal/abi.NoEscape", "internal/bytealg.MakeNoZero"], unfollowed := true, recurses := true, named := ["internal/strconv.uint64pow10", "math/bits.deBruijn32tab", "math/bits.deBruijn64tab"], apart := false, laid := [("math/bits.deBruijn32tab", laid_math_bits_deBruijn32tab), ("math/bits.deBruijn64tab", laid_math_bits_deBruijn64tab), ("internal/strconv.uint64pow10", laid_internal_strconv_uint64pow10)] }
def RekeyLostSaid : Prop := rekeyLostRow.holds Tryz.pinned (OpenSpec.ofChange rekeyLostSpec)

/-- ITS FALSE NEIGHBOUR: 'it returns false'. Refute it at one input. -/
def rekeyLostWrong : ChangeSpec := { name := "rekeyLost", fn := fun _ => fun
  | [d1, d2] => { results := [.lit (.bool false)], args := [d1, d2] }
  | _ => none }
def RekeyLostWrongFalsely : Prop := rekeyLostRow.holds Tryz.pinned (OpenSpec.ofChange rekeyLostWrong)

/-- 'gemotlaw16.RekeyOrder': WHATEVER THE INPUT: true; the input reads as it did. -/
def rekeyOrderSpec : ChangeSpec := { name := "rekeyOrder", fn := fun _ => fun
  | [d1, d2, d3, d4, d5] => { results := [.lit (.bool true)], args := [d1, d2, d3, d4, d5] }
  | _ => none }
def rekeyOrderRow : OpenClaim := { program := "ytfapphlhkfddoaagreatdoor", sum := "5ca994e375040a23e37f2c20f24b28284ddea271c71088e9ab2f567c1d94f985", func := "gemot/gemotlaw16.RekeyOrder", spec := "rekeyOrder", inPlace := ["internal/abi.NoEscape", "internal/bytealg.MakeNoZero"], unfollowed := true, recurses := true, named := ["internal/strconv.uint64pow10", "math/bits.deBruijn32tab", "math/bits.deBruijn64tab"], apart := false, laid := [("math/bits.deBruijn32tab", laid_math_bits_deBruijn32tab), ("math/bits.deBruijn64tab", laid_math_bits_deBruijn64tab), ("internal/strconv.uint64pow10", laid_internal_strconv_uint64pow10)] }
def RekeyOrderSaid : Prop := rekeyOrderRow.holds Tryz.pinned (OpenSpec.ofChange rekeyOrderSpec)

/-- ITS FALSE NEIGHBOUR: 'it returns false'. Refute it at one input. -/
def rekeyOrderWrong : ChangeSpec := { name := "rekeyOrder", fn := fun _ => fun
  | [d1, d2, d3, d4, d5] => { results := [.lit (.bool false)], args := [d1, d2, d3, d4, d5] }
  | _ => none }
def RekeyOrderWrongFalsely : Prop := rekeyOrderRow.holds Tryz.pinned (OpenSpec.ofChange rekeyOrderWrong)

/-- 'gemotlaw16.RekeySecret': WHATEVER THE INPUT: true; the input reads as it did. -/
def rekeySecretSpec : ChangeSpec := { name := "rekeySecret", fn := fun _ => fun
  | [d1, d2, d3, d4] => { results := [.lit (.bool true)], args := [d1, d2, d3, d4] }
  | _ => none }
def rekeySecretRow : OpenClaim := { program := "ytfapphlhkfddoaagreatdoor", sum := "5ca994e375040a23e37f2c20f24b28284ddea271c71088e9ab2f567c1d94f985", func := "gemot/gemotlaw16.RekeySecret", spec := "rekeySecret", inPlace := ["internal/abi.NoEscape", "internal/bytealg.MakeNoZero"], unfollowed := true, recurses := true, named := ["internal/strconv.uint64pow10", "math/bits.deBruijn32tab", "math/bits.deBruijn64tab"], apart := false, laid := [("math/bits.deBruijn32tab", laid_math_bits_deBruijn32tab), ("math/bits.deBruijn64tab", laid_math_bits_deBruijn64tab), ("internal/strconv.uint64pow10", laid_internal_strconv_uint64pow10)] }
def RekeySecretSaid : Prop := rekeySecretRow.holds Tryz.pinned (OpenSpec.ofChange rekeySecretSpec)

/-- ITS FALSE NEIGHBOUR: 'it returns false'. Refute it at one input. -/
def rekeySecretWrong : ChangeSpec := { name := "rekeySecret", fn := fun _ => fun
  | [d1, d2, d3, d4] => { results := [.lit (.bool false)], args := [d1, d2, d3, d4] }
  | _ => none }
def RekeySecretWrongFalsely : Prop := rekeySecretRow.holds Tryz.pinned (OpenSpec.ofChange rekeySecretWrong)

/-- 'gemotlaw15.BlindMeet': WHATEVER THE INPUT: true; the input reads as it did. -/
def blindMeetSpec : ChangeSpec := { name := "blindMeet", fn := fun _ => fun
  | [d1, d2] => { results := [.lit (.bool true)], args := [d1, d2] }
  | _ => none }
def blindMeetRow : OpenClaim := { program := "ytfapphlhkfddoaagreatdoor", sum := "5ca994e375040a23e37f2c20f24b28284ddea271c71088e9ab2f567c1d94f985", func := "gemot/gemotlaw15.BlindMeet", spec := "blindMeet", inPlace := ["internal/abi.NoEscape", "internal/bytealg.MakeNoZero", "internal/bytealg.abigen_runtime_cmpstring"], unfollowed := true, recurses := true, named := ["internal/strconv.uint64pow10", "math/bits.deBruijn32tab", "math/bits.deBruijn64tab"], apart := false, laid := [("math/bits.deBruijn32tab", laid_math_bits_deBruijn32tab), ("math/bits.deBruijn64tab", laid_math_bits_deBruijn64tab), ("internal/strconv.uint64pow10", laid_internal_strconv_uint64pow10)] }
def BlindMeetSaid : Prop := blindMeetRow.holds Tryz.pinned (OpenSpec.ofChange blindMeetSpec)

/-- ITS FALSE NEIGHBOUR: 'it returns false'. Refute it at one input. -/
def blindMeetWrong : ChangeSpec := { name := "blindMeet", fn := fun _ => fun
  | [d1, d2] => { results := [.lit (.bool false)], args := [d1, d2] }
  | _ => none }
def BlindMeetWrongFalsely : Prop := blindMeetRow.holds Tryz.pinned (OpenSpec.ofChange blindMeetWrong)

/-- 'gemotlaw15.BlindPartly': WHATEVER THE INPUT: true; the input reads as it did. -/
def blindPartlySpec : ChangeSpec := { name := "blindPartly", fn := fun _ => fun
  | [d1, d2, d3] => { results := [.lit (.bool true)], args := [d1, d2, d3] }
  | _ => none }
def blindPartlyRow : OpenClaim := { program := "ytfapphlhkfddoaagreatdoor", sum := "5ca994e375040a23e37f2c20f24b28284ddea271c71088e9ab2f567c1d94f985", func := "gemot/gemotlaw15.BlindPartly", spec := "blindPartly", inPlace := ["internal/abi.NoEscape", "internal/bytealg.MakeNoZero", "internal/bytealg.abigen_runtime_cmpstring"], unfollowed := true, recurses := true, named := ["internal/strconv.uint64pow10", "math/bits.deBruijn32tab", "math/bits.deBruijn64tab"], apart := false, laid := [("math/bits.deBruijn32tab", laid_math_bits_deBruijn32tab), ("math/bits.deBruijn64tab", laid_math_bits_deBruijn64tab), ("internal/strconv.uint64pow10", laid_internal_strconv_uint64pow10)] }
def BlindPartlySaid : Prop := blindPartlyRow.holds Tryz.pinned (OpenSpec.ofChange blindPartlySpec)

/-- ITS FALSE NEIGHBOUR: 'it returns false'. Refute it at one input. -/
def blindPartlyWrong : ChangeSpec := { name := "blindPartly", fn := fun _ => fun
  | [d1, d2, d3] => { results := [.lit (.bool false)], args := [d1, d2, d3] }
  | _ => none }
def BlindPartlyWrongFalsely : Prop := blindPartlyRow.holds Tryz.pinned (OpenSpec.ofChange blindPartlyWrong)

/-- 'gemotlaw15.BlindSecret': WHATEVER THE INPUT: true; the input reads as it did. -/
def blindSecretSpec : ChangeSpec := { name := "blindSecret", fn := fun _ => fun
  | [d1, d2, d3] => { results := [.lit (.bool true)], args := [d1, d2, d3] }
  | _ => none }
def blindSecretRow : OpenClaim := { program := "ytfapphlhkfddoaagreatdoor", sum := "5ca994e375040a23e37f2c20f24b28284ddea271c71088e9ab2f567c1d94f985", func := "gemot/gemotlaw15.BlindSecret", spec := "blindSecret", inPlace := ["internal/abi.NoEscape", "internal/bytealg.MakeNoZero", "internal/bytealg.abigen_runtime_cmpstring"], unfollowed := true, recurses := true, named := ["internal/strconv.uint64pow10", "math/bits.deBruijn32tab", "math/bits.deBruijn64tab"], apart := false, laid := [("math/bits.deBruijn32tab", laid_math_bits_deBruijn32tab), ("math/bits.deBruijn64tab", laid_math_bits_deBruijn64tab), ("internal/strconv.uint64pow10", laid_internal_strconv_uint64pow10)] }
def BlindSecretSaid : Prop := blindSecretRow.holds Tryz.pinned (OpenSpec.ofChange blindSecretSpec)

/-- ITS FALSE NEIGHBOUR: 'it returns false'. Refute it at one input. -/
def blindSecretWrong : ChangeSpec := { name := "blindSecret", fn := fun _ => fun
  | [d1, d2, d3] => { results := [.lit (.bool false)], args := [d1, d2, d3] }
  | _ => none }
def BlindSecretWrongFalsely : Prop := blindSecretRow.holds Tryz.pinned (OpenSpec.ofChange blindSecretWrong)

/- THE SECOND FORM. 'bulk': how many values and letters a reading holds, each counted each time it is reached (what is shared counts as often as it is met; a slice's spare places count too). A statement '..UptoSaid' is the law's where the arguments, and the package variables that the reading takes, are together of bulk at most 1048576: NARROWER than '..Said'. Prove '..Said' where nothing that the law and all that it calls make is longer than what came in: it says more and counts as full. Else prove '..UptoSaid'. A law counts once. -/
mutual
def uptoBulk {H : Type} : DataW H → Nat
  | .lit (.string bytes) => bytes.length + 1
  | .lit _ => 1
  | .nil => 1
  | .ptr d => uptoBulk d + 1
  | .slice elems spare => uptoBulkAll elems + uptoBulkAll spare + 1
  | .agg parts => uptoBulkAll parts + 1
  | .iface _ d => uptoBulk d + 1
  | .map entries => uptoBulkEntries entries + 1
  | .held _ => 1
def uptoBulkAll {H : Type} : List (DataW H) → Nat
  | [] => 0
  | d :: r => uptoBulk d + uptoBulkAll r
def uptoBulkEntries {H : Type} : List (Lit × DataW H) → Nat
  | [] => 0
  | x :: r => uptoBulkEntry x + uptoBulkEntries r
def uptoBulkEntry {H : Type} : Lit × DataW H → Nat
  | (.string bytes, d) => bytes.length + uptoBulk d + 1
  | (_, d) => uptoBulk d + 1
 end
def uptoSmall : (H : Type) → List (DataW H) → Bool := fun _ ds => decide (uptoBulkAll ds ≤ 1048576)
def OpenSpec.upto (s : _root_.Go.ChangeSpec) : _root_.Go.OpenSpec := { _root_.Go.OpenSpec.ofChange s with cond := some uptoSmall }

/-- 'gemotlaw15.BlindApart', WHERE WHAT IT READS IS OF BULK AT MOST 1048576: true; the input reads as it did. -/
def blindApartUptoRow : OpenClaim := { program := "ytfapphlhkfddoaagreatdoor", sum := "5ca994e375040a23e37f2c20f24b28284ddea271c71088e9ab2f567c1d94f985", func := "gemot/gemotlaw15.BlindApart", spec := "blindApart", inPlace := ["internal/abi.NoEscape", "internal/bytealg.MakeNoZero"], unfollowed := true, recurses := true, named := ["internal/strconv.uint64pow10", "math/bits.deBruijn32tab", "math/bits.deBruijn64tab"], apart := false, laid := [("math/bits.deBruijn32tab", laid_math_bits_deBruijn32tab), ("math/bits.deBruijn64tab", laid_math_bits_deBruijn64tab), ("internal/strconv.uint64pow10", laid_internal_strconv_uint64pow10)], narrowed := true }
def BlindApartUptoSaid : Prop := blindApartUptoRow.holds Tryz.pinned (OpenSpec.upto blindApartSpec)

/-- 'gemotlaw16.RekeyMeet', WHERE WHAT IT READS IS OF BULK AT MOST 1048576: true; the input reads as it did. -/
def rekeyMeetUptoRow : OpenClaim := { program := "ytfapphlhkfddoaagreatdoor", sum := "5ca994e375040a23e37f2c20f24b28284ddea271c71088e9ab2f567c1d94f985", func := "gemot/gemotlaw16.RekeyMeet", spec := "rekeyMeet", inPlace := ["internal/abi.NoEscape", "internal/bytealg.MakeNoZero"], unfollowed := true, recurses := true, named := ["internal/strconv.uint64pow10", "math/bits.deBruijn32tab", "math/bits.deBruijn64tab"], apart := false, laid := [("math/bits.deBruijn32tab", laid_math_bits_deBruijn32tab), ("math/bits.deBruijn64tab", laid_math_bits_deBruijn64tab), ("internal/strconv.uint64pow10", laid_internal_strconv_uint64pow10)], narrowed := true }
def RekeyMeetUptoSaid : Prop := rekeyMeetUptoRow.holds Tryz.pinned (OpenSpec.upto rekeyMeetSpec)

/-- 'gemotlaw16.RekeyMany', WHERE WHAT IT READS IS OF BULK AT MOST 1048576: true; the input reads as it did. -/
def rekeyManyUptoRow : OpenClaim := { program := "ytfapphlhkfddoaagreatdoor", sum := "5ca994e375040a23e37f2c20f24b28284ddea271c71088e9ab2f567c1d94f985", func := "gemot/gemotlaw16.RekeyMany", spec := "rekeyMany", inPlace := ["internal/abi.NoEscape", "internal/bytealg.MakeNoZero"], unfollowed := true, recurses := true, named := ["internal/strconv.uint64pow10", "math/bits.deBruijn32tab", "math/bits.deBruijn64tab"], apart := false, laid := [("math/bits.deBruijn32tab", laid_math_bits_deBruijn32tab), ("math/bits.deBruijn64tab", laid_math_bits_deBruijn64tab), ("internal/strconv.uint64pow10", laid_internal_strconv_uint64pow10)], narrowed := true }
def RekeyManyUptoSaid : Prop := rekeyManyUptoRow.holds Tryz.pinned (OpenSpec.upto rekeyManySpec)

/-- 'gemotlaw16.RekeyLost', WHERE WHAT IT READS IS OF BULK AT MOST 1048576: true; the input reads as it did. -/
def rekeyLostUptoRow : OpenClaim := { program := "ytfapphlhkfddoaagreatdoor", sum := "5ca994e375040a23e37f2c20f24b28284ddea271c71088e9ab2f567c1d94f985", func := "gemot/gemotlaw16.RekeyLost", spec := "rekeyLost", inPlace := ["internal/abi.NoEscape", "internal/bytealg.MakeNoZero"], unfollowed := true, recurses := true, named := ["internal/strconv.uint64pow10", "math/bits.deBruijn32tab", "math/bits.deBruijn64tab"], apart := false, laid := [("math/bits.deBruijn32tab", laid_math_bits_deBruijn32tab), ("math/bits.deBruijn64tab", laid_math_bits_deBruijn64tab), ("internal/strconv.uint64pow10", laid_internal_strconv_uint64pow10)], narrowed := true }
def RekeyLostUptoSaid : Prop := rekeyLostUptoRow.holds Tryz.pinned (OpenSpec.upto rekeyLostSpec)

/-- 'gemotlaw16.RekeyOrder', WHERE WHAT IT READS IS OF BULK AT MOST 1048576: true; the input reads as it did. -/
def rekeyOrderUptoRow : OpenClaim := { program := "ytfapphlhkfddoaagreatdoor", sum := "5ca994e375040a23e37f2c20f24b28284ddea271c71088e9ab2f567c1d94f985", func := "gemot/gemotlaw16.RekeyOrder", spec := "rekeyOrder", inPlace := ["internal/abi.NoEscape", "internal/bytealg.MakeNoZero"], unfollowed := true, recurses := true, named := ["internal/strconv.uint64pow10", "math/bits.deBruijn32tab", "math/bits.deBruijn64tab"], apart := false, laid := [("math/bits.deBruijn32tab", laid_math_bits_deBruijn32tab), ("math/bits.deBruijn64tab", laid_math_bits_deBruijn64tab), ("internal/strconv.uint64pow10", laid_internal_strconv_uint64pow10)], narrowed := true }
def RekeyOrderUptoSaid : Prop := rekeyOrderUptoRow.holds Tryz.pinned (OpenSpec.upto rekeyOrderSpec)

/-- 'gemotlaw16.RekeySecret', WHERE WHAT IT READS IS OF BULK AT MOST 1048576: true; the input reads as it did. -/
def rekeySecretUptoRow : OpenClaim := { program := "ytfapphlhkfddoaagreatdoor", sum := "5ca994e375040a23e37f2c20f24b28284ddea271c71088e9ab2f567c1d94f985", func := "gemot/gemotlaw16.RekeySecret", spec := "rekeySecret", inPlace := ["internal/abi.NoEscape", "internal/bytealg.MakeNoZero"], unfollowed := true, recurses := true, named := ["internal/strconv.uint64pow10", "math/bits.deBruijn32tab", "math/bits.deBruijn64tab"], apart := false, laid := [("math/bits.deBruijn32tab", laid_math_bits_deBruijn32tab), ("math/bits.deBruijn64tab", laid_math_bits_deBruijn64tab), ("internal/strconv.uint64pow10", laid_internal_strconv_uint64pow10)], narrowed := true }
def RekeySecretUptoSaid : Prop := rekeySecretUptoRow.holds Tryz.pinned (OpenSpec.upto rekeySecretSpec)

/-- 'gemotlaw15.BlindMeet', WHERE WHAT IT READS IS OF BULK AT MOST 1048576: true; the input reads as it did. -/
def blindMeetUptoRow : OpenClaim := { program := "ytfapphlhkfddoaagreatdoor", sum := "5ca994e375040a23e37f2c20f24b28284ddea271c71088e9ab2f567c1d94f985", func := "gemot/gemotlaw15.BlindMeet", spec := "blindMeet", inPlace := ["internal/abi.NoEscape", "internal/bytealg.MakeNoZero", "internal/bytealg.abigen_runtime_cmpstring"], unfollowed := true, recurses := true, named := ["internal/strconv.uint64pow10", "math/bits.deBruijn32tab", "math/bits.deBruijn64tab"], apart := false, laid := [("math/bits.deBruijn32tab", laid_math_bits_deBruijn32tab), ("math/bits.deBruijn64tab", laid_math_bits_deBruijn64tab), ("internal/strconv.uint64pow10", laid_internal_strconv_uint64pow10)], narrowed := true }
def BlindMeetUptoSaid : Prop := blindMeetUptoRow.holds Tryz.pinned (OpenSpec.upto blindMeetSpec)

/-- 'gemotlaw15.BlindPartly', WHERE WHAT IT READS IS OF BULK AT MOST 1048576: true; the input reads as it did. -/
def blindPartlyUptoRow : OpenClaim := { program := "ytfapphlhkfddoaagreatdoor", sum := "5ca994e375040a23e37f2c20f24b28284ddea271c71088e9ab2f567c1d94f985", func := "gemot/gemotlaw15.BlindPartly", spec := "blindPartly", inPlace := ["internal/abi.NoEscape", "internal/bytealg.MakeNoZero", "internal/bytealg.abigen_runtime_cmpstring"], unfollowed := true, recurses := true, named := ["internal/strconv.uint64pow10", "math/bits.deBruijn32tab", "math/bits.deBruijn64tab"], apart := false, laid := [("math/bits.deBruijn32tab", laid_math_bits_deBruijn32tab), ("math/bits.deBruijn64tab", laid_math_bits_deBruijn64tab), ("internal/strconv.uint64pow10", laid_internal_strconv_uint64pow10)], narrowed := true }
def BlindPartlyUptoSaid : Prop := blindPartlyUptoRow.holds Tryz.pinned (OpenSpec.upto blindPartlySpec)

/-- 'gemotlaw15.BlindSecret', WHERE WHAT IT READS IS OF BULK AT MOST 1048576: true; the input reads as it did. -/
def blindSecretUptoRow : OpenClaim := { program := "ytfapphlhkfddoaagreatdoor", sum := "5ca994e375040a23e37f2c20f24b28284ddea271c71088e9ab2f567c1d94f985", func := "gemot/gemotlaw15.BlindSecret", spec := "blindSecret", inPlace := ["internal/abi.NoEscape", "internal/bytealg.MakeNoZero", "internal/bytealg.abigen_runtime_cmpstring"], unfollowed := true, recurses := true, named := ["internal/strconv.uint64pow10", "math/bits.deBruijn32tab", "math/bits.deBruijn64tab"], apart := false, laid := [("math/bits.deBruijn32tab", laid_math_bits_deBruijn32tab), ("math/bits.deBruijn64tab", laid_math_bits_deBruijn64tab), ("internal/strconv.uint64pow10", laid_internal_strconv_uint64pow10)], narrowed := true }
def BlindSecretUptoSaid : Prop := blindSecretUptoRow.holds Tryz.pinned (OpenSpec.upto blindSecretSpec)

end Rows
end Go.Proofs.YtfapphlhkfddoaaGreatDoor
