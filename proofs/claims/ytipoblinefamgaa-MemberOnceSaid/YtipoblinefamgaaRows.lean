/-
  No cell of these rows narrows 'for every input' (looked for: loops, veiled, ifaces, maps, wideKeys, modest, calm, conditions, laid).
  DERIVED. THE GIVEN ROWS OF THIS SEAT. 3 by the template 'for every input the law returns true; each argument reads behind the call as it read before'; 0 by the template 'total and deterministic' (their statements: YtipoblinefamgaaTotals.lean).
  GIVEN WITH THE SEED: the statements are not yours to turn. If you find one false, say at which input.
  Laid BY PROGRAM, IN A SANDBOX (cutbox-rows.mjs): the forced cells as the released guide's own fill.sh prints them over the translation ecf74b3332002060… (all of the seat's roots in one cut). By AI agents, Wed Nov 11 2026. No macro, syntax, notation, axiom, sorry.
-/
import Derived.Test.YtipoblinefamgaaChecked
import GoSem.Claim
import GoSem.ClaimJoined
import GoSem.ClaimMapViews
import Derived.JoinedTies
import Derived.KernelRfl
namespace Go.Proofs.Ytipoblinefamgaa
/- THE CELL 'sum', in the pinned program and in every row, IS THE sha256 OF THE DUMP (.gsa) THAT YtipoblinefamgaaProg.lean LOADS. Nothing in Lean hashes anything: it is a label: what it is worth is what the hold of that sum in a sandbox is worth. -/
noncomputable def Try.pinned : Pinned := { name := "ytipoblinefamgaa", sum := "ecf74b3332002060c4d83686256c5c6fd91b89a649c17141d746795754435ffd", checked := Try.checked }
namespace Rows
def none {H : Type} : Left H := { results := [], args := [] }

/-- 'gemotlaw12.MemberAsks': WHATEVER THE INPUT: true; the input reads as it did. -/
def memberAsksSpec : ChangeSpec := { name := "memberAsks", fn := fun _ => fun
  | [d1, d2, d3] => { results := [.lit (.bool true)], args := [d1, d2, d3] }
  | _ => none }
def memberAsksRow : OpenClaim := { program := "ytipoblinefamgaa", sum := "ecf74b3332002060c4d83686256c5c6fd91b89a649c17141d746795754435ffd", func := "gemot/gemotlaw12.MemberAsks", spec := "memberAsks", unfollowed := true, recurses := true, plainKeys := false, apart := false }
def MemberAsksSaid : Prop := memberAsksRow.holds Try.pinned (OpenSpec.ofChange memberAsksSpec)

/-- ITS FALSE NEIGHBOUR: 'it returns false'. Refute it at one input. -/
def memberAsksWrong : ChangeSpec := { name := "memberAsks", fn := fun _ => fun
  | [d1, d2, d3] => { results := [.lit (.bool false)], args := [d1, d2, d3] }
  | _ => none }
def MemberAsksWrongFalsely : Prop := memberAsksRow.holds Try.pinned (OpenSpec.ofChange memberAsksWrong)

/-- 'gemotlaw12.MemberFlush': WHATEVER THE INPUT: true; the input reads as it did. -/
def memberFlushSpec : ChangeSpec := { name := "memberFlush", fn := fun _ => fun
  | [d1, d2] => { results := [.lit (.bool true)], args := [d1, d2] }
  | _ => none }
def memberFlushRow : OpenClaim := { program := "ytipoblinefamgaa", sum := "ecf74b3332002060c4d83686256c5c6fd91b89a649c17141d746795754435ffd", func := "gemot/gemotlaw12.MemberFlush", spec := "memberFlush", unfollowed := true, recurses := true, plainKeys := false, apart := false }
def MemberFlushSaid : Prop := memberFlushRow.holds Try.pinned (OpenSpec.ofChange memberFlushSpec)

/-- ITS FALSE NEIGHBOUR: 'it returns false'. Refute it at one input. -/
def memberFlushWrong : ChangeSpec := { name := "memberFlush", fn := fun _ => fun
  | [d1, d2] => { results := [.lit (.bool false)], args := [d1, d2] }
  | _ => none }
def MemberFlushWrongFalsely : Prop := memberFlushRow.holds Try.pinned (OpenSpec.ofChange memberFlushWrong)

/-- 'gemotlaw12.MemberOnce': WHATEVER THE INPUT: true; the input reads as it did. -/
def memberOnceSpec : ChangeSpec := { name := "memberOnce", fn := fun _ => fun
  | [d1, d2, d3] => { results := [.lit (.bool true)], args := [d1, d2, d3] }
  | _ => none }
def memberOnceRow : OpenClaim := { program := "ytipoblinefamgaa", sum := "ecf74b3332002060c4d83686256c5c6fd91b89a649c17141d746795754435ffd", func := "gemot/gemotlaw12.MemberOnce", spec := "memberOnce", unfollowed := true, recurses := true, plainKeys := false, apart := false }
def MemberOnceSaid : Prop := memberOnceRow.holds Try.pinned (OpenSpec.ofChange memberOnceSpec)

/-- ITS FALSE NEIGHBOUR: 'it returns false'. Refute it at one input. -/
def memberOnceWrong : ChangeSpec := { name := "memberOnce", fn := fun _ => fun
  | [d1, d2, d3] => { results := [.lit (.bool false)], args := [d1, d2, d3] }
  | _ => none }
def MemberOnceWrongFalsely : Prop := memberOnceRow.holds Try.pinned (OpenSpec.ofChange memberOnceWrong)

/- THE SECOND FORM. 'bulk': how many values and letters a reading holds, each counted each time it is reached (what is shared counts as often as it is met; a slice's spare places count too). A statement '..UptoSaid' is the law's where the arguments, and the package variables that the reading takes, are together of bulk at most 1048576: NARROWER than '..Said'. Prove '..Said' where nothing that the law and all that it calls make is longer than what came in: it says more and counts as full. Else prove '..UptoSaid'. A law counts once. -/
mutual
def uptoBulk {H : Type} : DataW H → Nat
  | .lit (.string bytes) => bytes.length + 1
  | .lit _ => 1
  | .nil => 1
  | .ptr d => uptoBulk d + 1
  | .slice elems spare => uptoBulkAll elems + uptoBulkAll spare + 1
  | .agg parts => uptoBulkAll parts + 1
  | .iface _ d => uptoBulk d + 1
  | .map entries => uptoBulkEntries entries + 1
  | .held _ => 1
def uptoBulkAll {H : Type} : List (DataW H) → Nat
  | [] => 0
  | d :: r => uptoBulk d + uptoBulkAll r
def uptoBulkEntries {H : Type} : List (Lit × DataW H) → Nat
  | [] => 0
  | x :: r => uptoBulkEntry x + uptoBulkEntries r
def uptoBulkEntry {H : Type} : Lit × DataW H → Nat
  | (.string bytes, d) => bytes.length + uptoBulk d + 1
  | (_, d) => uptoBulk d + 1
 end
def uptoSmall : (H : Type) → List (DataW H) → Bool := fun _ ds => decide (uptoBulkAll ds ≤ 1048576)
def OpenSpec.upto (s : _root_.Go.ChangeSpec) : _root_.Go.OpenSpec := { _root_.Go.OpenSpec.ofChange s with cond := some uptoSmall }

/-- 'gemotlaw12.MemberAsks', WHERE WHAT IT READS IS OF BULK AT MOST 1048576: true; the input reads as it did. -/
def memberAsksUptoRow : OpenClaim := { program := "ytipoblinefamgaa", sum := "ecf74b3332002060c4d83686256c5c6fd91b89a649c17141d746795754435ffd", func := "gemot/gemotlaw12.MemberAsks", spec := "memberAsks", unfollowed := true, recurses := true, plainKeys := false, apart := false, narrowed := true }
def MemberAsksUptoSaid : Prop := memberAsksUptoRow.holds Try.pinned (OpenSpec.upto memberAsksSpec)

/-- 'gemotlaw12.MemberFlush', WHERE WHAT IT READS IS OF BULK AT MOST 1048576: true; the input reads as it did. -/
def memberFlushUptoRow : OpenClaim := { program := "ytipoblinefamgaa", sum := "ecf74b3332002060c4d83686256c5c6fd91b89a649c17141d746795754435ffd", func := "gemot/gemotlaw12.MemberFlush", spec := "memberFlush", unfollowed := true, recurses := true, plainKeys := false, apart := false, narrowed := true }
def MemberFlushUptoSaid : Prop := memberFlushUptoRow.holds Try.pinned (OpenSpec.upto memberFlushSpec)

/-- 'gemotlaw12.MemberOnce', WHERE WHAT IT READS IS OF BULK AT MOST 1048576: true; the input reads as it did. -/
def memberOnceUptoRow : OpenClaim := { program := "ytipoblinefamgaa", sum := "ecf74b3332002060c4d83686256c5c6fd91b89a649c17141d746795754435ffd", func := "gemot/gemotlaw12.MemberOnce", spec := "memberOnce", unfollowed := true, recurses := true, plainKeys := false, apart := false, narrowed := true }
def MemberOnceUptoSaid : Prop := memberOnceUptoRow.holds Try.pinned (OpenSpec.upto memberOnceSpec)

end Rows
end Go.Proofs.Ytipoblinefamgaa
