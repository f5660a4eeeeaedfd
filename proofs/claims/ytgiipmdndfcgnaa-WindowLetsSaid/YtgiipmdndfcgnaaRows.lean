/-
  No cell of these rows narrows 'for every input' (looked for: loops, veiled, ifaces, maps, wideKeys, modest, calm, conditions, laid).
  DERIVED. THE GIVEN ROWS OF THIS SEAT. 10 by the template 'for every input the law returns true; each argument reads behind the call as it read before'; 0 by the template 'total and deterministic' (their statements: YtgiipmdndfcgnaaTotals.lean).
  GIVEN WITH THE SEED: the statements are not yours to turn. If you find one false, say at which input.
  Laid BY PROGRAM, IN A SANDBOX (cutbox-rows.mjs): the forced cells as the released guide's own fill.sh prints them over the translation 239985a96b041761… (all of the seat's roots in one cut). By AI agents, Wed Nov 11 2026. No macro, syntax, notation, axiom, sorry.
-/
import Derived.Test.YtgiipmdndfcgnaaChecked
import GoSem.Claim
import GoSem.ClaimJoined
import GoSem.ClaimMapViews
import Derived.JoinedTies
import Derived.KernelRfl
namespace Go.Proofs.Ytgiipmdndfcgnaa
/- THE CELL 'sum', in the pinned program and in every row, IS THE sha256 OF THE DUMP (.gsa) THAT YtgiipmdndfcgnaaProg.lean LOADS. Nothing in Lean hashes anything: it is a label: what it is worth is what the hold of that sum in a sandbox is worth. -/
noncomputable def Try.pinned : Pinned := { name := "ytgiipmdndfcgnaa", sum := "239985a96b041761e394ce8d4b55b76eb71595f86e7c99e97ba0fd517cf63860", checked := Try.checked }
namespace Rows
def none {H : Type} : Left H := { results := [], args := [] }

/-- 'gemotlaw6.QueueEither': WHATEVER THE INPUT: true; the input reads as it did. -/
def queueEitherSpec : ChangeSpec := { name := "queueEither", fn := fun _ => fun
  | [d1, d2] => { results := [.lit (.bool true)], args := [d1, d2] }
  | _ => none }
def queueEitherRow : OpenClaim := { program := "ytgiipmdndfcgnaa", sum := "239985a96b041761e394ce8d4b55b76eb71595f86e7c99e97ba0fd517cf63860", func := "gemot/gemotlaw6.QueueEither", spec := "queueEither", apart := false }
def QueueEitherSaid : Prop := queueEitherRow.holds Try.pinned (OpenSpec.ofChange queueEitherSpec)

/-- ITS FALSE NEIGHBOUR: 'it returns false'. Refute it at one input. -/
def queueEitherWrong : ChangeSpec := { name := "queueEither", fn := fun _ => fun
  | [d1, d2] => { results := [.lit (.bool false)], args := [d1, d2] }
  | _ => none }
def QueueEitherWrongFalsely : Prop := queueEitherRow.holds Try.pinned (OpenSpec.ofChange queueEitherWrong)

/-- 'gemotlaw5.WindowLets': WHATEVER THE INPUT: true; the input reads as it did. -/
def windowLetsSpec : ChangeSpec := { name := "windowLets", fn := fun _ => fun
  | [d1, d2] => { results := [.lit (.bool true)], args := [d1, d2] }
  | _ => none }
def windowLetsRow : OpenClaim := { program := "ytgiipmdndfcgnaa", sum := "239985a96b041761e394ce8d4b55b76eb71595f86e7c99e97ba0fd517cf63860", func := "gemot/gemotlaw5.WindowLets", spec := "windowLets", apart := false }
def WindowLetsSaid : Prop := windowLetsRow.holds Try.pinned (OpenSpec.ofChange windowLetsSpec)

/-- ITS FALSE NEIGHBOUR: 'it returns false'. Refute it at one input. -/
def windowLetsWrong : ChangeSpec := { name := "windowLets", fn := fun _ => fun
  | [d1, d2] => { results := [.lit (.bool false)], args := [d1, d2] }
  | _ => none }
def WindowLetsWrongFalsely : Prop := windowLetsRow.holds Try.pinned (OpenSpec.ofChange windowLetsWrong)

/-- 'gemotlaw5.WindowOnce': WHATEVER THE INPUT: true; the input reads as it did. -/
def windowOnceSpec : ChangeSpec := { name := "windowOnce", fn := fun _ => fun
  | [d] => { results := [.lit (.bool true)], args := [d] }
  | _ => none }
def windowOnceRow : OpenClaim := { program := "ytgiipmdndfcgnaa", sum := "239985a96b041761e394ce8d4b55b76eb71595f86e7c99e97ba0fd517cf63860", func := "gemot/gemotlaw5.WindowOnce", spec := "windowOnce", apart := false }
def WindowOnceSaid : Prop := windowOnceRow.holds Try.pinned (OpenSpec.ofChange windowOnceSpec)

/-- ITS FALSE NEIGHBOUR: 'it returns false'. Refute it at one input. -/
def windowOnceWrong : ChangeSpec := { name := "windowOnce", fn := fun _ => fun
  | [d] => { results := [.lit (.bool false)], args := [d] }
  | _ => none }
def WindowOnceWrongFalsely : Prop := windowOnceRow.holds Try.pinned (OpenSpec.ofChange windowOnceWrong)

/-- 'gemotlaw5.WindowShift': WHATEVER THE INPUT: true; the input reads as it did. -/
def windowShiftSpec : ChangeSpec := { name := "windowShift", fn := fun _ => fun
  | [d1, d2] => { results := [.lit (.bool true)], args := [d1, d2] }
  | _ => none }
def windowShiftRow : OpenClaim := { program := "ytgiipmdndfcgnaa", sum := "239985a96b041761e394ce8d4b55b76eb71595f86e7c99e97ba0fd517cf63860", func := "gemot/gemotlaw5.WindowShift", spec := "windowShift", apart := false }
def WindowShiftSaid : Prop := windowShiftRow.holds Try.pinned (OpenSpec.ofChange windowShiftSpec)

/-- ITS FALSE NEIGHBOUR: 'it returns false'. Refute it at one input. -/
def windowShiftWrong : ChangeSpec := { name := "windowShift", fn := fun _ => fun
  | [d1, d2] => { results := [.lit (.bool false)], args := [d1, d2] }
  | _ => none }
def WindowShiftWrongFalsely : Prop := windowShiftRow.holds Try.pinned (OpenSpec.ofChange windowShiftWrong)

/-- 'gemotlaw5.WindowRise': WHATEVER THE INPUT: true; the input reads as it did. -/
def windowRiseSpec : ChangeSpec := { name := "windowRise", fn := fun _ => fun
  | [d1, d2, d3] => { results := [.lit (.bool true)], args := [d1, d2, d3] }
  | _ => none }
def windowRiseRow : OpenClaim := { program := "ytgiipmdndfcgnaa", sum := "239985a96b041761e394ce8d4b55b76eb71595f86e7c99e97ba0fd517cf63860", func := "gemot/gemotlaw5.WindowRise", spec := "windowRise", apart := false }
def WindowRiseSaid : Prop := windowRiseRow.holds Try.pinned (OpenSpec.ofChange windowRiseSpec)

/-- ITS FALSE NEIGHBOUR: 'it returns false'. Refute it at one input. -/
def windowRiseWrong : ChangeSpec := { name := "windowRise", fn := fun _ => fun
  | [d1, d2, d3] => { results := [.lit (.bool false)], args := [d1, d2, d3] }
  | _ => none }
def WindowRiseWrongFalsely : Prop := windowRiseRow.holds Try.pinned (OpenSpec.ofChange windowRiseWrong)

/-- 'gemotlaw5.WindowAfter': WHATEVER THE INPUT: true; the input reads as it did. -/
def windowAfterSpec : ChangeSpec := { name := "windowAfter", fn := fun _ => fun
  | [d1, d2] => { results := [.lit (.bool true)], args := [d1, d2] }
  | _ => none }
def windowAfterRow : OpenClaim := { program := "ytgiipmdndfcgnaa", sum := "239985a96b041761e394ce8d4b55b76eb71595f86e7c99e97ba0fd517cf63860", func := "gemot/gemotlaw5.WindowAfter", spec := "windowAfter", apart := false }
def WindowAfterSaid : Prop := windowAfterRow.holds Try.pinned (OpenSpec.ofChange windowAfterSpec)

/-- ITS FALSE NEIGHBOUR: 'it returns false'. Refute it at one input. -/
def windowAfterWrong : ChangeSpec := { name := "windowAfter", fn := fun _ => fun
  | [d1, d2] => { results := [.lit (.bool false)], args := [d1, d2] }
  | _ => none }
def WindowAfterWrongFalsely : Prop := windowAfterRow.holds Try.pinned (OpenSpec.ofChange windowAfterWrong)

/-- 'gemotlaw5.WindowTurned': WHATEVER THE INPUT: true; the input reads as it did. -/
def windowTurnedSpec : ChangeSpec := { name := "windowTurned", fn := fun _ => fun
  | [d1, d2, d3] => { results := [.lit (.bool true)], args := [d1, d2, d3] }
  | _ => none }
def windowTurnedRow : OpenClaim := { program := "ytgiipmdndfcgnaa", sum := "239985a96b041761e394ce8d4b55b76eb71595f86e7c99e97ba0fd517cf63860", func := "gemot/gemotlaw5.WindowTurned", spec := "windowTurned", apart := false }
def WindowTurnedSaid : Prop := windowTurnedRow.holds Try.pinned (OpenSpec.ofChange windowTurnedSpec)

/-- ITS FALSE NEIGHBOUR: 'it returns false'. Refute it at one input. -/
def windowTurnedWrong : ChangeSpec := { name := "windowTurned", fn := fun _ => fun
  | [d1, d2, d3] => { results := [.lit (.bool false)], args := [d1, d2, d3] }
  | _ => none }
def WindowTurnedWrongFalsely : Prop := windowTurnedRow.holds Try.pinned (OpenSpec.ofChange windowTurnedWrong)

/-- 'gemotlaw6.QueueOrder': WHATEVER THE INPUT: true; the input reads as it did. -/
def queueOrderSpec : ChangeSpec := { name := "queueOrder", fn := fun _ => fun
  | [d1, d2] => { results := [.lit (.bool true)], args := [d1, d2] }
  | _ => none }
def queueOrderRow : OpenClaim := { program := "ytgiipmdndfcgnaa", sum := "239985a96b041761e394ce8d4b55b76eb71595f86e7c99e97ba0fd517cf63860", func := "gemot/gemotlaw6.QueueOrder", spec := "queueOrder", apart := false }
def QueueOrderSaid : Prop := queueOrderRow.holds Try.pinned (OpenSpec.ofChange queueOrderSpec)

/-- ITS FALSE NEIGHBOUR: 'it returns false'. Refute it at one input. -/
def queueOrderWrong : ChangeSpec := { name := "queueOrder", fn := fun _ => fun
  | [d1, d2] => { results := [.lit (.bool false)], args := [d1, d2] }
  | _ => none }
def QueueOrderWrongFalsely : Prop := queueOrderRow.holds Try.pinned (OpenSpec.ofChange queueOrderWrong)

/-- 'gemotlaw6.QueuePlays': WHATEVER THE INPUT: true; the input reads as it did. -/
def queuePlaysSpec : ChangeSpec := { name := "queuePlays", fn := fun _ => fun
  | [d1, d2, d3] => { results := [.lit (.bool true)], args := [d1, d2, d3] }
  | _ => none }
def queuePlaysRow : OpenClaim := { program := "ytgiipmdndfcgnaa", sum := "239985a96b041761e394ce8d4b55b76eb71595f86e7c99e97ba0fd517cf63860", func := "gemot/gemotlaw6.QueuePlays", spec := "queuePlays", apart := false }
def QueuePlaysSaid : Prop := queuePlaysRow.holds Try.pinned (OpenSpec.ofChange queuePlaysSpec)

/-- ITS FALSE NEIGHBOUR: 'it returns false'. Refute it at one input. -/
def queuePlaysWrong : ChangeSpec := { name := "queuePlays", fn := fun _ => fun
  | [d1, d2, d3] => { results := [.lit (.bool false)], args := [d1, d2, d3] }
  | _ => none }
def QueuePlaysWrongFalsely : Prop := queuePlaysRow.holds Try.pinned (OpenSpec.ofChange queuePlaysWrong)

/-- 'gemotlaw6.QueueRooms': WHATEVER THE INPUT: true; the input reads as it did. -/
def queueRoomsSpec : ChangeSpec := { name := "queueRooms", fn := fun _ => fun
  | [d1, d2] => { results := [.lit (.bool true)], args := [d1, d2] }
  | _ => none }
def queueRoomsRow : OpenClaim := { program := "ytgiipmdndfcgnaa", sum := "239985a96b041761e394ce8d4b55b76eb71595f86e7c99e97ba0fd517cf63860", func := "gemot/gemotlaw6.QueueRooms", spec := "queueRooms", apart := false }
def QueueRoomsSaid : Prop := queueRoomsRow.holds Try.pinned (OpenSpec.ofChange queueRoomsSpec)

/-- ITS FALSE NEIGHBOUR: 'it returns false'. Refute it at one input. -/
def queueRoomsWrong : ChangeSpec := { name := "queueRooms", fn := fun _ => fun
  | [d1, d2] => { results := [.lit (.bool false)], args := [d1, d2] }
  | _ => none }
def QueueRoomsWrongFalsely : Prop := queueRoomsRow.holds Try.pinned (OpenSpec.ofChange queueRoomsWrong)

/- THE SECOND FORM. 'bulk': how many values and letters a reading holds, each counted each time it is reached (what is shared counts as often as it is met; a slice's spare places count too). A statement '..UptoSaid' is the law's where the arguments, and the package variables that the reading takes, are together of bulk at most 1048576: NARROWER than '..Said'. Prove '..Said' where nothing that the law and all that it calls make is longer than what came in: it says more and counts as full. Else prove '..UptoSaid'. A law counts once. -/
mutual
def uptoBulk {H : Type} : DataW H → Nat
  | .lit (.string bytes) => bytes.length + 1
  | .lit _ => 1
  | .nil => 1
  | .ptr d => uptoBulk d + 1
  | .slice elems spare => uptoBulkAll elems + uptoBulkAll spare + 1
  | .agg parts => uptoBulkAll parts + 1
  | .iface _ d => uptoBulk d + 1
  | .map entries => uptoBulkEntries entries + 1
  | .held _ => 1
def uptoBulkAll {H : Type} : List (DataW H) → Nat
  | [] => 0
  | d :: r => uptoBulk d + uptoBulkAll r
def uptoBulkEntries {H : Type} : List (Lit × DataW H) → Nat
  | [] => 0
  | x :: r => uptoBulkEntry x + uptoBulkEntries r
def uptoBulkEntry {H : Type} : Lit × DataW H → Nat
  | (.string bytes, d) => bytes.length + uptoBulk d + 1
  | (_, d) => uptoBulk d + 1
 end
def uptoSmall : (H : Type) → List (DataW H) → Bool := fun _ ds => decide (uptoBulkAll ds ≤ 1048576)
def OpenSpec.upto (s : _root_.Go.ChangeSpec) : _root_.Go.OpenSpec := { _root_.Go.OpenSpec.ofChange s with cond := some uptoSmall }

/-- 'gemotlaw6.QueueEither', WHERE WHAT IT READS IS OF BULK AT MOST 1048576: true; the input reads as it did. -/
def queueEitherUptoRow : OpenClaim := { program := "ytgiipmdndfcgnaa", sum := "239985a96b041761e394ce8d4b55b76eb71595f86e7c99e97ba0fd517cf63860", func := "gemot/gemotlaw6.QueueEither", spec := "queueEither", apart := false, narrowed := true }
def QueueEitherUptoSaid : Prop := queueEitherUptoRow.holds Try.pinned (OpenSpec.upto queueEitherSpec)

/-- 'gemotlaw5.WindowLets', WHERE WHAT IT READS IS OF BULK AT MOST 1048576: true; the input reads as it did. -/
def windowLetsUptoRow : OpenClaim := { program := "ytgiipmdndfcgnaa", sum := "239985a96b041761e394ce8d4b55b76eb71595f86e7c99e97ba0fd517cf63860", func := "gemot/gemotlaw5.WindowLets", spec := "windowLets", apart := false, narrowed := true }
def WindowLetsUptoSaid : Prop := windowLetsUptoRow.holds Try.pinned (OpenSpec.upto windowLetsSpec)

/-- 'gemotlaw5.WindowOnce', WHERE WHAT IT READS IS OF BULK AT MOST 1048576: true; the input reads as it did. -/
def windowOnceUptoRow : OpenClaim := { program := "ytgiipmdndfcgnaa", sum := "239985a96b041761e394ce8d4b55b76eb71595f86e7c99e97ba0fd517cf63860", func := "gemot/gemotlaw5.WindowOnce", spec := "windowOnce", apart := false, narrowed := true }
def WindowOnceUptoSaid : Prop := windowOnceUptoRow.holds Try.pinned (OpenSpec.upto windowOnceSpec)

/-- 'gemotlaw5.WindowShift', WHERE WHAT IT READS IS OF BULK AT MOST 1048576: true; the input reads as it did. -/
def windowShiftUptoRow : OpenClaim := { program := "ytgiipmdndfcgnaa", sum := "239985a96b041761e394ce8d4b55b76eb71595f86e7c99e97ba0fd517cf63860", func := "gemot/gemotlaw5.WindowShift", spec := "windowShift", apart := false, narrowed := true }
def WindowShiftUptoSaid : Prop := windowShiftUptoRow.holds Try.pinned (OpenSpec.upto windowShiftSpec)

/-- 'gemotlaw5.WindowRise', WHERE WHAT IT READS IS OF BULK AT MOST 1048576: true; the input reads as it did. -/
def windowRiseUptoRow : OpenClaim := { program := "ytgiipmdndfcgnaa", sum := "239985a96b041761e394ce8d4b55b76eb71595f86e7c99e97ba0fd517cf63860", func := "gemot/gemotlaw5.WindowRise", spec := "windowRise", apart := false, narrowed := true }
def WindowRiseUptoSaid : Prop := windowRiseUptoRow.holds Try.pinned (OpenSpec.upto windowRiseSpec)

/-- 'gemotlaw5.WindowAfter', WHERE WHAT IT READS IS OF BULK AT MOST 1048576: true; the input reads as it did. -/
def windowAfterUptoRow : OpenClaim := { program := "ytgiipmdndfcgnaa", sum := "239985a96b041761e394ce8d4b55b76eb71595f86e7c99e97ba0fd517cf63860", func := "gemot/gemotlaw5.WindowAfter", spec := "windowAfter", apart := false, narrowed := true }
def WindowAfterUptoSaid : Prop := windowAfterUptoRow.holds Try.pinned (OpenSpec.upto windowAfterSpec)

/-- 'gemotlaw5.WindowTurned', WHERE WHAT IT READS IS OF BULK AT MOST 1048576: true; the input reads as it did. -/
def windowTurnedUptoRow : OpenClaim := { program := "ytgiipmdndfcgnaa", sum := "239985a96b041761e394ce8d4b55b76eb71595f86e7c99e97ba0fd517cf63860", func := "gemot/gemotlaw5.WindowTurned", spec := "windowTurned", apart := false, narrowed := true }
def WindowTurnedUptoSaid : Prop := windowTurnedUptoRow.holds Try.pinned (OpenSpec.upto windowTurnedSpec)

/-- 'gemotlaw6.QueueOrder', WHERE WHAT IT READS IS OF BULK AT MOST 1048576: true; the input reads as it did. -/
def queueOrderUptoRow : OpenClaim := { program := "ytgiipmdndfcgnaa", sum := "239985a96b041761e394ce8d4b55b76eb71595f86e7c99e97ba0fd517cf63860", func := "gemot/gemotlaw6.QueueOrder", spec := "queueOrder", apart := false, narrowed := true }
def QueueOrderUptoSaid : Prop := queueOrderUptoRow.holds Try.pinned (OpenSpec.upto queueOrderSpec)

/-- 'gemotlaw6.QueuePlays', WHERE WHAT IT READS IS OF BULK AT MOST 1048576: true; the input reads as it did. -/
def queuePlaysUptoRow : OpenClaim := { program := "ytgiipmdndfcgnaa", sum := "239985a96b041761e394ce8d4b55b76eb71595f86e7c99e97ba0fd517cf63860", func := "gemot/gemotlaw6.QueuePlays", spec := "queuePlays", apart := false, narrowed := true }
def QueuePlaysUptoSaid : Prop := queuePlaysUptoRow.holds Try.pinned (OpenSpec.upto queuePlaysSpec)

/-- 'gemotlaw6.QueueRooms', WHERE WHAT IT READS IS OF BULK AT MOST 1048576: true; the input reads as it did. -/
def queueRoomsUptoRow : OpenClaim := { program := "ytgiipmdndfcgnaa", sum := "239985a96b041761e394ce8d4b55b76eb71595f86e7c99e97ba0fd517cf63860", func := "gemot/gemotlaw6.QueueRooms", spec := "queueRooms", apart := false, narrowed := true }
def QueueRoomsUptoSaid : Prop := queueRoomsUptoRow.holds Try.pinned (OpenSpec.upto queueRoomsSpec)

end Rows
end Go.Proofs.Ytgiipmdndfcgnaa
