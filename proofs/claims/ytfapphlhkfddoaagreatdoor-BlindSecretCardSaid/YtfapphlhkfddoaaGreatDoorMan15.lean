/- Contracts of term's functions that were walked by hand, in the printed texts' words. -/
import Derived.Test.YtfapphlhkfddoaaGreatDoorCount
import Derived.Test.YtfapphlhkfddoaaGreatDoorGTypes
namespace Go.Proofs.YtfapphlhkfddoaaGreatDoor.G
open Go.RowKit Go.Eng Go.Proofs Go.Proofs.YtfapphlhkfddoaaGreatDoor.Cut
set_option linter.unusedVariables false
variable {ok : Nat → Prop} {w : World}

def term_Number.f (x0 : Int) : Option (List UInt8) := some (countedT 117 x0)
theorem term_Number_ok {x0 : Int} {r : List UInt8} (h : term_Number.f x0 = some r) : Calls Tryz.prog 99 #[.int .u64 x0] w fun e w' => ∃ v, e = .returned v ∧ (v = .string (bs r) ∧ Bel w.heap.size w w') := by
  cases h
  exact number_calls _ w
def term_Name.f (x0 : Int) : Option (List UInt8) := some (countedT 110 x0)
theorem term_Name_ok {x0 : Int} {r : List UInt8} (h : term_Name.f x0 = some r) : Calls Tryz.prog 26 #[.int .u64 x0] w fun e w' => ∃ v, e = .returned v ∧ (v = .string (bs r) ∧ Bel w.heap.size w w') := by
  cases h
  exact name_calls _ w
end Go.Proofs.YtfapphlhkfddoaaGreatDoor.G
