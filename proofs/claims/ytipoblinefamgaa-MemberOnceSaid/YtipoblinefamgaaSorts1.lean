/- A row of the call's own, of things of one cell, is sorted: out of whatever contract the sort has. -/
import Derived.Test.YtipoblinefamgaaSorts
set_option linter.unusedVariables false
set_option linter.unusedSectionVars false
namespace Go.Eng
open Go.RowKit Go.Sort Go.Proofs
set_option linter.unusedSectionVars false
variable [Inhabited Keep] [Inhabited Hard]
variable {α : Type} [Inhabited α] {enc : α → Value} {P : Program} {f : FuncId} {ok : Nat → Prop} {w0 w : World} {A B : List Item}

end Go.Eng
