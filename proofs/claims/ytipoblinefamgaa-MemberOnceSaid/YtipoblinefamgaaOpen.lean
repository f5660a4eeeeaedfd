/- What comes in, opened as the engine's kinds: whole numbers, bools, texts, structs, lists of such. Proved once, over any program. -/
import Derived.Test.YtipoblinefamgaaMore
import Derived.ChangeArms
import Derived.RowKit
import Derived.OpenShut
set_option linter.unusedVariables false
namespace Go.Eng
open Go.RowKit Go.ChangeShapes Go.WideShapes
set_option linter.unusedSectionVars false
variable [Inhabited Keep] [Inhabited Hard]

section
variable {P : Program} {t : TypeId}
theorem wf_i64 {n : Int} (h : (Lit.int .i64 n).wf = true) : -9223372036854775808 ≤ n ∧ n ≤ 9223372036854775807 := by
  simp only [Lit.wf, Bool.and_eq_true, decide_eq_true_eq] at h
  exact h
end
end Go.Eng
