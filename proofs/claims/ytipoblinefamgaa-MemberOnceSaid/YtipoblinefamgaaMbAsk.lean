/- MemberAsks, as it is reckoned. -/
import Derived.Test.YtipoblinefamgaaMbK
namespace Go.Proofs.Ytipoblinefamgaa.G
open Go.RowKit Go.Eng Go.Proofs Go.Proofs.Ytipoblinefamgaa.Cut
set_option linter.unusedVariables false
set_option linter.unusedSimpArgs false
set_option linter.unnecessarySimpa false

def inI64 (x : Int) : Prop := -9223372036854775808 ≤ x ∧ x ≤ 9223372036854775807
set_option maxRecDepth 100000 in
theorem shown12 : gemotlaw12_shown.f = some true := by kernel_rfl
theorem pick12 {x n : Int} (hx : inI64 x) (hn : 0 < n) : ∃ y, gemotlaw12_pick.f x n = some y ∧ 0 ≤ y ∧ y < n := by
  have key : ∀ v : Int, 0 ≤ v → ∃ y, gemotlaw12_pick.k1 n v = some y ∧ 0 ≤ y ∧ y < n := fun v hv => by
    unfold gemotlaw12_pick.k1 remM
    rw [if_neg (by omega)]
    refine ⟨v.tmod n, rfl, ?_, ?_⟩
    · exact Int.tmod_nonneg _ hv
    · exact Int.tmod_lt_of_pos _ hn
  obtain ⟨h1, h2⟩ := hx
  unfold gemotlaw12_pick.f
  by_cases h : x < 0
  · have e : IntKind.i64.wrap (0 - IntKind.i64.wrap (x + 1)) = -(x + 1) := by
      rw [Eng.i64_id (x := x + 1) (by omega) (by omega), Eng.i64_id (by omega) (by omega)]; omega
    rw [decide_eq_true h, cond_true, e]
    exact key _ (by omega)
  · rw [decide_eq_false h, cond_false]
    exact key _ (by omega)
/-- A node that begins. -/
abbrev node0 (p : Int) : O_member_Node := { me_ := p, view_ := ((0, p), [p]), rows_ := [], promised_ := ((0, p), [p]), seen_ := (0, p), plan_ := none, early_ := [], outs_ := [], events_ := [] }
theorem new12 {p : Int} (h : 1 ≤ p ∧ p ≤ 8) : member_New.f p = some (some (node0 p), 0) := by
  unfold member_New.f
  rw [decide_eq_false (by omega), decide_eq_false (by omega)]
  rfl
end Go.Proofs.Ytipoblinefamgaa.G
