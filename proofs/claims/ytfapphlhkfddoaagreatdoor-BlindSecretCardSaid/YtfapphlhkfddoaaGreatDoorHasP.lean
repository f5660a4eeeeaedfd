/- Is a number among some? (By the program.) -/
import Derived.Test.YtfapphlhkfddoaaGreatDoorH1
import Derived.Test.YtfapphlhkfddoaaGreatDoorPureKit
namespace Go.Proofs.YtfapphlhkfddoaaGreatDoor.G
open Go.RowKit Go.Eng Go.Proofs Go.Proofs.YtfapphlhkfddoaaGreatDoor.Cut
set_option linter.unusedVariables false
set_option linter.unusedSimpArgs false
theorem index_has (xs : List Int) (p : Int) (hl : xs.length ≤ 1000000000) : ∃ q, slices_Index_int_int.f xs p = some q ∧ (q ≥ 0 ↔ p ∈ xs) := by
  have go : ∀ k i, i + k = xs.length → ∃ r, loopM (fun s91 : Int => slices_Index_int_int.b1 xs p s91) (i : Int) = some r ∧ ((∃ j : Nat, r = Sum.inr (j : Int)) ∧ p ∈ xs.drop i ∨ r = Sum.inl () ∧ p ∉ xs.drop i) := by
    intro k
    induction k with
    | zero =>
      intro i hi
      refine ⟨.inl (), ?_, .inr ⟨rfl, by rw [List.drop_of_length_le (by omega)]; simp⟩⟩
      refine loop_end ?_
      show slices_Index_int_int.b1 xs p (i : Int) = _
      unfold slices_Index_int_int.b1
      rw [cond_f (by omega)]
    | succ k ih =>
      intro i hi
      have hil : i < xs.length := by omega
      rw [List.drop_eq_getElem_cons hil]
      by_cases he : p = xs[i]
      · refine ⟨.inr (i : Int), ?_, .inl ⟨⟨i, rfl⟩, by rw [← he]; exact List.mem_cons_self⟩⟩
        refine loop_end ?_
        show slices_Index_int_int.b1 xs p (i : Int) = _
        unfold slices_Index_int_int.b1
        rw [cond_t (by omega), idxL_lt hil, Option.bind_some, show (p == xs[i]) = true from beq_iff_eq.2 he, cond_true]
      · obtain ⟨r, h1, h2⟩ := ih (i + 1) (by omega)
        refine ⟨r, loop_step ?_ h1, ?_⟩
        · show slices_Index_int_int.b1 xs p (i : Int) = _
          unfold slices_Index_int_int.b1
          rw [cond_t (by omega), idxL_lt hil, Option.bind_some, show (p == xs[i]) = false from beq_eq_false_iff_ne.2 he, cond_false, wrap1 i (by omega)]
        · rcases h2 with ⟨h3, h4⟩ | ⟨h3, h4⟩
          · exact .inl ⟨h3, List.mem_cons_of_mem _ h4⟩
          · refine .inr ⟨h3, fun q => ?_⟩
            rcases List.mem_cons.1 q with q | q
            · exact he q
            · exact h4 q
  obtain ⟨r, h1, h2⟩ := go xs.length 0 (by omega)
  rw [List.drop_zero] at h2
  unfold slices_Index_int_int.f
  rw [show loopM (fun s91 : Int => slices_Index_int_int.b1 xs p s91) (0 : Int) = _ from h1]
  rcases h2 with ⟨⟨j, rfl⟩, h⟩ | ⟨rfl, h⟩
  · exact ⟨(j : Int), rfl, by constructor <;> intro _ <;> first | exact h | omega⟩
  · exact ⟨-1, rfl, by constructor <;> intro q <;> first | (exfalso; exact h q) | (exfalso; omega)⟩
theorem hasP_eq (xs : List Int) (p : Int) (hl : xs.length ≤ 1000000000) : view_Has.f xs p = some (decide (p ∈ xs)) := by
  obtain ⟨q, h1, h2⟩ := index_has xs p hl
  unfold view_Has.f slices_Contains_int_int.f
  rw [h1, Option.bind_some, Option.bind_some]
  exact congrArg some (by rw [Bool.eq_iff_iff, decide_eq_true_iff, decide_eq_true_iff]; exact h2)
end Go.Proofs.YtfapphlhkfddoaaGreatDoor.G
