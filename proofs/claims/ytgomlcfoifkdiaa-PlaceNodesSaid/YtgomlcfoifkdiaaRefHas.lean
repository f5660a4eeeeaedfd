/- Is a number among some? (By the reference.) -/
import Derived.Test.YtgomlcfoifkdiaaTermPure
import Derived.Test.YtgomlcfoifkdiaaHN
namespace Go.Proofs.Ytgomlcfoifkdiaa.G
open Go.RowKit Go.Eng Go.Proofs Go.Proofs.Ytgomlcfoifkdiaa.Cut
set_option linter.unusedVariables false
set_option linter.unusedSimpArgs false
theorem rhas_eq (xs : List Int) (p : Int) (hl : xs.length ≤ 1000000000) : gemotref10_Has.f xs p = some (decide (p ∈ xs)) := by
  have go : ∀ k i, i + k = xs.length → loopM (fun s91 : Int => gemotref10_Has.b1 xs p s91) (i : Int) = some (if p ∈ xs.drop i then .inr true else .inl ()) := by
    intro k
    induction k with
    | zero =>
      intro i hi
      refine loop_end ?_
      show gemotref10_Has.b1 xs p (i : Int) = _
      unfold gemotref10_Has.b1
      rw [cond_f (by omega), List.drop_of_length_le (by omega), if_neg (by simp)]
    | succ k ih =>
      intro i hi
      have hil : i < xs.length := by omega
      rw [List.drop_eq_getElem_cons hil]
      by_cases he : xs[i] = p
      · rw [if_pos (by rw [he]; exact List.mem_cons_self)]
        refine loop_end ?_
        show gemotref10_Has.b1 xs p (i : Int) = _
        unfold gemotref10_Has.b1
        rw [cond_t (by omega), idxL_lt hil, Option.bind_some, show (xs[i] == p) = true from beq_iff_eq.2 he, cond_true]
      · have e : (p ∈ xs[i] :: xs.drop (i + 1)) ↔ p ∈ xs.drop (i + 1) := by
          rw [List.mem_cons]
          exact ⟨fun h => h.elim (fun q => absurd q.symm he) id, .inr⟩
        rw [show (if p ∈ xs[i] :: xs.drop (i + 1) then (Sum.inr true : Unit ⊕ Bool) else .inl ()) = if p ∈ xs.drop (i + 1) then .inr true else .inl () from by simp only [e]]
        refine loop_step ?_ (ih (i + 1) (by omega))
        show gemotref10_Has.b1 xs p (i : Int) = _
        unfold gemotref10_Has.b1
        rw [cond_t (by omega), idxL_lt hil, Option.bind_some, show (xs[i] == p) = false from beq_eq_false_iff_ne.2 he, cond_false, wrap1 i (by omega)]
  unfold gemotref10_Has.f
  rw [show loopM (fun s91 : Int => gemotref10_Has.b1 xs p s91) (0 : Int) = _ from go xs.length 0 (by omega), List.drop_zero]
  by_cases h : p ∈ xs
  · rw [if_pos h, decide_eq_true h]; rfl
  · rw [if_neg h, decide_eq_false h]; rfl
end Go.Proofs.Ytgomlcfoifkdiaa.G
