/- Chapter 12, one node: what it is told of who should be together, as it is reckoned. -/
import Derived.Test.YtipoblinefamgaaPackM
import Derived.Test.YtipoblinefamgaaML
namespace Go.Proofs.Ytipoblinefamgaa.G
open Go.RowKit Go.Eng Go.Proofs Go.Proofs.Ytipoblinefamgaa.Cut
set_option linter.unusedVariables false
set_option linter.unusedSimpArgs false

theorem row_true {l : List Int} (h : upRow l) (hn : l ≠ []) : view_Row.f l = some true := by
  have hlen := h.len
  have hL : ∀ k i last, i + k = l.length → (∀ x ∈ l.drop i, last < x) → 0 ≤ last → (last = 0 → i < l.length) → ∃ z : Int, 0 < z ∧ loopM (fun s98 : Int × Int => view_Row.b1 l s98.1 s98.2) (last, (i : Int)) = some (Sum.inl z) := by
    intro k
    induction k with
    | zero =>
      intro i last hi _ h0 h1
      refine ⟨last, by
        rcases Int.lt_or_eq_of_le h0 with q | q
        · exact q
        · exact absurd (h1 q.symm) (by omega), loop_end ?_⟩
      show view_Row.b1 l last (i : Int) = _
      unfold view_Row.b1
      rw [cond_f (by omega)]
    | succ k ih =>
      intro i last hi hl h0 _
      have hil : i < l.length := by omega
      have hd : l.drop i = l[i] :: l.drop (i + 1) := List.drop_eq_getElem_cons hil
      have hp := h.1.drop (i := i)
      rw [hd] at hl hp
      have h1 := hl _ List.mem_cons_self
      have h2 := h.2 _ (List.getElem_mem hil)
      obtain ⟨z, z1, z2⟩ := ih (i + 1) l[i] (by omega) (List.pairwise_cons.1 hp).1 (by omega) (fun e => by omega)
      refine ⟨z, z1, loop_step ?_ z2⟩
      show view_Row.b1 l last (i : Int) = _
      unfold view_Row.b1
      rw [cond_t (by omega), idxL_lt hil, Option.bind_some, decide_eq_false (by omega), cond_false, cond_f (by omega), wrap1 i (by omega)]
  obtain ⟨z, z1, z2⟩ := hL l.length 0 0 (by omega) (fun x hx => by have := h.2 x (List.mem_of_mem_drop hx); omega) (by omega) (fun _ => List.length_pos_iff.2 hn)
  unfold view_Row.f
  rw [show loopM (fun s98 : Int × Int => view_Row.b1 l s98.1 s98.2) ((0 : Int), (0 : Int)) = _ from z2]
  show view_Row.k2 z = _
  unfold view_Row.k2
  rw [decide_eq_true (show z > 0 from z1)]
theorem clone_eq {l : List Int} (hl : l.length ≤ 1000) : slices_Clone_int_int.f l = some l := by
  unfold slices_Clone_int_int.f
  rw [given_of (by omega)]
theorem logs_none {v : O_member_Node} (h : v.rows_ = []) : member_Node_Logs.f v = some [] := by
  unfold member_Node_Logs.f
  have : loopM (fun s905 : (List D_cut_Log) × Int => member_Node_Logs.b2 v s905.1 s905.2) (([] : List D_cut_Log), (1 : Int)) = some [] := by
    refine loop_count (fun i => (([] : List D_cut_Log), ((i + 1 : Nat) : Int))) 8 (fun i hi => ?_) ?_
    · show member_Node_Logs.b2 v [] ((i + 1 : Nat) : Int) = _
      unfold member_Node_Logs.b2
      rw [cond_t (by omega), h]
      show cond (decide ((0 : Int) > 0)) _ _ = _
      rw [cond_f (by omega)]
      unfold member_Node_Logs.k1
      rw [wrap1 (i + 1) (by omega)]
    · show member_Node_Logs.b2 v [] ((9 : Nat) : Int) = _
      unfold member_Node_Logs.b2
      rw [cond_f (by omega)]
  rw [this]
  rfl
end Go.Proofs.Ytipoblinefamgaa.G
