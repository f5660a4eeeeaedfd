/- A tree that is made by raw numbers is one. -/
import Derived.Test.YtfapphlhkfddoaaGreatDoorHK2
import Derived.Test.YtfapphlhkfddoaaGreatDoorPureKit
namespace Go.Proofs.YtfapphlhkfddoaaGreatDoor.G
open Go.RowKit Go.Eng Go.Proofs Go.Proofs.YtfapphlhkfddoaaGreatDoor.Cut
set_option linter.unusedVariables false
set_option linter.unusedSimpArgs false

def inI64 (x : Int) : Prop := -9223372036854775808 ≤ x ∧ x ≤ 9223372036854775807
theorem wrap_in (x : Int) : inI64 (IntKind.i64.wrap x) := by
  have e : IntKind.i64.wrap x = if x % 18446744073709551616 ≥ 9223372036854775808 then x % 18446744073709551616 - 18446744073709551616 else x % 18446744073709551616 := by
    simp [IntKind.wrap, IntKind.bits, IntKind.signed]
  unfold inI64
  rw [e]
  split <;> omega
theorem pick15 {x n : Int} (hx : inI64 x) (hn : 0 < n) : ∃ y, gemotlaw15_pick.f x n = some y ∧ 0 ≤ y ∧ y < n := by
  have hx1 := hx.1
  have hx2 := hx.2
  unfold gemotlaw15_pick.f gemotlaw15_pick.k1
  have key : ∀ v : Int, 0 ≤ v → ∃ y, (remM v n).bind (fun _ => some (v.tmod n)) = some y ∧ 0 ≤ y ∧ y < n := by
    intro v hv
    refine ⟨v.tmod n, ?_, ?_⟩
    · unfold remM
      rw [if_neg (by omega)]; rfl
    · rw [Int.tmod_eq_emod_of_nonneg hv]
      exact ⟨Int.emod_nonneg _ (by omega), Int.emod_lt_of_pos _ hn⟩
  by_cases h : x < 0
  · have e : IntKind.i64.wrap (0 - IntKind.i64.wrap (x + (1 : Int))) = -(x + 1) := by
      rw [Eng.i64_id (x := x + 1) (by omega) (by omega), Eng.i64_id (by omega) (by omega)]; omega
    rw [decide_eq_true h, cond_true, e]
    exact key _ (by omega)
  · rw [decide_eq_false h, cond_false]
    exact key _ (by omega)
/-- Either wrong, or a tree's text. -/
def good (r : List UInt8 × Int) : Prop := r.2 = 0 → ∃ T : Tr, T.ok ∧ T.leavesR.Nodup ∧ r.1 = T.text
theorem good_join (s : List UInt8) (p : Int) : good (joinM s p) := by
  intro h
  cases ho : ofM s with
  | none => rw [joinM_none ho] at h; cases h
  | some T =>
    by_cases hc : (1 ≤ p ∧ p ≤ 8) ∧ p ∉ T.leavesR
    · obtain ⟨h1, h2⟩ := joinT_ok (ofM_text ho).2 hc.1
      refine ⟨joinT T p, h1, ?_, by rw [joinM_yes ho hc]⟩
      exact h2.nodup_iff.2 (List.nodup_cons.2 ⟨hc.2, ofM_nodup ho⟩)
    · rw [joinM_no ho hc] at h; cases h
theorem good_leave (s : List UInt8) (p : Int) : good (leaveM s p) := by
  intro h
  cases ho : ofM s with
  | none => rw [leaveM_none ho] at h; cases h
  | some T =>
    cases T with
    | leaf q => rw [leaveM_leaf ho] at h; cases h
    | two l r =>
      by_cases hc : p ∈ (Tr.two l r).leavesR
      · obtain ⟨h1, h2⟩ := outT_ok _ p (ofM_text ho).2 (ofM_nodup ho) hc (fun q => by cases q)
        refine ⟨outT (.two l r) p, h1, ?_, by rw [leaveM_yes ho hc]⟩
        exact (List.nodup_cons.1 (h2.nodup_iff.2 (ofM_nodup ho))).2
      · rw [leaveM_no ho hc] at h; cases h
theorem good_two {A B : Tr} (ha : A.ok) (hb : B.ok) (na : A.leavesR.Nodup) (nb : B.leavesR.Nodup) (h : ¬ ∃ x, x ∈ A.leavesR ∧ x ∈ B.leavesR) : (Tr.two A B).ok ∧ (Tr.two A B).leavesR.Nodup := by
  refine ⟨⟨ha, hb⟩, ?_⟩
  show (B.leavesR ++ A.leavesR).Nodup
  exact List.nodup_append.2 ⟨nb, na, fun x hx y hy e => h ⟨x, by rw [e]; exact hy, hx⟩⟩
theorem good_merge (s t : List UInt8) : good (mergeM s t) := by
  intro h
  unfold mergeM at h ⊢
  cases ho : ofM s with
  | none => rw [ho] at h; cases h
  | some A =>
    cases ho2 : ofM t with
    | none => rw [ho, ho2] at h; cases h
    | some B =>
      rw [ho, ho2] at h
      simp only at h ⊢
      by_cases hc : ∃ x, x ∈ A.leavesR ∧ x ∈ B.leavesR
      · rw [if_pos hc] at h; cases h
      · rw [if_neg hc]
        by_cases hg : greaterT A B = true
        · rw [if_pos hg]
          obtain ⟨h1, h2⟩ := good_two (ofM_text ho).2 (ofM_text ho2).2 (ofM_nodup ho) (ofM_nodup ho2) hc
          exact ⟨_, h1, h2, rfl⟩
        · rw [if_neg hg]
          obtain ⟨h1, h2⟩ := good_two (ofM_text ho2).2 (ofM_text ho).2 (ofM_nodup ho2) (ofM_nodup ho) (fun ⟨x, p, q⟩ => hc ⟨x, q, p⟩)
          exact ⟨_, h1, h2, rfl⟩
theorem tree_len {T : Tr} (hk : T.ok) (hn : T.leavesR.Nodup) : T.text.length ≤ 22 := by
  have h8 := leaves_eight hk hn
  have := text_leaves3 T
  omega
theorem made_round {l : List Int} (hl : ∀ x ∈ l, inI64 x) {i : Nat} (hi : i < l.length) (h30 : i < 30) {T : Tr} (hk : T.ok) (hn : T.leavesR.Nodup) :
    ∃ T' : Tr, T'.ok ∧ T'.leavesR.Nodup ∧ gemotlaw15_made.b4 l T.text (i : Int) = some (.inl (T'.text, ((i + 1 : Nat) : Int))) := by
  have hlen := tree_len hk hn
  have hx := idxL_lt hi
  have hxi := hl l[i] (List.getElem_mem hi)
  obtain ⟨y, hy, y0, y8⟩ := pick15 (n := 8) (wrap_in (l[i].tdiv 3)) (by omega)
  obtain ⟨z, hz, z0, z3⟩ := pick15 (n := 3) hxi (by omega)
  have hp : IntKind.i64.wrap ((1 : Int) + y) = 1 + y := Eng.i64_id (by omega) (by omega)
  have hleaf : (leafM (1 + y)).1 = (Tr.leaf (1 + y)).text := by unfold leafM; rw [if_pos ⟨by omega, by omega⟩]
  have hw : IntKind.i64.wrap ((i : Int) + (1 : Int)) = ((i + 1 : Nat) : Int) := wrap1 i (by omega)
  have hk2 : ∀ r : List UInt8 × Int, good r → ∃ T' : Tr, T'.ok ∧ T'.leavesR.Nodup ∧ gemotlaw15_made.k2 l T.text (i : Int) r.1 r.2 = some (.inl (T'.text, ((i + 1 : Nat) : Int))) := by
    intro r hr
    unfold gemotlaw15_made.k2 gemotlaw15_made.k1
    rw [hw]
    by_cases h0 : r.2 = 0
    · obtain ⟨T', h1, h2, h3⟩ := hr h0
      refine ⟨T', h1, h2, ?_⟩
      rw [h0, show ((0 : Int) == (0 : Int)) = true from rfl, cond_true, h3]
    · refine ⟨T, hk, hn, ?_⟩
      rw [show (r.2 == (0 : Int)) = false from beq_eq_false_iff_ne.2 h0, cond_false]
  have hk3 : ∀ r : List UInt8 × Int, good r → ∃ T' : Tr, T'.ok ∧ T'.leavesR.Nodup ∧ gemotlaw15_made.k3 l T.text (i : Int) (leafM (1 + y)) r.1 r.2 = some (.inl (T'.text, ((i + 1 : Nat) : Int))) := by
    intro r hr
    unfold gemotlaw15_made.k3
    rw [hx, Option.bind_some, hz, Option.bind_some]
    by_cases h2 : z = 2
    · rw [show (z == (2 : Int)) = true from beq_iff_eq.2 h2, cond_true, hleaf]
      unfold tree_Merge.f
      rw [given_of ⟨by omega, by simp [Tr.text]⟩, Option.bind_some]
      exact hk2 _ (good_merge _ _)
    · rw [show (z == (2 : Int)) = false from beq_eq_false_iff_ne.2 h2, cond_false]
      exact hk2 r hr
  unfold gemotlaw15_made.b4 divM tree_Leaf.f tree_Join.f tree_Leave.f
  rw [show (cond (decide ((i : Int) < (l.length : Int))) (decide ((i : Int) < (30 : Int))) false) = true by rw [decide_eq_true (by omega), decide_eq_true (by omega)]; rfl, cond_true, hx, Option.bind_some, if_neg (by decide), Option.bind_some, hy, Option.bind_some, hp, Option.bind_some, given_of (by omega), Option.bind_some, Option.bind_some, hz, Option.bind_some]
  by_cases h1 : z = 1
  · rw [show (z == (1 : Int)) = true from beq_iff_eq.2 h1, cond_true, given_of (by omega), Option.bind_some]
    exact hk3 _ (good_leave _ _)
  · rw [show (z == (1 : Int)) = false from beq_eq_false_iff_ne.2 h1, cond_false]
    exact hk3 _ (good_join _ _)
theorem made_loop {l : List Int} (hl : ∀ x ∈ l, inI64 x) : ∀ (k i : Nat) (T : Tr), i + k = 30 → T.ok → T.leavesR.Nodup → ∃ T' : Tr, T'.ok ∧ T'.leavesR.Nodup ∧ loopM (fun s : (List UInt8) × Int => gemotlaw15_made.b4 l s.1 s.2) (T.text, (i : Int)) = some T'.text := by
  have hend : ∀ (i : Nat) (T : Tr), ¬ (i < l.length ∧ i < 30) → loopM (fun s : (List UInt8) × Int => gemotlaw15_made.b4 l s.1 s.2) (T.text, (i : Int)) = some T.text := by
    intro i T h
    refine loop_end ?_
    show gemotlaw15_made.b4 l T.text (i : Int) = _
    unfold gemotlaw15_made.b4
    rw [show (cond (decide ((i : Int) < (l.length : Int))) (decide ((i : Int) < (30 : Int))) false) = false by
      by_cases h1 : i < l.length
      · rw [decide_eq_true (show (i : Int) < (l.length : Int) by omega), decide_eq_false (show ¬ (i : Int) < (30 : Int) by omega)]; rfl
      · rw [decide_eq_false (show ¬ (i : Int) < (l.length : Int) by omega)]; rfl, cond_false]
  intro k
  induction k with
  | zero => intro i T hi hk hn; exact ⟨T, hk, hn, hend i T (by omega)⟩
  | succ k ih =>
    intro i T hi hk hn
    by_cases h : i < l.length
    · obtain ⟨T1, k1, n1, hb⟩ := made_round hl h (by omega) hk hn
      obtain ⟨T2, k2, n2, h2⟩ := ih (i + 1) T1 (by omega) k1 n1
      exact ⟨T2, k2, n2, loop_step hb h2⟩
    · exact ⟨T, hk, hn, hend i T (by omega)⟩
theorem made_is {l : List Int} (hl : ∀ x ∈ l, inI64 x) : ∃ T : Tr, T.ok ∧ T.leavesR.Nodup ∧ gemotlaw15_made.f l = some T.text := by
  obtain ⟨T, h1, h2, h3⟩ := made_loop hl 30 0 (.leaf 1) (by omega) ⟨by omega, by omega⟩ (by simp [Tr.leavesR])
  refine ⟨T, h1, h2, ?_⟩
  unfold gemotlaw15_made.f gemotlaw15_made.k5
  rw [show loopM (fun s1657 : (List UInt8) × Int => gemotlaw15_made.b4 l s1657.1 s1657.2) ([49], (0 : Int)) = _ from h3]
  rfl
end Go.Proofs.YtfapphlhkfddoaaGreatDoor.G
