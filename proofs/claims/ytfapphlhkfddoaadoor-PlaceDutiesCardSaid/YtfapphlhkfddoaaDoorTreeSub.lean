/- What stands in a right tree is one; where it stands. -/
import Derived.Test.YtfapphlhkfddoaaDoorPlaceAt
namespace Go.Proofs.YtfapphlhkfddoaaDoor.G
open Go.RowKit Go.Eng Go.Proofs Go.Proofs.YtfapphlhkfddoaaDoor.Cut
set_option linter.unusedVariables false
set_option linter.unusedSimpArgs false

theorem rowRes_iff : ∀ (xs : List Int) (last : Int), (∃ l, rowRes last xs = .inl l ∧ (l > 0 ↔ (xs ≠ [] ∨ 0 < last)) ∧ (∀ x ∈ xs, last < x ∧ x ≤ 8) ∧ xs.Pairwise (· < ·)) ∨ (rowRes last xs = .inr false ∧ ¬ ((∀ x ∈ xs, last < x ∧ x ≤ 8) ∧ xs.Pairwise (· < ·))) ∨ last < 0
  | [], last => by
    by_cases h : last < 0
    · exact .inr (.inr h)
    · exact .inl ⟨last, rfl, by simp, fun x hx => by simp at hx, List.Pairwise.nil⟩
  | x :: xs, last => by
    by_cases h0 : last < 0
    · exact .inr (.inr h0)
    unfold rowRes
    by_cases hc : x ≤ last ∨ 8 < x
    · rw [if_pos hc]
      refine .inr (.inl ⟨rfl, fun ⟨h1, h2⟩ => ?_⟩)
      have := h1 x List.mem_cons_self
      omega
    · rw [if_neg hc]
      rcases rowRes_iff xs x with ⟨l, h1, h2, h3, h4⟩ | ⟨h1, h2⟩ | h
      · refine .inl ⟨l, h1, ?_, ?_, ?_⟩
        · constructor
          · intro _; exact .inl (by simp)
          · intro _; exact h2.2 (.inr (by omega))
        · intro y hy
          rcases List.mem_cons.1 hy with q | q
          · subst q; omega
          · have := h3 y q; omega
        · exact List.pairwise_cons.2 ⟨fun y hy => (h3 y hy).1, h4⟩
      · refine .inr (.inl ⟨h1, fun ⟨g1, g2⟩ => h2 ⟨?_, (List.pairwise_cons.1 g2).2⟩⟩)
        intro y hy
        exact ⟨(List.pairwise_cons.1 g2).1 y hy, (g1 y (List.mem_cons_of_mem _ hy)).2⟩
      · omega
theorem rowB_iff (xs : List Int) : rowB xs = true ↔ (xs ≠ [] ∧ (∀ x ∈ xs, 0 < x ∧ x ≤ 8) ∧ xs.Pairwise (· < ·)) := by
  unfold rowB
  rcases rowRes_iff xs 0 with ⟨l, h1, h2, h3, h4⟩ | ⟨h1, h2⟩ | h
  · rw [h1]
    simp only [decide_eq_true_eq]
    rw [h2]
    constructor
    · intro h; exact ⟨h.elim id (fun h => absurd h (by omega)), h3, h4⟩
    · intro h; exact .inl h.1
  · rw [h1]
    constructor
    · intro h; cases h
    · intro h; exact absurd ⟨h.2.1, h.2.2⟩ h2
  · omega
theorem sortZ_perm (xs : List Int) : (sortZ xs).Perm xs := List.mergeSort_perm _ _
theorem sortZ_le (xs : List Int) : (sortZ xs).Pairwise (· ≤ ·) := by
  have h := List.pairwise_mergeSort (le := fun x y : Int => decide (x ≤ y)) (by intro a b c h1 h2; simp at *; omega) (by intro a b; simp; omega) xs
  exact h.imp (by intro a b h; simpa using h)
theorem rowB_sort (xs : List Int) : rowB (sortZ xs) = true ↔ (xs ≠ [] ∧ (∀ x ∈ xs, 0 < x ∧ x ≤ 8) ∧ xs.Nodup) := by
  rw [rowB_iff]
  have hp := sortZ_perm xs
  constructor
  · rintro ⟨h1, h2, h3⟩
    refine ⟨fun h => h1 (by rw [h] at hp ⊢; exact hp.eq_nil), fun x hx => h2 x (hp.mem_iff.2 hx), ?_⟩
    exact hp.nodup_iff.1 (h3.imp (fun h => by omega))
  · rintro ⟨h1, h2, h3⟩
    refine ⟨fun h => h1 (by rw [h] at hp; exact hp.symm.eq_nil), fun x hx => h2 x (hp.mem_iff.1 hx), ?_⟩
    have hn : (sortZ xs).Nodup := hp.nodup_iff.2 h3
    exact (sortZ_le xs).imp₂ (fun a b h1 h2 => by omega) hn
theorem readM_full : ∀ (T : Tr) (r : List UInt8) (n : Nat), T.ok → T.text.length ≤ n → readM n (T.text ++ r) = some (T, r)
  | .leaf p, r, n, h, hn => by
    have h' : 1 ≤ p ∧ p ≤ 8 := h
    obtain ⟨m, rfl⟩ : ∃ m, n = m + 1 := ⟨n - 1, by simp [Tr.text] at hn; omega⟩
    show (if 49 ≤ (UInt8.ofNat (p.toNat + 48)).toNat ∧ _ then some (Tr.leaf (((UInt8.ofNat (p.toNat + 48)).toNat : Int) - 48), r) else _) = _
    rw [digit_toNat h', if_pos (by omega)]
    congr 3
    omega
  | .two a b, r, n, h, hn => by
    have e : (Tr.two a b).text ++ r = 40 :: (a.text ++ (b.text ++ (41 :: r))) := by simp [Tr.text]
    simp only [Tr.text, List.length_cons, List.length_append, List.length_nil] at hn
    obtain ⟨m, rfl⟩ : ∃ m, n = m + 1 := ⟨n - 1, by omega⟩
    rw [e]
    unfold readM
    rw [if_neg (by decide), if_neg (by decide), readM_full a _ m h.1 (by omega)]
    simp only
    rw [readM_full b _ m h.2 (by omega)]
    simp
theorem ofM_iff {T : Tr} (hok : T.ok) : ofM T.text = if T.leavesR.Nodup then some T else none := by
  unfold ofM
  have h := readM_full T [] (T.text.length + 1) hok (by omega)
  rw [List.append_nil] at h
  rw [h]
  simp only
  have hl : ∀ (T : Tr), T.ok → ∀ x ∈ T.leavesR, 0 < x ∧ x ≤ 8 := by
    intro T
    induction T with
    | leaf p => intro h x hx; simp [Tr.leavesR] at hx; subst hx; have h' : 1 ≤ x ∧ x ≤ 8 := h; omega
    | two l r ihl ihr => intro h x hx; simp [Tr.leavesR] at hx; exact hx.elim (ihr h.2 x) (ihl h.1 x)
  by_cases hn : T.leavesR.Nodup
  · rw [if_pos hn, if_pos ((rowB_sort _).2 ⟨fun h => by have := leavesR_pos T; rw [h] at this; simp at this, hl T hok, hn⟩)]
  · rw [if_neg hn, if_neg (fun h => hn ((rowB_sort _).1 h).2.2)]
/-- The tree that stands at a node. -/
def subT : Tr → List UInt8 → Option Tr
  | T, [] => some T
  | .leaf _, _ :: _ => none
  | .two l r, c :: p => if c = 108 then subT l p else if c = 114 then subT r p else none
theorem find_other (pre : List UInt8) (c d : UInt8) (h : c ≠ d) (p : List UInt8) : ∀ (T : Tr), (∀ x ∈ nodesT (pre ++ [c]) T, ∃ q, x.1 = pre ++ (c :: q)) → (nodesT (pre ++ [c]) T).find? (fun x => decide (x.1 = pre ++ (d :: p))) = none := by
  intro T hT
  refine List.find?_eq_none.2 fun x hx => ?_
  obtain ⟨q, hq⟩ := hT x hx
  rw [hq]
  simp [h]
theorem nodes_pre : ∀ (T : Tr) (pre : List UInt8), ∀ x ∈ nodesT pre T, ∃ q, x.1 = pre ++ q
  | .leaf p, pre, x, hx => by simp [nodesT] at hx; subst hx; exact ⟨[], by simp⟩
  | .two l r, pre, x, hx => by
    simp only [nodesT, List.mem_cons, List.mem_append] at hx
    rcases hx with rfl | hx | hx
    · exact ⟨[], by simp⟩
    · obtain ⟨q, hq⟩ := nodes_pre l _ x hx; exact ⟨[108] ++ q, by rw [hq]; simp⟩
    · obtain ⟨q, hq⟩ := nodes_pre r _ x hx; exact ⟨[114] ++ q, by rw [hq]; simp⟩
theorem find_sub : ∀ (T : Tr) (pre p : List UInt8), (nodesT pre T).find? (fun x => decide (x.1 = pre ++ p)) = (subT T p).map (fun S => (pre ++ p, S.text))
  | .leaf q, pre, [] => by simp [nodesT, subT]
  | .leaf q, pre, c :: p => by simp [nodesT, subT]
  | .two l r, pre, [] => by simp [nodesT, subT]
  | .two l r, pre, c :: p => by
    have h0 : (nodesT pre (Tr.two l r)).find? (fun x => decide (x.1 = pre ++ (c :: p))) = ((nodesT (pre ++ [108]) l).find? (fun x => decide (x.1 = pre ++ (c :: p)))).or ((nodesT (pre ++ [114]) r).find? (fun x => decide (x.1 = pre ++ (c :: p)))) := by
      simp [nodesT, List.find?_append]
    rw [h0]
    have hpl : ∀ (d : UInt8) (T : Tr), ∀ x ∈ nodesT (pre ++ [d]) T, ∃ q, x.1 = pre ++ (d :: q) := fun d T x hx => by
      obtain ⟨q, hq⟩ := nodes_pre T _ x hx
      exact ⟨q, by rw [hq]; simp⟩
    by_cases h1 : c = 108
    · subst h1
      have := find_sub l (pre ++ [108]) p
      simp only [List.append_assoc, List.singleton_append] at this
      rw [this, find_other pre 114 108 (by decide) p r (hpl 114 r)]
      simp [subT]
    · rw [find_other pre 108 c (fun h => h1 h.symm) p l (hpl 108 l), Option.none_or]
      by_cases h2 : c = 114
      · subst h2
        have := find_sub r (pre ++ [114]) p
        simp only [List.append_assoc, List.singleton_append] at this
        rw [this]
        simp [subT]
      · rw [find_other pre 114 c (fun h => h2 h.symm) p r (hpl 114 r)]
        simp [subT, h1, h2]
theorem at_sub {s : List UInt8} {T : Tr} (h : ofM s = some T) (p : List UInt8) : atM s p = match subT T p with | some S => (S.text, 0) | none => ([], 8) := by
  unfold atM
  rw [h]
  simp only
  have := find_sub T [] p
  simp only [List.nil_append] at this
  rw [this]
  cases subT T p <;> rfl
theorem subT_ok : ∀ (T : Tr) (p : List UInt8) (S : Tr), subT T p = some S → T.ok → S.ok
  | T, [], S, h, hok => by cases T <;> (simp [subT] at h; subst h; exact hok)
  | .leaf _, _ :: _, S, h, hok => by simp [subT] at h
  | .two l r, c :: p, S, h, hok => by
    unfold subT at h
    split at h
    · exact subT_ok l p S h hok.1
    · split at h
      · exact subT_ok r p S h hok.2
      · cases h
theorem subT_nodup : ∀ (T : Tr) (p : List UInt8) (S : Tr), subT T p = some S → T.leavesR.Nodup → S.leavesR.Nodup ∧ ∀ x ∈ S.leavesR, x ∈ T.leavesR
  | T, [], S, h, hn => by cases T <;> (simp [subT] at h; subst h; exact ⟨hn, fun x hx => hx⟩)
  | .leaf _, _ :: _, S, h, hn => by simp [subT] at h
  | .two l r, c :: p, S, h, hn => by
    have hn' := List.nodup_append.1 (show (r.leavesR ++ l.leavesR).Nodup from hn)
    unfold subT at h
    split at h
    · obtain ⟨h1, h2⟩ := subT_nodup l p S h hn'.2.1
      exact ⟨h1, fun x hx => List.mem_append_right _ (h2 x hx)⟩
    · split at h
      · obtain ⟨h1, h2⟩ := subT_nodup r p S h hn'.1
        exact ⟨h1, fun x hx => List.mem_append_left _ (h2 x hx)⟩
      · cases h
theorem subT_len : ∀ (T : Tr) (p : List UInt8) (S : Tr), subT T p = some S → S.text.length ≤ T.text.length
  | T, [], S, h => by cases T <;> (simp [subT] at h; subst h; exact Nat.le_refl _)
  | .leaf _, _ :: _, S, h => by simp [subT] at h
  | .two l r, c :: p, S, h => by
    unfold subT at h
    have e : (Tr.two l r).text.length = l.text.length + r.text.length + 2 := by simp [Tr.text]; omega
    split at h
    · have := subT_len l p S h; omega
    · split at h
      · have := subT_len r p S h; omega
      · cases h
theorem ofM_nodup {s : List UInt8} {T : Tr} (h : ofM s = some T) : T.leavesR.Nodup := by
  obtain ⟨hs, hok⟩ := ofM_text h
  rw [hs, ofM_iff hok] at h
  split at h
  · assumption
  · cases h
theorem subT_snoc : ∀ (T : Tr) (p : List UInt8) (l r : Tr), subT T p = some (.two l r) → subT T (p ++ [108]) = some l ∧ subT T (p ++ [114]) = some r
  | T, [], l, r, h => by
    cases T with
    | leaf q => simp [subT] at h
    | two a b => simp [subT] at h; obtain ⟨rfl, rfl⟩ := h; exact ⟨by cases a <;> simp [subT], by cases b <;> simp [subT]⟩
  | .leaf _, _ :: _, l, r, h => by simp [subT] at h
  | .two a b, c :: p, l, r, h => by
    unfold subT at h
    rw [List.cons_append, List.cons_append]
    unfold subT
    split at h
    · rename_i hc; rw [if_pos hc, if_pos hc]; exact subT_snoc a p l r h
    · rename_i hc
      split at h
      · rename_i hc2; rw [if_neg hc, if_neg hc, if_pos hc2, if_pos hc2]; exact subT_snoc b p l r h
      · cases h
end Go.Proofs.YtfapphlhkfddoaaDoor.G
