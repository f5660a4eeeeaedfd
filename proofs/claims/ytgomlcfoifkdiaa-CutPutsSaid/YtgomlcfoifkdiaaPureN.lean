/- What is read of a term: by whom it is left unchanged. -/
import Derived.Test.YtgomlcfoifkdiaaPureR
namespace Go.Proofs.Ytgomlcfoifkdiaa.G
open Go.RowKit Go.Eng Go.Proofs Go.Proofs.Ytgomlcfoifkdiaa.Cut
set_option linter.unusedVariables false
set_option linter.unusedSimpArgs false

theorem specE_succ (s : List UInt8) (left a : Nat) : specE s (left + 1) a = match s.drop a with
    | [] => (-1, 0)
    | c :: r => if leafN c r ≠ 0 then (((a + leafN c r : Nat) : Int), 1) else match openT c r with
      | none => (-1, 0)
      | some (n, p, o) => manyF (specE s left) s p n (a + o) [] 0 := rfl
theorem specE_neg (s : List UInt8) : ∀ (left a : Nat), (specE s left a).1 < 0 → ((specE s left a).1 = -1 ∨ (specE s left a).1 = -2)
  | 0, a, _ => .inr rfl
  | left + 1, a, h => by
    have many : ∀ p n k last d, (manyF (specE s left) s p n k last d).1 < 0 → (manyF (specE s left) s p n k last d).1 = -1 ∨ (manyF (specE s left) s p n k last d).1 = -2 := by
      intro p n
      induction n with
      | zero => intro k last d h; simp only [manyF] at h; omega
      | succ n ih =>
        intro k last d h
        unfold manyF at h ⊢
        split
        · rename_i hn; exact specE_neg s left k hn
        · rename_i hn
          rw [if_neg hn] at h
          split
          · exact .inl rfl
          · rename_i hp
            rw [if_neg hp] at h
            exact ih _ _ _ h
    unfold specE at h ⊢
    cases hd : s.drop a with
    | nil => exact .inl rfl
    | cons c r =>
      rw [hd] at h
      simp only at h ⊢
      by_cases h0 : leafN c r ≠ 0
      · rw [if_pos h0] at h; simp only at h; omega
      · rw [if_neg h0] at h ⊢
        cases ho : openT c r with
        | none => exact .inl rfl
        | some q =>
          obtain ⟨n, p, o⟩ := q
          rw [ho] at h
          exact many _ _ _ _ _ h
theorem openT_some {c : UInt8} {r : List UInt8} {n o : Nat} {p : Bool} (ho : openT c r = some (n, p, o)) : 0 < n ∧ n ≤ 32 ∧ 0 < o ∧ o ≤ r.length + 1 ∧ o ≤ 2 := by
  unfold openT at ho
  split at ho
  · split at ho
    · split at ho
      · cases ho; simp
      · cases ho
    · cases ho
  split at ho
  · cases ho; simp
  split at ho
  · cases ho; simp
  split at ho
  · cases ho; simp
  split at ho
  · split at ho
    · split at ho
      · rename_i hq; cases ho; simp; omega
      · cases ho
    · cases ho
  · cases ho
/-- How deep: as many as are left, at most. -/
theorem manyF_depth {self : Nat → Int × Int} {s : List UInt8} {p : Bool} {left : Nat} (hs : ∀ k, 0 ≤ (self k).2 ∧ (self k).2 ≤ (left : Int)) : ∀ (n k : Nat) (last : List UInt8) (d : Nat), d ≤ left → 0 ≤ (manyF self s p n k last d).2 ∧ (manyF self s p n k last d).2 ≤ ((left + 1 : Nat) : Int)
  | 0, k, last, d, hd => by simp only [manyF]; omega
  | n + 1, k, last, d, hd => by
    unfold manyF
    split
    · simp only; omega
    · split
      · simp only; omega
      · have := hs k
        exact manyF_depth hs n _ _ _ (by omega)
theorem specE_depth (s : List UInt8) : ∀ (left a : Nat), 0 ≤ (specE s left a).2 ∧ (specE s left a).2 ≤ (left : Int)
  | 0, a => by simp [specE]
  | left + 1, a => by
    unfold specE
    cases hd : s.drop a with
    | nil => simp only; omega
    | cons c r =>
      simp only
      split
      · simp only; omega
      · cases ho : openT c r with
        | none => simp only; omega
        | some q =>
          obtain ⟨n, p, o⟩ := q
          exact manyF_depth (specE_depth s left) n _ _ _ (by omega)
/-! More depth left changes nothing of what was read. -/
theorem manyF_mono {self self' : Nat → Int × Int} {s : List UInt8} {p : Bool} (hs : ∀ k, 0 ≤ (self k).1 → self' k = self k) : ∀ (n k : Nat) (last : List UInt8) (d : Nat), 0 ≤ (manyF self s p n k last d).1 → manyF self' s p n k last d = manyF self s p n k last d
  | 0, k, last, d, h => rfl
  | n + 1, k, last, d, h => by
    unfold manyF at h ⊢
    by_cases hn : (self k).1 < 0
    · rw [if_pos hn] at h; simp only at h; omega
    · rw [hs k (by omega), if_neg hn, if_neg hn]
      rw [if_neg hn] at h
      by_cases hp : (p && strLt ((s.drop k).take ((self k).1.toNat - k)) last) = true
      · rw [if_pos hp, if_pos hp]
      · rw [if_neg hp, if_neg hp]
        rw [if_neg hp] at h
        exact manyF_mono hs n _ _ _ h
theorem specE_mono1 (s : List UInt8) : ∀ (left a : Nat), 0 ≤ (specE s left a).1 → specE s (left + 1) a = specE s left a
  | 0, a, h => by simp [specE] at h
  | left + 1, a, h => by
    rw [specE_succ] at h
    rw [specE_succ, specE_succ s left a]
    cases hd : s.drop a with
    | nil => rfl
    | cons c r =>
      rw [hd] at h
      simp only at h ⊢
      by_cases h0 : leafN c r ≠ 0
      · rw [if_pos h0, if_pos h0]
      · rw [if_neg h0, if_neg h0]
        rw [if_neg h0] at h
        cases ho : openT c r with
        | none => rfl
        | some q =>
          obtain ⟨n, p, o⟩ := q
          rw [ho] at h
          exact manyF_mono (fun k hk => specE_mono1 s left k hk) n _ _ _ h
theorem specE_mono {s : List UInt8} {left more a : Nat} (hm : left ≤ more) (h : 0 ≤ (specE s left a).1) : specE s more a = specE s left a := by
  induction more with
  | zero => obtain rfl : left = 0 := by omega
            rfl
  | succ m ih =>
    by_cases hl : left = m + 1
    · rw [hl]
    · have := ih (by omega)
      rw [specE_mono1 s m a (by rw [this]; exact h), this]
/-! What is read hangs on the bytes that are read alone. -/
theorem part_take {s t : List UInt8} {E k e : Nat} (h : s.take E = t.take E) (he : e ≤ E) : (s.drop k).take (e - k) = (t.drop k).take (e - k) := by
  have h1 : (s.take e).drop k = (t.take e).drop k := by
    have : s.take e = t.take e := by
      have := congrArg (List.take e) h
      rwa [List.take_take, List.take_take, Nat.min_eq_left he] at this
    rw [this]
  rwa [List.drop_take, List.drop_take] at h1
theorem manyF_local {self self' : Nat → Int × Int} {s t : List UInt8} {p : Bool} {E : Nat} (hst : s.take E = t.take E) (hs : ∀ k, 0 ≤ (self k).1 → (self k).1 ≤ (E : Int) → self' k = self k) (hr : ∀ k, 0 ≤ (self k).1 → (k : Int) < (self k).1 ∧ (self k).1 ≤ (s.length : Int)) : ∀ (n k : Nat) (last : List UInt8) (d : Nat), k ≤ s.length → 0 ≤ (manyF self s p n k last d).1 → (manyF self s p n k last d).1 ≤ (E : Int) → manyF self' t p n k last d = manyF self s p n k last d
  | 0, k, last, d, hk, h, hE => rfl
  | n + 1, k, last, d, hk, h, hE => by
    unfold manyF at h hE ⊢
    by_cases hn : (self k).1 < 0
    · rw [if_pos hn] at h; simp only at h; omega
    · rw [if_neg hn] at h hE
      have h1 := hr k (by omega)
      by_cases hp : (p && strLt ((s.drop k).take ((self k).1.toNat - k)) last) = true
      · rw [if_pos hp] at h; simp only at h; omega
      · rw [if_neg hp] at h hE
        have h2 := manyF_le hr n _ _ _ (by omega) h
        have hkE : (self k).1 ≤ (E : Int) := by omega
        rw [hs k (by omega) hkE, if_neg hn, if_neg hn, ← part_take hst (show (self k).1.toNat ≤ E by omega), if_neg hp, if_neg hp]
        exact manyF_local hst hs hr n _ _ _ (by omega) h hE
theorem drop_local {s t : List UInt8} {E a : Nat} {c : UInt8} {r : List UInt8} (h : s.take E = t.take E) (ha : a < E) (hd : s.drop a = c :: r) : ∃ r', t.drop a = c :: r' ∧ r.take (E - a - 1) = r'.take (E - a - 1) := by
  have h1 : (s.drop a).take (E - a) = (t.drop a).take (E - a) := part_take h (Nat.le_refl _)
  obtain ⟨m, hm⟩ : ∃ m, E - a = m + 1 := ⟨E - a - 1, by omega⟩
  rw [hd, hm, List.take_succ_cons] at h1
  cases ht : t.drop a with
  | nil => rw [ht] at h1; simp at h1
  | cons c' r' =>
    rw [ht, List.take_succ_cons] at h1
    injection h1 with h2 h3
    exact ⟨r', by rw [h2], by rw [show E - a - 1 = m by omega]; exact h3⟩
theorem leafN_local {c : UInt8} {r r' : List UInt8} {m : Nat} (h : r.take m = r'.take m) (hr : m ≤ r.length) (hr' : m ≤ r'.length) (h0 : leafN c r ≠ 0) (hm : leafN c r ≤ m + 1) : leafN c r' = leafN c r := by
  unfold leafN at *
  by_cases h1 : c = 103
  · rw [if_pos h1, if_pos h1]
  rw [if_neg h1] at h0 hm ⊢
  rw [if_neg h1]
  by_cases h2 : c = 110 ∨ c = 117
  · rw [if_pos h2] at h0 hm ⊢
    rw [if_pos h2]
    by_cases h8 : 8 ≤ r.length
    · rw [if_pos h8] at hm ⊢
      rw [if_pos (by omega)]
    · rw [if_neg h8] at h0; exact absurd rfl h0
  rw [if_neg h2] at h0 hm ⊢
  rw [if_neg h2]
  by_cases h3 : c = 105
  · rw [if_pos h3] at h0 hm ⊢
    rw [if_pos h3]
    cases r with
    | nil => exact absurd rfl h0
    | cons d r =>
      have hq : leafI (d :: r) = 2 := by
        rw [leafI_cons] at h0 ⊢
        by_cases hc : 1 ≤ d.toNat ∧ d.toNat ≤ 8
        · rw [if_pos hc]
        · rw [if_neg hc] at h0; exact absurd rfl h0
      obtain ⟨k, rfl⟩ : ∃ k, m = k + 1 := ⟨m - 1, by omega⟩
      cases r' with
      | nil => simp at hr'
      | cons d' r' =>
        rw [List.take_succ_cons, List.take_succ_cons] at h
        injection h with h1 h2
        subst h1
        rw [leafI_cons, leafI_cons]
  rw [if_neg h3] at h0 hm ⊢
  rw [if_neg h3]
  by_cases h4 : c = 116
  · rw [if_pos h4] at h0 hm ⊢
    rw [if_pos h4]
    match r, h0, hm, h, hr with
    | [], h0, _, _, _ => exact absurd rfl h0
    | [d], h0, _, _, _ => exact absurd rfl h0
    | d :: e :: r, h0, hm, h, hr =>
      have hc : d.toNat = 0 ∧ e.toNat ≤ 100 ∧ e.toNat + 1 ≤ (d :: e :: r).length - 1 := by
        apply Classical.byContradiction
        intro hc
        rw [leafT_cons, if_neg hc] at h0; exact absurd rfl h0
      rw [leafT_cons, if_pos hc] at hm ⊢
      obtain ⟨k, rfl⟩ : ∃ k, m = k + 1 + 1 := ⟨m - 2, by omega⟩
      match r', h, hr' with
      | [], _, hr' => simp at hr'
      | [_], _, hr' => simp at hr'
      | d' :: e' :: r', h, hr' =>
        rw [List.take_succ_cons, List.take_succ_cons, List.take_succ_cons, List.take_succ_cons] at h
        injection h with h1 h2
        injection h2 with h2 h3
        subst h1 h2
        rw [leafT_cons, if_pos ⟨hc.1, hc.2.1, by simp at hr' ⊢; omega⟩]
  rw [if_neg h4] at h0
  exact absurd rfl h0
theorem leaf_open {c : UInt8} {r r' : List UInt8} {q : Nat × Bool × Nat} (ho : openT c r = some q) : leafN c r' = 0 := by
  unfold leafN
  have : c ≠ 103 ∧ ¬ (c = 110 ∨ c = 117) ∧ c ≠ 105 ∧ c ≠ 116 := by
    refine ⟨?_, ?_, ?_, ?_⟩
    · rintro rfl; simp [openT] at ho
    · rintro (rfl | rfl) <;> simp [openT] at ho
    · rintro rfl; simp [openT] at ho
    · rintro rfl; simp [openT] at ho
  rw [if_neg this.1, if_neg this.2.1, if_neg this.2.2.1, if_neg this.2.2.2]
theorem openT_local {c : UInt8} {r r' : List UInt8} {m : Nat} {q : Nat × Bool × Nat} (h : r.take m = r'.take m) (hm : 1 ≤ m) (hr' : 1 ≤ r'.length) (ho : openT c r = some q) : openT c r' = some q := by
  obtain ⟨k, rfl⟩ : ∃ k, m = k + 1 := ⟨m - 1, by omega⟩
  cases r' with
  | nil => simp at hr'
  | cons d' r' =>
    cases r with
    | nil => simp at h
    | cons d r =>
      rw [List.take_succ_cons, List.take_succ_cons] at h
      injection h with h1 h2
      subst h1
      rw [← ho]; rfl
theorem specE_local {s t : List UInt8} {E : Nat} (hst : s.take E = t.take E) (hs : E ≤ s.length) (ht : E ≤ t.length) : ∀ (left a : Nat), 0 ≤ (specE s left a).1 → (specE s left a).1 ≤ (E : Int) → specE t left a = specE s left a
  | 0, a, h, _ => by simp [specE] at h
  | left + 1, a, h, hE => by
    have hle := specE_le s (left + 1) a h
    rw [specE_succ] at h hE hle
    rw [specE_succ, specE_succ s left a]
    cases hd : s.drop a with
    | nil => rw [hd] at h; simp at h
    | cons c r =>
      rw [hd] at h hE hle
      obtain ⟨r', hd', hrr⟩ := drop_local hst (by omega) hd
      have hl1 := (drop_at hd).2
      have hl2 := (drop_at hd').2
      rw [hd']
      simp only at h hE hle ⊢
      by_cases h0 : leafN c r ≠ 0
      · rw [if_pos h0] at h hE hle
        simp only at hE hle
        have he := leafN_local hrr (by omega) (by omega) h0 (by omega)
        rw [he, if_pos h0, if_pos h0]
      · rw [if_neg h0] at h hE hle
        cases ho : openT c r with
        | none => rw [ho] at h; simp at h
        | some q =>
          obtain ⟨n, p, o⟩ := q
          rw [ho] at h hE hle
          simp only at h hE hle
          have hno := openT_some ho
          have hml := manyF_le (specE_le s left) n (a + o) [] 0 (by omega) h
          have := hml.2.2 hno.1
          rw [if_neg (by rw [leaf_open ho]; simp), if_neg h0, openT_local hrr (by omega) (by omega) ho]
          exact manyF_local hst (fun k hk hkE => specE_local hst hs ht left k hk hkE) (specE_le s left) n _ _ _ (by omega) h hE
/-! What is read further on. -/
def shE (k : Nat) (r : Int × Int) : Int × Int := if r.1 < 0 then r else (r.1 + (k : Int), r.2)
theorem manyF_shift {self self' : Nat → Int × Int} {s : List UInt8} {p : Bool} {k0 : Nat} (hs : ∀ k, self (k0 + k) = shE k0 (self' k)) : ∀ (n k : Nat) (last : List UInt8) (d : Nat), manyF self s p n (k0 + k) last d = shE k0 (manyF self' (s.drop k0) p n k last d)
  | 0, k, last, d => by
    have e : manyF self' (s.drop k0) p 0 k last d = ((k : Int), ((d + 1 : Nat) : Int)) := rfl
    rw [e]
    unfold shE
    rw [if_neg (show ¬ ((k : Int), ((d + 1 : Nat) : Int)).1 < 0 by simp only; omega)]
    show (((k0 + k : Nat) : Int), _) = _
    congr 1; omega
  | n + 1, k, last, d => by
    unfold manyF
    rw [hs k]
    by_cases hn : (self' k).1 < 0
    · rw [show shE k0 (self' k) = self' k from if_pos hn, if_pos hn, if_pos hn]
      unfold shE; rw [if_pos hn]
    · have e : shE k0 (self' k) = ((self' k).1 + (k0 : Int), (self' k).2) := if_neg hn
      rw [e]
      simp only
      rw [if_neg (by omega), if_neg hn]
      have e2 : ((s.drop (k0 + k)).take (((self' k).1 + (k0 : Int)).toNat - (k0 + k))) = (((s.drop k0).drop k).take ((self' k).1.toNat - k)) := by
        rw [List.drop_drop]; congr 1; omega
      rw [e2]
      by_cases hp : (p && strLt (((s.drop k0).drop k).take ((self' k).1.toNat - k)) last) = true
      · rw [if_pos hp, if_pos hp]; rfl
      · rw [if_neg hp, if_neg hp, show ((self' k).1 + (k0 : Int)).toNat = k0 + (self' k).1.toNat by omega]
        exact manyF_shift hs n _ _ _
theorem specE_shift (s : List UInt8) (k0 : Nat) : ∀ (left a : Nat), specE s left (k0 + a) = shE k0 (specE (s.drop k0) left a)
  | 0, a => rfl
  | left + 1, a => by
    rw [specE_succ, specE_succ (s.drop k0), List.drop_drop]
    cases hd : s.drop (k0 + a) with
    | nil => rfl
    | cons c r =>
      simp only
      by_cases h0 : leafN c r ≠ 0
      · rw [if_pos h0, if_pos h0]
        unfold shE; simp only; rw [if_neg (by omega)]; congr 1; omega
      · rw [if_neg h0, if_neg h0]
        cases ho : openT c r with
        | none => rfl
        | some q =>
          obtain ⟨n, p, o⟩ := q
          simp only
          rw [show k0 + a + o = k0 + (a + o) by omega]
          exact manyF_shift (fun k => specE_shift s k0 left k) n _ _ _
end Go.Proofs.Ytgomlcfoifkdiaa.G
