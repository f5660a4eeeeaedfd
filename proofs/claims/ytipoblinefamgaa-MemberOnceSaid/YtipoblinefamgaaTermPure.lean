/- Texts, numbers, and the reading of terms by the program. -/
import Derived.Test.YtipoblinefamgaaM3
import Derived.Test.YtipoblinefamgaaPureKit
namespace Go.Proofs.Ytipoblinefamgaa.G
open Go.RowKit Go.Eng Go.Proofs
set_option linter.unusedVariables false
set_option linter.unusedSimpArgs false
def leafI (r : List UInt8) : Nat := match r with | d :: _ => if 1 ≤ d.toNat ∧ d.toNat ≤ 8 then 2 else 0 | [] => 0
def leafT (r : List UInt8) : Nat := match r with | d :: e :: _ => if d.toNat = 0 ∧ e.toNat ≤ 100 ∧ e.toNat + 1 ≤ r.length - 1 then 3 + e.toNat else 0 | _ => 0
theorem leafI_cons (d : UInt8) (r : List UInt8) : leafI (d :: r) = if 1 ≤ d.toNat ∧ d.toNat ≤ 8 then 2 else 0 := rfl
theorem leafT_cons (d e : UInt8) (r : List UInt8) : leafT (d :: e :: r) = if d.toNat = 0 ∧ e.toNat ≤ 100 ∧ e.toNat + 1 ≤ (d :: e :: r).length - 1 then 3 + e.toNat else 0 := rfl
/-- How many bytes such a term has; 0: it is none. -/
def leafN (c : UInt8) (r : List UInt8) : Nat :=
  if c = 103 then 1 else if c = 110 ∨ c = 117 then (if 8 ≤ r.length then 9 else 0) else if c = 105 then leafI r else if c = 116 then leafT r else 0
theorem leaf_eq (c : UInt8) (r : List UInt8) : term_leaf.f (c :: r) = some (leafN c r : Int) := by
  have h256 : ∀ d : UInt8, d.toNat < 256 := fun d => UInt8.toNat_lt d
  unfold term_leaf.f leafN
  rw [idxS0, Option.bind_some]
  by_cases h1 : c = 103
  · subst h1
    rw [if_pos rfl]
    show term_leaf.k1 (103 :: r) 1 = _
    unfold term_leaf.k1
    rw [cond_f (by simp; omega)]; rfl
  rw [if_neg h1, show ((c.toNat : Int) == (103 : Int)) = false from byte_ne h1, cond_false]
  by_cases h2 : c = 110 ∨ c = 117
  · rw [if_pos h2]
    have : (cond ((c.toNat : Int) == (110 : Int)) (term_leaf.k4 (c :: r) (c.toNat : Int) ((c.toNat : Int) == (110 : Int))) (term_leaf.k4 (c :: r) (c.toNat : Int) ((c.toNat : Int) == (117 : Int)))) = term_leaf.k1 (c :: r) 9 := by
      rcases h2 with rfl | rfl <;> rfl
    rw [this]
    unfold term_leaf.k1
    by_cases h9 : 8 ≤ r.length
    · rw [if_pos h9, cond_f (by simp; omega)]; rfl
    · rw [if_neg h9, cond_t (by simp; omega)]; rfl
  rw [if_neg h2, show ((c.toNat : Int) == (110 : Int)) = false from byte_ne (fun q => h2 (.inl q)), cond_false, show ((c.toNat : Int) == (117 : Int)) = false from byte_ne (fun q => h2 (.inr q))]
  unfold term_leaf.k4
  rw [cond_false]
  by_cases h3 : c = 105
  · subst h3
    rw [if_pos rfl, show (((105 : UInt8).toNat : Int) == (105 : Int)) = true from rfl, cond_true]
    cases r with
    | nil => rfl
    | cons d r =>
      have hd := h256 d
      rw [cond_t (by simp; omega), idxS1, Option.bind_some]
      rw [leafI_cons]
      by_cases q1 : 1 ≤ d.toNat
      · rw [cond_t (by omega), Option.bind_some, decide_eq_true (show ((105 :: d :: r : List UInt8).length : Int) > 1 by simp; omega), decide_eq_true (show (d.toNat : Int) ≥ 1 by omega)]
        unfold term_leaf.k2 term_leaf.k1
        by_cases q2 : d.toNat ≤ 8
        · simp only [if_pos (And.intro q1 q2), cond_true, decide_eq_true (show (d.toNat : Int) ≤ 8 by omega)]
          rw [cond_f (by simp; omega)]; rfl
        · simp only [if_neg (fun q : 1 ≤ d.toNat ∧ d.toNat ≤ 8 => q2 q.2), cond_true, decide_eq_false (show ¬ (d.toNat : Int) ≤ 8 by omega), cond_false]
          rw [cond_f (by simp; omega)]; rfl
      · rw [cond_f (by omega), if_neg (fun q => q1 q.1), decide_eq_true (show ((105 :: d :: r : List UInt8).length : Int) > 1 by simp; omega), decide_eq_false (show ¬ (d.toNat : Int) ≥ 1 by omega)]
        unfold term_leaf.k2 term_leaf.k1
        simp only [cond_true, cond_false]
        rw [cond_f (by simp; omega)]; rfl
  rw [if_neg h3, show ((c.toNat : Int) == (105 : Int)) = false from byte_ne h3, cond_false]
  by_cases h4 : c = 116
  · subst h4
    rw [if_pos rfl, show (((116 : UInt8).toNat : Int) == (116 : Int)) = true from rfl, cond_true]
    match r with
    | [] => rfl
    | [d] => rfl
    | d :: e :: r =>
      have hd := h256 d
      have he := h256 e
      have hl : decide (((116 :: d :: e :: r : List UInt8).length : Int) ≥ 3) = true := decide_eq_true (by simp; omega)
      rw [hl, cond_true, idxS1, Option.bind_some]
      rw [leafT_cons]
      by_cases q1 : d.toNat = 0
      · rw [show ((d.toNat : Int) == (0 : Int)) = true by rw [q1]; rfl, cond_true, idxS2, Option.bind_some]
        unfold term_leaf.k3
        by_cases q2 : e.toNat ≤ 100
        · rw [decide_eq_true (show (e.toNat : Int) ≤ 100 by omega)]
          simp only [cond_true]
          rw [idxS2, Option.bind_some, Eng.i64_id (x := (e.toNat : Int)) (by omega) (by omega), Eng.i64_id (by omega) (by omega)]
          unfold term_leaf.k1
          by_cases q3 : e.toNat + 1 ≤ (d :: e :: r).length - 1
          · rw [if_pos ⟨q1, q2, q3⟩, cond_f (by simp at q3 ⊢; omega)]; simp
          · rw [if_neg (fun q => q3 q.2.2), cond_t (by simp at q3 ⊢; omega)]; rfl
        · rw [decide_eq_false (show ¬ (e.toNat : Int) ≤ 100 by omega), if_neg (fun q => q2 q.2.1)]
          simp only [cond_true, cond_false]
          unfold term_leaf.k1
          rw [cond_f (by simp; omega)]; rfl
      · rw [show ((d.toNat : Int) == (0 : Int)) = false from beq_eq_false_iff_ne.2 (by omega), cond_false, if_neg (fun q => q1 q.1)]
        unfold term_leaf.k3 term_leaf.k1
        simp only [cond_true, cond_false]
        rw [cond_f (by simp; omega)]; rfl
  rw [if_neg h4, show ((c.toNat : Int) == (116 : Int)) = false from byte_ne h4, cond_false]
  unfold term_leaf.k1
  rw [cond_f (by simp; omega)]; rfl

/-- What a term begins with that has others in it: how many, whether they are in order, and behind how many bytes they begin. -/
def openT (c : UInt8) (r : List UInt8) : Option (Nat × Bool × Nat) :=
  if c = 107 then (match r with | d :: _ => if d = 103 ∨ d = 101 then some (1, false, 1) else none | [] => none) else
  if c = 104 then some (1, false, 1) else if c = 112 ∨ c = 120 then some (2, false, 1) else if c = 115 then some (3, false, 1) else
  if c = 101 then (match r with | d :: _ => if 1 ≤ d.toNat ∧ d.toNat ≤ 32 then some (d.toNat, true, 2) else none | [] => none) else none
theorem drop_at {s : List UInt8} {a : Nat} {c : UInt8} {r : List UInt8} (h : s.drop a = c :: r) : s[a]? = some c ∧ s.length = a + 1 + r.length := by
  have h1 := congrArg (fun l => l[0]?) h
  have h2 := congrArg List.length h
  simp only [List.getElem?_drop, List.getElem?_cons_zero, Nat.add_zero] at h1
  simp only [List.length_drop, List.length_cons] at h2
  exact ⟨h1, by omega⟩
theorem drop_at1 {s : List UInt8} {a : Nat} {c d : UInt8} {r : List UInt8} (h : s.drop a = c :: d :: r) : s[a + 1]? = some d := by
  have h1 := congrArg (fun l => l[1]?) h
  simpa only [List.getElem?_drop, List.getElem?_cons_succ, List.getElem?_cons_zero] using h1
def openV (a : Nat) : Option (Nat × Bool × Nat) → D_term_open × Int × Bool
  | some (n, p, o) => (((n : Int), (0 : Int), p, ((a + o : Nat) : Int), []), ((a + o : Nat) : Int), true)
  | none => (((0 : Int), (0 : Int), false, ((a + 1 : Nat) : Int), []), (0 : Int), false)
theorem begin_eq {s : List UInt8} {a : Nat} {c : UInt8} {r : List UInt8} (h : s.drop a = c :: r) (ha : a ≤ 4611686018427387904) : term_begin.f s (a : Int) = some (openV a (openT c r)) := by
  have h256 : ∀ d : UInt8, d.toNat < 256 := fun d => UInt8.toNat_lt d
  obtain ⟨hc, hl⟩ := drop_at h
  have e2 : IntKind.i64.wrap ((a : Int) + (2 : Int)) = ((a + 2 : Nat) : Int) := by rw [Eng.i64_id (by omega) (by omega)]; omega
  unfold term_begin.f openT
  rw [idxS_at hc, Option.bind_some, wrap1 a (by omega)]
  by_cases h1 : c = 107
  · subst h1
    rw [if_pos rfl, show (((107 : UInt8).toNat : Int) == (107 : Int)) = true from rfl, cond_true]
    cases r with
    | nil =>
      rw [cond_t (by simp at hl; omega), decide_eq_true (show ((a + 1 : Nat) : Int) ≥ (s.length : Int) by simp at hl; omega)]
      unfold term_begin.k2
      rw [wrap1 a (by omega)]; rfl
    | cons d r =>
      have hd1 := drop_at1 h
      rw [cond_f (by simp at hl; omega), idxS_at hd1, Option.bind_some, Option.bind_some, decide_eq_false (show ¬ ((a + 1 : Nat) : Int) ≥ (s.length : Int) by simp at hl; omega)]
      unfold term_begin.k2 term_begin.k1
      rw [wrap1 a (by omega)]
      by_cases q1 : d = 103
      · subst q1; rfl
      · by_cases q2 : d = 101
        · subst q2; rfl
        · have b1 := byte_ne (k := 103) q1
          have b2 := byte_ne (k := 101) q2
          simp only [bne, show ((d.toNat : Int) == (103 : Int)) = false from b1, show ((d.toNat : Int) == (101 : Int)) = false from b2, Bool.not_false, cond_true, cond_false]
          rw [if_neg (fun q => q.elim q1 q2)]; rfl
  rw [if_neg h1, show ((c.toNat : Int) == (107 : Int)) = false from byte_ne h1, cond_false]
  by_cases h2 : c = 104
  · subst h2
    rw [if_pos rfl]
    rfl
  rw [if_neg h2, show ((c.toNat : Int) == (104 : Int)) = false from byte_ne h2, cond_false]
  unfold term_begin.k4 term_begin.k3 term_begin.k1
  rw [wrap1 a (by omega), e2]
  by_cases h3 : c = 112 ∨ c = 120
  · rw [if_pos h3]
    rcases h3 with rfl | rfl <;> rfl
  rw [if_neg h3, show ((c.toNat : Int) == (112 : Int)) = false from byte_ne (fun q => h3 (.inl q)), show ((c.toNat : Int) == (120 : Int)) = false from byte_ne (fun q => h3 (.inr q))]
  simp only [cond_false]
  by_cases h4 : c = 115
  · subst h4; rfl
  rw [if_neg h4, show ((c.toNat : Int) == (115 : Int)) = false from byte_ne h4, cond_false]
  by_cases h5 : c = 101
  · subst h5
    rw [if_pos rfl, show (((101 : UInt8).toNat : Int) == (101 : Int)) = true from rfl, cond_true]
    cases r with
    | nil =>
      rw [cond_t (by simp at hl; omega), decide_eq_true (show ((a + 1 : Nat) : Int) ≥ (s.length : Int) by simp at hl; omega)]
      rfl
    | cons d r =>
      have hd := h256 d
      have hd1 := drop_at1 h
      rw [cond_f (by simp at hl; omega), idxS_at hd1, Option.bind_some, Option.bind_some, Option.bind_some, decide_eq_false (show ¬ ((a + 1 : Nat) : Int) ≥ (s.length : Int) by simp at hl; omega)]
      by_cases q1 : 1 ≤ d.toNat
      · rw [cond_f (by omega), decide_eq_false (show ¬ (d.toNat : Int) < 1 by omega)]
        by_cases q2 : d.toNat ≤ 32
        · rw [decide_eq_false (show ¬ (d.toNat : Int) > 32 by omega), Eng.i64_id (by omega) (by omega)]
          simp only [cond_true, cond_false]
          rw [if_pos ⟨q1, q2⟩]; rfl
        · rw [decide_eq_true (show (d.toNat : Int) > 32 by omega)]
          simp only [cond_true, cond_false]
          rw [if_neg (fun q => q2 q.2)]; rfl
      · rw [cond_t (by omega), decide_eq_true (show (d.toNat : Int) < 1 by omega)]
        simp only [cond_true, cond_false]
        rw [if_neg (fun q => q1 q.1)]; rfl
  rw [if_neg h5, show ((c.toNat : Int) == (101 : Int)) = false from byte_ne h5, cond_false]
  rfl
/-- Parts, one behind the other: where the last one ends, and the depth; below 0: what is wrong. -/
def manyF (self : Nat → Int × Int) (s : List UInt8) (p : Bool) : Nat → Nat → List UInt8 → Nat → Int × Int
  | 0, k, last, depth => ((k : Int), ((depth + 1 : Nat) : Int))
  | n + 1, k, last, depth =>
    if (self k).1 < 0 then ((self k).1, 0) else
    if (p && strLt ((s.drop k).take ((self k).1.toNat - k)) last) = true then (-1, 0) else
    manyF self s p n (self k).1.toNat ((s.drop k).take ((self k).1.toNat - k)) (max depth (self k).2.toNat)
def specE (s : List UInt8) : Nat → Nat → Int × Int
  | 0, _ => (-2, 0)
  | left + 1, a => match s.drop a with
    | [] => (-1, 0)
    | c :: r => if leafN c r ≠ 0 then (((a + leafN c r : Nat) : Int), 1) else match openT c r with
      | none => (-1, 0)
      | some (n, p, o) => manyF (specE s left) s p n (a + o) [] 0
theorem leafN_le (c : UInt8) (r : List UInt8) : leafN c r ≤ r.length + 1 := by
  unfold leafN
  split
  · omega
  split
  · split <;> omega
  split
  · unfold leafI; split
    · split <;> simp
    · omega
  split
  · unfold leafT; split
    · split
      · rename_i h; have := h.2.2; simp at this ⊢; omega
      · omega
    · omega
  · omega
/-- What is read of parts ends behind where it begins, and within the text. -/
theorem manyF_le {self : Nat → Int × Int} {s : List UInt8} {p : Bool} (hs : ∀ k, 0 ≤ (self k).1 → (k : Int) < (self k).1 ∧ (self k).1 ≤ (s.length : Int)) : ∀ (n k : Nat) (last : List UInt8) (d : Nat), k ≤ s.length → 0 ≤ (manyF self s p n k last d).1 → (k : Int) ≤ (manyF self s p n k last d).1 ∧ (manyF self s p n k last d).1 ≤ (s.length : Int) ∧ (0 < n → (k : Int) < (manyF self s p n k last d).1)
  | 0, k, last, d, hk, _ => by
    simp only [manyF]
    exact ⟨Int.le_refl _, by omega, fun h => by omega⟩
  | n + 1, k, last, d, hk, h => by
    unfold manyF at h ⊢
    split at h
    · rename_i hn; simp only at h; omega
    · rename_i hn
      rw [if_neg hn]
      split at h
      · simp only at h; omega
      · rename_i hp
        rw [if_neg hp]
        have h1 := hs k (by omega)
        have h2 := manyF_le hs n (self k).1.toNat _ _ (by omega) h
        exact ⟨by omega, h2.2.1, fun _ => by omega⟩
theorem specE_le (s : List UInt8) : ∀ (left a : Nat), 0 ≤ (specE s left a).1 → (a : Int) < (specE s left a).1 ∧ (specE s left a).1 ≤ (s.length : Int)
  | 0, a, h => by simp [specE] at h
  | left + 1, a, h => by
    unfold specE at h ⊢
    cases hd : s.drop a with
    | nil => rw [hd] at h; simp at h
    | cons c r =>
      rw [hd] at h
      obtain ⟨_, hl⟩ := drop_at hd
      simp only at h ⊢
      by_cases h0 : leafN c r ≠ 0
      · rw [if_pos h0] at h ⊢
        have := leafN_le c r
        simp only
        omega
      · rw [if_neg h0] at h ⊢
        cases ho : openT c r with
        | none => rw [ho] at h; simp at h
        | some q =>
          obtain ⟨n, p, o⟩ := q
          rw [ho] at h
          simp only at h ⊢
          have hno : 0 < n ∧ 0 < o ∧ (a + o ≤ s.length) := by
            unfold openT at ho
            split at ho
            · split at ho
              · split at ho
                · cases ho; simp at hl; omega
                · cases ho
              · cases ho
            split at ho
            · cases ho; omega
            split at ho
            · cases ho; omega
            split at ho
            · cases ho; omega
            split at ho
            · split at ho
              · split at ho
                · rename_i hq; cases ho; simp at hl; omega
                · cases ho
              · cases ho
            · cases ho
          have := manyF_le (p := p) (specE_le s left) n (a + o) [] 0 hno.2.2 h
          omega
theorem specE_succ (s : List UInt8) (left a : Nat) : specE s (left + 1) a = match s.drop a with
    | [] => (-1, 0)
    | c :: r => if leafN c r ≠ 0 then (((a + leafN c r : Nat) : Int), 1) else match openT c r with
      | none => (-1, 0)
      | some (n, p, o) => manyF (specE s left) s p n (a + o) [] 0 := rfl
theorem openT_some {c : UInt8} {r : List UInt8} {n o : Nat} {p : Bool} (ho : openT c r = some (n, p, o)) : 0 < n ∧ n ≤ 32 ∧ 0 < o ∧ o ≤ r.length + 1 ∧ o ≤ 2 := by
  unfold openT at ho
  split at ho
  · split at ho
    · split at ho
      · cases ho; simp
      · cases ho
    · cases ho
  split at ho
  · cases ho; simp
  split at ho
  · cases ho; simp
  split at ho
  · cases ho; simp
  split at ho
  · split at ho
    · split at ho
      · rename_i hq; cases ho; simp; omega
      · cases ho
    · cases ho
  · cases ho
/-- How deep: as many as are left, at most. -/
theorem manyF_depth {self : Nat → Int × Int} {s : List UInt8} {p : Bool} {left : Nat} (hs : ∀ k, 0 ≤ (self k).2 ∧ (self k).2 ≤ (left : Int)) : ∀ (n k : Nat) (last : List UInt8) (d : Nat), d ≤ left → 0 ≤ (manyF self s p n k last d).2 ∧ (manyF self s p n k last d).2 ≤ ((left + 1 : Nat) : Int)
  | 0, k, last, d, hd => by simp only [manyF]; omega
  | n + 1, k, last, d, hd => by
    unfold manyF
    split
    · simp only; omega
    · split
      · simp only; omega
      · have := hs k
        exact manyF_depth hs n _ _ _ (by omega)
theorem specE_depth (s : List UInt8) : ∀ (left a : Nat), 0 ≤ (specE s left a).2 ∧ (specE s left a).2 ≤ (left : Int)
  | 0, a => by simp [specE]
  | left + 1, a => by
    unfold specE
    cases hd : s.drop a with
    | nil => simp only; omega
    | cons c r =>
      simp only
      split
      · simp only; omega
      · cases ho : openT c r with
        | none => simp only; omega
        | some q =>
          obtain ⟨n, p, o⟩ := q
          exact manyF_depth (specE_depth s left) n _ _ _ (by omega)
set_option maxHeartbeats 1000000 in
theorem scan1_topP (x0 : List UInt8) (a n : Int) (E fr : Nat) (hE : a + n = (E : Int)) (hEl : E ≤ x0.length) (hfr : fr ≤ E) (hb : x0.length ≤ 140737488355328) (st : List D_term_open) (hst : st.length ≤ 1000) (l dp d : Nat) (hl : 0 < l) (hl2 : l ≤ 1000) (hd : d ≤ 1000) (hdp : dp ≤ 1000) (p : Bool) (la : List UInt8) :
    term_scan.b1 x0 a n (st ++ [((l : Int), (dp : Int), p, (fr : Int), la)]) (d : Int) = if (p && strLt ((x0.drop fr).take (E - fr)) la) = true then some (.inr (Sum.inr ((0 : Int), (0 : Int), (2 : Int)))) else if 1 < l then some (.inr (Sum.inl (st ++ [(((l - 1 : Nat) : Int), ((max dp d : Nat) : Int), p, (E : Int), (x0.drop fr).take (E - fr))]))) else some (.inl (st, ((max dp d + 1 : Nat) : Int))) := by
  unfold term_scan.b1
  have hlen : ∀ o : D_term_open, (st ++ [o]).length = st.length + 1 := fun o => by simp
  have e0 : ∀ o : D_term_open, (((st ++ [o]).length : Int) == (0 : Int)) = false := fun o => beq_eq_false_iff_ne.2 (by rw [hlen]; omega)
  have e1 : ∀ o : D_term_open, IntKind.i64.wrap (((st ++ [o]).length : Int) - (1 : Int)) = (st.length : Int) := fun o => by rw [hlen, Eng.i64_id (by omega) (by omega)]; omega
  have eg : ∀ o : D_term_open, idxL (st ++ [o]) (st.length : Int) = some o := fun o => by rw [idxL_nat]; simp
  have es : ∀ o x : D_term_open, (st ++ [o]).set st.length x = st ++ [x] := fun o x => by rw [List.set_append_right _ _ (Nat.le_refl _)]; simp
  have e2 : IntKind.i64.wrap (a + n) = (E : Int) := by rw [hE, Eng.i64_id (by omega) (by omega)]
  have e3 : IntKind.i64.wrap ((l : Int) - (1 : Int)) = ((l - 1 : Nat) : Int) := by rw [Eng.i64_id (by omega) (by omega)]; omega
  have e4 : maxI (dp : Int) (d : Int) = ((max dp d : Nat) : Int) := by unfold maxI; split <;> omega
  have e5 : IntKind.i64.wrap (((max dp d : Nat) : Int) + (1 : Int)) = ((max dp d + 1 : Nat) : Int) := by rw [Eng.i64_id (by omega) (by omega)]; omega
  rw [e0, cond_false, e1, Option.bind_some, eg, Option.bind_some]
  simp only [e2, slc_lt hfr hEl, Option.bind_some, e3, e4, e5, Int.toNat_natCast, es, e1]
  have ec : (cond p (strLt ((x0.drop fr).take (E - fr)) la) false) = (p && strLt ((x0.drop fr).take (E - fr)) la) := by cases p <;> rfl
  rw [ec]
  cases hc : (p && strLt ((x0.drop fr).take (E - fr)) la) with
  | true => rw [cond_true, if_pos rfl]
  | false =>
    rw [cond_false, if_neg (by decide)]
    by_cases h : 1 < l
    · rw [if_pos h, cond_t (by omega)]
    · rw [if_neg h, cond_f (by omega)]
      have : slcM (st ++ [(((l - 1 : Nat) : Int), ((max dp d : Nat) : Int), p, (E : Int), (x0.drop fr).take (E - fr))]) (0 : Int) (st.length : Int) = some st := by
        rw [show (0 : Int) = ((0 : Nat) : Int) from rfl, slc_lt (Nat.zero_le _) (by simp)]
        simp
      rw [this]; rfl
theorem scan1_nilP (x0 : List UInt8) (a n d : Int) (E : Nat) (hE : a + n = (E : Int)) (hb : E ≤ 140737488355328) : term_scan.b1 x0 a n [] d = some (.inr (Sum.inr ((E : Int), d, (0 : Int)))) := by
  unfold term_scan.b1
  rw [show (((([] : List D_term_open).length : Int)) == (0 : Int)) = true from rfl, cond_true, hE, Eng.i64_id (by omega) (by omega)]
/-- The rest, behind a term that ends there. -/
noncomputable def afterM (s : List UInt8) (a n : Int) (E : Nat) (st : List D_term_open) (d : Nat) : Option (Int × Int × Int) :=
  (loopM (fun q : (List D_term_open) × Int => term_scan.b1 s a n q.1 q.2) (st, (d : Int))).bind (Sum.elim (fun st' => loopM (fun q : (List D_term_open) × Int => term_scan.b2 s q.1 q.2) (st', (E : Int))) some)
theorem b1_same (s : List UInt8) (a n a' n' : Int) (h : a + n = a' + n') : term_scan.b1 s a n = term_scan.b1 s a' n' := by
  funext st d
  unfold term_scan.b1
  rw [h]
theorem afterM_same {s : List UInt8} {a n a' n' : Int} (E : Nat) (st : List D_term_open) (d : Nat) (h : a + n = a' + n') : afterM s a n E st d = afterM s a' n' E st d := by
  unfold afterM
  rw [b1_same s a n a' n' h]
def errC (e : Int) : Int := if e = -2 then 4 else 2
/-- What comes of the reading of a term with so many open ones. -/
noncomputable def goM (s : List UInt8) (st : List D_term_open) (r : Int × Int) : Option (Int × Int × Int) :=
  if r.1 < 0 then some ((0 : Int), (0 : Int), errC r.1) else afterM s r.1 0 r.1.toNat st r.2.toNat
noncomputable def scanL (s : List UInt8) (st : List D_term_open) (a : Nat) : Option (Int × Int × Int) := loopM (fun q : (List D_term_open) × Int => term_scan.b2 s q.1 q.2) (st, (a : Int))
theorem after_top {s : List UInt8} {E fr : Nat} (hEl : E ≤ s.length) (hfr : fr ≤ E) (hb : s.length ≤ 140737488355328) {st : List D_term_open} (hst : st.length ≤ 1000) {l dp d : Nat} (hl : 0 < l) (hl2 : l ≤ 1000) (hd : d ≤ 1000) (hdp : dp ≤ 1000) (p : Bool) (la : List UInt8) :
    afterM s (E : Int) 0 E (st ++ [((l : Int), (dp : Int), p, (fr : Int), la)]) d = if (p && strLt ((s.drop fr).take (E - fr)) la) = true then some ((0 : Int), (0 : Int), (2 : Int)) else if 1 < l then scanL s (st ++ [(((l - 1 : Nat) : Int), ((max dp d : Nat) : Int), p, (E : Int), (s.drop fr).take (E - fr))]) E else afterM s (E : Int) 0 E st (max dp d + 1) := by
  conv => lhs; unfold afterM
  rw [loop_unroll]
  have h := scan1_topP s (E : Int) 0 E fr (by omega) hEl hfr hb st hst l dp d hl hl2 hd hdp p la
  show ((term_scan.b1 s (E : Int) 0 (st ++ [((l : Int), (dp : Int), p, (fr : Int), la)]) (d : Int)).bind _).bind _ = _
  rw [h]
  by_cases h1 : (p && strLt ((s.drop fr).take (E - fr)) la) = true
  · rw [if_pos h1, if_pos h1]; rfl
  · rw [if_neg h1, if_neg h1]
    by_cases h2 : 1 < l
    · rw [if_pos h2, if_pos h2]; rfl
    · rw [if_neg h2, if_neg h2]; rfl
theorem leaf_ne0 {c : UInt8} {r : List UInt8} (h : leafN c r ≠ 0) : (((leafN c r : Nat) : Int) == (0 : Int)) = false := beq_eq_false_iff_ne.2 (by omega)
theorem scan_many {s : List UInt8} (hb : s.length ≤ 140737488355328) {left : Nat} (hleft : left ≤ 400) {p : Bool}
    (ih : ∀ (st : List D_term_open) (k : Nat), st.length + left = 400 → k ≤ s.length → scanL s st k = goM s st (specE s left k)) :
    ∀ (m k : Nat) (last : List UInt8) (d : Nat) (st : List D_term_open), 0 < m → m ≤ 32 → st.length + 1 + left = 400 → k ≤ s.length → d ≤ left →
    scanL s (st ++ [((m : Int), (d : Int), p, (k : Int), last)]) k = goM s st (manyF (specE s left) s p m k last d)
  | 0, k, last, d, st, h, _, _, _, _ => by omega
  | m + 1, k, last, d, st, _, hm, hst, hk, hd => by
    rw [ih (st ++ [(((m + 1 : Nat) : Int), (d : Int), p, (k : Int), last)]) k (by rw [List.length_append]; simpa using hst) hk]
    unfold manyF
    conv => lhs; unfold goM
    by_cases hn : (specE s left k).1 < 0
    · rw [if_pos hn, if_pos hn]
      unfold goM; rw [if_pos hn]
    · rw [if_neg hn, if_neg hn]
      have hle := specE_le s left k (by omega)
      have hdep := specE_depth s left k
      obtain ⟨E, hE⟩ : ∃ E : Nat, (specE s left k).1 = (E : Int) := ⟨(specE s left k).1.toNat, by omega⟩
      rw [hE] at hle ⊢
      rw [Int.toNat_natCast, after_top (by omega) (by omega) hb (by omega) (by omega) (by omega) (by omega) (by omega)]
      by_cases hp : (p && strLt ((s.drop k).take (E - k)) last) = true
      · rw [if_pos hp, if_pos hp]; rfl
      · rw [if_neg hp, if_neg hp]
        by_cases h1 : 1 < m + 1
        · rw [if_pos h1, Nat.add_sub_cancel]
          exact scan_many hb hleft ih m E _ _ st (by omega) (by omega) hst (by omega) (by omega)
        · rw [if_neg h1]
          obtain rfl : m = 0 := by omega
          have e : manyF (specE s left) s p 0 E ((s.drop k).take (E - k)) (max d (specE s left k).2.toNat) = ((E : Int), ((max d (specE s left k).2.toNat + 1 : Nat) : Int)) := rfl
          rw [e]
          unfold goM
          rw [if_neg (show ¬ ((E : Int), ((max d (specE s left k).2.toNat + 1 : Nat) : Int)).1 < 0 by simp only; omega)]
          simp only [Int.toNat_natCast]
theorem scan_go {s : List UInt8} (hb : s.length ≤ 140737488355328) : ∀ (left : Nat) (st : List D_term_open) (k : Nat), st.length + left = 400 → k ≤ s.length → scanL s st k = goM s st (specE s left k)
  | 0, st, k, hst, hk => by
    unfold scanL
    rw [loop_unroll]
    show (term_scan.b2 s st (k : Int)).bind _ = _
    unfold term_scan.b2
    rw [show ((st.length : Int) == (400 : Int)) = true by simp; omega]
    rfl
  | left + 1, st, k, hst, hk => by
    have ih := scan_go hb left
    rw [specE_succ]
    conv => lhs; unfold scanL
    rw [loop_unroll]
    show (term_scan.b2 s st (k : Int)).bind _ = _
    unfold term_scan.b2
    rw [show ((st.length : Int) == (400 : Int)) = false from beq_eq_false_iff_ne.2 (by omega), cond_false]
    cases hd : s.drop k with
    | nil =>
      have : s.length ≤ k := by have := congrArg List.length hd; simp at this; omega
      rw [cond_t (by omega)]; rfl
    | cons c r =>
      have hl := (drop_at hd).2
      have hlf := leafN_le c r
      rw [cond_f (by omega), slc_to hk, Option.bind_some, hd, leaf_eq, Option.bind_some]
      simp only
      by_cases h0 : leafN c r ≠ 0
      · rw [leaf_ne0 h0, cond_false, if_pos h0]
        unfold goM
        rw [if_neg (show ¬ ((((k + leafN c r : Nat) : Int), (1 : Int)).1 < 0) by simp only; omega)]
        simp only [Int.toNat_natCast]
        rw [afterM_same (a := ((k + leafN c r : Nat) : Int)) (n := 0) (a' := (k : Int)) (n' := ((leafN c r : Nat) : Int)) _ _ _ (by omega)]
        unfold afterM
        rw [Option.bind_assoc]
        show _ = (loopM (fun q : (List D_term_open) × Int => term_scan.b1 s (k : Int) ((leafN c r : Nat) : Int) q.1 q.2) (st, (1 : Int))).bind _
        congr 1
        funext q
        cases q with
        | inl st' =>
          simp only [Sum.elim_inl, Option.bind_some]
          rw [Eng.i64_id (by omega) (by omega)]
          congr 2
        | inr o => rfl
      · have h00 : leafN c r = 0 := by omega
        rw [h00, if_neg (by simp), show ((((0 : Nat) : Int)) == (0 : Int)) = true from rfl, cond_true, begin_eq hd (by omega), Option.bind_some]
        cases ho : openT c r with
        | none => rfl
        | some q =>
          obtain ⟨n, p, o⟩ := q
          have hno := openT_some ho
          simp only [openV, Bool.not_true, cond_false]
          rw [room_of (by omega), Option.bind_some, Sum.elim_inl]
          exact scan_many hb (by omega) ih n (k + o) [] 0 st hno.1 hno.2.1 (by omega) (by omega) (by omega)
/-- The program's scan. -/
theorem scan_spec {s : List UInt8} (hb : s.length ≤ 140737488355328) : term_scan.f s = some (if (specE s 400 0).1 < 0 then ((0 : Int), (0 : Int), errC (specE s 400 0).1) else ((specE s 400 0).1, (specE s 400 0).2, (0 : Int))) := by
  unfold term_scan.f
  have h := scan_go hb 400 [] 0 rfl (Nat.zero_le _)
  unfold scanL at h
  have h' : loopM (fun q : (List D_term_open) × Int => term_scan.b2 s q.1 q.2) (([] : List D_term_open), (0 : Int)) = goM s [] (specE s 400 0) := h
  rw [h']
  unfold goM
  by_cases hn : (specE s 400 0).1 < 0
  · rw [if_pos hn, if_pos hn]; rfl
  · rw [if_neg hn, if_neg hn]
    have hle := specE_le s 400 0 (by omega)
    have hdep := specE_depth s 400 0
    unfold afterM
    rw [loop_unroll]
    have h1 := scan1_nilP s (specE s 400 0).1 0 ((specE s 400 0).2.toNat : Int) (specE s 400 0).1.toNat (by omega) (by omega)
    show (((term_scan.b1 s (specE s 400 0).1 0 [] ((specE s 400 0).2.toNat : Int)).bind _).bind _).bind _ = _
    rw [h1]
    simp only [Option.bind_some, Sum.elim_inr, Sum.elim_inl]
    rw [Int.toNat_of_nonneg (by omega), Int.toNat_of_nonneg (by omega)]
def takeE (s : List UInt8) : List UInt8 × List UInt8 × Int :=
  if (specE s 400 0).1 < 0 then ([], [], errC (specE s 400 0).1) else if 20000 < (specE s 400 0).1 then ([], [], 3) else (s.take (specE s 400 0).1.toNat, s.drop (specE s 400 0).1.toNat, 0)
theorem slc_e {s : List UInt8} {e : Int} (h0 : 0 ≤ e) (h1 : e ≤ (s.length : Int)) : slcM s (0 : Int) e = some (s.take e.toNat) ∧ slcM s e (s.length : Int) = some (s.drop e.toNat) := by
  obtain ⟨n, rfl⟩ : ∃ n : Nat, e = (n : Int) := ⟨e.toNat, by omega⟩
  refine ⟨?_, ?_⟩
  · rw [show (0 : Int) = ((0 : Nat) : Int) from rfl, slc_lt (Nat.zero_le _) (by omega)]
    simp
  · rw [slc_to (by omega)]; simp
theorem take_spec {s : List UInt8} (hb : s.length ≤ 140737488355328) : term_Take.f s = some (takeE s) := by
  unfold term_Take.f takeE
  rw [scan_spec hb, Option.bind_some]
  by_cases hn : (specE s 400 0).1 < 0
  · rw [if_pos hn, if_pos hn]
    have : (errC (specE s 400 0).1 != 0) = true := by unfold errC; split <;> rfl
    simp only
    rw [this, cond_true]
  · rw [if_neg hn, if_neg hn]
    simp only [bne_self_eq_false, cond_false]
    have hle := specE_le s 400 0 (by omega)
    by_cases h2 : 20000 < (specE s 400 0).1
    · rw [if_pos h2, cond_t (by omega)]
    · rw [if_neg h2, cond_f (by omega), (slc_e (by omega) hle.2).1, Option.bind_some, (slc_e (by omega) hle.2).2, Option.bind_some]
def rightB (s : List UInt8) : Bool := decide ((specE s 400 0).1 = (s.length : Int) ∧ s.length ≤ 20000)
theorem takeE_right (s : List UInt8) : takeE s = (s, [], 0) ↔ rightB s = true := by
  unfold takeE rightB
  rw [decide_eq_true_eq]
  by_cases hn : (specE s 400 0).1 < 0
  · rw [if_pos hn]
    constructor
    · intro h
      have h3 : errC (specE s 400 0).1 = 0 := by injection h with _ h; injection h
      unfold errC at h3; split at h3 <;> omega
    · rintro ⟨h, _⟩; omega
  · rw [if_neg hn]
    have hle := specE_le s 400 0 (by omega)
    by_cases h2 : 20000 < (specE s 400 0).1
    · rw [if_pos h2]
      constructor
      · intro h
        have h3 : (3 : Int) = 0 := by injection h with _ h; injection h
        omega
      · rintro ⟨h, h'⟩; omega
    · rw [if_neg h2]
      constructor
      · intro h
        injection h with h1 h3
        injection h3 with h3 h4
        have := congrArg List.length h3
        simp at this
        omega
      · rintro ⟨h, h'⟩
        have : (specE s 400 0).1.toNat = s.length := by omega
        rw [this]; simp
theorem right_spec {s : List UInt8} (hb : s.length ≤ 140737488355328) : term_Right.f s = some (rightB s) := by
  unfold term_Right.f
  rw [take_spec hb, Option.bind_some]
  congr 1
  rw [strEq_eq, strEq_eq, Bool.eq_iff_iff, ← takeE_right]
  obtain ⟨a, b, c⟩ := takeE s
  constructor
  · intro h
    by_cases h1 : c = 0
    · subst h1
      by_cases h2 : b = []
      · subst h2
        by_cases h3 : a = s
        · rw [h3]
        · simp [h3] at h
      · simp [h2] at h
    · simp [h1] at h
  · intro h
    cases h
    simp
theorem rightB_len {s : List UInt8} (h : rightB s = true) : 0 < s.length ∧ s.length ≤ 20000 := by
  unfold rightB at h
  rw [decide_eq_true_eq] at h
  have := specE_le s 400 0 (by omega)
  omega
end Go.Proofs.Ytipoblinefamgaa.G
