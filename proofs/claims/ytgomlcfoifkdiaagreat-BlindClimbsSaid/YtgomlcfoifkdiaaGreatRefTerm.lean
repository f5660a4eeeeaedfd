/- The reading of terms by the reference; rows as terms, by both. -/
import Derived.Test.YtgomlcfoifkdiaaGreatTermDec
import Derived.Test.YtgomlcfoifkdiaaGreatHP
import Derived.Test.YtgomlcfoifkdiaaGreatHQ
namespace Go.Proofs.YtgomlcfoifkdiaaGreat.G
open Go.RowKit Go.Eng Go.Proofs Go.Proofs.YtgomlcfoifkdiaaGreat.Cut
set_option linter.unusedVariables false
set_option linter.unusedSimpArgs false
/-- To the reference: below 0 it is none. -/
def leafZ (c : UInt8) (r : List UInt8) : Int := if leafN c r = 0 then -1 else (leafN c r : Int)
theorem rleaf_k1 (s : List UInt8) (v : Int) : gemotref1_leaf.k1 s v = some (if v > (s.length : Int) then -1 else v) := by
  unfold gemotref1_leaf.k1
  by_cases h : v > (s.length : Int)
  · rw [cond_t h, if_pos h]
  · rw [cond_f h, if_neg h]
theorem rleaf_eq (c : UInt8) (r : List UInt8) : gemotref1_leaf.f (c :: r) = some (leafZ c r) := by
  have h256 : ∀ d : UInt8, d.toNat < 256 := fun d => UInt8.toNat_lt d
  unfold gemotref1_leaf.f leafZ leafN
  rw [idxS0, Option.bind_some]
  by_cases h2 : c = 110 ∨ c = 117
  · have : (cond ((c.toNat : Int) == (110 : Int)) (gemotref1_leaf.k4 (c :: r) (c.toNat : Int) ((c.toNat : Int) == (110 : Int))) (gemotref1_leaf.k4 (c :: r) (c.toNat : Int) ((c.toNat : Int) == (117 : Int)))) = gemotref1_leaf.k1 (c :: r) 9 := by
      rcases h2 with rfl | rfl <;> rfl
    have h1 : c ≠ 103 := by rcases h2 with rfl | rfl <;> decide
    rw [this, if_neg h1, if_pos h2, rleaf_k1]
    by_cases h9 : 8 ≤ r.length
    · rw [if_pos h9, if_neg (by simp; omega)]; rfl
    · rw [if_neg h9, if_pos (by simp; omega)]; rfl
  rw [if_neg h2, show ((c.toNat : Int) == (110 : Int)) = false from byte_ne (fun q => h2 (.inl q)), cond_false, show ((c.toNat : Int) == (117 : Int)) = false from byte_ne (fun q => h2 (.inr q))]
  unfold gemotref1_leaf.k4
  rw [cond_false]
  by_cases h1 : c = 103
  · subst h1
    rw [if_pos rfl]
    show gemotref1_leaf.k1 (103 :: r) 1 = _
    rw [rleaf_k1, if_neg (by simp; omega)]; rfl
  rw [if_neg h1, show ((c.toNat : Int) == (103 : Int)) = false from byte_ne h1, cond_false]
  by_cases h3 : c = 105
  · subst h3
    rw [if_pos rfl, show (((105 : UInt8).toNat : Int) == (105 : Int)) = true from rfl, cond_true]
    cases r with
    | nil => rfl
    | cons d r =>
      have hd := h256 d
      have hl : decide (((105 :: d :: r : List UInt8).length : Int) > 1) = true := decide_eq_true (by simp; omega)
      rw [hl, cond_true, idxS1, Option.bind_some]
      by_cases q1 : 1 ≤ d.toNat
      · rw [cond_f (by omega), Option.bind_some, decide_eq_false (show ¬ (d.toNat : Int) < 1 by omega)]
        unfold gemotref1_leaf.k2
        by_cases q2 : d.toNat ≤ 8
        · rw [show leafI (d :: r) = 2 from if_pos (And.intro q1 q2), decide_eq_false (show ¬ (d.toNat : Int) > 8 by omega)]
          simp only [cond_true, cond_false]
          rw [rleaf_k1, if_neg (by simp; omega)]; rfl
        · rw [show leafI (d :: r) = 0 from if_neg (fun q : 1 ≤ d.toNat ∧ d.toNat ≤ 8 => q2 q.2), decide_eq_true (show (d.toNat : Int) > 8 by omega)]
          simp only [cond_true, cond_false]
          rw [rleaf_k1, if_neg (by simp; omega)]; rfl
      · rw [cond_t (by omega), show leafI (d :: r) = 0 from if_neg (fun q : 1 ≤ d.toNat ∧ d.toNat ≤ 8 => q1 q.1), decide_eq_true (show (d.toNat : Int) < 1 by omega)]
        unfold gemotref1_leaf.k2
        simp only [cond_true]
        rw [rleaf_k1, if_neg (by simp; omega)]; rfl
  rw [if_neg h3, show ((c.toNat : Int) == (105 : Int)) = false from byte_ne h3, cond_false]
  by_cases h4 : c = 116
  · subst h4
    rw [if_pos rfl, show (((116 : UInt8).toNat : Int) == (116 : Int)) = true from rfl, cond_true]
    match r with
    | [] => rfl
    | [d] => rfl
    | d :: e :: r =>
      have hd := h256 d
      have he := h256 e
      have hl : decide (((116 :: d :: e :: r : List UInt8).length : Int) ≥ 3) = true := decide_eq_true (by simp; omega)
      rw [hl, cond_true, idxS1, Option.bind_some, idxS2, Option.bind_some]
      rw [Eng.i64_id (x := (d.toNat : Int)) (by omega) (by omega), Eng.i64_id (x := (256 : Int) * (d.toNat : Int)) (by omega) (by omega), Eng.i64_id (x := (3 : Int) + (256 : Int) * (d.toNat : Int)) (by omega) (by omega), Eng.i64_id (x := (e.toNat : Int)) (by omega) (by omega), Eng.i64_id (by omega) (by omega)]
      unfold gemotref1_leaf.k3
      by_cases q1 : d.toNat = 0 ∧ e.toNat ≤ 100
      · rw [cond_f (by omega), rleaf_k1]
        by_cases q3 : e.toNat + 1 ≤ (d :: e :: r).length - 1
        · rw [show leafT (d :: e :: r) = 3 + e.toNat from if_pos ⟨q1.1, q1.2, q3⟩, if_neg (by simp at q3 ⊢; omega), if_neg (by omega), q1.1]
          congr 1
        · rw [show leafT (d :: e :: r) = 0 from if_neg (fun q : d.toNat = 0 ∧ e.toNat ≤ 100 ∧ e.toNat + 1 ≤ (d :: e :: r).length - 1 => q3 q.2.2), if_pos (by simp at q3 ⊢; omega)]; rfl
      · rw [cond_t (by omega), show leafT (d :: e :: r) = 0 from if_neg (fun q : d.toNat = 0 ∧ e.toNat ≤ 100 ∧ e.toNat + 1 ≤ (d :: e :: r).length - 1 => q1 ⟨q.1, q.2.1⟩), rleaf_k1, if_neg (by simp; omega)]; rfl
  rw [if_neg h4, show ((c.toNat : Int) == (116 : Int)) = false from byte_ne h4, cond_false, rleaf_k1, if_neg (by simp; omega)]; rfl

theorem manyF_neg {self : Nat → Int × Int} {s : List UInt8} {p : Bool} : ∀ (n k : Nat) (last : List UInt8) (d : Nat), (manyF self s p n k last d).1 < 0 → (manyF self s p n k last d).2 = 0
  | 0, k, last, d, h => by simp [manyF] at h; omega
  | n + 1, k, last, d, h => by
    unfold manyF at h ⊢
    split
    · rfl
    · rename_i hn
      rw [if_neg hn] at h
      split
      · rfl
      · rename_i hp
        rw [if_neg hp] at h
        exact manyF_neg n _ _ _ h
theorem end_many {s : List UInt8} {selfM : List UInt8 → Int → Int → Option (Int × Int)} {self : Nat → Int × Int} {left a n : Nat} {c : UInt8} (hc : s[a]? = some c) (hb : s.length ≤ 140737488355328) (hleft : left ≤ 1000) (hn32 : n ≤ 1000)
    (hself : ∀ k : Nat, k ≤ s.length → selfM s (k : Int) (left : Int) = some (self k)) (hr : ∀ k, 0 ≤ (self k).1 → (k : Int) < (self k).1 ∧ (self k).1 ≤ (s.length : Int)) (hd : ∀ k, 0 ≤ (self k).2) (v60 : Int) :
    ∀ (m i k : Nat) (last : List UInt8) (d : Nat), i + m = n → k ≤ s.length →
    loopM (fun q : Int × Int × (List UInt8) × Int => gemotref1_End.b2 selfM s (a : Int) ((left + 1 : Nat) : Int) (n : Int) q.1 q.2.1 q.2.2.1 q.2.2.2) ((k : Int), (d : Int), last, (i : Int)) = some (if (manyF self s (c == 101) m k last d).1 < 0 then .inr (manyF self s (c == 101) m k last d) else .inl ((manyF self s (c == 101) m k last d).1, (manyF self s (c == 101) m k last d).2 - 1))
  | 0, i, k, last, d, him, hk => by
    refine loop_count (fun _ => ((k : Int), (d : Int), last, (i : Int))) 0 (fun j hj => by omega) ?_
    show gemotref1_End.b2 selfM s (a : Int) ((left + 1 : Nat) : Int) (n : Int) (k : Int) (d : Int) last (i : Int) = _
    unfold gemotref1_End.b2
    rw [cond_f (by omega)]
    have e : manyF self s (c == 101) 0 k last d = ((k : Int), ((d + 1 : Nat) : Int)) := rfl
    have e2 : ((d : Int)) = ((d + 1 : Nat) : Int) - 1 := by omega
    rw [e, if_neg (show ¬ ((k : Int), ((d + 1 : Nat) : Int)).1 < 0 by simp only; omega)]
    simp only
    rw [← e2]
  | m + 1, i, k, last, d, him, hk => by
    have ew : IntKind.i64.wrap (((left + 1 : Nat) : Int) - (1 : Int)) = (left : Int) := by rw [Eng.i64_id (by omega) (by omega)]; omega
    have hbody : gemotref1_End.b2 selfM s (a : Int) ((left + 1 : Nat) : Int) (n : Int) (k : Int) (d : Int) last (i : Int) =
        if (self k).1 < 0 then some (.inr (Sum.inr ((self k).1, 0))) else if ((c == 101) && strLt ((s.drop k).take ((self k).1.toNat - k)) last) = true then some (.inr (Sum.inr (-1, 0))) else
        some (.inl ((self k).1, ((max d (self k).2.toNat : Nat) : Int), (s.drop k).take ((self k).1.toNat - k), ((i + 1 : Nat) : Int))) := by
      unfold gemotref1_End.b2
      rw [cond_t (by omega), ew, hself k hk, Option.bind_some]
      by_cases hneg : (self k).1 < 0
      · rw [cond_t hneg, if_pos hneg]
      · rw [cond_f hneg, if_neg hneg, idxS_at hc, Option.bind_some]
        have h1 := hr k (by omega)
        have h2 := hd k
        have hsl : slcM s (k : Int) (self k).1 = some ((s.drop k).take ((self k).1.toNat - k)) := by
          have := slc_lt (xs := s) (a := k) (b := (self k).1.toNat) (by omega) (by omega)
          rw [show (((self k).1.toNat : Nat) : Int) = (self k).1 by omega] at this
          exact this
        have hmax : maxI (d : Int) (self k).2 = ((max d (self k).2.toNat : Nat) : Int) := by unfold maxI; split <;> omega
        unfold gemotref1_End.k1
        by_cases hp : c = 101
        · subst hp
          rw [show (((101 : UInt8).toNat : Int) == (101 : Int)) = true from rfl, cond_true, hsl, Option.bind_some, cond_true, wrap1 i (by omega), hmax, Option.bind_some]
          cases strLt ((s.drop k).take ((self k).1.toNat - k)) last <;> rfl
        · rw [show ((c.toNat : Int) == (101 : Int)) = false from byte_ne hp, cond_false, cond_false, cond_false, hsl, Option.bind_some, wrap1 i (by omega), hmax, show (c == 101) = false from beq_eq_false_iff_ne.2 hp]
          rfl
    unfold manyF
    by_cases hneg : (self k).1 < 0
    · rw [if_pos hneg] at hbody ⊢
      rw [if_pos hneg]
      exact loop_count (fun _ => ((k : Int), (d : Int), last, (i : Int))) 0 (fun j hj => by omega) hbody
    · rw [if_neg hneg] at hbody ⊢
      by_cases hp : ((c == 101) && strLt ((s.drop k).take ((self k).1.toNat - k)) last) = true
      · rw [if_pos hp] at hbody ⊢
        rw [if_pos (by decide)]
        exact loop_count (fun _ => ((k : Int), (d : Int), last, (i : Int))) 0 (fun j hj => by omega) hbody
      · rw [if_neg hp] at hbody ⊢
        have h1 := hr k (by omega)
        have ih := end_many hc hb hleft hn32 hself hr hd v60 m (i + 1) (self k).1.toNat ((s.drop k).take ((self k).1.toNat - k)) (max d (self k).2.toNat) (by omega) (by omega)
        rw [show (((self k).1.toNat : Nat) : Int) = (self k).1 by omega] at ih
        exact loop_step hbody ih
theorem parts_eq (c : UInt8) : gemotref1_parts.f (c.toNat : Int) = some (if c = 107 ∨ c = 104 then 1 else if c = 112 ∨ c = 120 then 2 else if c = 115 then 3 else -1) := by
  unfold gemotref1_parts.f gemotref1_parts.k2 gemotref1_parts.k1
  by_cases h1 : c = 107
  · subst h1; rfl
  by_cases h2 : c = 104
  · subst h2; rfl
  by_cases h3 : c = 112
  · subst h3; rfl
  by_cases h4 : c = 120
  · subst h4; rfl
  by_cases h5 : c = 115
  · subst h5; rfl
  rw [show ((c.toNat : Int) == (107 : Int)) = false from byte_ne h1, show ((c.toNat : Int) == (104 : Int)) = false from byte_ne h2, show ((c.toNat : Int) == (112 : Int)) = false from byte_ne h3, show ((c.toNat : Int) == (120 : Int)) = false from byte_ne h4, show ((c.toNat : Int) == (115 : Int)) = false from byte_ne h5, if_neg (fun q => q.elim h1 h2), if_neg (fun q => q.elim h3 h4), if_neg h5]
  rfl
theorem k4_bad (self : (List UInt8) → Int → Int → Option (Int × Int)) (s : List UInt8) (a x2 n k : Int) : gemotref1_End.k4 self s a x2 n k true = some (-1, 0) := rfl
theorem k4_many {s : List UInt8} {selfM : List UInt8 → Int → Int → Option (Int × Int)} {left a n k : Nat} {c : UInt8} (hc : s[a]? = some c) (hb : s.length ≤ 140737488355328) (hleft : left ≤ 1000) (hn : n ≤ 1000) (hk : k ≤ s.length)
    (hself : ∀ k : Nat, k ≤ s.length → selfM s (k : Int) (left : Int) = some (specE s left k)) :
    gemotref1_End.k4 selfM s (a : Int) ((left + 1 : Nat) : Int) (n : Int) (k : Int) false = some (manyF (specE s left) s (c == 101) n k [] 0) := by
  unfold gemotref1_End.k4
  have h := end_many hc hb hleft hn hself (specE_le s left) (fun k => (specE_depth s left k).1) 0 n 0 k [] 0 (by omega) hk
  have h' : loopM (fun q : Int × Int × (List UInt8) × Int => gemotref1_End.b2 selfM s (a : Int) ((left + 1 : Nat) : Int) (n : Int) q.1 q.2.1 q.2.2.1 q.2.2.2) ((k : Int), (0 : Int), ([] : List UInt8), (0 : Int)) = _ := h
  rw [cond_false, h', Option.bind_some]
  have hdep := manyF_depth (s := s) (p := c == 101) (specE_depth s left) n k [] 0 (Nat.zero_le _)
  have hneg := manyF_neg (self := specE s left) (s := s) (p := c == 101) n k [] 0
  generalize manyF (specE s left) s (c == 101) n k [] 0 = r at hdep hneg ⊢
  by_cases hr : r.1 < 0
  · rw [if_pos hr]; rfl
  · rw [if_neg hr, Sum.elim_inl]
    unfold gemotref1_End.k3
    rw [Eng.i64_id (by omega) (by omega)]
    congr 1
    show (r.1, r.2 - 1 + 1) = r
    rw [show r.2 - 1 + 1 = r.2 by omega]
theorem end_step {s : List UInt8} (hb : s.length ≤ 140737488355328) {left a : Nat} (hleft : left ≤ 1000) (ha : a ≤ s.length) {selfM : List UInt8 → Int → Int → Option (Int × Int)}
    (hself : ∀ k : Nat, k ≤ s.length → selfM s (k : Int) (left : Int) = some (specE s left k)) :
    gemotref1_End.step selfM s (a : Int) ((left + 1 : Nat) : Int) = some (specE s (left + 1) a) := by
  have h256 : ∀ d : UInt8, d.toNat < 256 := fun d => UInt8.toNat_lt d
  unfold gemotref1_End.step
  rw [show ((((left + 1 : Nat) : Int)) == (0 : Int)) = false from beq_eq_false_iff_ne.2 (by omega), cond_false, specE_succ]
  cases hd : s.drop a with
  | nil =>
    have : s.length ≤ a := by have := congrArg List.length hd; simp at this; omega
    rw [cond_t (by omega)]
  | cons c r =>
    obtain ⟨hc, hl⟩ := drop_at hd
    have hlf := leafN_le c r
    rw [cond_f (by omega), slc_to ha, Option.bind_some, hd, rleaf_eq, Option.bind_some]
    simp only
    by_cases h0 : leafN c r ≠ 0
    · rw [if_pos h0, show leafZ c r = (leafN c r : Int) from if_neg h0, cond_t (by omega), Eng.i64_id (by omega) (by omega)]
      congr 2
    · rw [if_neg h0, show leafZ c r = -1 from if_pos (by omega), cond_f (by omega), idxS_at hc, Option.bind_some, parts_eq, Option.bind_some, Option.bind_some, wrap1 a (by omega)]
      -- 'k'
      have k5 : ∀ n : Nat, n ≤ 1000 → c ≠ 107 → ∀ k : Nat, k ≤ s.length → gemotref1_End.k5 selfM s (a : Int) ((left + 1 : Nat) : Int) (n : Int) (k : Int) = some (manyF (specE s left) s (c == 101) n k [] 0) := by
        intro n hn h1 k hk
        unfold gemotref1_End.k5
        rw [cond_f (by omega), idxS_at hc, Option.bind_some, show ((c.toNat : Int) == (107 : Int)) = false from byte_ne h1, decide_eq_false (show ¬ (n : Int) < 0 by omega)]
        simp only [cond_false]
        exact k4_many hc hb hleft hn hk hself
      by_cases h1 : c = 107
      · subst h1
        rw [if_pos (Or.inl rfl), show (((107 : UInt8).toNat : Int) == (101 : Int)) = false from rfl, cond_false]
        unfold gemotref1_End.k5
        rw [cond_f (by omega), idxS_at hc, Option.bind_some, show (((107 : UInt8).toNat : Int) == (107 : Int)) = true from rfl, cond_true, decide_eq_false (show ¬ (1 : Int) < 0 by omega)]
        cases r with
        | nil =>
          rw [cond_t (by simp at hl; omega), decide_eq_true (show ((a + 1 : Nat) : Int) ≥ (s.length : Int) by simp at hl; omega)]
          rfl
        | cons d r =>
          have hd1 := drop_at1 hd
          rw [cond_f (by simp at hl; omega), idxS_at hd1, Option.bind_some, Option.bind_some, decide_eq_false (show ¬ ((a + 1 : Nat) : Int) ≥ (s.length : Int) by simp at hl; omega)]
          by_cases q : d = 103 ∨ d = 101
          · have e : openT 107 (d :: r) = some (1, false, 1) := by
              show (if d = 103 ∨ d = 101 then _ else _) = _
              rw [if_pos q]
            rw [e]
            have m := k4_many (k := a + 1) (n := 1) hc hb hleft (by omega) (by omega) hself
            rcases q with rfl | rfl
            · exact m
            · exact m
          · have e : openT 107 (d :: r) = none := by
              show (if d = 103 ∨ d = 101 then _ else _) = _
              rw [if_neg q]
            rw [e]
            have b1 := byte_ne (k := 103) (fun h => q (.inl h))
            have b2 := byte_ne (k := 101) (fun h => q (.inr h))
            simp only [bne, show ((d.toNat : Int) == (103 : Int)) = false from b1, show ((d.toNat : Int) == (101 : Int)) = false from b2, Bool.not_false, cond_true, cond_false]
            exact k4_bad _ _ _ _ _ _
      by_cases h5 : c = 101
      · subst h5
        rw [show (((101 : UInt8).toNat : Int) == (101 : Int)) = true from rfl, cond_true]
        cases r with
        | nil =>
          rw [cond_t (by simp at hl; omega), decide_eq_true (show ((a + 1 : Nat) : Int) ≥ (s.length : Int) by simp at hl; omega)]
          rfl
        | cons d r =>
          have hdd := h256 d
          have hd1 := drop_at1 hd
          rw [cond_f (by simp at hl; omega), idxS_at hd1, Option.bind_some, Option.bind_some, decide_eq_false (show ¬ ((a + 1 : Nat) : Int) ≥ (s.length : Int) by simp at hl; omega)]
          by_cases q : 1 ≤ d.toNat ∧ d.toNat ≤ 32
          · have e : openT 101 (d :: r) = some (d.toNat, true, 2) := by
              show (if 1 ≤ d.toNat ∧ d.toNat ≤ 32 then _ else _) = _
              rw [if_pos q]
            rw [e, cond_f (by omega), decide_eq_false (show ¬ (d.toNat : Int) < 1 by omega), decide_eq_false (show ¬ (d.toNat : Int) > 32 by omega)]
            simp only [cond_false]
            unfold gemotref1_End.k6
            rw [cond_false, wrap1 a (by omega), idxS_at hd1, Option.bind_some, wrap1 (a + 1) (by omega), Eng.i64_id (x := (d.toNat : Int)) (by omega) (by omega)]
            exact k5 d.toNat (by omega) (by decide) (a + 2) (by simp at hl; omega)
          · have e : openT 101 (d :: r) = none := by
              show (if 1 ≤ d.toNat ∧ d.toNat ≤ 32 then _ else _) = _
              rw [if_neg q]
            rw [e]
            by_cases q1 : d.toNat < 1
            · rw [cond_t (by omega), decide_eq_true (show (d.toNat : Int) < 1 by omega)]; rfl
            · rw [cond_f (by omega), decide_eq_false (show ¬ (d.toNat : Int) < 1 by omega), decide_eq_true (show (d.toNat : Int) > 32 by omega)]; rfl
      rw [show ((c.toNat : Int) == (101 : Int)) = false from byte_ne h5, cond_false]
      have e101 : (c == 101) = false := beq_eq_false_iff_ne.2 h5
      by_cases h2 : c = 104
      · subst h2
        exact k5 1 (by omega) h1 (a + 1) (by omega)
      by_cases h3 : c = 112 ∨ c = 120
      · rw [if_neg (fun q => q.elim h1 h2), if_pos h3]
        have m := k5 2 (by omega) h1 (a + 1) (by omega)
        rcases h3 with rfl | rfl <;> exact m
      by_cases h4 : c = 115
      · subst h4
        exact k5 3 (by omega) h1 (a + 1) (by omega)
      · have e : openT c r = none := by
          unfold openT
          rw [if_neg h1, if_neg h2, if_neg h3, if_neg h4, if_neg h5]
        rw [e, if_neg (fun q => q.elim h1 h2), if_neg h3, if_neg h4]
        rfl
theorem end_go {s : List UInt8} (hb : s.length ≤ 140737488355328) : ∀ (left m a : Nat), left < m → left ≤ 1000 → a ≤ s.length → gemotref1_End.g m s (a : Int) (left : Int) = some (specE s left a)
  | 0, m, a, hm, _, ha => by
    obtain ⟨k, rfl⟩ : ∃ k, m = k + 1 := ⟨m - 1, by omega⟩
    rfl
  | left + 1, m, a, hm, hl, ha => by
    obtain ⟨k, rfl⟩ : ∃ k, m = k + 1 := ⟨m - 1, by omega⟩
    exact end_step hb (by omega) ha (fun j hj => end_go hb left k j (by omega) (by omega) hj)
theorem end_spec {s : List UInt8} (hb : s.length ≤ 140737488355328) {a : Nat} (ha : a ≤ s.length) : gemotref1_End.f s (a : Int) (400 : Int) = some (specE s 400 a) :=
  rec_of 401 (fun m hm => end_go hb 400 m a (by omega) (by omega) ha)
theorem rtake_spec {s : List UInt8} (hb : s.length ≤ 140737488355328) : gemotref1_Take.f s = some (takeE s) := by
  unfold gemotref1_Take.f takeE
  rw [show (0 : Int) = ((0 : Nat) : Int) from rfl, end_spec hb (Nat.zero_le _), Option.bind_some]
  by_cases hn : (specE s 400 0).1 < 0
  · rw [if_pos (show (specE s 400 0).1 < ((0 : Nat) : Int) from hn)]
    rcases specE_neg s 400 0 hn with h | h <;> rw [h] <;> rfl
  · rw [if_neg (show ¬ (specE s 400 0).1 < ((0 : Nat) : Int) from hn)]
    have hle := specE_le s 400 0 (by omega)
    rw [show ((specE s 400 0).1 == (-1 : Int)) = false from beq_eq_false_iff_ne.2 (by omega), cond_false, show ((specE s 400 0).1 == (-2 : Int)) = false from beq_eq_false_iff_ne.2 (by omega), cond_false]
    by_cases h2 : 20000 < (specE s 400 0).1
    · rw [if_pos h2, cond_t (by omega)]
    · rw [if_neg h2, cond_f (by omega), show (((0 : Nat) : Int)) = (0 : Int) from rfl, (slc_e (by omega) hle.2).1, Option.bind_some, (slc_e (by omega) hle.2).2, Option.bind_some]
theorem rright_spec {s : List UInt8} (hb : s.length ≤ 140737488355328) : gemotref1_Right.f s = some (rightB s) := by
  unfold gemotref1_Right.f
  rw [rtake_spec hb, Option.bind_some]
  congr 1
  rw [strEq_eq, strEq_eq, Bool.eq_iff_iff, ← takeE_right]
  have key : ∀ {a b : List UInt8}, takeE s = (a, b, 0) → a ++ b = s ∧ a ≠ [] := by
    intro a b h
    unfold takeE at h
    split at h
    · rename_i hn
      have h3 : errC (specE s 400 0).1 = 0 := by injection h with _ h; injection h
      unfold errC at h3; split at h3 <;> omega
    · rename_i hn
      split at h
      · have h3 : (3 : Int) = 0 := by injection h with _ h; injection h
        omega
      · injection h with h1 h3
        injection h3 with h3 h4
        have hle := specE_le s 400 0 (by omega)
        refine ⟨by rw [← h1, ← h3, List.take_append_drop], fun h0 => ?_⟩
        rw [← h1] at h0
        have := congrArg List.length h0
        rw [List.length_take, List.length_nil] at this
        omega
  constructor
  · intro h
    cases ht : takeE s with
    | mk a bc =>
    obtain ⟨b, c⟩ := bc
    rw [ht] at h
    by_cases h1 : c = 0
    · subst h1
      obtain ⟨k1, k2⟩ := key ht
      by_cases h2 : b = []
      · subst h2
        rw [← k1, List.append_nil]
      · simp [h2] at h
    · simp [h1] at h
  · intro h
    have := (key h).2
    rw [h]
    simp [this]
theorem eight_eq (n : Int) : gemotref1_eight.f n = some (bytesOf n 8) := by
  unfold gemotref1_eight.f
  have e : ∀ k : Nat, k ≤ 56 → IntKind.u8.wrap (n.fdiv (2 ^ min (k : Int).toNat IntKind.u64.bits)) = ((byteAt n (k : Int)).toNat : Int) := fun k hk => by rw [b8_wrap]; rfl
  have st : ∀ (i : Nat) (l : List Int) (x : Int), i < 8 → l[7 - i]? = some x → gemotref1_eight.b1 n l (i : Int) = some (.inl (l.set (7 - i) ((byteAt n ((8 * i : Nat) : Int)).toNat : Int), ((i + 1 : Nat) : Int))) := by
    intro i l x hi hx
    unfold gemotref1_eight.b1 shrM
    have w1 : IntKind.i64.wrap ((8 : Int) * (i : Int)) = ((8 * i : Nat) : Int) := by rw [Eng.i64_id (by omega) (by omega)]; omega
    have w2 : IntKind.i64.wrap ((7 : Int) - (i : Int)) = ((7 - i : Nat) : Int) := by rw [Eng.i64_id (by omega) (by omega)]; omega
    rw [cond_t (by omega), w1, if_pos (by omega), w2, Option.bind_some, Option.bind_some, idxL_nat, hx, Option.bind_some, wrap1 i (by omega), e _ (by omega), Int.toNat_natCast]
  have hL : loopM (fun s159 : (List Int) × Int => gemotref1_eight.b1 n s159.1 s159.2) ((List.replicate 8 (0 : Int)), (0 : Int)) = some (bytesI (bytesOf n 8)) := by
    refine loop_step (st 0 _ 0 (by omega) rfl) ?_
    refine loop_step (st 1 _ 0 (by omega) rfl) ?_
    refine loop_step (st 2 _ 0 (by omega) rfl) ?_
    refine loop_step (st 3 _ 0 (by omega) rfl) ?_
    refine loop_step (st 4 _ 0 (by omega) rfl) ?_
    refine loop_step (st 5 _ 0 (by omega) rfl) ?_
    refine loop_step (st 6 _ 0 (by omega) rfl) ?_
    refine loop_step (st 7 _ 0 (by omega) rfl) ?_
    exact loop_end rfl
  rw [hL, Option.bind_some]
  unfold gemotref1_eight.k2 strM
  rw [if_pos ⟨by simp [bytesI, bytesOf8], by
    intro x hx
    obtain ⟨b, _, rfl⟩ := List.mem_map.1 hx
    have := UInt8.toNat_lt b
    omega⟩, Option.bind_some]
  congr 1
  unfold bytesI
  rw [List.map_map]
  conv => rhs; rw [← List.map_id (bytesOf n 8)]
  refine List.map_congr_left fun b _ => ?_
  simp
theorem rnumber_eq (n : Int) : gemotref1_Number.f n = some (countedT 117 n) := by
  unfold gemotref1_Number.f
  rw [eight_eq, Option.bind_some, room_of (by simp [bytesOf_length])]
  rfl
theorem putT_nil : putT [] = countedT 117 0 := rfl
theorem putT_cons (t : List UInt8) (ts : List (List UInt8)) : putT (t :: ts) = 112 :: (t ++ putT ts) := by
  unfold putT
  rw [List.reverse_cons, List.foldl_append]; rfl
def putE (l : List (List UInt8)) : List UInt8 × Int :=
  if 150 < l.length then ([], 1) else if l.any (fun t => !rightB t) = true then ([], 1) else if 20000 < (putT l).length then ([], 3) else if rightB (putT l) = true then (putT l, 0) else ([], 4)
theorem putT_len_le (n : Nat) : ∀ (l : List (List UInt8)), (∀ t ∈ l, t.length ≤ n) → (putT l).length ≤ (n + 1) * l.length + 9
  | [], _ => by simp [putT_nil, countedT, bytesOf_length]
  | a :: l, h => by
    have := putT_len_le n l (fun t ht => h t (List.mem_cons_of_mem _ ht))
    have := h a List.mem_cons_self
    rw [putT_cons, List.length_cons, List.length_append, List.length_cons, Nat.mul_add]; omega
theorem rights_of {l : List (List UInt8)} (h : ¬ l.any (fun t => !rightB t) = true) : ∀ t ∈ l, rightB t = true := by
  intro t ht
  cases hr : rightB t with
  | true => rfl
  | false => exact absurd (List.any_eq_true.2 ⟨t, ht, by rw [hr]; rfl⟩) h
theorem any_of_rights {l : List (List UInt8)} (h : ∀ t ∈ l, rightB t = true) : ¬ l.any (fun t => !rightB t) = true := by
  intro q
  obtain ⟨t, ht, hq⟩ := List.any_eq_true.1 q
  rw [h t ht] at hq; cases hq
theorem put_spec {l : List (List UInt8)} (hb : ∀ t ∈ l, t.length ≤ 140737488355328) : list_Put.f l = some (putE l) := by
  unfold list_Put.f putE
  by_cases h1 : 150 < l.length
  · rw [if_pos h1, if_pos h1]
  rw [if_neg h1, if_neg h1, given_of (fun t ht => ⟨_, right_spec (hb t ht)⟩)]
  have hrt : ∀ t ∈ l, rightT t = rightB t := fun t ht => by unfold rightT; rw [right_spec (hb t ht)]; rfl
  have hany : l.any (fun t => !rightT t) = l.any (fun t => !rightB t) := by
    rw [Bool.eq_iff_iff, List.any_eq_true, List.any_eq_true]
    constructor
    · rintro ⟨t, ht, q⟩; exact ⟨t, ht, by rw [← hrt t ht]; exact q⟩
    · rintro ⟨t, ht, q⟩; exact ⟨t, ht, by rw [hrt t ht]; exact q⟩
  rw [hany]
  by_cases h2 : l.any (fun t => !rightB t) = true
  · rw [if_pos h2, if_pos h2]
  rw [if_neg h2, if_neg h2]
  have hr := rights_of h2
  have hlen := putT_len_le 20000 l (fun t ht => (rightB_len (hr t ht)).2)
  rw [given_of (by omega)]
  by_cases h3 : 20000 < (putT l).length
  · rw [if_pos h3, if_pos h3]
  rw [if_neg h3, if_neg h3, right_spec (by omega), Option.bind_some]
  cases rightB (putT l) <;> rfl
theorem ok_putE {l : List (List UInt8)} (h1 : l.length ≤ 150) (h2 : ∀ t ∈ l, rightB t = true) (h3 : rightB (putT l) = true) : putE l = (putT l, 0) := by
  unfold putE
  rw [if_neg (by omega), if_neg (any_of_rights h2), if_neg (by have := (rightB_len h3).2; omega), if_pos h3]
def preT : List (List UInt8) → List UInt8
  | [] => []
  | t :: ts => 112 :: (t ++ preT ts)
theorem preT_snoc (t : List UInt8) : ∀ l : List (List UInt8), preT (l ++ [t]) = (preT l ++ [112]) ++ t
  | [] => by simp [preT]
  | a :: l => by
    rw [List.cons_append]
    unfold preT
    rw [preT_snoc t l]; simp
theorem putT_pre : ∀ l : List (List UInt8), putT l = preT l ++ countedT 117 0
  | [] => rfl
  | a :: l => by rw [putT_cons, putT_pre l]; simp [preT]
theorem preT_len (n : Nat) : ∀ (l : List (List UInt8)), (∀ t ∈ l, t.length ≤ n) → (preT l).length ≤ (n + 1) * l.length
  | [], _ => by simp [preT]
  | a :: l, h => by
    have := preT_len n l (fun t ht => h t (List.mem_cons_of_mem _ ht))
    have := h a List.mem_cons_self
    unfold preT
    rw [List.length_cons, List.length_append, List.length_cons, Nat.mul_add]; omega
theorem rput_small {l : List (List UInt8)} (hb : ∀ t ∈ l, rightB t = true) (hl : l.length ≤ 150) : gemotref4_Put.f l = some (putE l) := by
  have hlen : ∀ q : List (List UInt8), (∀ t ∈ q, rightB t = true) → (preT q).length ≤ 20001 * q.length := fun q hq => preT_len 20000 q fun t ht => (rightB_len (hq t ht)).2
  have step : ∀ i, (hi : i < l.length) → gemotref4_Put.b1 l (preT (l.take i)) (i : Int) = some (.inl (preT (l.take (i + 1)), ((i + 1 : Nat) : Int))) := by
    intro i hi
    have hr := hb l[i] (List.getElem_mem hi)
    have h1 := rightB_len hr
    have h2 := hlen (l.take i) fun t ht => hb t (List.mem_of_mem_take ht)
    rw [List.length_take, Nat.min_eq_left (by omega)] at h2
    unfold gemotref4_Put.b1
    rw [cond_t (by omega), idxL_lt hi, Option.bind_some, rright_spec (by omega), Option.bind_some, hr, Bool.not_true, cond_false, room_of (by simp; omega), Option.bind_some, room_of (by simp; omega), wrap1 i (by omega), ← preT_snoc, take_snoc hi]
  have go : ∀ k i, i + k = l.length → loopM (fun s196 : (List UInt8) × Int => gemotref4_Put.b1 l s196.1 s196.2) (preT (l.take i), (i : Int)) = some (Sum.inl (preT l)) := by
    intro k
    induction k with
    | zero =>
      intro i hi
      refine loop_end ?_
      show gemotref4_Put.b1 l (preT (l.take i)) (i : Int) = _
      unfold gemotref4_Put.b1
      rw [cond_f (by omega), List.take_of_length_le (by omega)]
    | succ k ih => intro i hi; exact loop_step (step i (by omega)) (ih (i + 1) (by omega))
  unfold gemotref4_Put.f
  have h0 := go l.length 0 (by omega)
  rw [List.take_zero] at h0
  rw [show loopM (fun s196 : (List UInt8) × Int => gemotref4_Put.b1 l s196.1 s196.2) (([] : List UInt8), (0 : Int)) = _ from h0]
  show gemotref4_Put.k2 l (preT l) = _
  have h3 := hlen l hb
  unfold gemotref4_Put.k2 putE
  rw [cond_f (by omega), if_neg (by omega), if_neg (any_of_rights hb), rnumber_eq, Option.bind_some, room_of (by simp [countedT, bytesOf_length]; omega), ← putT_pre]
  have h4 : (putT l).length ≤ 20001 * l.length + 9 := by rw [putT_pre]; simp [countedT, bytesOf_length]; omega
  by_cases h5 : 20000 < (putT l).length
  · rw [cond_t (by omega), if_pos h5]
  · rw [cond_f (by omega), if_neg h5, rright_spec (by omega), Option.bind_some]
    cases rightB (putT l) <;> rfl
/-- A row of right ones is right, if it is not too long nor too deep. -/
theorem full_put {left : Nat} : ∀ (l : List (List UInt8)), (∀ t ∈ l, full t left) → 1 ≤ left → full (putT l) (left + l.length)
  | [], _, h1 => by
    have h : full (countedT 117 0) 1 := by
      unfold full
      rw [specE_succ, List.drop_zero]
      show (if leafN 117 (bytesOf 0 8) ≠ 0 then _ else _ : Int × Int).1 = _
      have h : leafN 117 (bytesOf 0 8) = 9 := by unfold leafN; rw [bytesOf_length]; rfl
      rw [h, if_pos (by simp)]
      simp [countedT, bytesOf_length]
    exact full_mono h (by simpa using h1)
  | t :: l, hf, h1 => by
    have ih := full_put l (fun x hx => hf x (List.mem_cons_of_mem _ hx)) h1
    have ht := full_mono (hf t List.mem_cons_self) (show left ≤ left + l.length by omega)
    rw [putT_cons, List.length_cons, ← Nat.add_assoc]
    refine full_of (n := 2) (o := 1) (p := false) (h := [112]) (l := []) (xs := [t, putT l]) ?_ (by simp) rfl rfl (fun x hx => ?_) (fun hp => by cases hp)
    · unfold openT
      rw [if_neg (by decide), if_neg (by decide), if_pos (by decide)]
    · rcases List.mem_cons.1 hx with q | q
      · rw [q]; exact ht
      · rw [List.mem_singleton.1 q]; exact ih
theorem full_number (x : Int) : full (countedT 117 x) 1 := by
  unfold full
  rw [specE_succ, List.drop_zero]
  show (if leafN 117 (bytesOf x 8) ≠ 0 then _ else _ : Int × Int).1 = _
  have h : leafN 117 (bytesOf x 8) = 9 := by unfold leafN; rw [bytesOf_length]; rfl
  rw [h, if_pos (by simp)]
  simp [countedT, bytesOf_length]
/-- A short row of numbers is a term. -/
theorem put_numbers {l : List (List UInt8)} (h : ∀ t ∈ l, ∃ n, t = countedT 117 n) (hl : l.length ≤ 150) : putE l = (putT l, 0) := by
  have hf : ∀ t ∈ l, full t 1 := fun t ht => by obtain ⟨n, rfl⟩ := h t ht; exact full_number n
  have hlen := putT_len_le 9 l (fun t ht => by obtain ⟨n, rfl⟩ := h t ht; simp [countedT, bytesOf_length])
  exact ok_putE hl (fun t ht => full_right (full_mono (hf t ht) (by omega)) (by obtain ⟨n, rfl⟩ := h t ht; simp [countedT, bytesOf_length])) (full_right (full_mono (full_put l hf (by omega)) (by omega)) (by omega))
end Go.Proofs.YtgomlcfoifkdiaaGreat.G
