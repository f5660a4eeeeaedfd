/- The reference's End reads as the spec says. -/
import Derived.Test.YtgomlcfoifkdiaaPureO
namespace Go.Proofs.Ytgomlcfoifkdiaa.G
open Go.RowKit Go.Eng Go.Proofs Go.Proofs.Ytgomlcfoifkdiaa.Cut
set_option linter.unusedVariables false
set_option linter.unusedSimpArgs false

/-! The reference's End reads as the spec says. -/
theorem parts_eq (c : UInt8) : gemotref1_parts.f (c.toNat : Int) = some (if c = 107 ∨ c = 104 then 1 else if c = 112 ∨ c = 120 then 2 else if c = 115 then 3 else -1) := by
  unfold gemotref1_parts.f gemotref1_parts.k2 gemotref1_parts.k1
  by_cases h1 : c = 107
  · subst h1; rfl
  by_cases h2 : c = 104
  · subst h2; rfl
  by_cases h3 : c = 112
  · subst h3; rfl
  by_cases h4 : c = 120
  · subst h4; rfl
  by_cases h5 : c = 115
  · subst h5; rfl
  rw [show ((c.toNat : Int) == (107 : Int)) = false from byte_ne h1, show ((c.toNat : Int) == (104 : Int)) = false from byte_ne h2, show ((c.toNat : Int) == (112 : Int)) = false from byte_ne h3, show ((c.toNat : Int) == (120 : Int)) = false from byte_ne h4, show ((c.toNat : Int) == (115 : Int)) = false from byte_ne h5, if_neg (fun q => q.elim h1 h2), if_neg (fun q => q.elim h3 h4), if_neg h5]
  rfl
theorem k4_bad (self : (List UInt8) → Int → Int → Option (Int × Int)) (s : List UInt8) (a x2 n k : Int) : gemotref1_End.k4 self s a x2 n k true = some (-1, 0) := rfl
theorem k4_many {s : List UInt8} {selfM : List UInt8 → Int → Int → Option (Int × Int)} {left a n k : Nat} {c : UInt8} (hc : s[a]? = some c) (hb : s.length ≤ 140737488355328) (hleft : left ≤ 1000) (hn : n ≤ 1000) (hk : k ≤ s.length)
    (hself : ∀ k : Nat, k ≤ s.length → selfM s (k : Int) (left : Int) = some (specE s left k)) :
    gemotref1_End.k4 selfM s (a : Int) ((left + 1 : Nat) : Int) (n : Int) (k : Int) false = some (manyF (specE s left) s (c == 101) n k [] 0) := by
  unfold gemotref1_End.k4
  have h := end_many hc hb hleft hn hself (specE_le s left) (fun k => (specE_depth s left k).1) 0 n 0 k [] 0 (by omega) hk
  have h' : loopM (fun q : Int × Int × (List UInt8) × Int => gemotref1_End.b2 selfM s (a : Int) ((left + 1 : Nat) : Int) (n : Int) q.1 q.2.1 q.2.2.1 q.2.2.2) ((k : Int), (0 : Int), ([] : List UInt8), (0 : Int)) = _ := h
  rw [cond_false, h', Option.bind_some]
  have hdep := manyF_depth (s := s) (p := c == 101) (specE_depth s left) n k [] 0 (Nat.zero_le _)
  have hneg := manyF_neg (self := specE s left) (s := s) (p := c == 101) n k [] 0
  generalize manyF (specE s left) s (c == 101) n k [] 0 = r at hdep hneg ⊢
  by_cases hr : r.1 < 0
  · rw [if_pos hr]; rfl
  · rw [if_neg hr, Sum.elim_inl]
    unfold gemotref1_End.k3
    rw [Eng.i64_id (by omega) (by omega)]
    congr 1
    show (r.1, r.2 - 1 + 1) = r
    rw [show r.2 - 1 + 1 = r.2 by omega]
theorem end_step {s : List UInt8} (hb : s.length ≤ 140737488355328) {left a : Nat} (hleft : left ≤ 1000) (ha : a ≤ s.length) {selfM : List UInt8 → Int → Int → Option (Int × Int)}
    (hself : ∀ k : Nat, k ≤ s.length → selfM s (k : Int) (left : Int) = some (specE s left k)) :
    gemotref1_End.step selfM s (a : Int) ((left + 1 : Nat) : Int) = some (specE s (left + 1) a) := by
  have h256 : ∀ d : UInt8, d.toNat < 256 := fun d => UInt8.toNat_lt d
  unfold gemotref1_End.step
  rw [show ((((left + 1 : Nat) : Int)) == (0 : Int)) = false from beq_eq_false_iff_ne.2 (by omega), cond_false, specE_succ]
  cases hd : s.drop a with
  | nil =>
    have : s.length ≤ a := by have := congrArg List.length hd; simp at this; omega
    rw [cond_t (by omega)]
  | cons c r =>
    obtain ⟨hc, hl⟩ := drop_at hd
    have hlf := leafN_le c r
    rw [cond_f (by omega), slc_to ha, Option.bind_some, hd, rleaf_eq, Option.bind_some]
    simp only
    by_cases h0 : leafN c r ≠ 0
    · rw [if_pos h0, show leafZ c r = (leafN c r : Int) from if_neg h0, cond_t (by omega), Eng.i64_id (by omega) (by omega)]
      congr 2
    · rw [if_neg h0, show leafZ c r = -1 from if_pos (by omega), cond_f (by omega), idxS_at hc, Option.bind_some, parts_eq, Option.bind_some, Option.bind_some, wrap1 a (by omega)]
      -- 'k'
      have k5 : ∀ n : Nat, n ≤ 1000 → c ≠ 107 → ∀ k : Nat, k ≤ s.length → gemotref1_End.k5 selfM s (a : Int) ((left + 1 : Nat) : Int) (n : Int) (k : Int) = some (manyF (specE s left) s (c == 101) n k [] 0) := by
        intro n hn h1 k hk
        unfold gemotref1_End.k5
        rw [cond_f (by omega), idxS_at hc, Option.bind_some, show ((c.toNat : Int) == (107 : Int)) = false from byte_ne h1, decide_eq_false (show ¬ (n : Int) < 0 by omega)]
        simp only [cond_false]
        exact k4_many hc hb hleft hn hk hself
      by_cases h1 : c = 107
      · subst h1
        rw [if_pos (Or.inl rfl), show (((107 : UInt8).toNat : Int) == (101 : Int)) = false from rfl, cond_false]
        unfold gemotref1_End.k5
        rw [cond_f (by omega), idxS_at hc, Option.bind_some, show (((107 : UInt8).toNat : Int) == (107 : Int)) = true from rfl, cond_true, decide_eq_false (show ¬ (1 : Int) < 0 by omega)]
        cases r with
        | nil =>
          rw [cond_t (by simp at hl; omega), decide_eq_true (show ((a + 1 : Nat) : Int) ≥ (s.length : Int) by simp at hl; omega)]
          rfl
        | cons d r =>
          have hd1 := drop_at1 hd
          rw [cond_f (by simp at hl; omega), idxS_at hd1, Option.bind_some, Option.bind_some, decide_eq_false (show ¬ ((a + 1 : Nat) : Int) ≥ (s.length : Int) by simp at hl; omega)]
          by_cases q : d = 103 ∨ d = 101
          · have e : openT 107 (d :: r) = some (1, false, 1) := by
              show (if d = 103 ∨ d = 101 then _ else _) = _
              rw [if_pos q]
            rw [e]
            have m := k4_many (k := a + 1) (n := 1) hc hb hleft (by omega) (by omega) hself
            rcases q with rfl | rfl
            · exact m
            · exact m
          · have e : openT 107 (d :: r) = none := by
              show (if d = 103 ∨ d = 101 then _ else _) = _
              rw [if_neg q]
            rw [e]
            have b1 := byte_ne (k := 103) (fun h => q (.inl h))
            have b2 := byte_ne (k := 101) (fun h => q (.inr h))
            simp only [bne, show ((d.toNat : Int) == (103 : Int)) = false from b1, show ((d.toNat : Int) == (101 : Int)) = false from b2, Bool.not_false, cond_true, cond_false]
            exact k4_bad _ _ _ _ _ _
      by_cases h5 : c = 101
      · subst h5
        rw [show (((101 : UInt8).toNat : Int) == (101 : Int)) = true from rfl, cond_true]
        cases r with
        | nil =>
          rw [cond_t (by simp at hl; omega), decide_eq_true (show ((a + 1 : Nat) : Int) ≥ (s.length : Int) by simp at hl; omega)]
          rfl
        | cons d r =>
          have hdd := h256 d
          have hd1 := drop_at1 hd
          rw [cond_f (by simp at hl; omega), idxS_at hd1, Option.bind_some, Option.bind_some, decide_eq_false (show ¬ ((a + 1 : Nat) : Int) ≥ (s.length : Int) by simp at hl; omega)]
          by_cases q : 1 ≤ d.toNat ∧ d.toNat ≤ 32
          · have e : openT 101 (d :: r) = some (d.toNat, true, 2) := by
              show (if 1 ≤ d.toNat ∧ d.toNat ≤ 32 then _ else _) = _
              rw [if_pos q]
            rw [e, cond_f (by omega), decide_eq_false (show ¬ (d.toNat : Int) < 1 by omega), decide_eq_false (show ¬ (d.toNat : Int) > 32 by omega)]
            simp only [cond_false]
            unfold gemotref1_End.k6
            rw [cond_false, wrap1 a (by omega), idxS_at hd1, Option.bind_some, wrap1 (a + 1) (by omega), Eng.i64_id (x := (d.toNat : Int)) (by omega) (by omega)]
            exact k5 d.toNat (by omega) (by decide) (a + 2) (by simp at hl; omega)
          · have e : openT 101 (d :: r) = none := by
              show (if 1 ≤ d.toNat ∧ d.toNat ≤ 32 then _ else _) = _
              rw [if_neg q]
            rw [e]
            by_cases q1 : d.toNat < 1
            · rw [cond_t (by omega), decide_eq_true (show (d.toNat : Int) < 1 by omega)]; rfl
            · rw [cond_f (by omega), decide_eq_false (show ¬ (d.toNat : Int) < 1 by omega), decide_eq_true (show (d.toNat : Int) > 32 by omega)]; rfl
      rw [show ((c.toNat : Int) == (101 : Int)) = false from byte_ne h5, cond_false]
      have e101 : (c == 101) = false := beq_eq_false_iff_ne.2 h5
      by_cases h2 : c = 104
      · subst h2
        exact k5 1 (by omega) h1 (a + 1) (by omega)
      by_cases h3 : c = 112 ∨ c = 120
      · rw [if_neg (fun q => q.elim h1 h2), if_pos h3]
        have m := k5 2 (by omega) h1 (a + 1) (by omega)
        rcases h3 with rfl | rfl <;> exact m
      by_cases h4 : c = 115
      · subst h4
        exact k5 3 (by omega) h1 (a + 1) (by omega)
      · have e : openT c r = none := by
          unfold openT
          rw [if_neg h1, if_neg h2, if_neg h3, if_neg h4, if_neg h5]
        rw [e, if_neg (fun q => q.elim h1 h2), if_neg h3, if_neg h4]
        rfl
theorem end_go {s : List UInt8} (hb : s.length ≤ 140737488355328) : ∀ (left m a : Nat), left < m → left ≤ 1000 → a ≤ s.length → gemotref1_End.g m s (a : Int) (left : Int) = some (specE s left a)
  | 0, m, a, hm, _, ha => by
    obtain ⟨k, rfl⟩ : ∃ k, m = k + 1 := ⟨m - 1, by omega⟩
    rfl
  | left + 1, m, a, hm, hl, ha => by
    obtain ⟨k, rfl⟩ : ∃ k, m = k + 1 := ⟨m - 1, by omega⟩
    exact end_step hb (by omega) ha (fun j hj => end_go hb left k j (by omega) (by omega) hj)
theorem end_spec {s : List UInt8} (hb : s.length ≤ 140737488355328) {a : Nat} (ha : a ≤ s.length) : gemotref1_End.f s (a : Int) (400 : Int) = some (specE s 400 a) :=
  rec_of 401 (fun m hm => end_go hb 400 m a (by omega) (by omega) ha)
end Go.Proofs.Ytgomlcfoifkdiaa.G
