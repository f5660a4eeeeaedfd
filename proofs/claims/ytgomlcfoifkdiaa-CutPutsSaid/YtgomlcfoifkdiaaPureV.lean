/- Rows of terms: put and taken. -/
import Derived.Test.YtgomlcfoifkdiaaPureU
import Derived.Test.YtgomlcfoifkdiaaGH
namespace Go.Proofs.Ytgomlcfoifkdiaa.G
open Go.RowKit Go.Eng Go.Proofs Go.Proofs.Ytgomlcfoifkdiaa.Cut
set_option linter.unusedVariables false
set_option linter.unusedSimpArgs false

/-! What a number is worth. -/
theorem valE_snoc (l : List UInt8) (b : UInt8) : valE (l ++ [b]) = 256 * valE l + b.toNat := by simp [valE, List.foldl_append]
theorem valE_pow : ∀ (n : Nat) (l : List UInt8), l.length = n → valE l < 256 ^ n
  | 0, l, h => by
    obtain rfl : l = [] := List.length_eq_zero_iff.1 h
    decide
  | n + 1, l, h => by
    obtain ⟨m, b, rfl⟩ : ∃ m b, l = m ++ [b] := ⟨l.dropLast, l.getLast (by intro q; rw [q] at h; cases h), (List.dropLast_concat_getLast _).symm⟩
    have ih := valE_pow n m (by simpa using h)
    have hb := UInt8.toNat_lt b
    rw [valE_snoc, Nat.pow_succ]; omega
theorem right_num {c : UInt8} {r : List UInt8} (h : rightB (c :: r) = true) (hc : c = 110 ∨ c = 117) : r.length = 8 := by
  unfold rightB at h
  rw [decide_eq_true_eq] at h
  have h1 := h.1
  rw [specE_succ, List.drop_zero] at h1
  simp only at h1
  have h103 : c ≠ 103 := by rcases hc with rfl | rfl <;> decide
  have hop : openT c r = none := by rcases hc with rfl | rfl <;> rfl
  have hl : leafN c r = if 8 ≤ r.length then 9 else 0 := by
    unfold leafN
    rw [if_neg h103, if_pos hc]
  by_cases h8 : 8 ≤ r.length
  · rw [hl, if_pos h8, if_pos (by decide)] at h1
    simp only [List.length_cons] at h1
    omega
  · rw [hl, if_neg h8, if_neg (by decide), hop] at h1
    simp only [List.length_cons] at h1
    omega
def valueE (s : List UInt8) : Int × Bool := if kindB s = 110 ∨ kindB s = 117 then (((valE (s.drop 1) : Nat) : Int), true) else (0, false)
theorem kind_cons {s : List UInt8} {k : Int} (h : kindB s = k) (hk : k ≠ 0) : ∃ c r, s = c :: r ∧ (c.toNat : Int) = k ∧ rightB s = true := by
  unfold kindB at h
  by_cases hr : rightB s = true
  · rw [if_pos hr] at h
    cases s with
    | nil => exact absurd h.symm hk
    | cons c r => exact ⟨c, r, rfl, h, hr⟩
  · rw [if_neg hr] at h; exact absurd h.symm hk
theorem value_spec {s : List UInt8} (hb : s.length ≤ 140737488355328) : parts_Value.f s = some (valueE s) ∧ gemotref2_Value.f s = some (valueE s) := by
  unfold parts_Value.f gemotref2_Value.f valueE
  rw [(kind_spec hb).1, (kind_spec hb).2, Option.bind_some, Option.bind_some]
  by_cases hk : kindB s = 110 ∨ kindB s = 117
  · rw [if_pos hk]
    have e : (cond (kindB s != (110 : Int)) (kindB s != (117 : Int)) false) = false := by
      rcases hk with h | h <;> rw [h] <;> rfl
    rw [e, cond_false, cond_false]
    obtain ⟨c, r, rfl, hc, hr⟩ := kind_cons (k := kindB s) rfl (by rcases hk with h | h <;> rw [h] <;> decide)
    have hc' : c = 110 ∨ c = 117 := by
      rw [← hc] at hk
      rcases hk with h | h
      · exact .inl (UInt8.toNat_inj.1 (by show c.toNat = 110; omega))
      · exact .inr (UInt8.toNat_inj.1 (by show c.toNat = 117; omega))
    have h8 := right_num hr hc'
    have step : ∀ i, (hi : i < r.length) → valE (r.take (i + 1)) = 256 * valE (r.take i) + r[i].toNat := fun i hi => by rw [← take_snoc hi, valE_snoc]
    have bound : ∀ i, i ≤ 8 → valE (r.take i) < 18446744073709551616 := fun i hi => by
      have h1 := valE_pow i (r.take i) (by rw [List.length_take]; omega)
      have h2 : (256 : Nat) ^ i ≤ 256 ^ 8 := Nat.pow_le_pow_right (by omega) hi
      have h3 : (256 : Nat) ^ 8 = 18446744073709551616 := by decide
      omega
    refine ⟨?_, ?_⟩
    · rw [show (1 : Int) = ((1 : Nat) : Int) from rfl, slc_to (by simp), Option.bind_some, List.drop_succ_cons, List.drop_zero]
      have hlen : (bytesI r).length = 8 := by simp [bytesI, h8]
      have hL : loopM (fun s117 : Int × Int => parts_Value.b1 r s117.1 s117.2) ((0 : Int), (0 : Int)) = some ((valE r : Nat) : Int) := by
        refine loop_count (fun i => (((valE (r.take i) : Nat) : Int), (i : Int))) 8 (fun i hi => ?_) ?_
        · have hir : i < r.length := by omega
          show parts_Value.b1 r ((valE (r.take i) : Nat) : Int) (i : Int) = _
          unfold parts_Value.b1 shlM
          have hs := step i hir
          have hbd := bound (i + 1) (by omega)
          have hx : idxL (bytesI r) (i : Int) = some ((r[i].toNat : Nat) : Int) := by
            rw [idxL_nat]; unfold bytesI; rw [List.getElem?_map, List.getElem?_eq_getElem hir]; rfl
          rw [hlen, cond_t (by omega), hx, Option.bind_some, if_pos (by decide), Option.bind_some, or_add _ _ (by omega), wrap1 i (by omega), hs]
        · show parts_Value.b1 r ((valE (r.take 8) : Nat) : Int) ((8 : Nat) : Int) = _
          unfold parts_Value.b1
          rw [hlen, cond_f (by omega), List.take_of_length_le (by omega)]
      rw [hL]; rfl
    · have hL : loopM (fun s63 : Int × Int => gemotref2_Value.b1 (c :: r) s63.1 s63.2) ((0 : Int), (1 : Int)) = some ((valE r : Nat) : Int) := by
        refine loop_count (fun i => (((valE (r.take i) : Nat) : Int), ((i + 1 : Nat) : Int))) 8 (fun i hi => ?_) ?_
        · have hir : i < r.length := by omega
          show gemotref2_Value.b1 (c :: r) ((valE (r.take i) : Nat) : Int) ((i + 1 : Nat) : Int) = _
          unfold gemotref2_Value.b1
          have hs := step i hir
          have hbd := bound (i + 1) (by omega)
          have hx : idxS (c :: r) ((i + 1 : Nat) : Int) = some ((r[i].toNat : Nat) : Int) := idxS_at (by rw [List.getElem?_cons_succ, List.getElem?_eq_getElem hir])
          have hlt := UInt8.toNat_lt r[i]
          rw [cond_t (by omega), hx, Option.bind_some, wrap1 (i + 1) (by omega), Eng.u64_id (x := (256 : Int) * _) (by omega) (by omega), Eng.u64_id (x := ((r[i].toNat : Nat) : Int)) (by omega) (by omega), Eng.u64_id (by omega) (by omega), hs]
          congr 3
        · show gemotref2_Value.b1 (c :: r) ((valE (r.take 8) : Nat) : Int) ((8 + 1 : Nat) : Int) = _
          unfold gemotref2_Value.b1
          rw [cond_f (by omega), List.take_of_length_le (by omega)]
      rw [hL]; rfl
  · rw [if_neg hk]
    have e : (cond (kindB s != (110 : Int)) (kindB s != (117 : Int)) false) = true := by
      rw [show (kindB s != (110 : Int)) = true from bne_iff_ne.2 (fun h => hk (.inl h)), show (kindB s != (117 : Int)) = true from bne_iff_ne.2 (fun h => hk (.inr h))]; rfl
    rw [e]; exact ⟨rfl, rfl⟩
/-! A pair's two. -/
def splitP (s : List UInt8) : List UInt8 × List UInt8 := ((s.take (specE s 400 1).1.toNat).drop 1, s.drop (specE s 400 1).1.toNat)
theorem right_ext {a b : List UInt8} (h : rightB a = true) : (specE (a ++ b) 400 0).1 = (a.length : Int) := by
  unfold rightB at h
  rw [decide_eq_true_eq] at h
  rw [specE_local (s := a) (t := a ++ b) (E := a.length) (by simp) (Nat.le_refl _) (by simp) 400 0 (by omega) (by omega), h.1]
theorem right_pre {s : List UInt8} {e : Nat} (h : (specE s 400 0).1 = (e : Int)) (he : e ≤ 20000) : rightB (s.take e) = true := by
  have hle := specE_le s 400 0 (by omega)
  unfold rightB
  rw [decide_eq_true_eq, specE_local (s := s) (t := s.take e) (E := e) (by rw [List.take_take, Nat.min_self]) (by omega) (by rw [List.length_take]; omega) 400 0 (by omega) (by omega), h, List.length_take]
  omega
theorem split_spec {s : List UInt8} (hk : kindB s = 112) : ∃ a b, s = 112 :: (a ++ b) ∧ rightB a = true ∧ rightB b = true ∧ splitP s = (a, b) ∧ (specE s 400 1).1 = ((a.length + 1 : Nat) : Int) ∧ (specE s 400 (a.length + 1)).1 = (s.length : Int) := by
  obtain ⟨c, r, rfl, hc, hr⟩ := kind_cons hk (by decide)
  obtain rfl : c = 112 := UInt8.toNat_inj.1 (by show c.toNat = 112; omega)
  have hlen := rightB_len hr
  have hr0 := hr
  unfold rightB at hr
  rw [decide_eq_true_eq] at hr
  have h1 := hr.1
  rw [specE_succ, List.drop_zero] at h1
  simp only at h1
  rw [show leafN 112 r = 0 from rfl, if_neg (by decide), show openT 112 r = some (2, false, 1) from rfl] at h1
  simp only [Nat.zero_add] at h1
  generalize hS : (112 :: r : List UInt8) = S at *
  unfold manyF at h1
  by_cases hn : (specE S 399 1).1 < 0
  · rw [if_pos hn] at h1; simp only at h1; omega
  rw [if_neg hn, Bool.false_and, if_neg (by decide)] at h1
  have hle1 := specE_le S 399 1 (by omega)
  unfold manyF at h1
  by_cases hn2 : (specE S 399 (specE S 399 1).1.toNat).1 < 0
  · rw [if_pos hn2] at h1; simp only at h1; omega
  rw [if_neg hn2, Bool.false_and, if_neg (by decide)] at h1
  have hle2 := specE_le S 399 (specE S 399 1).1.toNat (by omega)
  have h1' : ((specE S 399 (specE S 399 1).1.toNat).1.toNat : Int) = (S.length : Int) := h1
  have m1 := specE_mono (s := S) (left := 399) (more := 400) (a := 1) (by omega) (by omega)
  obtain ⟨e, he⟩ : ∃ e : Nat, (specE S 399 1).1 = ((e + 1 : Nat) : Int) := ⟨(specE S 399 1).1.toNat - 1, by omega⟩
  have m2 := specE_mono (s := S) (left := 399) (more := 400) (a := (specE S 399 1).1.toNat) (by omega) (by omega)
  rw [he, Int.toNat_natCast] at hle2 m2 h1' hn2
  have s1 := specE_shift S 1 400 0
  have s2 := specE_shift S (e + 1) 400 0
  rw [Nat.add_zero] at s1 s2
  have hr1 : S.drop 1 = r := by rw [← hS]; rfl
  rw [hr1] at s1
  have a1 : (specE r 400 0).1 = (e : Int) := by
    have : (specE S 400 1).1 = ((e + 1 : Nat) : Int) := by rw [m1, he]
    rw [s1] at this
    unfold shE at this
    split at this <;> omega
  have a2 : (specE (S.drop (e + 1)) 400 0).1 = ((S.drop (e + 1)).length : Int) := by
    have : (specE S 400 (e + 1)).1 = (S.length : Int) := by rw [m2]; omega
    rw [s2] at this
    unfold shE at this
    rw [List.length_drop]
    split at this <;> omega
  have hSr : S.length = r.length + 1 := by rw [← hS]; rfl
  have hre : S.drop (e + 1) = r.drop e := by rw [← hS]; rfl
  have hta : (r.take e).length = e := by rw [List.length_take]; omega
  refine ⟨r.take e, r.drop e, ?_, right_pre a1 (by omega), ?_, ?_, ?_, ?_⟩
  · rw [List.take_append_drop]; exact hS.symm
  · rw [← hre]
    unfold rightB
    rw [decide_eq_true_eq]
    exact ⟨a2, by rw [List.length_drop]; omega⟩
  · unfold splitP
    rw [m1, he, Int.toNat_natCast, hre]
    rw [← hS, List.take_succ_cons, List.drop_succ_cons, List.drop_zero]
  · rw [m1, he, hta]
  · rw [hta, m2]; omega
theorem split_cons {a b : List UInt8} (ha : rightB a = true) : splitP (112 :: (a ++ b)) = (a, b) := by
  unfold splitP
  have s1 := specE_shift (112 :: (a ++ b)) 1 400 0
  rw [Nat.add_zero, List.drop_succ_cons, List.drop_zero] at s1
  have h1 : (specE (112 :: (a ++ b)) 400 1).1 = ((a.length + 1 : Nat) : Int) := by
    rw [s1]
    unfold shE
    rw [right_ext ha, if_neg (by omega)]
    simp only
    omega
  rw [h1, Int.toNat_natCast, List.take_succ_cons, List.drop_succ_cons, List.drop_zero, List.drop_succ_cons, List.take_left, List.drop_left]
theorem takeE_pre {a b : List UInt8} (ha : rightB a = true) : takeE (a ++ b) = (a, b, 0) := by
  unfold takeE
  have := rightB_len ha
  rw [right_ext ha, if_neg (by omega), if_neg (by omega), Int.toNat_natCast, List.take_left, List.drop_left]
theorem of_spec {s : List UInt8} (hk : kindB s = 112) : parts_Of.f s = some [(splitP s).1, (splitP s).2] := by
  obtain ⟨a, b, rfl, ha, hb, hs, _, _⟩ := split_spec hk
  obtain ⟨c, r, _, _, hr⟩ := kind_cons hk (by decide)
  have hlen := rightB_len hr
  have hla := rightB_len ha
  have hlb := rightB_len hb
  simp only [List.length_cons, List.length_append] at hlen
  rw [hs]
  unfold parts_Of.f
  rw [right_spec (by simp; omega), hr, Option.bind_some, cond_true]
  have hn : nextM (112 :: (a ++ b)) = some [a, b] := by
    unfold nextM headM
    rw [show idxS (112 :: (a ++ b)) (0 : Int) = some 112 from rfl, Option.bind_some, if_pos (by unfold five; omega), show (1 : Int) = ((1 : Nat) : Int) from rfl, slc_to (by simp), Option.bind_some, List.drop_succ_cons, List.drop_zero]
    have st : ∀ (acc : List (List UInt8)) (x y : List UInt8), rightB x = true → (x ++ y).length ≤ 140737488355328 → stepN (acc, x ++ y) = some (.inl (acc ++ [x], y)) := by
      intro acc x y hx hxy
      have hx0 := rightB_len hx
      unfold stepN
      rw [if_neg (by intro h; have := congrArg List.length h; simp at this; rw [this.1] at hx0; simp at hx0), take_spec hxy, Option.bind_some, takeE_pre hx, if_pos rfl]
    refine loop_step (st [] a b ha (by rw [List.length_append]; omega)) ?_
    have h2 := st ([] ++ [a]) b [] hb (by rw [List.length_append]; simp; omega)
    rw [List.append_nil] at h2
    refine loop_step h2 ?_
    refine loop_end ?_
    unfold stepN
    rw [if_pos rfl]; rfl
  rw [hn, Option.bind_some, given_of (by simp)]
/-! The reference's Of. -/
def partsF (self : Nat → Int × Int) (s : List UInt8) : Nat → Nat → List (List UInt8)
  | 0, _ => []
  | n + 1, k => (s.drop k).take ((self k).1.toNat - k) :: partsF self s n (self k).1.toNat
theorem partsF_len (self : Nat → Int × Int) (s : List UInt8) : ∀ n k, (partsF self s n k).length = n
  | 0, _ => rfl
  | n + 1, k => by simp [partsF, partsF_len self s n]
theorem of_loop {s : List UInt8} (hb : s.length ≤ 140737488355328) {p : Bool} : ∀ (n k : Nat) (last : List UInt8) (d : Nat) (acc : List (List UInt8)), acc.length + n ≤ 100 → k ≤ s.length → (manyF (specE s 399) s p n k last d).1 = (s.length : Int) →
    loopM (fun q : (List (List UInt8)) × Int => gemotref2_Of.b1 s q.1 q.2) (acc, (k : Int)) = some (acc ++ partsF (specE s 400) s n k)
  | 0, k, last, d, acc, hn, hk, h => by
    simp only [manyF] at h
    refine loop_end ?_
    show gemotref2_Of.b1 s acc (k : Int) = _
    unfold gemotref2_Of.b1
    rw [cond_f (by omega)]
    simp [partsF]
  | n + 1, k, last, d, acc, hn, hk, h => by
    have hle0 := manyF_le (self := specE s 399) (s := s) (p := p) (specE_le s 399) (n + 1) k last d hk (by omega)
    have hlt := hle0.2.2 (by omega)
    rw [h] at hlt
    unfold manyF at h
    by_cases hneg : (specE s 399 k).1 < 0
    · rw [if_pos hneg] at h; simp only at h; omega
    rw [if_neg hneg] at h
    by_cases hp : (p && strLt ((s.drop k).take ((specE s 399 k).1.toNat - k)) last) = true
    · rw [if_pos hp] at h; simp only at h; omega
    rw [if_neg hp] at h
    have hle := specE_le s 399 k (by omega)
    have m := specE_mono (s := s) (left := 399) (more := 400) (a := k) (by omega) (by omega)
    have hbody : gemotref2_Of.b1 s acc (k : Int) = some (.inl (acc ++ [(s.drop k).take ((specE s 400 k).1.toNat - k)], (((specE s 399 k).1.toNat : Nat) : Int))) := by
      unfold gemotref2_Of.b1
      rw [cond_t (by omega), end_spec hb hk, Option.bind_some, m]
      have := slc_lt (xs := s) (a := k) (b := (specE s 399 k).1.toNat) (by omega) (by omega)
      rw [show (((specE s 399 k).1.toNat : Nat) : Int) = (specE s 399 k).1 by omega] at this
      rw [this, Option.bind_some, room_of (by omega), show (((specE s 399 k).1.toNat : Nat) : Int) = (specE s 399 k).1 by omega]
    refine loop_step hbody ?_
    rw [of_loop hb n _ _ _ _ (by rw [List.length_append]; simp; omega) (by omega) h]
    rw [partsF, m, List.append_assoc]; rfl
theorem rof_spec {s : List UInt8} (hb : s.length ≤ 140737488355328) : ∃ xs, gemotref2_Of.f s = some xs ∧ (kindB s = 112 → xs = [(splitP s).1, (splitP s).2]) := by
  unfold gemotref2_Of.f
  rw [(kind_spec hb).2, Option.bind_some]
  by_cases hk : kindB s = 107 ∨ kindB s = 104 ∨ kindB s = 112 ∨ kindB s = 115 ∨ kindB s = 120 ∨ kindB s = 101
  · obtain ⟨c, r, hs, hc, hr⟩ := kind_cons (k := kindB s) rfl (by omega)
    have hlen := rightB_len hr
    have hr0 := hr
    unfold rightB at hr
    rw [decide_eq_true_eq] at hr
    have h1 := hr.1
    rw [specE_succ, List.drop_zero] at h1
    subst hs
    simp only at h1
    have hl0 : leafN c r = 0 := by
      unfold leafN
      have hne : ∀ k : UInt8, (k = 103 ∨ k = 110 ∨ k = 117 ∨ k = 105 ∨ k = 116) → c ≠ k := by
        intro k hk2 q
        subst q
        rw [← hc] at hk
        rcases hk2 with rfl | rfl | rfl | rfl | rfl <;> simp at hk
      rw [if_neg (hne 103 (by simp)), if_neg (fun q => q.elim (hne 110 (by simp)) (hne 117 (by simp))), if_neg (hne 105 (by simp)), if_neg (hne 116 (by simp))]
    rw [hl0, if_neg (by decide)] at h1
    cases ho : openT c r with
    | none => rw [ho] at h1; simp only [List.length_cons] at h1; omega
    | some q =>
      obtain ⟨n, p, o⟩ := q
      rw [ho] at h1
      simp only [Nat.zero_add] at h1
      have hno := openT_some ho
      have hlp := of_loop hb n o [] 0 [] (by simp; omega) (by simp; omega) h1
      have hk3 : ∀ v : Int, v = (o : Int) → gemotref2_Of.k3 (c :: r) v = some (partsF (specE (c :: r) 400) (c :: r) n o) := by
        intro v hv
        unfold gemotref2_Of.k3
        rw [hv, show loopM (fun s244 : (List (List UInt8)) × Int => gemotref2_Of.b1 (c :: r) s244.1 s244.2) (([] : List (List UInt8)), (o : Int)) = _ from hlp]
        rfl
      refine ⟨partsF (specE (c :: r) 400) (c :: r) n o, ?_, ?_⟩
      · have ho1 : kindB (c :: r) ≠ 101 → (1 : Int) = (o : Int) := by
          intro hne
          have hc101 : c ≠ 101 := fun q => by subst q; exact hne hc.symm
          unfold openT at ho
          by_cases x1 : c = 107
          · rw [if_pos x1] at ho
            split at ho
            · split at ho
              · cases ho; rfl
              · cases ho
            · cases ho
          rw [if_neg x1] at ho
          by_cases x2 : c = 104
          · rw [if_pos x2] at ho; cases ho; rfl
          rw [if_neg x2] at ho
          by_cases x3 : c = 112 ∨ c = 120
          · rw [if_pos x3] at ho; cases ho; rfl
          rw [if_neg x3] at ho
          by_cases x4 : c = 115
          · rw [if_pos x4] at ho; cases ho; rfl
          rw [if_neg x4, if_neg hc101] at ho
          cases ho
        have ho2 : kindB (c :: r) = 101 → (2 : Int) = (o : Int) := by
          intro he
          obtain rfl : c = 101 := UInt8.toNat_inj.1 (by show c.toNat = 101; omega)
          unfold openT at ho
          rw [if_neg (by decide), if_neg (by decide), if_neg (by decide), if_neg (by decide), if_pos rfl] at ho
          split at ho
          · split at ho
            · cases ho; rfl
            · cases ho
          · cases ho
        unfold gemotref2_Of.k4
        by_cases x6 : kindB (c :: r) = 101
        · rw [x6]
          show gemotref2_Of.k3 (c :: r) 2 = _
          exact hk3 _ (ho2 x6)
        · have hk' : kindB (c :: r) = 107 ∨ kindB (c :: r) = 104 ∨ kindB (c :: r) = 112 ∨ kindB (c :: r) = 115 ∨ kindB (c :: r) = 120 := by omega
          have := hk3 1 (ho1 x6)
          rcases hk' with h | h | h | h | h <;> rw [h] <;> exact this
      · intro h112
        obtain ⟨a, b, e1, ha, hb2, hs, hs1, hs2⟩ := split_spec h112
        obtain rfl : c = 112 := by injection e1
        cases ho
        have e1' : (112 :: r : List UInt8).length = a.length + b.length + 1 := by rw [e1]; simp
        rw [hs]
        simp only [partsF]
        rw [hs1, Int.toNat_natCast, hs2, Int.toNat_natCast, e1, List.drop_succ_cons, List.drop_zero, Nat.add_sub_cancel, List.take_left, List.drop_succ_cons, List.drop_left, List.take_of_length_le (by simp)]
  · refine ⟨[], ?_, fun h => absurd (Or.inr (Or.inr (Or.inl h))) hk⟩
    unfold gemotref2_Of.k4
    have e : ∀ k : Int, (k = 107 ∨ k = 104 ∨ k = 112 ∨ k = 115 ∨ k = 120 ∨ k = 101) → (kindB s == k) = false := fun k hk2 => beq_eq_false_iff_ne.2 (fun q => hk (by rw [q]; exact hk2))
    rw [e 107 (by simp), e 104 (by simp), e 112 (by simp), e 115 (by simp), e 120 (by simp), e 101 (by simp)]
    rfl
/-! A row's terms, taken. -/
def takeL : Nat → List UInt8 → Option (List (List UInt8))
  | 0, s => if s = countedT 117 0 then some [] else none
  | k + 1, s => if s = countedT 117 0 then some [] else if kindB s = 112 then (takeL k (splitP s).2).map ((splitP s).1 :: ·) else none
def takeR (s : List UInt8) : List (List UInt8) × Int := match takeL 150 s with | some l => (l, 0) | none => ([], 2)
theorem split_len {s : List UInt8} (hk : kindB s = 112) : (splitP s).2.length ≤ s.length := by
  obtain ⟨a, b, rfl, _, _, hs, _, _⟩ := split_spec hk
  rw [hs]; simp; omega
theorem ltake_loop : ∀ (k : Nat) (s : List UInt8) (acc : List (List UInt8)), acc.length + k = 150 → s.length ≤ 140737488355328 →
    loopM (fun q : (List UInt8) × (List (List UInt8)) => list_Take.b1 q.1 q.2) (s, acc) = some (match takeL k s with | some l => .inl (acc ++ l) | none => .inr ([], 2)) := by
  intro k
  induction k with
  | zero =>
    intro s acc ha hb
    refine loop_end ?_
    show list_Take.b1 s acc = _
    unfold list_Take.b1 term_Number.f takeL
    rw [Option.bind_some, strEq_eq]
    by_cases h : s = countedT 117 0
    · rw [if_pos h, decide_eq_true h]; simp
    · rw [if_neg h, decide_eq_false h, Bool.not_false, cond_true, (kind_spec hb).1, Option.bind_some, show ((acc.length : Int) == (150 : Int)) = true by simp; omega]
      cases kindB s != 112 <;> rfl
  | succ k ih =>
    intro s acc ha hb
    unfold takeL
    by_cases h : s = countedT 117 0
    · rw [if_pos h]
      refine loop_end ?_
      show list_Take.b1 s acc = _
      unfold list_Take.b1 term_Number.f
      rw [Option.bind_some, strEq_eq, decide_eq_true h]; simp
    · rw [if_neg h]
      have hpre : list_Take.b1 s acc = cond (kindB s != (112 : Int)) (some (.inr (Sum.inr (([] : List (List UInt8)), (2 : Int))))) ((parts_Of.f s).bind fun y429 => (idxL y429 (0 : Int)).bind fun y441 => roomM 16 (acc.length + 1) ((idxL y429 (1 : Int)).bind fun y457 => some (.inl (y457, (acc ++ [y441]))))) := by
        unfold list_Take.b1 term_Number.f
        rw [Option.bind_some, strEq_eq, decide_eq_false h, Bool.not_false, cond_true, (kind_spec hb).1, Option.bind_some, show ((acc.length : Int) == (150 : Int)) = false from beq_eq_false_iff_ne.2 (by omega)]
        cases kindB s != 112 <;> rfl
      by_cases hk : kindB s = 112
      · rw [if_pos hk]
        rw [hk, of_spec hk, show ((112 : Int) != (112 : Int)) = false from rfl, cond_false, Option.bind_some] at hpre
        have hpre' : list_Take.b1 s acc = some (.inl ((splitP s).2, acc ++ [(splitP s).1])) := by
          rw [hpre]
          show roomM 16 (acc.length + 1) _ = _
          rw [room_of (by omega)]; rfl
        refine loop_step hpre' ?_
        have := split_len hk
        rw [ih (splitP s).2 (acc ++ [(splitP s).1]) (by rw [List.length_append]; simp; omega) (by omega)]
        cases takeL k (splitP s).2 with
        | none => rfl
        | some l => simp
      · rw [if_neg hk]
        rw [show (kindB s != (112 : Int)) = true from bne_iff_ne.2 hk, cond_true] at hpre
        exact loop_end hpre
theorem ltake_spec {s : List UInt8} (hb : s.length ≤ 140737488355328) : list_Take.f s = some (takeR s) := by
  unfold list_Take.f takeR
  rw [ltake_loop 150 s [] rfl hb]
  cases takeL 150 s with
  | none => rfl
  | some l => rfl
theorem rtake_loop : ∀ (k : Nat) (s : List UInt8) (acc : List (List UInt8)), acc.length + k = 150 → s.length ≤ 140737488355328 →
    loopM (fun q : (List (List UInt8)) × (List UInt8) => gemotref4_Take.b1 q.1 q.2) (acc, s) = some (match takeL k s with | some l => .inl (acc ++ l) | none => .inr ([], 2)) := by
  intro k
  induction k with
  | zero =>
    intro s acc ha hb
    refine loop_end ?_
    show gemotref4_Take.b1 acc s = _
    unfold gemotref4_Take.b1 takeL
    rw [rnumber_eq, Option.bind_some, strEq_eq]
    by_cases h : s = countedT 117 0
    · rw [if_pos h, decide_eq_true h]; simp
    · obtain ⟨xs, hx, _⟩ := rof_spec hb
      rw [if_neg h, decide_eq_false h, Bool.not_false, cond_true, hx, Option.bind_some, (kind_spec hb).2, Option.bind_some, show ((acc.length : Int) == (150 : Int)) = true by simp; omega]
      cases kindB s != 112 <;> rfl
  | succ k ih =>
    intro s acc ha hb
    unfold takeL
    by_cases h : s = countedT 117 0
    · rw [if_pos h]
      refine loop_end ?_
      show gemotref4_Take.b1 acc s = _
      unfold gemotref4_Take.b1
      rw [rnumber_eq, Option.bind_some, strEq_eq, decide_eq_true h]; simp
    · rw [if_neg h]
      obtain ⟨xs, hx, hxs⟩ := rof_spec hb
      have hpre : gemotref4_Take.b1 acc s = cond (kindB s != (112 : Int)) (some (.inr (Sum.inr (([] : List (List UInt8)), (2 : Int))))) ((idxL xs (0 : Int)).bind fun y434 => roomM 16 (acc.length + 1) ((idxL xs (1 : Int)).bind fun y450 => some (.inl ((acc ++ [y434]), y450)))) := by
        unfold gemotref4_Take.b1
        rw [rnumber_eq, Option.bind_some, strEq_eq, decide_eq_false h, Bool.not_false, cond_true, hx, Option.bind_some, (kind_spec hb).2, Option.bind_some, show ((acc.length : Int) == (150 : Int)) = false from beq_eq_false_iff_ne.2 (by omega)]
        cases kindB s != 112 <;> rfl
      by_cases hk : kindB s = 112
      · rw [if_pos hk]
        rw [hk, hxs hk, show ((112 : Int) != (112 : Int)) = false from rfl, cond_false] at hpre
        have hpre' : gemotref4_Take.b1 acc s = some (.inl (acc ++ [(splitP s).1], (splitP s).2)) := by
          rw [hpre]
          show roomM 16 (acc.length + 1) _ = _
          rw [room_of (by omega)]; rfl
        refine loop_step hpre' ?_
        have := split_len hk
        rw [ih (splitP s).2 (acc ++ [(splitP s).1]) (by rw [List.length_append]; simp; omega) (by omega)]
        cases takeL k (splitP s).2 with
        | none => rfl
        | some l => simp
      · rw [if_neg hk]
        rw [show (kindB s != (112 : Int)) = true from bne_iff_ne.2 hk, cond_true] at hpre
        exact loop_end hpre
theorem rtake4_spec {s : List UInt8} (hb : s.length ≤ 140737488355328) : gemotref4_Take.f s = some (takeR s) := by
  unfold gemotref4_Take.f takeR
  rw [rtake_loop 150 s [] rfl hb]
  cases takeL 150 s with
  | none => rfl
  | some l => rfl
/-! Put and taken. -/
theorem takeL_put : ∀ (k : Nat) (s : List UInt8) (l : List (List UInt8)), takeL k s = some l → s = putT l ∧ l.length ≤ k ∧ (∀ t ∈ l, rightB t = true) ∧ (0 < l.length → rightB s = true) := by
  intro k
  induction k with
  | zero =>
    intro s l h
    unfold takeL at h
    split at h
    · rename_i hs; cases h; exact ⟨hs.trans putT_nil.symm, by simp, fun t ht => by simp at ht, fun h => by simp at h⟩
    · cases h
  | succ k ih =>
    intro s l h
    unfold takeL at h
    split at h
    · rename_i hs; cases h; exact ⟨hs.trans putT_nil.symm, by simp, fun t ht => by simp at ht, fun h => by simp at h⟩
    · split at h
      · rename_i hk
        obtain ⟨a, b, e1, ha, hb, hs, _, _⟩ := split_spec hk
        obtain ⟨_, _, _, _, hr⟩ := kind_cons hk (by decide)
        rw [hs] at h
        cases ht : takeL k b with
        | none => rw [ht] at h; cases h
        | some l' =>
          rw [ht] at h
          cases h
          obtain ⟨i1, i2, i3, i4⟩ := ih b l' ht
          refine ⟨by rw [putT_cons, ← i1]; exact e1, by simpa using i2, ?_, fun _ => hr⟩
          intro t htm
          rcases List.mem_cons.1 htm with q | q
          · rw [q]; exact ha
          · exact i3 t q
      · cases h
theorem put_takeL : ∀ (l : List (List UInt8)) (k : Nat), l.length ≤ k → (∀ t ∈ l, rightB t = true) → (0 < l.length → rightB (putT l) = true) → takeL k (putT l) = some l
  | [], k, _, _, _ => by
    cases k <;> (unfold takeL; rw [if_pos putT_nil])
  | a :: l, k, hk, hr, hp => by
    obtain ⟨k, rfl⟩ : ∃ m, k = m + 1 := ⟨k - 1, by simp at hk; omega⟩
    have ha := hr a List.mem_cons_self
    have hP := hp (by simp)
    have hkind : kindB (putT (a :: l)) = 112 := by
      unfold kindB
      rw [if_pos hP, putT_cons]; rfl
    have hsp : splitP (putT (a :: l)) = (a, putT l) := by rw [putT_cons]; exact split_cons ha
    obtain ⟨a', b', e1, _, hb, hs, _, _⟩ := split_spec hkind
    have hbl : rightB (putT l) = true := by
      rw [hs] at hsp
      injection hsp with h1 h2
      rw [← h2]; exact hb
    unfold takeL
    rw [if_neg (by rw [putT_cons]; intro q; injection q with q _; cases q), if_pos hkind, hsp]
    simp only
    rw [put_takeL l k (by simp at hk; omega) (fun t ht => hr t (List.mem_cons_of_mem _ ht)) (fun _ => hbl)]
    rfl
end Go.Proofs.Ytgomlcfoifkdiaa.G
