/- Terms: their kinds, what a number is worth, rows of terms put and taken. -/
import Derived.Test.YtipoblinefamgaaMbK
namespace Go.Proofs.Ytipoblinefamgaa.G
open Go.RowKit Go.Eng Go.Proofs Go.Proofs.Ytipoblinefamgaa.Cut
set_option linter.unusedVariables false
set_option linter.unusedSimpArgs false
theorem take_map {α β : Type} (f : α → β) {xs : List α} {i : Nat} (h : i < xs.length) : (xs.take i).map f ++ [f xs[i]] = (xs.take (i + 1)).map f := by rw [← take_snoc h, List.map_append]; rfl
def kindB (s : List UInt8) : Int := if rightB s = true then (match s with | c :: _ => (c.toNat : Int) | [] => 0) else 0
theorem kind_spec {s : List UInt8} (hb : s.length ≤ 140737488355328) : parts_Kind.f s = some (kindB s) := by
  unfold parts_Kind.f kindB
  rw [right_spec hb, Option.bind_some]
  cases h : rightB s with
  | false => rfl
  | true =>
    have := rightB_len h
    cases s with
    | nil => simp at this
    | cons c r => rfl
def valE (l : List UInt8) : Nat := l.foldl (fun v b => 256 * v + b.toNat) 0
theorem bytesOf8 (n : Int) : bytesOf n 8 = [byteAt n 56, byteAt n 48, byteAt n 40, byteAt n 32, byteAt n 24, byteAt n 16, byteAt n 8, byteAt n 0] := rfl
theorem byte_nat (n : Nat) (k : Nat) (hk : k ≤ 64) : ((byteAt (n : Int) (k : Int)).toNat : Nat) = n / 2 ^ k % 256 := by
  unfold byteAt b8
  rw [show min ((k : Int)).toNat IntKind.u64.bits = k by simp [IntKind.bits]; omega]
  have : ((n : Int).fdiv (2 ^ k) % 256).toNat = n / 2 ^ k % 256 := by
    have h : (n : Int).fdiv (2 ^ k) = ((n / 2 ^ k : Nat) : Int) := by
      rw [Int.fdiv_eq_ediv_of_nonneg _ (by exact_mod_cast Nat.zero_le _)]
      norm_cast
    rw [h]; omega
  rw [this]
  simp
theorem bytes_nat (n : Nat) : (byteAt (n : Int) 56).toNat = n / 72057594037927936 % 256 ∧ (byteAt (n : Int) 48).toNat = n / 281474976710656 % 256 ∧ (byteAt (n : Int) 40).toNat = n / 1099511627776 % 256 ∧ (byteAt (n : Int) 32).toNat = n / 4294967296 % 256 ∧ (byteAt (n : Int) 24).toNat = n / 16777216 % 256 ∧ (byteAt (n : Int) 16).toNat = n / 65536 % 256 ∧ (byteAt (n : Int) 8).toNat = n / 256 % 256 ∧ (byteAt (n : Int) 0).toNat = n / 1 % 256 :=
  ⟨byte_nat n 56 (by omega), byte_nat n 48 (by omega), byte_nat n 40 (by omega), byte_nat n 32 (by omega), byte_nat n 24 (by omega), byte_nat n 16 (by omega), byte_nat n 8 (by omega), byte_nat n 0 (by omega)⟩
theorem valE_bytes (n : Nat) (h : n < 18446744073709551616) : valE (bytesOf (n : Int) 8) = n := by
  rw [bytesOf8]
  obtain ⟨e56, e48, e40, e32, e24, e16, e8, e0⟩ := bytes_nat n
  simp only [valE, List.foldl_cons, List.foldl_nil, e56, e48, e40, e32, e24, e16, e8, e0]
  omega
theorem or_add (v : Nat) (b : UInt8) (hv : 256 * v + b.toNat < 18446744073709551616) : orI .u64 (IntKind.u64.wrap ((v : Int) * 2 ^ min ((8 : Int)).toNat IntKind.u64.bits)) (IntKind.u64.wrap (b.toNat : Int)) = ((256 * v + b.toNat : Nat) : Int) := by
  have hb := UInt8.toNat_lt b
  have e1 : (v : Int) * 2 ^ min ((8 : Int)).toNat IntKind.u64.bits = ((256 * v : Nat) : Int) := by
    rw [show min ((8 : Int)).toNat IntKind.u64.bits = 8 from rfl]; omega
  rw [e1, Eng.u64_id (by omega) (by omega), Eng.u64_id (by omega) (by omega)]
  unfold orI
  have e2 : (BitVec.ofInt IntKind.u64.bits ((256 * v : Nat) : Int) ||| BitVec.ofInt IntKind.u64.bits (b.toNat : Int)).toNat = 256 * v + b.toNat := by
    rw [BitVec.toNat_or]
    have a1 : (BitVec.ofInt IntKind.u64.bits ((256 * v : Nat) : Int)).toNat = 256 * v := by
      rw [BitVec.ofInt_natCast, BitVec.toNat_ofNat]
      exact Nat.mod_eq_of_lt (by show 256 * v < 18446744073709551616; omega)
    have a2 : (BitVec.ofInt IntKind.u64.bits ((b.toNat : Nat) : Int)).toNat = b.toNat := by
      rw [BitVec.ofInt_natCast, BitVec.toNat_ofNat]
      exact Nat.mod_eq_of_lt (by show b.toNat < 18446744073709551616; omega)
    rw [a1, a2]
    exact (Nat.two_pow_add_eq_or_of_lt (i := 8) hb v).symm
  rw [e2, Eng.u64_id (by omega) (by omega)]
theorem valE_snoc (l : List UInt8) (b : UInt8) : valE (l ++ [b]) = 256 * valE l + b.toNat := by simp [valE, List.foldl_append]
theorem valE_pow : ∀ (n : Nat) (l : List UInt8), l.length = n → valE l < 256 ^ n
  | 0, l, h => by
    obtain rfl : l = [] := List.length_eq_zero_iff.1 h
    decide
  | n + 1, l, h => by
    obtain ⟨m, b, rfl⟩ : ∃ m b, l = m ++ [b] := ⟨l.dropLast, l.getLast (by intro q; rw [q] at h; cases h), (List.dropLast_concat_getLast _).symm⟩
    have ih := valE_pow n m (by simpa using h)
    have hb := UInt8.toNat_lt b
    rw [valE_snoc, Nat.pow_succ]; omega
theorem right_num {c : UInt8} {r : List UInt8} (h : rightB (c :: r) = true) (hc : c = 110 ∨ c = 117) : r.length = 8 := by
  unfold rightB at h
  rw [decide_eq_true_eq] at h
  have h1 := h.1
  rw [specE_succ, List.drop_zero] at h1
  simp only at h1
  have h103 : c ≠ 103 := by rcases hc with rfl | rfl <;> decide
  have hop : openT c r = none := by rcases hc with rfl | rfl <;> rfl
  have hl : leafN c r = if 8 ≤ r.length then 9 else 0 := by
    unfold leafN
    rw [if_neg h103, if_pos hc]
  by_cases h8 : 8 ≤ r.length
  · rw [hl, if_pos h8, if_pos (by decide)] at h1
    simp only [List.length_cons] at h1
    omega
  · rw [hl, if_neg h8, if_neg (by decide), hop] at h1
    simp only [List.length_cons] at h1
    omega
def valueE (s : List UInt8) : Int × Bool := if kindB s = 110 ∨ kindB s = 117 then (((valE (s.drop 1) : Nat) : Int), true) else (0, false)
theorem kind_cons {s : List UInt8} {k : Int} (h : kindB s = k) (hk : k ≠ 0) : ∃ c r, s = c :: r ∧ (c.toNat : Int) = k ∧ rightB s = true := by
  unfold kindB at h
  by_cases hr : rightB s = true
  · rw [if_pos hr] at h
    cases s with
    | nil => exact absurd h.symm hk
    | cons c r => exact ⟨c, r, rfl, h, hr⟩
  · rw [if_neg hr] at h; exact absurd h.symm hk
theorem value_spec {s : List UInt8} (hb : s.length ≤ 140737488355328) : parts_Value.f s = some (valueE s) := by
  unfold parts_Value.f valueE
  rw [kind_spec hb, Option.bind_some]
  by_cases hk : kindB s = 110 ∨ kindB s = 117
  · rw [if_pos hk]
    have e : (cond (kindB s != (110 : Int)) (kindB s != (117 : Int)) false) = false := by
      rcases hk with h | h <;> rw [h] <;> rfl
    rw [e, cond_false]
    obtain ⟨c, r, rfl, hc, hr⟩ := kind_cons (k := kindB s) rfl (by rcases hk with h | h <;> rw [h] <;> decide)
    have hc' : c = 110 ∨ c = 117 := by
      rw [← hc] at hk
      rcases hk with h | h
      · exact .inl (UInt8.toNat_inj.1 (by show c.toNat = 110; omega))
      · exact .inr (UInt8.toNat_inj.1 (by show c.toNat = 117; omega))
    have h8 := right_num hr hc'
    have step : ∀ i, (hi : i < r.length) → valE (r.take (i + 1)) = 256 * valE (r.take i) + r[i].toNat := fun i hi => by rw [← take_snoc hi, valE_snoc]
    have bound : ∀ i, i ≤ 8 → valE (r.take i) < 18446744073709551616 := fun i hi => by
      have h1 := valE_pow i (r.take i) (by rw [List.length_take]; omega)
      have h2 : (256 : Nat) ^ i ≤ 256 ^ 8 := Nat.pow_le_pow_right (by omega) hi
      have h3 : (256 : Nat) ^ 8 = 18446744073709551616 := by decide
      omega
    · rw [show (1 : Int) = ((1 : Nat) : Int) from rfl, slc_to (by simp), Option.bind_some, List.drop_succ_cons, List.drop_zero]
      have hlen : (bytesI r).length = 8 := by simp [bytesI, h8]
      have hL : loopM (fun s117 : Int × Int => parts_Value.b1 r s117.1 s117.2) ((0 : Int), (0 : Int)) = some ((valE r : Nat) : Int) := by
        refine loop_count (fun i => (((valE (r.take i) : Nat) : Int), (i : Int))) 8 (fun i hi => ?_) ?_
        · have hir : i < r.length := by omega
          show parts_Value.b1 r ((valE (r.take i) : Nat) : Int) (i : Int) = _
          unfold parts_Value.b1 shlM
          have hs := step i hir
          have hbd := bound (i + 1) (by omega)
          have hx : idxL (bytesI r) (i : Int) = some ((r[i].toNat : Nat) : Int) := by
            rw [idxL_nat]; unfold bytesI; rw [List.getElem?_map, List.getElem?_eq_getElem hir]; rfl
          rw [hlen, cond_t (by omega), hx, Option.bind_some, if_pos (by decide), Option.bind_some, or_add _ _ (by omega), wrap1 i (by omega), hs]
        · show parts_Value.b1 r ((valE (r.take 8) : Nat) : Int) ((8 : Nat) : Int) = _
          unfold parts_Value.b1
          rw [hlen, cond_f (by omega), List.take_of_length_le (by omega)]
      rw [hL]; rfl
  · rw [if_neg hk]
    have e : (cond (kindB s != (110 : Int)) (kindB s != (117 : Int)) false) = true := by
      rw [show (kindB s != (110 : Int)) = true from bne_iff_ne.2 (fun h => hk (.inl h)), show (kindB s != (117 : Int)) = true from bne_iff_ne.2 (fun h => hk (.inr h))]; rfl
    rw [e]; rfl
def splitP (s : List UInt8) : List UInt8 × List UInt8 := ((s.take (specE s 400 1).1.toNat).drop 1, s.drop (specE s 400 1).1.toNat)
theorem right_ext {a b : List UInt8} (h : rightB a = true) : (specE (a ++ b) 400 0).1 = (a.length : Int) := by
  unfold rightB at h
  rw [decide_eq_true_eq] at h
  rw [specE_local (s := a) (t := a ++ b) (E := a.length) (by simp) (Nat.le_refl _) (by simp) 400 0 (by omega) (by omega), h.1]
theorem right_pre {s : List UInt8} {e : Nat} (h : (specE s 400 0).1 = (e : Int)) (he : e ≤ 20000) : rightB (s.take e) = true := by
  have hle := specE_le s 400 0 (by omega)
  unfold rightB
  rw [decide_eq_true_eq, specE_local (s := s) (t := s.take e) (E := e) (by rw [List.take_take, Nat.min_self]) (by omega) (by rw [List.length_take]; omega) 400 0 (by omega) (by omega), h, List.length_take]
  omega
theorem split_spec {s : List UInt8} (hk : kindB s = 112) : ∃ a b, s = 112 :: (a ++ b) ∧ rightB a = true ∧ rightB b = true ∧ splitP s = (a, b) ∧ (specE s 400 1).1 = ((a.length + 1 : Nat) : Int) ∧ (specE s 400 (a.length + 1)).1 = (s.length : Int) := by
  obtain ⟨c, r, rfl, hc, hr⟩ := kind_cons hk (by decide)
  obtain rfl : c = 112 := UInt8.toNat_inj.1 (by show c.toNat = 112; omega)
  have hlen := rightB_len hr
  have hr0 := hr
  unfold rightB at hr
  rw [decide_eq_true_eq] at hr
  have h1 := hr.1
  rw [specE_succ, List.drop_zero] at h1
  simp only at h1
  rw [show leafN 112 r = 0 from rfl, if_neg (by decide), show openT 112 r = some (2, false, 1) from rfl] at h1
  simp only [Nat.zero_add] at h1
  generalize hS : (112 :: r : List UInt8) = S at *
  unfold manyF at h1
  by_cases hn : (specE S 399 1).1 < 0
  · rw [if_pos hn] at h1; simp only at h1; omega
  rw [if_neg hn, Bool.false_and, if_neg (by decide)] at h1
  have hle1 := specE_le S 399 1 (by omega)
  unfold manyF at h1
  by_cases hn2 : (specE S 399 (specE S 399 1).1.toNat).1 < 0
  · rw [if_pos hn2] at h1; simp only at h1; omega
  rw [if_neg hn2, Bool.false_and, if_neg (by decide)] at h1
  have hle2 := specE_le S 399 (specE S 399 1).1.toNat (by omega)
  have h1' : ((specE S 399 (specE S 399 1).1.toNat).1.toNat : Int) = (S.length : Int) := h1
  have m1 := specE_mono (s := S) (left := 399) (more := 400) (a := 1) (by omega) (by omega)
  obtain ⟨e, he⟩ : ∃ e : Nat, (specE S 399 1).1 = ((e + 1 : Nat) : Int) := ⟨(specE S 399 1).1.toNat - 1, by omega⟩
  have m2 := specE_mono (s := S) (left := 399) (more := 400) (a := (specE S 399 1).1.toNat) (by omega) (by omega)
  rw [he, Int.toNat_natCast] at hle2 m2 h1' hn2
  have s1 := specE_shift S 1 400 0
  have s2 := specE_shift S (e + 1) 400 0
  rw [Nat.add_zero] at s1 s2
  have hr1 : S.drop 1 = r := by rw [← hS]; rfl
  rw [hr1] at s1
  have a1 : (specE r 400 0).1 = (e : Int) := by
    have : (specE S 400 1).1 = ((e + 1 : Nat) : Int) := by rw [m1, he]
    rw [s1] at this
    unfold shE at this
    split at this <;> omega
  have a2 : (specE (S.drop (e + 1)) 400 0).1 = ((S.drop (e + 1)).length : Int) := by
    have : (specE S 400 (e + 1)).1 = (S.length : Int) := by rw [m2]; omega
    rw [s2] at this
    unfold shE at this
    rw [List.length_drop]
    split at this <;> omega
  have hSr : S.length = r.length + 1 := by rw [← hS]; rfl
  have hre : S.drop (e + 1) = r.drop e := by rw [← hS]; rfl
  have hta : (r.take e).length = e := by rw [List.length_take]; omega
  refine ⟨r.take e, r.drop e, ?_, right_pre a1 (by omega), ?_, ?_, ?_, ?_⟩
  · rw [List.take_append_drop]; exact hS.symm
  · rw [← hre]
    unfold rightB
    rw [decide_eq_true_eq]
    exact ⟨a2, by rw [List.length_drop]; omega⟩
  · unfold splitP
    rw [m1, he, Int.toNat_natCast, hre]
    rw [← hS, List.take_succ_cons, List.drop_succ_cons, List.drop_zero]
  · rw [m1, he, hta]
  · rw [hta, m2]; omega
theorem split_cons {a b : List UInt8} (ha : rightB a = true) : splitP (112 :: (a ++ b)) = (a, b) := by
  unfold splitP
  have s1 := specE_shift (112 :: (a ++ b)) 1 400 0
  rw [Nat.add_zero, List.drop_succ_cons, List.drop_zero] at s1
  have h1 : (specE (112 :: (a ++ b)) 400 1).1 = ((a.length + 1 : Nat) : Int) := by
    rw [s1]
    unfold shE
    rw [right_ext ha, if_neg (by omega)]
    simp only
    omega
  rw [h1, Int.toNat_natCast, List.take_succ_cons, List.drop_succ_cons, List.drop_zero, List.drop_succ_cons, List.take_left, List.drop_left]
theorem takeE_pre {a b : List UInt8} (ha : rightB a = true) : takeE (a ++ b) = (a, b, 0) := by
  unfold takeE
  have := rightB_len ha
  rw [right_ext ha, if_neg (by omega), if_neg (by omega), Int.toNat_natCast, List.take_left, List.drop_left]
theorem of_spec {s : List UInt8} (hk : kindB s = 112) : parts_Of.f s = some [(splitP s).1, (splitP s).2] := by
  obtain ⟨a, b, rfl, ha, hb, hs, _, _⟩ := split_spec hk
  obtain ⟨c, r, _, _, hr⟩ := kind_cons hk (by decide)
  have hlen := rightB_len hr
  have hla := rightB_len ha
  have hlb := rightB_len hb
  simp only [List.length_cons, List.length_append] at hlen
  rw [hs]
  unfold parts_Of.f
  rw [right_spec (by simp; omega), hr, Option.bind_some, cond_true]
  have hn : nextM (112 :: (a ++ b)) = some [a, b] := by
    unfold nextM headM
    rw [show idxS (112 :: (a ++ b)) (0 : Int) = some 112 from rfl, Option.bind_some, if_pos (by unfold five; omega), show (1 : Int) = ((1 : Nat) : Int) from rfl, slc_to (by simp), Option.bind_some, List.drop_succ_cons, List.drop_zero]
    have st : ∀ (acc : List (List UInt8)) (x y : List UInt8), rightB x = true → (x ++ y).length ≤ 140737488355328 → stepN (acc, x ++ y) = some (.inl (acc ++ [x], y)) := by
      intro acc x y hx hxy
      have hx0 := rightB_len hx
      unfold stepN
      rw [if_neg (by intro h; have := congrArg List.length h; simp at this; rw [this.1] at hx0; simp at hx0), take_spec hxy, Option.bind_some, takeE_pre hx, if_pos rfl]
    refine loop_step (st [] a b ha (by rw [List.length_append]; omega)) ?_
    have h2 := st ([] ++ [a]) b [] hb (by rw [List.length_append]; simp; omega)
    rw [List.append_nil] at h2
    refine loop_step h2 ?_
    refine loop_end ?_
    unfold stepN
    rw [if_pos rfl]; rfl
  rw [hn, Option.bind_some, given_of (by simp)]
def takeL : Nat → List UInt8 → Option (List (List UInt8))
  | 0, s => if s = countedT 117 0 then some [] else none
  | k + 1, s => if s = countedT 117 0 then some [] else if kindB s = 112 then (takeL k (splitP s).2).map ((splitP s).1 :: ·) else none
def takeR (s : List UInt8) : List (List UInt8) × Int := match takeL 150 s with | some l => (l, 0) | none => ([], 2)
theorem split_len {s : List UInt8} (hk : kindB s = 112) : (splitP s).2.length ≤ s.length := by
  obtain ⟨a, b, rfl, _, _, hs, _, _⟩ := split_spec hk
  rw [hs]; simp; omega
theorem ltake_loop : ∀ (k : Nat) (s : List UInt8) (acc : List (List UInt8)), acc.length + k = 150 → s.length ≤ 140737488355328 →
    loopM (fun q : (List UInt8) × (List (List UInt8)) => list_Take.b1 q.1 q.2) (s, acc) = some (match takeL k s with | some l => .inl (acc ++ l) | none => .inr ([], 2)) := by
  intro k
  induction k with
  | zero =>
    intro s acc ha hb
    refine loop_end ?_
    show list_Take.b1 s acc = _
    unfold list_Take.b1 term_Number.f takeL
    rw [Option.bind_some, strEq_eq]
    by_cases h : s = countedT 117 0
    · rw [if_pos h, decide_eq_true h]; simp
    · rw [if_neg h, decide_eq_false h, Bool.not_false, cond_true, kind_spec hb, Option.bind_some, show ((acc.length : Int) == (150 : Int)) = true by simp; omega]
      cases kindB s != 112 <;> rfl
  | succ k ih =>
    intro s acc ha hb
    unfold takeL
    by_cases h : s = countedT 117 0
    · rw [if_pos h]
      refine loop_end ?_
      show list_Take.b1 s acc = _
      unfold list_Take.b1 term_Number.f
      rw [Option.bind_some, strEq_eq, decide_eq_true h]; simp
    · rw [if_neg h]
      have hpre : list_Take.b1 s acc = cond (kindB s != (112 : Int)) (some (.inr (Sum.inr (([] : List (List UInt8)), (2 : Int))))) ((parts_Of.f s).bind fun y429 => (idxL y429 (0 : Int)).bind fun y441 => roomM 16 (acc.length + 1) ((idxL y429 (1 : Int)).bind fun y457 => some (.inl (y457, (acc ++ [y441]))))) := by
        unfold list_Take.b1 term_Number.f
        rw [Option.bind_some, strEq_eq, decide_eq_false h, Bool.not_false, cond_true, kind_spec hb, Option.bind_some, show ((acc.length : Int) == (150 : Int)) = false from beq_eq_false_iff_ne.2 (by omega)]
        cases kindB s != 112 <;> rfl
      by_cases hk : kindB s = 112
      · rw [if_pos hk]
        rw [hk, of_spec hk, show ((112 : Int) != (112 : Int)) = false from rfl, cond_false, Option.bind_some] at hpre
        have hpre' : list_Take.b1 s acc = some (.inl ((splitP s).2, acc ++ [(splitP s).1])) := by
          rw [hpre]
          show roomM 16 (acc.length + 1) _ = _
          rw [room_of (by omega)]; rfl
        refine loop_step hpre' ?_
        have := split_len hk
        rw [ih (splitP s).2 (acc ++ [(splitP s).1]) (by rw [List.length_append]; simp; omega) (by omega)]
        cases takeL k (splitP s).2 with
        | none => rfl
        | some l => simp
      · rw [if_neg hk]
        rw [show (kindB s != (112 : Int)) = true from bne_iff_ne.2 hk, cond_true] at hpre
        exact loop_end hpre
theorem ltake_spec {s : List UInt8} (hb : s.length ≤ 140737488355328) : list_Take.f s = some (takeR s) := by
  unfold list_Take.f takeR
  rw [ltake_loop 150 s [] rfl hb]
  cases takeL 150 s with
  | none => rfl
  | some l => rfl
theorem takeL_put : ∀ (k : Nat) (s : List UInt8) (l : List (List UInt8)), takeL k s = some l → s = putT l ∧ l.length ≤ k ∧ (∀ t ∈ l, rightB t = true) ∧ (0 < l.length → rightB s = true) := by
  intro k
  induction k with
  | zero =>
    intro s l h
    unfold takeL at h
    split at h
    · rename_i hs; cases h; exact ⟨hs.trans putT_nil.symm, by simp, fun t ht => by simp at ht, fun h => by simp at h⟩
    · cases h
  | succ k ih =>
    intro s l h
    unfold takeL at h
    split at h
    · rename_i hs; cases h; exact ⟨hs.trans putT_nil.symm, by simp, fun t ht => by simp at ht, fun h => by simp at h⟩
    · split at h
      · rename_i hk
        obtain ⟨a, b, e1, ha, hb, hs, _, _⟩ := split_spec hk
        obtain ⟨_, _, _, _, hr⟩ := kind_cons hk (by decide)
        rw [hs] at h
        cases ht : takeL k b with
        | none => rw [ht] at h; cases h
        | some l' =>
          rw [ht] at h
          cases h
          obtain ⟨i1, i2, i3, i4⟩ := ih b l' ht
          refine ⟨by rw [putT_cons, ← i1]; exact e1, by simpa using i2, ?_, fun _ => hr⟩
          intro t htm
          rcases List.mem_cons.1 htm with q | q
          · rw [q]; exact ha
          · exact i3 t q
      · cases h
theorem put_takeL : ∀ (l : List (List UInt8)) (k : Nat), l.length ≤ k → (∀ t ∈ l, rightB t = true) → (0 < l.length → rightB (putT l) = true) → takeL k (putT l) = some l
  | [], k, _, _, _ => by
    cases k <;> (unfold takeL; rw [if_pos putT_nil])
  | a :: l, k, hk, hr, hp => by
    obtain ⟨k, rfl⟩ : ∃ m, k = m + 1 := ⟨k - 1, by simp at hk; omega⟩
    have ha := hr a List.mem_cons_self
    have hP := hp (by simp)
    have hkind : kindB (putT (a :: l)) = 112 := by
      unfold kindB
      rw [if_pos hP, putT_cons]; rfl
    have hsp : splitP (putT (a :: l)) = (a, putT l) := by rw [putT_cons]; exact split_cons ha
    obtain ⟨a', b', e1, _, hb, hs, _, _⟩ := split_spec hkind
    have hbl : rightB (putT l) = true := by
      rw [hs] at hsp
      injection hsp with h1 h2
      rw [← h2]; exact hb
    unfold takeL
    rw [if_neg (by rw [putT_cons]; intro q; injection q with q _; cases q), if_pos hkind, hsp]
    simp only
    rw [put_takeL l k (by simp at hk; omega) (fun t ht => hr t (List.mem_cons_of_mem _ ht)) (fun _ => hbl)]
    rfl
theorem putE_ok {l : List (List UInt8)} {t : List UInt8} (h : putE l = (t, 0)) : l.length ≤ 150 ∧ (∀ t ∈ l, rightB t = true) ∧ rightB (putT l) = true ∧ t = putT l := by
  unfold putE at h
  split at h
  · injection h with _ h; cases h
  split at h
  · injection h with _ h; cases h
  split at h
  · injection h with _ h; cases h
  split at h
  · rename_i h1 h2 h3 h4
    injection h with h _
    exact ⟨by omega, rights_of h2, h4, h.symm⟩
  · injection h with _ h; cases h
theorem putE_zero {l : List (List UInt8)} (h : (putE l).2 = 0) : putE l = (putT l, 0) := by
  have h2 := putE_ok (l := l) (t := (putE l).1) (by rw [← h])
  rw [← h2.2.2.2, ← h]
def numT (n : Int) : List UInt8 := countedT 117 n
def okN (n : Int) : Bool := decide (0 ≤ n ∧ n ≤ 2147483647)
theorem num_right (n : Int) : rightB (numT n) = true := by
  unfold rightB
  rw [decide_eq_true_eq, specE_succ]
  have hl : (bytesOf n 8).length = 8 := bytesOf_length n 8
  show (if leafN 117 (bytesOf n 8) ≠ 0 then _ else _ : Int × Int).1 = _ ∧ _
  have hleaf : leafN 117 (bytesOf n 8) = 9 := by
    unfold leafN
    rw [if_neg (by decide), if_pos (by decide), if_pos (by omega)]
  rw [hleaf, if_pos (by decide)]
  unfold numT countedT
  rw [List.length_cons, hl]
  exact ⟨rfl, by omega⟩
theorem num_kind (n : Int) : kindB (numT n) = 117 := by
  unfold kindB
  rw [if_pos (num_right n)]; rfl
theorem num_value {n : Int} (h0 : 0 ≤ n) (h : n ≤ 2147483647) : valueE (numT n) = (n, true) := by
  unfold valueE
  rw [if_pos (.inr (num_kind n))]
  have e : (numT n).drop 1 = bytesOf n 8 := rfl
  obtain ⟨m, rfl⟩ : ∃ m : Nat, n = (m : Int) := ⟨n.toNat, by omega⟩
  rw [e, valE_bytes m (by omega)]
theorem num_len (n : Int) : (numT n).length = 9 := by simp [numT, countedT, bytesOf_length]
/-- A row, by the program: in order, or none. -/
def rowE (items : List (List UInt8)) (ns : List Int) : List UInt8 × Bool :=
  if ns.all okN = true then ((putE (ns.map numT ++ items)).1, decide ((putE (ns.map numT ++ items)).2 = 0 ∧ 0 < items.length)) else ([], false)
theorem row_spec {items : List (List UInt8)} {ns : List Int} (hb : ∀ t ∈ items, t.length ≤ 140737488355328) (hi : items.length ≤ 8796093022000) (hn : ns.length ≤ 100) : cut_row.f items ns = some (rowE items ns) := by
  unfold cut_row.f rowE
  have step : ∀ i, (hi : i < ns.length) → cut_row.b1 items ns ((ns.take i).map numT) (i : Int) = if okN ns[i] = true then some (.inl (((ns.take (i + 1)).map numT), ((i + 1 : Nat) : Int))) else some (.inr (.inr (([] : List UInt8), false))) := by
    intro i hi
    unfold cut_row.b1 term_Number.f
    rw [cond_t (by omega), idxL_lt hi, Option.bind_some]
    by_cases h : okN ns[i] = true
    · have h' := h
      unfold okN at h'
      rw [decide_eq_true_eq] at h'
      rw [if_pos h, show (cond (decide (ns[i] < (0 : Int))) true (decide (ns[i] > (2147483647 : Int)))) = false by rw [decide_eq_false (by omega), decide_eq_false (by omega)]; rfl, cond_false, Option.bind_some, room_of (by simp; omega), wrap1 i (by omega), Eng.u64_id (by omega) (by omega)]
      rw [← take_map numT hi]; rfl
    · have h' := h
      unfold okN at h'
      rw [decide_eq_true_eq] at h'
      rw [if_neg h, show (cond (decide (ns[i] < (0 : Int))) true (decide (ns[i] > (2147483647 : Int)))) = true by
        by_cases q : ns[i] < 0
        · rw [decide_eq_true q]; rfl
        · rw [decide_eq_false q, decide_eq_true (by omega)]; rfl, cond_true]
  by_cases hall : ns.all okN = true
  · rw [if_pos hall]
    have hL : loopM (fun s247 : (List (List UInt8)) × Int => cut_row.b1 items ns s247.1 s247.2) (([] : List (List UInt8)), (0 : Int)) = some (Sum.inl (ns.map numT)) := by
      refine loop_count (fun i => ((ns.take i).map numT, (i : Int))) ns.length (fun i hi => ?_) ?_
      · show cut_row.b1 items ns ((ns.take i).map numT) (i : Int) = _
        rw [step i hi, if_pos (List.all_eq_true.1 hall _ (List.getElem_mem hi))]
      · show cut_row.b1 items ns ((ns.take ns.length).map numT) (ns.length : Int) = _
        unfold cut_row.b1
        rw [cond_f (by omega), List.take_length]
    rw [hL, Option.bind_some]
    show cut_row.k2 items (ns.map numT) = _
    unfold cut_row.k2
    rw [room_of (by simp; omega), put_spec (by
      intro t ht
      rcases List.mem_append.1 ht with q | q
      · obtain ⟨n, _, rfl⟩ := List.mem_map.1 q; rw [num_len]; omega
      · exact hb t q), Option.bind_some]
    congr 2
    by_cases h0 : (putE (ns.map numT ++ items)).2 = 0
    · rw [h0, show ((0 : Int) == 0) = true from rfl, cond_true]
      simp
    · rw [show ((putE (ns.map numT ++ items)).2 == 0) = false from beq_eq_false_iff_ne.2 h0, cond_false]
      simp [h0]
  · rw [if_neg hall]
    obtain ⟨i, hi, hbad, hgood⟩ : ∃ i, ∃ hi : i < ns.length, okN ns[i] = false ∧ ∀ j (hj : j < ns.length), j < i → okN ns[j] = true := by
      clear step
      induction ns with
      | nil => simp at hall
      | cons n ns ih =>
        by_cases h : okN n = true
        · have : ¬ ns.all okN = true := fun q => hall (by rw [List.all_cons, h, q]; rfl)
          obtain ⟨i, hi, h1, h2⟩ := ih (by simp at hn; omega) this
          refine ⟨i + 1, by simpa using hi, h1, ?_⟩
          intro j hj hji
          cases j with
          | zero => exact h
          | succ j => exact h2 j (by simpa using hj) (by omega)
        · exact ⟨0, by simp, by simpa using h, fun j _ hj => by omega⟩
    have hL : loopM (fun s247 : (List (List UInt8)) × Int => cut_row.b1 items ns s247.1 s247.2) (([] : List (List UInt8)), (0 : Int)) = some (Sum.inr (([] : List UInt8), false)) := by
      refine loop_count (fun i => ((ns.take i).map numT, (i : Int))) i (fun j hj => ?_) ?_
      · show cut_row.b1 items ns ((ns.take j).map numT) (j : Int) = _
        rw [step j (by omega), if_pos (hgood j (by omega) hj)]
      · show cut_row.b1 items ns ((ns.take i).map numT) (i : Int) = _
        rw [step i hi, if_neg (by rw [hbad]; decide)]
    rw [hL]; rfl
def numsE : List (List UInt8) → Option (List Int)
  | [] => some []
  | t :: ts => if (valueE t).2 = true ∧ (valueE t).1 ≤ 2147483647 ∧ kindB t = 117 then (numsE ts).map ((valueE t).1 :: ·) else none
def unrowE (many : Nat) (t : List UInt8) : Option (List Int × List (List UInt8)) :=
  match takeL 150 t with
  | none => none
  | some l => if l.length ≤ many then none else (numsE (l.take many)).map (fun ns => (ns, l.drop many))
def unrowR (many : Nat) (t : List UInt8) : List Int × List (List UInt8) × Bool := match unrowE many t with | some (ns, items) => (ns, items, true) | none => ([], [], false)
theorem value_int (t : List UInt8) : 0 ≤ (valueE t).1 := by
  unfold valueE; split <;> simp
theorem unrow_loop (x1 : Int) (y1 : (List (List UInt8)) × Int) (ts : List (List UInt8)) (hts : ∀ t ∈ ts, t.length ≤ 20000) (hn : ts.length ≤ 1000) : ∀ (k i : Nat) (acc : List Int), i + k = ts.length → acc.length = i →
    loopM (fun q : (List Int) × Int => cut_unrow.b2 x1 y1 ts q.1 q.2) (acc, (i : Int)) = some (match numsE (ts.drop i) with | some ns => .inl (acc ++ ns) | none => .inr (([] : List Int), ([] : List (List UInt8)), false)) := by
  intro k
  induction k with
  | zero =>
    intro i acc hi ha
    rw [List.drop_of_length_le (by omega)]
    refine loop_end ?_
    show cut_unrow.b2 x1 y1 ts acc (i : Int) = _
    unfold cut_unrow.b2
    rw [cond_f (by omega)]
    simp [numsE]
  | succ k ih =>
    intro i acc hi ha
    have hil : i < ts.length := by omega
    have hlen := hts _ (List.getElem_mem hil)
    rw [List.drop_eq_getElem_cons hil]
    unfold numsE
    have hv := value_int ts[i]
    have hbody : cut_unrow.b2 x1 y1 ts acc (i : Int) = if (valueE ts[i]).2 = true ∧ (valueE ts[i]).1 ≤ 2147483647 ∧ kindB ts[i] = 117 then some (.inl (acc ++ [(valueE ts[i]).1], ((i + 1 : Nat) : Int))) else some (.inr (.inr (([] : List Int), ([] : List (List UInt8)), false))) := by
      unfold cut_unrow.b2 cut_unrow.k1
      rw [cond_t (by omega), idxL_lt hil, Option.bind_some, value_spec (by omega), Option.bind_some]
      by_cases h1 : (valueE ts[i]).2 = true
      · rw [h1, Bool.not_true, cond_false]
        by_cases h2 : (valueE ts[i]).1 ≤ 2147483647
        · rw [decide_eq_false (show ¬ (valueE ts[i]).1 > 2147483647 by omega)]
          simp only [cond_false]
          rw [kind_spec (by omega), Option.bind_some]
          by_cases h3 : kindB ts[i] = 117
          · rw [if_pos ⟨trivial, h2, h3⟩, h3, show ((117 : Int) != 117) = false from rfl, cond_false, room_of (by omega), Eng.i64_id (by omega) (by omega), wrap1 i (by omega)]
          · rw [if_neg (fun q : _ ∧ _ ∧ _ => h3 q.2.2), show (kindB ts[i] != (117 : Int)) = true from bne_iff_ne.2 h3, cond_true]
        · rw [decide_eq_true (show (valueE ts[i]).1 > 2147483647 by omega), if_neg (fun q : _ ∧ _ ∧ _ => h2 q.2.1)]
          rfl
      · rw [if_neg (fun q => h1 q.1), show (valueE ts[i]).2 = false by simpa using h1]
        rfl
    by_cases hc : (valueE ts[i]).2 = true ∧ (valueE ts[i]).1 ≤ 2147483647 ∧ kindB ts[i] = 117
    · rw [if_pos hc] at hbody ⊢
      refine loop_step hbody ?_
      rw [ih (i + 1) _ (by omega) (by rw [List.length_append]; simp; omega)]
      cases numsE (ts.drop (i + 1)) with
      | none => rfl
      | some ns => simp
    · rw [if_neg hc] at hbody ⊢
      exact loop_end hbody
theorem unrow_spec {t : List UInt8} (ht : t.length ≤ 140737488355328) {many : Nat} (hm : many ≤ 100) : cut_unrow.f t (many : Int) = some (unrowR many t) := by
  unfold cut_unrow.f unrowR unrowE
  rw [ltake_spec ht, Option.bind_some]
  unfold takeR
  cases hl : takeL 150 t with
  | none => rfl
  | some l =>
    obtain ⟨h1, h2, h3, h4⟩ := takeL_put 150 t l hl
    simp only [bne_self_eq_false, cond_false]
    by_cases hlm : l.length ≤ many
    · rw [if_pos hlm, decide_eq_true (show (l.length : Int) ≤ (many : Int) by omega)]; rfl
    · rw [if_neg hlm, decide_eq_false (show ¬ (l.length : Int) ≤ (many : Int) by omega), cond_false, show (0 : Int) = ((0 : Nat) : Int) from rfl, slc_lt (Nat.zero_le _) (by omega), Option.bind_some, Nat.sub_zero, List.drop_zero]
      have hL := unrow_loop (many : Int) (l, ((0 : Nat) : Int)) (l.take many) (fun x hx => (rightB_len (h3 x (List.mem_of_mem_take hx))).2) (by rw [List.length_take]; omega) (l.take many).length 0 [] (by omega) rfl
      rw [hL, Option.bind_some, List.drop_zero]
      cases numsE (l.take many) with
      | none => rfl
      | some ns =>
        show cut_unrow.k3 (many : Int) (l, ((0 : Nat) : Int)) ([] ++ ns) = _
        unfold cut_unrow.k3
        rw [slc_to (by show many ≤ l.length; omega)]; rfl
end Go.Proofs.Ytipoblinefamgaa.G
/- Logs and parts as terms, and of terms. -/
namespace Go.Proofs.Ytipoblinefamgaa.G
open Go.RowKit Go.Eng Go.Proofs Go.Proofs.Ytipoblinefamgaa.Cut
set_option linter.unusedVariables false
set_option linter.unusedSimpArgs false
theorem least_not {p : Nat → Prop} : ∀ {n : Nat}, ¬ (∀ i, i < n → p i) → ∃ j, j < n ∧ ¬ p j ∧ ∀ i, i < j → p i := by
  intro n
  induction n with
  | zero => intro h; exact absurd (fun i hi => absurd hi (Nat.not_lt_zero i)) h
  | succ n ih =>
    intro h
    by_cases h2 : ∀ i, i < n → p i
    · refine ⟨n, Nat.lt_succ_self n, fun hp => h fun i hi => ?_, h2⟩
      rcases Nat.lt_or_ge i n with h3 | h3
      · exact h2 i h3
      · obtain rfl : i = n := by omega
        exact hp
    · obtain ⟨j, h3, h4, h5⟩ := ih h2
      exact ⟨j, by omega, h4, h5⟩
/-- A loop that goes on as long as p holds, and has an end for each case. -/
theorem whileLoop {S O : Type} {body : S → Option (S ⊕ O)} (st : Nat → S) (n : Nat) (p : Nat → Prop) {o1 o2 : O} (hs : ∀ i, i < n → (p i ∧ body (st i) = some (.inl (st (i + 1)))) ∨ (¬ p i ∧ body (st i) = some (.inr o2))) (he : body (st n) = some (.inr o1)) :
    ((∀ i, i < n → p i) ∧ loopM body (st 0) = some o1) ∨ (¬ (∀ i, i < n → p i) ∧ loopM body (st 0) = some o2) := by
  by_cases h : ∀ i, i < n → p i
  · exact .inl ⟨h, loop_count st n (fun i hi => (hs i hi).elim (fun q => q.2) (fun q => absurd (h i hi) q.1)) he⟩
  · obtain ⟨j, hj, hn, hb⟩ := least_not h
    exact .inr ⟨h, loop_count st j (fun i hi => (hs i (by omega)).elim (fun q => q.2) (fun q => absurd (hb i hi) q.1)) ((hs j hj).elim (fun q => absurd q.1 hn) (fun q => q.2))⟩
theorem idLt_dec (e c e' c' : Int) : idLt e c e' c' = decide (e < e' ∨ (e = e' ∧ c < c')) := by
  unfold idLt cmpI
  rw [Bool.eq_iff_iff]
  simp only [decide_eq_true_eq]
  by_cases h1 : e < e'
  · simp [h1]
  · by_cases h2 : e' < e
    · simp [h1, h2]; omega
    · have : e = e' := by omega
      subst this
      by_cases h3 : c < c'
      · simp [h3]
      · by_cases h4 : c' < c
        · simp [h3, h4]
        · simp [h3, h4]
def mapO {α β : Type} (f : α → Option β) : List α → Option (List β)
  | [] => some []
  | x :: xs => match f x with | none => none | some y => (mapO f xs).map (y :: ·)
theorem each_loop {α β O : Type} {body : List β × Int → Option ((List β × Int) ⊕ O)} (xs : List α) (f : α → Option β) (bad : O) (good : List β → O)
    (hs : ∀ (i : Nat) (hi : i < xs.length) (acc : List β), acc.length = i → body (acc, (i : Int)) = some (match f xs[i] with | some y => .inl (acc ++ [y], ((i + 1 : Nat) : Int)) | none => .inr bad))
    (he : ∀ acc, body (acc, (xs.length : Int)) = some (.inr (good acc))) : loopM body (([] : List β), (0 : Int)) = some (match mapO f xs with | some ys => good ys | none => bad) := by
  have key : ∀ k i acc, i + k = xs.length → acc.length = i → loopM body (acc, (i : Int)) = some (match mapO f (xs.drop i) with | some ys => good (acc ++ ys) | none => bad) := by
    intro k
    induction k with
    | zero =>
      intro i acc hi ha
      obtain rfl : i = xs.length := by omega
      rw [List.drop_length]
      refine loop_end ?_
      rw [he]; simp [mapO]
    | succ k ih =>
      intro i acc hi ha
      have hil : i < xs.length := by omega
      have hb := hs i hil acc ha
      rw [List.drop_eq_getElem_cons hil]
      unfold mapO
      cases hf : f xs[i] with
      | none => rw [hf] at hb; exact loop_end hb
      | some y =>
        rw [hf] at hb
        refine loop_step hb ?_
        rw [ih (i + 1) (acc ++ [y]) (by omega) (by simp; omega)]
        cases mapO f (xs.drop (i + 1)) with
        | none => rfl
        | some ys => simp
  exact key xs.length 0 [] (by omega) rfl
theorem mapO_len {α β : Type} {f : α → Option β} : ∀ {xs : List α} {ys : List β}, mapO f xs = some ys → ys.length = xs.length
  | [], ys, h => by cases h; rfl
  | x :: xs, ys, h => by
    unfold mapO at h
    cases hf : f x with
    | none => rw [hf] at h; cases h
    | some y =>
      rw [hf] at h
      cases hm : mapO f xs with
      | none => rw [hm] at h; cases h
      | some zs => rw [hm] at h; cases h; simp [mapO_len hm]
def rowO (items : List (List UInt8)) (ns : List Int) : Option (List UInt8) := if (rowE items ns).2 = true then some (rowE items ns).1 else none
theorem row_O {items : List (List UInt8)} {ns : List Int} (hb : ∀ t ∈ items, t.length ≤ 140737488355328) (hi : items.length ≤ 8796093022000) (hn : ns.length ≤ 100) : ∃ t ok, cut_row.f items ns = some (t, ok) ∧ rowO items ns = if ok = true then some t else none := by
  refine ⟨_, _, row_spec hb hi hn, ?_⟩
  rfl
theorem numsE_len : ∀ {ts : List (List UInt8)} {ns : List Int}, numsE ts = some ns → ns.length = ts.length
  | [], ns, h => by cases h; rfl
  | t :: ts, ns, h => by
    unfold numsE at h
    split at h
    · cases hm : numsE ts with
      | none => rw [hm] at h; cases h
      | some zs => rw [hm] at h; cases h; simp [numsE_len hm]
    · cases h
theorem unrowE_len {many : Nat} {t : List UInt8} {ns : List Int} {items : List (List UInt8)} (h : unrowE many t = some (ns, items)) : ns.length = many := by
  unfold unrowE at h
  cases hl : takeL 150 t with
  | none => rw [hl] at h; cases h
  | some l =>
    rw [hl] at h
    simp only at h
    split at h
    · cases h
    · cases hn : numsE (l.take many) with
      | none => rw [hn] at h; cases h
      | some zs =>
        rw [hn] at h
        cases h
        rw [numsE_len hn, List.length_take]; omega
def ltK (x y : D_cut_Part) : Prop := x.1.1 < y.1.1 ∨ (x.1.1 = y.1.1 ∧ (x.1.2 < y.1.2 ∨ (x.1.2 = y.1.2 ∧ x.2.1 < y.2.1)))
instance (x y : D_cut_Part) : Decidable (ltK x y) := by unfold ltK; infer_instance
theorem against_spec (x y : D_cut_Part) : ∃ r, cut_place_against.f ((x.1.1, x.1.2), x.2.1) ((y.1.1, y.1.2), y.2.1) = some r ∧ (r ≥ 0 ↔ ¬ ltK x y) := by
  unfold cut_place_against.f view_Less.f ltK
  simp only [idLt_dec, Option.bind_some]
  by_cases h1 : x.1.1 < y.1.1 ∨ (x.1.1 = y.1.1 ∧ x.1.2 < y.1.2)
  · rw [decide_eq_true h1]
    exact ⟨-1, rfl, by omega⟩
  · rw [decide_eq_false h1, cond_false]
    by_cases h2 : y.1.1 < x.1.1 ∨ (y.1.1 = x.1.1 ∧ y.1.2 < x.1.2)
    · rw [decide_eq_true h2]
      exact ⟨1, rfl, by omega⟩
    · rw [decide_eq_false h2, cond_false]
      unfold cmp_Compare_int.f cmp_isNaN_int.f
      simp only [Option.bind_some, bne_self_eq_false, cond_false]
      by_cases h3 : x.2.1 < y.2.1
      · rw [cond_t h3]; exact ⟨-1, rfl, by omega⟩
      · rw [cond_f h3]
        by_cases h4 : x.2.1 > y.2.1
        · rw [cond_t h4]; exact ⟨1, rfl, by omega⟩
        · rw [cond_f h4]; exact ⟨0, rfl, by omega⟩
def rightAt (l : List D_cut_Part) (i : Nat) : Prop := ∃ hi : i < l.length, (1 ≤ l[i].2.1 ∧ l[i].2.1 ≤ 8 ∧ l[i].1.2 ≤ 8) ∧ (0 < i → ∃ hj : i - 1 < l.length, ltK l[i - 1] l[i])
def rightPs (l : List D_cut_Part) : Prop := ∀ i, i < l.length → rightAt l i
theorem cutRight_spec {l : List D_cut_Part} (hl : l.length ≤ 1000000000) : (rightPs l ∧ cut_right.f l = some true) ∨ (¬ rightPs l ∧ cut_right.f l = some false) := by
  have key := whileLoop (body := fun s1274 : Int => cut_right.b2 l s1274) (fun i => (i : Int)) l.length (rightAt l) (o1 := Sum.inl ()) (o2 := Sum.inr false) (fun i hi => by
    have hbody : ∀ P : Prop, (P ↔ rightAt l i) → [Decidable P] → cut_right.b2 l (i : Int) = some (if P then .inl ((i + 1 : Nat) : Int) else .inr (.inr false)) → (rightAt l i ∧ (fun s1274 : Int => cut_right.b2 l s1274) (i : Int) = some (.inl ((i + 1 : Nat) : Int))) ∨ (¬ rightAt l i ∧ (fun s1274 : Int => cut_right.b2 l s1274) (i : Int) = some (.inr (.inr false))) := by
      intro P hP _ hb
      by_cases h : P
      · rw [if_pos h] at hb; exact .inl ⟨hP.1 h, hb⟩
      · rw [if_neg h] at hb; exact .inr ⟨fun q => h (hP.2 q), hb⟩
    by_cases hA : 1 ≤ l[i].2.1 ∧ l[i].2.1 ≤ 8 ∧ l[i].1.2 ≤ 8
    · have e1 : (cond (cond (decide (l[i].2.1 < (1 : Int))) true (decide (l[i].2.1 > (8 : Int)))) true (decide (l[i].1.2 > (8 : Int)))) = false := by
        rw [decide_eq_false (by omega), decide_eq_false (by omega), decide_eq_false (by omega)]; rfl
      cases i with
      | zero =>
        refine hbody True ⟨fun _ => ⟨hi, hA, fun h => absurd h (by omega)⟩, fun _ => trivial⟩ ?_
        unfold cut_right.b2 cut_right.k1
        rw [cond_t (by omega), idxL_lt hi, Option.bind_some, wrap1 0 (by omega)]
        simp only [e1, cond_false]
        rfl
      | succ j =>
        have hj : j < l.length := by omega
        have ew : IntKind.i64.wrap (((j + 1 : Nat) : Int) - (1 : Int)) = (j : Int) := by rw [Eng.i64_id (by omega) (by omega)]; omega
        obtain ⟨r, hr, hr2⟩ := against_spec l[j] l[j + 1]
        refine hbody (ltK l[j] l[j + 1]) ⟨fun h => ⟨hi, hA, fun _ => ⟨hj, h⟩⟩, fun ⟨_, _, h⟩ => (h (by omega)).2⟩ ?_
        unfold cut_right.b2 cut_right.k1
        rw [cond_t (by omega), idxL_lt hi, Option.bind_some, wrap1 (j + 1) (by omega)]
        simp only [e1, cond_false]
        rw [cond_t (by omega), ew, idxL_lt hj, Option.bind_some]
        unfold cut_Part_place.f
        simp only [Option.bind_some]
        rw [hr, Option.bind_some, decide_eq_true (show ((j + 1 : Nat) : Int) > 0 by omega), cond_true]
        by_cases hlt : ltK l[j] l[j + 1]
        · rw [if_pos hlt, decide_eq_false (fun q => (hr2.1 q) hlt)]; rfl
        · rw [if_neg hlt, decide_eq_true (hr2.2 hlt)]; rfl
    · have e1 : (cond (cond (decide (l[i].2.1 < (1 : Int))) true (decide (l[i].2.1 > (8 : Int)))) true (decide (l[i].1.2 > (8 : Int)))) = true := by
        by_cases q1 : l[i].2.1 < 1
        · rw [decide_eq_true q1]; rfl
        · by_cases q2 : l[i].2.1 > 8
          · rw [decide_eq_true q2]
            cases decide (l[i].2.1 < 1) <;> rfl
          · rw [decide_eq_true (show l[i].1.2 > 8 by omega)]
            cases decide (l[i].2.1 < 1) <;> cases decide (l[i].2.1 > 8) <;> rfl
      refine hbody False ⟨fun h => h.elim, fun ⟨_, h, _⟩ => hA h⟩ ?_
      unfold cut_right.b2 cut_right.k1
      rw [cond_t (by omega), idxL_lt hi, Option.bind_some]
      simp only [e1, cond_true]
      rfl) (by
    show cut_right.b2 l (l.length : Int) = _
    unfold cut_right.b2
    rw [cond_f (by omega)])
  unfold cut_right.f
  rcases key with ⟨h1, h2⟩ | ⟨h1, h2⟩
  · exact .inl ⟨h1, by rw [show loopM (fun s1274 : Int => cut_right.b2 l s1274) (0 : Int) = _ from h2]; rfl⟩
  · exact .inr ⟨h1, by rw [show loopM (fun s1274 : Int => cut_right.b2 l s1274) (0 : Int) = _ from h2]; rfl⟩
def partO (x : D_cut_Part) : Option (List UInt8) := rowO x.2.2 [x.1.1, x.1.2, x.2.1]
theorem cutParts_spec {l : List D_cut_Part} (hl : l.length ≤ 1000000) (h1 : ∀ x ∈ l, x.2.2.length ≤ 8796093022000) (h2 : ∀ x ∈ l, ∀ t ∈ x.2.2, t.length ≤ 140737488355328) :
    (rightPs l ∧ cut_Parts.f l = some (match mapO partO l with | some x => (x, 0) | none => ([], 1))) ∨ (¬ rightPs l ∧ cut_Parts.f l = some ([], 1)) := by
  unfold cut_Parts.f
  rcases cutRight_spec (l := l) (by omega) with ⟨hr, e⟩ | ⟨hr, e⟩
  · refine .inl ⟨hr, ?_⟩
    rw [e, Option.bind_some]
    simp only [Bool.not_true, cond_false]
    have hL := each_loop (body := fun s340 : (List (List UInt8)) × Int => cut_Parts.b1 l s340.1 s340.2) l partO (Sum.inr (([] : List (List UInt8)), (1 : Int))) Sum.inl (fun i hi acc ha => by
      have hm := List.getElem_mem hi
      obtain ⟨t, ok, hrw, hO⟩ := row_O (ns := [l[i].1.1, l[i].1.2, l[i].2.1]) (h2 _ hm) (h1 _ hm) (by simp)
      show cut_Parts.b1 l acc (i : Int) = _
      unfold cut_Parts.b1 partO
      rw [cond_t (by omega), idxL_lt hi, Option.bind_some, hrw, Option.bind_some, hO]
      cases ok with
      | false => rfl
      | true =>
        simp only [Bool.not_true, cond_false, if_pos]
        rw [room_of (by omega), wrap1 i (by omega)]) (fun acc => by
      show cut_Parts.b1 l acc (l.length : Int) = _
      unfold cut_Parts.b1
      rw [cond_f (by omega)])
    rw [hL]
    cases mapO partO l with
    | none => rfl
    | some x => rfl
  · refine .inr ⟨hr, ?_⟩
    rw [e]; rfl
def unpartO (t : List UInt8) : Option D_cut_Part := match unrowE 3 t with | some (ns, items) => some ((ns.headD 0, (ns.drop 1).headD 0), (ns.drop 2).headD 0, items) | none => none
theorem three {ns : List Int} (h : ns.length = 3) : ∃ a b c, ns = [a, b, c] := by
  match ns, h with
  | [a, b, c], _ => exact ⟨a, b, c, rfl⟩
theorem cutUnpart_spec {l : List (List UInt8)} (hl : l.length ≤ 1000000) (h1 : ∀ t ∈ l, t.length ≤ 140737488355328) :
    match mapO unpartO l with
    | some ps => (rightPs ps ∧ cut_Unpart.f l = some (ps, 0)) ∨ (¬ rightPs ps ∧ cut_Unpart.f l = some ([], 2))
    | none => cut_Unpart.f l = some ([], 2) := by
  have hL := each_loop (body := fun s459 : (List D_cut_Part) × Int => cut_Unpart.b1 l s459.1 s459.2) l unpartO (Sum.inr (([] : List D_cut_Part), (2 : Int))) Sum.inl (fun i hi acc ha => by
    have hm := List.getElem_mem hi
    show cut_Unpart.b1 l acc (i : Int) = _
    unfold cut_Unpart.b1 unpartO
    rw [cond_t (by omega), idxL_lt hi, Option.bind_some, show (3 : Int) = ((3 : Nat) : Int) from rfl, unrow_spec (h1 _ hm) (by omega), Option.bind_some]
    unfold unrowR
    cases hE : unrowE 3 l[i] with
    | none => rfl
    | some q =>
      obtain ⟨ns, items⟩ := q
      obtain ⟨a, b, c, rfl⟩ := three (unrowE_len hE)
      simp only [Bool.not_true, cond_false]
      rw [show idxL [a, b, c] (0 : Int) = some a from rfl, Option.bind_some, show idxL [a, b, c] (1 : Int) = some b from rfl, Option.bind_some, show idxL [a, b, c] (2 : Int) = some c from rfl, Option.bind_some, room_of (by omega), wrap1 i (by omega)]
      rfl) (fun acc => by
    show cut_Unpart.b1 l acc (l.length : Int) = _
    unfold cut_Unpart.b1
    rw [cond_f (by omega)])
  cases hm : mapO unpartO l with
  | none =>
    rw [hm] at hL
    unfold cut_Unpart.f
    rw [hL]; rfl
  | some ps =>
    rw [hm] at hL
    have hU : cut_Unpart.f l = cut_Unpart.k2 ps := by
      unfold cut_Unpart.f
      rw [hL]; rfl
    simp only
    have hlen := mapO_len hm
    rcases cutRight_spec (l := ps) (by omega) with ⟨hr, e⟩ | ⟨hr, e⟩
    · refine .inl ⟨hr, hU.trans ?_⟩
      unfold cut_Unpart.k2
      rw [e]; rfl
    · refine .inr ⟨hr, hU.trans ?_⟩
      unfold cut_Unpart.k2
      rw [e]; rfl
theorem rowO_ok {items : List (List UInt8)} {ns : List Int} {t : List UInt8} (h : rowO items ns = some t) : (∀ n ∈ ns, 0 ≤ n ∧ n ≤ 2147483647) ∧ 0 < items.length ∧ t = putT (ns.map numT ++ items) ∧ (ns.map numT ++ items).length ≤ 150 ∧ (∀ t ∈ ns.map numT ++ items, rightB t = true) ∧ rightB t = true := by
  unfold rowO at h
  split at h
  · rename_i hr
    unfold rowE at hr h
    by_cases hall : ns.all okN = true
    · rw [if_pos hall] at hr h
      simp only [decide_eq_true_eq] at hr
      have hz := putE_zero hr.1
      obtain ⟨h1, h2, h3, _⟩ := putE_ok hz
      rw [hz] at h
      cases h
      exact ⟨fun n hn => by have := List.all_eq_true.1 hall n hn; unfold okN at this; simpa using this, hr.2, rfl, h1, h2, h3⟩
    · rw [if_neg hall] at hr; cases hr
  · cases h
theorem ok_rowO {items : List (List UInt8)} {ns : List Int} (h1 : ∀ n ∈ ns, 0 ≤ n ∧ n ≤ 2147483647) (h2 : 0 < items.length) (h3 : (ns.map numT ++ items).length ≤ 150) (h4 : ∀ t ∈ ns.map numT ++ items, rightB t = true) (h5 : rightB (putT (ns.map numT ++ items)) = true) : rowO items ns = some (putT (ns.map numT ++ items)) := by
  have hall : ns.all okN = true := List.all_eq_true.2 fun n hn => by unfold okN; rw [decide_eq_true_eq]; exact h1 n hn
  unfold rowO rowE
  rw [if_pos hall, ok_putE h3 h4 h5]
  simp only
  rw [if_pos (decide_eq_true ⟨trivial, h2⟩)]
theorem numsE_num : ∀ {ns : List Int}, (∀ n ∈ ns, 0 ≤ n ∧ n ≤ 2147483647) → numsE (ns.map numT) = some ns
  | [], _ => rfl
  | n :: ns, h => by
    have hn := h n List.mem_cons_self
    rw [List.map_cons]
    unfold numsE
    rw [num_value hn.1 hn.2, num_kind, if_pos ⟨rfl, hn.2, rfl⟩, numsE_num (fun m hm => h m (List.mem_cons_of_mem _ hm))]
    rfl
theorem unrow_row {items : List (List UInt8)} {ns : List Int} {t : List UInt8} (h : rowO items ns = some t) : unrowE ns.length t = some (ns, items) := by
  obtain ⟨h1, h2, rfl, h4, h5, h6⟩ := rowO_ok h
  unfold unrowE
  rw [put_takeL _ 150 h4 h5 (fun _ => h6)]
  simp only
  have e1 : (ns.map numT ++ items).take ns.length = ns.map numT := by rw [show ns.length = (ns.map numT).length by simp, List.take_left]
  have e2 : (ns.map numT ++ items).drop ns.length = items := by rw [show ns.length = (ns.map numT).length by simp, List.drop_left]
  rw [if_neg (by simp; omega), e1, e2, numsE_num h1]
  rfl
theorem parts_take : ∀ {l : List D_cut_Part} {x : List (List UInt8)}, mapO partO l = some x → mapO unpartO x = some l
  | [], x, h => by cases h; rfl
  | p :: ps, x, h => by
    unfold mapO at h
    cases hr : partO p with
    | none => rw [hr] at h; cases h
    | some t =>
      rw [hr] at h
      cases hm : mapO partO ps with
      | none => rw [hm] at h; cases h
      | some zs =>
        rw [hm] at h
        cases h
        unfold mapO
        have hu : unpartO t = some p := by
          unfold unpartO
          rw [show unrowE 3 t = some ([p.1.1, p.1.2, p.2.1], p.2.2) from unrow_row hr]
          rfl
        rw [hu, parts_take hm]
        rfl
end Go.Proofs.Ytipoblinefamgaa.G
