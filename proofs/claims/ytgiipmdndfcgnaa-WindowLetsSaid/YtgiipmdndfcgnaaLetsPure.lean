/- The window's functions, as the print tells them, in plain numbers. -/
import Derived.Test.YtgiipmdndfcgnaaPWindowLetsx3
import Derived.Test.YtgiipmdndfcgnaaMath
import Derived.Laws.BitsLemmas
namespace Go.Proofs.Ytgiipmdndfcgnaa.Pure
open Go.RowKit Go.Proofs.Ytgiipmdndfcgnaa.PWindowLets Go.Proofs.YtgiipmdndfcgnaaW.PrintWords Go.Proofs.YtgiipmdndfcgnaaW.PrintLast Go.Proofs.YtgiipmdndfcgnaaW.PrintMore Go.Proofs.Ytgiipmdndfcgnaa.Win

theorem u64_mod (x : Int) : IntKind.u64.wrap x = x % 18446744073709551616 := by
  simp [IntKind.wrap, IntKind.bits, IntKind.signed]
theorem u64_id (x : Int) (h0 : 0 ≤ x) (h1 : x < 18446744073709551616) : IntKind.u64.wrap x = x := by
  rw [u64_mod]; omega
theorem shl_nat (x y : Nat) : shl .u64 (x : Int) (y : Int) = (((x <<< y) % 2 ^ 64 : Nat) : Int) := by
  unfold shl
  rw [u64_mod]
  have e : IntKind.u64.bits = 64 := rfl
  rw [e, Int.toNat_natCast, Nat.shiftLeft_eq]
  by_cases h : y ≤ 64
  · rw [Nat.min_eq_left h, Int.natCast_emod, Int.natCast_mul, Int.natCast_pow]; rfl
  · rw [Nat.min_eq_right (by omega)]
    obtain ⟨d, rfl⟩ : ∃ d, y = 64 + d := ⟨y - 64, by omega⟩
    have a : x * 2 ^ (64 + d) % 2 ^ 64 = 0 := by
      rw [Nat.pow_add, Nat.mul_left_comm]; exact Nat.mul_mod_right _ _
    rw [a]; omega
theorem bits_u64 (a b : Nat) (ha : a < 2 ^ 64) (hb : b < 2 ^ 64) : Go.bits .and .u64 a b = ((a &&& b : Nat) : Int) ∧ Go.bits .or .u64 a b = ((a ||| b : Nat) : Int) :=
  bits_nat .u64 64 (by decide) (fun n h0 h1 => u64_id n h0 (by omega)) a b ha hb
theorem and_pow (B i : Nat) : B &&& 2 ^ i = if B.testBit i = true then 2 ^ i else 0 := by
  apply Nat.eq_of_testBit_eq
  intro j
  rw [Nat.testBit_and, Nat.testBit_two_pow]
  by_cases h : B.testBit i = true
  · rw [if_pos h, Nat.testBit_two_pow]
    by_cases e : i = j
    · subst e; simp [h]
    · simp [e]
  · rw [if_neg h]
    by_cases e : i = j
    · subst e; simp at h; simp [h]
    · simp [e]
theorem bit_tells (T B n : Nat) (h : n ≤ T) (hT : T < 2 ^ 64) : window_Window_bit.f T B n = some ((if T - n < 64 then 2 ^ (T - n) else 0 : Nat) : Int) := by
  unfold window_Window_bit.f
  have e : IntKind.u64.wrap ((T : Int) - n) = ((T - n : Nat) : Int) := by rw [u64_id _ (by omega) (by omega)]; omega
  rw [e, if_pos (by omega)]
  have := shl_nat 1 (T - n)
  rw [show ((1 : Nat) : Int) = 1 from rfl] at this
  rw [this, Nat.one_shiftLeft]
  by_cases h6 : T - n < 64
  · rw [if_pos h6, Nat.mod_eq_of_lt (Nat.pow_lt_pow_right (by omega) h6)]
  · rw [if_neg h6]
    obtain ⟨d, hd⟩ : ∃ d, T - n = 64 + d := ⟨T - n - 64, by omega⟩
    rw [hd, Nat.pow_add, Nat.mul_mod_right]
theorem seen_tells (T B n : Nat) (hT : T < 2 ^ 64) (hB : B < 2 ^ 64) : window_Seen.f T B n = some (wseen T B n) := by
  unfold window_Seen.f
  by_cases h0 : n = 0
  · subst h0; simp [wseen]
  rw [if_neg (by omega)]
  by_cases h1 : T < n
  · rw [if_pos (by omega)]
    unfold wseen
    have a : ¬ n ≤ T := by omega
    simp [h0, a]
  rw [if_neg (by omega), bit_tells T B n (by omega) hT]
  simp only [Option.bind_some]
  by_cases h6 : T - n < 64
  · have hp : 2 ^ (T - n) < 2 ^ 64 := Nat.pow_lt_pow_right (by omega) h6
    have hq : 0 < 2 ^ (T - n) := Nat.two_pow_pos _
    rw [if_pos h6, if_neg (by omega), (bits_u64 B (2 ^ (T - n)) hB hp).1]
    have e : wseen T B n = B.testBit (T - n) := by
      unfold wseen
      have a : n ≤ T := by omega
      have b : ¬ 64 ≤ T - n := by omega
      simp [h0, a, b]
    rw [e]
    congr 1
    rw [and_pow]
    cases B.testBit (T - n) with
    | false => simp
    | true => rw [if_pos rfl]; simp only [decide_eq_true_eq]; omega
  · rw [if_neg h6, if_pos (by rfl)]
    unfold wseen
    have a : n ≤ T := by omega
    have b : 64 ≤ T - n := by omega
    simp [a, b]
theorem or_lt (a b : Nat) (ha : a < 2 ^ 64) (hb : b < 2 ^ 64) : a ||| b < 2 ^ 64 := Nat.or_lt_two_pow ha hb
theorem let_old (T B n : Nat) (hT : T < 2 ^ 64) (hB : B < 2 ^ 64) (hs : wseen T B n = true) : window_Let.f T B n = some (0, 0, 7) := by
  unfold window_Let.f
  rw [seen_tells T B n hT hB]; simp [hs]
theorem let_new (T B n : Nat) (hT : T < 2 ^ 64) (hn : n < 2 ^ 64) (hB : B < 2 ^ 64) (hs : wseen T B n = false) : window_Let.f T B n = some (((nextT T n : Nat) : Int), ((nextB T B n : Nat) : Int), 0) := by
  unfold window_Let.f
  rw [seen_tells T B n hT hB]; simp only [hs, Option.bind_some, Bool.false_eq_true, if_false]
  by_cases h : T < n
  · have e : IntKind.u64.wrap ((n : Int) - T) = ((n - T : Nat) : Int) := by rw [u64_id _ (by omega) (by omega)]; omega
    rw [if_pos (by omega), e, if_pos (by omega), shl_nat]
    have hl : (B <<< (n - T)) % 2 ^ 64 < 2 ^ 64 := Nat.mod_lt _ (by decide)
    rw [bit_tells n _ n (Nat.le_refl _) hn]
    simp only [Option.bind_some, Nat.sub_self]
    rw [if_pos (by omega), Nat.pow_zero, (bits_u64 _ 1 hl (by decide)).2]
    unfold nextT nextB
    rw [if_pos h, if_pos h]
  · rw [if_neg (by omega), bit_tells T B n (by omega) hT]
    simp only [Option.bind_some]
    have h6 : T - n < 64 := by
      unfold wseen at hs
      simp at hs
      have := hs.2 (by omega)
      omega
    rw [if_pos h6, (bits_u64 B _ hB (Nat.pow_lt_pow_right (by omega) h6)).2]
    unfold nextT nextB
    rw [if_neg h, if_neg h]
theorem nextT_lt (T n : Nat) (hT : T < 2 ^ 64) (hn : n < 2 ^ 64) : nextT T n < 2 ^ 64 := by unfold nextT; split <;> assumption
def zs (l : List Nat) : List Int := l.map fun n : Nat => (n : Int)
theorem zs_nil : zs [] = [] := rfl
theorem zs_snoc (l : List Nat) (n : Nat) : zs l ++ [(n : Int)] = zs (l ++ [n]) := by simp [zs]
theorem zs_len (l : List Nat) : (zs l).length = l.length := by simp [zs]
theorem rd_zs (l : List Nat) (i : Nat) (h : i < l.length) : rd (zs l) (i : Int) = ((l[i] : Nat) : Int) := by
  unfold rd zs; simp [h]
theorem w64_succ (i n : Nat) (h : i < n) (hn : n ≤ 17592186044416) : wrap64 ((i : Int) + 1) = ((i + 1 : Nat) : Int) := by
  unfold wrap64; omega
theorem all_tells (l : List Nat) (hl : l.length ≤ 17592186044416) (hw : ∀ x ∈ l, x < 2 ^ 64) (d : Nat) : ∀ (k i : Nat) (acc : List Nat) (T B : Nat) (L : List Nat), i + d = l.length → d < k → acc.length ≤ i → T < 2 ^ 64 → Inv T B L →
    window_All.l0 k (zs acc) (zs l) (l.length : Int) i T B = some (zs (acc ++ all T B (l.drop i))) := by
  induction d with
  | zero =>
    intro k i acc T B L hi hk ha hT hinv
    obtain ⟨k, rfl⟩ : ∃ m, k = m + 1 := ⟨k - 1, by omega⟩
    simp only [window_All.l0]
    rw [if_neg (by omega), List.drop_of_length_le (by omega)]
    simp only [all, List.append_nil]
  | succ d ih =>
    intro k i acc T B L hi hk ha hT hinv
    obtain ⟨k, rfl⟩ : ∃ m, k = m + 1 := ⟨k - 1, by omega⟩
    have hlt : i < l.length := by omega
    have hn := hw _ (List.getElem_mem hlt)
    simp only [window_All.l0]
    rw [if_pos (by omega), if_pos (by omega), if_pos (by rw [zs_len]; omega), rd_zs l i hlt, w64_succ i l.length hlt hl]
    rw [List.drop_eq_getElem_cons hlt]
    generalize l[i] = n at hn ⊢
    cases hs : wseen T B n with
    | true =>
      rw [let_old T B n hT hinv.lt hs]
      simp only [Option.bind_some, all, hs, if_true]
      rw [if_neg (by decide)]
      exact ih k (i + 1) acc T B L (by omega) (by omega) (by omega) hT hinv
    | false =>
      rw [let_new T B n hT hn hinv.lt hs]
      simp only [Option.bind_some, all, hs, if_true, Bool.false_eq_true, if_false]
      have hne := next_ne hinv hs
      rw [if_neg (by simp only [Bool.and_eq_true, beq_iff_eq]; omega), if_pos (by rw [zs_len]; omega)]
      have := ih k (i + 1) (acc ++ [n]) (nextT T n) (nextB T B n) (L ++ [n]) (by omega) (by omega) (by simp; omega) (nextT_lt T n hT hn) (next_inv hinv hs)
      rw [zs_snoc]
      rw [List.append_assoc] at this
      exact this
theorem all_ev (l : List Nat) (hl : l.length ≤ 17592186044416) (hw : ∀ x ∈ l, x < 2 ^ 64) (k : Nat) (hk : l.length < k) : window_All.f k (zs l) = some (zs (all 0 0 l)) := by
  unfold window_All.f
  rw [zs_len]
  have := all_tells l hl hw l.length k 0 [] 0 0 [] (by omega) hk (by simp) (by decide) Inv.start
  simpa [zs_nil] using this
theorem same_tells (l : List Nat) (hl : l.length ≤ 17592186044416) (d : Nat) : ∀ (k i : Nat), i + d = l.length → d < k → gemotlaw5_same.l0 k (zs l) (zs l) i = some true := by
  induction d with
  | zero =>
    intro k i hi hk
    obtain ⟨k, rfl⟩ : ∃ m, k = m + 1 := ⟨k - 1, by omega⟩
    simp only [gemotlaw5_same.l0]
    rw [if_neg (by rw [zs_len]; omega)]
  | succ d ih =>
    intro k i hi hk
    obtain ⟨k, rfl⟩ : ∃ m, k = m + 1 := ⟨k - 1, by omega⟩
    simp only [gemotlaw5_same.l0]
    rw [if_pos (by rw [zs_len]; omega), if_pos (by omega), if_pos (by rw [zs_len]; omega), if_true, w64_succ i l.length (by omega) hl]
    exact ih k (i + 1) (by omega) (by omega)
theorem same_ev (l : List Nat) (hl : l.length ≤ 17592186044416) (k : Nat) (hk : l.length < k) : gemotlaw5_same.f k (zs l) (zs l) = some true := by
  unfold gemotlaw5_same.f
  rw [if_pos rfl]
  exact same_tells l hl l.length k 0 (by omega) hk
theorem shown_ev (k : Nat) (hk : 8 ≤ k) : gemotlaw5_shown.f k = some true := by
  unfold gemotlaw5_shown.f
  have e : ([1, 3, 2, 3, 70, 5, 69] : List Int) = zs [1, 3, 2, 3, 70, 5, 69] := rfl
  rw [e, all_ev _ (by decide) (by decide) k (by simp; omega)]
  simp only [Option.bind_some]
  have e2 : zs (all 0 0 [1, 3, 2, 3, 70, 5, 69]) = zs [1, 3, 2, 70, 69] := by decide
  have e3 : ([1, 3, 2, 70, 69] : List Int) = zs [1, 3, 2, 70, 69] := rfl
  rw [e2, e3, same_ev _ (by decide) k (by simp; omega)]
  rfl
theorem wf_u64 {x : Int} (h : (Lit.int .u64 x).wf = true) : 0 ≤ x ∧ x < ((18446744073709551616 : Nat) : Int) := by
  have e1 : IntKind.u64.min = 0 := rfl
  have e2 : IntKind.u64.max = 18446744073709551615 := rfl
  simp only [Lit.wf, Bool.and_eq_true, decide_eq_true_eq, e1, e2] at h
  omega

end Go.Proofs.Ytgiipmdndfcgnaa.Pure
