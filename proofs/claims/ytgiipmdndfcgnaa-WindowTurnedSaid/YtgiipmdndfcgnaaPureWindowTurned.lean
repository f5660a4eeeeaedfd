/- For every first number, count and order the law WindowTurned answers true; no condition beyond what the row reads. -/
import Derived.Test.YtgiipmdndfcgnaaTurnedWalk
import Derived.Test.YtgiipmdndfcgnaaMath
import Derived.Laws.BitsLemmas
import Derived.Test.YtgiipmdndfcgnaaWSized
/- A second name for a word of the print: the printed row asks for it by this one. -/
namespace Go.Proofs.Ytgiipmdndfcgnaa.PrintWords
open Go.ChangeShapes Go.WideShapes in
theorem sized_ints {H : Type} {enc : TypeId × Value → H} {P : Program} {W : World} {base : Nat} {spare : Nat → Bool} {held : Bool} {t e : TypeId} {k : IntKind} {a : Option Addr} {len cap : Nat} {d : DataW H} {ps : List MemPlace} {ts : List TypeId} {ds : List (DataW H)} {j : Nat}
    (hsz : (DataW.weightsEach P ts ds).all (· ≤ reachBytes) = true) (ht : ts[j]? = some t) (hd : ds[j]? = some d) (hu : P.underlying t = some (.slice e)) (he : P.underlying e = some (.int k)) (hc : P.cellsOf e = 1) {B : Nat} (hB : P.bytesOf e = B)
    (h : DataW.Trod enc P W base spare held t (.slice a len cap) d ps) : len * B ≤ 140737488351232 :=
  Go.Proofs.YtgiipmdndfcgnaaW.PrintWords.sized_ints hsz ht hd hu he hc hB h
end Go.Proofs.Ytgiipmdndfcgnaa.PrintWords
namespace Go.Proofs.Ytgiipmdndfcgnaa.Pure
open Go.RowKit Go.Proofs.Ytgiipmdndfcgnaa.PWindowTurned Go.Proofs.YtgiipmdndfcgnaaW.PrintWords Go.Proofs.YtgiipmdndfcgnaaW.PrintLast Go.Proofs.YtgiipmdndfcgnaaW.PrintMore Go.Proofs.Ytgiipmdndfcgnaa.Win

theorem u64_mod (x : Int) : IntKind.u64.wrap x = x % 18446744073709551616 := by
  simp [IntKind.wrap, IntKind.bits, IntKind.signed]
theorem u64_id (x : Int) (h0 : 0 ≤ x) (h1 : x < 18446744073709551616) : IntKind.u64.wrap x = x := by
  rw [u64_mod]; omega
theorem shl_nat (x y : Nat) : shl .u64 (x : Int) (y : Int) = (((x <<< y) % 2 ^ 64 : Nat) : Int) := by
  unfold shl
  rw [u64_mod]
  have e : IntKind.u64.bits = 64 := rfl
  rw [e, Int.toNat_natCast, Nat.shiftLeft_eq]
  by_cases h : y ≤ 64
  · rw [Nat.min_eq_left h, Int.natCast_emod, Int.natCast_mul, Int.natCast_pow]; rfl
  · rw [Nat.min_eq_right (by omega)]
    obtain ⟨d, rfl⟩ : ∃ d, y = 64 + d := ⟨y - 64, by omega⟩
    have a : x * 2 ^ (64 + d) % 2 ^ 64 = 0 := by
      rw [Nat.pow_add, Nat.mul_left_comm]; exact Nat.mul_mod_right _ _
    rw [a]; omega
theorem bits_u64 (a b : Nat) (ha : a < 2 ^ 64) (hb : b < 2 ^ 64) : Go.bits .and .u64 a b = ((a &&& b : Nat) : Int) ∧ Go.bits .or .u64 a b = ((a ||| b : Nat) : Int) :=
  bits_nat .u64 64 (by decide) (fun n h0 h1 => u64_id n h0 (by omega)) a b ha hb
theorem and_pow (B i : Nat) : B &&& 2 ^ i = if B.testBit i = true then 2 ^ i else 0 := by
  apply Nat.eq_of_testBit_eq
  intro j
  rw [Nat.testBit_and, Nat.testBit_two_pow]
  by_cases h : B.testBit i = true
  · rw [if_pos h, Nat.testBit_two_pow]
    by_cases e : i = j
    · subst e; simp [h]
    · simp [e]
  · rw [if_neg h]
    by_cases e : i = j
    · subst e; simp at h; simp [h]
    · simp [e]
theorem bit_tells (T B n : Nat) (h : n ≤ T) (hT : T < 2 ^ 64) : window_Window_bit.f T B n = some ((if T - n < 64 then 2 ^ (T - n) else 0 : Nat) : Int) := by
  unfold window_Window_bit.f
  have e : IntKind.u64.wrap ((T : Int) - n) = ((T - n : Nat) : Int) := by rw [u64_id _ (by omega) (by omega)]; omega
  rw [e, if_pos (by omega)]
  have := shl_nat 1 (T - n)
  rw [show ((1 : Nat) : Int) = 1 from rfl] at this
  rw [this, Nat.one_shiftLeft]
  by_cases h6 : T - n < 64
  · rw [if_pos h6, Nat.mod_eq_of_lt (Nat.pow_lt_pow_right (by omega) h6)]
  · rw [if_neg h6]
    obtain ⟨d, hd⟩ : ∃ d, T - n = 64 + d := ⟨T - n - 64, by omega⟩
    rw [hd, Nat.pow_add, Nat.mul_mod_right]
theorem seen_tells (T B n : Nat) (hT : T < 2 ^ 64) (hB : B < 2 ^ 64) : window_Seen.f T B n = some (wseen T B n) := by
  unfold window_Seen.f
  by_cases h0 : n = 0
  · subst h0; simp [wseen]
  rw [if_neg (by omega)]
  by_cases h1 : T < n
  · rw [if_pos (by omega)]
    unfold wseen
    have a : ¬ n ≤ T := by omega
    simp [h0, a]
  rw [if_neg (by omega), bit_tells T B n (by omega) hT]
  simp only [Option.bind_some]
  by_cases h6 : T - n < 64
  · have hp : 2 ^ (T - n) < 2 ^ 64 := Nat.pow_lt_pow_right (by omega) h6
    have hq : 0 < 2 ^ (T - n) := Nat.two_pow_pos _
    rw [if_pos h6, if_neg (by omega), (bits_u64 B (2 ^ (T - n)) hB hp).1]
    have e : wseen T B n = B.testBit (T - n) := by
      unfold wseen
      have a : n ≤ T := by omega
      have b : ¬ 64 ≤ T - n := by omega
      simp [h0, a, b]
    rw [e]
    congr 1
    rw [and_pow]
    cases B.testBit (T - n) with
    | false => simp
    | true => rw [if_pos rfl]; simp only [decide_eq_true_eq]; omega
  · rw [if_neg h6, if_pos (by rfl)]
    unfold wseen
    have a : n ≤ T := by omega
    have b : 64 ≤ T - n := by omega
    simp [a, b]
theorem or_lt (a b : Nat) (ha : a < 2 ^ 64) (hb : b < 2 ^ 64) : a ||| b < 2 ^ 64 := Nat.or_lt_two_pow ha hb
theorem let_old (T B n : Nat) (hT : T < 2 ^ 64) (hB : B < 2 ^ 64) (hs : wseen T B n = true) : window_Let.f T B n = some (0, 0, 7) := by
  unfold window_Let.f
  rw [seen_tells T B n hT hB]; simp [hs]
theorem let_new (T B n : Nat) (hT : T < 2 ^ 64) (hn : n < 2 ^ 64) (hB : B < 2 ^ 64) (hs : wseen T B n = false) : window_Let.f T B n = some (((nextT T n : Nat) : Int), ((nextB T B n : Nat) : Int), 0) := by
  unfold window_Let.f
  rw [seen_tells T B n hT hB]; simp only [hs, Option.bind_some, Bool.false_eq_true, if_false]
  by_cases h : T < n
  · have e : IntKind.u64.wrap ((n : Int) - T) = ((n - T : Nat) : Int) := by rw [u64_id _ (by omega) (by omega)]; omega
    rw [if_pos (by omega), e, if_pos (by omega), shl_nat]
    have hl : (B <<< (n - T)) % 2 ^ 64 < 2 ^ 64 := Nat.mod_lt _ (by decide)
    rw [bit_tells n _ n (Nat.le_refl _) hn]
    simp only [Option.bind_some, Nat.sub_self]
    rw [if_pos (by omega), Nat.pow_zero, (bits_u64 _ 1 hl (by decide)).2]
    unfold nextT nextB
    rw [if_pos h, if_pos h]
  · rw [if_neg (by omega), bit_tells T B n (by omega) hT]
    simp only [Option.bind_some]
    have h6 : T - n < 64 := by
      unfold wseen at hs
      simp at hs
      have := hs.2 (by omega)
      omega
    rw [if_pos h6, (bits_u64 B _ hB (Nat.pow_lt_pow_right (by omega) h6)).2]
    unfold nextT nextB
    rw [if_neg h, if_neg h]
theorem nextT_lt (T n : Nat) (hT : T < 2 ^ 64) (hn : n < 2 ^ 64) : nextT T n < 2 ^ 64 := by unfold nextT; split <;> assumption
def zs (l : List Nat) : List Int := l.map fun n : Nat => (n : Int)
theorem zs_nil : zs [] = [] := rfl
theorem zs_snoc (l : List Nat) (n : Nat) : zs l ++ [(n : Int)] = zs (l ++ [n]) := by simp [zs]
theorem zs_len (l : List Nat) : (zs l).length = l.length := by simp [zs]
theorem rd_zs (l : List Nat) (i : Nat) (h : i < l.length) : rd (zs l) (i : Int) = ((l[i] : Nat) : Int) := by
  unfold rd zs; simp [h]
theorem w64_succ (i n : Nat) (h : i < n) (hn : n ≤ 17592186044416) : wrap64 ((i : Int) + 1) = ((i + 1 : Nat) : Int) := by
  unfold wrap64; omega
theorem all_tells (l : List Nat) (hl : l.length ≤ 17592186044416) (hw : ∀ x ∈ l, x < 2 ^ 64) (d : Nat) : ∀ (k i : Nat) (acc : List Nat) (T B : Nat) (L : List Nat), i + d = l.length → d < k → acc.length ≤ i → T < 2 ^ 64 → Inv T B L →
    window_All.l0 k (zs acc) (zs l) (l.length : Int) i T B = some (zs (acc ++ all T B (l.drop i))) := by
  induction d with
  | zero =>
    intro k i acc T B L hi hk ha hT hinv
    obtain ⟨k, rfl⟩ : ∃ m, k = m + 1 := ⟨k - 1, by omega⟩
    simp only [window_All.l0]
    rw [if_neg (by omega), List.drop_of_length_le (by omega)]
    simp only [all, List.append_nil]
  | succ d ih =>
    intro k i acc T B L hi hk ha hT hinv
    obtain ⟨k, rfl⟩ : ∃ m, k = m + 1 := ⟨k - 1, by omega⟩
    have hlt : i < l.length := by omega
    have hn := hw _ (List.getElem_mem hlt)
    simp only [window_All.l0]
    rw [if_pos (by omega), if_pos (by omega), if_pos (by rw [zs_len]; omega), rd_zs l i hlt, w64_succ i l.length hlt hl]
    rw [List.drop_eq_getElem_cons hlt]
    generalize l[i] = n at hn ⊢
    cases hs : wseen T B n with
    | true =>
      rw [let_old T B n hT hinv.lt hs]
      simp only [Option.bind_some, all, hs, if_true]
      rw [if_neg (by decide)]
      exact ih k (i + 1) acc T B L (by omega) (by omega) (by omega) hT hinv
    | false =>
      rw [let_new T B n hT hn hinv.lt hs]
      simp only [Option.bind_some, all, hs, if_true, Bool.false_eq_true, if_false]
      have hne := next_ne hinv hs
      rw [if_neg (by simp only [Bool.and_eq_true, beq_iff_eq]; omega), if_pos (by rw [zs_len]; omega)]
      have := ih k (i + 1) (acc ++ [n]) (nextT T n) (nextB T B n) (L ++ [n]) (by omega) (by omega) (by simp; omega) (nextT_lt T n hT hn) (next_inv hinv hs)
      rw [zs_snoc]
      rw [List.append_assoc] at this
      exact this
theorem all_ev (l : List Nat) (hl : l.length ≤ 17592186044416) (hw : ∀ x ∈ l, x < 2 ^ 64) (k : Nat) (hk : l.length < k) : window_All.f k (zs l) = some (zs (all 0 0 l)) := by
  unfold window_All.f
  rw [zs_len]
  have := all_tells l hl hw l.length k 0 [] 0 0 [] (by omega) hk (by simp) (by decide) Inv.start
  simpa [zs_nil] using this
theorem same_tells (l : List Nat) (hl : l.length ≤ 17592186044416) (d : Nat) : ∀ (k i : Nat), i + d = l.length → d < k → gemotlaw5_same.l0 k (zs l) (zs l) i = some true := by
  induction d with
  | zero =>
    intro k i hi hk
    obtain ⟨k, rfl⟩ : ∃ m, k = m + 1 := ⟨k - 1, by omega⟩
    simp only [gemotlaw5_same.l0]
    rw [if_neg (by rw [zs_len]; omega)]
  | succ d ih =>
    intro k i hi hk
    obtain ⟨k, rfl⟩ : ∃ m, k = m + 1 := ⟨k - 1, by omega⟩
    simp only [gemotlaw5_same.l0]
    rw [if_pos (by rw [zs_len]; omega), if_pos (by omega), if_pos (by rw [zs_len]; omega), if_true, w64_succ i l.length (by omega) hl]
    exact ih k (i + 1) (by omega) (by omega)
theorem same_ev (l : List Nat) (hl : l.length ≤ 17592186044416) (k : Nat) (hk : l.length < k) : gemotlaw5_same.f k (zs l) (zs l) = some true := by
  unfold gemotlaw5_same.f
  rw [if_pos rfl]
  exact same_tells l hl l.length k 0 (by omega) hk
theorem shown_ev (k : Nat) (hk : 8 ≤ k) : gemotlaw5_shown.f k = some true := by
  unfold gemotlaw5_shown.f
  have e : ([1, 3, 2, 3, 70, 5, 69] : List Int) = zs [1, 3, 2, 3, 70, 5, 69] := rfl
  rw [e, all_ev _ (by decide) (by decide) k (by simp; omega)]
  simp only [Option.bind_some]
  have e2 : zs (all 0 0 [1, 3, 2, 3, 70, 5, 69]) = zs [1, 3, 2, 70, 69] := by decide
  have e3 : ([1, 3, 2, 70, 69] : List Int) = zs [1, 3, 2, 70, 69] := rfl
  rw [e2, e3, same_ev _ (by decide) k (by simp; omega)]
  rfl
theorem wf_u64 {x : Int} (h : (Lit.int .u64 x).wf = true) : 0 ≤ x ∧ x < ((18446744073709551616 : Nat) : Int) := by
  have e1 : IntKind.u64.min = 0 := rfl
  have e2 : IntKind.u64.max = 18446744073709551615 := rfl
  simp only [Lit.wf, Bool.and_eq_true, decide_eq_true_eq, e1, e2] at h
  omega

theorem wf_i64 {x : Int} (h : (Lit.int .i64 x).wf = true) : -9223372036854775808 ≤ x ∧ x ≤ 9223372036854775807 := by
  have e1 : IntKind.i64.min = -9223372036854775808 := rfl
  have e2 : IntKind.i64.max = 9223372036854775807 := rfl
  simp only [Lit.wf, Bool.and_eq_true, decide_eq_true_eq, e1, e2] at h
  exact h
theorem w64_id (x : Int) (h0 : -9223372036854775808 ≤ x) (h1 : x ≤ 9223372036854775807) : wrap64 x = x := by unfold wrap64; omega
theorem pick_ev (a : Int) (n : Nat) (hn : 0 < n) (h0 : -9223372036854775808 ≤ a) (h1 : a ≤ 9223372036854775807) : ∃ p : Nat, p < n ∧ gemotlaw5_pick.f a n = some (p : Int) := by
  unfold gemotlaw5_pick.f
  by_cases ha : a < 0
  · rw [if_pos ha, if_neg (by omega), w64_id (a + 1) (by omega) (by omega), w64_id _ (by omega) (by omega)]
    obtain ⟨m, hm⟩ : ∃ m : Nat, -(a + 1) = (m : Int) := ⟨(-(a + 1)).toNat, by omega⟩
    rw [hm]
    exact ⟨m % n, Nat.mod_lt _ hn, rfl⟩
  · rw [if_neg ha, if_neg (by omega)]
    obtain ⟨m, hm⟩ : ∃ m : Nat, a = (m : Int) := ⟨a.toNat, by omega⟩
    rw [hm]
    exact ⟨m % n, Nat.mod_lt _ hn, rfl⟩
def up (b : Nat) (n : Nat) : List Nat := (List.range n).map fun i => b + 1 + i
theorem up_len (b n : Nat) : (up b n).length = n := by simp [up]
theorem up_succ (b n : Nat) : up b (n + 1) = up b n ++ [b + 1 + n] := by simp [up, List.range_succ]
theorem up_mem {b n x : Nat} (h : x ∈ up b n) : b < x ∧ x ≤ b + n := by
  obtain ⟨i, hi, rfl⟩ := List.mem_map.1 h
  have := List.mem_range.1 hi
  omega
theorem up_nodup (b n : Nat) : (up b n).Nodup := by
  induction n with
  | zero => exact List.nodup_nil
  | succ n ih =>
    rw [up_succ, List.nodup_append]
    refine ⟨ih, by simp, ?_⟩
    intro x hx y hy e
    have := up_mem hx
    rw [List.mem_singleton] at hy
    omega
theorem turned_l0 (x2 : List Int) (a n : Nat) (hn : n ≤ 64) (d : Nat) : ∀ (k i : Nat), i + d = n → d < k →
    gemotlaw5_WindowTurned.l0 k a x2 n (zs (up (a % 1099511627776) i)) i = gemotlaw5_WindowTurned.l1 (k - d - 1) x2 (zs (up (a % 1099511627776) n)) [] 0 := by
  induction d with
  | zero =>
    intro k i hi hk
    obtain ⟨k, rfl⟩ : ∃ m, k = m + 1 := ⟨k - 1, by omega⟩
    simp only [gemotlaw5_WindowTurned.l0]
    obtain rfl : i = n := by omega
    rw [if_neg (by omega)]
    rfl
  | succ d ih =>
    intro k i hi hk
    obtain ⟨k, rfl⟩ : ∃ m, k = m + 1 := ⟨k - 1, by omega⟩
    simp only [gemotlaw5_WindowTurned.l0]
    have e1 : Int.tmod (a : Int) 1099511627776 = ((a % 1099511627776 : Nat) : Int) := rfl
    have hlt : a % 1099511627776 < 1099511627776 := Nat.mod_lt _ (by decide)
    rw [if_pos (by omega), if_pos (by rw [zs_len, up_len]; omega), e1]
    have := ih k (i + 1) (by omega) (by omega)
    rw [up_succ, ← zs_snoc] at this
    generalize a % 1099511627776 = b at *
    rw [u64_id ((b : Int) + 1) (by omega) (by omega), u64_id (i : Int) (by omega) (by omega), u64_id _ (by omega) (by omega), w64_succ i 64 (by omega) (by omega)]
    have e2 : ((b : Int) + 1 + (i : Int)) = ((b + 1 + i : Nat) : Int) := by omega
    rw [e2, this]
    congr 1; omega
theorem zs_cut (l : List Nat) (p : Nat) : (zs l).take p ++ (zs l).drop (p + 1) = zs (l.take p ++ l.drop (p + 1)) := by simp [zs, List.map_take, List.map_drop]
theorem cut_perm (acc l : List Nat) (p : Nat) (hp : p < l.length) : ((acc ++ [l[p]]) ++ (l.take p ++ l.drop (p + 1))).Perm (acc ++ l) := by
  rw [List.append_assoc]
  refine List.Perm.append_left acc ?_
  have e : l = l.take p ++ (l[p] :: l.drop (p + 1)) := by rw [← List.drop_eq_getElem_cons hp, List.take_append_drop]
  have h2 : (l.take p ++ (l[p] :: l.drop (p + 1))).Perm (l[p] :: (l.take p ++ l.drop (p + 1))) := List.perm_middle
  rw [← e] at h2
  exact h2.symm
theorem turned_end (x2 : List Int) (b n : Nat) (hb : b < 1099511627776) (hn : n ≤ 64) (acc : List Nat) (hp : acc.Perm (up b n)) (k : Nat) (hk : 200 < k) (i : Int) :
    gemotlaw5_WindowTurned.l1 k x2 (zs []) (zs acc) i = some true := by
  obtain ⟨k, rfl⟩ : ∃ m, k = m + 1 := ⟨k - 1, by omega⟩
  have hlen : acc.length = n := by rw [hp.length_eq, up_len]
  have hm : ∀ x ∈ acc, b < x ∧ x ≤ b + 64 := fun x hx => by have := up_mem (hp.mem_iff.1 hx); omega
  have hnd : acc.Nodup := hp.nodup_iff.2 (up_nodup b n)
  have hall : all 0 0 acc = acc := all_within b acc Inv.start (by simp) hm (by simpa using hnd)
  have hinv := fin_inv acc Inv.start
  rw [hall, List.nil_append] at hinv
  have hall2 : all 0 0 (acc ++ acc) = acc := by
    rw [all_append, hall, Win.all_seen acc (fun x hx => (seen_iff hinv).2 (.inr (.inl hx))), List.append_nil]
  simp only [gemotlaw5_WindowTurned.l1]
  have e0 : ¬ (((zs []).length : Nat) : Int) > 0 := by rw [zs_len]; simp
  rw [if_neg e0, all_ev acc (by omega) (fun x hx => by have := hm x hx; omega) k (by omega), hall]
  simp only [Option.bind_some, List.nil_append]
  rw [same_ev acc (by omega) k (by omega)]
  simp only [Option.bind_some, if_true]
  rw [if_pos (by rw [zs_len]; simp; omega), if_pos (by rw [zs_len]; omega)]
  have e1 : zs acc ++ zs acc = zs (acc ++ acc) := by simp [zs]
  rw [e1, all_ev (acc ++ acc) (by simp; omega) (fun x hx => by
    have := hm x (by simpa using hx)
    omega) k (by simp; omega), hall2]
  simp only [Option.bind_some]
  rw [same_ev acc (by omega) k (by omega)]
  rfl
theorem turned_l1 (x2 : List Int) (hx2 : ∀ x ∈ x2, -9223372036854775808 ≤ x ∧ x ≤ 9223372036854775807) (hl2 : x2.length ≤ 17592186044416) (b n : Nat) (hb : b < 1099511627776) (hn : n ≤ 64) (d : Nat) : ∀ (k i : Nat) (left acc : List Nat), left.length = d → (acc ++ left).Perm (up b n) → d + 220 < k → i + d ≤ 64 →
    gemotlaw5_WindowTurned.l1 k x2 (zs left) (zs acc) i = some true := by
  induction d with
  | zero =>
    intro k i left acc hl hp hk hi
    have : left = [] := List.eq_nil_of_length_eq_zero hl
    subst this
    exact turned_end x2 b n hb hn acc (by simpa using hp) k (by omega) i
  | succ d ih =>
    intro k i left acc hl hp hk hi
    obtain ⟨k, rfl⟩ : ∃ m, k = m + 1 := ⟨k - 1, by omega⟩
    have hlen : acc.length + left.length = n := by rw [← up_len b n, ← hp.length_eq, List.length_append]
    have step : ∀ (p : Nat) (hpl : p < left.length), gemotlaw5_WindowTurned.l1 k x2 (zs (left.take p ++ left.drop (p + 1))) (zs (acc ++ [left[p]])) ((i + 1 : Nat) : Int) = some true := fun p hpl =>
      ih k (i + 1) _ _ (by simp; omega) ((cut_perm acc left p hpl).trans hp) (by omega) (by omega)
    simp only [gemotlaw5_WindowTurned.l1]
    rw [if_pos (by rw [zs_len]; omega)]
    by_cases h2 : (x2.length : Int) > 0
    · rw [if_pos h2, if_neg (by omega)]
      obtain ⟨c, hc⟩ : ∃ c : Nat, c = x2.length := ⟨_, rfl⟩
      have e1 : Int.tmod (i : Int) (x2.length : Int) = ((i % x2.length : Nat) : Int) := rfl
      have hlt : i % x2.length < x2.length := Nat.mod_lt _ (by omega)
      rw [e1, if_pos (by omega), if_pos (by omega)]
      have hrd0 : ∀ (q : Nat) (h : q < x2.length), rd x2 (q : Int) = x2[q] := fun q h => by unfold rd; simp [h]
      have hrd := hrd0 _ hlt
      have hb2 := hx2 _ (List.getElem_mem hlt)
      rw [hrd, zs_len]
      obtain ⟨p, hpn, hpick⟩ := pick_ev (x2[i % x2.length]) left.length (by omega) hb2.1 hb2.2
      rw [hpick]
      simp only [Option.bind_some, List.nil_append, Int.toNat_natCast]
      rw [if_pos (by omega), if_pos (by omega), if_pos (by rw [zs_len]; omega), if_pos (by omega), if_pos (by simp [zs]; omega), w64_succ p left.length hpn (by omega)]
      simp only [Int.toNat_natCast]
      rw [if_pos (by omega), if_pos (by omega), if_pos (by simp [zs]; omega), zs_cut, rd_zs left p hpn, zs_snoc, w64_succ i 64 (by omega) (by omega)]
      exact step p hpn
    · rw [if_neg h2, if_pos (by rw [zs_len]; omega), if_pos (by rw [zs_len]; omega)]
      simp only [Option.bind_some, List.nil_append]
      rw [if_pos (by rw [zs_len]; omega), if_pos (by simp), if_pos (by decide), if_pos (by rw [zs_len]; omega)]
      have e3 : ((0 + 1 : Int)).toNat = 0 + 1 := rfl
      have e4 : (zs left).take 0 ++ (zs left).drop (0 + 1) = zs (left.take 0 ++ left.drop (0 + 1)) := zs_cut left 0
      have e5 := rd_zs left 0 (by omega)
      rw [show ((0 : Nat) : Int) = 0 from rfl] at e5
      rw [e3, if_pos (by simp [zs]; omega), e4, e5, zs_snoc, w64_succ i 64 (by omega) (by omega)]
      exact step 0 (by omega)

theorem WindowTurned : gemotlaw5_WindowTurned.Pure := by
  intro a0 a1 l2 hwf0 hwf1 _ hlen hwf2
  obtain ⟨a, rfl⟩ : ∃ n : Nat, a0 = (n : Int) := ⟨a0.toNat, by have := (wf_u64 hwf0).1; omega⟩
  have h1 := wf_i64 hwf1
  obtain ⟨m, hm⟩ : ∃ m : Nat, 400 < m := ⟨401, by omega⟩
  refine ⟨m + 1, ?_⟩
  unfold gemotlaw5_WindowTurned.f
  rw [shown_ev _ (by omega)]
  simp only [Option.bind_some, if_true]
  simp only [gemotlaw5_WindowTurned.j0]
  split
  · rfl
  · obtain ⟨p, hp, hpick⟩ := pick_ev a1 64 (by omega) h1.1 h1.2
    rw [show ((64 : Nat) : Int) = 64 from rfl] at hpick
    rw [hpick]
    simp only [Option.bind_some]
    have e : wrap64 (1 + (p : Int)) = ((p + 1 : Nat) : Int) := by rw [w64_id _ (by omega) (by omega)]; omega
    rw [e]
    have h0 := turned_l0 l2 a (p + 1) (by omega) (p + 1) m 0 (by omega) (by omega)
    have hr : gemotlaw5_WindowTurned.l1 (m - (p + 1) - 1) l2 (zs (up (a % 1099511627776) (p + 1))) (zs []) ((0 : Nat) : Int) = some true :=
      turned_l1 l2 (fun x hx => wf_i64 (hwf2 x hx)) (by omega) (a % 1099511627776) (p + 1) (Nat.mod_lt _ (by decide)) (by omega) (p + 1) _ 0 _ [] (up_len _ _) (by simp) (by omega) (by omega)
    exact h0.trans hr

end Go.Proofs.Ytgiipmdndfcgnaa.Pure
