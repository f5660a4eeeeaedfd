/- A row of numbers is a term: how it is scanned. -/
import Derived.Test.YtgomlcfoifkdiaaListPut
import Derived.Test.YtgomlcfoifkdiaaPureA
import Derived.Test.YtgomlcfoifkdiaaGF
namespace Go.Proofs.Ytgomlcfoifkdiaa.G
open Go.RowKit Go.Eng Go.Proofs Go.Proofs.Ytgomlcfoifkdiaa.Cut
set_option linter.unusedVariables false
set_option linter.unusedSimpArgs false

theorem slc_lt {α : Type} {xs : List α} {a b : Nat} (h : a ≤ b) (hb : b ≤ xs.length) : slcM xs (a : Int) (b : Int) = some ((xs.drop a).take (b - a)) := by
  unfold slcM
  rw [if_pos ⟨by omega, by omega, by omega⟩]
  simp
theorem slc_to {α : Type} {xs : List α} {a : Nat} (h : a ≤ xs.length) : slcM xs (a : Int) (xs.length : Int) = some (xs.drop a) := by
  rw [slc_lt h (Nat.le_refl _)]
  rw [List.take_of_length_le (by rw [List.length_drop]; omega)]
theorem idxS_at {s : List UInt8} {i : Nat} {b : UInt8} (h : s[i]? = some b) : idxS s (i : Int) = some (b.toNat : Int) := by
  unfold idxS
  rw [idxL_nat, h]; rfl

theorem scan1_nil (x0 : List UInt8) (a n d : Int) (E : Nat) (hE : a + n = (E : Int)) (hb : E ≤ 1000000) : term_scan.b1 x0 a n [] d = some (.inr (Sum.inr ((E : Int), d, (0 : Int)))) := by
  unfold term_scan.b1
  rw [show (((([] : List D_term_open).length : Int)) == (0 : Int)) = true from rfl, cond_true, hE, Eng.i64_id (by omega) (by omega)]
set_option maxHeartbeats 1000000 in
theorem scan1_top (x0 : List UInt8) (a n : Int) (E fr : Nat) (hE : a + n = (E : Int)) (hEl : E ≤ x0.length) (hfr : fr ≤ E) (hb : x0.length ≤ 1000000) (st : List D_term_open) (hst : st.length ≤ 1000) (l dp d : Nat) (hl : 0 < l) (hl2 : l ≤ 1000) (hd : d ≤ 1000) (hdp : dp ≤ 1000) (la : List UInt8) :
    term_scan.b1 x0 a n (st ++ [((l : Int), (dp : Int), false, (fr : Int), la)]) (d : Int) = if 1 < l then some (.inr (Sum.inl (st ++ [(((l - 1 : Nat) : Int), ((max dp d : Nat) : Int), false, (E : Int), (x0.drop fr).take (E - fr))]))) else some (.inl (st, ((max dp d + 1 : Nat) : Int))) := by
  unfold term_scan.b1
  have hlen : ∀ o : D_term_open, (st ++ [o]).length = st.length + 1 := fun o => by simp
  have e0 : ∀ o : D_term_open, (((st ++ [o]).length : Int) == (0 : Int)) = false := fun o => beq_eq_false_iff_ne.2 (by rw [hlen]; omega)
  have e1 : ∀ o : D_term_open, IntKind.i64.wrap (((st ++ [o]).length : Int) - (1 : Int)) = (st.length : Int) := fun o => by rw [hlen, Eng.i64_id (by omega) (by omega)]; omega
  have eg : ∀ o : D_term_open, idxL (st ++ [o]) (st.length : Int) = some o := fun o => by rw [idxL_nat]; simp
  have es : ∀ o x : D_term_open, (st ++ [o]).set st.length x = st ++ [x] := fun o x => by rw [List.set_append_right _ _ (Nat.le_refl _)]; simp
  have e2 : IntKind.i64.wrap (a + n) = (E : Int) := by rw [hE, Eng.i64_id (by omega) (by omega)]
  have e3 : IntKind.i64.wrap ((l : Int) - (1 : Int)) = ((l - 1 : Nat) : Int) := by rw [Eng.i64_id (by omega) (by omega)]; omega
  have e4 : maxI (dp : Int) (d : Int) = ((max dp d : Nat) : Int) := by unfold maxI; split <;> omega
  have e5 : IntKind.i64.wrap (((max dp d : Nat) : Int) + (1 : Int)) = ((max dp d + 1 : Nat) : Int) := by rw [Eng.i64_id (by omega) (by omega)]; omega
  rw [e0, cond_false, e1, Option.bind_some, eg, Option.bind_some]
  simp only [e2, slc_lt hfr hEl, Option.bind_some, cond_false, e3, e4, e5, Int.toNat_natCast, es, e1]
  by_cases h : 1 < l
  · rw [if_pos h, cond_t (by omega)]
  · rw [if_neg h, cond_f (by omega)]
    have : slcM (st ++ [(((l - 1 : Nat) : Int), ((max dp d : Nat) : Int), false, (E : Int), (x0.drop fr).take (E - fr))]) (0 : Int) (st.length : Int) = some st := by
      rw [show (0 : Int) = ((0 : Nat) : Int) from rfl, slc_lt (Nat.zero_le _) (by simp)]
      simp
    rw [this]; rfl

/-! Numbers. -/
def isU (t : List UInt8) : Prop := t.length = 9 ∧ t[0]? = some 117
theorem isU_counted (n : Int) : isU (countedT 117 n) := ⟨by simp [countedT, bytesOf_length], rfl⟩
theorem leaf_u {s : List UInt8} (h0 : s[0]? = some 117) (hl : 9 ≤ s.length) : term_leaf.f s = some 9 := by
  unfold term_leaf.f
  rw [show idxS s (0 : Int) = some 117 from idxS_at (i := 0) h0, Option.bind_some]
  show term_leaf.k4 s 117 true = _
  unfold term_leaf.k4 term_leaf.k1
  rw [cond_true, cond_f (by omega)]
theorem leaf_p {s : List UInt8} (h0 : s[0]? = some 112) : term_leaf.f s = some 0 := by
  unfold term_leaf.f
  rw [show idxS s (0 : Int) = some 112 from idxS_at (i := 0) h0, Option.bind_some]
  show term_leaf.k4 s 112 false = _
  unfold term_leaf.k4
  show term_leaf.k1 s 0 = _
  unfold term_leaf.k1
  rw [cond_f (by omega)]
theorem begin_p {s : List UInt8} {i : Nat} (h : s[i]? = some 112) (hi : i ≤ 1000000) : term_begin.f s (i : Int) = some (((2 : Int), (0 : Int), false, ((i + 1 : Nat) : Int), []), ((i + 1 : Nat) : Int), true) := by
  unfold term_begin.f
  rw [show idxS s (i : Int) = some 112 from idxS_at h, Option.bind_some]
  show term_begin.k4 s (i : Int) 112 true = _
  unfold term_begin.k4 term_begin.k1
  rw [cond_true, wrap1 i (by omega)]

/-! The row. -/
theorem putT_nil : putT [] = countedT 117 0 := rfl
theorem putT_cons (t : List UInt8) (ts : List (List UInt8)) : putT (t :: ts) = 112 :: (t ++ putT ts) := by
  unfold putT
  rw [List.reverse_cons, List.foldl_append]; rfl
theorem putT_len {ts : List (List UInt8)} (h : ∀ t ∈ ts, isU t) : (putT ts).length = 10 * ts.length + 9 := by
  induction ts with
  | nil => simp [putT_nil, countedT, bytesOf_length]
  | cons t ts ih =>
    have := ih (fun x hx => h x (List.mem_cons_of_mem _ hx))
    have := (h t List.mem_cons_self).1
    rw [putT_cons, List.length_cons, List.length_append, List.length_cons]; omega
theorem putT_drop10 {ts : List (List UInt8)} (h : ∀ t ∈ ts, isU t) : ∀ i, i ≤ ts.length → (putT ts).drop (10 * i) = putT (ts.drop i) := by
  induction ts with
  | nil => intro i hi; have : i = 0 := by simpa using hi
           subst this; rfl
  | cons t ts ih =>
    intro i hi
    cases i with
    | zero => rfl
    | succ i =>
      have h9 := (h t List.mem_cons_self).1
      rw [putT_cons, show 10 * (i + 1) = (10 * i + t.length) + 1 by omega, List.drop_succ_cons, show 10 * i + t.length = t.length + 10 * i by omega, ← List.drop_drop, List.drop_left]
      exact ih (fun x hx => h x (List.mem_cons_of_mem _ hx)) i (by simpa using hi)
theorem putT_p {ts : List (List UInt8)} (h : ∀ t ∈ ts, isU t) {i : Nat} (hi : i < ts.length) : (putT ts)[10 * i]? = some 112 ∧ ((putT ts).drop (10 * i + 1))[0]? = some 117 ∧ ((putT ts).drop (10 * i))[0]? = some 112 := by
  have e := putT_drop10 h i (by omega)
  rw [List.drop_eq_getElem_cons hi, putT_cons] at e
  have e0 : ((putT ts).drop (10 * i))[0]? = some 112 := by rw [e]; rfl
  refine ⟨by rw [List.getElem?_drop] at e0; simpa using e0, ?_, e0⟩
  rw [← List.drop_drop, e, List.drop_succ_cons, List.drop_zero]
  have hu := h _ (List.getElem_mem hi)
  rw [List.getElem?_append_left (by rw [hu.1]; omega)]
  exact hu.2

def opN (s : List UInt8) (i : Nat) : D_term_open := ((1 : Int), (1 : Int), false, ((10 * i + 10 : Nat) : Int), (s.drop (10 * i + 1)).take 9)
def stN (s : List UInt8) : Nat → List D_term_open
  | 0 => []
  | i + 1 => stN s i ++ [opN s i]
theorem stN_len (s : List UInt8) : ∀ i, (stN s i).length = i
  | 0 => rfl
  | i + 1 => by simp [stN, stN_len s i]
theorem scan_row {ts : List (List UInt8)} (h : ∀ t ∈ ts, isU t) (hm : ts.length ≤ 300) : term_scan.f (putT ts) = some (((putT ts).length : Int), ((ts.length + 1 : Nat) : Int), (0 : Int)) := by
  have hlen := putT_len h
  unfold term_scan.f
  have hL : loopM (fun s : (List D_term_open) × Int => term_scan.b2 (putT ts) s.1 s.2) (([] : List D_term_open), (0 : Int)) = some (((putT ts).length : Int), ((ts.length + 1 : Nat) : Int), (0 : Int)) := by
    refine loop_count (fun q => if q % 2 = 0 then (stN (putT ts) (q / 2), ((10 * (q / 2) : Nat) : Int)) else (stN (putT ts) (q / 2) ++ [((2 : Int), (0 : Int), false, ((10 * (q / 2) + 1 : Nat) : Int), [])], ((10 * (q / 2) + 1 : Nat) : Int))) (2 * ts.length) (fun q hq => ?_) ?_
    · by_cases hq2 : q % 2 = 0
      · rw [if_pos hq2, if_neg (by omega)]
        obtain ⟨i, rfl⟩ : ∃ i, q = 2 * i := ⟨q / 2, by omega⟩
        rw [show (2 * i) / 2 = i by omega, show (2 * i + 1) / 2 = i by omega]
        have hi : i < ts.length := by omega
        obtain ⟨p1, p2, p3⟩ := putT_p h hi
        show term_scan.b2 (putT ts) (stN (putT ts) i) ((10 * i : Nat) : Int) = _
        unfold term_scan.b2
        rw [stN_len, show (((i : Nat) : Int) == (400 : Int)) = false from beq_eq_false_iff_ne.2 (by omega), cond_false, cond_f (by omega), slc_to (by omega), Option.bind_some, leaf_p p3, Option.bind_some]
        rw [show ((0 : Int) == (0 : Int)) = true from rfl, cond_true, begin_p p1 (by omega), Option.bind_some]
        simp only [Bool.not_true, cond_false]
        rw [room_of (by omega)]
      · rw [if_neg hq2, if_pos (by omega)]
        obtain ⟨i, rfl⟩ : ∃ i, q = 2 * i + 1 := ⟨q / 2, by omega⟩
        rw [show (2 * i + 1) / 2 = i by omega, show (2 * i + 1 + 1) / 2 = i + 1 by omega]
        have hi : i < ts.length := by omega
        obtain ⟨p1, p2, p3⟩ := putT_p h hi
        show term_scan.b2 (putT ts) (stN (putT ts) i ++ [((2 : Int), (0 : Int), false, ((10 * i + 1 : Nat) : Int), [])]) ((10 * i + 1 : Nat) : Int) = _
        unfold term_scan.b2
        rw [show (((stN (putT ts) i ++ [((2 : Int), (0 : Int), false, ((10 * i + 1 : Nat) : Int), ([] : List UInt8))]).length : Int) == (400 : Int)) = false from beq_eq_false_iff_ne.2 (by simp [stN_len]; omega), cond_false, cond_f (by omega), slc_to (by omega), Option.bind_some, leaf_u p2 (by rw [List.length_drop]; omega), Option.bind_some]
        rw [show ((9 : Int) == (0 : Int)) = false from rfl, cond_false]
        have hin : loopM (fun s854 : (List D_term_open) × Int => term_scan.b1 (putT ts) ((10 * i + 1 : Nat) : Int) 9 s854.1 s854.2) (stN (putT ts) i ++ [((2 : Int), (0 : Int), false, ((10 * i + 1 : Nat) : Int), ([] : List UInt8))], (1 : Int)) = some (Sum.inl (stN (putT ts) (i + 1))) := by
          refine loop_count (fun _ => (stN (putT ts) i ++ [((2 : Int), (0 : Int), false, ((10 * i + 1 : Nat) : Int), ([] : List UInt8))], (1 : Int))) 0 (fun j hj => by omega) ?_
          have := scan1_top (putT ts) ((10 * i + 1 : Nat) : Int) 9 (10 * i + 10) (10 * i + 1) (by omega) (by omega) (by omega) (by omega) (stN (putT ts) i) (by rw [stN_len]; omega) 2 0 1 (by omega) (by omega) (by omega) (by omega) []
          rw [if_pos (by omega)] at this
          refine Eq.trans this ?_
          rw [show 10 * i + 10 - (10 * i + 1) = 9 by omega]
          rfl
        rw [hin, Option.bind_some]
        simp only [Sum.elim_inl]
        rw [Eng.i64_id (by omega) (by omega)]
        congr 3
    · rw [if_pos (by omega), show 2 * ts.length / 2 = ts.length by omega]
      show term_scan.b2 (putT ts) (stN (putT ts) ts.length) ((10 * ts.length : Nat) : Int) = _
      have hlast : (putT ts).drop (10 * ts.length) = countedT 117 0 := by
        rw [putT_drop10 h _ (Nat.le_refl _), List.drop_length]; rfl
      unfold term_scan.b2
      rw [stN_len, show (((ts.length : Nat) : Int) == (400 : Int)) = false from beq_eq_false_iff_ne.2 (by omega), cond_false, cond_f (by omega), slc_to (by omega), Option.bind_some, hlast, leaf_u rfl (by simp [countedT, bytesOf_length]), Option.bind_some]
      rw [show ((9 : Int) == (0 : Int)) = false from rfl, cond_false]
      have hin : loopM (fun s854 : (List D_term_open) × Int => term_scan.b1 (putT ts) ((10 * ts.length : Nat) : Int) 9 s854.1 s854.2) (stN (putT ts) ts.length, (1 : Int)) = some (Sum.inr (((10 * ts.length + 9 : Nat) : Int), ((ts.length + 1 : Nat) : Int), (0 : Int))) := by
        have h0 : (stN (putT ts) ts.length, (1 : Int)) = (stN (putT ts) (ts.length - 0), ((0 + 1 : Nat) : Int)) := rfl
        rw [h0]
        refine loop_count (fun k => (stN (putT ts) (ts.length - k), ((k + 1 : Nat) : Int))) ts.length (fun k hk => ?_) ?_
        · obtain ⟨m, hm2⟩ : ∃ m, ts.length - k = m + 1 := ⟨ts.length - k - 1, by omega⟩
          show term_scan.b1 (putT ts) ((10 * ts.length : Nat) : Int) 9 (stN (putT ts) (ts.length - k)) ((k + 1 : Nat) : Int) = _
          rw [hm2, show ts.length - (k + 1) = m by omega]
          have := scan1_top (putT ts) ((10 * ts.length : Nat) : Int) 9 (10 * ts.length + 9) (10 * m + 10) (by omega) (by omega) (by omega) (by omega) (stN (putT ts) m) (by rw [stN_len]; omega) 1 1 (k + 1) (by omega) (by omega) (by omega) (by omega) (((putT ts).drop (10 * m + 1)).take 9)
          rw [if_neg (by omega)] at this
          refine Eq.trans this ?_
          rw [show max 1 (k + 1) + 1 = k + 1 + 1 by omega]
        · show term_scan.b1 (putT ts) ((10 * ts.length : Nat) : Int) 9 (stN (putT ts) (ts.length - ts.length)) ((ts.length + 1 : Nat) : Int) = _
          rw [Nat.sub_self]
          exact scan1_nil _ _ _ _ _ (by omega) (by omega)
      rw [hin, Option.bind_some]
      simp only [Sum.elim_inr]
      rw [hlen]
  rw [hL]; rfl
theorem right_of_scan {s : List UInt8} {d : Int} (h : term_scan.f s = some ((s.length : Int), d, (0 : Int))) (hl : s.length ≤ 20000) : term_Right.f s = some true := by
  unfold term_Right.f term_Take.f
  rw [h, Option.bind_some]
  simp only [bne_self_eq_false, cond_false]
  rw [cond_f (by omega), show (0 : Int) = ((0 : Nat) : Int) from rfl, slc_lt (Nat.zero_le _) (Nat.le_refl _), Option.bind_some, slc_to (Nat.le_refl _), Option.bind_some, Option.bind_some]
  simp [strEq_eq]
theorem right_row {ts : List (List UInt8)} (h : ∀ t ∈ ts, isU t) (hm : ts.length ≤ 300) : term_Right.f (putT ts) = some true := right_of_scan (scan_row h hm) (by rw [putT_len h]; omega)
theorem right_u {t : List UInt8} (h : isU t) : term_Right.f t = some true := by
  have hlen := h.1
  refine right_of_scan (d := 1) ?_ (by omega)
  unfold term_scan.f
  have hL : loopM (fun s : (List D_term_open) × Int => term_scan.b2 t s.1 s.2) (([] : List D_term_open), (0 : Int)) = some ((t.length : Int), (1 : Int), (0 : Int)) := by
    refine loop_count (fun _ => (([] : List D_term_open), (0 : Int))) 0 (fun j hj => by omega) ?_
    show term_scan.b2 t [] ((0 : Nat) : Int) = _
    unfold term_scan.b2
    rw [show ((([] : List D_term_open).length : Int) == (400 : Int)) = false from rfl, cond_false, cond_f (by omega), slc_to (Nat.zero_le _), Option.bind_some, List.drop_zero, leaf_u h.2 (by omega), Option.bind_some]
    rw [show ((9 : Int) == (0 : Int)) = false from rfl, cond_false]
    have hin : loopM (fun s854 : (List D_term_open) × Int => term_scan.b1 t ((0 : Nat) : Int) 9 s854.1 s854.2) (([] : List D_term_open), (1 : Int)) = some (Sum.inr (((9 : Nat) : Int), (1 : Int), (0 : Int))) := by
      refine loop_count (fun _ => (([] : List D_term_open), (1 : Int))) 0 (fun j hj => by omega) ?_
      exact scan1_nil _ _ _ _ _ (by omega) (by omega)
    rw [hin, Option.bind_some, hlen]; rfl
  rw [hL]; rfl
theorem put_row {l : List (List UInt8)} (h : ∀ t ∈ l, isU t) (hl : l.length ≤ 150) : list_Put.f l = some (putT l, 0) := by
  have hlen := putT_len h
  have hr : ∀ t ∈ l, rightT t = true := fun t ht => by unfold rightT; rw [right_u (h t ht)]; rfl
  unfold list_Put.f
  rw [if_neg (by omega), given_of (fun t ht => ⟨_, right_u (h t ht)⟩), if_neg (by
    intro hx
    obtain ⟨t, ht, hq⟩ := List.any_eq_true.1 hx
    rw [hr t ht] at hq; cases hq), given_of (by omega), if_neg (by omega), right_row h (by omega)]
  rfl

/-! A part as a term. -/
def rowU (items : List (List UInt8)) (ns : List Int) : List UInt8 := putT (ns.map (countedT 117) ++ items)
theorem row_u (items : List (List UInt8)) (ns : List Int) (h : ∀ t ∈ items, isU t) (hn : ∀ n ∈ ns, 0 ≤ n ∧ n ≤ 2147483647) (hl : ns.length + items.length ≤ 150) : cut_row.f items ns = some (rowU items ns, decide (items.length > 0)) := by
  unfold cut_row.f
  have hL : loopM (fun s247 : (List (List UInt8)) × Int => cut_row.b1 items ns s247.1 s247.2) (([] : List (List UInt8)), (0 : Int)) = some (Sum.inl (ns.map (countedT 117))) := by
    refine loop_count (fun i => ((ns.take i).map (countedT 117), (i : Int))) ns.length (fun i hi => ?_) ?_
    · have hx := hn _ (List.getElem_mem hi)
      show cut_row.b1 items ns ((ns.take i).map (countedT 117)) (i : Int) = _
      unfold cut_row.b1 term_Number.f
      rw [cond_t (by omega), idxL_lt hi, Option.bind_some, show (cond (decide (ns[i] < (0 : Int))) true (decide (ns[i] > (2147483647 : Int)))) = false by rw [decide_eq_false (by omega), decide_eq_false (by omega)]; rfl, cond_false, Option.bind_some, room_of (by simp; omega), wrap1 i (by omega), Eng.u64_id (by omega) (by omega), take_map _ hi]
    · show cut_row.b1 items ns ((ns.take ns.length).map (countedT 117)) (ns.length : Int) = _
      unfold cut_row.b1
      rw [cond_f (by omega), List.take_length]
  rw [hL, Option.bind_some]
  show cut_row.k2 items (ns.map (countedT 117)) = _
  unfold cut_row.k2
  rw [room_of (by simp; omega), put_row (by
    intro t ht
    rcases List.mem_append.1 ht with q | q
    · obtain ⟨n, _, rfl⟩ := List.mem_map.1 q; exact isU_counted n
    · exact h t q) (by simp; omega), Option.bind_some]
  show some (_, cond ((0 : Int) == 0) _ false) = _
  rw [show ((0 : Int) == 0) = true from rfl, cond_true]
  congr 2
  simp
end Go.Proofs.Ytgomlcfoifkdiaa.G
