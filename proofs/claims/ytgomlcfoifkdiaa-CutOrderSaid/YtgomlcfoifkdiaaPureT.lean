/- CutOrder, as it is reckoned. -/
import Derived.Test.YtgomlcfoifkdiaaPureS
import Derived.Test.YtgomlcfoifkdiaaPureE
namespace Go.Proofs.Ytgomlcfoifkdiaa.G
open Go.RowKit Go.Eng Go.Proofs Go.Proofs.Ytgomlcfoifkdiaa.Cut
set_option linter.unusedVariables false
set_option linter.unusedSimpArgs false

theorem idLt_eq (e c e' c' : Int) : idLt e c e' c' = decide (e < e' ∨ (e = e' ∧ c < c')) := by
  unfold idLt cmpI
  rw [Bool.eq_iff_iff]
  simp only [decide_eq_true_eq]
  by_cases h1 : e < e'
  · simp [h1]
  · by_cases h2 : e' < e
    · simp [h1, h2]; omega
    · have : e = e' := by omega
      subst this
      by_cases h3 : c < c'
      · simp [h3]
      · by_cases h4 : c' < c
        · simp [h3, h4]
        · simp [h3, h4]
theorem against_lt (x y : D_cut_Part) (h : klt (keyP x) (keyP y)) : cut_place_against.f ((x.1.1, x.1.2), x.2.1) ((y.1.1, y.1.2), y.2.1) = some (-1) := by
  unfold klt keyP at h
  simp only at h
  unfold cut_place_against.f view_Less.f
  simp only [idLt_eq, Option.bind_some]
  by_cases h1 : x.1.1 < y.1.1 ∨ (x.1.1 = y.1.1 ∧ x.1.2 < y.1.2)
  · rw [decide_eq_true h1]; rfl
  · rw [decide_eq_false h1, cond_false, decide_eq_false (by omega), cond_false]
    unfold cmp_Compare_int.f cmp_isNaN_int.f
    simp only [Option.bind_some, bne_self_eq_false, cond_false]
    rw [cond_t (by omega)]; rfl
theorem right_ok (ps : List D_cut_Part) (hs : SortedP ps) (hb : ∀ x ∈ ps, 1 ≤ x.2.1 ∧ x.2.1 ≤ 8 ∧ x.1.2 ≤ 8) (hl : ps.length ≤ 1000000) : cut_right.f ps = some true := by
  unfold cut_right.f
  have hL : loopM (fun s1274 : Int => cut_right.b2 ps s1274) (0 : Int) = some (Sum.inl ()) := by
    refine loop_count (fun i => (i : Int)) ps.length (fun i hi => ?_) ?_
    · have hx := hb _ (List.getElem_mem hi)
      show cut_right.b2 ps (i : Int) = _
      unfold cut_right.b2
      have e1 : (cond (cond (decide (ps[i].2.1 < (1 : Int))) true (decide (ps[i].2.1 > (8 : Int)))) true (decide (ps[i].1.2 > (8 : Int)))) = false := by
        rw [decide_eq_false (by omega), decide_eq_false (by omega), decide_eq_false (by omega)]; rfl
      rw [cond_t (by omega), idxL_lt hi, Option.bind_some, e1, cond_false]
      cases i with
      | zero =>
        rw [cond_f (by omega), show (decide ((((0 : Nat) : Int)) > (0 : Int))) = false from rfl, cond_false, cond_false]
        unfold cut_right.k1
        rfl
      | succ j =>
        have hj : j < ps.length := by omega
        have hlt : klt (keyP ps[j]) (keyP ps[j + 1]) := List.pairwise_iff_getElem.1 hs j (j + 1) hj hi (by omega)
        have ew : IntKind.i64.wrap (((j + 1 : Nat) : Int) - (1 : Int)) = (j : Int) := by rw [Eng.i64_id (by omega) (by omega)]; omega
        rw [cond_t (by omega), ew, idxL_lt hj, Option.bind_some]
        unfold cut_Part_place.f
        simp only [Option.bind_some]
        rw [against_lt ps[j] ps[j + 1] hlt, Option.bind_some, decide_eq_true (show ((j + 1 : Nat) : Int) > 0 by omega), cond_true, cond_false, show (decide ((-1 : Int) ≥ 0)) = false from rfl]
        unfold cut_right.k1
        rw [cond_false, wrap1 (j + 1) (by omega)]
    · show cut_right.b2 ps (ps.length : Int) = _
      unfold cut_right.b2
      rw [cond_f (by omega)]
  rw [hL]; rfl
theorem parts_ok (ps : List D_cut_Part) (hs : SortedP ps) (hb : ∀ x ∈ ps, (1 ≤ x.2.1 ∧ x.2.1 ≤ 8 ∧ 0 ≤ x.1.2 ∧ x.1.2 ≤ 8 ∧ 0 ≤ x.1.1 ∧ x.1.1 ≤ 2147483647) ∧ 0 < x.2.2.length ∧ x.2.2.length ≤ 147 ∧ ∀ t ∈ x.2.2, isU t) (hl : ps.length ≤ 1000000) :
    cut_Parts.f ps = some (ps.map (fun x => rowU x.2.2 [x.1.1, x.1.2, x.2.1]), 0) := by
  unfold cut_Parts.f
  rw [right_ok ps hs (fun x hx => by have := (hb x hx).1; omega) hl, Option.bind_some]
  simp only [Bool.not_true, cond_false]
  have hL : loopM (fun s340 : (List (List UInt8)) × Int => cut_Parts.b1 ps s340.1 s340.2) (([] : List (List UInt8)), (0 : Int)) = some (Sum.inl (ps.map (fun x => rowU x.2.2 [x.1.1, x.1.2, x.2.1]))) := by
    refine loop_count (fun i => ((ps.take i).map (fun x => rowU x.2.2 [x.1.1, x.1.2, x.2.1]), (i : Int))) ps.length (fun i hi => ?_) ?_
    · obtain ⟨h1, h2, h3, h4⟩ := hb _ (List.getElem_mem hi)
      show cut_Parts.b1 ps ((ps.take i).map (fun x => rowU x.2.2 [x.1.1, x.1.2, x.2.1])) (i : Int) = _
      unfold cut_Parts.b1
      rw [cond_t (by omega), idxL_lt hi, Option.bind_some, row_u _ _ h4 (by
        intro n hn
        simp only [List.mem_cons, List.not_mem_nil, or_false] at hn
        rcases hn with rfl | rfl | rfl <;> omega) (by simp; omega), Option.bind_some, decide_eq_true h2]
      simp only [Bool.not_true, cond_false]
      rw [room_of (by simp; omega), wrap1 i (by omega), take_map (fun x : D_cut_Part => rowU x.2.2 [x.1.1, x.1.2, x.2.1]) hi]
    · show cut_Parts.b1 ps ((ps.take ps.length).map _) (ps.length : Int) = _
      unfold cut_Parts.b1
      rw [cond_f (by omega), List.take_length]
  rw [hL]; rfl

/-! What is cut hangs not on the order. -/
def valP (m : MapD) (p : Pl) : List (List UInt8) := (getA p m).getD []
theorem valP_stepG (id : D_api_Id) (m : MapD) (g : D_cut_Log) (p : Pl) : valP (Cut.stepG id m g) p = if p = (id.1, id.2, g.1) ∧ (valP m p).length < g.2.length then g.2 else valP m p := by
  unfold Cut.stepG
  by_cases h : p = (id.1, id.2, g.1)
  · subst h
    by_cases hl : ((getA (id.1, id.2, g.1) m).getD []).length < g.2.length
    · rw [if_pos hl, if_pos ⟨rfl, hl⟩]
      unfold valP
      rw [getA_putA, if_pos rfl]; rfl
    · rw [if_neg hl, if_neg (fun q => hl q.2)]
  · have hn : ¬ (p = (id.1, id.2, g.1) ∧ (valP m p).length < g.2.length) := fun q => h q.1
    rw [if_neg hn]
    split
    · unfold valP
      rw [getA_putA, if_neg h]
    · rfl
theorem valP_logs (id : D_api_Id) (p : Pl) : ∀ (gs : List D_cut_Log) (m : MapD), (gs.map (·.1)).Nodup → valP (gs.foldl (Cut.stepG id) m) p = if (p.1 = id.1 ∧ p.2.1 = id.2) ∧ (valP m p).length < (fromS p.2.2 gs).length then fromS p.2.2 gs else valP m p
  | [], m, _ => by rw [fromS_nil, if_neg (fun h => by simp at h)]; rfl
  | g :: gs, m, hn => by
    have hn' := List.nodup_cons.1 hn
    rw [List.foldl_cons, valP_logs id p gs _ hn'.2, valP_stepG, fromS_cons]
    have hp : p = (id.1, id.2, g.1) ↔ ((p.1 = id.1 ∧ p.2.1 = id.2) ∧ g.1 = p.2.2) := by
      obtain ⟨a, b, c⟩ := p
      simp only [Prod.mk.injEq]
      constructor
      · rintro ⟨h1, h2, h3⟩; exact ⟨⟨h1, h2⟩, h3.symm⟩
      · rintro ⟨⟨h1, h2⟩, h3⟩; exact ⟨h1, h2, h3.symm⟩
    by_cases hid : p.1 = id.1 ∧ p.2.1 = id.2
    · by_cases hg : g.1 = p.2.2
      · have h0 : fromS p.2.2 gs = [] := fromS_none _ (fun x hx q => hn'.1 (List.mem_map.2 ⟨x, hx, by show x.1 = g.1; rw [q, hg]⟩))
        have hpt := hp.2 ⟨hid, hg⟩
        rw [h0, if_pos hg, List.append_nil, if_neg (fun h => by simp at h)]
        by_cases hl : (valP m p).length < g.2.length
        · rw [if_pos ⟨hpt, hl⟩, if_pos ⟨hid, hl⟩]
        · rw [if_neg (fun h => hl h.2), if_neg (fun h => hl h.2)]
      · have hpf : ¬ p = (id.1, id.2, g.1) := fun h => hg (hp.1 h).2
        rw [if_neg hg, List.nil_append, if_neg (c := p = (id.1, id.2, g.1) ∧ (valP m p).length < g.2.length) (fun h => hpf h.1)]
    · have hpf : ¬ p = (id.1, id.2, g.1) := fun h => hid (hp.1 h).1
      rw [if_neg (c := p = (id.1, id.2, g.1) ∧ (valP m p).length < g.2.length) (fun h => hpf h.1), if_neg (fun h => hid h.1), if_neg (fun h => hid h.1)]
def itemsI (s : Int) (n : Nat) : List (List UInt8) := itemsOf s.toNat n
theorem itemsI_len (s : Int) (n : Nat) : (itemsI s n).length = n := itemsOf_len _ _
theorem from_items (many : List Int) (s : Int) : fromS s (rowsTo many 3) = itemsI s (fromS s (rowsTo many 3)).length := by
  by_cases h : 1 ≤ s ∧ s ≤ 3
  · obtain ⟨q, rfl⟩ : ∃ q : Nat, s = (q : Int) := ⟨s.toNat, by omega⟩
    rw [fromS_rows many q (by omega) (by omega), itemsOf_len]; rfl
  · rw [fromS_none s (fun g hg q => h (by have := rowsTo_fst many 3 g hg; omega))]; rfl
def isRow (r : D_cut_Report) : Prop := ∃ many, r.2.2 = rowsTo many 3
def mxStep (p : Pl) (n : Nat) (r : D_cut_Report) : Nat := if p.1 = r.2.1.1 ∧ p.2.1 = r.2.1.2 then max n (fromS p.2.2 r.2.2).length else n
theorem valP_reps (p : Pl) : ∀ (rs : List D_cut_Report) (m : MapD) (n : Nat), (∀ r ∈ rs, isRow r) → valP m p = itemsI p.2.2 n → valP (rs.foldl stepR m) p = itemsI p.2.2 (rs.foldl (mxStep p) n)
  | [], m, n, _, h => h
  | r :: rs, m, n, hr, h => by
    obtain ⟨many, hm⟩ := hr r List.mem_cons_self
    refine valP_reps p rs _ _ (fun x hx => hr x (List.mem_cons_of_mem _ hx)) ?_
    show valP (r.2.2.foldl (Cut.stepG r.2.1) m) p = _
    rw [valP_logs _ _ _ _ (by rw [hm]; exact rows_nodup many), h, itemsI_len]
    unfold mxStep
    have hf := from_items many p.2.2
    rw [← hm] at hf
    by_cases hid : p.1 = r.2.1.1 ∧ p.2.1 = r.2.1.2
    · rw [if_pos hid]
      by_cases hl : n < (fromS p.2.2 r.2.2).length
      · rw [if_pos ⟨hid, hl⟩, show max n (fromS p.2.2 r.2.2).length = (fromS p.2.2 r.2.2).length by omega]; exact hf
      · rw [if_neg (fun q => hl q.2), show max n (fromS p.2.2 r.2.2).length = n by omega]
    · rw [if_neg (fun q => hid q.1), if_neg hid]
theorem mx_max (p : Pl) : ∀ (rs : List D_cut_Report) (n : Nat), rs.foldl (mxStep p) n = max n (rs.foldl (mxStep p) 0)
  | [], n => by simp
  | r :: rs, n => by
    rw [List.foldl_cons, List.foldl_cons, mx_max p rs (mxStep p n r), mx_max p rs (mxStep p 0 r)]
    unfold mxStep
    split <;> omega
theorem mx_swap (p : Pl) (a b : List D_cut_Report) : (a ++ b).foldl (mxStep p) 0 = (b ++ a).foldl (mxStep p) 0 := by
  rw [List.foldl_append, List.foldl_append, mx_max p b, mx_max p a (b.foldl _ 0)]
  omega
theorem putA_ent {β : Type} (q : Pl) (v : β) : ∀ (m : List (Pl × β)), ∀ e ∈ putA q v m, e = (q, v) ∨ e ∈ m
  | [], e, he => by simp only [putA, List.mem_singleton] at he; exact .inl he
  | x :: m, e, he => by
    simp only [putA] at he
    split at he
    · rcases List.mem_cons.1 he with k | k
      · exact .inl k
      · exact .inr (List.mem_cons_of_mem _ k)
    · rcases List.mem_cons.1 he with k | k
      · exact .inr (by rw [k]; exact List.mem_cons_self)
      · exact (putA_ent q v m e k).imp id (List.mem_cons_of_mem _)
theorem cutM_ent (Q : Pl → List (List UInt8) → Prop) (rs : List D_cut_Report) (h : ∀ r ∈ rs, ∀ g ∈ r.2.2, Q (r.2.1.1, r.2.1.2, g.1) g.2) : ∀ e ∈ cutM rs, Q e.1 e.2 := by
  have logs : ∀ (id : D_api_Id) (gs : List D_cut_Log) (m : MapD), (∀ g ∈ gs, Q (id.1, id.2, g.1) g.2) → (∀ e ∈ m, Q e.1 e.2) → ∀ e ∈ gs.foldl (Cut.stepG id) m, Q e.1 e.2 := by
    intro id gs
    induction gs with
    | nil => intro m _ hm; exact hm
    | cons g gs ih =>
      intro m hg hm
      refine ih _ (fun x hx => hg x (List.mem_cons_of_mem _ hx)) (fun e he => ?_)
      unfold Cut.stepG at he
      split at he
      · rcases putA_ent _ _ _ e he with k | k
        · rw [k]; exact hg g List.mem_cons_self
        · exact hm e k
      · exact hm e he
  have all : ∀ (rs : List D_cut_Report) (m : MapD), (∀ r ∈ rs, ∀ g ∈ r.2.2, Q (r.2.1.1, r.2.1.2, g.1) g.2) → (∀ e ∈ m, Q e.1 e.2) → ∀ e ∈ rs.foldl stepR m, Q e.1 e.2 := by
    intro rs
    induction rs with
    | nil => intro m _ hm; exact hm
    | cons r rs ih => intro m hg hm; exact ih _ (fun x hx => hg x (List.mem_cons_of_mem _ hx)) (logs r.2.1 r.2.2 m (hg r List.mem_cons_self) hm)
  exact all rs [] h (fun e he => by cases he)
theorem getA_ent {β : Type} {p : Pl} {v : β} : ∀ {m : List (Pl × β)}, getA p m = some v → (p, v) ∈ m
  | [], h => by simp [getA] at h
  | e :: m, h => by
    simp only [getA] at h
    split at h
    · rename_i k; cases h; rw [k]; exact List.mem_cons_self
    · exact List.mem_cons_of_mem _ (getA_ent h)
theorem cutL_ent (Q : Pl → List (List UInt8) → Prop) (rs : List D_cut_Report) (h : ∀ r ∈ rs, ∀ g ∈ r.2.2, Q (r.2.1.1, r.2.1.2, g.1) g.2) : ∀ x ∈ cutL rs, Q (keyP x) x.2.2 := by
  intro x hx
  obtain ⟨k, hk, rfl⟩ := List.mem_map.1 hx
  have hk2 : k ∈ (cutM rs).map (·.1) := (List.mergeSort_perm _ _).mem_iff.1 hk
  obtain ⟨v, hv⟩ := (getA_key k _).1 hk2
  show Q k ((getA k (cutM rs)).getD [])
  rw [hv]
  exact cutM_ent Q rs h _ (getA_ent hv)
theorem cutL_swap (a b : List D_cut_Report) (ha : ∀ r ∈ a, isRow r) (hb : ∀ r ∈ b, isRow r) : cutL (a ++ b) = cutL (b ++ a) := by
  obtain ⟨s1, f1⟩ := cutL_find (a ++ b)
  obtain ⟨s2, f2⟩ := cutL_find (b ++ a)
  have hab : ∀ r ∈ a ++ b, isRow r := fun r hr => (List.mem_append.1 hr).elim (ha r) (hb r)
  have hba : ∀ r ∈ b ++ a, isRow r := fun r hr => (List.mem_append.1 hr).elim (hb r) (ha r)
  have pos : ∀ rs : List D_cut_Report, (∀ r ∈ rs, isRow r) → ∀ e ∈ cutM rs, 0 < e.2.length := fun rs hr => cutM_ent (fun _ t => 0 < t.length) rs (fun r h g hg => by
    obtain ⟨m, hm⟩ := hr r h
    rw [hm] at hg
    exact (rowsTo_fst m 3 g hg).2.2.1)
  have val : ∀ p, valP (cutM (a ++ b)) p = valP (cutM (b ++ a)) p := fun p => by
    have h1 := valP_reps p (a ++ b) [] 0 hab rfl
    have h2 := valP_reps p (b ++ a) [] 0 hba rfl
    show valP ((a ++ b).foldl stepR []) p = valP ((b ++ a).foldl stepR []) p
    rw [h1, h2, mx_swap]
  refine sorted_ext s1 s2 fun p => ?_
  rw [f1, f2]
  have hv := val p
  unfold valP at hv
  cases h1 : getA p (cutM (a ++ b)) with
  | none =>
    cases h2 : getA p (cutM (b ++ a)) with
    | none => rfl
    | some v =>
      rw [h1, h2] at hv
      have := pos _ hba _ (getA_ent h2)
      replace hv : [] = v := hv
      subst hv
      simp at this
  | some u =>
    cases h2 : getA p (cutM (b ++ a)) with
    | none =>
      rw [h1, h2] at hv
      have := pos _ hab _ (getA_ent h1)
      replace hv : u = [] := hv
      subst hv
      simp at this
    | some v =>
      rw [h1, h2] at hv
      exact congrArg some hv

/-! CutOrder. -/
def ordRep (xs : List (List Int)) (i : Nat) : D_cut_Report := (((i + 1 : Nat) : Int), ((i : Int).tmod 3, (1 : Int)), rowsTo (manyAt xs i) 3)
def ordN (xs : List (List Int)) (n : Nat) : List D_cut_Report := (List.range n).map (ordRep xs)
theorem ordN_succ (xs : List (List Int)) (n : Nat) : ordN xs (n + 1) = ordN xs n ++ [ordRep xs n] := by simp [ordN, List.range_succ]
theorem ordN_len (xs : List (List Int)) (n : Nat) : (ordN xs n).length = n := by simp [ordN]
theorem ordN_row (xs : List (List Int)) (n : Nat) : ∀ r ∈ ordN xs n, isRow r := by
  intro r hr
  obtain ⟨i, _, rfl⟩ := List.mem_map.1 hr
  exact ⟨_, rfl⟩
theorem ord_loop (xs : List (List Int)) (a : Int) (hx : xs.length ≤ 8) (hb : ∀ l ∈ xs, ∀ x ∈ l, -9223372036854775808 ≤ x ∧ x ≤ 9223372036854775807) (hl : ∀ l ∈ xs, l.length ≤ 140737488355328) :
    loopM (fun s331 : (List D_cut_Report) × Int => gemotlaw11_CutOrder.b1 xs a s331.1 s331.2) (([] : List D_cut_Report), (0 : Int)) = some (ordN xs xs.length) := by
  refine loop_count (fun i => (ordN xs i, (i : Int))) xs.length (fun i hi => ?_) ?_
  · show gemotlaw11_CutOrder.b1 xs a (ordN xs i) (i : Int) = _
    unfold gemotlaw11_CutOrder.b1 remM
    rw [cond_t (by omega), if_neg (by decide), Option.bind_some, idxL_lt hi, Option.bind_some, rows_eq _ (hb _ (List.getElem_mem hi)) (hl _ (List.getElem_mem hi)), Option.bind_some, room_of (by rw [ordN_len]; omega), wrap1 i (by omega), ordN_succ]
    unfold ordRep
    rw [manyAt_lt hi]
  · show gemotlaw11_CutOrder.b1 xs a (ordN xs xs.length) (xs.length : Int) = _
    unfold gemotlaw11_CutOrder.b1
    rw [cond_f (by omega)]
theorem order_eq (xs : List (List Int)) (a : Int) (hb : ∀ l ∈ xs, ∀ x ∈ l, -9223372036854775808 ≤ x ∧ x ≤ 9223372036854775807) (hl : ∀ l ∈ xs, l.length ≤ 140737488355328) : gemotlaw11_CutOrder.f xs a = some true := by
  unfold gemotlaw11_CutOrder.f
  rw [shown_eq, Option.bind_some]
  by_cases hc : 8 < xs.length
  · rw [decide_eq_true (show (xs.length : Int) > 8 by omega)]; rfl
  · rw [decide_eq_false (show ¬ (xs.length : Int) > 8 by omega), show (cond (!true) true false) = false from rfl, cond_false, ord_loop xs a (by omega) hb hl, Option.bind_some]
    have hrow := ordN_row xs xs.length
    have hlen := ordN_len xs xs.length
    have hid : ∀ r ∈ ordN xs xs.length, 0 ≤ r.2.1.1 ∧ r.2.1.1 < 3 ∧ r.2.1.2 = 1 := by
      intro r hr
      obtain ⟨i, _, rfl⟩ := List.mem_map.1 hr
      refine ⟨?_, ?_, rfl⟩
      · show 0 ≤ (i : Int).tmod 3; rw [Int.tmod_eq_emod_of_nonneg (by omega)]; omega
      · show (i : Int).tmod 3 < 3; rw [Int.tmod_eq_emod_of_nonneg (by omega)]; omega
    generalize ordN xs xs.length = rs at hrow hlen hid
    unfold gemotlaw11_CutOrder.k3
    obtain ⟨n, hn, hnl⟩ : ∃ n : Nat, maxI (0 : Int) (minI a (rs.length : Int)) = (n : Int) ∧ n ≤ rs.length := by
      refine ⟨(maxI (0 : Int) (minI a (rs.length : Int))).toNat, ?_, ?_⟩
      · unfold maxI minI; split <;> split <;> omega
      · unfold maxI minI; split <;> split <;> omega
    have cut : ∀ l : List D_cut_Report, (∀ r ∈ l, isRow r) → l.length ≤ 8 → cut_Cut.f l = some (cutL l) := fun l hr h8 => by
      have hrl3 : ∀ r ∈ l, r.2.2.length ≤ 3 := fun r h => by obtain ⟨m, hm⟩ := hr r h; rw [hm]; exact rowsTo_len m 3
      have hrg : ∀ r ∈ l, ∀ g ∈ r.2.2, g.2.length ≤ 6 := fun r h g hg => by obtain ⟨m, hm⟩ := hr r h; rw [hm] at hg; exact (rowsTo_fst m 3 g hg).2.2.2
      have hcm := cutM_len _ 3 hrl3
      have hmv := cutM_vals (fun t => t.length ≤ 6) _ hrg
      exact cut_of (by omega) (fun r h => by have := hrl3 r h; omega) (by omega) (fun e he => by have := hmv e he; omega) (fun r h g hg => by have := hrg r h g hg; omega)
    rw [cut rs hrow (by omega), Option.bind_some, hn, slc_to hnl, Option.bind_some, room_of (by simp; omega), show (0 : Int) = ((0 : Nat) : Int) from rfl, slc_lt (Nat.zero_le _) hnl, Option.bind_some, room_of (by simp; omega)]
    have e2 : ([] ++ rs.drop n) ++ (rs.drop 0).take (n - 0) = rs.drop n ++ rs.take n := by simp
    rw [e2]
    have hd : ∀ r ∈ rs.drop n, isRow r := fun r hr => hrow r (List.mem_of_mem_drop hr)
    have ht : ∀ r ∈ rs.take n, isRow r := fun r hr => hrow r (List.mem_of_mem_take hr)
    rw [cut (rs.drop n ++ rs.take n) (fun r hr => (List.mem_append.1 hr).elim (hd r) (ht r)) (by simp; omega), Option.bind_some, cutL_swap _ _ hd ht, List.take_append_drop]
    have hlog : ∀ r ∈ rs, ∀ g ∈ r.2.2, ∃ s : Nat, ∃ c, 1 ≤ s ∧ s ≤ 3 ∧ 0 < c ∧ c ≤ 6 ∧ g = ((s : Int), itemsOf s c) := fun r hr g hg => by
      obtain ⟨m, hm⟩ := hrow r hr
      rw [hm] at hg
      obtain ⟨s, h1, h2, h3⟩ := rows_mem m 3 g hg
      have h4 := rowsTo_fst m 3 g hg
      rw [h3] at h4
      simp only [itemsOf_len] at h4
      exact ⟨s, _, h1, h2, h4.2.2.1, h4.2.2.2, h3⟩
    have hQ := cutL_ent (fun k t => (1 ≤ k.2.2 ∧ k.2.2 ≤ 8 ∧ 0 ≤ k.2.1 ∧ k.2.1 ≤ 8 ∧ 0 ≤ k.1 ∧ k.1 ≤ 2147483647) ∧ 0 < t.length ∧ t.length ≤ 147 ∧ ∀ x ∈ t, isU x) rs (fun r hr g hg => by
      obtain ⟨s, c, h1, h2, h3, h4, rfl⟩ := hlog r hr g hg
      have h5 := hid r hr
      refine ⟨⟨?_, ?_, ?_, ?_, ?_, ?_⟩, ?_, ?_, ?_⟩
      · show 1 ≤ (s : Int); omega
      · show (s : Int) ≤ 8; omega
      · show 0 ≤ r.2.1.2; omega
      · show r.2.1.2 ≤ 8; omega
      · show 0 ≤ r.2.1.1; omega
      · show r.2.1.1 ≤ 2147483647; omega
      · show 0 < (itemsOf s c).length; rw [itemsOf_len]; omega
      · show (itemsOf s c).length ≤ 147; rw [itemsOf_len]; omega
      · intro x hx
        obtain ⟨q, _, rfl⟩ := List.mem_map.1 hx
        exact isU_counted _)
    have hcl : (cutL rs).length ≤ 1000 := by
      rw [cutL_len]
      have := cutM_len rs 3 (fun r h => by obtain ⟨m, hm⟩ := hrow r h; rw [hm]; exact rowsTo_len m 3)
      omega
    rw [parts_ok (cutL rs) (cutL_find rs).1 hQ (by omega), Option.bind_some, Option.bind_some]
    simp only [beq_self_eq_true, cond_true]
    rw [texts_eq _ (by simp; omega), Option.bind_some, same_eq _ _ (by simp; omega), Option.bind_some, decide_eq_true rfl]
    rfl
/-- As the row wants it. -/
theorem orderLaw_row {ok : Nat → Prop} {w : World} {v : Value} {xs : List (List Int)} {a : Int} (h : slR (tSl (tInt .i64)) w ok v xs) (hl : ∀ l ∈ xs, l.length * 8 ≤ 140737488351232 ∧ ∀ x ∈ l, inKind .i64 x) :
    Calls Try.prog 7 #[v, .int .i64 a] w fun e w' => ∃ v, e = .returned v ∧ (v = .bool true ∧ Below w.heap.size w w') :=
  (gemotlaw11_CutOrder_ok h (order_eq xs a (fun l h x hx => Eng.in_i64 ((hl l h).2 x hx)) (fun l h => by have := (hl l h).1; omega))).mono fun e w' ⟨v, h1, h2, h3⟩ => ⟨v, h1, h2, h3.toBelow⟩
end Go.Proofs.Ytgomlcfoifkdiaa.G
