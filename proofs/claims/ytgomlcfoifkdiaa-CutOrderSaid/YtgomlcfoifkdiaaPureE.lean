/- CutAll, as it is reckoned: what a row has and what it misses is together what the others have. -/
import Derived.Test.YtgomlcfoifkdiaaGD
import Derived.Test.YtgomlcfoifkdiaaCuts11
namespace Go.Proofs.Ytgomlcfoifkdiaa.G
open Go.RowKit Go.Eng Go.Proofs Go.Proofs.Ytgomlcfoifkdiaa.Cut
set_option linter.unusedVariables false
set_option linter.unusedSimpArgs false

/-- The texts of one sender. -/
def fromS (s : Int) (l : List D_cut_Log) : List (List UInt8) := l.flatMap fun g => if g.1 = s then g.2 else []
theorem fromS_nil (s : Int) : fromS s [] = [] := rfl
theorem fromS_cons (s : Int) (g : D_cut_Log) (l : List D_cut_Log) : fromS s (g :: l) = (if g.1 = s then g.2 else []) ++ fromS s l := rfl
theorem fromS_app (s : Int) (a b : List D_cut_Log) : fromS s (a ++ b) = fromS s a ++ fromS s b := by simp [fromS]
theorem fromS_len (s : Int) (n : Nat) : ∀ l : List D_cut_Log, (∀ g ∈ l, g.2.length ≤ n) → (fromS s l).length ≤ l.length * n
  | [], _ => by simp [fromS]
  | g :: l, h => by
    have h1 := fromS_len s n l (fun x hx => h x (List.mem_cons_of_mem _ hx))
    have h2 := h g List.mem_cons_self
    rw [fromS_cons, List.length_append, List.length_cons, Nat.add_mul]
    split
    · omega
    · simp only [List.length_nil]; omega
theorem fromS_none (s : Int) : ∀ {l : List D_cut_Log}, (∀ g ∈ l, g.1 ≠ s) → fromS s l = []
  | [], _ => rfl
  | g :: l, h => by rw [fromS_cons, if_neg (h g List.mem_cons_self), fromS_none s (fun x hx => h x (List.mem_cons_of_mem _ hx))]; rfl
theorem ownOf_cons2 (x : D_cut_Log) (l : List D_cut_Log) (s : Int) : ownOf (x :: l) s = if x.1 = s then x.2 else ownOf l s := by
  unfold ownOf
  rw [List.findIdx?_cons]
  by_cases h : x.1 = s
  · simp [h]
  · rw [if_neg (by simpa using h), if_neg h]
    cases hf : l.findIdx? (fun y => y.1 == s) with
    | none => rfl
    | some i => simp
theorem ownOf_from (s : Int) : ∀ {l : List D_cut_Log}, (l.map (·.1)).Nodup → ownOf l s = fromS s l
  | [], _ => rfl
  | x :: l, h => by
    have h' := List.nodup_cons.1 h
    rw [ownOf_cons2, fromS_cons]
    by_cases e : x.1 = s
    · rw [if_pos e, if_pos e, fromS_none s (fun g hg q => h'.1 (List.mem_map.2 ⟨g, hg, by show g.1 = x.1; rw [q, e]⟩)), List.append_nil]
    · rw [if_neg e, if_neg e, ownOf_from s h'.2]; rfl
theorem itemsOf_take (s : Nat) {c m : Nat} (h : c ≤ m) : (itemsOf s m).take c = itemsOf s c := by
  unfold itemsOf
  rw [← List.map_take, List.take_range, Nat.min_eq_left h]
theorem fromS_rowAt (many : List Int) (s t : Nat) : fromS (s : Int) (Cut.rowAt many t) = if s = t then itemsOf s (cntOf many s) else [] := by
  unfold Cut.rowAt
  by_cases h : s = t
  · subst h
    rw [if_pos rfl]
    by_cases hp : 0 < cntOf many s
    · rw [if_pos hp]; simp [fromS]
    · rw [if_neg hp, show cntOf many s = 0 by omega]; rfl
  · rw [if_neg h]
    split
    · rw [fromS_cons, if_neg (by simp only; omega)]; rfl
    · rfl
theorem fromS_rows (many : List Int) (s : Nat) (h1 : 1 ≤ s) (h2 : s ≤ 3) : fromS (s : Int) (rowsTo many 3) = itemsOf s (cntOf many s) := by
  simp only [rowsTo, fromS_app, fromS_rowAt, fromS_nil, List.nil_append]
  have : s = 1 ∨ s = 2 ∨ s = 3 := by omega
  rcases this with rfl | rfl | rfl <;> simp
theorem rows_mem (many : List Int) : ∀ n, ∀ g ∈ rowsTo many n, ∃ s : Nat, 1 ≤ s ∧ s ≤ n ∧ g = ((s : Int), itemsOf s (cntOf many s))
  | 0 => by intro g hg; cases hg
  | n + 1 => by
    intro g hg
    rcases List.mem_append.1 hg with h | h
    · obtain ⟨s, h1, h2, h3⟩ := rows_mem many n g h
      exact ⟨s, h1, by omega, h3⟩
    · unfold Cut.rowAt at h
      split at h
      · exact ⟨n + 1, by omega, by omega, List.mem_singleton.1 h⟩
      · cases h

/-! What is cut for the common place. -/
def valM (m : MapD) (s : Nat) : List (List UInt8) := (getA ((0 : Int), (0 : Int), (s : Int)) m).getD []
theorem valM_stepG (id : D_api_Id) (m : MapD) (g : D_cut_Log) (s : Nat) :
    valM (Cut.stepG id m g) s = if ((0 : Int), (0 : Int), (s : Int)) = (id.1, id.2, g.1) ∧ (valM m s).length < g.2.length then g.2 else valM m s := by
  unfold Cut.stepG
  by_cases h : ((0 : Int), (0 : Int), (s : Int)) = (id.1, id.2, g.1)
  · rw [← h]
    by_cases hl : ((getA ((0 : Int), (0 : Int), (s : Int)) m).getD []).length < g.2.length
    · rw [if_pos hl, if_pos ⟨rfl, hl⟩]
      unfold valM
      rw [getA_putA, if_pos rfl]; rfl
    · rw [if_neg hl, if_neg (fun q => hl q.2)]
  · have hn : ¬ (((0 : Int), (0 : Int), (s : Int)) = (id.1, id.2, g.1) ∧ (valM m s).length < g.2.length) := fun q => h q.1
    rw [if_neg hn]
    split
    · unfold valM
      rw [getA_putA, if_neg h]
    · rfl
theorem valM_other (id : D_api_Id) (h : id ≠ (0, 0)) (s : Nat) : ∀ (gs : List D_cut_Log) (m : MapD), valM (gs.foldl (Cut.stepG id) m) s = valM m s
  | [], _ => rfl
  | g :: gs, m => by
    rw [List.foldl_cons, valM_other id h s gs, valM_stepG, if_neg]
    rintro ⟨q, _⟩
    simp only [Prod.mk.injEq] at q
    exact h (Prod.ext q.1.symm q.2.1.symm)
theorem valM_rowAt (m : MapD) (many : List Int) (s t n : Nat) (h : valM m s = itemsOf s n) : valM ((Cut.rowAt many t).foldl (Cut.stepG (0, 0)) m) s = itemsOf s (if s = t then max n (cntOf many s) else n) := by
  unfold Cut.rowAt
  by_cases hp : 0 < cntOf many t
  · rw [if_pos hp, List.foldl_cons, List.foldl_nil, valM_stepG, h, itemsOf_len, itemsOf_len]
    by_cases e : s = t
    · subst e
      rw [if_pos rfl]
      by_cases hl : n < cntOf many s
      · rw [if_pos ⟨rfl, hl⟩, show max n (cntOf many s) = cntOf many s by omega]
      · rw [if_neg (fun q => hl q.2), show max n (cntOf many s) = n by omega]
    · rw [if_neg e, if_neg]
      rintro ⟨q, _⟩
      simp only [Prod.mk.injEq] at q
      omega
  · rw [if_neg hp, List.foldl_nil, h]
    split
    · rename_i e; subst e; rw [show max n (cntOf many s) = n by omega]
    · rfl
theorem valM_rows (m : MapD) (many : List Int) (s n : Nat) (h1 : 1 ≤ s) (h2 : s ≤ 3) (h : valM m s = itemsOf s n) : valM ((rowsTo many 3).foldl (Cut.stepG (0, 0)) m) s = itemsOf s (max n (cntOf many s)) := by
  have e1 := valM_rowAt m many s 1 n h
  have e2 := valM_rowAt _ many s 2 _ e1
  have e3 := valM_rowAt _ many s 3 _ e2
  rw [show rowsTo many 3 = Cut.rowAt many 1 ++ Cut.rowAt many 2 ++ Cut.rowAt many 3 by simp [rowsTo], List.foldl_append, List.foldl_append, e3]
  have : s = 1 ∨ s = 2 ∨ s = 3 := by omega
  rcases this with rfl | rfl | rfl <;> simp

/-! All reports. -/
def manyAt (xs : List (List Int)) (i : Nat) : List Int := (xs[i]?).getD []
def mostN (xs : List (List Int)) (a : Int) : Nat → Nat → Nat
  | 0, _ => 0
  | i + 1, s => if (i : Int) = a then mostN xs a i s else max (mostN xs a i s) (cntOf (manyAt xs i) s)
def repAt (xs : List (List Int)) (a : Int) (i : Nat) : D_cut_Report := (((i + 1 : Nat) : Int), (if (i : Int) = a then ((5 : Int), (1 : Int)) else ((0 : Int), (0 : Int))), rowsTo (manyAt xs i) 3)
def repsN (xs : List (List Int)) (a : Int) : Nat → List D_cut_Report
  | 0 => []
  | i + 1 => repsN xs a i ++ [repAt xs a i]
theorem repsN_len (xs : List (List Int)) (a : Int) : ∀ i, (repsN xs a i).length = i
  | 0 => rfl
  | i + 1 => by simp [repsN, repsN_len xs a i]
theorem repsN_mem (xs : List (List Int)) (a : Int) : ∀ i, ∀ r ∈ repsN xs a i, ∃ many, r.2.2 = rowsTo many 3
  | 0 => by intro r hr; cases hr
  | i + 1 => by
    intro r hr
    rcases List.mem_append.1 hr with h | h
    · exact repsN_mem xs a i r h
    · rw [List.mem_singleton.1 h]; exact ⟨_, rfl⟩
theorem mostN_lt (xs : List (List Int)) (a : Int) (s : Nat) : ∀ i, mostN xs a i s < 6
  | 0 => by simp [mostN]
  | i + 1 => by
    have h1 := mostN_lt xs a s i
    have h2 := cntOf_lt (manyAt xs i) s
    simp only [mostN]
    split <;> omega
theorem mostN_ge (xs : List (List Int)) (a : Int) (s i : Nat) (ha : (i : Int) ≠ a) : ∀ n, i < n → cntOf (manyAt xs i) s ≤ mostN xs a n s
  | 0, h => by omega
  | n + 1, h => by
    simp only [mostN]
    by_cases e : i = n
    · subst e; rw [if_neg ha]; omega
    · have := mostN_ge xs a s i ha n (by omega)
      split <;> omega
theorem valM_reps (xs : List (List Int)) (a : Int) (s : Nat) (h1 : 1 ≤ s) (h2 : s ≤ 3) : ∀ i, valM (cutM (repsN xs a i)) s = itemsOf s (mostN xs a i s)
  | 0 => rfl
  | i + 1 => by
    have ih := valM_reps xs a s h1 h2 i
    show valM ((repsN xs a i ++ [repAt xs a i]).foldl stepR []) s = _
    rw [List.foldl_append, List.foldl_cons, List.foldl_nil]
    show valM ((rowsTo (manyAt xs i) 3).foldl (Cut.stepG (if (i : Int) = a then ((5 : Int), (1 : Int)) else ((0 : Int), (0 : Int)))) (cutM (repsN xs a i))) s = _
    simp only [mostN]
    by_cases e : (i : Int) = a
    · rw [if_pos e, if_pos e, valM_other _ (by decide), ih]
    · rw [if_neg e, if_neg e, valM_rows _ _ _ _ h1 h2 ih]

/-! What one misses. -/
theorem fromS_miss (own : List D_cut_Log) (s : Int) : ∀ {ps : List D_cut_Part}, SortedP ps →
    fromS s (missL ps ((0 : Int), (0 : Int)) own) = match findP (0, 0, s) ps with | none => [] | some t => if (ownOf own s).length < t.length && beg (ownOf own s) t then t.drop (ownOf own s).length else []
  | [], _ => rfl
  | x :: ps, h => by
    have a := List.pairwise_cons.1 h
    have ih := fromS_miss own s a.2
    have e1 : missL (x :: ps) ((0 : Int), (0 : Int)) own = (missOne (0, 0) own x).toList ++ missL ps (0, 0) own := by
      simp only [missL, List.filterMap_cons]
      cases missOne (0, 0) own x <;> rfl
    rw [e1, fromS_app]
    by_cases hk : ((0 : Int), (0 : Int), s) = keyP x
    · rw [show findP (0, 0, s) ps = none from findP_lt (fun z hz => by rw [hk]; exact a.1 z hz)] at ih
      rw [ih]
      simp only [findP, if_pos hk, List.append_nil]
      simp only [keyP, Prod.mk.injEq] at hk
      unfold missOne
      rw [if_neg (by simp only [ne_eq, Decidable.not_not]; exact Prod.ext hk.1.symm hk.2.1.symm), ← hk.2.2]
      split
      · simp [fromS]
      · rfl
    · simp only [findP, if_neg hk]
      rw [ih]
      have : fromS s (missOne (0, 0) own x).toList = [] := by
        refine fromS_none s fun g hg q => hk ?_
        unfold missOne at hg
        split at hg
        · cases hg
        · rename_i h0
          simp only [ne_eq, Decidable.not_not] at h0
          split at hg
          · simp only [Option.toList_some, List.mem_singleton] at hg
            subst hg
            simp only at q
            simp only [keyP, h0, q]
          · cases hg
      rw [this, List.nil_append]
theorem cutL_find (rs : List D_cut_Report) : SortedP (cutL rs) ∧ ∀ p, findP p (cutL rs) = getA p (cutM rs) := by
  have h : InvP (rs.foldl refR []) (cutM rs) := inv_all rs ⟨List.Pairwise.nil, fun _ => rfl, List.nodup_nil⟩
  rw [refCut_cutL] at h
  exact ⟨h.sorted, h.find⟩
theorem rows_nodup (many : List Int) : ((rowsTo many 3).map (·.1)).Nodup := (rowsTo_up many 3).imp fun h => Int.ne_of_lt h
theorem all_texts (xs : List (List Int)) (a : Int) (n i s : Nat) (hi : i < n) (ha : (i : Int) ≠ a) (h1 : 1 ≤ s) (h2 : s ≤ 3) :
    fromS (s : Int) (rowsTo (manyAt xs i) 3) ++ fromS (s : Int) (missL (cutL (repsN xs a n)) ((0 : Int), (0 : Int)) (rowsTo (manyAt xs i) 3)) = itemsOf s (mostN xs a n s) := by
  obtain ⟨hs, hf⟩ := cutL_find (repsN xs a n)
  have hv := valM_reps xs a s h1 h2 n
  have hle := mostN_ge xs a s i ha n hi
  rw [fromS_miss _ _ hs, hf, ownOf_from _ (rows_nodup _), fromS_rows _ _ h1 h2]
  unfold valM at hv
  cases hg : getA ((0 : Int), (0 : Int), (s : Int)) (cutM (repsN xs a n)) with
  | none =>
    rw [hg] at hv
    have := congrArg List.length hv
    rw [itemsOf_len] at this
    have h0 : mostN xs a n s = 0 := by simpa using this.symm
    rw [h0] at hle ⊢
    rw [show cntOf (manyAt xs i) s = 0 by omega]; rfl
  | some t =>
    rw [hg] at hv
    replace hv : t = itemsOf s (mostN xs a n s) := hv
    subst hv
    simp only [itemsOf_len]
    by_cases hlt : cntOf (manyAt xs i) s < mostN xs a n s
    · have hb : beg (itemsOf s (cntOf (manyAt xs i) s)) (itemsOf s (mostN xs a n s)) = true := by
        unfold beg
        rw [itemsOf_len, itemsOf_len, itemsOf_take s hle]
        simp [hle]
      rw [hb, decide_eq_true hlt]
      simp only [Bool.and_self, if_true]
      rw [← itemsOf_take s hle, List.take_append_drop]
    · rw [decide_eq_false hlt]
      simp only [Bool.false_and, Bool.false_eq_true, if_false, List.append_nil]
      rw [show cntOf (manyAt xs i) s = mostN xs a n s by omega]

/-! The loops. -/
theorem take_from (s : Int) {l : List D_cut_Log} {j : Nat} (h : j < l.length) : fromS s (l.take (j + 1)) = fromS s (l.take j) ++ (if l[j].1 = s then l[j].2 else []) := by
  rw [← take_snoc h, fromS_app, fromS_cons, fromS_nil, List.append_nil]
theorem take_mem_len {l : List D_cut_Log} {n : Nat} (j : Nat) (h : ∀ g ∈ l, g.2.length ≤ n) : ∀ g ∈ l.take j, g.2.length ≤ n := fun g hg => h g (List.mem_of_mem_take hg)
theorem b8_eq (x0 : List (List Int)) (x1 : Int) (p : List D_cut_Part) (al own gone : List D_cut_Log) (i : Int) (k : Nat) (hk : k < al.length) (ho : own.length ≤ 1000) (h6 : ∀ g ∈ own, g.2.length ≤ 1000) :
    loopM (fun s : (List (List UInt8)) × Int => gemotlaw11_CutAll.b8 x0 x1 p al i own gone (k : Int) s.1 s.2) (([] : List (List UInt8)), (0 : Int)) = some (fromS al[k].1 own) := by
  refine loop_count (fun j => (fromS al[k].1 (own.take j), (j : Int))) own.length (fun j hj => ?_) ?_
  · have hl := fromS_len al[k].1 1000 (own.take j) (take_mem_len j h6)
    have hl2 : (own.take j).length ≤ 1000 := by simp; omega
    have hl3 := h6 _ (List.getElem_mem hj)
    show gemotlaw11_CutAll.b8 x0 x1 p al i own gone (k : Int) (fromS al[k].1 (own.take j)) (j : Int) = _
    unfold gemotlaw11_CutAll.b8 gemotlaw11_CutAll.k7
    rw [cond_t (by omega), idxL_lt hj, Option.bind_some, idxL_lt hk, Option.bind_some, Option.bind_some, wrap1 j (by omega), take_from _ hj]
    by_cases e : own[j].1 = al[k].1
    · rw [if_pos e, show (own[j].1 == al[k].1) = true by simpa using e, cond_true, room_of (by omega)]
    · rw [if_neg e, show (own[j].1 == al[k].1) = false by simpa using e, cond_false, List.append_nil]
  · show gemotlaw11_CutAll.b8 x0 x1 p al i own gone (k : Int) _ (own.length : Int) = _
    unfold gemotlaw11_CutAll.b8
    rw [cond_f (by omega), List.take_length]
theorem b10_eq (x0 : List (List Int)) (x1 : Int) (p : List D_cut_Part) (al own gone : List D_cut_Log) (i : Int) (k : Nat) (acc : List (List UInt8)) (ha : acc.length ≤ 1000000) (hk : k < al.length) (ho : gone.length ≤ 1000) (h6 : ∀ g ∈ gone, g.2.length ≤ 1000) :
    loopM (fun s : (List (List UInt8)) × Int => gemotlaw11_CutAll.b10 x0 x1 p al i own gone (k : Int) s.1 s.2) (acc, (0 : Int)) = some (acc ++ fromS al[k].1 gone) := by
  have h0 : (acc, (0 : Int)) = (acc ++ fromS al[k].1 (gone.take 0), ((0 : Nat) : Int)) := by simp [fromS]
  rw [h0]
  refine loop_count (fun j => (acc ++ fromS al[k].1 (gone.take j), (j : Int))) gone.length (fun j hj => ?_) ?_
  · have hl := fromS_len al[k].1 1000 (gone.take j) (take_mem_len j h6)
    have hl2 : (gone.take j).length ≤ 1000 := by simp; omega
    have hl3 := h6 _ (List.getElem_mem hj)
    show gemotlaw11_CutAll.b10 x0 x1 p al i own gone (k : Int) (acc ++ fromS al[k].1 (gone.take j)) (j : Int) = _
    unfold gemotlaw11_CutAll.b10 gemotlaw11_CutAll.k9
    rw [cond_t (by omega), idxL_lt hj, Option.bind_some, idxL_lt hk, Option.bind_some, Option.bind_some, wrap1 j (by omega), take_from _ hj]
    by_cases e : gone[j].1 = al[k].1
    · rw [if_pos e, show (gone[j].1 == al[k].1) = true by simpa using e, cond_true, room_of (by rw [List.length_append]; omega), List.append_assoc]
    · rw [if_neg e, show (gone[j].1 == al[k].1) = false by simpa using e, cond_false, List.append_nil]
  · show gemotlaw11_CutAll.b10 x0 x1 p al i own gone (k : Int) _ (gone.length : Int) = _
    unfold gemotlaw11_CutAll.b10
    rw [cond_f (by omega), List.take_length]
theorem b14_eq (x0 : List (List Int)) (x1 : Int) (p : List D_cut_Part) (al own gone : List D_cut_Log) (i : Int) (ho : own.length ≤ 1000) (h6 : ∀ g ∈ own, g.2.length ≤ 1000) (hg : gone.length ≤ 1000) (hg6 : ∀ g ∈ gone, g.2.length ≤ 1000)
    (hal : al.length ≤ 1000) (hal6 : ∀ g ∈ al, g.2.length ≤ 1000) (hE : ∀ g ∈ al, fromS g.1 own ++ fromS g.1 gone = g.2) :
    loopM (fun s : Int => gemotlaw11_CutAll.b14 x0 x1 p al i own gone s) (0 : Int) = some (Sum.inl ()) := by
  refine loop_count (fun k => (k : Int)) al.length (fun k hk => ?_) ?_
  · show gemotlaw11_CutAll.b14 x0 x1 p al i own gone (k : Int) = _
    unfold gemotlaw11_CutAll.b14
    have hl := fromS_len al[k].1 1000 own h6
    have h6k := hal6 _ (List.getElem_mem hk)
    rw [cond_t (by omega), b8_eq x0 x1 p al own gone i k hk ho h6, Option.bind_some]
    unfold gemotlaw11_CutAll.k13
    rw [b10_eq x0 x1 p al own gone i k _ (by omega) hk hg hg6, Option.bind_some]
    unfold gemotlaw11_CutAll.k12
    rw [idxL_lt hk, Option.bind_some, texts_eq _ (by omega), Option.bind_some, hE _ (List.getElem_mem hk), same_eq _ _ (by omega), Option.bind_some, decide_eq_true rfl]
    unfold gemotlaw11_CutAll.k11
    rw [wrap1 k (by omega)]
    rfl
  · show gemotlaw11_CutAll.b14 x0 x1 p al i own gone (al.length : Int) = _
    unfold gemotlaw11_CutAll.b14
    rw [cond_f (by omega)]

def mostL (n : Nat → Nat) : List Int := [(n 1 : Int), (n 2 : Int), (n 3 : Int)]
theorem cnt_mostL (n : Nat → Nat) (hn : ∀ s, n s < 6) (s : Nat) (h1 : 1 ≤ s) (h2 : s ≤ 3) : cntOf (mostL n) s = n s := by
  have hp : ∀ s, (pickN (n s : Int) 6).toNat = n s := by
    intro s
    have := hn s
    unfold pickN
    rw [if_neg (by omega), Int.tmod_eq_of_lt (by omega) (by omega)]
    rfl
  have : s = 1 ∨ s = 2 ∨ s = 3 := by omega
  rcases this with rfl | rfl | rfl <;> exact hp _
theorem cnt_lt_none {many : List Int} {s : Nat} (h : many.length ≤ s) : cntOf many (s + 1) = 0 := by unfold cntOf; rw [Nat.add_sub_cancel, List.getElem?_eq_none h]
theorem b2_loop (xs : List (List Int)) (a : Int) (v : List D_cut_Report) (i : Nat) (y : List D_cut_Log) (c d : Int) (n : Nat → Nat) (hn : ∀ s, n s < 6) (hi : i < xs.length) (hil : i < 1000)
    (hb : ∀ x ∈ xs[i], -9223372036854775808 ≤ x ∧ x ≤ 9223372036854775807) (hl : xs[i].length ≤ 140737488355328) :
    loopM (fun s : (List Int) × Int => gemotlaw11_CutAll.b2 xs a v (i : Int) y c d s.1 s.2) (mostL n, (0 : Int)) = some (mostL fun s => if (i : Int) = a then n s else max (n s) (cntOf xs[i] s)) := by
  have hb2 : ∀ (m : List Int) (j : Nat), j < 3 → gemotlaw11_CutAll.b2 xs a v (i : Int) y c d m (j : Int) = gemotlaw11_CutAll.k1 xs a v (i : Int) y c d m (j : Int) (cond (decide ((j : Int) < (xs[i].length : Int))) ((i : Int) != a) false) := by
    intro m j hj
    unfold gemotlaw11_CutAll.b2
    rw [cond_t (by omega), idxL_lt hi, Option.bind_some, cond_t (show ((j : Int)) < (3 : Int) by omega)]
  by_cases ha : (i : Int) = a
  · simp only [if_pos ha]
    refine loop_count (fun j => (mostL n, (j : Int))) 0 (fun j hj => by omega) ?_
    show gemotlaw11_CutAll.b2 xs a v (i : Int) y c d (mostL n) ((0 : Nat) : Int) = _
    rw [hb2 _ 0 (by omega), show ((i : Int) != a) = false by simpa using ha]
    unfold gemotlaw11_CutAll.k1
    cases decide (((0 : Nat) : Int) < (xs[i].length : Int)) <;> rfl
  · simp only [if_neg ha]
    have hset : ∀ (f : Nat → Nat) (j q : Nat), j < 3 → (mostL f).set j (q : Int) = mostL (fun s => if s = j + 1 then q else f s) := by
      intro f j q hj
      have : j = 0 ∨ j = 1 ∨ j = 2 := by omega
      rcases this with rfl | rfl | rfl <;> rfl
    have hget : ∀ (f : Nat → Nat) (j : Nat), j < 3 → idxL (mostL f) (j : Int) = some (f (j + 1) : Int) := by
      intro f j hj
      have : j = 0 ∨ j = 1 ∨ j = 2 := by omega
      rcases this with rfl | rfl | rfl <;> rfl
    have hcnt : ∀ (j : Nat) (hj : j < xs[i].length), gemotlaw11_pick.f xs[i][j] 6 = some ((cntOf xs[i] (j + 1) : Nat) : Int) := by
      intro j hj
      have hx := hb _ (List.getElem_mem hj)
      rw [pickN_of _ _ (by decide) hx.1 hx.2]
      have hr := pickN_range xs[i][j] 6 (by omega)
      unfold cntOf
      rw [Nat.add_sub_cancel, List.getElem?_eq_getElem hj]
      show _ = some (((pickN xs[i][j] 6).toNat : Nat) : Int)
      congr 1; omega
    have hfin : mostL (fun s => if s ≤ min 3 xs[i].length then max (n s) (cntOf xs[i] s) else n s) = mostL (fun s => max (n s) (cntOf xs[i] s)) := by
      have : ∀ t, t < 3 → (if t + 1 ≤ min 3 xs[i].length then max (n (t + 1)) (cntOf xs[i] (t + 1)) else n (t + 1)) = max (n (t + 1)) (cntOf xs[i] (t + 1)) := by
        intro t ht
        by_cases h : t + 1 ≤ min 3 xs[i].length
        · rw [if_pos h]
        · rw [if_neg h, cnt_lt_none (by omega)]; omega
      have e1 := this 0 (by omega)
      have e2 := this 1 (by omega)
      have e3 := this 2 (by omega)
      simp only [Nat.zero_add, Nat.reduceAdd] at e1 e2 e3
      unfold mostL
      simp only [e1, e2, e3]
    have h0 : mostL n = mostL (fun s => if s ≤ 0 then max (n s) (cntOf xs[i] s) else n s) := rfl
    rw [← hfin, h0]
    refine loop_count (fun j => (mostL (fun s => if s ≤ j then max (n s) (cntOf xs[i] s) else n s), (j : Int))) (min 3 xs[i].length) (fun j hj => ?_) ?_
    · show gemotlaw11_CutAll.b2 xs a v (i : Int) y c d (mostL (fun s => if s ≤ j then max (n s) (cntOf xs[i] s) else n s)) (j : Int) = _
      have hjl : j < xs[i].length := by omega
      rw [hb2 _ j (by omega), cond_t (by omega), show ((i : Int) != a) = true by simpa using ha]
      unfold gemotlaw11_CutAll.k1
      rw [cond_true, hget _ j (by omega), Option.bind_some, idxL_lt hi, Option.bind_some, idxL_lt hjl, Option.bind_some, hcnt j hjl, Option.bind_some, Option.bind_some, wrap1 j (by omega), if_neg (by omega)]
      have hmax : maxI ((n (j + 1) : Nat) : Int) ((cntOf xs[i] (j + 1) : Nat) : Int) = ((max (n (j + 1)) (cntOf xs[i] (j + 1)) : Nat) : Int) := by unfold maxI; split <;> omega
      rw [hmax, Int.toNat_natCast, hset _ j _ (by omega)]
      congr 3
      have : j = 0 ∨ j = 1 ∨ j = 2 := by omega
      rcases this with rfl | rfl | rfl <;> rfl
    · show gemotlaw11_CutAll.b2 xs a v (i : Int) y c d _ ((min 3 xs[i].length : Nat) : Int) = _
      by_cases h3 : 3 ≤ xs[i].length
      · rw [Nat.min_eq_left h3]
        unfold gemotlaw11_CutAll.b2
        rw [cond_f (by decide), show (decide (((3 : Nat) : Int) < (3 : Int))) = false by decide]
        rfl
      · rw [Nat.min_eq_right (by omega), hb2 _ _ (by omega), cond_f (by omega)]
        rfl
theorem manyAt_lt {xs : List (List Int)} {i : Nat} (h : i < xs.length) : manyAt xs i = xs[i] := by unfold manyAt; rw [List.getElem?_eq_getElem h]; rfl
theorem b6_loop (xs : List (List Int)) (a : Int) (hx : xs.length ≤ 8) (hb : ∀ l ∈ xs, ∀ x ∈ l, -9223372036854775808 ≤ x ∧ x ≤ 9223372036854775807) (hl : ∀ l ∈ xs, l.length ≤ 140737488355328) :
    loopM (fun s : (List D_cut_Report) × (List Int) × Int => gemotlaw11_CutAll.b6 xs a s.1 s.2.1 s.2.2) (([] : List D_cut_Report), (List.replicate 3 (0 : Int)), (0 : Int)) = some (repsN xs a xs.length, mostL (mostN xs a xs.length)) := by
  refine loop_count (fun i => (repsN xs a i, mostL (mostN xs a i), (i : Int))) xs.length (fun i hi => ?_) ?_
  · show gemotlaw11_CutAll.b6 xs a (repsN xs a i) (mostL (mostN xs a i)) (i : Int) = _
    have hbi := hb _ (List.getElem_mem hi)
    have hli := hl _ (List.getElem_mem hi)
    unfold gemotlaw11_CutAll.b6
    rw [cond_t (by omega), idxL_lt hi, Option.bind_some, rows_eq _ hbi hli, Option.bind_some]
    have k5 : ∀ c d, gemotlaw11_CutAll.k5 xs a (repsN xs a i) (mostL (mostN xs a i)) (i : Int) (rowsTo xs[i] 3) c d = some (.inl (repsN xs a i ++ [(((i + 1 : Nat) : Int), (c, d), rowsTo xs[i] 3)], mostL (mostN xs a (i + 1)), ((i + 1 : Nat) : Int))) := by
      intro c d
      unfold gemotlaw11_CutAll.k5
      rw [b2_loop xs a _ i _ c d _ (fun s => mostN_lt xs a s i) hi (by omega) hbi hli, Option.bind_some]
      unfold gemotlaw11_CutAll.k4 gemotlaw11_CutAll.k3
      rw [room_of (by rw [repsN_len]; omega), wrap1 i (by omega), ← manyAt_lt hi]
      rfl
    have hr : repsN xs a (i + 1) = repsN xs a i ++ [(((i + 1 : Nat) : Int), (if (i : Int) = a then ((5 : Int), (1 : Int)) else ((0 : Int), (0 : Int))), rowsTo xs[i] 3)] := by rw [← manyAt_lt hi]; rfl
    rw [hr]
    by_cases e : (i : Int) = a
    · rw [if_pos e, show ((i : Int) == a) = true by simpa using e, cond_true, k5]
    · rw [if_neg e, show ((i : Int) == a) = false by simpa using e, cond_false, k5]
  · show gemotlaw11_CutAll.b6 xs a (repsN xs a xs.length) (mostL (mostN xs a xs.length)) (xs.length : Int) = _
    unfold gemotlaw11_CutAll.b6
    rw [cond_f (by omega)]

theorem all_eq (xs : List (List Int)) (a : Int) (hb : ∀ l ∈ xs, ∀ x ∈ l, -9223372036854775808 ≤ x ∧ x ≤ 9223372036854775807) (hl : ∀ l ∈ xs, l.length ≤ 140737488355328) : gemotlaw11_CutAll.f xs a = some true := by
  unfold gemotlaw11_CutAll.f
  rw [shown_eq, Option.bind_some]
  by_cases hc : xs.length = 0 ∨ 8 < xs.length
  · rw [show (cond (cond (!true) true ((xs.length : Int) == (0 : Int))) true (decide ((xs.length : Int) > 8))) = true by
      rcases hc with h | h
      · simp [h]
      · rw [decide_eq_true (show (xs.length : Int) > 8 by omega)]; cases (cond (!true) true ((xs.length : Int) == (0 : Int))) <;> rfl]
    rfl
  · rw [show (cond (cond (!true) true ((xs.length : Int) == (0 : Int))) true (decide ((xs.length : Int) > 8))) = false by
      rw [decide_eq_false (show ¬ (xs.length : Int) > 8 by omega), show ((xs.length : Int) == (0 : Int)) = false from beq_eq_false_iff_ne.2 (by omega)]; rfl, cond_false, b6_loop xs a (by omega) hb hl, Option.bind_some]
    unfold gemotlaw11_CutAll.k18
    have hrep := repsN_mem xs a xs.length
    have hrl := repsN_len xs a xs.length
    have hrl3 : ∀ r ∈ repsN xs a xs.length, r.2.2.length ≤ 3 := fun r hr => by obtain ⟨m, hm⟩ := hrep r hr; rw [hm]; exact rowsTo_len m 3
    have hrg : ∀ r ∈ repsN xs a xs.length, ∀ g ∈ r.2.2, g.2.length ≤ 6 := fun r hr g hg => by obtain ⟨m, hm⟩ := hrep r hr; rw [hm] at hg; exact (rowsTo_fst m 3 g hg).2.2.2
    have hcm := cutM_len _ 3 hrl3
    have hmv := cutM_vals (fun t => t.length ≤ 6) _ hrg
    have hcut : cut_Cut.f (repsN xs a xs.length) = some (cutL (repsN xs a xs.length)) := cut_of (by omega) (fun r hr => by have := hrl3 r hr; omega) (by omega) (fun e he => by have := hmv e he; omega) (fun r hr g hg => by have := hrg r hr g hg; omega)
    have hcl : (cutL (repsN xs a xs.length)).length ≤ 100 := by rw [cutL_len]; omega
    have hcv := cutL_vals (fun t => t.length ≤ 6) (by simp) _ hrg
    have hM := fun s => mostN_lt xs a s xs.length
    show ((cut_Cut.f (repsN xs a xs.length)).bind _) = _
    rw [hcut, Option.bind_some]
    show ((gemotlaw11_rows.f (mostL (mostN xs a xs.length))).bind _) = _
    rw [rows_eq (mostL (mostN xs a xs.length)) (by
      intro x hx
      have h1 := hM 1; have h2 := hM 2; have h3 := hM 3
      simp only [mostL, List.mem_cons, List.not_mem_nil, or_false] at hx
      rcases hx with rfl | rfl | rfl <;> omega) (by simp [mostL]), Option.bind_some]
    have hL : loopM (fun s : Int => gemotlaw11_CutAll.b16 xs a (cutL (repsN xs a xs.length)) (rowsTo (mostL (mostN xs a xs.length)) 3) s) (0 : Int) = some (Sum.inl ()) := by
      refine loop_count (fun i => (i : Int)) xs.length (fun i hi => ?_) ?_
      · show gemotlaw11_CutAll.b16 xs a (cutL (repsN xs a xs.length)) (rowsTo (mostL (mostN xs a xs.length)) 3) (i : Int) = _
        unfold gemotlaw11_CutAll.b16
        rw [cond_t (by omega)]
        have k15 : ∀ p al, gemotlaw11_CutAll.k15 xs a p al (i : Int) = some (.inl ((i + 1 : Nat) : Int)) := by
          intro p al; unfold gemotlaw11_CutAll.k15; rw [wrap1 i (by omega)]
        by_cases e : (i : Int) = a
        · rw [show ((i : Int) == a) = true by simpa using e, cond_true, k15]
        · rw [show ((i : Int) == a) = false by simpa using e, cond_false, idxL_lt hi, Option.bind_some, rows_eq _ (hb _ (List.getElem_mem hi)) (hl _ (List.getElem_mem hi)), Option.bind_some]
          have hfi := rowsTo_fst xs[i] 3
          have hni := rowsTo_len xs[i] 3
          have hm : cut_Missing.f (cutL (repsN xs a xs.length)) ((0 : Int), (0 : Int)) (rowsTo xs[i] 3) = some (missL (cutL (repsN xs a xs.length)) (0, 0) (rowsTo xs[i] 3)) :=
            miss_of (by omega) (by omega) (fun x hx => by have := hcv x hx; omega) (fun g hg => by have := hfi g hg; omega)
          have hml := missL_le (cutL (repsN xs a xs.length)) (0, 0) (rowsTo xs[i] 3)
          have hmg := missL_vals (cutL (repsN xs a xs.length)) (0, 0) (rowsTo xs[i] 3) 6 hcv
          have hfa := rowsTo_fst (mostL (mostN xs a xs.length)) 3
          have hna := rowsTo_len (mostL (mostN xs a xs.length)) 3
          rw [hm, Option.bind_some, b14_eq xs a _ _ _ _ _ (by omega) (fun g hg => by have := hfi g hg; omega) (by omega) (fun g hg => by have := hmg g hg; omega) (by omega) (fun g hg => by have := hfa g hg; omega) (fun g hg => by
            obtain ⟨s, h1, h2, rfl⟩ := rows_mem _ 3 g hg
            have := all_texts xs a xs.length i s hi e h1 h2
            rw [manyAt_lt hi] at this
            rw [cnt_mostL _ hM s h1 h2]
            exact this), Option.bind_some]
          exact k15 (cutL (repsN xs a xs.length)) (rowsTo (mostL (mostN xs a xs.length)) 3)
      · show gemotlaw11_CutAll.b16 xs a (cutL (repsN xs a xs.length)) (rowsTo (mostL (mostN xs a xs.length)) 3) (xs.length : Int) = _
        unfold gemotlaw11_CutAll.b16
        rw [cond_f (by omega)]
    rw [hL]; rfl

/-- As the row wants it. -/
theorem allLaw_row {ok : Nat → Prop} {w : World} {v : Value} {xs : List (List Int)} {a : Int} (h : slR (tSl (tInt .i64)) w ok v xs) (hl : ∀ l ∈ xs, l.length * 8 ≤ 140737488351232 ∧ ∀ x ∈ l, inKind .i64 x) :
    Calls Try.prog 4 #[v, .int .i64 a] w fun e w' => ∃ v, e = .returned v ∧ (v = .bool true ∧ Below w.heap.size w w') :=
  (gemotlaw11_CutAll_ok h (all_eq xs a (fun l h x hx => Eng.in_i64 ((hl l h).2 x hx)) (fun l h => by have := (hl l h).1; omega))).mono fun e w' ⟨v, h1, h2, h3⟩ => ⟨v, h1, h2, h3.toBelow⟩
end Go.Proofs.Ytgomlcfoifkdiaa.G
