/- Rows and views as terms, by the program; what is made of parts. -/
import Derived.Test.YtfapphlhkfddoaaGreatDoorTermDec
import Derived.Test.YtfapphlhkfddoaaGreatDoorClimbR
namespace Go.Proofs.YtfapphlhkfddoaaGreatDoor.G
open Go.RowKit Go.Eng Go.Proofs Go.Proofs.YtfapphlhkfddoaaGreatDoor.Cut
set_option linter.unusedVariables false
set_option linter.unusedSimpArgs false
theorem putT_nil : putT [] = countedT 117 0 := rfl
theorem putT_cons (t : List UInt8) (ts : List (List UInt8)) : putT (t :: ts) = 112 :: (t ++ putT ts) := by
  unfold putT
  rw [List.reverse_cons, List.foldl_append]; rfl
def putE (l : List (List UInt8)) : List UInt8 × Int :=
  if 150 < l.length then ([], 1) else if l.any (fun t => !rightB t) = true then ([], 1) else if 20000 < (putT l).length then ([], 3) else if rightB (putT l) = true then (putT l, 0) else ([], 4)
theorem putT_len_le (n : Nat) : ∀ (l : List (List UInt8)), (∀ t ∈ l, t.length ≤ n) → (putT l).length ≤ (n + 1) * l.length + 9
  | [], _ => by simp [putT_nil, countedT, bytesOf_length]
  | a :: l, h => by
    have := putT_len_le n l (fun t ht => h t (List.mem_cons_of_mem _ ht))
    have := h a List.mem_cons_self
    rw [putT_cons, List.length_cons, List.length_append, List.length_cons, Nat.mul_add]; omega
theorem rights_of {l : List (List UInt8)} (h : ¬ l.any (fun t => !rightB t) = true) : ∀ t ∈ l, rightB t = true := by
  intro t ht
  cases hr : rightB t with
  | true => rfl
  | false => exact absurd (List.any_eq_true.2 ⟨t, ht, by rw [hr]; rfl⟩) h
theorem any_of_rights {l : List (List UInt8)} (h : ∀ t ∈ l, rightB t = true) : ¬ l.any (fun t => !rightB t) = true := by
  intro q
  obtain ⟨t, ht, hq⟩ := List.any_eq_true.1 q
  rw [h t ht] at hq; cases hq
theorem put_spec {l : List (List UInt8)} (hb : ∀ t ∈ l, t.length ≤ 140737488355328) : list_Put.f l = some (putE l) := by
  unfold list_Put.f putE
  by_cases h1 : 150 < l.length
  · rw [if_pos h1, if_pos h1]
  rw [if_neg h1, if_neg h1, given_of (fun t ht => ⟨_, right_spec (hb t ht)⟩)]
  have hrt : ∀ t ∈ l, rightT t = rightB t := fun t ht => by unfold rightT; rw [right_spec (hb t ht)]; rfl
  have hany : l.any (fun t => !rightT t) = l.any (fun t => !rightB t) := by
    rw [Bool.eq_iff_iff, List.any_eq_true, List.any_eq_true]
    constructor
    · rintro ⟨t, ht, q⟩; exact ⟨t, ht, by rw [← hrt t ht]; exact q⟩
    · rintro ⟨t, ht, q⟩; exact ⟨t, ht, by rw [hrt t ht]; exact q⟩
  rw [hany]
  by_cases h2 : l.any (fun t => !rightB t) = true
  · rw [if_pos h2, if_pos h2]
  rw [if_neg h2, if_neg h2]
  have hr := rights_of h2
  have hlen := putT_len_le 20000 l (fun t ht => (rightB_len (hr t ht)).2)
  rw [given_of (by omega)]
  by_cases h3 : 20000 < (putT l).length
  · rw [if_pos h3, if_pos h3]
  rw [if_neg h3, if_neg h3, right_spec (by omega), Option.bind_some]
  cases rightB (putT l) <;> rfl
theorem ok_putE {l : List (List UInt8)} (h1 : l.length ≤ 150) (h2 : ∀ t ∈ l, rightB t = true) (h3 : rightB (putT l) = true) : putE l = (putT l, 0) := by
  unfold putE
  rw [if_neg (by omega), if_neg (any_of_rights h2), if_neg (by have := (rightB_len h3).2; omega), if_pos h3]
/-- A row of right ones is right, if it is not too long nor too deep. -/
theorem full_put {left : Nat} : ∀ (l : List (List UInt8)), (∀ t ∈ l, full t left) → 1 ≤ left → full (putT l) (left + l.length)
  | [], _, h1 => by
    have h : full (countedT 117 0) 1 := by
      unfold full
      rw [specE_succ, List.drop_zero]
      show (if leafN 117 (bytesOf 0 8) ≠ 0 then _ else _ : Int × Int).1 = _
      have h : leafN 117 (bytesOf 0 8) = 9 := by unfold leafN; rw [bytesOf_length]; rfl
      rw [h, if_pos (by simp)]
      simp [countedT, bytesOf_length]
    exact full_mono h (by simpa using h1)
  | t :: l, hf, h1 => by
    have ih := full_put l (fun x hx => hf x (List.mem_cons_of_mem _ hx)) h1
    have ht := full_mono (hf t List.mem_cons_self) (show left ≤ left + l.length by omega)
    rw [putT_cons, List.length_cons, ← Nat.add_assoc]
    refine full_of (n := 2) (o := 1) (p := false) (h := [112]) (l := []) (xs := [t, putT l]) ?_ (by simp) rfl rfl (fun x hx => ?_) (fun hp => by cases hp)
    · unfold openT
      rw [if_neg (by decide), if_neg (by decide), if_pos (by decide)]
    · rcases List.mem_cons.1 hx with q | q
      · rw [q]; exact ht
      · rw [List.mem_singleton.1 q]; exact ih
theorem full_number (x : Int) : full (countedT 117 x) 1 := by
  unfold full
  rw [specE_succ, List.drop_zero]
  show (if leafN 117 (bytesOf x 8) ≠ 0 then _ else _ : Int × Int).1 = _
  have h : leafN 117 (bytesOf x 8) = 9 := by unfold leafN; rw [bytesOf_length]; rfl
  rw [h, if_pos (by simp)]
  simp [countedT, bytesOf_length]
/-- A short row of numbers is a term. -/
theorem put_numbers {l : List (List UInt8)} (h : ∀ t ∈ l, ∃ n, t = countedT 117 n) (hl : l.length ≤ 150) : putE l = (putT l, 0) := by
  have hf : ∀ t ∈ l, full t 1 := fun t ht => by obtain ⟨n, rfl⟩ := h t ht; exact full_number n
  have hlen := putT_len_le 9 l (fun t ht => by obtain ⟨n, rfl⟩ := h t ht; simp [countedT, bytesOf_length])
  exact ok_putE hl (fun t ht => full_right (full_mono (hf t ht) (by omega)) (by obtain ⟨n, rfl⟩ := h t ht; simp [countedT, bytesOf_length])) (full_right (full_mono (full_put l hf (by omega)) (by omega)) (by omega))
/-- What is made of parts. -/
def ofE (c : List UInt8) (xs : List (List UInt8)) : List UInt8 × Int := if xs.all rightB = true then wholeE (c ++ xs.flatten) else ([], 1)
theorem wholeE_len (q : List UInt8) : (wholeE q).1.length ≤ 20000 := by
  unfold wholeE
  split
  · simp
  · split
    · simp only; omega
    · simp
theorem ofE_len (c : List UInt8) (xs : List (List UInt8)) : (ofE c xs).1.length ≤ 20000 := by
  unfold ofE
  split
  · exact wholeE_len _
  · simp
theorem of_loop {xs : List (List UInt8)} (hx : ∀ x ∈ xs, x.length ≤ 140737488355328) (hn : xs.length ≤ 1000) (body : List UInt8 → Int → Option (((List UInt8) × Int) ⊕ ((List UInt8) ⊕ ((List UInt8) × Int))))
    (hb : ∀ c (i : Nat), body c (i : Int) = if h : i < xs.length then (if rightB xs[i] = true then roomM 1 (c.length + xs[i].length) (some (.inl (c ++ xs[i], ((i + 1 : Nat) : Int)))) else some (.inr (.inr ([], 1)))) else some (.inr (.inl c))) :
    ∀ k i c, i + k = xs.length → c.length ≤ 20000 * i + 1 → loopM (fun s : (List UInt8) × Int => body s.1 s.2) (c, (i : Int)) = some (if (xs.drop i).all rightB = true then .inl (c ++ (xs.drop i).flatten) else .inr ([], 1)) := by
  intro k
  induction k with
  | zero =>
    intro i c hi hc
    refine loop_end ?_
    show body c (i : Int) = _
    rw [hb, dif_neg (by omega), List.drop_of_length_le (by omega)]; simp
  | succ k ih =>
    intro i c hi hc
    have hil : i < xs.length := by omega
    rw [List.drop_eq_getElem_cons hil, List.all_cons]
    by_cases hr : rightB xs[i] = true
    · have hl := (rightB_len hr).2
      have := ih (i + 1) (c ++ xs[i]) (by omega) (by rw [List.length_append]; omega)
      rw [hr, Bool.true_and, List.flatten_cons, ← List.append_assoc]
      refine loop_step ?_ this
      show body c (i : Int) = _
      rw [hb, dif_pos hil, if_pos hr, room_of (by omega)]
    · rw [show rightB xs[i] = false by simpa using hr, Bool.false_and, if_neg (by simp)]
      refine loop_end ?_
      show body c (i : Int) = _
      rw [hb, dif_pos hil, if_neg hr]
theorem of_spec {c : UInt8} {xs : List (List UInt8)} (hx : ∀ x ∈ xs, x.length ≤ 140737488355328) (hn : xs.length ≤ 1000) : term_of.f [c] xs = some (ofE [c] xs) := by
  have hb : ∀ d (i : Nat), term_of.b1 xs d (i : Int) = if h : i < xs.length then (if rightB xs[i] = true then roomM 1 (d.length + xs[i].length) (some (.inl (d ++ xs[i], ((i + 1 : Nat) : Int)))) else some (.inr (.inr ([], 1)))) else some (.inr (.inl d)) := by
    intro d i
    unfold term_of.b1
    by_cases h : i < xs.length
    · rw [cond_t (by omega), dif_pos h, idxL_lt h, Option.bind_some, right_spec (hx _ (List.getElem_mem h)), Option.bind_some]
      by_cases hr : rightB xs[i] = true
      · rw [hr, if_pos rfl, wrap1 i (by omega)]; rfl
      · rw [if_neg hr, show rightB xs[i] = false by simpa using hr]; rfl
    · rw [cond_f (by omega), dif_neg h]
  have h := of_loop hx hn (term_of.b1 xs) hb xs.length 0 [c] (by omega) (by simp)
  unfold term_of.f ofE
  rw [show loopM (fun s147 : (List UInt8) × Int => term_of.b1 xs s147.1 s147.2) ([c], (0 : Int)) = _ from h, List.drop_zero]
  by_cases hr : xs.all rightB = true
  · rw [if_pos hr, if_pos hr]
    show (term_whole.f _).bind _ = _
    have hl : ∀ q : List (List UInt8), (∀ x ∈ q, rightB x = true) → q.flatten.length ≤ 20000 * q.length := by
      intro q
      induction q with
      | nil => intro _; simp
      | cons y q ih =>
        intro hq
        have := (rightB_len (hq y List.mem_cons_self)).2
        have := ih fun z hz => hq z (List.mem_cons_of_mem _ hz)
        simp only [List.flatten_cons, List.length_append, List.length_cons]; omega
    have := hl xs (fun x hx => List.all_eq_true.1 hr x hx)
    rw [whole_spec (by rw [List.length_append]; simp only [List.length_cons, List.length_nil]; omega)]; rfl
  · rw [if_neg hr, if_neg hr]; rfl
theorem has_eq (xs : List Int) (p : Int) (hl : xs.length ≤ 1000000000) : view_Has.f xs p = some (decide (p ∈ xs)) := by
  unfold view_Has.f slices_Contains_int_int.f
  by_cases h : p ∈ xs
  · obtain ⟨i, h1, h2, h3⟩ := index_eq xs p hl h
    rw [h3, decide_eq_true h]
    show some (decide ((i : Int) ≥ 0)) = _
    rw [decide_eq_true (by omega)]
  · have hL : slices_Index_int_int.f xs p = some (-1) := by
      unfold slices_Index_int_int.f
      have go : ∀ k i, i + k = xs.length → loopM (fun s91 : Int => slices_Index_int_int.b1 xs p s91) (i : Int) = some (Sum.inl ()) := by
        intro k
        induction k with
        | zero =>
          intro i hi
          refine loop_end ?_
          show slices_Index_int_int.b1 xs p (i : Int) = _
          unfold slices_Index_int_int.b1
          rw [cond_f (by omega)]
        | succ k ih =>
          intro i hi
          have hil : i < xs.length := by omega
          refine loop_step ?_ (ih (i + 1) (by omega))
          show slices_Index_int_int.b1 xs p (i : Int) = _
          unfold slices_Index_int_int.b1
          rw [cond_t (by omega), idxL_lt hil, Option.bind_some, show (p == xs[i]) = false from beq_eq_false_iff_ne.2 (fun e => h (by rw [e]; exact List.getElem_mem hil)), cond_false, wrap1 i (by omega)]
      rw [show loopM (fun s91 : Int => slices_Index_int_int.b1 xs p s91) (0 : Int) = _ from go xs.length 0 (by omega)]
      rfl
    rw [hL, decide_eq_false h]; rfl
/-- A view that is right. -/
def rightV (v : D_api_View) : Bool := rowB v.2 && (decide (v.1.2 ∈ v.2) && (decide (0 ≤ v.1.1) && decide (v.1.1 ≤ 2147483647)))
theorem viewRight_eq (v : D_api_View) (hl : v.2.length ≤ 1000000000) : view_Right.f v = some (rightV v) := by
  unfold view_Right.f rightV
  rw [row_eq v.2 hl, Option.bind_some]
  cases rowB v.2 with
  | false => rfl
  | true =>
    rw [cond_true, has_eq _ _ hl, Option.bind_some]
    unfold view_Right.k1
    simp only [ge_iff_le, Bool.cond_true_left, Bool.true_and]
    cases decide (v.1.2 ∈ v.2) <;> cases decide (0 ≤ v.1.1) <;> rfl
/-- The numbers of a view's message. -/
def viewNs (v : D_api_View) : List Int := [0, v.1.1, v.1.2, 0, 0, 0, (v.2.length : Int)] ++ v.2
def viewL (v : D_api_View) : List (List UInt8) := (viewNs v).map fun n => countedT 117 (IntKind.u64.wrap n)
theorem put_nil : putE [] = (countedT 117 0, 0) := put_numbers (l := []) (fun t ht => by simp at ht) (by simp)
theorem map_loop (ns : List Int) (hl : ns.length ≤ 1000000) (g : Int → List UInt8) (body : List (List UInt8) → Int → Option (((List (List UInt8)) × Int) ⊕ (List (List UInt8))))
    (hb : ∀ acc (i : Nat), i ≤ ns.length → body acc (i : Int) = if h : i < ns.length then roomM 16 (acc.length + 1) (some (.inl (acc ++ [g ns[i]], ((i + 1 : Nat) : Int)))) else some (.inr acc)) :
    loopM (fun s : (List (List UInt8)) × Int => body s.1 s.2) (([] : List (List UInt8)), (0 : Int)) = some (ns.map g) := by
  have go : ∀ k i, i + k = ns.length → loopM (fun s : (List (List UInt8)) × Int => body s.1 s.2) ((ns.take i).map g, (i : Int)) = some (ns.map g) := by
    intro k
    induction k with
    | zero =>
      intro i hi
      refine loop_end ?_
      show body ((ns.take i).map g) (i : Int) = _
      rw [hb _ i (by omega), dif_neg (by omega), List.take_of_length_le (by omega)]
    | succ k ih =>
      intro i hi
      have hil : i < ns.length := by omega
      refine loop_step ?_ (ih (i + 1) (by omega))
      show body ((ns.take i).map g) (i : Int) = _
      rw [hb _ i (by omega), dif_pos hil, room_of (by rw [List.length_map, List.length_take]; omega)]
      congr 3
      rw [← take_snoc hil, List.map_append]; rfl
  have := go ns.length 0 (by omega)
  simpa using this
theorem listRight_view {v : D_api_View} (hv : rightV v = true) : list_Right.f (0, v.1, (0, 0), 0, v.2, []) = some true := by
  unfold rightV at hv
  simp only [Bool.and_eq_true, decide_eq_true_eq] at hv
  obtain ⟨hr, hm, he, he2⟩ := hv
  have hrow := (rowB_iff v.2).1 hr
  have hlen : v.2.length ≤ 8 := by
    by_cases h : v.2.length ≤ 8
    · exact h
    · exfalso
      have hp := List.pairwise_iff_getElem.1 hrow.2.2
      have h8 : ∀ k (hk : k < v.2.length), (k : Int) + 1 ≤ v.2[k] := by
        intro k
        induction k with
        | zero => intro hk; have := (hrow.2.1 _ (List.getElem_mem hk)).1; omega
        | succ k ih => intro hk; have := ih (by omega); have := hp k (k + 1) (by omega) hk (by omega); omega
      have := h8 8 (by omega)
      have := (hrow.2.1 _ (List.getElem_mem (show 8 < v.2.length by omega))).2
      omega
  have hc := hrow.2.1 _ hm
  have hL : ∀ k i last, i + k = v.2.length → (∃ l, rowRes last (v.2.drop i) = .inl l) → loopM (fun s103 : Int × Int => list_Right.b1 (0, v.1, (0, 0), 0, v.2, []) s103.1 s103.2) (last, (i : Int)) = some (Sum.inl ()) := by
    intro k
    induction k with
    | zero =>
      intro i last hi _
      refine loop_end ?_
      show list_Right.b1 (0, v.1, (0, 0), 0, v.2, []) last (i : Int) = _
      unfold list_Right.b1
      rw [cond_f (by simp only; omega)]
    | succ k ih =>
      rintro i last hi ⟨l, hl⟩
      have hil : i < v.2.length := by omega
      rw [List.drop_eq_getElem_cons hil] at hl
      unfold rowRes at hl
      by_cases hcnd : v.2[i] ≤ last ∨ 8 < v.2[i]
      · rw [if_pos hcnd] at hl; cases hl
      rw [if_neg hcnd] at hl
      refine loop_step ?_ (ih (i + 1) v.2[i] (by omega) ⟨l, hl⟩)
      show list_Right.b1 (0, v.1, (0, 0), 0, v.2, []) last (i : Int) = _
      unfold list_Right.b1
      simp only
      rw [cond_t (by omega), idxL_lt hil, Option.bind_some, decide_eq_false (fun h => hcnd (.inl h)), cond_false, cond_f (fun h => hcnd (.inr h)), wrap1 i (by omega)]
  have h0 : ∃ l, rowRes 0 v.2 = .inl l := by
    unfold rowB at hr
    cases hq : rowRes 0 v.2 with
    | inl l => exact ⟨l, rfl⟩
    | inr b =>
      rw [hq] at hr
      simp only at hr
      rcases rowRes_iff v.2 0 with ⟨l, h1, _⟩ | ⟨h1, h2⟩ | h
      · rw [hq] at h1; cases h1
      · rw [hq] at h1; cases h1; cases hr
      · omega
  have h1 := hL v.2.length 0 0 (by omega) (by rw [List.drop_zero]; exact h0)
  unfold list_Right.f
  rw [show loopM (fun s103 : Int × Int => list_Right.b1 (0, v.1, (0, 0), 0, v.2, []) s103.1 s103.2) ((0 : Int), (0 : Int)) = _ from h1]
  show list_Right.k3 (0, v.1, (0, 0), 0, v.2, []) = _
  unfold list_Right.k3
  simp only
  rw [put_spec (by simp), put_nil]
  unfold list_right.f
  simp only [Option.bind_some]
  rw [decide_eq_true (show v.1.1 ≥ 0 from he), decide_eq_true he2, decide_eq_true (show v.1.2 ≥ 0 by omega), decide_eq_true hc.2]
  rfl
theorem viewL_num (v : D_api_View) : ∀ t ∈ viewL v, ∃ n, t = countedT 117 n := fun t ht => by
  obtain ⟨n, _, rfl⟩ := List.mem_map.1 ht
  exact ⟨_, rfl⟩
theorem viewL_len (v : D_api_View) : (viewL v).length = v.2.length + 7 := by simp [viewL, viewNs]
def viewE (v : D_api_View) : List UInt8 × Int := if rightV v = true then (putT (viewL v), 0) else ([], 1)
theorem viewTerm_eq (v : D_api_View) (hl : v.2.length ≤ 100) : view_Term.f v = some (viewE v) := by
  unfold view_Term.f viewE
  rw [show ((v.1.1, v.1.2), v.2) = v from rfl, viewRight_eq v (by omega), Option.bind_some]
  by_cases hv : rightV v = true
  · rw [if_pos hv, hv, Bool.not_true, cond_false]
    unfold list_Pack.f
    simp only
    rw [show ((0 : Int), (v.1.1, v.1.2), ((0 : Int), (0 : Int)), (0 : Int), v.2, ([] : List (List UInt8))) = (0, v.1, (0, 0), 0, v.2, []) from rfl, listRight_view hv, Option.bind_some, Bool.not_true, cond_false, room_of (by simp; omega)]
    have hnl : (viewNs v).length = v.2.length + 7 := by simp [viewNs]
    have hL := map_loop (viewNs v) (by omega) (fun n => countedT 117 (IntKind.u64.wrap n)) (list_Pack.b1 (0, v.1, (0, 0), 0, v.2, [])) fun acc i hi => by
      unfold list_Pack.b1
      simp only
      show cond (decide ((i : Int) < ((viewNs v).length : Int))) ((idxL (viewNs v) (i : Int)).bind _) _ = _
      by_cases h : i < (viewNs v).length
      · rw [cond_t (by omega), dif_pos h, idxL_lt h, Option.bind_some]
        unfold term_Number.f
        rw [Option.bind_some, wrap1 i (by omega)]
      · rw [cond_f (by omega), dif_neg h]
    rw [hL, Option.bind_some]
    unfold list_Pack.k2
    simp only
    rw [List.append_nil, room_of (by simp [viewNs]; omega)]
    rw [show (viewNs v).map (fun n => countedT 117 (IntKind.u64.wrap n)) = viewL v from rfl, put_spec (fun t ht => by obtain ⟨n, rfl⟩ := viewL_num v t ht; simp [countedT, bytesOf_length]), put_numbers (viewL_num v) (by rw [viewL_len]; omega)]
    rfl
  · rw [if_neg hv, show rightV v = false by simpa using hv]; rfl
theorem rightB_put (v : D_api_View) (hl : v.2.length ≤ 100) : rightB (putT (viewL v)) = true := by
  have hf : ∀ t ∈ viewL v, full t 1 := fun t ht => by obtain ⟨n, rfl⟩ := viewL_num v t ht; exact full_number n
  have hlen := putT_len_le 9 (viewL v) (fun t ht => by obtain ⟨n, rfl⟩ := viewL_num v t ht; simp [countedT, bytesOf_length])
  have := viewL_len v
  exact full_right (full_mono (full_put _ hf (by omega)) (by omega)) (by omega)
end Go.Proofs.YtfapphlhkfddoaaGreatDoor.G
