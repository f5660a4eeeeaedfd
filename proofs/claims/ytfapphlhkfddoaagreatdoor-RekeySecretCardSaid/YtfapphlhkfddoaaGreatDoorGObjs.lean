/- Rows and views as1 terms, by the program; what is made of parts. -/
import Derived.Test.YtfapphlhkfddoaaGreatDoorTermDec
import Derived.Test.YtfapphlhkfddoaaGreatDoorHasP
import Derived.Shelf.SlLaysN
import Derived.Test.YtfapphlhkfddoaaGreatDoorChecked
import Derived.KernelRfl
import Derived.Shelf.SlicesG.Delete
import Derived.Shelf.SlicesG.Turned
import Derived.Shelf.SlicesG.Clone
import Derived.Shelf.SlLaysNS
import Derived.Shelf.SortG.Plain
import Derived.Shelf.SortG.SortNone
import Derived.Test.YtfapphlhkfddoaaGreatDoorH1
import Derived.Test.YtfapphlhkfddoaaGreatDoorEqual
namespace Go.Proofs.YtfapphlhkfddoaaGreatDoor.G
open Go.RowKit Go.Eng Go.Proofs Go.Proofs.YtfapphlhkfddoaaGreatDoor.Cut
set_option linter.unusedVariables false
set_option linter.unusedSimpArgs false
theorem putT_nil : putT [] = countedT 117 0 := rfl
theorem putT_cons (t : List UInt8) (ts : List (List UInt8)) : putT (t :: ts) = 112 :: (t ++ putT ts) := by
  unfold putT
  rw [List.reverse_cons, List.foldl_append]; rfl
def putE (l : List (List UInt8)) : List UInt8 × Int :=
  if 150 < l.length then ([], 1) else if l.any (fun t => !rightB t) = true then ([], 1) else if 20000 < (putT l).length then ([], 3) else if rightB (putT l) = true then (putT l, 0) else ([], 4)
theorem putT_len_le (n : Nat) : ∀ (l : List (List UInt8)), (∀ t ∈ l, t.length ≤ n) → (putT l).length ≤ (n + 1) * l.length + 9
  | [], _ => by simp [putT_nil, countedT, bytesOf_length]
  | a :: l, h => by
    have := putT_len_le n l (fun t ht => h t (List.mem_cons_of_mem _ ht))
    have := h a List.mem_cons_self
    rw [putT_cons, List.length_cons, List.length_append, List.length_cons, Nat.mul_add]; omega
theorem rights_of {l : List (List UInt8)} (h : ¬ l.any (fun t => !rightB t) = true) : ∀ t ∈ l, rightB t = true := by
  intro t ht
  cases hr : rightB t with
  | true => rfl
  | false => exact absurd (List.any_eq_true.2 ⟨t, ht, by rw [hr]; rfl⟩) h
theorem any_of_rights {l : List (List UInt8)} (h : ∀ t ∈ l, rightB t = true) : ¬ l.any (fun t => !rightB t) = true := by
  intro q
  obtain ⟨t, ht, hq⟩ := List.any_eq_true.1 q
  rw [h t ht] at hq; cases hq
theorem put_spec {l : List (List UInt8)} (hb : ∀ t ∈ l, t.length ≤ 140737488355328) : list_Put.f l = some (putE l) := by
  unfold list_Put.f putE
  by_cases h1 : 150 < l.length
  · rw [if_pos h1, if_pos h1]
  rw [if_neg h1, if_neg h1, given_of (fun t ht => ⟨_, right_spec (hb t ht)⟩)]
  have hrt : ∀ t ∈ l, rightT t = rightB t := fun t ht => by unfold rightT; rw [right_spec (hb t ht)]; rfl
  have hany : l.any (fun t => !rightT t) = l.any (fun t => !rightB t) := by
    rw [Bool.eq_iff_iff, List.any_eq_true, List.any_eq_true]
    constructor
    · rintro ⟨t, ht, q⟩; exact ⟨t, ht, by rw [← hrt t ht]; exact q⟩
    · rintro ⟨t, ht, q⟩; exact ⟨t, ht, by rw [hrt t ht]; exact q⟩
  rw [hany]
  by_cases h2 : l.any (fun t => !rightB t) = true
  · rw [if_pos h2, if_pos h2]
  rw [if_neg h2, if_neg h2]
  have hr := rights_of h2
  have hlen := putT_len_le 20000 l (fun t ht => (rightB_len (hr t ht)).2)
  rw [given_of (by omega)]
  by_cases h3 : 20000 < (putT l).length
  · rw [if_pos h3, if_pos h3]
  rw [if_neg h3, if_neg h3, right_spec (by omega), Option.bind_some]
  cases rightB (putT l) <;> rfl
theorem ok_putE {l : List (List UInt8)} (h1 : l.length ≤ 150) (h2 : ∀ t ∈ l, rightB t = true) (h3 : rightB (putT l) = true) : putE l = (putT l, 0) := by
  unfold putE
  rw [if_neg (by omega), if_neg (any_of_rights h2), if_neg (by have := (rightB_len h3).2; omega), if_pos h3]
/-- A row of right ones is right, if it is not too long nor too deep. -/
theorem full_put {left : Nat} : ∀ (l : List (List UInt8)), (∀ t ∈ l, full t left) → 1 ≤ left → full (putT l) (left + l.length)
  | [], _, h1 => by
    have h : full (countedT 117 0) 1 := by
      unfold full
      rw [specE_succ, List.drop_zero]
      show (if leafN 117 (bytesOf 0 8) ≠ 0 then _ else _ : Int × Int).1 = _
      have h : leafN 117 (bytesOf 0 8) = 9 := by unfold leafN; rw [bytesOf_length]; rfl
      rw [h, if_pos (by simp)]
      simp [countedT, bytesOf_length]
    exact full_mono h (by simpa using h1)
  | t :: l, hf, h1 => by
    have ih := full_put l (fun x hx => hf x (List.mem_cons_of_mem _ hx)) h1
    have ht := full_mono (hf t List.mem_cons_self) (show left ≤ left + l.length by omega)
    rw [putT_cons, List.length_cons, ← Nat.add_assoc]
    refine full_of (n := 2) (o := 1) (p := false) (h := [112]) (l := []) (xs := [t, putT l]) ?_ (by simp) rfl rfl (fun x hx => ?_) (fun hp => by cases hp)
    · unfold openT
      rw [if_neg (by decide), if_neg (by decide), if_pos (by decide)]
    · rcases List.mem_cons.1 hx with q | q
      · rw [q]; exact ht
      · rw [List.mem_singleton.1 q]; exact ih
theorem full_number (x : Int) : full (countedT 117 x) 1 := by
  unfold full
  rw [specE_succ, List.drop_zero]
  show (if leafN 117 (bytesOf x 8) ≠ 0 then _ else _ : Int × Int).1 = _
  have h : leafN 117 (bytesOf x 8) = 9 := by unfold leafN; rw [bytesOf_length]; rfl
  rw [h, if_pos (by simp)]
  simp [countedT, bytesOf_length]
/-- A short row of numbers is a term. -/
theorem put_numbers {l : List (List UInt8)} (h : ∀ t ∈ l, ∃ n, t = countedT 117 n) (hl : l.length ≤ 150) : putE l = (putT l, 0) := by
  have hf : ∀ t ∈ l, full t 1 := fun t ht => by obtain ⟨n, rfl⟩ := h t ht; exact full_number n
  have hlen := putT_len_le 9 l (fun t ht => by obtain ⟨n, rfl⟩ := h t ht; simp [countedT, bytesOf_length])
  exact ok_putE hl (fun t ht => full_right (full_mono (hf t ht) (by omega)) (by obtain ⟨n, rfl⟩ := h t ht; simp [countedT, bytesOf_length])) (full_right (full_mono (full_put l hf (by omega)) (by omega)) (by omega))
/-- What is made of parts. -/
def ofE (c : List UInt8) (xs : List (List UInt8)) : List UInt8 × Int := if xs.all rightB = true then wholeE (c ++ xs.flatten) else ([], 1)
theorem of_loop {xs : List (List UInt8)} (hx : ∀ x ∈ xs, x.length ≤ 140737488355328) (hn : xs.length ≤ 1000) (body : List UInt8 → Int → Option (((List UInt8) × Int) ⊕ ((List UInt8) ⊕ ((List UInt8) × Int))))
    (hb : ∀ c (i : Nat), body c (i : Int) = if h : i < xs.length then (if rightB xs[i] = true then roomM 1 (c.length + xs[i].length) (some (.inl (c ++ xs[i], ((i + 1 : Nat) : Int)))) else some (.inr (.inr ([], 1)))) else some (.inr (.inl c))) :
    ∀ k i c, i + k = xs.length → c.length ≤ 20000 * i + 1 → loopM (fun s : (List UInt8) × Int => body s.1 s.2) (c, (i : Int)) = some (if (xs.drop i).all rightB = true then .inl (c ++ (xs.drop i).flatten) else .inr ([], 1)) := by
  intro k
  induction k with
  | zero =>
    intro i c hi hc
    refine loop_end ?_
    show body c (i : Int) = _
    rw [hb, dif_neg (by omega), List.drop_of_length_le (by omega)]; simp
  | succ k ih =>
    intro i c hi hc
    have hil : i < xs.length := by omega
    rw [List.drop_eq_getElem_cons hil, List.all_cons]
    by_cases hr : rightB xs[i] = true
    · have hl := (rightB_len hr).2
      have := ih (i + 1) (c ++ xs[i]) (by omega) (by rw [List.length_append]; omega)
      rw [hr, Bool.true_and, List.flatten_cons, ← List.append_assoc]
      refine loop_step ?_ this
      show body c (i : Int) = _
      rw [hb, dif_pos hil, if_pos hr, room_of (by omega)]
    · rw [show rightB xs[i] = false by simpa using hr, Bool.false_and, if_neg (by simp)]
      refine loop_end ?_
      show body c (i : Int) = _
      rw [hb, dif_pos hil, if_neg hr]
theorem of_spec {c : UInt8} {xs : List (List UInt8)} (hx : ∀ x ∈ xs, x.length ≤ 140737488355328) (hn : xs.length ≤ 1000) : term_of.f [c] xs = some (ofE [c] xs) := by
  have hb : ∀ d (i : Nat), term_of.b1 xs d (i : Int) = if h : i < xs.length then (if rightB xs[i] = true then roomM 1 (d.length + xs[i].length) (some (.inl (d ++ xs[i], ((i + 1 : Nat) : Int)))) else some (.inr (.inr ([], 1)))) else some (.inr (.inl d)) := by
    intro d i
    unfold term_of.b1
    by_cases h : i < xs.length
    · rw [cond_t (by omega), dif_pos h, idxL_lt h, Option.bind_some, right_spec (hx _ (List.getElem_mem h)), Option.bind_some]
      by_cases hr : rightB xs[i] = true
      · rw [hr, if_pos rfl, wrap1 i (by omega)]; rfl
      · rw [if_neg hr, show rightB xs[i] = false by simpa using hr]; rfl
    · rw [cond_f (by omega), dif_neg h]
  have h := of_loop hx hn (term_of.b1 xs) hb xs.length 0 [c] (by omega) (by simp)
  unfold term_of.f ofE
  rw [show loopM (fun s147 : (List UInt8) × Int => term_of.b1 xs s147.1 s147.2) ([c], (0 : Int)) = _ from h, List.drop_zero]
  by_cases hr : xs.all rightB = true
  · rw [if_pos hr, if_pos hr]
    show (term_whole.f _).bind _ = _
    have hl : ∀ q : List (List UInt8), (∀ x ∈ q, rightB x = true) → q.flatten.length ≤ 20000 * q.length := by
      intro q
      induction q with
      | nil => intro _; simp
      | cons y q ih =>
        intro hq
        have := (rightB_len (hq y List.mem_cons_self)).2
        have := ih fun z hz => hq z (List.mem_cons_of_mem _ hz)
        simp only [List.flatten_cons, List.length_append, List.length_cons]; omega
    have := hl xs (fun x hx => List.all_eq_true.1 hr x hx)
    rw [whole_spec (by rw [List.length_append]; simp only [List.length_cons, List.length_nil]; omega)]; rfl
  · rw [if_neg hr, if_neg hr]; rfl
theorem has_eq (xs : List Int) (p : Int) (hl : xs.length ≤ 1000000000) : view_Has.f xs p = some (decide (p ∈ xs)) := by
  unfold view_Has.f slices_Contains_int_int.f
  by_cases h : p ∈ xs
  · obtain ⟨i, h1, h2, h3⟩ := index_eq xs p hl h
    rw [h3, decide_eq_true h]
    show some (decide ((i : Int) ≥ 0)) = _
    rw [decide_eq_true (by omega)]
  · have hL : slices_Index_int_int.f xs p = some (-1) := by
      unfold slices_Index_int_int.f
      have go : ∀ k i, i + k = xs.length → loopM (fun s91 : Int => slices_Index_int_int.b1 xs p s91) (i : Int) = some (Sum.inl ()) := by
        intro k
        induction k with
        | zero =>
          intro i hi
          refine loop_end ?_
          show slices_Index_int_int.b1 xs p (i : Int) = _
          unfold slices_Index_int_int.b1
          rw [cond_f (by omega)]
        | succ k ih =>
          intro i hi
          have hil : i < xs.length := by omega
          refine loop_step ?_ (ih (i + 1) (by omega))
          show slices_Index_int_int.b1 xs p (i : Int) = _
          unfold slices_Index_int_int.b1
          rw [cond_t (by omega), idxL_lt hil, Option.bind_some, show (p == xs[i]) = false from beq_eq_false_iff_ne.2 (fun e => h (by rw [e]; exact List.getElem_mem hil)), cond_false, wrap1 i (by omega)]
      rw [show loopM (fun s91 : Int => slices_Index_int_int.b1 xs p s91) (0 : Int) = _ from go xs.length 0 (by omega)]
      rfl
    rw [hL, decide_eq_false h]; rfl
/-- A view that is right. -/
def rightV (v : D_api_View) : Bool := rowB v.2 && (decide (v.1.2 ∈ v.2) && (decide (0 ≤ v.1.1) && decide (v.1.1 ≤ 2147483647)))
theorem viewRight_eq (v : D_api_View) (hl : v.2.length ≤ 1000000000) : view_Right.f v = some (rightV v) := by
  unfold view_Right.f rightV
  rw [row_eq v.2 hl, Option.bind_some]
  cases rowB v.2 with
  | false => rfl
  | true =>
    rw [cond_true, has_eq _ _ hl, Option.bind_some]
    unfold view_Right.k1
    simp only [ge_iff_le, Bool.cond_true_left, Bool.true_and]
    cases decide (v.1.2 ∈ v.2) <;> cases decide (0 ≤ v.1.1) <;> rfl
/-- The numbers of a view's message. -/
def viewNs (v : D_api_View) : List Int := [0, v.1.1, v.1.2, 0, 0, 0, (v.2.length : Int)] ++ v.2
def viewL (v : D_api_View) : List (List UInt8) := (viewNs v).map fun n => countedT 117 (IntKind.u64.wrap n)
theorem put_nil : putE [] = (countedT 117 0, 0) := put_numbers (l := []) (fun t ht => by simp at ht) (by simp)
theorem map_loop (ns : List Int) (hl : ns.length ≤ 1000000) (g : Int → List UInt8) (body : List (List UInt8) → Int → Option (((List (List UInt8)) × Int) ⊕ (List (List UInt8))))
    (hb : ∀ acc (i : Nat), i ≤ ns.length → body acc (i : Int) = if h : i < ns.length then roomM 16 (acc.length + 1) (some (.inl (acc ++ [g ns[i]], ((i + 1 : Nat) : Int)))) else some (.inr acc)) :
    loopM (fun s : (List (List UInt8)) × Int => body s.1 s.2) (([] : List (List UInt8)), (0 : Int)) = some (ns.map g) := by
  have go : ∀ k i, i + k = ns.length → loopM (fun s : (List (List UInt8)) × Int => body s.1 s.2) ((ns.take i).map g, (i : Int)) = some (ns.map g) := by
    intro k
    induction k with
    | zero =>
      intro i hi
      refine loop_end ?_
      show body ((ns.take i).map g) (i : Int) = _
      rw [hb _ i (by omega), dif_neg (by omega), List.take_of_length_le (by omega)]
    | succ k ih =>
      intro i hi
      have hil : i < ns.length := by omega
      refine loop_step ?_ (ih (i + 1) (by omega))
      show body ((ns.take i).map g) (i : Int) = _
      rw [hb _ i (by omega), dif_pos hil, room_of (by rw [List.length_map, List.length_take]; omega)]
      congr 3
      rw [← take_snoc hil, List.map_append]; rfl
  have := go ns.length 0 (by omega)
  simpa using this
theorem listRight_view {v : D_api_View} (hv : rightV v = true) : list_Right.f (0, v.1, (0, 0), 0, v.2, []) = some true := by
  unfold rightV at hv
  simp only [Bool.and_eq_true, decide_eq_true_eq] at hv
  obtain ⟨hr, hm, he, he2⟩ := hv
  have hrow := (rowB_iff v.2).1 hr
  have hlen : v.2.length ≤ 8 := by
    by_cases h : v.2.length ≤ 8
    · exact h
    · exfalso
      have hp := List.pairwise_iff_getElem.1 hrow.2.2
      have h8 : ∀ k (hk : k < v.2.length), (k : Int) + 1 ≤ v.2[k] := by
        intro k
        induction k with
        | zero => intro hk; have := (hrow.2.1 _ (List.getElem_mem hk)).1; omega
        | succ k ih => intro hk; have := ih (by omega); have := hp k (k + 1) (by omega) hk (by omega); omega
      have := h8 8 (by omega)
      have := (hrow.2.1 _ (List.getElem_mem (show 8 < v.2.length by omega))).2
      omega
  have hc := hrow.2.1 _ hm
  have hL : ∀ k i last, i + k = v.2.length → (∃ l, rowRes last (v.2.drop i) = .inl l) → loopM (fun s103 : Int × Int => list_Right.b1 (0, v.1, (0, 0), 0, v.2, []) s103.1 s103.2) (last, (i : Int)) = some (Sum.inl ()) := by
    intro k
    induction k with
    | zero =>
      intro i last hi _
      refine loop_end ?_
      show list_Right.b1 (0, v.1, (0, 0), 0, v.2, []) last (i : Int) = _
      unfold list_Right.b1
      rw [cond_f (by simp only; omega)]
    | succ k ih =>
      rintro i last hi ⟨l, hl⟩
      have hil : i < v.2.length := by omega
      rw [List.drop_eq_getElem_cons hil] at hl
      unfold rowRes at hl
      by_cases hcnd : v.2[i] ≤ last ∨ 8 < v.2[i]
      · rw [if_pos hcnd] at hl; cases hl
      rw [if_neg hcnd] at hl
      refine loop_step ?_ (ih (i + 1) v.2[i] (by omega) ⟨l, hl⟩)
      show list_Right.b1 (0, v.1, (0, 0), 0, v.2, []) last (i : Int) = _
      unfold list_Right.b1
      simp only
      rw [cond_t (by omega), idxL_lt hil, Option.bind_some, decide_eq_false (fun h => hcnd (.inl h)), cond_false, cond_f (fun h => hcnd (.inr h)), wrap1 i (by omega)]
  have h0 : ∃ l, rowRes 0 v.2 = .inl l := by
    unfold rowB at hr
    cases hq : rowRes 0 v.2 with
    | inl l => exact ⟨l, rfl⟩
    | inr b =>
      rw [hq] at hr
      simp only at hr
      rcases rowRes_iff v.2 0 with ⟨l, h1, _⟩ | ⟨h1, h2⟩ | h
      · rw [hq] at h1; cases h1
      · rw [hq] at h1; cases h1; cases hr
      · omega
  have h1 := hL v.2.length 0 0 (by omega) (by rw [List.drop_zero]; exact h0)
  unfold list_Right.f
  rw [show loopM (fun s103 : Int × Int => list_Right.b1 (0, v.1, (0, 0), 0, v.2, []) s103.1 s103.2) ((0 : Int), (0 : Int)) = _ from h1]
  show list_Right.k3 (0, v.1, (0, 0), 0, v.2, []) = _
  unfold list_Right.k3
  simp only
  rw [put_spec (by simp), put_nil]
  unfold list_right.f
  simp only [Option.bind_some]
  rw [decide_eq_true (show v.1.1 ≥ 0 from he), decide_eq_true he2, decide_eq_true (show v.1.2 ≥ 0 by omega), decide_eq_true hc.2]
  rfl
theorem viewL_num (v : D_api_View) : ∀ t ∈ viewL v, ∃ n, t = countedT 117 n := fun t ht => by
  obtain ⟨n, _, rfl⟩ := List.mem_map.1 ht
  exact ⟨_, rfl⟩
theorem viewL_len (v : D_api_View) : (viewL v).length = v.2.length + 7 := by simp [viewL, viewNs]
def viewE (v : D_api_View) : List UInt8 × Int := if rightV v = true then (putT (viewL v), 0) else ([], 1)
theorem viewTerm_eq (v : D_api_View) (hl : v.2.length ≤ 100) : view_Term.f v = some (viewE v) := by
  unfold view_Term.f viewE
  rw [show ((v.1.1, v.1.2), v.2) = v from rfl, viewRight_eq v (by omega), Option.bind_some]
  by_cases hv : rightV v = true
  · rw [if_pos hv, hv, Bool.not_true, cond_false]
    unfold list_Pack.f
    simp only
    rw [show ((0 : Int), (v.1.1, v.1.2), ((0 : Int), (0 : Int)), (0 : Int), v.2, ([] : List (List UInt8))) = (0, v.1, (0, 0), 0, v.2, []) from rfl, listRight_view hv, Option.bind_some, Bool.not_true, cond_false, room_of (by simp; omega)]
    have hnl : (viewNs v).length = v.2.length + 7 := by simp [viewNs]
    have hL := map_loop (viewNs v) (by omega) (fun n => countedT 117 (IntKind.u64.wrap n)) (list_Pack.b1 (0, v.1, (0, 0), 0, v.2, [])) fun acc i hi => by
      unfold list_Pack.b1
      simp only
      show cond (decide ((i : Int) < ((viewNs v).length : Int))) ((idxL (viewNs v) (i : Int)).bind _) _ = _
      by_cases h : i < (viewNs v).length
      · rw [cond_t (by omega), dif_pos h, idxL_lt h, Option.bind_some]
        unfold term_Number.f
        rw [Option.bind_some, wrap1 i (by omega)]
      · rw [cond_f (by omega), dif_neg h]
    rw [hL, Option.bind_some]
    unfold list_Pack.k2
    simp only
    rw [List.append_nil, room_of (by simp [viewNs]; omega)]
    rw [show (viewNs v).map (fun n => countedT 117 (IntKind.u64.wrap n)) = viewL v from rfl, put_spec (fun t ht => by obtain ⟨n, rfl⟩ := viewL_num v t ht; simp [countedT, bytesOf_length]), put_numbers (viewL_num v) (by rw [viewL_len]; omega)]
    rfl
  · rw [if_neg hv, show rightV v = false by simpa using hv]; rfl
end Go.Proofs.YtfapphlhkfddoaaGreatDoor.G
/- BlindApart, as1 it is reckoned. -/
namespace Go.Proofs.YtfapphlhkfddoaaGreatDoor.G
open Go.RowKit Go.Eng Go.Proofs Go.Proofs.YtfapphlhkfddoaaGreatDoor.Cut
set_option linter.unusedVariables false
set_option linter.unusedSimpArgs false

theorem full_pairT {t x : List UInt8} {left : Nat} (ht : full t left) (hx : full x left) : full (112 :: (t ++ x)) (left + 1) := by
  refine full_of (n := 2) (o := 1) (p := false) (h := [112]) (l := []) (xs := [t, x]) ?_ (by simp) rfl rfl (fun y hy => ?_) (fun hp => by cases hp)
  · unfold openT
    rw [if_neg (by decide), if_neg (by decide), if_pos (by decide)]
  · rcases List.mem_cons.1 hy with q | q
    · rw [q]; exact ht
    · rw [List.mem_singleton.1 q]; exact hx
theorem full_hash {x : List UInt8} {left : Nat} (hx : full x left) : full (104 :: x) (left + 1) := by
  refine full_of (n := 1) (o := 1) (p := false) (h := [104]) (l := []) (xs := [x]) ?_ (by simp) rfl rfl (fun y hy => ?_) (fun hp => by cases hp)
  · unfold openT
    simp
  · rw [List.mem_singleton.1 hy]; exact hx
theorem whole_of {s : List UInt8} (h : full s 400) (hl : s.length ≤ 20000) : wholeE s = (s, 0) := by
  unfold wholeE
  rw [if_neg (by omega), if_pos (full_right h hl)]
/-- The term of a view. -/
theorem view_full (v : D_api_View) (hl : v.2.length ≤ 100) : full (putT (viewL v)) (v.2.length + 8) ∧ (putT (viewL v)).length ≤ 10 * (v.2.length + 7) + 9 := by
  have hf : ∀ t ∈ viewL v, full t 1 := fun t ht => by obtain ⟨n, rfl⟩ := viewL_num v t ht; exact full_number n
  have hlen := putT_len_le 9 (viewL v) (fun t ht => by obtain ⟨n, rfl⟩ := viewL_num v t ht; simp [countedT, bytesOf_length])
  have hn := viewL_len v
  refine ⟨full_mono (full_put _ hf (by omega)) (by omega), by rw [hn] at hlen; exact hlen⟩
theorem group_of {v : D_api_View} {x : List UInt8} (hv : rightV v = true) (hl : v.2.length ≤ 100) (hx : full x 398) (hxl : x.length ≤ 1000) : blind_Group.f v x = some (104 :: 112 :: (putT (viewL v) ++ x), 0) := by
  obtain ⟨f, l⟩ := view_full v hl
  have f1 := full_mono f (show v.2.length + 8 ≤ 398 by omega)
  have fp := full_pairT f1 hx
  have fh := full_hash fp
  unfold blind_Group.f
  rw [show ((v.1.1, v.1.2), v.2) = v from rfl, viewTerm_eq v hl, Option.bind_some]
  unfold viewE
  rw [if_pos hv]
  generalize putT (viewL v) = t at f1 fp fh l
  have e1 : ofE [112] [t, x] = (112 :: (t ++ x), 0) := by
    unfold ofE
    rw [if_pos (by simp [full_right (full_mono f1 (show 398 ≤ 400 by omega)) (show t.length ≤ 20000 by omega), full_right (full_mono hx (show 398 ≤ 400 by omega)) (show x.length ≤ 20000 by omega)])]
    rw [show [112] ++ [t, x].flatten = 112 :: (t ++ x) by simp, whole_of (full_mono fp (by omega)) (by simp; omega)]
  have e2 : ofE [104] [112 :: (t ++ x)] = (104 :: 112 :: (t ++ x), 0) := by
    unfold ofE
    rw [if_pos (by simp [full_right (full_mono fp (show 399 ≤ 400 by omega)) (show (112 :: (t ++ x)).length ≤ 20000 by simp; omega)])]
    rw [show [104] ++ [112 :: (t ++ x)].flatten = 104 :: 112 :: (t ++ x) by simp, whole_of fh (by simp; omega)]
  have hp : term_Pair.f t x = some (112 :: (t ++ x), 0) := by
    unfold term_Pair.f
    rw [of_spec (by
      intro y hy
      rcases List.mem_cons.1 hy with q | q
      · rw [q]; omega
      · rw [List.mem_singleton.1 q]; omega) (by simp), e1]; rfl
  have hh : term_Hash.f (112 :: (t ++ x)) = some (104 :: 112 :: (t ++ x), 0) := by
    unfold term_Hash.f
    rw [of_spec (by
      intro y hy
      rw [List.mem_singleton.1 hy]; simp; omega) (by simp), e2]; rfl
  show (term_Pair.f t x).bind _ = _
  rw [hp, Option.bind_some]
  show (term_Hash.f (112 :: (t ++ x))).bind _ = _
  rw [hh]; rfl
end Go.Proofs.YtfapphlhkfddoaaGreatDoor.G
/- What stands in a term: parts.Of, and what it leans on. -/
namespace Go.Proofs.YtfapphlhkfddoaaGreatDoor.G
open Go.RowKit Go.Eng Go.Proofs Go.Proofs.YtfapphlhkfddoaaGreatDoor.Cut
set_option linter.unusedVariables false
set_option maxRecDepth 20000
variable {ok : Nat → Prop} {w0 w : World} {L : List Eng.Item}

def five (y : Int) : Prop := y = 107 ∨ y = 104 ∨ y = 112 ∨ y = 115 ∨ y = 120
instance (y : Int) : Decidable (five y) := by unfold five; infer_instance
end Go.Proofs.YtfapphlhkfddoaaGreatDoor.G
/- One who knows terms: what is learnt. -/
namespace Go.Proofs.YtfapphlhkfddoaaGreatDoor.G
open Go.RowKit Go.Eng Go.Proofs Go.Proofs.YtfapphlhkfddoaaGreatDoor.Cut
set_option linter.unusedVariables false
set_option linter.unusedSimpArgs false
set_option maxRecDepth 20000
variable {ok : Nat → Prop} {w0 w : World} {L R : List Eng.Item}

/-! All at once. -/
end Go.Proofs.YtfapphlhkfddoaaGreatDoor.G
/- One who knows terms, made of a row of them. -/
namespace Go.Proofs.YtfapphlhkfddoaaGreatDoor.G
open Go.RowKit Go.Eng Go.Proofs Go.Proofs.YtfapphlhkfddoaaGreatDoor.Cut
set_option linter.unusedVariables false
set_option linter.unusedSimpArgs false
set_option maxRecDepth 20000
variable {ok : Nat → Prop} {w0 w : World} {L R : List Eng.Item}

end Go.Proofs.YtfapphlhkfddoaaGreatDoor.G
/- What can be made of what is known. -/
namespace Go.Proofs.YtfapphlhkfddoaaGreatDoor.G
open Go.RowKit Go.Eng Go.Proofs Go.Proofs.YtfapphlhkfddoaaGreatDoor.Cut
set_option linter.unusedVariables false
set_option linter.unusedSimpArgs false
set_option maxRecDepth 20000
variable {ok : Nat → Prop} {w0 w : World} {L R : List Eng.Item}

abbrev Tx1 : Type := List UInt8
end Go.Proofs.YtfapphlhkfddoaaGreatDoor.G
/- The shelf's laying of a generic library function at this program: as1 the kit's command spells it. -/
namespace Go.Proofs
open Go.Shelf
end Go.Proofs
/- The shelf's laying of a generic library function at this program: as1 the kit's command spells it. -/
namespace Go.Proofs
open Go.Shelf
end Go.Proofs
/- The shelf's laying of a generic library function at this program: as1 the kit's command spells it. -/
namespace Go.Proofs
open Go.Shelf
end Go.Proofs
/- A row of terms of one's own: where one stands, without one of them. -/
namespace Go.Proofs.YtfapphlhkfddoaaGreatDoor.G
open Go.RowKit Go.Eng Go.Proofs Go.Proofs.YtfapphlhkfddoaaGreatDoor.Cut Go.Sort
set_option linter.unusedVariables false
set_option linter.unusedSimpArgs false
set_option maxRecDepth 20000
variable {ok : Nat → Prop} {w0 w : World} {L R A B : List Eng.Item}

end Go.Proofs.YtfapphlhkfddoaaGreatDoor.G
/- What can be made: the walk. -/
namespace Go.Proofs.YtfapphlhkfddoaaGreatDoor.G
open Go.RowKit Go.Eng Go.Proofs Go.Proofs.YtfapphlhkfddoaaGreatDoor.Cut Go.Sort
set_option linter.unusedVariables false
set_option linter.unusedSimpArgs false
set_option maxRecDepth 20000
variable {ok : Nat → Prop} {w0 w : World} {L R : List Eng.Item}

variable {g bm bq n : Nat} {ve : Value} {M : List Tx1} {E : List (List Tx1)}
end Go.Proofs.YtfapphlhkfddoaaGreatDoor.G
/- The shelf's laying of a generic library function at this program: as1 the kit's command spells it. -/
namespace Go.Proofs
open Go.Shelf
end Go.Proofs
/- All that can be taken out of terms that are no pairs, no seals and no signatures: themselves. -/
namespace Go.Proofs.YtfapphlhkfddoaaGreatDoor.G
open Go.RowKit Go.Eng Go.Proofs Go.Proofs.YtfapphlhkfddoaaGreatDoor.Cut Go.Sort
set_option linter.unusedVariables false
set_option linter.unusedSimpArgs false
set_option maxRecDepth 20000
variable {ok : Nat → Prop} {w0 w : World} {L R : List Eng.Item}

end Go.Proofs.YtfapphlhkfddoaaGreatDoor.G
/- Contracts of those who know terms, in the printed texts' words. -/
namespace Go.Proofs.YtfapphlhkfddoaaGreatDoor.G
open Go.RowKit Go.Eng Go.Proofs Go.Proofs.YtfapphlhkfddoaaGreatDoor.Cut
set_option linter.unusedVariables false

end Go.Proofs.YtfapphlhkfddoaaGreatDoor.G
/- Walks, printed by a program of this proof's own. -/
namespace Go.Proofs.YtfapphlhkfddoaaGreatDoor.G
open Go.RowKit Go.Eng Go.Proofs
set_option linter.unusedVariables false
set_option maxRecDepth 20000
/-! gemot/gemotlaw15.BlindSecret -/
end Go.Proofs.YtfapphlhkfddoaaGreatDoor.G
/- Walks, printed by a program of this proof's own. -/
namespace Go.Proofs.YtfapphlhkfddoaaGreatDoor.G
open Go.RowKit Go.Eng Go.Proofs
set_option linter.unusedVariables false
set_option maxRecDepth 20000
/-! gemot/tree.Build -/
noncomputable def tree_Build.b1 (y109 : List Int) (v130 : List UInt8) (v131 : Int) : Option (((List UInt8) × Int) ⊕ ((List UInt8) ⊕ ((List UInt8) × Int))) := cond (decide (v131 < (y109.length : Int))) ((idxL y109 v131).bind fun y177 => (tree_Join.f v130 y177).bind fun y183 => cond (y183.2 != (0 : Int)) (some (.inr (Sum.inr (([] : List UInt8), y183.2)))) (some (.inl (y183.1, (IntKind.i64.wrap (v131 + (1 : Int))))))) (some (.inr (Sum.inl v130)))
noncomputable def tree_Build.k2 (v106 : List UInt8) : Option ((List UInt8) × Int) := some (v106, (0 : Int))
noncomputable def tree_Build.f (x0 : List Int) : Option ((List UInt8) × Int) := (view_Row.f x0).bind fun y6 => cond (!y6) (some (([] : List UInt8), (1 : Int))) ((idxL x0 (0 : Int)).bind fun y13 => (tree_Leaf.f y13).bind fun y19 => (slcM x0 (1 : Int) (x0.length : Int)).bind fun y109 => (loopM (fun s173 : (List UInt8) × Int => tree_Build.b1 y109 s173.1 s173.2) (y19.1, (0 : Int))).bind (Sum.elim (fun (o171 : (List UInt8)) => tree_Build.k2 o171) (fun (o172 : (List UInt8) × Int) => some o172)))
set_option maxHeartbeats 4000000 in
theorem tree_Build_ok {ok : Nat → Prop} {w : World} {u1 : Value} {x0 : List Int} {r : (List UInt8) × Int} (hu2 : slR (tInt .i64) w ok u1 x0) (h : tree_Build.f x0 = some r) :
    Calls Tryz.prog 62 #[u1] w fun e w' => ∃ v, e = .returned v ∧ (v = .tuple #[.string (bs r.1), .int .i64 r.2] ∧ Bel w.heap.size w w') := by
  have H : Eng.Own ok w w [] := Eng.Own.nil ok w
  obtain ⟨A3, c4, rfl, H⟩ := H.arg rfl hu2
  unfold tree_Build.f at h
  refine enterN (args := [.slice A3 x0.length c4]) Tryz.func62 rfl Tryz.ntmps62 rfl rfl ?_
  refine nc_seq ?_
  refine nc ?_
  refine nc_seq ?_
  refine nc_seq ?_
  refine nc ?_
  obtain ⟨y6, hy7, h⟩ := bindS h
  refine call_rule (by kernel_rfl) (view_Row_ok (H.dat 0 rfl) hy7) fun v9 w8 ⟨hv10, hb11⟩ => ?_
  subst hv10
  replace H := H.call hb11
  refine nc_cond rfl (fun hc12 => ?_) (fun hc12 => ?_)
  · replace h := condT hc12 h
    refine nc_seq ?_
    refine nc ?_
    refine nc ?_
    replace h := Option.some.inj h
    subst h
    exact ret_inA [.string (bs ([] : List UInt8)), .int .i64 1] ⟨_, rfl, ⟨rfl, H.frame⟩⟩
  · replace h := condF hc12 h
    refine nc ?_
    refine nc_seq ?_
    refine nc ?_
    obtain ⟨y13, hx14, h⟩ := bindS h
    obtain ⟨a15, cs16, rfl, hR17, H⟩ := H.elemI 0 rfl hx14
    obtain rfl : cs16 = [.int .i64 y13] := hR17
    refine idxA_rule (e := 3) 1 _ (by kernel_rfl) (by kernel_rfl) (idxL_some hx14).1 (idxL_some hx14).2.1 ?_
    refine own_loadD H 0 rfl 0 (by kernel_rfl) rfl ?_
    obtain ⟨y19, hy20, h⟩ := bindS h
    refine call_rule (by kernel_rfl) (tree_Leaf_ok hy20) fun v22 w21 ⟨hv23, hb24⟩ => ?_
    subst hv23
    replace H := H.call hb24
    refine nc_cut (fun e w107 => ∃ (v106 : List UInt8), tree_Build.k2 v106 = some r ∧ e = [(4, .string (bs v106))] ∧ Eng.Own ok w w107 []) ?_ ?_
    · skip
      refine nc_seq ?_
      refine nc ?_
      obtain ⟨y109, hx110, h⟩ := bindS h
      obtain ⟨A111, c112, hp113, H⟩ := H.pieceD 1 rfl hx110
      have hn115 := H.slLen 2 rfl
      refine pieceI_rule (e := 3) 1 (1 : Int) (x0.length : Int) (by kernel_rfl) (by kernel_rfl) ⟨_, rfl⟩ rfl hx110 hn115 hp113 ?_
      refine nc_block ?_
      obtain ⟨o163, hL164, hO165⟩ := bindS h
      obtain ⟨n166, hL164⟩ := loopS hL164
      refine nc ?_
      refine loop_ruleA (fun k e w170 => ∃ (v130 : List UInt8) (v131 : Int), iterM (fun s173 : (List UInt8) × Int => tree_Build.b1 y109 s173.1 s173.2) k (v130, v131) = some o163 ∧ e = [(4, .string (bs v130)), (19, .slice A111 y109.length c112), (20, .int .i64 (y109.length : Int)), (21, .int .i64 v131)] ∧ Eng.Own ok w w170 [.dat (dSl (tInt .i64) (.slice A111 y109.length c112) y109)]) ⟨_, _, hL164, rfl, H.pickL [0] rfl⟩ ?_
      rintro k175 _ w174 ⟨v130, v131, hL164, rfl, H⟩
      obtain ⟨k169, rfl, q167, h, hq168⟩ := iterS hL164
      replace h : tree_Build.b1 y109 v130 v131 = some q167 := h
      unfold tree_Build.b1 at h
      refine nc_seq ?_
      refine nc ?_
      refine nc_seq ?_
      refine nc_cond rfl (fun hc176 => ?_) (fun hc176 => ?_)
      · replace h := condT hc176 h
        refine nc ?_
        refine nc_seq ?_
        refine nc_block ?_
        refine nc_seq ?_
        refine nc ?_
        obtain ⟨y177, hx178, h⟩ := bindS h
        obtain ⟨a179, cs180, rfl, hR181, H⟩ := H.elemI 0 rfl hx178
        obtain rfl : cs180 = [.int .i64 y177] := hR181
        refine idxA_rule (e := 3) 1 _ (by kernel_rfl) (by kernel_rfl) (idxL_some hx178).1 (idxL_some hx178).2.1 ?_
        refine own_loadD H 0 rfl 0 (by kernel_rfl) rfl ?_
        refine nc_seq ?_
        refine nc ?_
        obtain ⟨y183, hy184, h⟩ := bindS h
        refine call_rule (by kernel_rfl) (tree_Join_ok hy184) fun v186 w185 ⟨hv187, hb188⟩ => ?_
        subst hv187
        replace H := H.call hb188
        refine nc_seq ?_
        refine nc ?_
        refine nc_cond rfl (fun hc189 => ?_) (fun hc189 => ?_)
        · replace h := condT hc189 h
          refine nc_seq ?_
          refine nc ?_
          refine nc ?_
          cases h
          replace hq168 : (Sum.inr (([] : List UInt8), y183.2)) = o163 := hq168
          subst hq168
          have h := hO165
          try dsimp only [Sum.elim_inl, Sum.elim_inr] at h
          replace h := Option.some.inj h
          subst h
          exact ret_inA [.string (bs ([] : List UInt8)), .int .i64 y183.2] ⟨_, rfl, ⟨rfl, H.frame⟩⟩
        · replace h := condF hc189 h
          refine nc ?_
          refine nc ?_
          cases h
          exact again_inA ⟨_, _, hq168, rfl, H.pickL [1] rfl⟩
      · replace h := condF hc176 h
        refine nc ?_
        cases h
        replace hq168 : (Sum.inl v130) = o163 := hq168
        subst hq168
        have h := hO165
        try dsimp only [Sum.elim_inl, Sum.elim_inr] at h
        exact cut_inA ⟨_, h, rfl, H.pickL [] rfl⟩
    · rintro _ w190 ⟨v106, h, rfl, H⟩
      unfold tree_Build.k2 at h
      refine nc_seq ?_
      refine nc ?_
      refine nc ?_
      replace h := Option.some.inj h
      subst h
      exact ret_inA [.string (bs v106), .int .i64 0] ⟨_, rfl, ⟨rfl, H.frame⟩⟩
/-! gemot/rekey.mark -/
noncomputable def rekey_mark.f (x0 : List UInt8) (x1 : Int) : Option ((List UInt8)) := (term_Number.f (IntKind.u64.wrap x1)).bind fun y1 => (term_Pair.f x0 y1).bind fun y7 => (term_Hash.f y7.1).bind fun y13 => some y13.1
set_option maxHeartbeats 4000000 in
theorem rekey_mark_ok {ok : Nat → Prop} {w : World} {x0 : List UInt8} {x1 : Int} {r : (List UInt8)} (h : rekey_mark.f x0 x1 = some r) :
    Calls Tryz.prog 58 #[.string (bs x0), .int .i64 x1] w fun e w' => ∃ v, e = .returned v ∧ (v = .string (bs r) ∧ Bel w.heap.size w w') := by
  have H : Eng.Own ok w w [] := Eng.Own.nil ok w
  unfold rekey_mark.f at h
  refine enterN (args := [.string (bs x0), .int .i64 x1]) Tryz.func58 rfl Tryz.ntmps58 rfl rfl ?_
  refine nc_seq ?_
  refine nc ?_
  refine nc_seq ?_
  refine nc ?_
  obtain ⟨y1, hy2, h⟩ := bindS h
  refine call_rule (by kernel_rfl) (term_Number_ok hy2) fun v4 w3 ⟨hv5, hb6⟩ => ?_
  subst hv5
  replace H := H.call hb6
  obtain ⟨y7, hy8, h⟩ := bindS h
  refine call_rule (by kernel_rfl) (term_Pair_ok (ok := fun _ => False) hy8) fun v10 w9 ⟨hv11, hb12⟩ => ?_
  subst hv11
  replace H := H.call hb12
  refine nc_seq ?_
  refine nc ?_
  obtain ⟨y13, hy14, h⟩ := bindS h
  refine call_rule (by kernel_rfl) (term_Hash_ok (ok := fun _ => False) hy14) fun v16 w15 ⟨hv17, hb18⟩ => ?_
  subst hv17
  replace H := H.call hb18
  refine nc_seq ?_
  refine nc ?_
  refine nc ?_
  replace h := Option.some.inj h
  subst h
  exact ret_inA [.string (bs y13.1)] ⟨_, rfl, ⟨rfl, H.frame⟩⟩
/-! gemot/gemotlaw16.pick -/
noncomputable def gemotlaw16_pick.k1 (x1 : Int) (v2 : Int) : Option (Int) := (remM v2 x1).bind fun _ => some (v2.tmod x1)
noncomputable def gemotlaw16_pick.f (x0 : Int) (x1 : Int) : Option (Int) := cond (decide (x0 < (0 : Int))) (gemotlaw16_pick.k1 x1 (IntKind.i64.wrap (0 - (IntKind.i64.wrap (x0 + (1 : Int)))))) (gemotlaw16_pick.k1 x1 x0)
set_option maxHeartbeats 4000000 in
theorem gemotlaw16_pick_ok {ok : Nat → Prop} {w : World} {x0 : Int} {x1 : Int} {r : Int} (h : gemotlaw16_pick.f x0 x1 = some r) :
    Calls Tryz.prog 24 #[.int .i64 x0, .int .i64 x1] w fun e w' => ∃ v, e = .returned v ∧ (v = .int .i64 r ∧ Bel w.heap.size w w') := by
  have H : Eng.Own ok w w [] := Eng.Own.nil ok w
  unfold gemotlaw16_pick.f at h
  refine enterN (args := [.int .i64 x0, .int .i64 x1]) Tryz.func24 rfl Tryz.ntmps24 rfl rfl ?_
  refine nc_seq ?_
  refine nc ?_
  refine nc_cut (fun e w3 => ∃ (v2 : Int), gemotlaw16_pick.k1 x1 v2 = some r ∧ e = [(0, .int .i64 v2), (1, .int .i64 x1)] ∧ Eng.Own ok w w3 []) ?_ ?_
  · skip
    refine nc_seq ?_
    refine nc ?_
    refine nc_cond rfl (fun hc5 => ?_) (fun hc5 => ?_)
    · replace h := condT hc5 h
      refine nc ?_
      exact cut_inA ⟨_, h, rfl, H.pickL [] rfl⟩
    · replace h := condF hc5 h
      refine nc ?_
      exact cut_inA ⟨_, h, rfl, H.pickL [] rfl⟩
  · rintro _ w6 ⟨v2, h, rfl, H⟩
    unfold gemotlaw16_pick.k1 at h
    refine nc_seq ?_
    refine nc ?_
    obtain ⟨y7, hy8, h⟩ := bindS h
    obtain ⟨hy8b, rfl⟩ := remS hy8
    refine rem_rule (fun _ => hy8b) ?_
    refine nc ?_
    replace h := Option.some.inj h
    subst h
    exact ret_inA [.int .i64 (v2.tmod x1)] ⟨_, rfl, ⟨rfl, H.frame⟩⟩
/-! gemot/gemotlaw16.of -/
noncomputable def gemotlaw16_of.k1 (x0 : Int) (x1 : Int) (v287 : Int) (v427 : List Int) : Option (((List Int) × Int) ⊕ (List Int)) := some (.inl (v427, (IntKind.i64.wrap (v287 + (1 : Int)))))
noncomputable def gemotlaw16_of.b2 (x0 : Int) (x1 : Int) (v283 : List Int) (v287 : Int) : Option (((List Int) × Int) ⊕ (List Int)) := cond (decide (v287 ≤ (8 : Int))) ((gemotlaw16_pick.f x0 (256 : Int)).bind fun y433 => (shrM .i64 y433 (IntKind.i64.wrap (v287 - (1 : Int)))).bind fun _ => cond ((andI .i64 (y433.fdiv (2 ^ min ((IntKind.i64.wrap (v287 - (1 : Int)))).toNat IntKind.i64.bits)) (1 : Int)) == (1 : Int)) (roomM 8 (v283.length + 1) (gemotlaw16_of.k1 x0 x1 v287 (v283 ++ [v287]))) (gemotlaw16_of.k1 x0 x1 v287 v283)) (some (.inr v283))
noncomputable def gemotlaw16_of.k3 (x1 : Int) (v462 : List Int) : Option (D_api_View) := (gemotlaw16_pick.f x1 (100 : Int)).bind fun y476 => (idxL v462 (0 : Int)).bind fun y482 => some ((y476, y482), v462)
noncomputable def gemotlaw16_of.k4 (x1 : Int) (v226 : List Int) : Option (D_api_View) := cond ((v226.length : Int) == (0 : Int)) (gemotlaw16_of.k3 x1 ([(3 : Int)] : List Int)) (gemotlaw16_of.k3 x1 v226)
noncomputable def gemotlaw16_of.f (x0 : Int) (x1 : Int) : Option (D_api_View) := (loopM (fun s403 : (List Int) × Int => gemotlaw16_of.b2 x0 x1 s403.1 s403.2) (([] : List Int), (1 : Int))).bind (fun (o401 : (List Int)) => gemotlaw16_of.k4 x1 o401)
set_option maxHeartbeats 4000000 in
theorem gemotlaw16_of_ok {ok : Nat → Prop} {w : World} {x0 : Int} {x1 : Int} {r : D_api_View} (h : gemotlaw16_of.f x0 x1 = some r) :
    Calls Tryz.prog 20 #[.int .i64 x0, .int .i64 x1] w fun e w' => ∃ v, e = .returned v ∧ (∃ (u0_ : Value), v = .agg #[.int .i64 r.1.1, .int .i64 r.1.2, u0_] ∧ slR (tInt .i64) w' (fun b => ok b ∨ w.heap.size ≤ b) u0_ r.2 ∧ Bel w.heap.size w w') := by
  have H : Eng.Own ok w w [] := Eng.Own.nil ok w
  unfold gemotlaw16_of.f at h
  refine enterN (args := [.int .i64 x0, .int .i64 x1]) Tryz.func20 rfl Tryz.ntmps20 rfl rfl ?_
  refine nc_seq ?_
  refine nc ?_
  refine own_alloc (z := .agg #[.int .i64 0, .int .i64 0, .slice none 0 0]) H (by kernel_rfl) [.int .i64 0, .int .i64 0, .slice none 0 0] rfl fun g2 w3 H => ?_
  refine nc_seq ?_
  refine nc ?_
  refine nc_cut (fun e w230 => ∃ (A227 : Option Addr) (c228 : Nat) (cs229 : List Value) (v226 : List Int), gemotlaw16_of.k4 x1 v226 = some r ∧ e = [(1, .int .i64 x1), (4, .pointer (some ⟨g2, 0, none⟩)), (5, .slice A227 v226.length c228)] ∧ Eng.Own ok w w230 [.blk g2 [.int .i64 0, .int .i64 0, .slice none 0 0] 38, .dat (dRows (tInt .i64) v226 cs229), .row (.slice A227 v226.length c228) 3 1 v226.length cs229]) ?_ ?_
  · skip
    refine nc_seq ?_
    refine nc ?_
    refine nc_block ?_
    replace H := H.nilRowD (tInt .i64) 3
    obtain ⟨o393, hL394, hO395⟩ := bindS h
    obtain ⟨n396, hL394⟩ := loopS hL394
    refine nc ?_
    refine loop_ruleA (fun k e w400 => ∃ (A284 : Option Addr) (c285 : Nat) (cs286 : List Value) (v283 : List Int) (v287 : Int), iterM (fun s403 : (List Int) × Int => gemotlaw16_of.b2 x0 x1 s403.1 s403.2) k (v283, v287) = some o393 ∧ e = [(0, .int .i64 x0), (1, .int .i64 x1), (4, .pointer (some ⟨g2, 0, none⟩)), (5, .slice A284 v283.length c285), (6, .int .i64 v287)] ∧ Eng.Own ok w w400 [.blk g2 [.int .i64 0, .int .i64 0, .slice none 0 0] 38, .dat (dRows (tInt .i64) v283 cs286), .row (.slice A284 v283.length c285) 3 1 v283.length cs286]) ⟨none, 0, [], _, _, hL394, rfl, H.pickL [2, 0, 1] rfl⟩ ?_
    rintro k405 _ w404 ⟨A284, c285, cs286, v283, v287, hL394, rfl, H⟩
    obtain ⟨k399, rfl, q397, h, hq398⟩ := iterS hL394
    replace h : gemotlaw16_of.b2 x0 x1 v283 v287 = some q397 := h
    unfold gemotlaw16_of.b2 at h
    refine nc_seq ?_
    refine nc_seq ?_
    refine nc ?_
    refine nc_cond rfl (fun hc406 => ?_) (fun hc406 => ?_)
    · replace h := condT hc406 h
      refine nc ?_
      refine nc_cut (fun e w431 => ∃ (A428 : Option Addr) (c429 : Nat) (cs430 : List Value) (v427 : List Int), gemotlaw16_of.k1 x0 x1 v287 v427 = some q397 ∧ e = [(0, .int .i64 x0), (1, .int .i64 x1), (4, .pointer (some ⟨g2, 0, none⟩)), (5, .slice A428 v427.length c429), (6, .int .i64 v287)] ∧ Eng.Own ok w w431 [.blk g2 [.int .i64 0, .int .i64 0, .slice none 0 0] 38, .dat (dRows (tInt .i64) v427 cs430), .row (.slice A428 v427.length c429) 3 1 v427.length cs430]) ?_ ?_
      · skip
        refine nc_block ?_
        refine nc_seq ?_
        refine nc ?_
        obtain ⟨y433, hy434, h⟩ := bindS h
        refine call_rule (by kernel_rfl) (gemotlaw16_pick_ok (ok := fun _ => False) hy434) fun v436 w435 ⟨hv437, hb438⟩ => ?_
        subst hv437
        replace H := H.call hb438
        obtain ⟨y439, hy440, h⟩ := bindS h
        obtain ⟨hy440b, rfl⟩ := shrS hy440
        refine shr_rule (fun _ => hy440b) ?_
        refine nc_cond rfl (fun hc441 => ?_) (fun hc441 => ?_)
        · replace h := condT hc441 h
          refine nc ?_
          refine own_buildSlice (e := 3) (sz := 1) (z := .int .i64 0) (cs := [.int .i64 v287]) H (by kernel_rfl) (by kernel_rfl) (by kernel_rfl) rfl rfl rfl rfl fun g443 w444 H => ?_
          obtain ⟨hr445, h⟩ := roomS h
          refine own_append1 (k := (tInt .i64)) (z := .int .i64 0) (x := v287) 8 H 2 1 rfl rfl rfl rfl (by kernel_rfl) (by kernel_rfl) rfl rfl hr445 rfl fun z446 cs447 w448 H => ?_
          obtain ⟨A449, c450, rfl, _, _⟩ := H.rowSl 2 rfl
          exact cut_inA ⟨A449, c450, cs447, _, h, rfl, H.pickL [0, 1, 2] rfl⟩
        · replace h := condF hc441 h
          refine nc ?_
          exact cut_inA ⟨A284, c285, cs286, _, h, rfl, H.pickL [0, 1, 2] rfl⟩
      · rintro _ w452 ⟨A428, c429, cs430, v427, h, rfl, H⟩
        unfold gemotlaw16_of.k1 at h
        refine nc ?_
        cases h
        exact again_inA ⟨A428, c429, cs430, _, _, hq398, rfl, H.pickL [0, 1, 2] rfl⟩
    · replace h := condF hc406 h
      refine nc ?_
      cases h
      replace hq398 : v283 = o393 := hq398
      subst hq398
      have h := hO395
      try dsimp only [Sum.elim_inl, Sum.elim_inr] at h
      exact cut_inA ⟨A284, c285, cs286, _, h, rfl, H.pickL [0, 1, 2] rfl⟩
  · rintro _ w453 ⟨A227, c228, cs229, v226, h, rfl, H⟩
    unfold gemotlaw16_of.k4 at h
    refine nc_cut (fun e w466 => ∃ (A463 : Option Addr) (c464 : Nat) (cs465 : List Value) (v462 : List Int), gemotlaw16_of.k3 x1 v462 = some r ∧ e = [(1, .int .i64 x1), (4, .pointer (some ⟨g2, 0, none⟩)), (5, .slice A463 v462.length c464)] ∧ Eng.Own ok w w466 [.blk g2 [.int .i64 0, .int .i64 0, .slice none 0 0] 38, .dat (dRows (tInt .i64) v462 cs465), .row (.slice A463 v462.length c464) 3 1 v462.length cs465]) ?_ ?_
    · skip
      refine nc_seq ?_
      refine nc ?_
      refine nc_cond rfl (fun hc468 => ?_) (fun hc468 => ?_)
      · replace h := condT hc468 h
        refine nc ?_
        refine own_buildSlice (e := 3) (sz := 1) (z := .int .i64 0) (cs := [.int .i64 3]) H (by kernel_rfl) (by kernel_rfl) (by kernel_rfl) rfl rfl rfl rfl fun g470 w471 H => ?_
        have hr := H.addDat (dRows (tInt .i64) ([(3 : Int)] : List Int) [.int .i64 3]) ⟨_, _, rfl, rfl, rfl⟩
        replace H := (hr.pickL (1 :: 0 :: (List.range 3).map (· + 2)) rfl).blkRow (n := 1) (sz := 1) rfl (by decide)
        exact cut_inA ⟨some ⟨g470, 0, none⟩, 1, [.int .i64 3], _, h, rfl, H.pickL [2, 1, 0] rfl⟩
      · replace h := condF hc468 h
        refine nc ?_
        exact cut_inA ⟨A227, c228, cs229, _, h, rfl, H.pickL [0, 1, 2] rfl⟩
    · rintro _ w475 ⟨A463, c464, cs465, v462, h, rfl, H⟩
      unfold gemotlaw16_of.k3 at h
      refine nc_seq ?_
      obtain ⟨y476, hy477, h⟩ := bindS h
      obtain ⟨y482, hx483, h⟩ := bindS h
      obtain ⟨a484, _, rfl, _, _⟩ := H.rowElem (k := (tInt .i64)) 2 1 rfl rfl rfl hx483
      refine nc ?_
      refine draw_ruleB [.dat (dRows (tInt .i64) v462 cs465), .row (.slice (some a484) v462.length c464) 3 1 v462.length cs465] [] (fun j => undef) [1000, 1000, 1000, 1000, 1000, 1000, 1000, 1000, 1000] (by kernel_rfl) (by kernel_rfl) H (by repeat first | exact List.nil_sublist _ | apply List.Sublist.cons_cons | apply List.Sublist.cons) ?_
      refine c_call (.int .i64 y476) (by kernel_rfl) (fun _ _ H => gemotlaw16_pick_ok (ok := fun _ => False) hy477) ?_
      refine ⟨(by repeat first | exact List.nil_sublist _ | apply List.Sublist.cons_cons | apply List.Sublist.cons), ?_⟩
      refine c_idxA (e := 3) 1 _ (by kernel_rfl) (by kernel_rfl) (idxL_some hx483).1 (idxL_some hx483).2.1 ?_
      refine c_rowLoad (k := (tInt .i64)) (0 : Int) 1 0 0 rfl rfl rfl hx483 (by kernel_rfl) (fun _ _ cs hR => (show cs = [.int .i64 y482] → cs[0]? = some (.int .i64 y482) from fun h => by subst h; rfl) (by exact hR)) ?_
      refine c_storeB (m := 3) 0 rfl (by kernel_rfl) [.int .i64 y476, .int .i64 y482, .slice (some a484) v462.length c464] rfl rfl rfl rfl ?_
      refine ⟨(by repeat first | exact List.nil_sublist _ | apply List.Sublist.cons_cons | apply List.Sublist.cons), ?_⟩
      intro w487 H
      replace H := H.freeze (k := (tInt .i64)) 2 1 rfl rfl
      refine nc ?_
      replace h := Option.some.inj h
      subst h
      exact ret_inA [.agg #[.int .i64 y476, .int .i64 y482, .slice (some a484) v462.length c464]] ⟨_, rfl, ⟨_, rfl, H.outD 2 rfl, H.frame⟩⟩ (And.intro (Exists.intro _ (And.intro rfl (H.resA (m := 3) 0 rfl (by kernel_rfl) (by kernel_rfl) rfl))) trivial)
end Go.Proofs.YtfapphlhkfddoaaGreatDoor.G
/- Walks, printed by a program of this proof's own. -/
namespace Go.Proofs.YtfapphlhkfddoaaGreatDoor.G
open Go.RowKit Go.Eng Go.Proofs
set_option linter.unusedVariables false
set_option maxRecDepth 20000
/-! gemot/place.Sponsor -/
noncomputable def place_Sponsor.f (x0 : List UInt8) (x1 : List UInt8) : Option (Int) := (place_At.f x0 x1).bind fun y1 => cond (y1.2 != (0 : Int)) (some (0 : Int)) ((tree_Members.f y1.1).bind fun y8 => (idxL y8 (0 : Int)).bind fun y20 => some y20)
set_option maxHeartbeats 4000000 in
theorem place_Sponsor_ok {ok : Nat → Prop} {w : World} {x0 : List UInt8} {x1 : List UInt8} {r : Int} (h : place_Sponsor.f x0 x1 = some r) :
    Calls Tryz.prog 102 #[.string (bs x0), .string (bs x1)] w fun e w' => ∃ v, e = .returned v ∧ (v = .int .i64 r ∧ Bel w.heap.size w w') := by
  have H : Eng.Own ok w w [] := Eng.Own.nil ok w
  unfold place_Sponsor.f at h
  refine enterN (args := [.string (bs x0), .string (bs x1)]) Tryz.func102 rfl Tryz.ntmps102 rfl rfl ?_
  refine nc_seq ?_
  refine nc ?_
  refine nc_seq ?_
  refine nc ?_
  obtain ⟨y1, hy2, h⟩ := bindS h
  refine call_rule (by kernel_rfl) (place_At_ok hy2) fun v4 w3 ⟨hv5, hb6⟩ => ?_
  subst hv5
  replace H := H.call hb6
  refine nc_seq ?_
  refine nc_seq ?_
  refine nc ?_
  refine nc_cond rfl (fun hc7 => ?_) (fun hc7 => ?_)
  · replace h := condT hc7 h
    refine nc_seq ?_
    refine nc ?_
    refine nc ?_
    replace h := Option.some.inj h
    subst h
    exact ret_inA [.int .i64 0] ⟨_, rfl, ⟨rfl, H.frame⟩⟩
  · replace h := condF hc7 h
    refine nc ?_
    refine nc_seq ?_
    refine nc ?_
    obtain ⟨y8, hy9, h⟩ := bindS h
    refine call_rule (by kernel_rfl) (tree_Members_ok (ok := fun _ => False) hy9) fun u14 w10 ⟨hu15, hb13⟩ => ?_
    replace H := H.callDats hb13 [dSl (tInt .i64) u14 y8] ⟨(slR_any hu15), trivial⟩
    obtain ⟨A16, c17, hA18, _⟩ := H.sl 0 rfl
    subst hA18
    obtain ⟨y20, hx21, h⟩ := bindS h
    obtain ⟨a22, cs23, rfl, hR24, H⟩ := H.elemI 0 rfl hx21
    obtain rfl : cs23 = [.int .i64 y20] := hR24
    refine idxA_rule (e := 3) 1 _ (by kernel_rfl) (by kernel_rfl) (idxL_some hx21).1 (idxL_some hx21).2.1 ?_
    refine own_loadD H 0 rfl 0 (by kernel_rfl) rfl ?_
    refine nc ?_
    replace h := Option.some.inj h
    subst h
    exact ret_inA [.int .i64 y20] ⟨_, rfl, ⟨rfl, H.frame⟩⟩
/-! gemot/place.Duties -/
noncomputable def place_Duties.k1 (x0 : List UInt8) (x1 : Int) (y369 : (List (List UInt8))) (v468 : Int) (v688 : List (List UInt8)) : Option (((List (List UInt8)) × Int) ⊕ (List (List UInt8))) := some (.inl (v688, (IntKind.i64.wrap (v468 + (1 : Int)))))
noncomputable def place_Duties.k2 (x0 : List UInt8) (x1 : Int) (y369 : (List (List UInt8))) (v464 : List (List UInt8)) (v468 : Int) (y694 : List UInt8) (v707 : Bool) : Option (((List (List UInt8)) × Int) ⊕ (List (List UInt8))) := cond v707 (roomM 16 (v464.length + 1) (place_Duties.k1 x0 x1 y369 v468 (v464 ++ [y694]))) (place_Duties.k1 x0 x1 y369 v468 v464)
noncomputable def place_Duties.b3 (x0 : List UInt8) (x1 : Int) (y369 : (List (List UInt8))) (v464 : List (List UInt8)) (v468 : Int) : Option (((List (List UInt8)) × Int) ⊕ (List (List UInt8))) := cond (decide (v468 < (y369.length : Int))) ((idxL y369 v468).bind fun y694 => cond (!(strEq y694 ([] : List UInt8))) ((place_Sponsor.f x0 y694).bind fun y711 => place_Duties.k2 x0 x1 y369 v464 v468 y694 (cond (!(strEq y694 ([] : List UInt8))) (y711 == x1) false)) (place_Duties.k2 x0 x1 y369 v464 v468 y694 (cond (!(strEq y694 ([] : List UInt8))) ((0 : Int) == x1) false))) (some (.inr v464))
noncomputable def place_Duties.k4 (v363 : List (List UInt8)) : Option ((List (List UInt8))) := some v363
noncomputable def place_Duties.f (x0 : List UInt8) (x1 : Int) : Option ((List (List UInt8))) := (place_Path.f x0 x1).bind fun y369 => (loopM (fun s648 : (List (List UInt8)) × Int => place_Duties.b3 x0 x1 y369 s648.1 s648.2) (([] : List (List UInt8)), (0 : Int))).bind (fun (o646 : (List (List UInt8))) => place_Duties.k4 o646)
set_option maxHeartbeats 4000000 in
theorem place_Duties_ok {ok : Nat → Prop} {w : World} {x0 : List UInt8} {x1 : Int} {r : (List (List UInt8))} (h : place_Duties.f x0 x1 = some r) :
    Calls Tryz.prog 64 #[.string (bs x0), .int .i64 x1] w fun e w' => ∃ v, e = .returned v ∧ (rowOut w w' ok tStr 9 v r ∧ Bel w.heap.size w w') := by
  have H : Eng.Own ok w w [] := Eng.Own.nil ok w
  unfold place_Duties.f at h
  refine enterN (args := [.string (bs x0), .int .i64 x1]) Tryz.func64 rfl Tryz.ntmps64 rfl rfl ?_
  refine nc_seq ?_
  refine nc ?_
  refine nc_seq ?_
  refine nc ?_
  refine nc_cut (fun e w367 => ∃ (A364 : Option Addr) (c365 : Nat) (cs366 : List Value) (v363 : List (List UInt8)), place_Duties.k4 v363 = some r ∧ e = [(5, .slice A364 v363.length c365)] ∧ Eng.Own ok w w367 [.dat (dRows tStr v363 cs366), .row (.slice A364 v363.length c365) 9 1 v363.length cs366]) ?_ ?_
  · skip
    refine nc_seq ?_
    refine nc ?_
    obtain ⟨y369, hy370, h⟩ := bindS h
    refine call_rule (by kernel_rfl) (place_Path_ok (ok := fun _ => False) hy370) fun u375 w371 ⟨hu376, hb374⟩ => ?_
    replace H := H.callDats hb374 [dSl tStr u375 y369] ⟨(slR_any hu376), trivial⟩
    obtain ⟨A377, c378, hA379, _⟩ := H.sl 0 rfl
    subst hA379
    refine nc_block ?_
    replace H := H.nilRowD tStr 9
    obtain ⟨o638, hL639, hO640⟩ := bindS h
    obtain ⟨n641, hL639⟩ := loopS hL639
    refine nc ?_
    refine loop_ruleA (fun k e w645 => ∃ (A465 : Option Addr) (c466 : Nat) (cs467 : List Value) (v464 : List (List UInt8)) (v468 : Int), iterM (fun s648 : (List (List UInt8)) × Int => place_Duties.b3 x0 x1 y369 s648.1 s648.2) k (v464, v468) = some o638 ∧ e = [(0, .string (bs x0)), (1, .int .i64 x1), (5, .slice A465 v464.length c466), (10, .slice A377 y369.length c378), (11, .int .i64 (y369.length : Int)), (12, .int .i64 v468)] ∧ Eng.Own ok w w645 [.dat (dRows tStr v464 cs467), .row (.slice A465 v464.length c466) 9 1 v464.length cs467, .dat (dSl tStr (.slice A377 y369.length c378) y369)]) ⟨none, 0, [], _, _, hL639, rfl, H.pickL [0, 1, 2] rfl⟩ ?_
    rintro k650 _ w649 ⟨A465, c466, cs467, v464, v468, hL639, rfl, H⟩
    obtain ⟨k644, rfl, q642, h, hq643⟩ := iterS hL639
    replace h : place_Duties.b3 x0 x1 y369 v464 v468 = some q642 := h
    unfold place_Duties.b3 at h
    refine nc_seq ?_
    refine nc ?_
    refine nc_seq ?_
    refine nc_cond rfl (fun hc651 => ?_) (fun hc651 => ?_)
    · replace h := condT hc651 h
      refine nc ?_
      refine nc_cut (fun e w692 => ∃ (A689 : Option Addr) (c690 : Nat) (cs691 : List Value) (v688 : List (List UInt8)), place_Duties.k1 x0 x1 y369 v468 v688 = some q642 ∧ e = [(0, .string (bs x0)), (1, .int .i64 x1), (5, .slice A689 v688.length c690), (10, .slice A377 y369.length c378), (11, .int .i64 (y369.length : Int)), (12, .int .i64 v468)] ∧ Eng.Own ok w w692 [.dat (dRows tStr v688 cs691), .row (.slice A689 v688.length c690) 9 1 v688.length cs691, .dat (dSl tStr (.slice A377 y369.length c378) y369)]) ?_ ?_
      · skip
        refine nc_block ?_
        refine nc_seq ?_
        refine nc ?_
        obtain ⟨y694, hx695, h⟩ := bindS h
        obtain ⟨a696, cs697, rfl, hR698, H⟩ := H.elemI 2 rfl hx695
        obtain rfl : cs697 = [.string (bs y694)] := hR698
        refine idxA_rule (e := 9) 1 _ (by kernel_rfl) (by kernel_rfl) (idxL_some hx695).1 (idxL_some hx695).2.1 ?_
        refine own_loadD H 0 rfl 0 (by kernel_rfl) rfl ?_
        refine nc_cut (fun e w708 => ∃ (v707 : Bool), place_Duties.k2 x0 x1 y369 v464 v468 y694 v707 = some q642 ∧ e = [(0, .string (bs x0)), (1, .int .i64 x1), (5, .slice A465 v464.length c466), (7, .string (bs y694)), (10, .slice (some a696) y369.length c378), (11, .int .i64 (y369.length : Int)), (12, .int .i64 v468), (24, .bool v707)] ∧ Eng.Own ok w w708 [.dat (dRows tStr v464 cs467), .row (.slice A465 v464.length c466) 9 1 v464.length cs467, .dat (dSl tStr (.slice (some a696) y369.length c378) y369)]) ?_ ?_
        · skip
          refine nc ?_
          rcases Bool.eq_false_or_eq_true (!(strEq y694 ([] : List UInt8))) with hg710 | hg710
          · replace h := condT hg710 h
            obtain ⟨y711, hy712, h⟩ := bindS h
            refine call_yes (gT1 hg710 rfl) (by kernel_rfl) (place_Sponsor_ok (ok := fun _ => False) hy712) fun v714 w713 ⟨hv715, hb716⟩ => ?_
            subst hv715
            replace H := H.call hb716
            exact cut_inA ⟨_, h, rfl, H.pickL [1, 2, 3] rfl⟩
          · replace h := condF hg710 h
            refine call_skip (.int .i64 0) (gF1 hg710) ?_
            exact cut_inA ⟨_, h, rfl, H.pickL [1, 2, 3] rfl⟩
        · rintro _ w717 ⟨v707, h, rfl, H⟩
          unfold place_Duties.k2 at h
          refine nc_cond rfl (fun hc718 => ?_) (fun hc718 => ?_)
          · replace h := condT hc718 h
            refine nc ?_
            refine own_buildSlice (e := 9) (sz := 1) (z := .string ⟨#[]⟩) (cs := [.string (bs y694)]) H (by kernel_rfl) (by kernel_rfl) (by kernel_rfl) rfl rfl rfl rfl fun g720 w721 H => ?_
            obtain ⟨hr722, h⟩ := roomS h
            refine own_append1 (k := tStr) (z := .string ⟨#[]⟩) (x := y694) 16 H 1 0 rfl rfl rfl rfl (by kernel_rfl) (by kernel_rfl) rfl rfl hr722 rfl fun z723 cs724 w725 H => ?_
            obtain ⟨A726, c727, rfl, _, _⟩ := H.rowSl 1 rfl
            exact cut_inA ⟨A726, c727, cs724, _, h, rfl, H.pickL [0, 1, 2] rfl⟩
          · replace h := condF hc718 h
            refine nc ?_
            exact cut_inA ⟨A465, c466, cs467, _, h, rfl, H.pickL [0, 1, 2] rfl⟩
      · rintro _ w729 ⟨A689, c690, cs691, v688, h, rfl, H⟩
        unfold place_Duties.k1 at h
        refine nc ?_
        cases h
        exact again_inA ⟨A689, c690, cs691, _, _, hq643, rfl, H.pickL [0, 1, 2] rfl⟩
    · replace h := condF hc651 h
      refine nc ?_
      cases h
      replace hq643 : v464 = o638 := hq643
      subst hq643
      have h := hO640
      try dsimp only [Sum.elim_inl, Sum.elim_inr] at h
      exact cut_inA ⟨A465, c466, cs467, _, h, rfl, H.pickL [0, 1] rfl⟩
  · rintro _ w730 ⟨A364, c365, cs366, v363, h, rfl, H⟩
    unfold place_Duties.k4 at h
    refine nc_seq ?_
    refine nc ?_
    refine nc ?_
    replace h := Option.some.inj h
    subst h
    exact ret_inA [.slice A364 v363.length c365] ⟨_, rfl, ⟨H.outR 1 0 rfl rfl rfl, H.frame⟩⟩
/-! gemot/parts.Kind -/
noncomputable def parts_Kind.f (x0 : List UInt8) : Option (Int) := (term_Right.f x0).bind fun y1 => cond (!y1) (some (0 : Int)) ((idxS x0 (0 : Int)).bind fun y8 => some y8)
set_option maxHeartbeats 4000000 in
theorem parts_Kind_ok {ok : Nat → Prop} {w : World} {x0 : List UInt8} {r : Int} (h : parts_Kind.f x0 = some r) :
    Calls Tryz.prog 104 #[.string (bs x0)] w fun e w' => ∃ v, e = .returned v ∧ (v = .int .u8 r ∧ Bel w.heap.size w w') := by
  have H : Eng.Own ok w w [] := Eng.Own.nil ok w
  unfold parts_Kind.f at h
  refine enterN (args := [.string (bs x0)]) Tryz.func104 rfl Tryz.ntmps104 rfl rfl ?_
  refine nc_seq ?_
  refine nc ?_
  refine nc_seq ?_
  refine nc_seq ?_
  refine nc ?_
  obtain ⟨y1, hy2, h⟩ := bindS h
  refine call_rule (by kernel_rfl) (term_Right_ok (ok := fun _ => False) hy2) fun v4 w3 ⟨hv5, hb6⟩ => ?_
  subst hv5
  replace H := H.call hb6
  refine nc_cond rfl (fun hc7 => ?_) (fun hc7 => ?_)
  · replace h := condT hc7 h
    refine nc_seq ?_
    refine nc ?_
    refine nc ?_
    replace h := Option.some.inj h
    subst h
    exact ret_inA [.int .u8 0] ⟨_, rfl, ⟨rfl, H.frame⟩⟩
  · replace h := condF hc7 h
    refine nc ?_
    refine nc_seq ?_
    refine nc ?_
    obtain ⟨y8, hx9, h⟩ := bindS h
    refine idxS_rule (by kernel_rfl) hx9 ?_
    refine nc ?_
    replace h := Option.some.inj h
    subst h
    exact ret_inA [.int .u8 y8] ⟨_, rfl, ⟨rfl, H.frame⟩⟩
/-! gemot/parts.Said -/
noncomputable def parts_Said.f (x0 : List UInt8) : Option ((List UInt8) × Bool) := (parts_Kind.f x0).bind fun y1 => cond (y1 != (116 : Int)) (some (([] : List UInt8), false)) ((slcM x0 (3 : Int) (x0.length : Int)).bind fun y8 => some (y8, true))
set_option maxHeartbeats 4000000 in
theorem parts_Said_ok {ok : Nat → Prop} {w : World} {x0 : List UInt8} {r : (List UInt8) × Bool} (h : parts_Said.f x0 = some r) :
    Calls Tryz.prog 103 #[.string (bs x0)] w fun e w' => ∃ v, e = .returned v ∧ (v = .tuple #[.string (bs r.1), .bool r.2] ∧ Bel w.heap.size w w') := by
  have H : Eng.Own ok w w [] := Eng.Own.nil ok w
  unfold parts_Said.f at h
  refine enterN (args := [.string (bs x0)]) Tryz.func103 rfl Tryz.ntmps103 rfl rfl ?_
  refine nc_seq ?_
  refine nc ?_
  refine nc_seq ?_
  refine nc_seq ?_
  refine nc ?_
  obtain ⟨y1, hy2, h⟩ := bindS h
  refine call_rule (by kernel_rfl) (parts_Kind_ok (ok := fun _ => False) hy2) fun v4 w3 ⟨hv5, hb6⟩ => ?_
  subst hv5
  replace H := H.call hb6
  refine nc_cond rfl (fun hc7 => ?_) (fun hc7 => ?_)
  · replace h := condT hc7 h
    refine nc_seq ?_
    refine nc ?_
    refine nc ?_
    replace h := Option.some.inj h
    subst h
    exact ret_inA [.string (bs ([] : List UInt8)), .bool false] ⟨_, rfl, ⟨rfl, H.frame⟩⟩
  · replace h := condF hc7 h
    refine nc ?_
    refine nc_seq ?_
    refine nc ?_
    obtain ⟨y8, hx9, h⟩ := bindS h
    refine txtI_rule (3 : Int) (x0.length : Int) (by kernel_rfl) ⟨_, rfl⟩ rfl hx9 ?_
    refine nc ?_
    replace h := Option.some.inj h
    subst h
    exact ret_inA [.string (bs y8), .bool true] ⟨_, rfl, ⟨rfl, H.frame⟩⟩
/-! gemot/term.Text -/
noncomputable def term_Text.f (x0 : List UInt8) : Option ((List UInt8) × Int) := cond (decide ((x0.length : Int) > (100 : Int))) (some (([] : List UInt8), (3 : Int))) ((strM ([(116 : Int), (0 : Int), (IntKind.u8.wrap (x0.length : Int))] : List Int)).bind fun y6 => roomM 1 (y6.length + x0.length) (some ((y6 ++ x0), (0 : Int))))
set_option maxHeartbeats 4000000 in
theorem term_Text_ok {ok : Nat → Prop} {w : World} {x0 : List UInt8} {r : (List UInt8) × Int} (h : term_Text.f x0 = some r) :
    Calls Tryz.prog 65 #[.string (bs x0)] w fun e w' => ∃ v, e = .returned v ∧ (v = .tuple #[.string (bs r.1), .int .i64 r.2] ∧ Bel w.heap.size w w') := by
  have H : Eng.Own ok w w [] := Eng.Own.nil ok w
  unfold term_Text.f at h
  refine enterN (args := [.string (bs x0)]) Tryz.func65 rfl Tryz.ntmps65 rfl rfl ?_
  refine nc_seq ?_
  refine nc ?_
  refine nc_seq ?_
  refine nc_seq ?_
  refine nc ?_
  refine nc_cond rfl (fun hc1 => ?_) (fun hc1 => ?_)
  · replace h := condT hc1 h
    refine nc_seq ?_
    refine nc ?_
    refine nc ?_
    replace h := Option.some.inj h
    subst h
    exact ret_inA [.string (bs ([] : List UInt8)), .int .i64 3] ⟨_, rfl, ⟨rfl, H.frame⟩⟩
  · replace h := condF hc1 h
    refine nc ?_
    refine nc_seq ?_
    refine nc ?_
    refine own_buildSlice (e := 5) (sz := 1) (z := .int .u8 0) (cs := [.int .u8 116, .int .u8 0, .int .u8 (IntKind.u8.wrap (x0.length : Int))]) H (by kernel_rfl) (by kernel_rfl) (by kernel_rfl) rfl rfl rfl rfl fun g3 w4 H => ?_
    replace H := H.blkSl (k := (tInt .u8)) [(116 : Int), (0 : Int), (IntKind.u8.wrap (x0.length : Int))] 3 rfl rfl (by decide) ⟨_, _, rfl, rfl, ⟨_, _, rfl, rfl, ⟨_, _, rfl, rfl, rfl⟩⟩⟩
    obtain ⟨y6, hy7, h⟩ := bindS h
    refine own_strD (e := 5) H 0 rfl hy7 (by kernel_rfl) (by kernel_rfl) ?_
    obtain ⟨hr8, h⟩ := roomS h
    refine catM_rule hr8 ?_
    refine nc ?_
    replace h := Option.some.inj h
    subst h
    exact ret_inA [.string (bs (y6 ++ x0)), .int .i64 0] ⟨_, rfl, ⟨rfl, H.frame⟩⟩
end Go.Proofs.YtfapphlhkfddoaaGreatDoor.G
/- Sponsors and duties: what the program reckons, on trees. -/
namespace Go.Proofs.YtfapphlhkfddoaaGreatDoor.G
open Go.RowKit Go.Eng Go.Proofs Go.Proofs.YtfapphlhkfddoaaGreatDoor.Cut
set_option linter.unusedVariables false
set_option linter.unusedSimpArgs false
def sponM (s n : List UInt8) : Int := match ofM s with
  | none => 0
  | some T => match subT T n with
    | none => 0
    | some S => (sortZ S.leavesR).headD 0
theorem sponM_no {s : List UInt8} (n : List UInt8) (ho : ofM s = none) : sponM s n = 0 := by unfold sponM; rw [ho]
theorem sponM_in {s n : List UInt8} {T : Tr} (ho : ofM s = some T) : sponM s n = match subT T n with
    | none => 0
    | some S => (sortZ S.leavesR).headD 0 := by unfold sponM; rw [ho]
def dutM (s : List UInt8) (p : Int) : List (List UInt8) := (pathM s p).filter fun n => decide (n ≠ [] ∧ sponM s n = p)
theorem spon_eq {s n : List UInt8} (hl : s.length ≤ 900000) : place_Sponsor.f s n = some (sponM s n) := by
  unfold place_Sponsor.f place_At.f
  rw [given_of hl, Option.bind_some]
  cases ho : ofM s with
  | none => rw [at_none ho, sponM_no n ho]; rfl
  | some T =>
    rw [at_sub ho, sponM_in ho]
    cases hq : subT T n with
    | none => rfl
    | some S =>
      have hok := subT_ok _ _ _ hq (ofM_text ho).2
      have hn := (subT_nodup _ _ _ hq (ofM_nodup ho)).1
      have hSl := subT_len _ _ _ hq
      have h22 := ofM_short ho
      show (tree_Members.f S.text).bind _ = _
      unfold tree_Members.f
      rw [given_of (by rw [← (ofM_text ho).1] at hSl; omega), Option.bind_some, members_text hok hn, sort_head (leavesR_pos S), Option.bind_some]
theorem dut_loop {s : List UInt8} {p : Int} (hs : s.length ≤ 900000) {path : List (List UInt8)} (hl : path.length ≤ 1000) : ∀ k i out, i + k = path.length → out.length ≤ i → loopM (fun s648 : (List (List UInt8)) × Int => place_Duties.b3 s p path s648.1 s648.2) (out, (i : Int)) = some (out ++ (path.drop i).filter fun n => decide (n ≠ [] ∧ sponM s n = p)) := by
  intro k
  induction k with
  | zero =>
    intro i out hi _
    refine loop_end ?_
    show place_Duties.b3 s p path out (i : Int) = _
    unfold place_Duties.b3
    rw [cond_f (by omega), List.drop_of_length_le (by omega)]; simp
  | succ k ih =>
    intro i out hi ho
    have hil : i < path.length := by omega
    rw [List.drop_eq_getElem_cons hil, List.filter_cons]
    have hbody : place_Duties.b3 s p path out (i : Int) = some (.inl (if path[i] ≠ [] ∧ sponM s path[i] = p then out ++ [path[i]] else out, ((i + 1 : Nat) : Int))) := by
      unfold place_Duties.b3
      rw [cond_t (by omega), idxL_lt hil, Option.bind_some, strEq_eq]
      by_cases hn : path[i] = []
      · rw [decide_eq_true hn, if_neg (fun q => q.1 hn)]
        show place_Duties.k2 s p path out (i : Int) path[i] false = _
        unfold place_Duties.k2 place_Duties.k1
        rw [cond_false, wrap1 i (by omega)]
      · rw [decide_eq_false hn]
        show (place_Sponsor.f s path[i]).bind _ = _
        rw [spon_eq hs, Option.bind_some]
        unfold place_Duties.k2 place_Duties.k1
        by_cases hp : sponM s path[i] = p
        · rw [if_pos ⟨hn, hp⟩, show (cond (!false) (sponM s path[i] == p) false) = true by simpa using hp, cond_true, room_of (by omega), wrap1 i (by omega)]
        · rw [if_neg (fun q => hp q.2), show (cond (!false) (sponM s path[i] == p) false) = false by simpa using hp, cond_false, wrap1 i (by omega)]
    by_cases hc : path[i] ≠ [] ∧ sponM s path[i] = p
    · rw [if_pos hc] at hbody
      rw [if_pos (by simpa using hc)]
      have := ih (i + 1) (out ++ [path[i]]) (by omega) (by rw [List.length_append]; simp only [List.length_cons, List.length_nil]; omega)
      rw [List.append_assoc] at this
      exact loop_step hbody this
    · rw [if_neg hc] at hbody
      rw [if_neg (by simpa using hc)]
      exact loop_step hbody (ih (i + 1) out (by omega) (by omega))
theorem dut_eq {s : List UInt8} {p : Int} (hl : s.length ≤ 900000) : place_Duties.f s p = some (dutM s p) := by
  unfold place_Duties.f place_Path.f
  have h9 := path_len9 s p
  rw [given_of hl, Option.bind_some, show loopM (fun s648 : (List (List UInt8)) × Int => place_Duties.b3 s p (pathM s p) s648.1 s648.2) (([] : List (List UInt8)), (0 : Int)) = _ from dut_loop hl (by omega) (pathM s p).length 0 [] (by omega) (by simp)]
  rfl
theorem filter_front {α : Type} {P : α → Bool} : ∀ {l : List α}, l.Pairwise (fun a b => P b = true → P a = true) → ∃ c, c ≤ l.length ∧ l.filter P = l.take c ∧ (∀ i (h : i < l.length), i < c → P l[i] = true) ∧ (∀ (h : c < l.length), P l[c] = false)
  | [], _ => ⟨0, Nat.le_refl _, rfl, fun i h => by simp at h, fun h => by simp at h⟩
  | a :: r, hp => by
    obtain ⟨h1, h2⟩ := List.pairwise_cons.1 hp
    cases ha : P a with
    | true =>
      obtain ⟨c, c1, c2, c3, c4⟩ := filter_front h2
      refine ⟨c + 1, by simpa using c1, by rw [List.filter_cons, if_pos ha, c2]; rfl, fun i h hi => ?_, fun h => ?_⟩
      · cases i with
        | zero => exact ha
        | succ i => exact c3 i (by simpa using h) (by omega)
      · exact c4 (by simpa using h)
    | false =>
      refine ⟨0, Nat.zero_le _, ?_, fun i h hi => by omega, fun h => ha⟩
      rw [List.take_zero, List.filter_eq_nil_iff]
      intro x hx hP
      rcases List.mem_cons.1 hx with q | q
      · rw [q, ha] at hP; cases hP
      · have := h1 x q hP
        rw [ha] at this; cases this
theorem head_le {xs : List Int} {x : Int} (h : x ∈ xs) : (sortZ xs).headD 0 ≤ x := by
  have hp := sortZ_le xs
  have hm := (sortZ_perm xs).mem_iff.2 h
  cases hs : sortZ xs with
  | nil => rw [hs] at hm; cases hm
  | cons a r =>
    rw [hs] at hm hp
    show a ≤ x
    rcases List.mem_cons.1 hm with q | q
    · omega
    · exact (List.pairwise_cons.1 hp).1 x q
theorem head_is {xs : List Int} {p : Int} (h : p ∈ xs) : (sortZ xs).headD 0 = p ↔ ∀ x ∈ xs, p ≤ x := by
  constructor
  · intro e x hx; rw [← e]; exact head_le hx
  · intro hall
    have h1 := head_le h
    have h2 := hall _ (head_in (List.length_pos_of_mem h))
    omega
theorem up_pair (n : List UInt8) {Q : List UInt8 → List UInt8 → Prop} (h : ∀ i j, i < j → j ≤ n.length → Q (n.take (n.length - i)) (n.take (n.length - j))) : (upT n).Pairwise Q := by
  unfold upT
  rw [List.pairwise_map]
  refine List.Pairwise.imp_of_mem (fun {a b} ha hb hab => ?_) List.pairwise_lt_range
  exact h a b hab (by have := List.mem_range.1 hb; omega)
theorem up_nodup (n : List UInt8) : (upT n).Nodup := by
  refine up_pair n fun i j hij hj e => ?_
  have := congrArg List.length e
  rw [List.length_take, List.length_take] at this
  omega
section
theorem spon_here {T : Tr} (hk : T.ok) (hn : T.leavesR.Nodup) {p : Int} {π : List UInt8} (hπ : pathL T p = some π) (d : Nat) : ∃ S, subT T (π.take d) = some S ∧ p ∈ S.leavesR ∧ (sponM T.text (π.take d) = p ↔ ∀ x ∈ S.leavesR, p ≤ x) := by
  have ho : ofM T.text = some T := by rw [ofM_iff hk, if_pos hn]
  obtain ⟨S, hs, hp⟩ := path_node hπ d
  refine ⟨S, hs, hp, ?_⟩
  rw [sponM_in ho, hs]
  exact head_is hp
theorem dut_front {T : Tr} (hk : T.ok) (hn : T.leavesR.Nodup) {p : Int} {π : List UInt8} (hπ : pathL T p = some π) : ∃ c, c ≤ π.length ∧ dutM T.text p = (upT π).take c ∧ (π ≠ [] → 0 < c) := by
  have ho : ofM T.text = some T := by rw [ofM_iff hk, if_pos hn]
  have hpath : pathM T.text p = upT π := by rw [pathM_eq ho, hπ]
  have hpair : (upT π).Pairwise fun a b => (decide (b ≠ [] ∧ sponM T.text b = p)) = true → (decide (a ≠ [] ∧ sponM T.text a = p)) = true := by
    refine up_pair π fun i j hij hj h => ?_
    obtain ⟨h1, h2⟩ := of_decide_eq_true h
    refine decide_eq_true ⟨?_, ?_⟩
    · intro e
      have := congrArg List.length e
      rw [List.length_take] at this
      have h3 : (π.take (π.length - j)).length ≠ 0 := fun q => h1 (List.length_eq_zero_iff.1 q)
      rw [List.length_take] at h3
      simp only [List.length_nil] at this
      omega
    · obtain ⟨A, a1, a2, a3⟩ := spon_here hk hn hπ (π.length - i)
      obtain ⟨B, b1, b2, b3⟩ := spon_here hk hn hπ (π.length - j)
      refine a3.2 fun x hx => b3.1 h2 x ?_
      have hB := sub_ok4 hk hn b1
      have e : π.take (π.length - i) = π.take (π.length - j) ++ (π.take (π.length - i)).drop (π.length - j) := by
        have := (List.take_append_drop (π.length - j) (π.take (π.length - i))).symm
        rw [List.take_take, Nat.min_eq_left (by omega)] at this
        exact this
      rw [e, sub_append, b1] at a1
      exact (subT_nodup _ _ _ a1 hB.2.1).2 x hx
  obtain ⟨c, c1, c2, c3, c4⟩ := filter_front hpair
  have hul := up_len π
  refine ⟨c, ?_, ?_, ?_⟩
  · apply Classical.byContradiction
    intro h
    have hl : π.length < (upT π).length := by omega
    have := c3 π.length hl (by omega)
    have hg := up_get (n := π) (j := π.length) (Nat.le_refl _)
    rw [idxL_lt hl] at hg
    rw [Option.some.inj hg] at this
    simp at this
  · unfold dutM
    rw [hpath]
    exact c2
  · intro hne
    apply Classical.byContradiction
    intro h
    have hc0 : c = 0 := by omega
    subst hc0
    have hl : 0 < (upT π).length := by omega
    have := c4 hl
    have hg := up_get (n := π) (j := 0) (Nat.zero_le _)
    rw [idxL_lt hl] at hg
    rw [Option.some.inj hg] at this
    have := of_decide_eq_false this
    refine this ⟨by simpa using hne, ?_⟩
    obtain ⟨A, a1, a2, a3⟩ := spon_here hk hn hπ (π.length - 0)
    refine a3.2 fun x hx => ?_
    have hleaf := (path_leafAt T p π hπ).1
    rw [Nat.sub_zero, List.take_length, hleaf] at a1
    cases a1
    rw [List.mem_singleton.1 hx]; omega
theorem dut_nodup (s : List UInt8) (p : Int) (h : (pathM s p).Nodup) : (dutM s p).Nodup := h.filter _
theorem dut_mem {T : Tr} (hk : T.ok) (hn : T.leavesR.Nodup) {n : List UInt8} {S : Tr} (hs : subT T n = some S) (p : Int) : n ∈ dutM T.text p ↔ n ≠ [] ∧ sponM T.text n = p := by
  have ho : ofM T.text = some T := by rw [ofM_iff hk, if_pos hn]
  unfold dutM
  rw [List.mem_filter, decide_eq_true_iff]
  constructor
  · exact fun h => h.2
  · intro h
    refine ⟨?_, h⟩
    have hp : p ∈ S.leavesR := by
      have := h.2
      rw [sponM_in ho, hs] at this
      rw [← this]
      exact head_in (leavesR_pos S)
    obtain ⟨ρ, hr⟩ := path_sub n T S p hn hs hp
    rw [pathM_eq ho, hr]
    show n ∈ upT (n ++ ρ)
    unfold upT
    refine List.mem_map.2 ⟨ρ.length, List.mem_range.2 (by rw [List.length_append]; omega), ?_⟩
    rw [List.length_append, show n.length + ρ.length - ρ.length = n.length by omega, List.take_left]
end
end Go.Proofs.YtfapphlhkfddoaaGreatDoor.G
/- Objects: what stands behind a pointer of the call's own, held asX one item; shelves of them; maps of data. Proved once, over any program. -/
set_option linter.unusedVariables false
set_option linter.unusedSectionVars false
set_option linter.unusedSimpArgs false
namespace Go.Eng
open Go.RowKit
variable [Inhabited Keep] [Inhabited Hard]

/-- A list of items, asX one. -/
def Bag.of (M : List Item) : Bag where
  m := muts M
  φ w ok := ∀ it ∈ M, it.holds w ok
  lt h g hg := by obtain ⟨it, hi, hm⟩ := mem_muts.1 hg; exact Item.holds_lt (h it hi) g hm
  step h hm hd hk it hi := Item.holds_step (h it hi) (fun g hg => hm g (mem_muts.2 ⟨it, hi, hg⟩)) hd hk
abbrev box (M : List Item) : Item := .bag (Bag.of M)
/-- A plain truth, carried along. -/
def dProp (p : Prop) : Dat := ⟨fun _ _ => p, fun _ h => h, fun _ h => h, fun h => h⟩

section
variable {P : Program} {w w' w0 : World} {K : Value → World → Prop} {g : Bool} {ok : Nat → Prop} {L M R A B : List Item}

theorem muts_box (M R : List Item) : muts (box M :: R) = muts (M ++ R) := by simp [muts, Item.muts, Bag.of]
theorem Own.shut (H : Own ok w0 w (M ++ R)) : Own ok w0 w (box M :: R) := by
  have e := muts_box M R
  have eo : okOf ok w0 (box M :: R) = okOf ok w0 (M ++ R) := by unfold okOf; rw [e]
  refine ⟨H.below, by rw [e]; exact H.nd, by rw [e]; exact H.ge, fun it hi => ?_⟩
  rw [eo]
  rcases List.mem_cons.1 hi with k | k
  · subst k
    exact fun it hi => H.all it (List.mem_append.2 (.inl hi))
  · exact H.all it (List.mem_append.2 (.inr k))
theorem Own.unshut (H : Own ok w0 w (box M :: R)) : Own ok w0 w (M ++ R) := by
  have e := muts_box M R
  have eo : okOf ok w0 (box M :: R) = okOf ok w0 (M ++ R) := by unfold okOf; rw [e]
  refine ⟨H.below, by rw [← e]; exact H.nd, by rw [← e]; exact H.ge, fun it hi => ?_⟩
  rw [← eo]
  rcases List.mem_append.1 hi with k | k
  · exact (H.all (box M) List.mem_cons_self : (Bag.of M).φ w _) it k
  · exact H.all it (List.mem_cons_of_mem _ k)
theorem Own.box0 (H : Own ok w0 w L) : Own ok w0 w (box [] :: L) := Own.shut (M := []) H
theorem eraseIdx_perm {β : Type} : ∀ {l : List β} {i : Nat} {x : β}, l[i]? = some x → l.Perm (x :: l.eraseIdx i)
  | y :: l, 0, x, h => by simp at h; subst h; exact List.Perm.refl _
  | y :: l, i + 1, x, h => (List.Perm.cons y (eraseIdx_perm (l := l) (i := i) (by simpa using h))).trans (List.Perm.swap _ _ _)
/-- The i-th item to the front. -/
theorem Own.front (H : Own ok w0 w L) (i : Nat) {x : Item} (hi : L[i]? = some x) : Own ok w0 w (x :: L.eraseIdx i) := H.perm (eraseIdx_perm hi)
/-- What is held asX one is laid open, at the front. -/
theorem Own.openAt (H : Own ok w0 w L) (i : Nat) (hi : L[i]? = some (box M)) : Own ok w0 w (M ++ L.eraseIdx i) := (H.front i hi).unshut
theorem Own.openAs (H : Own ok w0 w L) (i : Nat) (M' : List Item) (hi : L[i]? = some (box M)) (e : M = M') : Own ok w0 w (M' ++ L.eraseIdx i) := by subst e; exact H.openAt i hi
/-- The first n items, asX one. -/
theorem Own.shutN (n : Nat) (H : Own ok w0 w L) : Own ok w0 w (box (L.take n) :: L.drop n) := Own.shut (by rw [List.take_append_drop]; exact H)
theorem Own.addProp {p : Prop} (h : p) (H : Own ok w0 w L) : Own ok w0 w (.dat (dProp p) :: L) := H.addDat (dProp p) h
theorem Own.prop {p : Prop} (H : Own ok w0 w L) (i : Nat) (hi : L[i]? = some (.dat (dProp p))) : p := H.at hi

/-! ### What may not be there -/
def optL {α σ : Type} (f : Nat → α → σ → List Item) (g : Nat) (a : α) : Option σ → List Item
  | none => []
  | some s => f g a s
def optA {σ : Type} (g : Nat) : Option σ → Option Addr
  | none => none
  | some _ => some ⟨g, 0, none⟩
theorem optA_isNone {σ : Type} (g : Nat) (s : Option σ) : (optA g s).isNone = s.isNone := by cases s <;> rfl
theorem eqlO_rule {σ : Type} {t : TypeId} {xo yo : Operand} {b : Nat} {s : Option σ} (ht : ptrB P t = true) (hk : K (.bool s.isNone) w) : nBin P g .eql t xo yo (.pointer (optA b s)) (.pointer none) w K := eqlNil_rule ht (by rw [optA_isNone]; exact hk)
/-- It is there. -/
theorem Own.someAt {α σ : Type} {f : Nat → α → σ → List Item} {b : Nat} {a : α} {s : Option σ} {y : σ} (H : Own ok w0 w L) (i : Nat) (hi : L[i]? = some (box (optL f b a s))) (hy : s = some y) : Own ok w0 w (L.set i (box (f b a y))) := by
  subst hy
  have e : L.set i (box (f b a y)) = L := by
    obtain ⟨A, B, e, hs⟩ := list_split hi
    rw [hs, e]; rfl
  rw [e]; exact H
theorem Own.shutAs (n : Nat) (M : List Item) (H : Own ok w0 w L) (h : L.take n = M) : Own ok w0 w (box M :: L.drop n) := by
  subst h; exact H.shutN n
/-- The rest, asX one, behind the first n. -/
theorem Own.tailBox (n : Nat) (H : Own ok w0 w L) : Own ok w0 w (L.take n ++ [box (L.drop n)]) := by
  have H1 : Own ok w0 w (L.drop n ++ L.take n) := H.perm (by
    have := List.perm_append_comm (l₁ := L.take n) (l₂ := L.drop n)
    rwa [List.take_append_drop] at this)
  exact H1.shut.perm (List.perm_append_comm (l₁ := [box (L.drop n)]) (l₂ := L.take n))
theorem Own.tailOpen (n : Nat) (H : Own ok w0 w L) (h : L.drop n = [box R]) : Own ok w0 w (L.take n ++ R) := by
  have H1 : Own ok w0 w ([box R] ++ L.take n) := H.perm (by
    have := List.perm_append_comm (l₁ := L.take n) (l₂ := [box R])
    rw [← h, List.take_append_drop] at this
    rw [← h]; exact this)
  exact (Own.unshut (M := R) (R := L.take n) H1).perm List.perm_append_comm

/-! ### Shelves: many things of one kind, each with its own blocks -/
variable {α σ κ : Type}
/-- The things of a shelf, one behind the other. -/
def shelf (f : α → σ → List Item) : List α → List σ → List Item
  | a :: asX, s :: ss => f a s ++ shelf f asX ss
  | _, _ => []
def shelfL (f : α → σ → List Item) (asX : List α) (ss : List σ) : List Item := .dat (dProp (asX.length = ss.length)) :: shelf f asX ss
theorem shelf_append (f : α → σ → List Item) : ∀ {asX bs : List α} {ss ts : List σ}, asX.length = ss.length → shelf f (asX ++ bs) (ss ++ ts) = shelf f asX ss ++ shelf f bs ts
  | [], bs, [], ts, _ => rfl
  | a :: asX, bs, s :: ss, ts, h => by
    have ih := shelf_append f (asX := asX) (bs := bs) (ss := ss) (ts := ts) (by simpa using h)
    show f a s ++ shelf f (asX ++ bs) (ss ++ ts) = f a s ++ shelf f asX ss ++ shelf f bs ts
    rw [ih, List.append_assoc]
  | [], _, _ :: _, _, h => by simp at h
  | _ :: _, _, [], _, h => by simp at h
/-- One thing of a shelf is taken off; the others stand on. -/
def gap (f : α → σ → List Item) (as1 : List α) (ss1 : List σ) (as2 : List α) (ss2 : List σ) : List Item := .dat (dProp (as1.length = ss1.length ∧ as2.length = ss2.length)) :: (shelf f as1 ss1 ++ shelf f as2 ss2)
theorem list_cut {β : Type} : ∀ {l : List β} {i : Nat}, i < l.length → ∃ l1 x l2, l = l1 ++ x :: l2 ∧ l1.length = i
  | x :: l, 0, _ => ⟨[], x, l, rfl, rfl⟩
  | x :: l, i + 1, h => by
    obtain ⟨l1, y, l2, e, hl⟩ := list_cut (l := l) (i := i) (by simpa using h)
    exact ⟨x :: l1, y, l2, by rw [e]; rfl, by simp [hl]⟩
theorem Own.takeOff {f : α → σ → List Item} {asX : List α} {ss1 ss2 : List σ} {s : σ} (H : Own ok w0 w (box (shelfL f asX (ss1 ++ s :: ss2)) :: R)) :
    ∃ as1 a as2, asX = as1 ++ a :: as2 ∧ as1.length = ss1.length ∧ as2.length = ss2.length ∧ Own ok w0 w (box (f a s) :: box (gap f as1 ss1 as2 ss2) :: R) := by
  have H1 := H.unshut
  have hl : asX.length = (ss1 ++ s :: ss2).length := H1.prop 0 rfl
  obtain ⟨as1, a, as2, rfl, h1⟩ := list_cut (l := asX) (i := ss1.length) (by rw [hl]; simp)
  have h2 : as2.length = ss2.length := by simp at hl; omega
  refine ⟨as1, a, as2, rfl, h1, h2, ?_⟩
  have H2 : Own ok w0 w (shelf f (as1 ++ a :: as2) (ss1 ++ s :: ss2) ++ R) := H1.tail
  rw [shelf_append f h1] at H2
  have H3 : Own ok w0 w (f a s ++ ((shelf f as1 ss1 ++ shelf f as2 ss2) ++ R)) := by
    refine H2.perm ?_
    show ((shelf f as1 ss1 ++ (f a s ++ shelf f as2 ss2)) ++ R).Perm _
    simp only [List.append_assoc]
    rw [← List.append_assoc, ← List.append_assoc (f a s)]
    exact List.Perm.append_right _ List.perm_append_comm
  have H4 : Own ok w0 w (box (f a s) :: ((shelf f as1 ss1 ++ shelf f as2 ss2) ++ R)) := H3.shut
  have H5 := (H4.addProp (p := as1.length = ss1.length ∧ as2.length = ss2.length) ⟨h1, h2⟩)
  have H6 : Own ok w0 w (gap f as1 ss1 as2 ss2 ++ (box (f a s) :: R)) := by
    refine H5.perm ?_
    show (.dat (dProp _) :: box (f a s) :: ((shelf f as1 ss1 ++ shelf f as2 ss2) ++ R)).Perm (.dat (dProp _) :: ((shelf f as1 ss1 ++ shelf f as2 ss2) ++ box (f a s) :: R))
    exact List.Perm.cons _ List.perm_middle.symm
  exact H6.shut.perm (List.Perm.swap _ _ _)
theorem Own.putBack {f : α → σ → List Item} {as1 as2 : List α} {ss1 ss2 : List σ} {a : α} {s : σ} (H : Own ok w0 w (box (f a s) :: box (gap f as1 ss1 as2 ss2) :: R)) :
    Own ok w0 w (box (shelfL f (as1 ++ a :: as2) (ss1 ++ s :: ss2)) :: R) := by
  have H1 : Own ok w0 w (gap f as1 ss1 as2 ss2 ++ (box (f a s) :: R)) := (H.perm (List.Perm.swap _ _ _)).unshut
  obtain ⟨h1, h2⟩ : as1.length = ss1.length ∧ as2.length = ss2.length := H1.prop 0 rfl
  have H2 : Own ok w0 w ((shelf f as1 ss1 ++ shelf f as2 ss2) ++ (box (f a s) :: R)) := H1.tail
  have H3 : Own ok w0 w (f a s ++ ((shelf f as1 ss1 ++ shelf f as2 ss2) ++ R)) := (H2.perm List.perm_middle).unshut
  have H4 : Own ok w0 w (shelf f (as1 ++ a :: as2) (ss1 ++ s :: ss2) ++ R) := by
    rw [shelf_append f h1]
    refine H3.perm ?_
    show (f a s ++ ((shelf f as1 ss1 ++ shelf f as2 ss2) ++ R)).Perm ((shelf f as1 ss1 ++ (f a s ++ shelf f as2 ss2)) ++ R)
    simp only [List.append_assoc]
    rw [← List.append_assoc (f a s), ← List.append_assoc (shelf f as1 ss1) (f a s)]
    exact List.Perm.append_right _ List.perm_append_comm
  exact Own.shut (M := shelfL f (as1 ++ a :: as2) (ss1 ++ s :: ss2)) (H4.addProp (by simp; omega))
/-- A new thing, behind all others. -/
theorem Own.putNew {f : α → σ → List Item} {asX : List α} {ss : List σ} {a : α} {s : σ} (H : Own ok w0 w (box (f a s) :: box (shelfL f asX ss) :: R)) : Own ok w0 w (box (shelfL f (asX ++ [a]) (ss ++ [s])) :: R) := by
  have H1 : Own ok w0 w (shelfL f asX ss ++ (box (f a s) :: R)) := (H.perm (List.Perm.swap _ _ _)).unshut
  have hl : asX.length = ss.length := H1.prop 0 rfl
  have H2 : Own ok w0 w (f a s ++ (shelf f asX ss ++ R)) := ((show Own ok w0 w (shelf f asX ss ++ box (f a s) :: R) from H1.tail).perm List.perm_middle).unshut
  have H3 : Own ok w0 w (shelf f (asX ++ [a]) (ss ++ [s]) ++ R) := by
    rw [shelf_append f hl]
    show Own ok w0 w ((shelf f asX ss ++ (f a s ++ [])) ++ R)
    rw [List.append_nil]
    refine H2.perm ?_
    rw [← List.append_assoc]
    exact List.Perm.append_right _ List.perm_append_comm
  exact Own.shut (M := shelfL f (asX ++ [a]) (ss ++ [s])) (H3.addProp (by simp; omega))
theorem Own.shelf0 {f : α → σ → List Item} (H : Own ok w0 w L) : Own ok w0 w (box (shelfL f [] []) :: L) := Own.shut (M := shelfL f [] []) (H.addProp rfl)
theorem Own.shelfLen {f : α → σ → List Item} {asX : List α} {ss : List σ} (H : Own ok w0 w L) (i : Nat) (hi : L[i]? = some (box (shelfL f asX ss))) : asX.length = ss.length := (H.openAt i hi).prop 0 rfl

/-! ### Maps whose entries stand on shelves -/
variable [DecidableEq κ]
/-! ### Maps of data -/
section
variable {β : Type} {enc : κ → Value} {e : β → Value} {l : List (κ × β)} {KF : Value → Prop} {C : World → Prop}
def entV (e : β → Value) (l : List (κ × β)) : List (κ × Value) := l.map fun p => (p.1, e p.2)
theorem getA_entV (k : κ) : ∀ l : List (κ × β), getA k (entV e l) = (getA k l).map e
  | [] => rfl
  | p :: l => by
    have ih := getA_entV k l
    show (if k = p.1 then some (e p.2) else getA k (entV e l)) = (if k = p.1 then some p.2 else getA k l).map e
    rw [ih]; split <;> rfl
theorem putA_entV (k : κ) (v : β) : ∀ l : List (κ × β), putA k (e v) (entV e l) = entV e (putA k v l)
  | [] => rfl
  | p :: l => by
    have ih := putA_entV k v l
    show (if k = p.1 then (k, e v) :: entV e l else (p.1, e p.2) :: putA k (e v) (entV e l)) = entV e (if k = p.1 then (k, v) :: l else p :: putA k v l)
    rw [ih]; split <;> rfl
theorem getD_entV (k : κ) (d : β) : (getA k (entV e l)).getD (e d) = e ((getA k l).getD d) := by rw [getA_entV]; cases getA k l <;> rfl
theorem isSome_entV (k : κ) : (getA k (entV e l)).isSome = (getA k l).isSome := by rw [getA_entV]; cases getA k l <;> rfl

theorem lookP_rule {t kt et : TypeId} (d : β) (ht : mapB P t = some (kt, et)) (hz : zeroB P et = some (e d)) (KK : MKey P kt enc) (a : κ) (H : Own ok w0 w L) (i : Nat) {b : Nat} (hi : L[i]? = some (.obj b (mapOk enc (entV e l)))) (hk : K (e ((getA a l).getD d)) w) : nLookup P g t (.map (some b)) (enc a) false w K :=
  lookup_rule ht hz KK a H i hi (by rw [getD_entV]; exact hk)
theorem lookP2_rule {t kt et : TypeId} (d : β) (ht : mapB P t = some (kt, et)) (hz : zeroB P et = some (e d)) (KK : MKey P kt enc) (a : κ) (H : Own ok w0 w L) (i : Nat) {b : Nat} (hi : L[i]? = some (.obj b (mapOk enc (entV e l)))) (hk : K (.tuple #[e ((getA a l).getD d), .bool (getA a l).isSome]) w) : nLookup P g t (.map (some b)) (enc a) true w K :=
  lookup_rule2 ht hz KK a H i hi (by rw [getD_entV, isSome_entV]; exact hk)
theorem updP_rule {t kt et : TypeId} (ht : mapB P t = some (kt, et)) (KK : MKey P kt enc) (a : κ) (v : β) (H : Own ok w0 w L) (i : Nat) {b : Nat} (hi : L[i]? = some (.obj b (mapOk enc (entV e l)))) (hk : ∀ w', Own ok w0 w' (L.set i (.obj b (mapOk enc (entV e (putA a v l))))) → K undef w') : nMapUpdate P true t (.map (some b)) (enc a) (e v) w K :=
  mapUpdate_rule ht KK a (e v) H i hi (by rw [putA_entV]; exact hk)
theorem c_updP {t kt et : TypeId} {KE : Value → List Item → Prop} (ht : mapB P t = some (kt, et)) (KK : MKey P kt enc) (a : κ) (v : β) (i : Nat) {b : Nat} (hi : L[i]? = some (.obj b (mapOk enc (entV e l)))) (hk : KE undef (L.set i (.obj b (mapOk enc (entV e (putA a v l)))))) : cMapUpdate P true t (.map (some b)) (enc a) (e v) ok w0 L KE :=
  c_mapUpdate ht KK a (e v) i hi (by rw [putA_entV]; exact hk)
theorem makeP_rule {t : TypeId} (H : Own ok w0 w L) (hk : ∀ b w', Own ok w0 w' (.obj b (mapOk enc (entV e [])) :: L) → K (.map (some b)) w') : nMakeMap P true t none w K := makeMap_rule H hk
end

end

section
variable {P : Program} {w0 : World} {g : Bool} {ok : Nat → Prop} {L : List Item}
/-- A call in an open order that changes what is owned. -/
theorem c_callH {KE : Value → List Item → Prop} {f : FuncId} {args : List Value} (G : Value → List Item → Prop) (hg : g = true) (hh : hasF (default : Hard).l f = true) (hb : bodyB P f = true) (hc : ∀ w, Own ok w0 w L → Calls P f args.toArray w fun e w' => ∃ u, e = .returned u ∧ ∃ L', G u L' ∧ Own ok w0 w' L') (hk : ∀ v L', G v L' → KE v L') : cCall P g f args ok w0 L KE := by
  subst hg
  unfold cCall
  refine cEv_in ⟨G, fun h => (by rw [hh] at h; cases h), fun w H => ⟨fun _ => ?_, fun h => by cases h⟩, fun v L' hv _ => hk v L' hv⟩
  rw [run_callFunc hb]
  refine Calls.mono (hc w H) fun e w' ⟨u, he, hu⟩ => ?_
  subst he
  exact hu
end

/-! ### Shelves of rows, and of objects behind pointers -/
theorem bsB_eqv (a b : List UInt8) : (bs a == bs b) = decide (a = b) := by
  show ((bs a).data == (bs b).data) = _
  rw [Bool.eq_iff_iff]
  simp [bs]
abbrev encS (x : List UInt8) : Value := .string (bs x)
def objO {α σ : Type} (f : Nat → α → σ → List Item) (a : Nat × α) (s : Option σ) : List Item := optL f a.1 a.2 s
def ptrA {α σ : Type} : List (Nat × α) → List (Option σ) → List (Option Addr)
  | a :: asX, s :: ss => optA a.1 s :: ptrA asX ss
  | _, _ => []
/-- Pointers, asX they are. -/
def tPtr : Ty (Option Addr) := ⟨1, fun _ _ x cs => cs = [.pointer x], fun h => by subst h; rfl, fun h v hv => by subst h; simp at hv; subst hv; rfl, fun _ h => h, fun _ h => h, fun h => h⟩
section
variable {P : Program} {w w' w0 : World} {K : Value → World → Prop} {g : Bool} {ok : Nat → Prop} {L R : List Item} {α σ κ : Type} [DecidableEq κ]
theorem Own.rowAs {A : Option Addr} {c n n' : Nat} {e : TypeId} {sz : Nat} {xs : List Value} (H : Own ok w0 w L) (i : Nat) (hi : L[i]? = some (.row (.slice A n c) e sz n xs)) (en : n = n') : Own ok w0 w (L.set i (.row (.slice A n' c) e sz n' xs)) := by
  subst en
  have e : L.set i (.row (.slice A n c) e sz n xs) = L := by
    obtain ⟨A, B, e, hs⟩ := list_split hi
    rw [hs, e]
  rw [e]; exact H
theorem Own.datAs (H : Own ok w0 w L) (i : Nat) {d d' : Dat} (hi : L[i]? = some (.dat d)) (e : d = d') : Own ok w0 w (L.set i (.dat d')) := by
  subst e
  have e : L.set i (.dat d) = L := by
    obtain ⟨A, B, e, hs⟩ := list_split hi
    rw [hs, e]
  rw [e]; exact H
/-! ### Rows of pointers, what stands behind them on a shelf -/
theorem ptrA_len : ∀ {asX : List (Nat × α)} {ss : List (Option σ)}, asX.length = ss.length → ss.length = (ptrA asX ss).length
  | [], [], _ => rfl
  | a :: asX, s :: ss, h => by
    have ih := ptrA_len (asX := asX) (ss := ss) (by simpa using h)
    show ss.length + 1 = (ptrA asX ss).length + 1
    rw [← ih]
  | [], _ :: _, h => by simp at h
  | _ :: _, [], h => by simp at h
theorem ptrA_append : ∀ {asX bs : List (Nat × α)} {ss ts : List (Option σ)}, asX.length = ss.length → ptrA (asX ++ bs) (ss ++ ts) = ptrA asX ss ++ ptrA bs ts
  | [], bs, [], ts, _ => rfl
  | a :: asX, bs, s :: ss, ts, h => by
    have ih := ptrA_append (asX := asX) (bs := bs) (ss := ss) (ts := ts) (by simpa using h)
    show optA a.1 s :: ptrA (asX ++ bs) (ss ++ ts) = optA a.1 s :: ptrA asX ss ++ ptrA bs ts
    rw [ih]; rfl
  | [], _, _ :: _, _, h => by simp at h
  | _ :: _, _, [], _, h => by simp at h
theorem Own.objsLen {f : Nat → α → σ → List Item} {asX : List (Nat × α)} {ss : List (Option σ)} (H : Own ok w0 w L) (i : Nat) (hi : L[i]? = some (box (shelfL (objO f) asX ss))) : ss.length = (ptrA asX ss).length := ptrA_len (H.shelfLen i hi)
theorem Own.nilObjs {f : Nat → α → σ → List Item} (e : TypeId) (H : Own ok w0 w L) : Own ok w0 w (box (shelfL (objO f) [] []) :: .dat (dRows tPtr (ptrA (α := α) (σ := σ) [] []) []) :: .row (.slice none ([] : List (Option σ)).length 0) e 1 ([] : List (Option σ)).length [] :: L) :=
  (H.nilRowD tPtr e).shelf0
theorem idxOff {f : Nat → α → σ → List Item} {asX : List (Nat × α)} {ss : List (Option σ)} {ix : Int} {y : Option σ} (H : Own ok w0 w (box (shelfL (objO f) asX ss) :: R)) (hx : idxL ss ix = some y) :
    ∃ b a gp, idxL (ptrA asX ss) ix = some (optA b y) ∧
      (∀ {w' : World} {R' : List Item} {a' : α} {s' : Option σ}, s'.isSome = y.isSome → Own ok w0 w' (box (optL f b a' s') :: box gp :: R') → ∃ asX', ptrA asX ss = ptrA asX' (ss.set ix.toNat s') ∧ Own ok w0 w' (box (shelfL (objO f) asX' (ss.set ix.toNat s')) :: R')) ∧
      Own ok w0 w (box (optL f b a y) :: box gp :: R) := by
  obtain ⟨h0, h1, h2⟩ := idxL_some hx
  have hj : ix.toNat < ss.length := by omega
  obtain ⟨l1, y', l2, rfl, hl⟩ := list_cut hj
  have hy : y' = y := by
    rw [← hl] at h2
    simp at h2; exact h2
  subst hy
  obtain ⟨as1, a, as2, rfl, h3, h4, H1⟩ := H.takeOff
  have hset : ∀ s' : Option σ, (l1 ++ y' :: l2).set ix.toNat s' = l1 ++ s' :: l2 := fun s' => by rw [← hl]; simp
  refine ⟨a.1, a.2, gap (objO f) as1 l1 as2 l2, ?_, fun {w' R' a' s'} hs H' => ?_, H1⟩
  · rw [ptrA_append h3]
    have hlp : (ptrA as1 l1).length = l1.length := (ptrA_len h3).symm
    obtain ⟨n, rfl⟩ : ∃ n : Nat, ix = (n : Int) := ⟨ix.toNat, by omega⟩
    rw [idxL_nat]
    have hn : n = (ptrA as1 l1).length := by rw [hlp, hl]; simp
    rw [hn, List.getElem?_append_right (Nat.le_refl _), Nat.sub_self]
    rfl
  · refine ⟨as1 ++ (a.1, a') :: as2, ?_, ?_⟩
    · rw [hset, ptrA_append h3, ptrA_append h3]
      show _ ++ optA a.1 y' :: _ = _ ++ optA a.1 s' :: _
      have : optA a.1 y' = optA a.1 s' := by
        cases y' <;> cases s' <;> first | rfl | (simp at hs)
      rw [this]
    · rw [hset]
      exact Own.putBack (f := objO f) (a := (a.1, a')) (s := s') H'
/-- .. and stays at hand. -/
theorem pushK_rule {f : Nat → α → σ → List Item} {t ty e e' : TypeId} {A : Option Addr} {c c0 b b1 : Nat} {z : Value} {asX : List (Nat × α)} {ss : List (Option σ)} {a : α} {s : σ} {cells : List Value} {consts : Array Bool} (by_ : Nat)
    (H : Own ok w0 w (.blk b [.pointer (some ⟨b1, 0, none⟩)] e' :: .dat (dRows tPtr (ptrA asX ss) cells) :: .row (.slice A ss.length c0) e 1 ss.length cells :: box (shelfL (objO f) asX ss) :: box (f b1 a s) :: R))
    (ht : sliceB P t = some e) (hinfo : infoB P e = some (some z, 1, by_)) (hzl : z.cells.toList.length = 1) (hb : (ss.length + 1) * by_ ≤ 140737488355328) (hby : Nat.blt 0 by_ = true)
    (hk : ∀ A' c' cells' w', Own ok w0 w' (.dat (dRows tPtr (ptrA (asX ++ [(b1, a)]) (ss ++ [some s])) cells') :: .row (.slice A' (ss ++ [some s]).length c') e 1 (ss ++ [some s]).length cells' :: box (f b1 a s) :: box (shelfL (objO f) asX ss) :: R) → K (.slice A' (ss ++ [some s]).length c') w') :
    nBuiltin P true .append [t, t] ty [.slice A ss.length c0, .slice (some ⟨b, 0, none⟩) 1 c] consts w K := by
  have ho := H.objsLen 3 rfl
  have hl : asX.length = ss.length := H.shelfLen 3 rfl
  refine own_append1 (k := tPtr) (z := z) (x := some ⟨b1, 0, none⟩) by_ H 1 0 rfl rfl ho rfl ht hinfo hzl rfl (by rw [← ho]; exact hb) hby fun v cs w1 H => ?_
  obtain ⟨A', c', rfl, _, _⟩ := H.rowSl 1 rfl
  have e1 : ptrA asX ss ++ [some ⟨b1, 0, none⟩] = ptrA (asX ++ [(b1, a)]) (ss ++ [some s]) := by rw [ptrA_append hl]; rfl
  have e2 : (ptrA asX ss ++ [some (⟨b1, 0, none⟩ : Addr)]).length = (ss ++ [some s]).length := by simp [← ho]
  rw [e2] at H ⊢
  rw [e1] at H
  exact hk A' c' cs w1 (H.perm (List.Perm.cons _ (List.Perm.cons _ (List.Perm.swap _ _ _))))
theorem Own.pushBack {f : Nat → α → σ → List Item} {asX : List (Nat × α)} {ss : List (Option σ)} {b1 : Nat} {a a' : α} {s s' : σ} (H : Own ok w0 w (box (f b1 a' s') :: box (shelfL (objO f) asX ss) :: R)) :
    ptrA (asX ++ [(b1, a)]) (ss ++ [some s]) = ptrA (asX ++ [(b1, a')]) (ss ++ [some s']) ∧ Own ok w0 w (box (shelfL (objO f) (asX ++ [(b1, a')]) (ss ++ [some s'])) :: R) := by
  have hl : asX.length = ss.length := H.shelfLen 1 rfl
  exact ⟨by rw [ptrA_append hl, ptrA_append hl]; rfl, Own.putNew (f := objO f) (a := (b1, a')) (s := some s') H⟩
end

/-! ### Maps of data that hang on memory -/
section
variable {P : Program} {w w' w0 : World} {K : Value → World → Prop} {g : Bool} {ok : Nat → Prop} {L R : List Item} {α κ : Type}
variable [DecidableEq κ]
end

/-! ### Calls in an open order -/
section
variable {P : Program} {w0 : World} {g : Bool} {ok : Nat → Prop} {L : List Item}
/-- A call that changes the first n of what is chosen. -/
theorem c_callM {KE : Value → List Item → Prop} {f : FuncId} {args : List Value} (is : List Nat) (n : Nat) (G : Value → List Item → Prop) (hg : g = true) (hh : hasF (default : Hard).l f = true) (hb : bodyB P f = true) (hn : nodupP L is = true)
    (hc : ∀ w, Own ok w0 w (pickI L is) → Calls P f args.toArray w fun e w' => ∃ u, e = .returned u ∧ ∃ X, G u X ∧ Own ok w0 w' (X ++ (pickI L is).drop n)) (hk : ∀ v X, G v X → KE v (X ++ (pickI L is).drop n)) : cCall P g f args ok w0 L KE := by
  refine c_callH (fun v L' => ∃ X, G v X ∧ L' = X ++ (pickI L is).drop n) hg hh hb (fun w H => (hc w (H.pickL is hn)).mono fun e w' ⟨u, he, X, hG, H'⟩ => ⟨u, he, _, ⟨X, hG, rfl⟩, H'⟩) fun v L' ⟨X, hG, hL⟩ => by subst hL; exact hk v X hG
end

section
variable {P : Program} {w w0 : World} {K : Value → World → Prop} {g : Bool} {ok : Nat → Prop} {L : List Item}
end
end Go.Eng
/- The kinds of objects, out of the program's types. -/
namespace Go.Proofs.YtfapphlhkfddoaaGreatDoor.G
open Go.RowKit Go.Eng Go.Proofs
set_option linter.unusedVariables false
set_option maxRecDepth 20000
theorem key3 : MKey Tryz.prog 3 (Value.int .i64) where
  check em a w := run_keyB (P := Tryz.prog) (w := w) (em := em) 4 10000 3 ((Value.int .i64) a) (by decide) (by kernel_rfl)
  eq a b w := by
    have h := run_eqB (P := Tryz.prog) (w := w) 4 10000 3 ((Value.int .i64) a) ((Value.int .i64) b) (a == b) (by decide) (by kernel_rfl)
    have e : (a == b) = decide (a = b) := by rw [Bool.eq_iff_iff]; simp
    rw [e] at h
    exact h
  desc := by
    have h : (match Tryz.prog.underlying 3 with | some (.int _) => true | _ => false) = true := by kernel_rfl
    split at h
    · rename_i k hu
      exact ⟨_, hu, .inl fun a b => by
        show (if IntKind.i64 = IntKind.i64 then some (a == b) else none) = _
        rw [if_pos rfl]
        congr 1⟩
    · cases h
  stays a := by
    show (IntKind.i64 == IntKind.i64 && a == a) = true
    simp
theorem key9 : MKey Tryz.prog 9 encS where
  check em a w := run_keyB (P := Tryz.prog) (w := w) (em := em) 4 10000 9 (encS a) (by decide) (by kernel_rfl)
  eq a b w := by
    have h := run_eqB (P := Tryz.prog) (w := w) 4 10000 9 (encS a) (encS b) (bs a == bs b) (by decide) (by kernel_rfl)
    have e := bsB_eqv a b
    rw [e] at h
    exact h
  desc := by
    have h : (match Tryz.prog.underlying 9 with | some .string => true | _ => false) = true := by kernel_rfl
    split at h
    · rename_i hu
      exact ⟨_, hu, .inl fun a b => congrArg some (bsB_eqv a b)⟩
    · cases h
  stays a := by
    show (bs a == bs a) = true
    rw [bsB_eqv]; simp
structure O_rekey_Round where
  me_ : Int
  v_ : D_api_View
  secret_ : List UInt8
  tree_ : List UInt8
  known_ : List ((List UInt8) × (List UInt8))
  told_ : List ((List UInt8) × Int)
  marked_ : Bool
  marks_ : List (Int × (List UInt8))
abbrev A_rekey_Round := (Option Addr) × Nat × Nat × Nat × Nat
def oL_rekey_Round (g : Nat) (a : A_rekey_Round) (s : O_rekey_Round) : List Eng.Item := [.blk g [.int .i64 s.me_, .int .i64 s.v_.1.1, .int .i64 s.v_.1.2, .slice a.1 s.v_.2.length a.2.1, .string (bs s.secret_), .string (bs s.tree_), .map (some a.2.2.1), .map (some a.2.2.2.1), .bool s.marked_, .map (some a.2.2.2.2)] 100, .dat (dSl (tInt .i64) (.slice a.1 s.v_.2.length a.2.1) s.v_.2), .obj a.2.2.1 (mapOk encS (entV encS s.known_)), .obj a.2.2.2.1 (mapOk encS (entV (Value.int .i64) s.told_)), .obj a.2.2.2.2 (mapOk (Value.int .i64) (entV encS s.marks_))]
def oU_rekey_Round (g : Nat) (a : A_rekey_Round) (s : O_rekey_Round) : List Eng.Item := [.blk g [.int .i64 s.me_, .int .i64 s.v_.1.1, .int .i64 s.v_.1.2, .slice a.1 s.v_.2.length a.2.1, .string (bs s.secret_), .string (bs s.tree_), .map (some a.2.2.1), .map (some a.2.2.2.1), .bool s.marked_, .map (some a.2.2.2.2)] 100, .dat (dSl (tInt .i64) (.slice a.1 s.v_.2.length a.2.1) s.v_.2), .obj a.2.2.1 (mapOk encS (entV encS s.known_)), .obj a.2.2.2.1 (mapOk encS (entV (Value.int .i64) s.told_)), .obj a.2.2.2.2 (mapOk (Value.int .i64) (entV encS s.marks_))]
instance seatHard : Inhabited Hard := ⟨⟨[21, 25, 27, 28, 29, 67, 206]⟩⟩
end Go.Proofs.YtfapphlhkfddoaaGreatDoor.G
