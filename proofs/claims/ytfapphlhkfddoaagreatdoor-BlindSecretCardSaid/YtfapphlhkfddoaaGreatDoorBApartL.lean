/- Terms that stand in a term; what is put together, in general. -/
import Derived.Test.YtfapphlhkfddoaaGreatDoorBlindP
import Derived.Test.YtfapphlhkfddoaaGreatDoorClimbR
namespace Go.Proofs.YtfapphlhkfddoaaGreatDoor.G
open Go.RowKit Go.Eng Go.Proofs Go.Proofs.YtfapphlhkfddoaaGreatDoor.Cut
set_option linter.unusedVariables false
set_option linter.unusedSimpArgs false

theorem part_full {s : List UInt8} {left k : Nat} (h : 0 ≤ (specE s left k).1) : ∃ x rest, s.drop k = x ++ rest ∧ (specE s left k).1 = ((k + x.length : Nat) : Int) ∧ full x left := by
  have hle := specE_le s left k h
  obtain ⟨e, he⟩ : ∃ e : Nat, (specE s left k).1 = (e : Int) := ⟨(specE s left k).1.toNat, by omega⟩
  have h1 : specE s left (k + 0) = shE k (specE (s.drop k) left 0) := specE_shift _ _ _ _
  rw [Nat.add_zero] at h1
  have hn : ¬ (specE (s.drop k) left 0).1 < 0 := by
    intro hn
    rw [h1] at h
    unfold shE at h
    rw [if_pos hn] at h
    omega
  have h2 : (specE (s.drop k) left 0).1 = ((e - k : Nat) : Int) := by
    rw [h1] at he
    unfold shE at he
    rw [if_neg hn] at he
    simp only at he
    omega
  have hl : e - k ≤ (s.drop k).length := by rw [List.length_drop]; omega
  refine ⟨(s.drop k).take (e - k), (s.drop k).drop (e - k), (List.take_append_drop _ _).symm, ?_, ?_⟩
  · rw [he, List.length_take]; omega
  · unfold full
    rw [specE_local (s := s.drop k) (t := (s.drop k).take (e - k)) (E := e - k) (by rw [List.take_take, Nat.min_self]) hl (by rw [List.length_take]; omega) left 0 (by omega) (by omega), h2, List.length_take]
    omega
theorem many_dec {s : List UInt8} {left : Nat} {p : Bool} : ∀ (n k : Nat) (last : List UInt8) (d : Nat), 0 ≤ (manyF (specE s left) s p n k last d).1 →
    ∃ (xs : List (List UInt8)) (rest : List UInt8), xs.length = n ∧ (manyF (specE s left) s p n k last d).1 = ((k + xs.flatten.length : Nat) : Int) ∧ s.drop k = xs.flatten ++ rest ∧ ∀ x ∈ xs, full x left
  | 0, k, last, d, h => ⟨[], s.drop k, rfl, rfl, rfl, fun x hx => by simp at hx⟩
  | n + 1, k, last, d, h => by
    unfold manyF at h ⊢
    by_cases hn : (specE s left k).1 < 0
    · rw [if_pos hn] at h; simp only at h; omega
    rw [if_neg hn] at h ⊢
    obtain ⟨x, rest, h1, h2, h3⟩ := part_full (s := s) (left := left) (k := k) (by omega)
    by_cases hp : (p && strLt ((s.drop k).take ((specE s left k).1.toNat - k)) last) = true
    · rw [if_pos hp] at h; simp only at h; omega
    rw [if_neg hp] at h ⊢
    obtain ⟨xs, r2, g1, g2, g3, g4⟩ := many_dec n _ _ _ h
    have he : (specE s left k).1.toNat = k + x.length := by rw [h2]; exact Int.toNat_natCast _
    refine ⟨x :: xs, r2, by rw [List.length_cons, g1], ?_, ?_, ?_⟩
    · rw [g2, he]; simp only [List.flatten_cons, List.length_append]; omega
    · rw [he, ← List.drop_drop, h1, List.drop_left] at g3
      rw [h1, g3]; simp
    · intro y hy
      rcases List.mem_cons.1 hy with q | q
      · rw [q]; exact h3
      · exact g4 y q
/-- What stands in a term that has others in it. -/
theorem full_dec {c : UInt8} {r : List UInt8} {n o : Nat} {p : Bool} {left : Nat} (ho : openT c r = some (n, p, o)) (h : full (c :: r) (left + 1)) : ∃ xs : List (List UInt8), xs.length = n ∧ (c :: r).drop o = xs.flatten ∧ ∀ x ∈ xs, full x left := by
  unfold full at h
  rw [specE_succ, List.drop_zero] at h
  replace h : (if leafN c r ≠ 0 then _ else _ : Int × Int).1 = _ := h
  rw [if_neg (by rw [leaf_open (r' := r) ho]; simp), ho] at h
  replace h : (manyF (specE (c :: r) left) (c :: r) p n (0 + o) [] 0).1 = _ := h
  obtain ⟨xs, rest, h1, h2, h3, h4⟩ := many_dec n (0 + o) [] 0 (by rw [h]; omega)
  rw [h2] at h
  rw [Nat.zero_add] at h h3
  have h5 := congrArg List.length h3
  rw [List.length_drop, List.length_append] at h5
  have hlo := openT_some ho
  have : rest = [] := List.eq_nil_of_length_eq_zero (by simp only [List.length_cons] at h h5; omega)
  rw [this, List.append_nil] at h3
  exact ⟨xs, h1, h3, h4⟩
def elemB (s : List UInt8) : Bool := rightB s && decide (s.head? = some 103 ∨ s.head? = some 101)
theorem openT_pow {r : List UInt8} {n : UInt8} : openT 101 (n :: r) = if 1 ≤ n.toNat ∧ n.toNat ≤ 32 then some (n.toNat, true, 2) else none := by
  unfold openT
  simp only
  rw [if_neg (by decide), if_neg (by decide), if_neg (by decide), if_neg (by decide), if_pos trivial]
/-- An element that is right is the generator, or a power of so many. -/
theorem elem_dec {s : List UInt8} (h : elemB s = true) : s = [103] ∨ ∃ l : List (List UInt8), s = 101 :: UInt8.ofNat l.length :: l.flatten ∧ 1 ≤ l.length ∧ l.length ≤ 32 ∧ ∀ x ∈ l, full x 399 := by
  unfold elemB at h
  rw [Bool.and_eq_true, decide_eq_true_eq] at h
  obtain ⟨hr, hh⟩ := h
  have hf := right_full hr
  match s, hh with
  | c :: r, hh =>
    simp only [List.head?_cons, Option.some.injEq] at hh
    rcases hh with rfl | rfl
    · left
      have h1 : (specE (103 :: r) 400 0).1 = 1 := by
        rw [specE_succ, List.drop_zero]
        rfl
      unfold full at hf
      rw [h1, List.length_cons] at hf
      rw [List.eq_nil_of_length_eq_zero (show r.length = 0 by omega)]
    · right
      have hf2 := hf
      unfold full at hf2
      rw [specE_succ, List.drop_zero] at hf2
      replace hf2 : (if leafN 101 r ≠ 0 then _ else _ : Int × Int).1 = _ := hf2
      rw [if_neg (by unfold leafN; simp)] at hf2
      cases ho : openT 101 r with
      | none => rw [ho] at hf2; replace hf2 : (-1 : Int) = _ := hf2; omega
      | some q =>
        obtain ⟨n, p, o⟩ := q
        match r, ho with
        | [], ho => unfold openT at ho; simp at ho
        | d :: r, ho =>
          have hq := ho
          rw [openT_pow] at hq
          by_cases hd : 1 ≤ d.toNat ∧ d.toNat ≤ 32
          · rw [if_pos hd] at hq
            cases hq
            obtain ⟨xs, h1, h2, h3⟩ := full_dec (left := 399) ho hf
            refine ⟨xs, ?_, by omega, by omega, h3⟩
            have : d = UInt8.ofNat xs.length := by rw [h1]; simp
            rw [← this]
            show 101 :: d :: r = 101 :: d :: xs.flatten
            rw [← h2]; rfl
          · rw [if_neg hd] at hq; cases hq
def wholeE (s : List UInt8) : List UInt8 × Int := if 20000 < s.length then ([], 3) else if rightB s = true then (s, 0) else ([], 4)
theorem whole_spec {s : List UInt8} (hb : s.length ≤ 140737488355328) : term_whole.f s = some (wholeE s) := by
  unfold term_whole.f wholeE
  by_cases h : 20000 < s.length
  · rw [cond_t (by omega), if_pos h]
  rw [cond_f (by omega), if_neg h, right_spec hb, Option.bind_some]
  by_cases hr : rightB s = true
  · rw [if_pos hr, hr]; rfl
  · rw [if_neg hr, show rightB s = false by simpa using hr]; rfl
theorem element_spec {s : List UInt8} (hb : s.length ≤ 140737488355328) : term_element.f s = some (elemB s) := by
  by_cases hr : rightB s = true
  · have := (rightB_len hr).1
    match s, this with
    | c :: r, _ =>
      by_cases hc : c = 103 ∨ c = 101
      · rw [element_eq hr hc]
        unfold elemB
        rw [hr, List.head?_cons]
        simp [hc]
      · have h1 : c ≠ 103 := fun e => hc (.inl e)
        have h2 : c ≠ 101 := fun e => hc (.inr e)
        unfold term_element.f elemB
        rw [right_spec hb, Option.bind_some, hr, cond_true, idxS0, Option.bind_some, show ((c.toNat : Int) == (103 : Int)) = false from byte_ne h1, cond_false, Option.bind_some, show ((c.toNat : Int) == (101 : Int)) = false from byte_ne h2]
        simp [term_element.k1, h1, h2]
  · have hr' : rightB s = false := by simpa using hr
    unfold term_element.f elemB
    rw [right_spec hb, Option.bind_some, hr', cond_false]
    rfl
/-- The power of exponents, with one more. -/
def powE (l : List (List UInt8)) (v : List UInt8) : List UInt8 × Int := if 32 < l.length + 1 then ([], 3) else wholeE (powT (l ++ [v]))
theorem power_no {x v : List UInt8} (hx : x.length ≤ 140737488355328) (hv : v.length ≤ 140737488355328) (h : ¬ (elemB x = true ∧ rightB v = true)) : term_Power.f x v = some ([], 1) := by
  unfold term_Power.f
  rw [element_spec hx, Option.bind_some]
  cases he : elemB x with
  | false => rfl
  | true =>
    show (term_Right.f v).bind _ = _
    rw [right_spec hv, Option.bind_some]
    cases hr : rightB v with
    | false => rfl
    | true => exact absurd ⟨he, hr⟩ h
theorem elem_right {x : List UInt8} (h : elemB x = true) : rightB x = true := by
  unfold elemB at h
  rw [Bool.and_eq_true] at h
  exact h.1
theorem power_yes {x v : List UInt8} {l : List (List UInt8)} (hx : elemB x = true) (hv : rightB v = true) (hl : (x = [103] ∧ l = []) ∨ (x = 101 :: UInt8.ofNat l.length :: l.flatten ∧ 1 ≤ l.length ∧ l.length ≤ 32 ∧ ∀ y ∈ l, full y 399)) : term_Power.f x v = some (powE l v) := by
  have h1 := (rightB_len (elem_right hx)).2
  have h2 := (rightB_len hv).2
  have he : term_exponents.f x = some l := by
    rcases hl with ⟨rfl, rfl⟩ | ⟨rfl, _, _, hf⟩
    · exact exponents_gen
    · simp only [List.length_cons] at h1
      exact exponents_pow (fun y hy => full_mono (hf y hy) (by omega)) (by omega)
  have hl1 : l.length ≤ 32 ∧ l.flatten.length ≤ 20000 := by
    rcases hl with ⟨rfl, rfl⟩ | ⟨rfl, _, h, _⟩
    · simp
    · simp only [List.length_cons] at h1
      exact ⟨h, by omega⟩
  unfold term_Power.f powE
  rw [element_spec (by omega), Option.bind_some, hx]
  show (term_Right.f v).bind _ = _
  rw [right_spec (by omega), Option.bind_some, hv]
  show (term_exponents.f x).bind _ = _
  have hfl : (l ++ [v]).flatten.length = l.flatten.length + v.length := by simp
  rw [he, Option.bind_some, given_of (by omega)]
  by_cases h32 : 32 < l.length + 1
  · rw [if_pos h32, if_pos h32]
  · rw [if_neg h32, if_neg h32, given_of (by rw [flatten_sortB, hfl]; omega), whole_spec (by rw [powT_len, hfl]; omega)]
end Go.Proofs.YtfapphlhkfddoaaGreatDoor.G
/- Rows and views as terms, by the program; what is made of parts. -/
namespace Go.Proofs.YtfapphlhkfddoaaGreatDoor.G
open Go.RowKit Go.Eng Go.Proofs Go.Proofs.YtfapphlhkfddoaaGreatDoor.Cut
set_option linter.unusedVariables false
set_option linter.unusedSimpArgs false
theorem putT_nil : putT [] = countedT 117 0 := rfl
theorem putT_cons (t : List UInt8) (ts : List (List UInt8)) : putT (t :: ts) = 112 :: (t ++ putT ts) := by
  unfold putT
  rw [List.reverse_cons, List.foldl_append]; rfl
def putE (l : List (List UInt8)) : List UInt8 × Int :=
  if 150 < l.length then ([], 1) else if l.any (fun t => !rightB t) = true then ([], 1) else if 20000 < (putT l).length then ([], 3) else if rightB (putT l) = true then (putT l, 0) else ([], 4)
theorem putT_len_le (n : Nat) : ∀ (l : List (List UInt8)), (∀ t ∈ l, t.length ≤ n) → (putT l).length ≤ (n + 1) * l.length + 9
  | [], _ => by simp [putT_nil, countedT, bytesOf_length]
  | a :: l, h => by
    have := putT_len_le n l (fun t ht => h t (List.mem_cons_of_mem _ ht))
    have := h a List.mem_cons_self
    rw [putT_cons, List.length_cons, List.length_append, List.length_cons, Nat.mul_add]; omega
theorem rights_of {l : List (List UInt8)} (h : ¬ l.any (fun t => !rightB t) = true) : ∀ t ∈ l, rightB t = true := by
  intro t ht
  cases hr : rightB t with
  | true => rfl
  | false => exact absurd (List.any_eq_true.2 ⟨t, ht, by rw [hr]; rfl⟩) h
theorem any_of_rights {l : List (List UInt8)} (h : ∀ t ∈ l, rightB t = true) : ¬ l.any (fun t => !rightB t) = true := by
  intro q
  obtain ⟨t, ht, hq⟩ := List.any_eq_true.1 q
  rw [h t ht] at hq; cases hq
theorem put_spec {l : List (List UInt8)} (hb : ∀ t ∈ l, t.length ≤ 140737488355328) : list_Put.f l = some (putE l) := by
  unfold list_Put.f putE
  by_cases h1 : 150 < l.length
  · rw [if_pos h1, if_pos h1]
  rw [if_neg h1, if_neg h1, given_of (fun t ht => ⟨_, right_spec (hb t ht)⟩)]
  have hrt : ∀ t ∈ l, rightT t = rightB t := fun t ht => by unfold rightT; rw [right_spec (hb t ht)]; rfl
  have hany : l.any (fun t => !rightT t) = l.any (fun t => !rightB t) := by
    rw [Bool.eq_iff_iff, List.any_eq_true, List.any_eq_true]
    constructor
    · rintro ⟨t, ht, q⟩; exact ⟨t, ht, by rw [← hrt t ht]; exact q⟩
    · rintro ⟨t, ht, q⟩; exact ⟨t, ht, by rw [hrt t ht]; exact q⟩
  rw [hany]
  by_cases h2 : l.any (fun t => !rightB t) = true
  · rw [if_pos h2, if_pos h2]
  rw [if_neg h2, if_neg h2]
  have hr := rights_of h2
  have hlen := putT_len_le 20000 l (fun t ht => (rightB_len (hr t ht)).2)
  rw [given_of (by omega)]
  by_cases h3 : 20000 < (putT l).length
  · rw [if_pos h3, if_pos h3]
  rw [if_neg h3, if_neg h3, right_spec (by omega), Option.bind_some]
  cases rightB (putT l) <;> rfl
theorem ok_putE {l : List (List UInt8)} (h1 : l.length ≤ 150) (h2 : ∀ t ∈ l, rightB t = true) (h3 : rightB (putT l) = true) : putE l = (putT l, 0) := by
  unfold putE
  rw [if_neg (by omega), if_neg (any_of_rights h2), if_neg (by have := (rightB_len h3).2; omega), if_pos h3]
/-- A row of right ones is right, if it is not too long nor too deep. -/
theorem full_put {left : Nat} : ∀ (l : List (List UInt8)), (∀ t ∈ l, full t left) → 1 ≤ left → full (putT l) (left + l.length)
  | [], _, h1 => by
    have h : full (countedT 117 0) 1 := by
      unfold full
      rw [specE_succ, List.drop_zero]
      show (if leafN 117 (bytesOf 0 8) ≠ 0 then _ else _ : Int × Int).1 = _
      have h : leafN 117 (bytesOf 0 8) = 9 := by unfold leafN; rw [bytesOf_length]; rfl
      rw [h, if_pos (by simp)]
      simp [countedT, bytesOf_length]
    exact full_mono h (by simpa using h1)
  | t :: l, hf, h1 => by
    have ih := full_put l (fun x hx => hf x (List.mem_cons_of_mem _ hx)) h1
    have ht := full_mono (hf t List.mem_cons_self) (show left ≤ left + l.length by omega)
    rw [putT_cons, List.length_cons, ← Nat.add_assoc]
    refine full_of (n := 2) (o := 1) (p := false) (h := [112]) (l := []) (xs := [t, putT l]) ?_ (by simp) rfl rfl (fun x hx => ?_) (fun hp => by cases hp)
    · unfold openT
      rw [if_neg (by decide), if_neg (by decide), if_pos (by decide)]
    · rcases List.mem_cons.1 hx with q | q
      · rw [q]; exact ht
      · rw [List.mem_singleton.1 q]; exact ih
theorem full_number (x : Int) : full (countedT 117 x) 1 := by
  unfold full
  rw [specE_succ, List.drop_zero]
  show (if leafN 117 (bytesOf x 8) ≠ 0 then _ else _ : Int × Int).1 = _
  have h : leafN 117 (bytesOf x 8) = 9 := by unfold leafN; rw [bytesOf_length]; rfl
  rw [h, if_pos (by simp)]
  simp [countedT, bytesOf_length]
/-- A short row of numbers is a term. -/
theorem put_numbers {l : List (List UInt8)} (h : ∀ t ∈ l, ∃ n, t = countedT 117 n) (hl : l.length ≤ 150) : putE l = (putT l, 0) := by
  have hf : ∀ t ∈ l, full t 1 := fun t ht => by obtain ⟨n, rfl⟩ := h t ht; exact full_number n
  have hlen := putT_len_le 9 l (fun t ht => by obtain ⟨n, rfl⟩ := h t ht; simp [countedT, bytesOf_length])
  exact ok_putE hl (fun t ht => full_right (full_mono (hf t ht) (by omega)) (by obtain ⟨n, rfl⟩ := h t ht; simp [countedT, bytesOf_length])) (full_right (full_mono (full_put l hf (by omega)) (by omega)) (by omega))
/-- What is made of parts. -/
def ofE (c : List UInt8) (xs : List (List UInt8)) : List UInt8 × Int := if xs.all rightB = true then wholeE (c ++ xs.flatten) else ([], 1)
theorem wholeE_len (q : List UInt8) : (wholeE q).1.length ≤ 20000 := by
  unfold wholeE
  split
  · simp
  · split
    · simp only; omega
    · simp
theorem ofE_len (c : List UInt8) (xs : List (List UInt8)) : (ofE c xs).1.length ≤ 20000 := by
  unfold ofE
  split
  · exact wholeE_len _
  · simp
theorem of_loop {xs : List (List UInt8)} (hx : ∀ x ∈ xs, x.length ≤ 140737488355328) (hn : xs.length ≤ 1000) (body : List UInt8 → Int → Option (((List UInt8) × Int) ⊕ ((List UInt8) ⊕ ((List UInt8) × Int))))
    (hb : ∀ c (i : Nat), body c (i : Int) = if h : i < xs.length then (if rightB xs[i] = true then roomM 1 (c.length + xs[i].length) (some (.inl (c ++ xs[i], ((i + 1 : Nat) : Int)))) else some (.inr (.inr ([], 1)))) else some (.inr (.inl c))) :
    ∀ k i c, i + k = xs.length → c.length ≤ 20000 * i + 1 → loopM (fun s : (List UInt8) × Int => body s.1 s.2) (c, (i : Int)) = some (if (xs.drop i).all rightB = true then .inl (c ++ (xs.drop i).flatten) else .inr ([], 1)) := by
  intro k
  induction k with
  | zero =>
    intro i c hi hc
    refine loop_end ?_
    show body c (i : Int) = _
    rw [hb, dif_neg (by omega), List.drop_of_length_le (by omega)]; simp
  | succ k ih =>
    intro i c hi hc
    have hil : i < xs.length := by omega
    rw [List.drop_eq_getElem_cons hil, List.all_cons]
    by_cases hr : rightB xs[i] = true
    · have hl := (rightB_len hr).2
      have := ih (i + 1) (c ++ xs[i]) (by omega) (by rw [List.length_append]; omega)
      rw [hr, Bool.true_and, List.flatten_cons, ← List.append_assoc]
      refine loop_step ?_ this
      show body c (i : Int) = _
      rw [hb, dif_pos hil, if_pos hr, room_of (by omega)]
    · rw [show rightB xs[i] = false by simpa using hr, Bool.false_and, if_neg (by simp)]
      refine loop_end ?_
      show body c (i : Int) = _
      rw [hb, dif_pos hil, if_neg hr]
theorem of_spec {c : UInt8} {xs : List (List UInt8)} (hx : ∀ x ∈ xs, x.length ≤ 140737488355328) (hn : xs.length ≤ 1000) : term_of.f [c] xs = some (ofE [c] xs) := by
  have hb : ∀ d (i : Nat), term_of.b1 xs d (i : Int) = if h : i < xs.length then (if rightB xs[i] = true then roomM 1 (d.length + xs[i].length) (some (.inl (d ++ xs[i], ((i + 1 : Nat) : Int)))) else some (.inr (.inr ([], 1)))) else some (.inr (.inl d)) := by
    intro d i
    unfold term_of.b1
    by_cases h : i < xs.length
    · rw [cond_t (by omega), dif_pos h, idxL_lt h, Option.bind_some, right_spec (hx _ (List.getElem_mem h)), Option.bind_some]
      by_cases hr : rightB xs[i] = true
      · rw [hr, if_pos rfl, wrap1 i (by omega)]; rfl
      · rw [if_neg hr, show rightB xs[i] = false by simpa using hr]; rfl
    · rw [cond_f (by omega), dif_neg h]
  have h := of_loop hx hn (term_of.b1 xs) hb xs.length 0 [c] (by omega) (by simp)
  unfold term_of.f ofE
  rw [show loopM (fun s147 : (List UInt8) × Int => term_of.b1 xs s147.1 s147.2) ([c], (0 : Int)) = _ from h, List.drop_zero]
  by_cases hr : xs.all rightB = true
  · rw [if_pos hr, if_pos hr]
    show (term_whole.f _).bind _ = _
    have hl : ∀ q : List (List UInt8), (∀ x ∈ q, rightB x = true) → q.flatten.length ≤ 20000 * q.length := by
      intro q
      induction q with
      | nil => intro _; simp
      | cons y q ih =>
        intro hq
        have := (rightB_len (hq y List.mem_cons_self)).2
        have := ih fun z hz => hq z (List.mem_cons_of_mem _ hz)
        simp only [List.flatten_cons, List.length_append, List.length_cons]; omega
    have := hl xs (fun x hx => List.all_eq_true.1 hr x hx)
    rw [whole_spec (by rw [List.length_append]; simp only [List.length_cons, List.length_nil]; omega)]; rfl
  · rw [if_neg hr, if_neg hr]; rfl
theorem has_eq (xs : List Int) (p : Int) (hl : xs.length ≤ 1000000000) : view_Has.f xs p = some (decide (p ∈ xs)) := by
  unfold view_Has.f slices_Contains_int_int.f
  by_cases h : p ∈ xs
  · obtain ⟨i, h1, h2, h3⟩ := index_eq xs p hl h
    rw [h3, decide_eq_true h]
    show some (decide ((i : Int) ≥ 0)) = _
    rw [decide_eq_true (by omega)]
  · have hL : slices_Index_int_int.f xs p = some (-1) := by
      unfold slices_Index_int_int.f
      have go : ∀ k i, i + k = xs.length → loopM (fun s91 : Int => slices_Index_int_int.b1 xs p s91) (i : Int) = some (Sum.inl ()) := by
        intro k
        induction k with
        | zero =>
          intro i hi
          refine loop_end ?_
          show slices_Index_int_int.b1 xs p (i : Int) = _
          unfold slices_Index_int_int.b1
          rw [cond_f (by omega)]
        | succ k ih =>
          intro i hi
          have hil : i < xs.length := by omega
          refine loop_step ?_ (ih (i + 1) (by omega))
          show slices_Index_int_int.b1 xs p (i : Int) = _
          unfold slices_Index_int_int.b1
          rw [cond_t (by omega), idxL_lt hil, Option.bind_some, show (p == xs[i]) = false from beq_eq_false_iff_ne.2 (fun e => h (by rw [e]; exact List.getElem_mem hil)), cond_false, wrap1 i (by omega)]
      rw [show loopM (fun s91 : Int => slices_Index_int_int.b1 xs p s91) (0 : Int) = _ from go xs.length 0 (by omega)]
      rfl
    rw [hL, decide_eq_false h]; rfl
/-- A view that is right. -/
def rightV (v : D_api_View) : Bool := rowB v.2 && (decide (v.1.2 ∈ v.2) && (decide (0 ≤ v.1.1) && decide (v.1.1 ≤ 2147483647)))
theorem viewRight_eq (v : D_api_View) (hl : v.2.length ≤ 1000000000) : view_Right.f v = some (rightV v) := by
  unfold view_Right.f rightV
  rw [row_eq v.2 hl, Option.bind_some]
  cases rowB v.2 with
  | false => rfl
  | true =>
    rw [cond_true, has_eq _ _ hl, Option.bind_some]
    unfold view_Right.k1
    simp only [ge_iff_le, Bool.cond_true_left, Bool.true_and]
    cases decide (v.1.2 ∈ v.2) <;> cases decide (0 ≤ v.1.1) <;> rfl
/-- The numbers of a view's message. -/
def viewNs (v : D_api_View) : List Int := [0, v.1.1, v.1.2, 0, 0, 0, (v.2.length : Int)] ++ v.2
def viewL (v : D_api_View) : List (List UInt8) := (viewNs v).map fun n => countedT 117 (IntKind.u64.wrap n)
theorem put_nil : putE [] = (countedT 117 0, 0) := put_numbers (l := []) (fun t ht => by simp at ht) (by simp)
theorem map_loop (ns : List Int) (hl : ns.length ≤ 1000000) (g : Int → List UInt8) (body : List (List UInt8) → Int → Option (((List (List UInt8)) × Int) ⊕ (List (List UInt8))))
    (hb : ∀ acc (i : Nat), i ≤ ns.length → body acc (i : Int) = if h : i < ns.length then roomM 16 (acc.length + 1) (some (.inl (acc ++ [g ns[i]], ((i + 1 : Nat) : Int)))) else some (.inr acc)) :
    loopM (fun s : (List (List UInt8)) × Int => body s.1 s.2) (([] : List (List UInt8)), (0 : Int)) = some (ns.map g) := by
  have go : ∀ k i, i + k = ns.length → loopM (fun s : (List (List UInt8)) × Int => body s.1 s.2) ((ns.take i).map g, (i : Int)) = some (ns.map g) := by
    intro k
    induction k with
    | zero =>
      intro i hi
      refine loop_end ?_
      show body ((ns.take i).map g) (i : Int) = _
      rw [hb _ i (by omega), dif_neg (by omega), List.take_of_length_le (by omega)]
    | succ k ih =>
      intro i hi
      have hil : i < ns.length := by omega
      refine loop_step ?_ (ih (i + 1) (by omega))
      show body ((ns.take i).map g) (i : Int) = _
      rw [hb _ i (by omega), dif_pos hil, room_of (by rw [List.length_map, List.length_take]; omega)]
      congr 3
      rw [← take_snoc hil, List.map_append]; rfl
  have := go ns.length 0 (by omega)
  simpa using this
theorem listRight_view {v : D_api_View} (hv : rightV v = true) : list_Right.f (0, v.1, (0, 0), 0, v.2, []) = some true := by
  unfold rightV at hv
  simp only [Bool.and_eq_true, decide_eq_true_eq] at hv
  obtain ⟨hr, hm, he, he2⟩ := hv
  have hrow := (rowB_iff v.2).1 hr
  have hlen : v.2.length ≤ 8 := by
    by_cases h : v.2.length ≤ 8
    · exact h
    · exfalso
      have hp := List.pairwise_iff_getElem.1 hrow.2.2
      have h8 : ∀ k (hk : k < v.2.length), (k : Int) + 1 ≤ v.2[k] := by
        intro k
        induction k with
        | zero => intro hk; have := (hrow.2.1 _ (List.getElem_mem hk)).1; omega
        | succ k ih => intro hk; have := ih (by omega); have := hp k (k + 1) (by omega) hk (by omega); omega
      have := h8 8 (by omega)
      have := (hrow.2.1 _ (List.getElem_mem (show 8 < v.2.length by omega))).2
      omega
  have hc := hrow.2.1 _ hm
  have hL : ∀ k i last, i + k = v.2.length → (∃ l, rowRes last (v.2.drop i) = .inl l) → loopM (fun s103 : Int × Int => list_Right.b1 (0, v.1, (0, 0), 0, v.2, []) s103.1 s103.2) (last, (i : Int)) = some (Sum.inl ()) := by
    intro k
    induction k with
    | zero =>
      intro i last hi _
      refine loop_end ?_
      show list_Right.b1 (0, v.1, (0, 0), 0, v.2, []) last (i : Int) = _
      unfold list_Right.b1
      rw [cond_f (by simp only; omega)]
    | succ k ih =>
      rintro i last hi ⟨l, hl⟩
      have hil : i < v.2.length := by omega
      rw [List.drop_eq_getElem_cons hil] at hl
      unfold rowRes at hl
      by_cases hcnd : v.2[i] ≤ last ∨ 8 < v.2[i]
      · rw [if_pos hcnd] at hl; cases hl
      rw [if_neg hcnd] at hl
      refine loop_step ?_ (ih (i + 1) v.2[i] (by omega) ⟨l, hl⟩)
      show list_Right.b1 (0, v.1, (0, 0), 0, v.2, []) last (i : Int) = _
      unfold list_Right.b1
      simp only
      rw [cond_t (by omega), idxL_lt hil, Option.bind_some, decide_eq_false (fun h => hcnd (.inl h)), cond_false, cond_f (fun h => hcnd (.inr h)), wrap1 i (by omega)]
  have h0 : ∃ l, rowRes 0 v.2 = .inl l := by
    unfold rowB at hr
    cases hq : rowRes 0 v.2 with
    | inl l => exact ⟨l, rfl⟩
    | inr b =>
      rw [hq] at hr
      simp only at hr
      rcases rowRes_iff v.2 0 with ⟨l, h1, _⟩ | ⟨h1, h2⟩ | h
      · rw [hq] at h1; cases h1
      · rw [hq] at h1; cases h1; cases hr
      · omega
  have h1 := hL v.2.length 0 0 (by omega) (by rw [List.drop_zero]; exact h0)
  unfold list_Right.f
  rw [show loopM (fun s103 : Int × Int => list_Right.b1 (0, v.1, (0, 0), 0, v.2, []) s103.1 s103.2) ((0 : Int), (0 : Int)) = _ from h1]
  show list_Right.k3 (0, v.1, (0, 0), 0, v.2, []) = _
  unfold list_Right.k3
  simp only
  rw [put_spec (by simp), put_nil]
  unfold list_right.f
  simp only [Option.bind_some]
  rw [decide_eq_true (show v.1.1 ≥ 0 from he), decide_eq_true he2, decide_eq_true (show v.1.2 ≥ 0 by omega), decide_eq_true hc.2]
  rfl
theorem viewL_num (v : D_api_View) : ∀ t ∈ viewL v, ∃ n, t = countedT 117 n := fun t ht => by
  obtain ⟨n, _, rfl⟩ := List.mem_map.1 ht
  exact ⟨_, rfl⟩
theorem viewL_len (v : D_api_View) : (viewL v).length = v.2.length + 7 := by simp [viewL, viewNs]
def viewE (v : D_api_View) : List UInt8 × Int := if rightV v = true then (putT (viewL v), 0) else ([], 1)
theorem viewTerm_eq (v : D_api_View) (hl : v.2.length ≤ 100) : view_Term.f v = some (viewE v) := by
  unfold view_Term.f viewE
  rw [show ((v.1.1, v.1.2), v.2) = v from rfl, viewRight_eq v (by omega), Option.bind_some]
  by_cases hv : rightV v = true
  · rw [if_pos hv, hv, Bool.not_true, cond_false]
    unfold list_Pack.f
    simp only
    rw [show ((0 : Int), (v.1.1, v.1.2), ((0 : Int), (0 : Int)), (0 : Int), v.2, ([] : List (List UInt8))) = (0, v.1, (0, 0), 0, v.2, []) from rfl, listRight_view hv, Option.bind_some, Bool.not_true, cond_false, room_of (by simp; omega)]
    have hnl : (viewNs v).length = v.2.length + 7 := by simp [viewNs]
    have hL := map_loop (viewNs v) (by omega) (fun n => countedT 117 (IntKind.u64.wrap n)) (list_Pack.b1 (0, v.1, (0, 0), 0, v.2, [])) fun acc i hi => by
      unfold list_Pack.b1
      simp only
      show cond (decide ((i : Int) < ((viewNs v).length : Int))) ((idxL (viewNs v) (i : Int)).bind _) _ = _
      by_cases h : i < (viewNs v).length
      · rw [cond_t (by omega), dif_pos h, idxL_lt h, Option.bind_some]
        unfold term_Number.f
        rw [Option.bind_some, wrap1 i (by omega)]
      · rw [cond_f (by omega), dif_neg h]
    rw [hL, Option.bind_some]
    unfold list_Pack.k2
    simp only
    rw [List.append_nil, room_of (by simp [viewNs]; omega)]
    rw [show (viewNs v).map (fun n => countedT 117 (IntKind.u64.wrap n)) = viewL v from rfl, put_spec (fun t ht => by obtain ⟨n, rfl⟩ := viewL_num v t ht; simp [countedT, bytesOf_length]), put_numbers (viewL_num v) (by rw [viewL_len]; omega)]
    rfl
  · rw [if_neg hv, show rightV v = false by simpa using hv]; rfl
theorem rightB_put (v : D_api_View) (hl : v.2.length ≤ 100) : rightB (putT (viewL v)) = true := by
  have hf : ∀ t ∈ viewL v, full t 1 := fun t ht => by obtain ⟨n, rfl⟩ := viewL_num v t ht; exact full_number n
  have hlen := putT_len_le 9 (viewL v) (fun t ht => by obtain ⟨n, rfl⟩ := viewL_num v t ht; simp [countedT, bytesOf_length])
  have := viewL_len v
  exact full_right (full_mono (full_put _ hf (by omega)) (by omega)) (by omega)
end Go.Proofs.YtfapphlhkfddoaaGreatDoor.G
/- BlindApart, as it is reckoned. -/
namespace Go.Proofs.YtfapphlhkfddoaaGreatDoor.G
open Go.RowKit Go.Eng Go.Proofs Go.Proofs.YtfapphlhkfddoaaGreatDoor.Cut
set_option linter.unusedVariables false
set_option linter.unusedSimpArgs false

theorem full_pairT {t x : List UInt8} {left : Nat} (ht : full t left) (hx : full x left) : full (112 :: (t ++ x)) (left + 1) := by
  refine full_of (n := 2) (o := 1) (p := false) (h := [112]) (l := []) (xs := [t, x]) ?_ (by simp) rfl rfl (fun y hy => ?_) (fun hp => by cases hp)
  · unfold openT
    rw [if_neg (by decide), if_neg (by decide), if_pos (by decide)]
  · rcases List.mem_cons.1 hy with q | q
    · rw [q]; exact ht
    · rw [List.mem_singleton.1 q]; exact hx
theorem full_hash {x : List UInt8} {left : Nat} (hx : full x left) : full (104 :: x) (left + 1) := by
  refine full_of (n := 1) (o := 1) (p := false) (h := [104]) (l := []) (xs := [x]) ?_ (by simp) rfl rfl (fun y hy => ?_) (fun hp => by cases hp)
  · unfold openT
    simp
  · rw [List.mem_singleton.1 hy]; exact hx
theorem whole_of {s : List UInt8} (h : full s 400) (hl : s.length ≤ 20000) : wholeE s = (s, 0) := by
  unfold wholeE
  rw [if_neg (by omega), if_pos (full_right h hl)]
/-- The term of a view. -/
theorem view_full (v : D_api_View) (hl : v.2.length ≤ 100) : full (putT (viewL v)) (v.2.length + 8) ∧ (putT (viewL v)).length ≤ 10 * (v.2.length + 7) + 9 := by
  have hf : ∀ t ∈ viewL v, full t 1 := fun t ht => by obtain ⟨n, rfl⟩ := viewL_num v t ht; exact full_number n
  have hlen := putT_len_le 9 (viewL v) (fun t ht => by obtain ⟨n, rfl⟩ := viewL_num v t ht; simp [countedT, bytesOf_length])
  have hn := viewL_len v
  refine ⟨full_mono (full_put _ hf (by omega)) (by omega), by rw [hn] at hlen; exact hlen⟩
theorem group_of {v : D_api_View} {x : List UInt8} (hv : rightV v = true) (hl : v.2.length ≤ 100) (hx : full x 398) (hxl : x.length ≤ 1000) : blind_Group.f v x = some (104 :: 112 :: (putT (viewL v) ++ x), 0) := by
  obtain ⟨f, l⟩ := view_full v hl
  have f1 := full_mono f (show v.2.length + 8 ≤ 398 by omega)
  have fp := full_pairT f1 hx
  have fh := full_hash fp
  unfold blind_Group.f
  rw [show ((v.1.1, v.1.2), v.2) = v from rfl, viewTerm_eq v hl, Option.bind_some]
  unfold viewE
  rw [if_pos hv]
  generalize putT (viewL v) = t at f1 fp fh l
  have e1 : ofE [112] [t, x] = (112 :: (t ++ x), 0) := by
    unfold ofE
    rw [if_pos (by simp [full_right (full_mono f1 (show 398 ≤ 400 by omega)) (show t.length ≤ 20000 by omega), full_right (full_mono hx (show 398 ≤ 400 by omega)) (show x.length ≤ 20000 by omega)])]
    rw [show [112] ++ [t, x].flatten = 112 :: (t ++ x) by simp, whole_of (full_mono fp (by omega)) (by simp; omega)]
  have e2 : ofE [104] [112 :: (t ++ x)] = (104 :: 112 :: (t ++ x), 0) := by
    unfold ofE
    rw [if_pos (by simp [full_right (full_mono fp (show 399 ≤ 400 by omega)) (show (112 :: (t ++ x)).length ≤ 20000 by simp; omega)])]
    rw [show [104] ++ [112 :: (t ++ x)].flatten = 104 :: 112 :: (t ++ x) by simp, whole_of fh (by simp; omega)]
  have hp : term_Pair.f t x = some (112 :: (t ++ x), 0) := by
    unfold term_Pair.f
    rw [of_spec (by
      intro y hy
      rcases List.mem_cons.1 hy with q | q
      · rw [q]; omega
      · rw [List.mem_singleton.1 q]; omega) (by simp), e1]; rfl
  have hh : term_Hash.f (112 :: (t ++ x)) = some (104 :: 112 :: (t ++ x), 0) := by
    unfold term_Hash.f
    rw [of_spec (by
      intro y hy
      rw [List.mem_singleton.1 hy]; simp; omega) (by simp), e2]; rfl
  show (term_Pair.f t x).bind _ = _
  rw [hp, Option.bind_some]
  show (term_Hash.f (112 :: (t ++ x))).bind _ = _
  rw [hh]; rfl
theorem group_inj {v v' : D_api_View} {x x' : List UInt8} (h1 : v.2.length ≤ 100) (h2 : v'.2.length ≤ 100) (h : (104 : UInt8) :: 112 :: (putT (viewL v) ++ x) = 104 :: 112 :: (putT (viewL v') ++ x')) : putT (viewL v) = putT (viewL v') ∧ x = x' := by
  obtain ⟨f, l⟩ := view_full v h1
  obtain ⟨f', l'⟩ := view_full v' h2
  have h := (List.cons.inj (List.cons.inj h).2).2
  exact full_cancel (full_mono f (show v.2.length + 8 ≤ 200 by omega)) (full_mono f' (show v'.2.length + 8 ≤ 200 by omega)) h
/-- Of another first number the term is another. -/
theorem view_first {a b c : Int} {m : List Int} (ha : 0 ≤ a ∧ a ≤ 1000) (hb : 0 ≤ b ∧ b ≤ 1000) (h : putT (viewL ((a, c), m)) = putT (viewL ((b, c), m))) : a = b := by
  have e : ∀ q : Int, putT (viewL ((q, c), m)) = 112 :: (countedT 117 0 ++ 112 :: (countedT 117 (IntKind.u64.wrap q) ++ putT (([c, 0, 0, 0, (m.length : Int)] ++ m).map fun n => countedT 117 (IntKind.u64.wrap n)))) := by
    intro q
    show putT (countedT 117 (IntKind.u64.wrap 0) :: countedT 117 (IntKind.u64.wrap q) :: ([c, 0, 0, 0, (m.length : Int)] ++ m).map fun n => countedT 117 (IntKind.u64.wrap n)) = _
    rw [putT_cons, putT_cons]
    rfl
  rw [e, e] at h
  have h := (List.cons.inj h).2
  have h := (List.cons.inj (List.append_cancel_left h)).2
  have h := (List.append_inj h (by simp [countedT, bytesOf_length])).1
  have w : ∀ q : Int, 0 ≤ q ∧ q ≤ 1000 → IntKind.u64.wrap q = q := by
    intro q hq
    have : IntKind.u64.wrap q = q % 18446744073709551616 := by simp [IntKind.wrap, IntKind.bits, IntKind.signed]
    omega
  rw [w a ha, w b hb] at h
  exact name_inj (by omega) (by omega) h
/-- Of the same secret, the same names. -/
theorem sec_perm {nm nm' : Int → List UInt8} : ∀ (S S' : Tr), smallT nm S → smallT nm' S' → secT nm S = secT nm' S' → (S.leavesR.map nm).Perm (S'.leavesR.map nm')
  | .leaf p, .leaf q, _, _, h => by
    have h : nm p = nm' q := h
    show [nm p].Perm [nm' q]
    rw [h]
  | .leaf p, .two l r, h1, h2, h => by
    have l1 := (secT_full (.leaf p) h1.1).2
    have l2 := (secT_full (.two l r) h2.1).2
    have p1 := leavesR_pos l
    have p2 := leavesR_pos r
    have e1 : (Tr.leaf p).leavesR.length = 1 := rfl
    have e2 : (Tr.two l r).leavesR.length = r.leavesR.length + l.leavesR.length := by simp [Tr.leavesR]
    have := congrArg List.length h
    omega
  | .two l r, .leaf p, h2, h1, h => by
    have l1 := (secT_full (.leaf p) h1.1).2
    have l2 := (secT_full (.two l r) h2.1).2
    have p1 := leavesR_pos l
    have p2 := leavesR_pos r
    have e1 : (Tr.leaf p).leavesR.length = 1 := rfl
    have e2 : (Tr.two l r).leavesR.length = r.leavesR.length + l.leavesR.length := by simp [Tr.leavesR]
    have := congrArg List.length h
    omega
  | .two l r, .two l' r', h1, h2, h => by
    obtain ⟨a1, a2⟩ := small_two h1
    obtain ⟨b1, b2⟩ := small_two h2
    have hp := above_perm (sec_le a1).1 (sec_le a2).1 (sec_le b1).1 (sec_le b2).1 h
    rw [leavesR_two, leavesR_two, List.map_append, List.map_append]
    by_cases e : secT nm l = secT nm' l'
    · rw [e] at hp
      have e2 := pair_cancel hp
      exact (sec_perm r r' a2 b2 e2).append (sec_perm l l' a1 b1 e)
    · have hm : secT nm l ∈ [secT nm' l', secT nm' r'] := hp.mem_iff.1 List.mem_cons_self
      have e1 : secT nm l = secT nm' r' := by
        rcases List.mem_cons.1 hm with q | q
        · exact absurd q e
        · exact List.mem_singleton.1 q
      rw [e1] at hp
      have e2 : secT nm r = secT nm' l' := pair_cancel (hp.trans (List.Perm.swap _ _ _))
      exact ((sec_perm r l' a2 b1 e2).append (sec_perm l r' a1 b2 e1)).trans List.perm_append_comm
theorem u64_mod (x : Int) : IntKind.u64.wrap x = x % 18446744073709551616 := by simp [IntKind.wrap, IntKind.bits, IntKind.signed]
theorem nm_num {x y : Int} {i j : Nat} (hi : i ≤ 1000) (hj : j ≤ 1000) (h : nmAt x i = nmAt y j) : (x + i) % 18446744073709551616 = (y + j) % 18446744073709551616 := by
  unfold nmAt at h
  rw [u64_mod, u64_mod, u64_mod, u64_mod, Int.emod_eq_of_lt (a := (i : Int)) (by omega) (by omega), Int.emod_eq_of_lt (a := (j : Int)) (by omega) (by omega)] at h
  exact name_inj (by omega) (by omega) h
/-- Of other names another secret. -/
theorem root_apart {T : Tr} (hk : T.ok) (hn : T.leavesR.Nodup) {x y : Int} (hx : 0 ≤ x ∧ x < 18446744073709551616) (hy : 0 ≤ y ∧ y < 18446744073709551616)
    (h : secT (nmOf (sortZ T.leavesR) x) T = secT (nmOf (sortZ T.leavesR) y) T) : x = y := by
  have h8 := leaves_eight hk hn
  have hpos := leavesR_pos T
  have hsl := sortZ_len T.leavesR
  have hnd := (sortZ_perm T.leavesR).nodup_iff.2 hn
  have hp := sec_perm T T (nm_small hk hn _ x (subT_nil T)) (nm_small hk hn _ y (subT_nil T)) h
  have hq : ((List.range (sortZ T.leavesR).length).map (nmAt x)).Perm ((List.range (sortZ T.leavesR).length).map (nmAt y)) := by
    rw [names_map hnd, names_map hnd]
    exact (((sortZ_perm T.leavesR).map _).trans hp).trans ((sortZ_perm T.leavesR).map _).symm
  have key : ∀ a b : Int, ((List.range (sortZ T.leavesR).length).map (nmAt a)).Perm ((List.range (sortZ T.leavesR).length).map (nmAt b)) → ∃ j : Nat, j < 8 ∧ a % 18446744073709551616 = (b + j) % 18446744073709551616 := by
    intro a b hab
    have hm : nmAt a 0 ∈ (List.range (sortZ T.leavesR).length).map (nmAt b) := hab.mem_iff.1 (List.mem_map.2 ⟨0, List.mem_range.2 (by omega), rfl⟩)
    obtain ⟨j, hj, e⟩ := List.mem_map.1 hm
    have hj := List.mem_range.1 hj
    have := nm_num (x := b) (y := a) (i := j) (j := 0) (by omega) (by omega) e
    exact ⟨j, by omega, by simpa using this.symm⟩
  obtain ⟨i, hi, e1⟩ := key x y hq
  obtain ⟨j, hj, e2⟩ := key y x hq.symm
  omega
theorem sec_head {T : Tr} {m : List Int} {x : Int} : ∃ c r, secT (nmOf m x) T = c :: r ∧ (c = 110 ∨ c = 107) := by
  cases T with
  | leaf p => exact ⟨110, _, rfl, .inl rfl⟩
  | two l r => exact ⟨107, _, rfl, .inr rfl⟩
theorem bapart_law {x0 : List Int} {x1 x2 x3 x4 : Int} (h0 : ∀ x ∈ x0, inI64 x) (h1 : 0 ≤ x1 ∧ x1 < 18446744073709551616) (h2 : 0 ≤ x2 ∧ x2 < 18446744073709551616) (h3 : inI64 x3) (h4 : inI64 x4) : gemotlaw15_BlindApart.f x0 x1 x2 x3 x4 = some true := by
  obtain ⟨T, hk, hn, hT⟩ := made_is h0
  have h8 := leaves_eight hk hn
  have hpos := leavesR_pos T
  have hsl := sortZ_len T.leavesR
  obtain ⟨a, ha, a0, a8⟩ := pick15 (n := 100) h3 (by omega)
  obtain ⟨b, hb, b0, b8⟩ := pick15 (n := 100) h4 (by omega)
  have hroot := root_apart hk hn h1 h2
  have s1 := sec_le (nm_small hk hn (sortZ T.leavesR) x1 (subT_nil T))
  have s2 := sec_le (nm_small hk hn (sortZ T.leavesR) x2 (subT_nil T))
  obtain ⟨cc, rr, hc1, hc2⟩ := sec_head (T := T) (m := sortZ T.leavesR) (x := x1)
  unfold gemotlaw15_BlindApart.f
  rw [shown15, Option.bind_some, Bool.not_true, cond_false, hT, Option.bind_some, members_of hk hn, Option.bind_some, secrets_of hk hn, Option.bind_some, root_of hk hn, Option.bind_some, secrets_of hk hn, Option.bind_some, root_of hk hn, Option.bind_some, ha, Option.bind_some]
  have hrow : rowB (sortZ T.leavesR) = true := by
    have hl : T.leavesR ≠ [] := fun e => by rw [e] at hpos; simp at hpos
    have hr : ∀ T : Tr, T.ok → ∀ x ∈ T.leavesR, 0 < x ∧ x ≤ 8 := by
      intro T
      induction T with
      | leaf p => intro h x hx; rw [List.mem_singleton.1 hx]; have h : 1 ≤ p ∧ p ≤ 8 := h; omega
      | two l r ihl ihr =>
        intro h x hx
        rcases List.mem_append.1 hx with q | q
        · exact ihr h.2 x q
        · exact ihl h.1 x q
    exact (rowB_sort _).2 ⟨hl, hr T hk, hn⟩
  have hm0 : 0 < (sortZ T.leavesR).length := by omega
  have hg0 : idxL (sortZ T.leavesR) (0 : Int) = some (sortZ T.leavesR)[0] := idxL_lt hm0
  have hin : (sortZ T.leavesR)[0] ∈ sortZ T.leavesR := List.getElem_mem hm0
  rw [hg0, Option.bind_some, hb, Option.bind_some]
  generalize (sortZ T.leavesR)[0] = p at hin
  have hml : (sortZ T.leavesR).length ≤ 8 := by omega
  have hback : x1 = x2 → secT (nmOf (sortZ T.leavesR) x1) T = secT (nmOf (sortZ T.leavesR) x2) T := fun e => by rw [e]
  revert hroot s1 s2 hc1 hback
  generalize secT (nmOf (sortZ T.leavesR) x1) T = r1
  generalize secT (nmOf (sortZ T.leavesR) x2) T = r2
  intro hroot s1 s2 hc1 hback
  generalize sortZ T.leavesR = m at *
  have hv : ∀ y : Int, 0 ≤ y → y < 100 → rightV ((y, p), m) = true := by
    intro y y0 y1
    unfold rightV
    rw [hrow, decide_eq_true (show (((y, p), m) : D_api_View).1.2 ∈ m from hin), decide_eq_true (show (0 : Int) ≤ (((y, p), m) : D_api_View).1.1 from y0), decide_eq_true (show (((y, p), m) : D_api_View).1.1 ≤ (2147483647 : Int) from (by show y ≤ _; omega))]
    rfl
  have hg : ∀ (y : Int) (r : List UInt8), 0 ≤ y → y < 100 → full r 398 ∧ r.length ≤ 96 → blind_Group.f ((y, p), m) r = some (104 :: 112 :: (putT (viewL ((y, p), m)) ++ r), 0) :=
    fun y r y0 y1 hr => group_of (hv y y0 y1) (by show m.length ≤ 100; omega) hr.1 (by omega)
  rw [hg a r1 a0 a8 s1, Option.bind_some, hg b r1 b0 b8 s1, Option.bind_some, hg a r2 a0 a8 s2, Option.bind_some]
  have hl : ∀ y : Int, (((y, p), m) : D_api_View).2.length ≤ 100 := fun y => by show m.length ≤ 100; omega
  have e1 : decide (r1 = r2) = (x1 == x2) := by
    by_cases h : x1 = x2
    · rw [decide_eq_true (hback h), beq_iff_eq.2 h]
    · rw [decide_eq_false (fun q => h (hroot q)), beq_eq_false_iff_ne.2 h]
  have e2 : decide ((104 : UInt8) :: 112 :: (putT (viewL ((a, p), m)) ++ r1) = 104 :: 112 :: (putT (viewL ((b, p), m)) ++ r1)) = (a == b) := by
    by_cases h : a = b
    · rw [h, decide_eq_true rfl, beq_iff_eq.2 rfl]
    · rw [decide_eq_false (fun q => h (view_first ⟨a0, by omega⟩ ⟨b0, by omega⟩ (group_inj (hl a) (hl b) q).1)), beq_eq_false_iff_ne.2 h]
  have e3 : decide ((104 : UInt8) :: 112 :: (putT (viewL ((a, p), m)) ++ r1) = 104 :: 112 :: (putT (viewL ((a, p), m)) ++ r2)) = decide (r1 = r2) := by
    rw [decide_eq_decide]
    exact ⟨fun q => (group_inj (hl a) (hl a) q).2, fun q => by rw [q]⟩
  have e4 : ¬ ((104 : UInt8) :: 112 :: (putT (viewL ((a, p), m)) ++ r1) = r1) := by
    intro q
    rw [hc1] at q
    have := (List.cons.inj q).1
    rcases hc2 with h | h <;> rw [h] at this <;> cases this
  simp only [strEq_eq]
  rw [e3, e2, decide_eq_false e4, e1]
  simp
theorem bapart_row {ok : Nat → Prop} {w : World} {u0 : Value} {x0 : List Int} {x1 x2 x3 x4 : Int} (hu : slR (tInt .i64) w ok u0 x0) (h0 : ∀ x ∈ x0, inI64 x) (h1 : 0 ≤ x1 ∧ x1 < 18446744073709551616) (h2 : 0 ≤ x2 ∧ x2 < 18446744073709551616) (h3 : inI64 x3) (h4 : inI64 x4) :
    Calls Tryz.prog 3 #[u0, .int .u64 x1, .int .u64 x2, .int .i64 x3, .int .i64 x4] w fun e w' => ∃ r, e = .returned r ∧ r = .bool true ∧ Below w.heap.size w w' :=
  (gemotlaw15_BlindApart_ok hu (bapart_law h0 h1 h2 h3 h4)).mono fun e w' ⟨v, h1, h2, h3⟩ => ⟨v, h1, h2, h3.toBelow⟩
end Go.Proofs.YtfapphlhkfddoaaGreatDoor.G
