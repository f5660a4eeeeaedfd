/- Messages that are packed, as it is reckoned: what is put together of right ones is right. -/
import Derived.Test.YtipoblinefamgaaTermPure
import Derived.Test.YtipoblinefamgaaM2
namespace Go.Proofs.Ytipoblinefamgaa.G
open Go.RowKit Go.Eng Go.Proofs Go.Proofs.Ytipoblinefamgaa.Cut
set_option linter.unusedVariables false
set_option linter.unusedSimpArgs false

/-- A text that is a term, whole, when so many calls are left. -/
def full (s : List UInt8) (left : Nat) : Prop := (specE s left 0).1 = (s.length : Int)
theorem full_mono {s : List UInt8} {l m : Nat} (h : full s l) (hm : l ≤ m) : full s m := by
  unfold full at *
  rw [specE_mono hm (by rw [h]; omega)]; exact h
theorem full_right {s : List UInt8} (h : full s 400) (hl : s.length ≤ 20000) : rightB s = true := by
  unfold rightB; rw [decide_eq_true_eq]; exact ⟨h, hl⟩
theorem full_at {p s r : List UInt8} {left : Nat} (h : full s left) : (specE (p ++ s ++ r) left p.length).1 = ((p.length + s.length : Nat) : Int) := by
  have h1 : specE (p ++ s ++ r) left (p.length + 0) = shE p.length (specE ((p ++ s ++ r).drop p.length) left 0) := specE_shift _ _ _ _
  have h2 : (p ++ s ++ r).drop p.length = s ++ r := by rw [List.append_assoc, List.drop_left]
  have h3 : specE (s ++ r) left 0 = specE s left 0 := specE_local (E := s.length) (by simp) (Nat.le_refl _) (by simp) left 0 (by rw [h]; omega) (by rw [h]; exact Int.le_refl _)
  rw [Nat.add_zero, h2, h3] at h1
  rw [h1]
  unfold shE
  rw [if_neg (by rw [h]; omega), h]
  show (s.length : Int) + (p.length : Int) = _
  omega
theorem full_many {left : Nat} (p : Bool) : ∀ (l : List (List UInt8)) (pre post last : List UInt8) (d : Nat), (∀ x ∈ l, full x left) → (p = true → (∀ x ∈ l, strLt x last = false) ∧ l.Pairwise (fun a b => strLt b a = false)) →
    (manyF (specE (pre ++ l.flatten ++ post) left) (pre ++ l.flatten ++ post) p l.length pre.length last d).1 = ((pre ++ l.flatten).length : Int)
  | [], pre, post, last, d, _, _ => by simp [manyF]
  | x :: l, pre, post, last, d, hf, hs => by
    have e : pre ++ (x :: l).flatten ++ post = (pre ++ x) ++ l.flatten ++ post := by simp
    have e1 : pre ++ (x :: l).flatten ++ post = pre ++ x ++ (l.flatten ++ post) := by simp
    have hx : (specE (pre ++ (x :: l).flatten ++ post) left pre.length).1 = ((pre.length + x.length : Nat) : Int) := by rw [e1]; exact full_at (hf x List.mem_cons_self)
    rw [List.length_cons]
    unfold manyF
    rw [if_neg (by rw [hx]; omega), hx]
    have ht : ((pre ++ (x :: l).flatten ++ post).drop pre.length).take (((pre.length + x.length : Nat) : Int).toNat - pre.length) = x := by
      rw [e1, List.append_assoc, List.drop_left, Int.toNat_natCast, Nat.add_sub_cancel_left, List.take_left]
    rw [ht]
    have hc : ¬ (p && strLt x last) = true := by
      cases p with
      | false => simp
      | true => rw [(hs rfl).1 x List.mem_cons_self]; simp
    rw [if_neg hc, Int.toNat_natCast]
    have hlen : pre.length + x.length = (pre ++ x).length := by simp
    have ih := full_many p l (pre ++ x) post x (max d (specE (pre ++ (x :: l).flatten ++ post) left pre.length).2.toNat) (fun y hy => hf y (List.mem_cons_of_mem _ hy)) (fun hp => ⟨fun y hy => (List.pairwise_cons.1 (hs hp).2).1 y hy, (List.pairwise_cons.1 (hs hp).2).2⟩)
    rw [hlen]
    rw [← e] at ih
    rw [ih]
    simp
/-- A term of others. -/
theorem full_of {c : UInt8} {r : List UInt8} {n o : Nat} {p : Bool} {left : Nat} {h l : List UInt8} {xs : List (List UInt8)} (ho : openT c r = some (n, p, o)) (hs : c :: r = h ++ xs.flatten) (hn : n = xs.length) (hh : h.length = o) (hf : ∀ x ∈ xs, full x left) (hp : p = true → xs.Pairwise (fun a b => strLt b a = false)) : full (c :: r) (left + 1) := by
  unfold full
  rw [specE_succ, List.drop_zero]
  show (if leafN c r ≠ 0 then _ else _ : Int × Int).1 = _
  rw [if_neg (by rw [leaf_open (r' := r) ho]; simp), ho]
  show (manyF (specE (c :: r) left) (c :: r) p n (0 + o) [] 0).1 = _
  have hm := full_many (left := left) p xs h [] [] 0 hf (fun hp' => ⟨fun x _ => by rw [strLt_eq]; cases x <;> rfl, hp hp'⟩)
  rw [List.append_nil, ← hs, hh, ← hn] at hm
  rw [Nat.zero_add, hm]
theorem putT_nil : putT [] = countedT 117 0 := rfl
theorem putT_cons (t : List UInt8) (ts : List (List UInt8)) : putT (t :: ts) = 112 :: (t ++ putT ts) := by
  unfold putT
  rw [List.reverse_cons, List.foldl_append]; rfl
def putE (l : List (List UInt8)) : List UInt8 × Int :=
  if 150 < l.length then ([], 1) else if l.any (fun t => !rightB t) = true then ([], 1) else if 20000 < (putT l).length then ([], 3) else if rightB (putT l) = true then (putT l, 0) else ([], 4)
theorem putT_len_le (n : Nat) : ∀ (l : List (List UInt8)), (∀ t ∈ l, t.length ≤ n) → (putT l).length ≤ (n + 1) * l.length + 9
  | [], _ => by simp [putT_nil, countedT, bytesOf_length]
  | a :: l, h => by
    have := putT_len_le n l (fun t ht => h t (List.mem_cons_of_mem _ ht))
    have := h a List.mem_cons_self
    rw [putT_cons, List.length_cons, List.length_append, List.length_cons, Nat.mul_add]; omega
theorem rights_of {l : List (List UInt8)} (h : ¬ l.any (fun t => !rightB t) = true) : ∀ t ∈ l, rightB t = true := by
  intro t ht
  cases hr : rightB t with
  | true => rfl
  | false => exact absurd (List.any_eq_true.2 ⟨t, ht, by rw [hr]; rfl⟩) h
theorem any_of_rights {l : List (List UInt8)} (h : ∀ t ∈ l, rightB t = true) : ¬ l.any (fun t => !rightB t) = true := by
  intro q
  obtain ⟨t, ht, hq⟩ := List.any_eq_true.1 q
  rw [h t ht] at hq; cases hq
theorem put_spec {l : List (List UInt8)} (hb : ∀ t ∈ l, t.length ≤ 140737488355328) : list_Put.f l = some (putE l) := by
  unfold list_Put.f putE
  by_cases h1 : 150 < l.length
  · rw [if_pos h1, if_pos h1]
  rw [if_neg h1, if_neg h1, given_of (fun t ht => ⟨_, right_spec (hb t ht)⟩)]
  have hrt : ∀ t ∈ l, rightT t = rightB t := fun t ht => by unfold rightT; rw [right_spec (hb t ht)]; rfl
  have hany : l.any (fun t => !rightT t) = l.any (fun t => !rightB t) := by
    rw [Bool.eq_iff_iff, List.any_eq_true, List.any_eq_true]
    constructor
    · rintro ⟨t, ht, q⟩; exact ⟨t, ht, by rw [← hrt t ht]; exact q⟩
    · rintro ⟨t, ht, q⟩; exact ⟨t, ht, by rw [hrt t ht]; exact q⟩
  rw [hany]
  by_cases h2 : l.any (fun t => !rightB t) = true
  · rw [if_pos h2, if_pos h2]
  rw [if_neg h2, if_neg h2]
  have hr := rights_of h2
  have hlen := putT_len_le 20000 l (fun t ht => (rightB_len (hr t ht)).2)
  rw [given_of (by omega)]
  by_cases h3 : 20000 < (putT l).length
  · rw [if_pos h3, if_pos h3]
  rw [if_neg h3, if_neg h3, right_spec (by omega), Option.bind_some]
  cases rightB (putT l) <;> rfl
theorem ok_putE {l : List (List UInt8)} (h1 : l.length ≤ 150) (h2 : ∀ t ∈ l, rightB t = true) (h3 : rightB (putT l) = true) : putE l = (putT l, 0) := by
  unfold putE
  rw [if_neg (by omega), if_neg (any_of_rights h2), if_neg (by have := (rightB_len h3).2; omega), if_pos h3]
/-- A row of right ones is right, if it is not too long nor too deep. -/
theorem full_put {left : Nat} : ∀ (l : List (List UInt8)), (∀ t ∈ l, full t left) → 1 ≤ left → full (putT l) (left + l.length)
  | [], _, h1 => by
    have h : full (countedT 117 0) 1 := by
      unfold full
      rw [specE_succ, List.drop_zero]
      show (if leafN 117 (bytesOf 0 8) ≠ 0 then _ else _ : Int × Int).1 = _
      have h : leafN 117 (bytesOf 0 8) = 9 := by unfold leafN; rw [bytesOf_length]; rfl
      rw [h, if_pos (by simp)]
      simp [countedT, bytesOf_length]
    exact full_mono h (by simpa using h1)
  | t :: l, hf, h1 => by
    have ih := full_put l (fun x hx => hf x (List.mem_cons_of_mem _ hx)) h1
    have ht := full_mono (hf t List.mem_cons_self) (show left ≤ left + l.length by omega)
    rw [putT_cons, List.length_cons, ← Nat.add_assoc]
    refine full_of (n := 2) (o := 1) (p := false) (h := [112]) (l := []) (xs := [t, putT l]) ?_ (by simp) rfl rfl (fun x hx => ?_) (fun hp => by cases hp)
    · unfold openT
      rw [if_neg (by decide), if_neg (by decide), if_pos (by decide)]
    · rcases List.mem_cons.1 hx with q | q
      · rw [q]; exact ht
      · rw [List.mem_singleton.1 q]; exact ih
theorem full_number (x : Int) : full (countedT 117 x) 1 := by
  unfold full
  rw [specE_succ, List.drop_zero]
  show (if leafN 117 (bytesOf x 8) ≠ 0 then _ else _ : Int × Int).1 = _
  have h : leafN 117 (bytesOf x 8) = 9 := by unfold leafN; rw [bytesOf_length]; rfl
  rw [h, if_pos (by simp)]
  simp [countedT, bytesOf_length]
/-- A short row of numbers is a term. -/
theorem put_numbers {l : List (List UInt8)} (h : ∀ t ∈ l, ∃ n, t = countedT 117 n) (hl : l.length ≤ 150) : putE l = (putT l, 0) := by
  have hf : ∀ t ∈ l, full t 1 := fun t ht => by obtain ⟨n, rfl⟩ := h t ht; exact full_number n
  have hlen := putT_len_le 9 l (fun t ht => by obtain ⟨n, rfl⟩ := h t ht; simp [countedT, bytesOf_length])
  exact ok_putE hl (fun t ht => full_right (full_mono (hf t ht) (by omega)) (by obtain ⟨n, rfl⟩ := h t ht; simp [countedT, bytesOf_length])) (full_right (full_mono (full_put l hf (by omega)) (by omega)) (by omega))
/-- An id that a message may have. -/
def idOk (x : D_api_Id) : Prop := 0 ≤ x.1 ∧ x.1 ≤ 2147483647 ∧ 0 ≤ x.2 ∧ x.2 ≤ 8
/-- A row of processes. -/
def upRow (l : List Int) : Prop := l.Pairwise (· < ·) ∧ ∀ x ∈ l, 1 ≤ x ∧ x ≤ 8
theorem upRow.len {l : List Int} (h : upRow l) : l.length ≤ 8 := by
  have key : ∀ (l : List Int) (a : Int), l.Pairwise (· < ·) → (∀ x ∈ l, a < x ∧ x ≤ 8) → a ≤ 8 → (l.length : Int) ≤ 8 - a := by
    intro l
    induction l with
    | nil => intro a _ _ h; simp; omega
    | cons x l ih =>
      intro a h1 h2 h3
      obtain ⟨p1, p2⟩ := List.pairwise_cons.1 h1
      have hx := h2 x List.mem_cons_self
      have := ih x p2 (fun y hy => ⟨p1 y hy, (h2 y (List.mem_cons_of_mem _ hy)).2⟩) hx.2
      rw [List.length_cons]; omega
  have := key l 0 h.1 (fun x hx => by have := h.2 x hx; omega) (by omega)
  omega
structure MsgOk (m : D_list_Message) : Prop where
  kind : 0 ≤ m.1 ∧ m.1 ≤ 20
  id : idOk m.2.1
  old : idOk m.2.2.1
  num : 0 ≤ m.2.2.2.1 ∧ m.2.2.2.1 ≤ 2147483647
  row : upRow m.2.2.2.2.1
  many : m.2.2.2.2.2.length ≤ 100
  terms : ∀ t ∈ m.2.2.2.2.2, full t 100
  short : ∃ n, (∀ t ∈ m.2.2.2.2.2, t.length ≤ n) ∧ (n + 1) * m.2.2.2.2.2.length ≤ 15000
end Go.Proofs.Ytipoblinefamgaa.G
