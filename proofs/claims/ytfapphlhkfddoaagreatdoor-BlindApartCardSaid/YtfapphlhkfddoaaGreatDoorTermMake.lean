/- Terms that are made: what is put together of right ones is right. -/
import Derived.Test.YtfapphlhkfddoaaGreatDoorTermPure
import Derived.Test.YtfapphlhkfddoaaGreatDoorPower
import Derived.Sort.Walk0
namespace Go.Proofs.YtfapphlhkfddoaaGreatDoor.G
open Go.RowKit Go.Eng Go.Proofs Go.Proofs.YtfapphlhkfddoaaGreatDoor.Cut
set_option linter.unusedVariables false
set_option linter.unusedSimpArgs false

/-- A text that is a term, whole, when so many calls are left. -/
def full (s : List UInt8) (left : Nat) : Prop := (specE s left 0).1 = (s.length : Int)
theorem full_mono {s : List UInt8} {l m : Nat} (h : full s l) (hm : l ≤ m) : full s m := by
  unfold full at *
  rw [specE_mono hm (by rw [h]; omega)]; exact h
theorem full_pos {s : List UInt8} {l : Nat} (h : full s l) : 0 < s.length := by
  have := specE_le s l 0 (by unfold full at h; rw [h]; omega)
  unfold full at h
  omega
theorem full_right {s : List UInt8} (h : full s 400) (hl : s.length ≤ 20000) : rightB s = true := by
  unfold rightB; rw [decide_eq_true_eq]; exact ⟨h, hl⟩
theorem right_full {s : List UInt8} (h : rightB s = true) : full s 400 := by
  unfold rightB at h; rw [decide_eq_true_eq] at h; exact h.1
theorem full_at {p s r : List UInt8} {left : Nat} (h : full s left) : (specE (p ++ s ++ r) left p.length).1 = ((p.length + s.length : Nat) : Int) := by
  have h1 : specE (p ++ s ++ r) left (p.length + 0) = shE p.length (specE ((p ++ s ++ r).drop p.length) left 0) := specE_shift _ _ _ _
  have h2 : (p ++ s ++ r).drop p.length = s ++ r := by rw [List.append_assoc, List.drop_left]
  have h3 : specE (s ++ r) left 0 = specE s left 0 := specE_local (E := s.length) (by simp) (Nat.le_refl _) (by simp) left 0 (by rw [h]; omega) (by rw [h]; exact Int.le_refl _)
  rw [Nat.add_zero, h2, h3] at h1
  rw [h1]
  unfold shE
  rw [if_neg (by rw [h]; omega), h]
  show (s.length : Int) + (p.length : Int) = _
  omega
theorem full_many {left : Nat} (p : Bool) : ∀ (l : List (List UInt8)) (pre post last : List UInt8) (d : Nat), (∀ x ∈ l, full x left) → (p = true → (∀ x ∈ l, strLt x last = false) ∧ l.Pairwise (fun a b => strLt b a = false)) →
    (manyF (specE (pre ++ l.flatten ++ post) left) (pre ++ l.flatten ++ post) p l.length pre.length last d).1 = ((pre ++ l.flatten).length : Int)
  | [], pre, post, last, d, _, _ => by simp [manyF]
  | x :: l, pre, post, last, d, hf, hs => by
    have e : pre ++ (x :: l).flatten ++ post = (pre ++ x) ++ l.flatten ++ post := by simp
    have e1 : pre ++ (x :: l).flatten ++ post = pre ++ x ++ (l.flatten ++ post) := by simp
    have hx : (specE (pre ++ (x :: l).flatten ++ post) left pre.length).1 = ((pre.length + x.length : Nat) : Int) := by rw [e1]; exact full_at (hf x List.mem_cons_self)
    rw [List.length_cons]
    unfold manyF
    rw [if_neg (by rw [hx]; omega), hx]
    have ht : ((pre ++ (x :: l).flatten ++ post).drop pre.length).take (((pre.length + x.length : Nat) : Int).toNat - pre.length) = x := by
      rw [e1, List.append_assoc, List.drop_left, Int.toNat_natCast, Nat.add_sub_cancel_left, List.take_left]
    rw [ht]
    have hc : ¬ (p && strLt x last) = true := by
      cases p with
      | false => simp
      | true => rw [(hs rfl).1 x List.mem_cons_self]; simp
    rw [if_neg hc, Int.toNat_natCast]
    have hlen : pre.length + x.length = (pre ++ x).length := by simp
    have ih := full_many p l (pre ++ x) post x (max d (specE (pre ++ (x :: l).flatten ++ post) left pre.length).2.toNat) (fun y hy => hf y (List.mem_cons_of_mem _ hy)) (fun hp => ⟨fun y hy => (List.pairwise_cons.1 (hs hp).2).1 y hy, (List.pairwise_cons.1 (hs hp).2).2⟩)
    rw [hlen]
    rw [← e] at ih
    rw [ih]
    simp
/-- A term of others. -/
theorem full_of {c : UInt8} {r : List UInt8} {n o : Nat} {p : Bool} {left : Nat} {h l : List UInt8} {xs : List (List UInt8)} (ho : openT c r = some (n, p, o)) (hs : c :: r = h ++ xs.flatten) (hn : n = xs.length) (hh : h.length = o) (hf : ∀ x ∈ xs, full x left) (hp : p = true → xs.Pairwise (fun a b => strLt b a = false)) : full (c :: r) (left + 1) := by
  unfold full
  rw [specE_succ, List.drop_zero]
  show (if leafN c r ≠ 0 then _ else _ : Int × Int).1 = _
  rw [if_neg (by rw [leaf_open (r' := r) ho]; simp), ho]
  show (manyF (specE (c :: r) left) (c :: r) p n (0 + o) [] 0).1 = _
  have hm := full_many (left := left) p xs h [] [] 0 hf (fun hp' => ⟨fun x _ => by rw [strLt_eq]; cases x <;> rfl, hp hp'⟩)
  rw [List.append_nil, ← hs, hh, ← hn] at hm
  rw [Nat.zero_add, hm]
theorem full_name (x : Int) : full (countedT 110 x) 1 := by
  unfold full
  rw [specE_succ, List.drop_zero]
  show (if leafN 110 (bytesOf x 8) ≠ 0 then _ else _ : Int × Int).1 = _
  have h : leafN 110 (bytesOf x 8) = 9 := by unfold leafN; rw [bytesOf_length]; rfl
  rw [h, if_pos (by simp)]
  simp [countedT, bytesOf_length]
theorem full_gen : full [103] 1 := rfl
theorem full_key {e : List UInt8} {left : Nat} (h : full e left) (he : ∃ d r, e = d :: r ∧ (d = 103 ∨ d = 101)) : full (107 :: e) (left + 1) := by
  obtain ⟨d, r, rfl, hd⟩ := he
  exact full_of (l := []) (h := [107]) (xs := [d :: r]) (n := 1) (o := 1) (p := false) (by unfold openT; rw [if_pos rfl]; simp only; rw [if_pos hd]) (by simp) rfl rfl (fun x hx => by rw [List.mem_singleton.1 hx]; exact h) (fun hp => by cases hp)
theorem lt_not {a b : List UInt8} (h : a ≤ b) : strLt b a = false := by
  rw [strLt_eq, bytesLess_eq, decide_eq_false_iff_not]
  exact List.not_lt.2 h
theorem sortB_sorted (l : List (List UInt8)) : (sortB l).Pairwise (fun a b => strLt b a = false) := by
  have h := List.pairwise_mergeSort (le := fun x y : List UInt8 => decide (x ≤ y)) (by intro a b c h1 h2; simp only [decide_eq_true_eq] at *; exact List.le_trans h1 h2) (by intro a b; simp only [Bool.or_eq_true, decide_eq_true_eq]; exact List.le_total a b) l
  exact h.imp (by intro a b h; exact lt_not (by simpa using h))
theorem sortB_perm (l : List (List UInt8)) : (sortB l).Perm l := List.mergeSort_perm _ _
theorem full_pow {l : List (List UInt8)} {left : Nat} (hf : ∀ x ∈ l, full x left) (h0 : 0 < l.length) (h1 : l.length ≤ 32) : full (powT l) (left + 1) := by
  have hn : (UInt8.ofNat l.length).toNat = l.length := by rw [UInt8.toNat_ofNat']; omega
  refine full_of (l := []) (h := [101, UInt8.ofNat l.length]) (xs := sortB l) (n := l.length) (o := 2) (p := true) (c := 101) (r := UInt8.ofNat l.length :: (sortB l).flatten) ?_ rfl (sortB_len l).symm rfl (fun x hx => hf x ((sortB_perm l).mem_iff.1 hx)) (fun _ => sortB_sorted l)
  unfold openT
  simp only
  rw [if_neg (by decide), if_neg (by decide), if_neg (by decide), if_neg (by decide), if_pos trivial, hn, if_pos (by omega)]
theorem whole_eq {s : List UInt8} (h : rightB s = true) : term_whole.f s = some (s, 0) := by
  have hl := (rightB_len h).2
  unfold term_whole.f
  rw [cond_f (by omega), right_spec (by omega), Option.bind_some, h]; rfl
theorem element_eq {c : UInt8} {r : List UInt8} (h : rightB (c :: r) = true) (hc : c = 103 ∨ c = 101) : term_element.f (c :: r) = some true := by
  have hl := (rightB_len h).2
  unfold term_element.f
  rw [right_spec (by omega), Option.bind_some, h, cond_true, idxS0, Option.bind_some]
  rcases hc with rfl | rfl
  · rfl
  · rfl
theorem exponents_gen : term_exponents.f [103] = some [] := rfl
theorem take_first {x rest : List UInt8} (h : full x 400) (hl : (x ++ rest).length ≤ 20000) : term_Take.f (x ++ rest) = some (x, rest, 0) := by
  have hx := full_at (p := []) (r := rest) h
  rw [List.nil_append, show ([] : List UInt8).length = 0 from rfl, Nat.zero_add] at hx
  have hl2 : x.length ≤ 20000 := by rw [List.length_append] at hl; omega
  rw [take_spec (by omega)]
  unfold takeE
  rw [if_neg (by rw [hx]; omega), if_neg (by rw [hx]; omega), hx, Int.toNat_natCast, List.take_left, List.drop_left]
theorem exponents_pow {l : List (List UInt8)} {n : UInt8} (hf : ∀ x ∈ l, full x 400) (hl : l.flatten.length ≤ 20000) : term_exponents.f (101 :: n :: l.flatten) = some l := by
  have go : ∀ (r done : List (List UInt8)), done ++ r = l → loopM (fun s193 : (List (List UInt8)) × (List UInt8) => term_exponents.b1 s193.1 s193.2) (done, r.flatten) = some l := by
    intro r
    induction r with
    | nil =>
      intro done hd
      refine loop_end ?_
      show term_exponents.b1 done [] = _
      unfold term_exponents.b1
      rw [strEq_eq, ← hd]; simp
    | cons x r ih =>
      intro done hd
      have hx : full x 400 := hf x (by rw [← hd]; simp)
      have hflat : (x :: r).flatten = x ++ r.flatten := rfl
      have hlen : (x ++ r.flatten).length ≤ 20000 := by
        have := congrArg (fun l => l.flatten.length) hd
        simp only [List.flatten_append, List.length_append, List.flatten_cons] at this
        rw [List.length_append]
        omega
      have hdl : done.length ≤ 20000 := by
        have h1 : ∀ q : List (List UInt8), (∀ y ∈ q, full y 400) → q.length ≤ q.flatten.length := by
          intro q
          induction q with
          | nil => intro _; exact Nat.le_refl _
          | cons y q ihq =>
            intro hq
            have := full_pos (hq y List.mem_cons_self)
            have := ihq fun z hz => hq z (List.mem_cons_of_mem _ hz)
            simp only [List.length_cons, List.flatten_cons, List.length_append]; omega
        have h2 := h1 done fun y hy => hf y (by rw [← hd]; exact List.mem_append_left _ hy)
        have := congrArg (fun l => l.flatten.length) hd
        simp only [List.flatten_append, List.length_append] at this
        omega
      refine loop_step ?_ (ih (done ++ [x]) (by rw [← hd]; simp))
      show term_exponents.b1 done (x :: r).flatten = _
      unfold term_exponents.b1
      have hne : strEq (x :: r).flatten [] = false := by
        rw [strEq_eq, decide_eq_false_iff_not, hflat]
        intro e
        have := full_pos hx
        rw [List.append_eq_nil_iff] at e
        rw [e.1] at this; simp at this
      rw [hne, hflat, take_first hx hlen]
      show roomM 16 (done.length + 1) _ = _
      rw [room_of (by omega)]
  unfold term_exponents.f
  have h1 : idxS (101 :: n :: l.flatten) (0 : Int) = some 101 := rfl
  rw [h1, Option.bind_some, show ((101 : Int) == 103) = false from rfl, cond_false, show (2 : Int) = ((2 : Nat) : Int) from rfl, slc_to (by simp), Option.bind_some, show (101 :: n :: l.flatten).drop 2 = l.flatten from rfl, go l [] rfl]
  rfl
theorem flatten_sortB (l : List (List UInt8)) : (sortB l).flatten.length = l.flatten.length := by
  have h : ∀ a b : List (List UInt8), a.Perm b → a.flatten.length = b.flatten.length := by
    intro a b h
    induction h with
    | nil => rfl
    | cons x _ ih => simp only [List.flatten_cons, List.length_append, ih]
    | swap x y l => simp only [List.flatten_cons, List.length_append]; omega
    | trans _ _ h1 h2 => exact h1.trans h2
  exact h _ _ (sortB_perm l)
theorem powT_len (l : List (List UInt8)) : (powT l).length = 2 + l.flatten.length := by
  unfold powT
  rw [List.length_append, flatten_sortB]; rfl
/-- An element to one power more. -/
theorem power_eq {c : UInt8} {r v : List UInt8} {l : List (List UInt8)} (hx : rightB (c :: r) = true) (hc : c = 103 ∨ c = 101) (hv : rightB v = true) (he : term_exponents.f (c :: r) = some l) (hl : l.length + 1 ≤ 32) (hw : rightB (powT (l ++ [v])) = true) : term_Power.f (c :: r) v = some (powT (l ++ [v]), 0) := by
  have h2 := (rightB_len hv).2
  have h3 := (rightB_len hw).2
  rw [powT_len, ← flatten_sortB] at h3
  unfold term_Power.f
  rw [element_eq hx hc, Option.bind_some]
  show (term_Right.f v).bind _ = _
  rw [right_spec (by omega), Option.bind_some, hv]
  show (term_exponents.f (c :: r)).bind _ = _
  rw [he, Option.bind_some, given_of (by omega), if_neg (by omega), given_of (by omega), whole_eq hw]
theorem key_eq {c : UInt8} {r : List UInt8} (hx : rightB (c :: r) = true) (hc : c = 103 ∨ c = 101) (hw : rightB (107 :: c :: r) = true) : term_Key.f (c :: r) = some (107 :: c :: r, 0) := by
  have h3 := (rightB_len hw).2
  simp only [List.length_cons] at h3
  unfold term_Key.f
  rw [element_eq hx hc, Option.bind_some]
  show roomM 1 _ _ = _
  rw [room_of (by simp only [List.length_cons, List.length_nil]; omega)]
  show (term_whole.f (107 :: c :: r)).bind _ = _
  rw [whole_eq hw]; rfl
end Go.Proofs.YtfapphlhkfddoaaGreatDoor.G
