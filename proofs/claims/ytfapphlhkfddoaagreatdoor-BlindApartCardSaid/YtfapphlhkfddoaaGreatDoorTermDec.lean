/- Terms that stand in a term; what is put together, in general. -/
import Derived.Test.YtfapphlhkfddoaaGreatDoorBlindP
namespace Go.Proofs.YtfapphlhkfddoaaGreatDoor.G
open Go.RowKit Go.Eng Go.Proofs Go.Proofs.YtfapphlhkfddoaaGreatDoor.Cut
set_option linter.unusedVariables false
set_option linter.unusedSimpArgs false

theorem part_full {s : List UInt8} {left k : Nat} (h : 0 ≤ (specE s left k).1) : ∃ x rest, s.drop k = x ++ rest ∧ (specE s left k).1 = ((k + x.length : Nat) : Int) ∧ full x left := by
  have hle := specE_le s left k h
  obtain ⟨e, he⟩ : ∃ e : Nat, (specE s left k).1 = (e : Int) := ⟨(specE s left k).1.toNat, by omega⟩
  have h1 : specE s left (k + 0) = shE k (specE (s.drop k) left 0) := specE_shift _ _ _ _
  rw [Nat.add_zero] at h1
  have hn : ¬ (specE (s.drop k) left 0).1 < 0 := by
    intro hn
    rw [h1] at h
    unfold shE at h
    rw [if_pos hn] at h
    omega
  have h2 : (specE (s.drop k) left 0).1 = ((e - k : Nat) : Int) := by
    rw [h1] at he
    unfold shE at he
    rw [if_neg hn] at he
    simp only at he
    omega
  have hl : e - k ≤ (s.drop k).length := by rw [List.length_drop]; omega
  refine ⟨(s.drop k).take (e - k), (s.drop k).drop (e - k), (List.take_append_drop _ _).symm, ?_, ?_⟩
  · rw [he, List.length_take]; omega
  · unfold full
    rw [specE_local (s := s.drop k) (t := (s.drop k).take (e - k)) (E := e - k) (by rw [List.take_take, Nat.min_self]) hl (by rw [List.length_take]; omega) left 0 (by omega) (by omega), h2, List.length_take]
    omega
theorem many_dec {s : List UInt8} {left : Nat} {p : Bool} : ∀ (n k : Nat) (last : List UInt8) (d : Nat), 0 ≤ (manyF (specE s left) s p n k last d).1 →
    ∃ (xs : List (List UInt8)) (rest : List UInt8), xs.length = n ∧ (manyF (specE s left) s p n k last d).1 = ((k + xs.flatten.length : Nat) : Int) ∧ s.drop k = xs.flatten ++ rest ∧ ∀ x ∈ xs, full x left
  | 0, k, last, d, h => ⟨[], s.drop k, rfl, rfl, rfl, fun x hx => by simp at hx⟩
  | n + 1, k, last, d, h => by
    unfold manyF at h ⊢
    by_cases hn : (specE s left k).1 < 0
    · rw [if_pos hn] at h; simp only at h; omega
    rw [if_neg hn] at h ⊢
    obtain ⟨x, rest, h1, h2, h3⟩ := part_full (s := s) (left := left) (k := k) (by omega)
    by_cases hp : (p && strLt ((s.drop k).take ((specE s left k).1.toNat - k)) last) = true
    · rw [if_pos hp] at h; simp only at h; omega
    rw [if_neg hp] at h ⊢
    obtain ⟨xs, r2, g1, g2, g3, g4⟩ := many_dec n _ _ _ h
    have he : (specE s left k).1.toNat = k + x.length := by rw [h2]; exact Int.toNat_natCast _
    refine ⟨x :: xs, r2, by rw [List.length_cons, g1], ?_, ?_, ?_⟩
    · rw [g2, he]; simp only [List.flatten_cons, List.length_append]; omega
    · rw [he, ← List.drop_drop, h1, List.drop_left] at g3
      rw [h1, g3]; simp
    · intro y hy
      rcases List.mem_cons.1 hy with q | q
      · rw [q]; exact h3
      · exact g4 y q
/-- What stands in a term that has others in it. -/
theorem full_dec {c : UInt8} {r : List UInt8} {n o : Nat} {p : Bool} {left : Nat} (ho : openT c r = some (n, p, o)) (h : full (c :: r) (left + 1)) : ∃ xs : List (List UInt8), xs.length = n ∧ (c :: r).drop o = xs.flatten ∧ ∀ x ∈ xs, full x left := by
  unfold full at h
  rw [specE_succ, List.drop_zero] at h
  replace h : (if leafN c r ≠ 0 then _ else _ : Int × Int).1 = _ := h
  rw [if_neg (by rw [leaf_open (r' := r) ho]; simp), ho] at h
  replace h : (manyF (specE (c :: r) left) (c :: r) p n (0 + o) [] 0).1 = _ := h
  obtain ⟨xs, rest, h1, h2, h3, h4⟩ := many_dec n (0 + o) [] 0 (by rw [h]; omega)
  rw [h2] at h
  rw [Nat.zero_add] at h h3
  have h5 := congrArg List.length h3
  rw [List.length_drop, List.length_append] at h5
  have hlo := openT_some ho
  have : rest = [] := List.eq_nil_of_length_eq_zero (by simp only [List.length_cons] at h h5; omega)
  rw [this, List.append_nil] at h3
  exact ⟨xs, h1, h3, h4⟩
def elemB (s : List UInt8) : Bool := rightB s && decide (s.head? = some 103 ∨ s.head? = some 101)
theorem openT_pow {r : List UInt8} {n : UInt8} : openT 101 (n :: r) = if 1 ≤ n.toNat ∧ n.toNat ≤ 32 then some (n.toNat, true, 2) else none := by
  unfold openT
  simp only
  rw [if_neg (by decide), if_neg (by decide), if_neg (by decide), if_neg (by decide), if_pos trivial]
/-- An element that is right is the generator, or a power of so many. -/
theorem elem_dec {s : List UInt8} (h : elemB s = true) : s = [103] ∨ ∃ l : List (List UInt8), s = 101 :: UInt8.ofNat l.length :: l.flatten ∧ 1 ≤ l.length ∧ l.length ≤ 32 ∧ ∀ x ∈ l, full x 399 := by
  unfold elemB at h
  rw [Bool.and_eq_true, decide_eq_true_eq] at h
  obtain ⟨hr, hh⟩ := h
  have hf := right_full hr
  match s, hh with
  | c :: r, hh =>
    simp only [List.head?_cons, Option.some.injEq] at hh
    rcases hh with rfl | rfl
    · left
      have h1 : (specE (103 :: r) 400 0).1 = 1 := by
        rw [specE_succ, List.drop_zero]
        rfl
      unfold full at hf
      rw [h1, List.length_cons] at hf
      rw [List.eq_nil_of_length_eq_zero (show r.length = 0 by omega)]
    · right
      have hf2 := hf
      unfold full at hf2
      rw [specE_succ, List.drop_zero] at hf2
      replace hf2 : (if leafN 101 r ≠ 0 then _ else _ : Int × Int).1 = _ := hf2
      rw [if_neg (by unfold leafN; simp)] at hf2
      cases ho : openT 101 r with
      | none => rw [ho] at hf2; replace hf2 : (-1 : Int) = _ := hf2; omega
      | some q =>
        obtain ⟨n, p, o⟩ := q
        match r, ho with
        | [], ho => unfold openT at ho; simp at ho
        | d :: r, ho =>
          have hq := ho
          rw [openT_pow] at hq
          by_cases hd : 1 ≤ d.toNat ∧ d.toNat ≤ 32
          · rw [if_pos hd] at hq
            cases hq
            obtain ⟨xs, h1, h2, h3⟩ := full_dec (left := 399) ho hf
            refine ⟨xs, ?_, by omega, by omega, h3⟩
            have : d = UInt8.ofNat xs.length := by rw [h1]; simp
            rw [← this]
            show 101 :: d :: r = 101 :: d :: xs.flatten
            rw [← h2]; rfl
          · rw [if_neg hd] at hq; cases hq
def wholeE (s : List UInt8) : List UInt8 × Int := if 20000 < s.length then ([], 3) else if rightB s = true then (s, 0) else ([], 4)
theorem whole_spec {s : List UInt8} (hb : s.length ≤ 140737488355328) : term_whole.f s = some (wholeE s) := by
  unfold term_whole.f wholeE
  by_cases h : 20000 < s.length
  · rw [cond_t (by omega), if_pos h]
  rw [cond_f (by omega), if_neg h, right_spec hb, Option.bind_some]
  by_cases hr : rightB s = true
  · rw [if_pos hr, hr]; rfl
  · rw [if_neg hr, show rightB s = false by simpa using hr]; rfl
theorem element_spec {s : List UInt8} (hb : s.length ≤ 140737488355328) : term_element.f s = some (elemB s) := by
  by_cases hr : rightB s = true
  · have := (rightB_len hr).1
    match s, this with
    | c :: r, _ =>
      by_cases hc : c = 103 ∨ c = 101
      · rw [element_eq hr hc]
        unfold elemB
        rw [hr, List.head?_cons]
        simp [hc]
      · have h1 : c ≠ 103 := fun e => hc (.inl e)
        have h2 : c ≠ 101 := fun e => hc (.inr e)
        unfold term_element.f elemB
        rw [right_spec hb, Option.bind_some, hr, cond_true, idxS0, Option.bind_some, show ((c.toNat : Int) == (103 : Int)) = false from byte_ne h1, cond_false, Option.bind_some, show ((c.toNat : Int) == (101 : Int)) = false from byte_ne h2]
        simp [term_element.k1, h1, h2]
  · have hr' : rightB s = false := by simpa using hr
    unfold term_element.f elemB
    rw [right_spec hb, Option.bind_some, hr', cond_false]
    rfl
/-- The power of exponents, with one more. -/
def powE (l : List (List UInt8)) (v : List UInt8) : List UInt8 × Int := if 32 < l.length + 1 then ([], 3) else wholeE (powT (l ++ [v]))
theorem power_no {x v : List UInt8} (hx : x.length ≤ 140737488355328) (hv : v.length ≤ 140737488355328) (h : ¬ (elemB x = true ∧ rightB v = true)) : term_Power.f x v = some ([], 1) := by
  unfold term_Power.f
  rw [element_spec hx, Option.bind_some]
  cases he : elemB x with
  | false => rfl
  | true =>
    show (term_Right.f v).bind _ = _
    rw [right_spec hv, Option.bind_some]
    cases hr : rightB v with
    | false => rfl
    | true => exact absurd ⟨he, hr⟩ h
theorem elem_right {x : List UInt8} (h : elemB x = true) : rightB x = true := by
  unfold elemB at h
  rw [Bool.and_eq_true] at h
  exact h.1
theorem power_yes {x v : List UInt8} {l : List (List UInt8)} (hx : elemB x = true) (hv : rightB v = true) (hl : (x = [103] ∧ l = []) ∨ (x = 101 :: UInt8.ofNat l.length :: l.flatten ∧ 1 ≤ l.length ∧ l.length ≤ 32 ∧ ∀ y ∈ l, full y 399)) : term_Power.f x v = some (powE l v) := by
  have h1 := (rightB_len (elem_right hx)).2
  have h2 := (rightB_len hv).2
  have he : term_exponents.f x = some l := by
    rcases hl with ⟨rfl, rfl⟩ | ⟨rfl, _, _, hf⟩
    · exact exponents_gen
    · simp only [List.length_cons] at h1
      exact exponents_pow (fun y hy => full_mono (hf y hy) (by omega)) (by omega)
  have hl1 : l.length ≤ 32 ∧ l.flatten.length ≤ 20000 := by
    rcases hl with ⟨rfl, rfl⟩ | ⟨rfl, _, h, _⟩
    · simp
    · simp only [List.length_cons] at h1
      exact ⟨h, by omega⟩
  unfold term_Power.f powE
  rw [element_spec (by omega), Option.bind_some, hx]
  show (term_Right.f v).bind _ = _
  rw [right_spec (by omega), Option.bind_some, hv]
  show (term_exponents.f x).bind _ = _
  have hfl : (l ++ [v]).flatten.length = l.flatten.length + v.length := by simp
  rw [he, Option.bind_some, given_of (by omega)]
  by_cases h32 : 32 < l.length + 1
  · rw [if_pos h32, if_pos h32]
  · rw [if_neg h32, if_neg h32, given_of (by rw [flatten_sortB, hfl]; omega), whole_spec (by rw [powT_len, hfl]; omega)]
end Go.Proofs.YtfapphlhkfddoaaGreatDoor.G
