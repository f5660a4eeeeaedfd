/- Messages that are packed, as it is reckoned: what is put together of right ones is right. -/
import Derived.Test.YtipoblinefamgaaTermPure
import Derived.Test.YtipoblinefamgaaM2
namespace Go.Proofs.Ytipoblinefamgaa.G
open Go.RowKit Go.Eng Go.Proofs Go.Proofs.Ytipoblinefamgaa.Cut
set_option linter.unusedVariables false
set_option linter.unusedSimpArgs false

/-- A text that is a term, whole, when so many calls are left. -/
def full (s : List UInt8) (left : Nat) : Prop := (specE s left 0).1 = (s.length : Int)
theorem putT_nil : putT [] = countedT 117 0 := rfl
theorem putT_cons (t : List UInt8) (ts : List (List UInt8)) : putT (t :: ts) = 112 :: (t ++ putT ts) := by
  unfold putT
  rw [List.reverse_cons, List.foldl_append]; rfl
def putE (l : List (List UInt8)) : List UInt8 × Int :=
  if 150 < l.length then ([], 1) else if l.any (fun t => !rightB t) = true then ([], 1) else if 20000 < (putT l).length then ([], 3) else if rightB (putT l) = true then (putT l, 0) else ([], 4)
theorem putT_len_le (n : Nat) : ∀ (l : List (List UInt8)), (∀ t ∈ l, t.length ≤ n) → (putT l).length ≤ (n + 1) * l.length + 9
  | [], _ => by simp [putT_nil, countedT, bytesOf_length]
  | a :: l, h => by
    have := putT_len_le n l (fun t ht => h t (List.mem_cons_of_mem _ ht))
    have := h a List.mem_cons_self
    rw [putT_cons, List.length_cons, List.length_append, List.length_cons, Nat.mul_add]; omega
theorem rights_of {l : List (List UInt8)} (h : ¬ l.any (fun t => !rightB t) = true) : ∀ t ∈ l, rightB t = true := by
  intro t ht
  cases hr : rightB t with
  | true => rfl
  | false => exact absurd (List.any_eq_true.2 ⟨t, ht, by rw [hr]; rfl⟩) h
theorem put_spec {l : List (List UInt8)} (hb : ∀ t ∈ l, t.length ≤ 140737488355328) : list_Put.f l = some (putE l) := by
  unfold list_Put.f putE
  by_cases h1 : 150 < l.length
  · rw [if_pos h1, if_pos h1]
  rw [if_neg h1, if_neg h1, given_of (fun t ht => ⟨_, right_spec (hb t ht)⟩)]
  have hrt : ∀ t ∈ l, rightT t = rightB t := fun t ht => by unfold rightT; rw [right_spec (hb t ht)]; rfl
  have hany : l.any (fun t => !rightT t) = l.any (fun t => !rightB t) := by
    rw [Bool.eq_iff_iff, List.any_eq_true, List.any_eq_true]
    constructor
    · rintro ⟨t, ht, q⟩; exact ⟨t, ht, by rw [← hrt t ht]; exact q⟩
    · rintro ⟨t, ht, q⟩; exact ⟨t, ht, by rw [hrt t ht]; exact q⟩
  rw [hany]
  by_cases h2 : l.any (fun t => !rightB t) = true
  · rw [if_pos h2, if_pos h2]
  rw [if_neg h2, if_neg h2]
  have hr := rights_of h2
  have hlen := putT_len_le 20000 l (fun t ht => (rightB_len (hr t ht)).2)
  rw [given_of (by omega)]
  by_cases h3 : 20000 < (putT l).length
  · rw [if_pos h3, if_pos h3]
  rw [if_neg h3, if_neg h3, right_spec (by omega), Option.bind_some]
  cases rightB (putT l) <;> rfl
/-- An id that a message may have. -/
def idOk (x : D_api_Id) : Prop := 0 ≤ x.1 ∧ x.1 ≤ 2147483647 ∧ 0 ≤ x.2 ∧ x.2 ≤ 8
/-- A row of processes. -/
def upRow (l : List Int) : Prop := l.Pairwise (· < ·) ∧ ∀ x ∈ l, 1 ≤ x ∧ x ≤ 8
theorem upRow.len {l : List Int} (h : upRow l) : l.length ≤ 8 := by
  have key : ∀ (l : List Int) (a : Int), l.Pairwise (· < ·) → (∀ x ∈ l, a < x ∧ x ≤ 8) → a ≤ 8 → (l.length : Int) ≤ 8 - a := by
    intro l
    induction l with
    | nil => intro a _ _ h; simp; omega
    | cons x l ih =>
      intro a h1 h2 h3
      obtain ⟨p1, p2⟩ := List.pairwise_cons.1 h1
      have hx := h2 x List.mem_cons_self
      have := ih x p2 (fun y hy => ⟨p1 y hy, (h2 y (List.mem_cons_of_mem _ hy)).2⟩) hx.2
      rw [List.length_cons]; omega
  have := key l 0 h.1 (fun x hx => by have := h.2 x hx; omega) (by omega)
  omega
structure MsgOk (m : D_list_Message) : Prop where
  kind : 0 ≤ m.1 ∧ m.1 ≤ 20
  id : idOk m.2.1
  old : idOk m.2.2.1
  num : 0 ≤ m.2.2.2.1 ∧ m.2.2.2.1 ≤ 2147483647
  row : upRow m.2.2.2.2.1
  many : m.2.2.2.2.2.length ≤ 100
  terms : ∀ t ∈ m.2.2.2.2.2, full t 100
  short : ∃ n, (∀ t ∈ m.2.2.2.2.2, t.length ≤ n) ∧ (n + 1) * m.2.2.2.2.2.length ≤ 15000
end Go.Proofs.Ytipoblinefamgaa.G
