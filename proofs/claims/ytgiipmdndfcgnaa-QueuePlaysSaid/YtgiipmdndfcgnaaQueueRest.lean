/- A queue's Rest: all that waits, in order; the queue is as before. -/
import Derived.Test.YtgiipmdndfcgnaaQueueSame
namespace Go.Proofs.Ytgiipmdndfcgnaa.Queue
open Go.Conc Go.RowKit Go.Eng Go.Proofs
set_option linter.unusedVariables false
variable {ok : Nat → Prop} {w0 w : World} {L : List Eng.Item} {b c cap : Nat} {xs : List (List UInt8)}

/-- Rest hands back a row of the call's own: all that waits. -/
theorem rest_own (H : Own ok w0 w L) (i j : Nat) (hi : L[i]? = some (.blk b [.chan (some c)] 78)) (hj : L[j]? = some (.obj c (isChan cap xs))) (hcap : xs.length ≤ cap) (hsm : xs.length ≤ 1000) :
    Calls Try.prog 31 #[.pointer (some ⟨b, 0, none⟩)] w fun e w' => ∃ v, e = .returned v ∧ Own ok w0 w' (.row v 29 1 xs.length (strs xs) :: L) := by
  refine enter (args := [.pointer (some ⟨b, 0, none⟩)]) Try.func31 rfl Try.ntmps31 rfl rfl ?_
  refine nc ?_
  refine nc ?_
  refine call_rule (by kernel_rfl) (len_own H i j hi hj) fun r w1 ⟨hr, H⟩ => ?_
  subst hr
  refine nc ?_
  have H0 : Own ok w0 w1 (.row (.slice none 0 0) 29 1 0 (strs (xs.take 0)) :: L.set j (.obj c (isChan cap (xs.drop 0 ++ xs.take 0)))) := by
    have := H.nilRow 29 1
    simp only [List.drop_zero, List.take_zero, List.append_nil, set_same hj]
    exact this
  refine loop_rule (fun k e w' => ∃ (r : Nat) (z : Value), r + k = xs.length ∧ e = [(0, .pointer (some ⟨b, 0, none⟩)), (3, z), (7, .int .i64 (xs.length : Int)), (8, .int .i64 (r : Int))] ∧
    Own ok w0 w' (.row z 29 1 r (strs (xs.take r)) :: L.set j (.obj c (isChan cap (xs.drop r ++ xs.take r))))) xs.length
    [(0, .pointer (some ⟨b, 0, none⟩)), (3, .slice none 0 0), (7, .int .i64 (xs.length : Int)), (8, .int .i64 ((0 : Nat) : Int))] ⟨rfl, rfl, rfl, rfl, trivial⟩ ⟨0, _, by omega, rfl, H0⟩ ?_
  intro k e w' ⟨r, z, hrk, he, H⟩
  subst he
  refine nc ?_
  refine nc ?_
  refine cond_of (fun hc => ?_) (fun hc => ?_)
  · have hlt : r < xs.length := by have := of_decide_eq_true hc; omega
    have hij : i ≠ j := fun h => by subst h; rw [hi] at hj; cases hj
    have hi' : ∀ y, (L.set j y)[i]? = some (.blk b [.chan (some c)] 78) := fun y => by rw [List.getElem?_set_ne (Ne.symm hij)]; exact hi
    have hjl : j < L.length := (List.getElem?_eq_some_iff.1 hj).1
    have hj' : ∀ y, (L.set j y)[j]? = some y := fun y => by rw [List.getElem?_set_self hjl]
    refine nc ?_
    refine call_rule (by kernel_rfl) (pop_own H (i + 1) (j + 1) (hi' _) (hj' _)) fun v w2 ⟨hv, H⟩ => ?_
    have hd : xs.drop r = xs[r] :: xs.drop (r + 1) := List.drop_eq_getElem_cons hlt
    replace hv : v = .tuple #[.string (bs xs[r]), .bool true] := by
      rw [hv, hd, List.cons_append, List.headD_cons, decide_eq_true (by simp)]
    subst hv
    simp only [List.set_cons_succ, List.set_set, hd, List.cons_append, List.tail_cons] at H
    refine nc ?_
    refine own_buildSlice (e := 29) (sz := 1) (z := .string ⟨#[]⟩) (cs := [.string (bs xs[r])]) H (by kernel_rfl) (by kernel_rfl) (by kernel_rfl) rfl rfl rfl rfl ?_
    intro q w3 H
    refine own_appendBlk (e := 29) (sz := 1) (z := .string ⟨#[]⟩) (by_ := 16) (m := 1) H 1 0 rfl rfl (by kernel_rfl) (by kernel_rfl) rfl rfl rfl (by intro u hu; simp at hu; subst hu; rfl) (by omega) (by omega) ?_
    intro z' w4 H
    have ht : strs (xs.take r) ++ [.string (bs xs[r])] = strs (xs.take (r + 1)) := by
      rw [List.take_add_one, List.getElem?_eq_getElem hlt, strs_append]; rfl
    rw [ht] at H
    replace H := H.tail
    refine nc ?_
    refine call_rule (by kernel_rfl) (push_own H (i + 1) (j + 1) (hi' _) (hj' _) xs[r]) fun v w5 ⟨hv, H⟩ => ?_
    subst hv
    have hroom : (xs.drop (r + 1) ++ xs.take r).length < cap := by simp; omega
    have ht2 : xs.drop (r + 1) ++ xs.take r ++ [xs[r]] = xs.drop (r + 1) ++ xs.take (r + 1) := by
      rw [List.append_assoc, List.take_add_one, List.getElem?_eq_getElem hlt]; rfl
    rw [if_pos hroom, ht2] at H
    simp only [List.set_cons_zero, List.set_cons_succ, List.set_set] at H
    refine nc ?_
    refine again_in (k - 1) (by omega) [(0, .pointer (some ⟨b, 0, none⟩)), (3, z'), (7, .int .i64 (xs.length : Int)), (8, .int .i64 ((r + 1 : Nat) : Int))] ⟨rfl, rfl, rfl, ?_, trivial⟩ ⟨r + 1, z', by omega, rfl, H⟩
    show some (Value.int .i64 (IntKind.i64.wrap ((r : Int) + 1))) = _
    rw [i64_id (by omega) (by omega)]; rfl
  · have hge : r = xs.length := by have := of_decide_eq_false hc; omega
    subst hge
    simp only [List.drop_length, List.take_length, List.nil_append, set_same hj] at H
    refine nc ?_
    refine nc ?_
    refine ret_of [z] ⟨rfl, trivial⟩ ⟨_, rfl, H⟩
end Go.Proofs.Ytgiipmdndfcgnaa.Queue
