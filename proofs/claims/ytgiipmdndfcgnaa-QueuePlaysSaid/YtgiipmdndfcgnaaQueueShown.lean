/- The law package's head: 'shown' answers true; the joint pop 'Either'. -/
import Derived.Test.YtgiipmdndfcgnaaQueue
namespace Go.Proofs.Ytgiipmdndfcgnaa.Queue
open Go.Conc Go.RowKit Go.Eng Go.Proofs
set_option linter.unusedVariables false

theorem shown_calls (w : World) : Calls Try.prog 13 #[] w fun e w' => ∃ v, e = .returned v ∧ (v = .bool true ∧ Below w.heap.size w w') := by
  have H : Own (fun _ => False) w w [] := Own.nil _ w
  refine enter (args := []) Try.func13 rfl Try.ntmps13 rfl rfl ?_
  refine nc ?_
  refine call_rule (by kernel_rfl) (new_own H 1 (by omega) (by omega)) fun v w1 ⟨b, c, hv, H⟩ => ?_
  subst hv
  refine nc ?_
  refine eqlNil_rule (by kernel_rfl) ?_
  refine nc ?_
  refine cond_no rfl ?_
  refine nc ?_
  refine call_rule (by kernel_rfl) (push_own H 0 1 rfl rfl [103]) fun v w2 ⟨hv, H⟩ => ?_
  subst hv
  refine nc ?_
  refine call_rule (by kernel_rfl) (push_own H 0 1 rfl rfl [104, 103]) fun v w3 ⟨hv, H⟩ => ?_
  subst hv
  refine nc ?_
  refine call_rule (by kernel_rfl) (pop_own H 0 1 rfl rfl) fun v w4 ⟨hv, H⟩ => ?_
  subst hv
  refine nc ?_
  refine call_rule (by kernel_rfl) (pop_own H 0 1 rfl rfl) fun v w5 ⟨hv, H⟩ => ?_
  subst hv
  refine nc ?_
  refine nc ?_
  refine ret_of [.bool _] ⟨rfl, trivial⟩ ⟨_, rfl, ?_, H.below⟩
  simp [bs_toList]
  rfl

theorem set_same {α : Type} : ∀ {L : List α} {j : Nat} {x : α}, L[j]? = some x → L.set j x = L := by
  intro L j x h
  apply List.ext_getElem?
  intro n
  rw [List.getElem?_set]
  split
  · rename_i e
    subst e
    split
    · exact h.symm
    · rename_i hn
      rw [List.getElem?_eq_none (by omega)] at h; cases h
  · rfl
variable {ok : Nat → Prop} {w0 w : World} {L : List Eng.Item} {b c cap b2 c2 cap2 : Nat} {xs ys : List (List UInt8)}
theorem either_own (H : Own ok w0 w L) (i j i2 j2 : Nat) (hi : L[i]? = some (.blk b [.chan (some c)] 78)) (hj : L[j]? = some (.obj c (isChan cap xs))) (hi2 : L[i2]? = some (.blk b2 [.chan (some c2)] 78)) (hj2 : L[j2]? = some (.obj c2 (isChan cap2 ys)))
    (hne : i ≠ j2 ∧ j ≠ i2 ∧ j ≠ j2 ∧ i ≠ j ∧ i2 ≠ j2) :
    Calls Try.prog 16 #[.pointer (some ⟨b, 0, none⟩), .pointer (some ⟨b2, 0, none⟩)] w fun e w' => ∃ v, e = .returned v ∧
      (v = (if 0 < xs.length then .tuple #[.string (bs (xs.headD [])), .int .i64 1] else if 0 < ys.length then .tuple #[.string (bs (ys.headD [])), .int .i64 2] else .tuple #[.string (bs []), .int .i64 0]) ∧
        Own ok w0 w' (if 0 < xs.length then L.set j (.obj c (isChan cap xs.tail)) else L.set j2 (.obj c2 (isChan cap2 ys.tail)))) := by
  refine enter (args := [.pointer (some ⟨b, 0, none⟩), .pointer (some ⟨b2, 0, none⟩)]) Try.func16 rfl Try.ntmps16 rfl rfl ?_
  refine nc ?_
  refine own_buildSlice (e := 24) (sz := 1) (z := .pointer none) (cs := [.pointer (some ⟨b, 0, none⟩), .pointer (some ⟨b2, 0, none⟩)]) H (by kernel_rfl) (by kernel_rfl) (by kernel_rfl) rfl rfl rfl rfl ?_
  intro g w1 H
  refine nc ?_
  refine loop_rule (fun k e w => (∃ i : Nat, i + k = 2 ∧ e = [(12, .slice (some ⟨g, 0, none⟩) 2 2), (13, .int .i64 2), (14, .int .i64 i)] ∧ (0 < i → xs = []) ∧ (1 < i → ys = []) ∧ Own ok w0 w (.blk g [.pointer (some ⟨b, 0, none⟩), .pointer (some ⟨b2, 0, none⟩)] 24 :: L))) 2 [(12, .slice (some ⟨g, 0, none⟩) 2 2), (13, .int .i64 2), (14, .int .i64 ((0 : Nat) : Int))] ⟨rfl, rfl, rfl, trivial⟩ ⟨0, rfl, rfl, by omega, by omega, H⟩ ?_
  intro k e w ⟨i0, hik, he, hx, hy, H⟩
  subst he
  refine nc ?_
  refine nc ?_
  refine cond_of (fun hc => ?_) (fun hc => ?_)
  · have hlt : i0 < 2 := by have := of_decide_eq_true hc; omega
    refine nc ?_
    refine indexAddr_rule (e := 24) 1 i0 (by kernel_rfl) (by kernel_rfl) (fun _ => hlt) ?_
    rw [add_at]
    obtain ⟨q, hq⟩ : ∃ q, ([.pointer (some ⟨b, 0, none⟩), .pointer (some ⟨b2, 0, none⟩)] : List Value)[0 + i0 * 1]? = some (.pointer (some ⟨q, 0, none⟩)) ∧ (i0 = 0 → q = b) ∧ (i0 = 1 → q = b2) := by
      match i0, hlt with
      | 0, _ => exact ⟨b, rfl, fun _ => rfl, fun h => absurd h (by omega)⟩
      | 1, _ => exact ⟨b2, rfl, fun h => absurd h (by omega), fun _ => rfl⟩
    refine own_load H 0 rfl (by kernel_rfl) hq.1 ?_
    refine nc ?_
    have h01 : i0 = 0 ∨ i0 = 1 := by omega
    rcases h01 with h0 | h0
    · subst h0
      have hqb := hq.2.1 rfl
      subst hqb
      refine call_rule (by kernel_rfl) (pop_own H (i + 1) (j + 1) hi hj) fun v w2 ⟨hv, H⟩ => ?_
      subst hv
      refine nc ?_
      refine nc ?_
      refine cond_of (fun hc => ?_) (fun hc => ?_)
      · have hl : 0 < xs.length := of_decide_eq_true hc
        refine nc ?_
        refine ret_of [.string (bs (xs.headD [])), .int .i64 1] ⟨rfl, rfl, trivial⟩ ⟨_, rfl, ?_, ?_⟩
        · rw [if_pos hl]; rfl
        · rw [if_pos hl]; exact H.tail
      · have hl : xs = [] := List.eq_nil_of_length_eq_zero (by have := of_decide_eq_false hc; omega)
        subst hl
        have H : Own ok w0 w2 (.blk g [.pointer (some ⟨q, 0, none⟩), .pointer (some ⟨b2, 0, none⟩)] 24 :: L) := by
          have e : ∀ x : Eng.Item, L[j]? = some x → L.set j x = L := fun x h => set_same h
          have := H
          simp only [List.set_cons_succ, List.tail_nil, e _ hj] at this
          exact this
        refine nc ?_
        refine again_in 1 (by omega) [(12, .slice (some ⟨g, 0, none⟩) 2 2), (13, .int .i64 2), (14, .int .i64 ((1 : Nat) : Int))] ⟨rfl, rfl, rfl, trivial⟩ ⟨1, by omega, rfl, fun _ => rfl, fun h => absurd h (by omega), H⟩
    · subst h0
      have hqb := hq.2.2 rfl
      subst hqb
      have hx_ := hx
      refine call_rule (by kernel_rfl) (pop_own H (i2 + 1) (j2 + 1) hi2 hj2) fun v w2 ⟨hv, H⟩ => ?_
      subst hv
      refine nc ?_
      refine nc ?_
      refine cond_of (fun hc => ?_) (fun hc => ?_)
      · have hl : 0 < ys.length := of_decide_eq_true hc
        refine nc ?_
        refine ret_of [.string (bs (ys.headD [])), .int .i64 2] ⟨rfl, rfl, trivial⟩ ⟨_, rfl, ?_, ?_⟩
        · rw [hx (by omega)]; rw [if_neg (by simp), if_pos hl]; rfl
        · rw [if_neg (by rw [hx (by omega)]; simp)]; exact H.tail
      · have hl : ys = [] := List.eq_nil_of_length_eq_zero (by have := of_decide_eq_false hc; omega)
        subst hl
        have H : Own ok w0 w2 (.blk g [.pointer (some ⟨b, 0, none⟩), .pointer (some ⟨q, 0, none⟩)] 24 :: L) := by
          have e : ∀ x : Eng.Item, L[j2]? = some x → L.set j2 x = L := fun x h => set_same h
          have := H
          simp only [List.set_cons_succ, List.tail_nil, e _ hj2] at this
          exact this
        refine nc ?_
        refine again_in 0 (by omega) [(12, .slice (some ⟨g, 0, none⟩) 2 2), (13, .int .i64 2), (14, .int .i64 ((2 : Nat) : Int))] ⟨rfl, rfl, rfl, trivial⟩ ⟨2, by omega, rfl, (fun _ => hx (by omega)), fun _ => rfl, H⟩
  · have hge : i0 = 2 := by have := of_decide_eq_false hc; omega
    subst hge
    have hx := hx (by omega)
    have hy := hy (by omega)
    subst hx hy
    refine nc ?_
    refine nc ?_
    refine ret_of [.string _, .int .i64 0] ⟨rfl, rfl, trivial⟩ ⟨_, rfl, ?_, ?_⟩
    · rfl
    · have e : ∀ x : Eng.Item, L[j2]? = some x → L.set j2 x = L := fun x h => set_same h
      rw [if_neg (by simp)]
      simp only [List.tail_nil, e _ hj2]
      exact H.tail
end Go.Proofs.Ytgiipmdndfcgnaa.Queue
