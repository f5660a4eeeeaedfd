/- The law QueueEither answers true for every two lists of texts. -/
import Derived.Test.YtgiipmdndfcgnaaQueueSame
namespace Go.Proofs.Ytgiipmdndfcgnaa.Queue
open Go.Conc Go.RowKit Go.Eng Go.Proofs
set_option linter.unusedVariables false

theorem eitherLaw_calls {ok : Nat → Prop} {w : World} {u v : Value} {xs ys : List (List UInt8)} (hu : slR tStr w ok u xs) (hv : slR tStr w ok v ys) :
    Calls Try.prog 3 #[u, v] w fun e w' => ∃ r, e = .returned r ∧ (r = .bool true ∧ Below w.heap.size w w') := by
  have H : Own ok w w [.dat (dSl tStr u xs), .dat (dSl tStr v ys)] := Own.start (ds := [dSl tStr u xs, dSl tStr v ys]) (by
    intro d hd
    rcases List.mem_cons.1 hd with h | h
    · subst h; exact hu
    · rw [List.mem_singleton] at h; subst h; exact hv)
  obtain ⟨A, cA, hA, hcA⟩ := H.sl 0 rfl
  obtain ⟨B, cB, hB, hcB⟩ := H.sl 1 rfl
  subst hA hB
  refine enter (args := [.slice A xs.length cA, .slice B ys.length cB]) Try.func3 rfl Try.ntmps3 rfl rfl ?_
  refine nc ?_
  refine call_rule (by kernel_rfl) (shown_calls w) fun r w1 ⟨hr, hb⟩ => ?_
  subst hr
  replace H := H.call hb
  refine nc ?_
  refine nc ?_
  refine cond_of (fun hc => ?_) (fun hc => ?_)
  · refine nc ?_
    refine ret_of [.bool true] ⟨rfl, trivial⟩ ⟨_, rfl, rfl, H.below⟩
  · have hx : xs.length ≤ 50 := by
      by_cases h : xs.length ≤ 50
      · exact h
      · have : decide ((xs.length : Int) > 50) = true := decide_eq_true (by omega)
        simp at hc
        omega
    have hy : ys.length ≤ 50 := by
      by_cases h : ys.length ≤ 50
      · exact h
      · simp at hc
        omega
    refine nc ?_
    refine call_rule (by kernel_rfl) (new_own H 60 (by omega) (by omega)) fun r w2 ⟨b, c, hr, H⟩ => ?_
    subst hr
    refine nc ?_
    refine call_rule (by kernel_rfl) (new_own H 60 (by omega) (by omega)) fun r w3 ⟨b2, c2, hr, H⟩ => ?_
    subst hr
    refine nc ?_
    refine eqlNil_rule (by kernel_rfl) ?_
    refine eqlNil_rule (by kernel_rfl) ?_
    refine nc ?_
    refine cond_no rfl ?_
    refine nc ?_
    refine nc ?_
    refine loop_rule (fun k e w' => ∃ i : Nat, i + k = xs.length ∧ e = [(0, .slice A xs.length cA), (1, .slice B ys.length cB), (6, .pointer (some ⟨b, 0, none⟩)), (8, .pointer (some ⟨b2, 0, none⟩)), (10, .int .i64 (i : Int))] ∧
      Own ok w w' [.blk b2 [.chan (some c2)] 78, .obj c2 (isChan 60 []), .blk b [.chan (some c)] 78, .obj c (isChan 60 (xs.take i)), .dat (dSl tStr (.slice A xs.length cA) xs), .dat (dSl tStr (.slice B ys.length cB) ys)]) xs.length
      [(0, .slice A xs.length cA), (1, .slice B ys.length cB), (6, .pointer (some ⟨b, 0, none⟩)), (8, .pointer (some ⟨b2, 0, none⟩)), (10, .int .i64 ((0 : Nat) : Int))] ⟨rfl, rfl, rfl, rfl, rfl, trivial⟩ ⟨0, by omega, rfl, H⟩ ?_
    intro k e w' ⟨i, hik, he, H⟩
    subst he
    refine nc ?_
    refine nc ?_
    refine cond_of (fun hc => ?_) (fun hc => ?_)
    · have hlt : i < xs.length := by have := of_decide_eq_true hc; omega
      refine nc ?_
      obtain ⟨a, c', cs, hA', hR, H⟩ := H.elem 4 rfl i hlt
      cases hA'
      have hR : cs = [.string (bs xs[i])] := hR
      subst hR
      refine indexAddr_rule (e := 9) 1 i (by kernel_rfl) (by kernel_rfl) (fun _ => hlt) ?_
      refine own_loadD H 0 rfl 0 (by kernel_rfl) rfl ?_
      refine call_rule (by kernel_rfl) (push_own H 4 5 rfl rfl xs[i]) fun r w4 ⟨hr, H⟩ => ?_
      subst hr
      have hl : (xs.take i).length < 60 := by rw [List.length_take]; omega
      have ht : xs.take i ++ [xs[i]] = xs.take (i + 1) := by rw [List.take_add_one, List.getElem?_eq_getElem hlt]; rfl
      rw [if_pos hl, ht] at H
      refine nc ?_
      refine again_in (k - 1) (by omega) [(0, .slice (some a) xs.length cA), (1, .slice B ys.length cB), (6, .pointer (some ⟨b, 0, none⟩)), (8, .pointer (some ⟨b2, 0, none⟩)), (10, .int .i64 ((i + 1 : Nat) : Int))] ⟨rfl, rfl, rfl, rfl, ?_, trivial⟩ ⟨i + 1, by omega, rfl, H.tail.tail⟩
      show some (Value.int .i64 (IntKind.i64.wrap ((i : Int) + 1))) = _
      rw [i64_id (by omega) (by omega)]; rfl
    · have hge : i = xs.length := by have := of_decide_eq_false hc; omega
      subst hge
      rw [List.take_length] at H
      refine nc ?_
      refine nc ?_
      refine loop_rule (fun k e w' => ∃ i : Nat, i + k = ys.length ∧ e = [(0, .slice A xs.length cA), (1, .slice B ys.length cB), (6, .pointer (some ⟨b, 0, none⟩)), (8, .pointer (some ⟨b2, 0, none⟩)), (11, .int .i64 (i : Int))] ∧
        Own ok w w' [.blk b2 [.chan (some c2)] 78, .obj c2 (isChan 60 (ys.take i)), .blk b [.chan (some c)] 78, .obj c (isChan 60 xs), .dat (dSl tStr (.slice A xs.length cA) xs), .dat (dSl tStr (.slice B ys.length cB) ys)]) ys.length
        [(0, .slice A xs.length cA), (1, .slice B ys.length cB), (6, .pointer (some ⟨b, 0, none⟩)), (8, .pointer (some ⟨b2, 0, none⟩)), (11, .int .i64 ((0 : Nat) : Int))] ⟨rfl, rfl, rfl, rfl, rfl, trivial⟩ ⟨0, by omega, rfl, H⟩ ?_
      intro k e w' ⟨i, hik, he, H⟩
      subst he
      refine nc ?_
      refine nc ?_
      refine cond_of (fun hc => ?_) (fun hc => ?_)
      · have hlt : i < ys.length := by have := of_decide_eq_true hc; omega
        refine nc ?_
        obtain ⟨a, c', cs, hA', hR, H⟩ := H.elem 5 rfl i hlt
        cases hA'
        have hR : cs = [.string (bs ys[i])] := hR
        subst hR
        refine indexAddr_rule (e := 9) 1 i (by kernel_rfl) (by kernel_rfl) (fun _ => hlt) ?_
        refine own_loadD H 0 rfl 0 (by kernel_rfl) rfl ?_
        refine call_rule (by kernel_rfl) (push_own H 2 3 rfl rfl ys[i]) fun r w4 ⟨hr, H⟩ => ?_
        subst hr
        have hl : (ys.take i).length < 60 := by rw [List.length_take]; omega
        have ht : ys.take i ++ [ys[i]] = ys.take (i + 1) := by rw [List.take_add_one, List.getElem?_eq_getElem hlt]; rfl
        rw [if_pos hl, ht] at H
        refine nc ?_
        refine again_in (k - 1) (by omega) [(0, .slice A xs.length cA), (1, .slice (some a) ys.length cB), (6, .pointer (some ⟨b, 0, none⟩)), (8, .pointer (some ⟨b2, 0, none⟩)), (11, .int .i64 ((i + 1 : Nat) : Int))] ⟨rfl, rfl, rfl, rfl, ?_, trivial⟩ ⟨i + 1, by omega, rfl, H.tail.tail⟩
        show some (Value.int .i64 (IntKind.i64.wrap ((i : Int) + 1))) = _
        rw [i64_id (by omega) (by omega)]; rfl
      · have hge : i = ys.length := by have := of_decide_eq_false hc; omega
        subst hge
        rw [List.take_length] at H
        refine nc ?_
        refine nc ?_
        refine nc ?_
        refine loop_rule (fun k e w' => ∃ (i : Nat) (z : Value), i + k = xs.length + ys.length ∧ e = [(0, .slice A xs.length cA), (1, .slice B ys.length cB), (6, .pointer (some ⟨b, 0, none⟩)), (8, .pointer (some ⟨b2, 0, none⟩)), (12, z), (13, .int .i64 (i : Int))] ∧
          Own ok w w' [.row z 29 1 i (strs ((xs ++ ys).take i)), .blk b2 [.chan (some c2)] 78, .obj c2 (isChan 60 (ys.drop (i - xs.length))), .blk b [.chan (some c)] 78, .obj c (isChan 60 (xs.drop i)), .dat (dSl tStr (.slice A xs.length cA) xs), .dat (dSl tStr (.slice B ys.length cB) ys)]) (xs.length + ys.length)
          [(0, .slice A xs.length cA), (1, .slice B ys.length cB), (6, .pointer (some ⟨b, 0, none⟩)), (8, .pointer (some ⟨b2, 0, none⟩)), (12, .slice none 0 0), (13, .int .i64 ((0 : Nat) : Int))] ⟨rfl, rfl, rfl, rfl, rfl, rfl, trivial⟩ ⟨0, _, by omega, rfl, by simpa [strs] using H.nilRow 29 1⟩ ?_
        intro k e w' ⟨i, z, hik, he, H⟩
        subst he
        refine nc ?_
        refine nc ?_
        have hadd : IntKind.i64.wrap ((xs.length : Int) + ys.length) = ((xs.length + ys.length : Nat) : Int) := by rw [i64_id (by omega) (by omega)]; omega
        refine cond_of (fun hc => ?_) (fun hc => ?_)
        · have hlt : i < xs.length + ys.length := by
            have := of_decide_eq_true hc
            rw [hadd] at this; omega
          refine nc ?_
          refine call_rule (by kernel_rfl) (either_own H 3 4 1 2 rfl rfl rfl rfl (by omega)) fun r w4 ⟨hr, H⟩ => ?_
          have key : ∃ n : Int, r = .tuple #[.string (bs ((xs ++ ys)[i]'(by simp; omega))), .int .i64 n] ∧ (n = 1 ↔ i < xs.length) ∧ n ≠ 0 ∧
              Own ok w w4 [.row z 29 1 i (strs ((xs ++ ys).take i)), .blk b2 [.chan (some c2)] 78, .obj c2 (isChan 60 (ys.drop (i + 1 - xs.length))), .blk b [.chan (some c)] 78, .obj c (isChan 60 (xs.drop (i + 1))), .dat (dSl tStr (.slice A xs.length cA) xs), .dat (dSl tStr (.slice B ys.length cB) ys)] := by
            by_cases hi : i < xs.length
            · have h1 : 0 < (xs.drop i).length := by simp; omega
              rw [if_pos h1] at hr H
              refine ⟨1, ?_, by simp [hi], by omega, ?_⟩
              · rw [hr, List.drop_eq_getElem_cons hi, List.getElem_append_left hi]; rfl
              · rw [show i + 1 - xs.length = i - xs.length by omega, ← List.tail_drop]
                exact H
            · have h1 : ¬ 0 < (xs.drop i).length := by simp; omega
              have h2 : 0 < (ys.drop (i - xs.length)).length := by simp; omega
              rw [if_neg h1] at hr H
              rw [if_pos h2] at hr
              refine ⟨2, ?_, by simp [hi], by omega, ?_⟩
              · rw [hr, List.drop_eq_getElem_cons (by omega), List.getElem_append_right (by omega)]; rfl
              · rw [show i + 1 - xs.length = (i - xs.length) + 1 by omega, ← List.tail_drop, show xs.drop (i + 1) = xs.drop i by rw [List.drop_of_length_le (by omega), List.drop_of_length_le (by omega)]]
                exact H
          obtain ⟨n, hr', hn1, hn0, H⟩ := key
          clear hr
          subst hr'
          refine nc ?_
          refine nc ?_
          have hb1 : (n == 1) = decide ((i : Int) < (xs.length : Int)) := by
            by_cases hi : i < xs.length
            · rw [hn1.2 hi, decide_eq_true (by omega)]; rfl
            · have : ¬ n = 1 := fun h => hi (hn1.1 h)
              rw [decide_eq_false (by omega)]; simpa using this
          have hb0 : (n == 0) = false := by simpa using hn0
          refine cond_no (by simp [hb1, hb0]) ?_
          refine nc ?_
          refine own_buildSlice (e := 29) (sz := 1) (z := .string ⟨#[]⟩) (cs := [.string (bs ((xs ++ ys)[i]'(by simp; omega)))]) H (by kernel_rfl) (by kernel_rfl) (by kernel_rfl) rfl rfl rfl rfl ?_
          intro q w5 H
          refine own_appendBlk (e := 29) (sz := 1) (z := .string ⟨#[]⟩) (by_ := 16) (m := 1) H 1 0 rfl rfl (by kernel_rfl) (by kernel_rfl) rfl rfl rfl (by intro u hu; simp at hu; subst hu; rfl) (by omega) (by omega) ?_
          intro z' w6 H
          have ht : strs ((xs ++ ys).take i) ++ [.string (bs ((xs ++ ys)[i]'(by simp; omega)))] = strs ((xs ++ ys).take (i + 1)) := by
            rw [List.take_add_one, List.getElem?_eq_getElem (by simp; omega), strs_append]; rfl
          rw [ht] at H
          refine nc ?_
          refine again_in (k - 1) (by omega) [(0, .slice A xs.length cA), (1, .slice B ys.length cB), (6, .pointer (some ⟨b, 0, none⟩)), (8, .pointer (some ⟨b2, 0, none⟩)), (12, z'), (13, .int .i64 ((i + 1 : Nat) : Int))] ⟨rfl, rfl, rfl, rfl, rfl, ?_, trivial⟩ ⟨i + 1, z', by omega, rfl, H.tail⟩
          show some (Value.int .i64 (IntKind.i64.wrap ((i : Int) + 1))) = _
          rw [i64_id (by omega) (by omega)]; rfl
        · have hge : i = xs.length + ys.length := by
            have := of_decide_eq_false hc
            rw [hadd] at this; omega
          have ht : (xs ++ ys).take i = xs ++ ys := List.take_of_length_le (by simp; omega)
          have hd1 : xs.drop i = [] := List.drop_of_length_le (by omega)
          have hd2 : ys.drop (i - xs.length) = [] := List.drop_of_length_le (by omega)
          rw [ht, hd1, hd2] at H
          refine nc ?_
          refine call_rule (by kernel_rfl) (either_own H 3 4 1 2 rfl rfl rfl rfl (by omega)) fun r w4 ⟨hr, H⟩ => ?_
          subst hr
          refine nc ?_
          rw [if_neg (by simp)] at H
          have hlen : i = (xs ++ ys).length := by simp; omega
          subst hlen
          refine own_buildEmpty (e := 9) (sz := 1) H (by kernel_rfl) (by kernel_rfl) ?_
          intro p w5 H
          refine own_appendSl (k := tStr) (e := 9) (z := .string ⟨#[]⟩) (by_ := 16) H 0 6 rfl rfl (by kernel_rfl) (by kernel_rfl) rfl rfl (by omega) (by omega) ?_
          intro p2 w6 n1 hn1 H
          refine own_appendSl (k := tStr) (e := 9) (z := .string ⟨#[]⟩) (by_ := 16) H 0 7 rfl rfl (by kernel_rfl) (by kernel_rfl) rfl rfl (by omega) (by omega) ?_
          intro p3 w7 n2 hn2 H
          have e1 := strs_of hn1
          have e2 := strs_of hn2
          subst e1 e2
          have e3 : [] ++ strs xs ++ strs ys = strs (xs ++ ys) := by rw [strs_append]; rfl
          have e4 : 0 + xs.length + ys.length = (xs ++ ys).length := by simp
          replace H : Own ok w w7 [.row p3 9 1 (xs ++ ys).length (strs (xs ++ ys)), .row z 29 1 (xs ++ ys).length (strs (xs ++ ys)), .blk b2 [.chan (some c2)] 78, .obj c2 (isChan 60 []), .blk b [.chan (some c)] 78, .obj c (isChan 60 []), .dat (dSl tStr (.slice A xs.length cA) xs), .dat (dSl tStr (.slice B ys.length cB) ys)] := by
            rw [e3, e4] at H
            exact H
          replace H := (H.freezeS 0 rfl).freezeS 1 rfl
          refine call_rule (by kernel_rfl) (same_calls (H.dat 1 rfl) (H.dat 0 rfl) (by simp; omega)) fun r w8 ⟨hr, hb⟩ => ?_
          replace hr : r = .bool true := by rw [hr, decide_eq_true rfl]
          subst hr
          replace H := H.call hb
          refine call_rule (by kernel_rfl) (len_own H 4 5 rfl rfl) fun r w9 ⟨hr, H⟩ => ?_
          subst hr
          refine call_rule (by kernel_rfl) (len_own H 2 3 rfl rfl) fun r w9 ⟨hr, H⟩ => ?_
          subst hr
          refine nc ?_
          refine ret_of [.bool true] ⟨rfl, trivial⟩ ⟨_, rfl, rfl, H.below⟩
end Go.Proofs.Ytgiipmdndfcgnaa.Queue
