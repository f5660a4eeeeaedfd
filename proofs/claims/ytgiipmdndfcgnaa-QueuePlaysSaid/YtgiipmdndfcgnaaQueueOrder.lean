/- The law QueueOrder answers true for every room and every list of acts. -/
import Derived.Test.YtgiipmdndfcgnaaQueueRooms
import Derived.Test.YtgiipmdndfcgnaaOpen
namespace Go.Proofs.Ytgiipmdndfcgnaa.Queue
open Go.Conc Go.RowKit Go.Eng Go.Proofs
set_option linter.unusedVariables false

/-- An act: its number, its text. -/
def tAct : Ty (Int × List UInt8) := tPair (tIn .i64) tTxt
theorem opensAct : Opens Try.prog 58 tAct :=
  opens_struct (fs := #[_, _]) Try.underlying58 (by kernel_rfl) (opensF_cons rfl (opens_int Try.underlying3 (by kernel_rfl)) (opensF_one rfl (opens_str Try.underlying9 (by kernel_rfl))))
theorem actCells {w : World} {ok : Nat → Prop} {x : Int × List UInt8} {cs : List Value} (h : tAct.R w ok x cs) : cs = [.int .i64 x.1, .string (bs x.2)] ∧ -9223372036854775808 ≤ x.1 ∧ x.1 ≤ 9223372036854775807 := by
  obtain ⟨c, d, rfl, ⟨h1, h2⟩, h3, h4⟩ := h
  have h2 : c = [.int .i64 x.1] := h2
  have h4 : d = [.string (bs x.2)] := h4
  subst h2 h4
  exact ⟨rfl, (in_i64 h1).1, (in_i64 h1).2⟩

theorem new_bad (n : Int) (h : n < 1 ∨ 1000 < n) (w : World) :
    Calls Try.prog 14 #[.int .i64 n] w fun e w' => ∃ v, e = .returned v ∧ (v = .tuple #[.pointer none, .int .i64 1] ∧ Below w.heap.size w w') := by
  refine enter (args := [.int .i64 n]) Try.func14 rfl Try.ntmps14 rfl rfl ?_
  try refine nc ?_
  try refine nc ?_
  try refine nc ?_
  try refine nc ?_
  refine cond_yes (by
    show (bif decide (n < 1) then true else decide (n > 1000)) = true
    by_cases h1 : n < 1
    · rw [decide_eq_true h1]; rfl
    · rw [decide_eq_false h1, decide_eq_true (by omega)]; rfl) ?_
  try refine nc ?_
  refine ret_of [.pointer none, .int .i64 1] ⟨rfl, rfl, trivial⟩ ⟨_, rfl, rfl, Below.refl _ _⟩

set_option maxHeartbeats 1000000 in
theorem orderLaw_calls {ok : Nat → Prop} {w : World} (room : Int) {v : Value} {l : List (Int × List UInt8)} (hv : slR tAct w ok v l) :
    Calls Try.prog 10 #[.int .i64 room, v] w fun e w' => ∃ r, e = .returned r ∧ (r = .bool true ∧ Below w.heap.size w w') := by
  have H : Own ok w w [.dat (dSl tAct v l)] := Own.start (ds := [dSl tAct v l]) (by
    intro d hd
    rw [List.mem_singleton] at hd; subst hd; exact hv)
  obtain ⟨A, cA, hA, hcA⟩ := H.sl 0 rfl
  subst hA
  refine enter (args := [.int .i64 room, .slice A l.length cA]) Try.func10 rfl Try.ntmps10 rfl rfl ?_
  try refine nc ?_
  refine call_rule (by kernel_rfl) (shown_calls w) fun r w1 ⟨hr, hb⟩ => ?_
  subst hr
  replace H := H.call hb
  try refine nc ?_
  by_cases hroom : 1 ≤ room ∧ room ≤ 1000
  rotate_left
  · have hd : (bif decide (room < 1) then true else decide (room > 1000)) = true := by
      by_cases h1 : room < 1
      · rw [decide_eq_true h1]; rfl
      · rw [decide_eq_false h1, decide_eq_true (by omega)]; rfl
    refine call_rule (by kernel_rfl) (new_bad room (by omega) _) fun r w2 ⟨hr, hb⟩ => ?_
    subst hr
    replace H := H.call hb
    try refine nc ?_
    refine eqlNil_rule (by kernel_rfl) ?_
    try refine nc ?_
    try refine nc ?_
    try refine nc ?_
    refine cond_yes rfl ?_
    try refine nc ?_
    refine ret_of [.bool true] ⟨?_, trivial⟩ ⟨_, rfl, rfl, H.below⟩
    show some (Value.bool (true == (bif decide (room < 1) then true else decide (room > 1000)))) = _
    rw [hd]; rfl
  obtain ⟨R, hR⟩ : ∃ R : Nat, (R : Int) = room := ⟨room.toNat, by omega⟩
  subst hR
  have hd1 : decide ((R : Int) < 1) = false := decide_eq_false (by omega)
  have hd2 : decide ((R : Int) > 1000) = false := decide_eq_false (by omega)
  refine call_rule (by kernel_rfl) (new_own H (R : Int) (by omega) (by omega)) fun r w2 ⟨b, c, hr, H⟩ => ?_
  subst hr
  try refine nc ?_
  refine eqlNil_rule (by kernel_rfl) ?_
  try refine nc ?_
  try refine nc ?_
  try refine nc ?_
  refine cond_of (fun hc => ?_) (fun hc => ?_)
  · try refine nc ?_
    refine ret_of [.bool true] ⟨?_, trivial⟩ ⟨_, rfl, rfl, H.below⟩
    show some (Value.bool (false == (bif decide ((R : Int) < 1) then true else decide ((R : Int) > 1000)))) = _
    rw [hd1, hd2]; rfl
  have hl : l.length ≤ 80 := by
    have : decide ((l.length : Int) > 80) = false := hc
    have := of_decide_eq_false this
    omega
  try refine nc ?_
  try refine nc ?_
  try refine nc ?_
  try refine nc ?_
  refine loop_rule (fun k e w' => ∃ (i : Nat) (A B D : Option Addr) (cB cD : Nat) (ins outs q : List (List UInt8)), i + k = l.length ∧ e = [(0, .int .i64 (R : Int)), (1, .slice A l.length cA), (6, .pointer (some ⟨b, 0, none⟩)), (8, .slice B ins.length cB), (9, .slice D outs.length cD), (10, .int .i64 (i : Int))] ∧
    ins = outs ++ q ∧ ins.length ≤ i ∧ q.length ≤ R ∧
    Own ok w w' [.row (.slice B ins.length cB) 9 1 ins.length (strs ins), .row (.slice D outs.length cD) 29 1 outs.length (strs outs), .blk b [.chan (some c)] 78, .obj c (isChan R q), .dat (dSl tAct (.slice A l.length cA) l)]) l.length
    [(0, .int .i64 (R : Int)), (1, .slice A l.length cA), (6, .pointer (some ⟨b, 0, none⟩)), (8, .slice none 0 0), (9, .slice none 0 0), (10, .int .i64 ((0 : Nat) : Int))] ⟨rfl, rfl, rfl, rfl, rfl, rfl, trivial⟩
    ⟨0, A, none, none, 0, 0, [], [], [], by omega, rfl, rfl, Nat.le_refl _, Nat.zero_le _, (H.nilRow 29 1).nilRow 9 1⟩ ?_
  intro k e w' ⟨i, A, B, D, cB, cD, ins, outs, q, hik, he, hins, hini, hq, H⟩
  subst he
  have hlen : ins.length = outs.length + q.length := by rw [hins, List.length_append]
  have hwr : IntKind.i64.wrap ((ins.length : Int) - (outs.length : Int)) = (q.length : Int) := by rw [i64_id (by omega) (by omega)]; omega
  try refine nc ?_
  try refine nc ?_
  try refine nc ?_
  try refine nc ?_
  refine cond_of (fun hc => ?_) (fun hc => ?_)
  · have hlt : i < l.length := by have := of_decide_eq_true hc; omega
    try refine nc ?_
    obtain ⟨a, c', cs, hA', hE, H⟩ := H.elem 4 rfl i hlt
    cases hA'
    obtain ⟨hcs, hx0, hx1⟩ := actCells hE
    subst hcs
    refine indexAddr_rule (e := 58) 2 i (by kernel_rfl) (by kernel_rfl) (fun _ => hlt) ?_
    refine own_loadD H 0 rfl 0 (by kernel_rfl) rfl ?_
    refine call_rule (by kernel_rfl) (pick_calls _ 2 (by omega) hx0 hx1 _) fun r w4 ⟨hr, hb⟩ => ?_
    subst hr
    replace H := H.call hb
    try refine nc ?_
    try refine nc ?_
    try refine nc ?_
    refine cond_of (fun hc => ?_) (fun hc => ?_)
    · try refine nc ?_
      refine indexAddr_rule (e := 58) 2 i (by kernel_rfl) (by kernel_rfl) (fun _ => hlt) ?_
      refine own_loadD H 0 rfl 1 (by kernel_rfl) rfl ?_
      by_cases hroom2 : q.length < R
      · refine call_rule (by kernel_rfl) (push_own H 4 5 rfl rfl l[i].2) fun r w5 ⟨hr, H⟩ => ?_
        rw [if_pos hroom2] at hr H
        subst hr
        try refine nc ?_
        try refine nc ?_
        try refine nc ?_
        try refine nc ?_
        refine cond_no (by
          show (true != decide (IntKind.i64.wrap ((ins.length : Int) - (outs.length : Int)) < (R : Int))) = false
          rw [hwr, decide_eq_true (by omega)]; rfl) ?_
        try refine nc ?_
        try refine nc ?_
        try refine nc ?_
        refine cond_yes rfl ?_
        try refine nc ?_
        refine indexAddr_rule (e := 58) 2 i (by kernel_rfl) (by kernel_rfl) (fun _ => hlt) ?_
        refine own_loadD H 0 rfl 1 (by kernel_rfl) rfl ?_
        refine own_buildSlice (e := 9) (sz := 1) (z := .string ⟨#[]⟩) (cs := [.string (bs l[i].2)]) H (by kernel_rfl) (by kernel_rfl) (by kernel_rfl) rfl rfl rfl rfl ?_
        intro g w6 H
        refine own_appendBlk (e := 9) (sz := 1) (z := .string ⟨#[]⟩) (by_ := 16) (m := 1) H 3 0 rfl rfl (by kernel_rfl) (by kernel_rfl) rfl rfl rfl (by intro u hu; simp at hu; subst hu; rfl) (by omega) (by omega) ?_
        intro z' w7 H
        have ht : strs ins ++ [.string (bs l[i].2)] = strs (ins ++ [l[i].2]) := by rw [strs_append]; rfl
        have hl1 : ins.length + 1 = (ins ++ [l[i].2]).length := by simp
        rw [ht, hl1] at H
        obtain ⟨B', cB', hz, _, _⟩ := H.rowSl 3 rfl
        subst hz
        try refine nc ?_
        try refine nc ?_
        try refine nc ?_
        refine again_in (k - 1) (by omega) [(0, .int .i64 (R : Int)), (1, .slice (some a) l.length cA), (6, .pointer (some ⟨b, 0, none⟩)), (8, .slice B' (ins ++ [l[i].2]).length cB'), (9, .slice D outs.length cD), (10, .int .i64 ((i + 1 : Nat) : Int))] ⟨rfl, rfl, rfl, rfl, rfl, ?_, trivial⟩
          ⟨i + 1, some a, B', D, cB', cD, ins ++ [l[i].2], outs, q ++ [l[i].2], by omega, rfl, by rw [hins, List.append_assoc], by simp; omega, by simp; omega, H.tail.tail.tail⟩
        show some (Value.int .i64 (IntKind.i64.wrap ((i : Int) + 1))) = _
        rw [i64_id (by omega) (by omega)]; rfl
      · refine call_rule (by kernel_rfl) (push_own H 4 5 rfl rfl l[i].2) fun r w5 ⟨hr, H⟩ => ?_
        rw [if_neg hroom2] at hr H
        subst hr
        try refine nc ?_
        try refine nc ?_
        try refine nc ?_
        try refine nc ?_
        refine cond_no (by
          show (false != decide (IntKind.i64.wrap ((ins.length : Int) - (outs.length : Int)) < (R : Int))) = false
          rw [hwr, decide_eq_false (by omega)]; rfl) ?_
        try refine nc ?_
        try refine nc ?_
        try refine nc ?_
        refine cond_no rfl ?_
        try refine nc ?_
        try refine nc ?_
        try refine nc ?_
        refine again_in (k - 1) (by omega) [(0, .int .i64 (R : Int)), (1, .slice (some a) l.length cA), (6, .pointer (some ⟨b, 0, none⟩)), (8, .slice B ins.length cB), (9, .slice D outs.length cD), (10, .int .i64 ((i + 1 : Nat) : Int))] ⟨rfl, rfl, rfl, rfl, rfl, ?_, trivial⟩
          ⟨i + 1, some a, B, D, cB, cD, ins, outs, q, by omega, rfl, hins, by omega, hq, H.tail.tail⟩
        show some (Value.int .i64 (IntKind.i64.wrap ((i : Int) + 1))) = _
        rw [i64_id (by omega) (by omega)]; rfl
    · try refine nc ?_
      refine call_rule (by kernel_rfl) (pop_own H 4 5 rfl rfl) fun r w5 ⟨hr, H⟩ => ?_
      cases q with
      | nil =>
        have hr : r = .tuple #[.string (bs []), .bool false] := hr
        subst hr
        try refine nc ?_
        try refine nc ?_
        try refine nc ?_
        try refine nc ?_
        refine cond_no (by
          show (false != decide ((ins.length : Int) > (outs.length : Int))) = false
          rw [decide_eq_false (by simp at hlen; omega)]; rfl) ?_
        try refine nc ?_
        try refine nc ?_
        try refine nc ?_
        refine cond_no rfl ?_
        try refine nc ?_
        try refine nc ?_
        try refine nc ?_
        refine again_in (k - 1) (by omega) [(0, .int .i64 (R : Int)), (1, .slice (some a) l.length cA), (6, .pointer (some ⟨b, 0, none⟩)), (8, .slice B ins.length cB), (9, .slice D outs.length cD), (10, .int .i64 ((i + 1 : Nat) : Int))] ⟨rfl, rfl, rfl, rfl, rfl, ?_, trivial⟩
          ⟨i + 1, some a, B, D, cB, cD, ins, outs, [], by omega, rfl, hins, by omega, hq, H.tail.tail⟩
        show some (Value.int .i64 (IntKind.i64.wrap ((i : Int) + 1))) = _
        rw [i64_id (by omega) (by omega)]; rfl
      | cons x q =>
        have hr : r = .tuple #[.string (bs x), .bool true] := by rw [hr, decide_eq_true (by simp)]; rfl
        subst hr
        simp only [List.length_cons] at hlen hq
        try refine nc ?_
        try refine nc ?_
        try refine nc ?_
        try refine nc ?_
        refine cond_no (by
          show (true != decide ((ins.length : Int) > (outs.length : Int))) = false
          rw [decide_eq_true (by omega)]; rfl) ?_
        try refine nc ?_
        try refine nc ?_
        try refine nc ?_
        refine cond_yes rfl ?_
        try refine nc ?_
        refine own_buildSlice (e := 29) (sz := 1) (z := .string ⟨#[]⟩) (cs := [.string (bs x)]) H (by kernel_rfl) (by kernel_rfl) (by kernel_rfl) rfl rfl rfl rfl ?_
        intro g w6 H
        refine own_appendBlk (e := 29) (sz := 1) (z := .string ⟨#[]⟩) (by_ := 16) (m := 1) H 4 0 rfl rfl (by kernel_rfl) (by kernel_rfl) rfl rfl rfl (by intro u hu; simp at hu; subst hu; rfl) (by omega) (by omega) ?_
        intro z' w7 H
        have ht : strs outs ++ [.string (bs x)] = strs (outs ++ [x]) := by rw [strs_append]; rfl
        have hl1 : outs.length + 1 = (outs ++ [x]).length := by simp
        rw [ht, hl1] at H
        obtain ⟨B', cB', hz, _, _⟩ := H.rowSl 4 rfl
        subst hz
        try refine nc ?_
        try refine nc ?_
        try refine nc ?_
        refine again_in (k - 1) (by omega) [(0, .int .i64 (R : Int)), (1, .slice (some a) l.length cA), (6, .pointer (some ⟨b, 0, none⟩)), (8, .slice B ins.length cB), (9, .slice B' (outs ++ [x]).length cB'), (10, .int .i64 ((i + 1 : Nat) : Int))] ⟨rfl, rfl, rfl, rfl, rfl, ?_, trivial⟩
          ⟨i + 1, some a, B, B', cB, cB', ins, outs ++ [x], q, by omega, rfl, by rw [hins]; simp, by omega, by omega, H.tail.tail.tail⟩
        show some (Value.int .i64 (IntKind.i64.wrap ((i : Int) + 1))) = _
        rw [i64_id (by omega) (by omega)]; rfl
  · have hge : i = l.length := by have := of_decide_eq_false hc; omega
    try refine nc ?_
    try refine nc ?_
    try refine nc ?_
    refine call_rule (by kernel_rfl) (rest_own H 2 3 rfl rfl hq (by omega)) fun r w5 H => ?_
    replace H := H.freezeS 0 rfl
    refine own_appendSl (k := tStr) (e := 29) (z := .string ⟨#[]⟩) (by_ := 16) H 2 0 rfl rfl (by kernel_rfl) (by kernel_rfl) rfl rfl (by omega) (by omega) ?_
    intro z' w6 n1 hn1 H
    have e1 := strs_of hn1
    subst e1
    rw [← strs_append, ← hins, ← hlen] at H
    obtain ⟨D', cD', hz, _, _⟩ := H.rowSl 2 rfl
    subst hz
    replace H : Own ok w w6 [.dat (dSl tStr r q), .dat (dSl tStr (.slice B ins.length cB) ins), .dat (dSl tStr (.slice D' ins.length cD') ins), .blk b [.chan (some c)] 78, .obj c (isChan R q), .dat (dSl tAct (.slice A l.length cA) l)] := (H.freezeS 1 rfl).freezeS 2 rfl
    try refine nc ?_
    refine call_rule (by kernel_rfl) (same_calls (H.dat 2 rfl) (H.dat 1 rfl) (by omega)) fun r w7 ⟨hr, hb⟩ => ?_
    replace hr : r = .bool true := by rw [hr, decide_eq_true rfl]
    subst hr
    replace H := H.call hb
    refine call_rule (by kernel_rfl) (len_own H 3 4 rfl rfl) fun r w8 ⟨hr, H⟩ => ?_
    subst hr
    try refine nc ?_
    refine ret_of [.bool true] ⟨?_, trivial⟩ ⟨_, rfl, rfl, H.below⟩
    show some (Value.bool ((q.length : Int) == IntKind.i64.wrap ((ins.length : Int) - (outs.length : Int)))) = _
    rw [hwr]; simp
end Go.Proofs.Ytgiipmdndfcgnaa.Queue
