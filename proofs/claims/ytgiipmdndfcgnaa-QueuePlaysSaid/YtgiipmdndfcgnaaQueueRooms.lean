/- The law QueueRooms answers true for every two whole numbers. -/
import Derived.Test.YtgiipmdndfcgnaaQueueNumber
namespace Go.Proofs.Ytgiipmdndfcgnaa.Queue
open Go.Conc Go.RowKit Go.Eng Go.Proofs
set_option linter.unusedVariables false

def numT (i : Nat) : List UInt8 := countedT 117 (i : Int)
def nums (a m : Nat) : List (List UInt8) := (List.range m).map fun j => numT (a + j)
theorem nums_length (a m : Nat) : (nums a m).length = m := by simp [nums]
theorem nums_snoc (a m : Nat) : nums a (m + 1) = nums a m ++ [numT (a + m)] := by simp [nums, List.range_succ]
theorem nums_cons (a m : Nat) : nums a (m + 1) = numT a :: nums (a + 1) m := by
  simp only [nums, List.range_succ_eq_map, List.map_cons, List.map_map, Nat.add_zero]
  congr 1
  apply List.map_congr_left
  intro j _
  simp only [Function.comp_apply]
  congr 1; omega
theorem nums_get (a m j : Nat) (h : j < (nums a m).length) : (nums a m)[j] = numT (a + j) := by simp [nums]

theorem roomsLaw_calls {w : World} (room pops : Int) (hr0 : -9223372036854775808 ≤ room) (hr1 : room ≤ 9223372036854775807) (hp0 : -9223372036854775808 ≤ pops) (hp1 : pops ≤ 9223372036854775807) :
    Calls Try.prog 12 #[.int .i64 room, .int .i64 pops] w fun e w' => ∃ r, e = .returned r ∧ (r = .bool true ∧ Below w.heap.size w w') := by
  have H : Own (fun _ => False) w w [] := Own.nil _ w
  refine enter (args := [.int .i64 room, .int .i64 pops]) Try.func12 rfl Try.ntmps12 rfl rfl ?_
  try refine nc ?_
  refine call_rule (by kernel_rfl) (shown_calls w) fun r w1 ⟨hr, hb⟩ => ?_
  subst hr
  replace H := H.call hb
  try refine nc ?_
  refine call_rule (by kernel_rfl) (pick_calls room 30 (by omega) hr0 hr1 _) fun r w2 ⟨hr, hb⟩ => ?_
  replace H := H.call hb
  have hpr := pickN_range room 30 (by omega)
  obtain ⟨N, hN⟩ : ∃ N : Nat, (N : Int) = 1 + pickN room 30 := ⟨(1 + pickN room 30).toNat, by omega⟩
  subst hr
  refine nc_weak (e' := [(0, .int .i64 room), (1, .int .i64 pops), (5, .bool true), (6, .int .i64 (N : Int))]) ⟨rfl, rfl, rfl, ?_, trivial⟩ ?_
  · show some (Value.int .i64 (IntKind.i64.wrap (1 + pickN room 30))) = _
    rw [i64_id (by omega) (by omega), hN]
  try refine nc ?_
  refine call_rule (by kernel_rfl) (new_own H (N : Int) (by omega) (by omega)) fun r w3 ⟨b, c, hr, H⟩ => ?_
  subst hr
  try refine nc ?_
  refine eqlNil_rule (by kernel_rfl) ?_
  try refine nc ?_
  refine cond_no rfl ?_
  try refine nc ?_
  try refine nc ?_
  refine loop_rule (fun k e w' => ∃ i : Nat, i + k = N ∧ e = [(0, .int .i64 room), (1, .int .i64 pops), (6, .int .i64 (N : Int)), (7, .pointer (some ⟨b, 0, none⟩)), (9, .int .i64 (i : Int))] ∧
    Own (fun _ => False) w w' [.blk b [.chan (some c)] 78, .obj c (isChan N (nums 0 i))]) N
    [(0, .int .i64 room), (1, .int .i64 pops), (6, .int .i64 (N : Int)), (7, .pointer (some ⟨b, 0, none⟩)), (9, .int .i64 ((0 : Nat) : Int))] ⟨rfl, rfl, rfl, rfl, rfl, trivial⟩ ⟨0, by omega, rfl, H⟩ ?_
  intro k e w' ⟨i, hik, he, H⟩
  subst he
  try refine nc ?_
  try refine nc ?_
  refine cond_of (fun hc => ?_) (fun hc => ?_)
  · have hlt : i < N := by have := of_decide_eq_true hc; omega
    try refine nc ?_
    refine call_rule (by kernel_rfl) (number_calls (IntKind.u64.wrap (i : Int)) _) fun r w4 ⟨hr, hb⟩ => ?_
    rw [u64_id (by omega) (by omega)] at hr
    subst hr
    replace H := H.call hb
    refine call_rule (by kernel_rfl) (push_own H 0 1 rfl rfl (numT i)) fun r w5 ⟨hr, H⟩ => ?_
    have hl : (nums 0 i).length < N := by rw [nums_length]; exact hlt
    rw [if_pos hl] at hr H
    have e1 : nums 0 i ++ [numT i] = nums 0 (i + 1) := by rw [nums_snoc, Nat.zero_add]
    rw [e1] at H
    subst hr
    try refine nc ?_
    try refine nc ?_
    refine cond_no rfl ?_
    try refine nc ?_
    refine again_in (k - 1) (by omega) [(0, .int .i64 room), (1, .int .i64 pops), (6, .int .i64 (N : Int)), (7, .pointer (some ⟨b, 0, none⟩)), (9, .int .i64 ((i + 1 : Nat) : Int))] ⟨rfl, rfl, rfl, rfl, ?_, trivial⟩ ⟨i + 1, by omega, rfl, H⟩
    show some (Value.int .i64 (IntKind.i64.wrap ((i : Int) + 1))) = _
    rw [i64_id (by omega) (by omega)]; rfl
  · have hge : i = N := by have := of_decide_eq_false hc; omega
    subst hge
    try refine nc ?_
    refine call_rule (by kernel_rfl) (push_own H 0 1 rfl rfl [103]) fun r w4 ⟨hr, H⟩ => ?_
    rw [if_neg (by rw [nums_length]; omega)] at hr H
    subst hr
    replace H := H.less (L' := [.blk b [.chan (some c)] 78, .obj c (isChan i (nums 0 i))]) (List.Sublist.refl _)
    refine call_rule (by kernel_rfl) (len_own H 0 1 rfl rfl) fun r w5 ⟨hr, H⟩ => ?_
    rw [nums_length] at hr
    subst hr
    try refine nc ?_
    try refine nc ?_
    refine cond_no (by simp) ?_
    try refine nc ?_
    have hpp := pickN_range pops ((i : Int) + 1) (by omega)
    have hw1 : IntKind.i64.wrap ((i : Int) + 1) = (i : Int) + 1 := i64_id (by omega) (by omega)
    refine call_rule (by kernel_rfl) (pick_calls pops (IntKind.i64.wrap ((i : Int) + 1)) (by omega) hp0 hp1 w5) fun r w6 ⟨hr, hb⟩ => ?_
    rw [hw1] at hr
    replace H := H.call hb
    obtain ⟨m, hm⟩ : ∃ m : Nat, pickN pops ((i : Int) + 1) = (m : Int) := ⟨(pickN pops ((i : Int) + 1)).toNat, by omega⟩
    rw [hm] at hr hpp
    subst hr
    try refine nc ?_
    try refine nc ?_
    refine loop_rule (fun k e w' => ∃ j : Nat, j + k = m ∧ e = [(0, .int .i64 room), (1, .int .i64 pops), (6, .int .i64 (i : Int)), (7, .pointer (some ⟨b, 0, none⟩)), (10, .int .i64 (m : Int)), (11, .int .i64 (j : Int))] ∧
      Own (fun _ => False) w w' [.blk b [.chan (some c)] 78, .obj c (isChan i (nums j i))]) m
      [(0, .int .i64 room), (1, .int .i64 pops), (6, .int .i64 (i : Int)), (7, .pointer (some ⟨b, 0, none⟩)), (10, .int .i64 (m : Int)), (11, .int .i64 ((0 : Nat) : Int))] ⟨rfl, rfl, rfl, rfl, rfl, rfl, trivial⟩ ⟨0, by omega, rfl, H⟩ ?_
    intro k' e w7 ⟨j, hjk, he, H⟩
    subst he
    try refine nc ?_
    try refine nc ?_
    refine cond_of (fun hc => ?_) (fun hc => ?_)
    · have hlt : j < m := by have := of_decide_eq_true hc; omega
      try refine nc ?_
      refine call_rule (by kernel_rfl) (pop_own H 0 1 rfl rfl) fun r w8 ⟨hr, H⟩ => ?_
      obtain ⟨i', rfl⟩ : ∃ i', i = i' + 1 := ⟨i - 1, by omega⟩
      rw [nums_cons] at hr H
      rw [decide_eq_true (by simp), List.headD_cons] at hr
      simp only [List.tail_cons] at H
      subst hr
      try refine nc ?_
      refine call_yes rfl (by kernel_rfl) (number_calls (IntKind.u64.wrap (j : Int)) _) fun r w9 ⟨hr, hb⟩ => ?_
      rw [u64_id (by omega) (by omega)] at hr
      subst hr
      replace H := H.call hb
      have hw2 : IntKind.i64.wrap (((i' + 1 : Nat) : Int) + (j : Int)) = ((i' + 1 + j : Nat) : Int) := by rw [i64_id (by omega) (by omega)]; omega
      refine call_yes (by show ((!_) && true) = true; simp [numT]) (by kernel_rfl) (number_calls (IntKind.u64.wrap (IntKind.i64.wrap (((i' + 1 : Nat) : Int) + (j : Int)))) _) fun r w10 ⟨hr, hb⟩ => ?_
      rw [hw2, u64_id (by omega) (by omega)] at hr
      subst hr
      replace H := H.call hb
      refine call_yes (by show ((!_) && true) = true; simp [numT]) (by kernel_rfl) (push_own H 0 1 rfl rfl (numT (i' + 1 + j))) fun r w11 ⟨hr, H⟩ => ?_
      have hl : (nums (j + 1) i').length < i' + 1 := by rw [nums_length]; omega
      rw [if_pos hl] at hr H
      subst hr
      have e1 : nums (j + 1) i' ++ [numT (i' + 1 + j)] = nums (j + 1) (i' + 1) := by rw [nums_snoc]; congr 3; omega
      rw [e1] at H
      try refine nc ?_
      refine cond_no (by simp [numT]) ?_
      try refine nc ?_
      refine again_in (k' - 1) (by omega) [(0, .int .i64 room), (1, .int .i64 pops), (6, .int .i64 ((i' + 1 : Nat) : Int)), (7, .pointer (some ⟨b, 0, none⟩)), (10, .int .i64 (m : Int)), (11, .int .i64 ((j + 1 : Nat) : Int))] ⟨rfl, rfl, rfl, rfl, rfl, ?_, trivial⟩ ⟨j + 1, by omega, rfl, H⟩
      show some (Value.int .i64 (IntKind.i64.wrap ((j : Int) + 1))) = _
      rw [i64_id (by omega) (by omega)]; rfl
    · have hge : j = m := by have := of_decide_eq_false hc; omega
      subst hge
      try refine nc ?_
      refine call_rule (by kernel_rfl) (rest_own H 0 1 rfl rfl (by rw [nums_length]; omega) (by rw [nums_length]; omega)) fun r w8 H => ?_
      try refine nc ?_
      try refine nc ?_
      obtain ⟨A, cA, hz, _, hcA⟩ := H.rowSl 0 rfl
      subst hz
      replace H := H.freezeS 0 rfl
      refine loop_rule (fun k e w' => ∃ (q : Nat) (A : Option Addr), q + k = i ∧ e = [(6, .int .i64 (i : Int)), (7, .pointer (some ⟨b, 0, none⟩)), (10, .int .i64 (j : Int)), (14, .slice A (nums j i).length cA), (15, .int .i64 (q : Int))] ∧
        Own (fun _ => False) w w' [.dat (dSl tStr (.slice A (nums j i).length cA) (nums j i)), .blk b [.chan (some c)] 78, .obj c (isChan i (nums j i))]) i
        [(6, .int .i64 (i : Int)), (7, .pointer (some ⟨b, 0, none⟩)), (10, .int .i64 (j : Int)), (14, .slice A (nums j i).length cA), (15, .int .i64 ((0 : Nat) : Int))] ⟨rfl, rfl, rfl, rfl, rfl, trivial⟩ ⟨0, A, by omega, rfl, H⟩ ?_
      clear hcA
      intro k2 e w9 ⟨q, A, hqk, he, H⟩
      subst he
      have hnl := nums_length j i
      try refine nc ?_
      try refine nc ?_
      refine cond_of (fun hc => ?_) (fun hc => ?_)
      · have hlt : q < (nums j i).length := by have := of_decide_eq_true hc; omega
        try refine nc ?_
        obtain ⟨a, c', cs, hA', hR, H⟩ := H.elem 0 rfl q hlt
        cases hA'
        have hR : cs = [.string (bs (nums j i)[q])] := hR
        subst hR
        have hw3 : IntKind.i64.wrap ((j : Int) + (q : Int)) = ((j + q : Nat) : Int) := by rw [i64_id (by omega) (by omega)]; omega
        refine draw_rule [] (by kernel_rfl) (by kernel_rfl) H ?_
        refine c_indexAddr (e := 29) 1 q (by kernel_rfl) (by kernel_rfl) (fun _ => hlt) ?_
        refine c_loadD 0 rfl 0 (by kernel_rfl) rfl ?_
        refine c_call (.string (bs (numT (j + q)))) (by kernel_rfl) (fun _ w3 _ => ?_) ?_
        · have := number_calls (IntKind.u64.wrap (IntKind.i64.wrap ((j : Int) + (q : Int)))) w3
          refine this.mono fun e w' ⟨v, he, hv, hb⟩ => ⟨v, he, ?_, hb⟩
          rw [hw3, u64_id (by omega) (by omega)] at hv
          exact hv
        refine fun w10 H => ?_
        try refine nc ?_
        refine cond_no (by simp [nums_get]) ?_
        try refine nc ?_
        refine again_in (k2 - 1) (by omega) [(6, .int .i64 (i : Int)), (7, .pointer (some ⟨b, 0, none⟩)), (10, .int .i64 (j : Int)), (14, .slice (some a) (nums j i).length cA), (15, .int .i64 ((q + 1 : Nat) : Int))] ⟨rfl, rfl, rfl, rfl, ?_, trivial⟩ ⟨q + 1, some a, by omega, rfl, H.tail.tail⟩
        show some (Value.int .i64 (IntKind.i64.wrap ((q : Int) + 1))) = _
        rw [i64_id (by omega) (by omega)]; rfl
      · try refine nc ?_
        try refine nc ?_
        refine call_yes (by show (_ && true) = true; simp; omega) (by kernel_rfl) (push_own H 1 2 rfl rfl [103]) fun r w10 ⟨hr, H⟩ => ?_
        rw [if_neg (by omega)] at hr
        subst hr
        try refine nc ?_
        refine ret_of [.bool true] ⟨?_, trivial⟩ ⟨_, rfl, rfl, H.below⟩
        show some (Value.bool (bif (decide _) then _ else _)) = _
        rw [decide_eq_true (by omega)]; rfl
end Go.Proofs.Ytgiipmdndfcgnaa.Queue
