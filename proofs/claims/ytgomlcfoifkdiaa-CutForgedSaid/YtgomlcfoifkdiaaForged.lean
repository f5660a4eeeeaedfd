/- CutForged: a longer row that does not begin with what one has. -/
import Derived.Test.YtgomlcfoifkdiaaShown11
import Derived.Test.YtgomlcfoifkdiaaTexts
import Derived.Test.YtgomlcfoifkdiaaNumber
namespace Go.Proofs.Ytgomlcfoifkdiaa.Cut
open Go.RowKit Go.Eng Go.Proofs
set_option linter.unusedVariables false
set_option maxRecDepth 20000

variable {ok : Nat → Prop} {w0 w : World} {L : List Eng.Item}

def nums (j : Nat) : List Tx := (List.range j).map fun q : Nat => countedT 117 (q : Int)
def nams (j : Nat) : List Tx := (List.range j).map fun q : Nat => countedT 110 (q : Int)
theorem nums_len (j : Nat) : (nums j).length = j := by simp [nums]
theorem nams_len (j : Nat) : (nams j).length = j := by simp [nams]
theorem nums_succ (j : Nat) : nums (j + 1) = nums j ++ [countedT 117 (j : Int)] := by simp [nums, List.range_succ]
theorem nams_succ (j : Nat) : nams (j + 1) = nams j ++ [countedT 110 (j : Int)] := by simp [nams, List.range_succ]
theorem nams_take {i j : Nat} (h : i ≤ j) : (nams j).take i = nams i := by
  unfold nams
  rw [← List.map_take, List.take_range, Nat.min_eq_left h]
theorem nums_nams {i j : Nat} (hi : 0 < i) (hj : i ≤ j) : ¬ nums i = (nams j).take (nums i).length := by
  rw [nums_len, nams_take hj]
  intro h
  have h1 := congrArg (·[0]?) h
  simp only [nums, nams] at h1
  rw [List.getElem?_map, List.getElem?_map, List.getElem?_range (by omega)] at h1
  simp only [Option.map_some, Option.some.injEq, countedT, List.cons.injEq] at h1
  exact absurd h1.1 (by decide)
theorem u64_nat (i : Nat) (h : i ≤ 1000000) : IntKind.u64.wrap (i : Int) = (i : Int) := Eng.u64_id (by omega) (by omega)

theorem piece_of {α : Type} {k : Ty α} {w : World} {ok : Nat → Prop} {A : Option Addr} {c n' : Nat} {xs : List α} {l h : Nat} (hn : xs.length = n') (hx : slR k w ok (.slice A n' c) xs) (h1 : l ≤ h) (h2 : h ≤ n') : slR k w ok (piece A c l h k.sz) ((xs.drop l).take (h - l)) := by
  subst hn; exact slR_piece hx h1 h2
theorem number_nat (i : Nat) (h : i ≤ 1000000) (w : World) : Calls Try.prog 29 #[.int .u64 (IntKind.u64.wrap (i : Int))] w fun e w' => ∃ v, e = .returned v ∧ (v = .string (bs (countedT 117 (i : Int))) ∧ Bel w.heap.size w w') := by rw [u64_nat i h]; exact number_calls i w
theorem name_nat (i : Nat) (h : i ≤ 1000000) (w : World) : Calls Try.prog 30 #[.int .u64 (IntKind.u64.wrap (i : Int))] w fun e w' => ∃ v, e = .returned v ∧ (v = .string (bs (countedT 110 (i : Int))) ∧ Bel w.heap.size w w') := by rw [u64_nat i h]; exact name_calls i w

def fgR (n m : Nat) : List ReportD := [(1, (0, 0), [(1, nums n)]), (3, (0, 0), [(1, nams m)])]
theorem fgM {n m : Nat} (hn : 0 < n) (hm : n < m) : cutM (fgR n m) = [((0, 0, 1), nams m)] := by
  have h1 : stepG (0, 0) [] (1, nums n) = [((0, 0, 1), nums n)] := by
    unfold stepG
    rw [if_pos (by show 0 < (nums n).length; rw [nums_len]; exact hn)]
    rfl
  have h2 : stepG (0, 0) [((0, 0, 1), nums n)] (1, nams m) = [((0, 0, 1), nams m)] := by
    unfold stepG
    rw [if_pos (by show (nums n).length < (nams m).length; rw [nums_len, nams_len]; exact hm)]
    rfl
  show stepG (0, 0) (stepG (0, 0) [] (1, nums n)) (1, nams m) = _
  rw [h1, h2]
theorem fgCut {n m : Nat} (hn : 0 < n) (hm : n < m) : cutL (fgR n m) = [((0, 0), 1, nams m)] := by
  unfold cutL
  rw [fgM hn hm]
  have : sortPl (List.map (·.1) ([((0, 0, 1), nams m)] : MapD)) = [(0, 0, 1)] := by
    show sortPl [(0, 0, 1)] = _
    unfold sortPl
    exact List.mergeSort_singleton _
  rw [this]
  rfl
theorem own_one' (x : List Tx) : ownOf [(1, x)] 1 = x := rfl
theorem fgMiss1 {n m : Nat} (hn : 0 < n) (hm : n < m) : missL [((0, 0), 1, nams m)] (0, 0) [(1, nums n)] = [] := by
  have : missOne (0, 0) [(1, nums n)] ((0, 0), 1, nams m) = none := by
    unfold missOne
    rw [if_neg (by simp)]
    simp only
    rw [own_one', if_neg]
    unfold beg
    rw [decide_eq_false (nums_nams hn (by omega))]
    simp
  unfold missL
  rw [List.filterMap_cons, this]
  rfl
theorem beg_nams {n m : Nat} (hm : n ≤ m) : beg (nams n) (nams m) = true := by
  unfold beg
  rw [nams_len, nams_len, decide_eq_true hm, decide_eq_true (nams_take hm).symm]
  rfl
theorem beg_nums {n m : Nat} (hn : 0 < n) (hm : n ≤ m) : beg (nums n) (nams m) = false := by
  unfold beg
  rw [decide_eq_false (nums_nams hn hm)]
  simp
theorem fgMiss2 {n m : Nat} (hm : n < m) : missL [((0, 0), 1, nams m)] (0, 0) [(1, nams n)] = [(1, (nams m).drop n)] := by
  have : missOne (0, 0) [(1, nams n)] ((0, 0), 1, nams m) = some (1, (nams m).drop n) := by
    unfold missOne
    rw [if_neg (by simp)]
    simp only
    rw [own_one', if_pos]
    · rw [nams_len]
    · rw [beg_nams (by omega), nams_len, nams_len, decide_eq_true hm]; rfl
  unfold missL
  rw [List.filterMap_cons, this]
  rfl

set_option maxHeartbeats 8000000 in
theorem Forged_calls (a b : Int) (a0 : -9223372036854775808 ≤ a) (a1 : a ≤ 9223372036854775807) (b0 : -9223372036854775808 ≤ b) (b1 : b ≤ 9223372036854775807) (w : World) : Calls Try.prog 6 #[.int .i64 a, .int .i64 b] w fun e w' => ∃ v, e = .returned v ∧ (v = .bool true ∧ Bel w.heap.size w w') := by
  have H : Eng.Own (fun _ => False) w w [] := Eng.Own.nil _ w
  refine enter (args := [.int .i64 a, .int .i64 b]) Try.func6 rfl Try.ntmps6 rfl rfl ?_
  obtain ⟨pa0, pa1⟩ := pickN_range a 6 (by omega)
  obtain ⟨pb0, pb1⟩ := pickN_range b 6 (by omega)
  obtain ⟨n, hn⟩ : ∃ n : Nat, (n : Int) = 1 + pickN a 6 := ⟨(1 + pickN a 6).toNat, by omega⟩
  obtain ⟨m, hm⟩ : ∃ m : Nat, (m : Int) = n + 1 + pickN b 6 := ⟨((n : Int) + 1 + pickN b 6).toNat, by omega⟩
  have hn0 : 0 < n := by omega
  have hn6 : n ≤ 6 := by omega
  have hnm : n < m := by omega
  have hm12 : m ≤ 12 := by omega
  try refine nc ?_
  try refine nc ?_
  refine call_rule (by kernel_rfl) (shown_calls w) fun v w1 ⟨hv, hb⟩ => ?_
  subst hv
  replace H := H.call hb
  try refine nc ?_
  refine call_rule (by kernel_rfl) (pick_calls a 6 (by omega) a0 a1 w1) fun v w2 ⟨hv, hb⟩ => ?_
  subst hv
  replace H := H.call hb
  try refine nc ?_
  refine call_rule (by kernel_rfl) (pick_calls b 6 (by omega) b0 b1 w2) fun v w3 ⟨hv, hb⟩ => ?_
  subst hv
  replace H := H.call hb
  have e1 : IntKind.i64.wrap (1 + pickN a 6) = (n : Int) := by rw [Eng.i64_id (by omega) (by omega)]; exact hn.symm
  have e2 : IntKind.i64.wrap (IntKind.i64.wrap (IntKind.i64.wrap (1 + pickN a 6) + 1) + pickN b 6) = (m : Int) := by
    rw [e1, Eng.i64_id (x := (n : Int) + 1) (by omega) (by omega), Eng.i64_id (by omega) (by omega)]; exact hm.symm
  try refine nc ?_
  try refine nc ?_
  refine cond_no rfl ?_
  refine nc ?_
  refine nc ?_
  refine nc_cut (fun e w' => ∃ (z8 z9 : Value), e = [(6, .int .i64 (n : Int)), (7, .int .i64 (m : Int)), (8, z8), (9, z9)] ∧ Eng.Own (fun _ => False) w w' [.row z9 62 1 m (strs (nams m)), .row z8 62 1 n (strs (nums n))]) ?_ ?_
  · refine nc ?_
    try refine nc ?_
    refine loop_rule (fun k e w' => ∃ (i : Nat) (z8 z9 : Value), i + k = m ∧ e = [(6, .int .i64 (n : Int)), (7, .int .i64 (m : Int)), (8, z8), (9, z9), (10, .int .i64 (i : Int))] ∧ Eng.Own (fun _ => False) w w' [.row z9 62 1 i (strs (nams i)), .row z8 62 1 (min i n) (strs (nums (min i n)))])
      m [(6, .int .i64 (n : Int)), (7, .int .i64 (m : Int)), (8, .slice none 0 0), (9, .slice none 0 0), (10, .int .i64 ((0 : Nat) : Int))] ⟨by show some (Value.int .i64 (IntKind.i64.wrap (1 + pickN a 6))) = _; rw [e1], by show some (Value.int .i64 (IntKind.i64.wrap (IntKind.i64.wrap (IntKind.i64.wrap (1 + pickN a 6) + 1) + pickN b 6))) = _; rw [e2], rfl, rfl, rfl, trivial⟩
      ⟨0, .slice none 0 0, .slice none 0 0, by omega, rfl, by rw [Nat.zero_min]; exact (H.nilRow 62 1).nilRow 62 1⟩ ?_
    rintro k e w' ⟨i, z8, z9, hik, rfl, H⟩
    try refine nc ?_
    try refine nc ?_
    refine cond_of (fun hc => ?_) (fun hc => ?_)
    · have hlt : i < m := by have := of_decide_eq_true hc; omega
      refine nc_seq ?_
      refine nc_block ?_
      refine nc_cut (fun e w' => ∃ (z8' : Value), e = [(6, .int .i64 (n : Int)), (7, .int .i64 (m : Int)), (8, z8'), (9, z9), (10, .int .i64 (i : Int))] ∧ Eng.Own (fun _ => False) w w' [.row z9 62 1 i (strs (nams i)), .row z8' 62 1 (min (i + 1) n) (strs (nums (min (i + 1) n)))]) ?_ ?_
      · refine nc ?_
        refine nc ?_
        refine cond_of (fun hc => ?_) (fun hc => ?_)
        · have hin : i < n := by have := of_decide_eq_true hc; omega
          have em : min i n = i := by omega
          have em1 : min (i + 1) n = i + 1 := by omega
          rw [em] at H
          rw [em1]
          try refine nc ?_
          refine call_rule (by kernel_rfl) (number_nat i (by omega) _) fun v w4 ⟨hv, hb⟩ => ?_
          subst hv
          replace H := H.call hb
          refine own_buildSlice (e := 62) (sz := 1) (z := .string ⟨#[]⟩) (cs := [.string (bs (countedT 117 (i : Int)))]) H (by kernel_rfl) (by kernel_rfl) (by kernel_rfl) rfl rfl rfl rfl fun g w5 H => ?_
          refine own_appendBlk (e := 62) (sz := 1) (z := .string ⟨#[]⟩) (by_ := 16) (m := 1) H 2 0 rfl rfl (by kernel_rfl) (by kernel_rfl) rfl rfl rfl (by intro u hu; simp at hu; subst hu; rfl) (by omega) (by omega) ?_
          intro z' w6 H
          have ht : strs (nums i) ++ [.string (bs (countedT 117 (i : Int)))] = strs (nums (i + 1)) := by rw [nums_succ, strs_append]; rfl
          rw [ht] at H
          try refine nc ?_
          refine cut_in (e' := [(6, .int .i64 (n : Int)), (7, .int .i64 (m : Int)), (8, z'), (9, z9), (10, .int .i64 (i : Int))]) ⟨rfl, rfl, rfl, rfl, rfl, trivial⟩ ⟨z', rfl, H.tail⟩
        · have hin : n ≤ i := by have := of_decide_eq_false hc; omega
          have em : min i n = n := by omega
          have em1 : min (i + 1) n = n := by omega
          rw [em] at H
          rw [em1]
          try refine nc ?_
          refine cut_in (e' := [(6, .int .i64 (n : Int)), (7, .int .i64 (m : Int)), (8, z8), (9, z9), (10, .int .i64 (i : Int))]) ⟨rfl, rfl, rfl, rfl, rfl, trivial⟩ ⟨z8, rfl, H⟩
      · rintro e w4 ⟨z8', rfl, H⟩
        try refine nc ?_
        refine call_rule (by kernel_rfl) (name_nat i (by omega) _) fun v w5 ⟨hv, hb⟩ => ?_
        subst hv
        replace H := H.call hb
        refine own_buildSlice (e := 62) (sz := 1) (z := .string ⟨#[]⟩) (cs := [.string (bs (countedT 110 (i : Int)))]) H (by kernel_rfl) (by kernel_rfl) (by kernel_rfl) rfl rfl rfl rfl fun g w6 H => ?_
        refine own_appendBlk (e := 62) (sz := 1) (z := .string ⟨#[]⟩) (by_ := 16) (m := 1) H 1 0 rfl rfl (by kernel_rfl) (by kernel_rfl) rfl rfl rfl (by intro u hu; simp at hu; subst hu; rfl) (by omega) (by omega) ?_
        intro z' w7 H
        have ht : strs (nams i) ++ [.string (bs (countedT 110 (i : Int)))] = strs (nams (i + 1)) := by rw [nams_succ, strs_append]; rfl
        rw [ht] at H
        try refine nc ?_
        try refine nc ?_
        refine again_in (k - 1) (by omega) [(6, .int .i64 (n : Int)), (7, .int .i64 (m : Int)), (8, z8'), (9, z'), (10, .int .i64 ((i + 1 : Nat) : Int))] ⟨rfl, rfl, rfl, rfl, ?_, trivial⟩ ⟨i + 1, z8', z', by omega, rfl, H.tail⟩
        show some (Value.int .i64 (IntKind.i64.wrap ((i : Int) + 1))) = _
        rw [Eng.i64_id (by omega) (by omega)]; rfl
    · have hge : i = m := by have := of_decide_eq_false hc; omega
      subst hge
      have em : min i n = n := by omega
      rw [em] at H
      try refine nc ?_
      refine cut_in (e' := [(6, .int .i64 (n : Int)), (7, .int .i64 (i : Int)), (8, z8), (9, z9)]) ⟨rfl, rfl, rfl, rfl, trivial⟩ ⟨z8, z9, rfl, H⟩
  · rintro e w4 ⟨z8, z9, rfl, H⟩
    obtain ⟨A9, c9, h9, _, hc9⟩ := H.rowSl 0 rfl
    obtain ⟨A8, c8, h8, _, hc8⟩ := H.rowSl 1 rfl
    subst h9 h8
    replace H := H.freezeS (l := nams m) 0 (by rw [nams_len]; rfl)
    replace H := H.freezeS (l := nums n) 1 (by rw [nums_len]; rfl)
    replace H : Eng.Own (fun _ => False) w w4 [.dat (dSl tStr (.slice A9 m c9) (nams m)), .dat (dSl tStr (.slice A8 n c8) (nums n))] := H
    have hnl := nums_len n
    have hml := nams_len m
    refine nc ?_
    refine own_buildSlice (e := 58) (sz := 2) (z := .agg #[.int .i64 0, .slice none 0 0]) (cs := [.int .i64 1, .slice A8 n c8]) H (by kernel_rfl) (by kernel_rfl) (by kernel_rfl) rfl rfl rfl rfl fun g1 w5 H => ?_
    replace H := H.blkSl (k := tLog) [(1, nums n)] 1 rfl rfl (by decide) ⟨_, [], rfl, log_in (x := (1, nums n)) (H.dat 2 rfl), rfl⟩
    refine own_buildSlice (e := 58) (sz := 2) (z := .agg #[.int .i64 0, .slice none 0 0]) (cs := [.int .i64 1, .slice A9 m c9]) H (by kernel_rfl) (by kernel_rfl) (by kernel_rfl) rfl rfl rfl rfl fun g2 w6 H => ?_
    replace H := H.blkSl (k := tLog) [(1, nams m)] 1 rfl rfl (by decide) ⟨_, [], rfl, log_in (x := (1, nams m)) (H.dat 2 rfl), rfl⟩
    refine own_buildSlice (e := 55) (sz := 4) (z := .agg #[.int .i64 0, .int .i64 0, .int .i64 0, .slice none 0 0]) (cs := [.int .i64 1, .int .i64 0, .int .i64 0, .slice (some ⟨g1, 0, none⟩) 1 1, .int .i64 3, .int .i64 0, .int .i64 0, .slice (some ⟨g2, 0, none⟩) 1 1]) H (by kernel_rfl) (by kernel_rfl) (by kernel_rfl) rfl rfl rfl rfl fun g3 w7 H => ?_
    replace H := H.blkSl (k := tReport) (fgR n m) 2 rfl rfl (by decide) ⟨_, _, rfl, report_in (x := (1, (0, 0), [(1, nums n)])) (H.dat 2 rfl), _, [], rfl, report_in (x := (3, (0, 0), [(1, nams m)])) (H.dat 1 rfl), rfl⟩
    have hcut := Cut_calls (H.dat 0 rfl) (by show 2 ≤ 1000000000; decide) (by intro r hr; simp [fgR] at hr; rcases hr with rfl | rfl <;> simp) (by rw [fgM hn0 hnm]; simp) (by rw [fgM hn0 hnm]; intro e he; simp at he; subst he; show (nams m).length ≤ _; omega) (by
      intro r hr g hg
      simp [fgR] at hr
      rcases hr with rfl | rfl <;> simp at hg <;> subst hg
      · show (nums n).length ≤ _; omega
      · show (nams m).length ≤ _; omega)
    rw [fgCut hn0 hnm] at hcut
    refine call_rule (by kernel_rfl) hcut fun pv w8 ⟨hp, hb⟩ => ?_
    replace H := H.callDat hb (dSl tPart pv _) hp
    obtain ⟨Ap, cp, hpv, _, _⟩ := hp
    subst hpv
    replace H := H.less (L' := [.dat (dSl tPart (.slice Ap 1 cp) [((0, 0), 1, nams m)]), .dat (dSl tStr (.slice A9 m c9) (nams m)), .dat (dSl tStr (.slice A8 n c8) (nums n))]) (by repeat first | exact List.Sublist.refl _ | apply List.Sublist.cons_cons | apply List.Sublist.cons)
    refine nc_weak (e' := [(6, .int .i64 (n : Int)), (8, .slice A8 n c8), (9, .slice A9 m c9), (11, .slice Ap 1 cp)]) ⟨rfl, rfl, rfl, rfl, trivial⟩ ?_
    refine nc ?_
    refine own_buildSlice (e := 58) (sz := 2) (z := .agg #[.int .i64 0, .slice none 0 0]) (cs := [.int .i64 1, .slice A8 n c8]) H (by kernel_rfl) (by kernel_rfl) (by kernel_rfl) rfl rfl rfl rfl fun g4 w9 H => ?_
    replace H := H.blkSl (k := tLog) [(1, nums n)] 1 rfl rfl (by decide) ⟨_, [], rfl, log_in (x := (1, nums n)) (H.dat 3 rfl), rfl⟩
    have hm1 := Missing_calls (oe := 0) (oc := 0) (H.dat 1 rfl) (H.dat 0 rfl) (by simp) (by simp) (by intro x hx; simp at hx; subst hx; show (nams m).length ≤ _; omega) (by intro x hx; simp at hx; subst hx; show (nums n).length ≤ _; omega)
    rw [fgMiss1 hn0 hnm] at hm1
    refine call_rule (by kernel_rfl) hm1 fun xv w10 ⟨hp, hb⟩ => ?_
    replace H := H.call hb
    obtain ⟨Ax, cx, hxv, _, _⟩ := hp
    subst hxv
    refine nc_weak (e' := [(6, .int .i64 (n : Int)), (8, .slice A8 n c8), (9, .slice A9 m c9), (11, .slice Ap 1 cp), (12, .slice Ax 0 cx)]) ⟨rfl, rfl, rfl, rfl, rfl, trivial⟩ ?_
    refine nc ?_
    refine piece_rule 1 0 n (e := 62) (by kernel_rfl) (by kernel_rfl) rfl ⟨_, rfl⟩ (fun _ => Nat.zero_le _) (fun _ => by omega) hc9 ?_
    have hpc := piece_of (l := 0) (h := n) hml (H.dat 2 rfl) (Nat.zero_le _) (by omega)
    rw [List.drop_zero, Nat.sub_zero, nams_take (by omega)] at hpc
    replace H := H.addDat (dSl tStr _ (nams n)) hpc
    refine own_buildSlice (e := 58) (sz := 2) (z := .agg #[.int .i64 0, .slice none 0 0]) (cs := [.int .i64 1, piece A9 c9 0 n 1]) H (by kernel_rfl) (by kernel_rfl) (by kernel_rfl) rfl rfl rfl rfl fun g5 w11 H => ?_
    replace H := H.blkSl (k := tLog) [(1, nams n)] 1 rfl rfl (by decide) ⟨_, [], rfl, log_in (x := (1, nams n)) (H.dat 1 rfl), rfl⟩
    have hm2 := Missing_calls (oe := 0) (oc := 0) (H.dat 3 rfl) (H.dat 0 rfl) (by simp) (by simp) (by intro x hx; simp at hx; subst hx; show (nams m).length ≤ _; omega) (by intro x hx; simp at hx; subst hx; show (nams n).length ≤ _; rw [nams_len]; omega)
    rw [fgMiss2 hnm] at hm2
    refine call_rule (by kernel_rfl) hm2 fun yv w12 ⟨hp, hb⟩ => ?_
    replace H := H.callDat hb (dSl tLog yv _) hp
    obtain ⟨Ay, cy, hyv, _, _⟩ := hp
    subst hyv
    replace H := H.less (L' := [.dat (dSl tLog (.slice Ay 1 cy) [(1, (nams m).drop n)]), .dat (dSl tPart (.slice Ap 1 cp) [((0, 0), 1, nams m)]), .dat (dSl tStr (.slice A9 m c9) (nams m)), .dat (dSl tStr (.slice A8 n c8) (nums n))]) (by repeat first | exact List.Sublist.refl _ | apply List.Sublist.cons_cons | apply List.Sublist.cons)
    obtain ⟨ap, cp', csp, hAp, hRp, H⟩ := H.elem 1 rfl 0 (by simp)
    cases hAp
    obtain ⟨pi, rfl, hpi⟩ := part_cells hRp
    obtain ⟨ay, cy', csy, hAy, hRy, H⟩ := H.elem 2 rfl 0 (by simp)
    cases hAy
    obtain ⟨yi, rfl, hyi⟩ := log_cells hRy
    replace hpi : slR tStr w12 _ pi (nams m) := hpi
    replace hyi : slR tStr w12 _ yi ((nams m).drop n) := hyi
    replace H := (H.addDat (dSl tStr pi (nams m)) hpi).addDat (dSl tStr yi ((nams m).drop n)) ((dSl tStr yi ((nams m).drop n)).mono (fun _ h => h) hyi)
    have hp1 := piece_of (l := n) (h := m) hml (H.dat 8 rfl) (by omega) (Nat.le_refl _)
    rw [List.take_of_length_le (by simp; omega)] at hp1
    have hp2 := piece_of (l := 0) (h := n) hml (H.dat 8 rfl) (Nat.zero_le _) (by omega)
    rw [List.drop_zero, Nat.sub_zero, nams_take (by omega)] at hp2
    replace H := (H.addDat (dSl tStr _ ((nams m).drop n)) hp1).addDat (dSl tStr _ (nams n)) ((dSl tStr _ (nams n)).mono (fun _ h => h) hp2)
    refine nc_weak (e' := [(6, .int .i64 (n : Int)), (8, .slice A8 n c8), (9, .slice A9 m c9), (11, .slice (some ap) 1 cp), (12, .slice Ax 0 cx), (13, .slice (some ay) 1 cy)]) ⟨rfl, rfl, rfl, rfl, rfl, rfl, trivial⟩ ?_
    refine nc ?_
    refine draw_rule [] (by kernel_rfl) (by kernel_rfl) H ?_
    refine c_indexAddr (e := 37) (kk := .i64) 4 0 (by kernel_rfl) (by kernel_rfl) (fun _ => by simp) ?_
    refine c_loadD 6 rfl 3 (by kernel_rfl) rfl ?_
    refine c_callDat (fun v => dSl tStr v (nams m)) (fun _ => True) (by kernel_rfl) (fun w H => by
      refine (texts_calls (H.dat 10 rfl) (by omega)).mono ?_
      rintro e w' ⟨r, rfl, h1, h2⟩
      exact ⟨_, rfl, trivial, (dSl tStr r _).mono (fun b hb => .inr hb) h1, h2⟩) ?_
    intro v1 _
    refine c_call (.bool true) (by kernel_rfl) (fun _ w H => (same_calls (H.dat 4 rfl) (H.dat 0 rfl) (by omega)).mono fun e w' ⟨r, he, hr, hb⟩ => ⟨r, he, by rw [hr, decide_eq_true rfl], hb⟩) ?_
    refine c_indexAddr (e := 58) (kk := .i64) 2 0 (by kernel_rfl) (by kernel_rfl) (fun _ => by simp) ?_
    refine c_loadD 4 rfl 1 (by kernel_rfl) rfl ?_
    refine c_piece 1 n m (e := 62) (by kernel_rfl) (by kernel_rfl) ⟨_, rfl⟩ rfl (fun _ => by omega) (fun _ => Nat.le_refl _) hc9 ?_
    refine c_callDat (fun v => dSl tStr v ((nams m).drop n)) (fun _ => True) (by kernel_rfl) (fun w H => by
      refine (texts_calls (H.dat 2 rfl) (by simp; omega)).mono ?_
      rintro e w' ⟨r, rfl, h1, h2⟩
      exact ⟨_, rfl, trivial, (dSl tStr r _).mono (fun b hb => .inr hb) h1, h2⟩) ?_
    intro v2 _
    refine c_call (.bool true) (by kernel_rfl) (fun _ w H => (same_calls (H.dat 4 rfl) (H.dat 0 rfl) (by simp; omega)).mono fun e w' ⟨r, he, hr, hb⟩ => ⟨r, he, by rw [hr, decide_eq_true rfl], hb⟩) ?_
    refine c_piece 1 0 n (e := 62) (by kernel_rfl) (by kernel_rfl) rfl ⟨_, rfl⟩ (fun _ => Nat.zero_le _) (fun _ => by omega) hc9 ?_
    refine c_call (.bool true) (by kernel_rfl) (fun _ w H => (Begins_calls (H.dat 2 rfl) (H.dat 12 rfl) (by rw [nams_len]; omega)).mono fun e w' ⟨r, he, hr, hb⟩ => ⟨r, he, by rw [hr, beg_nams (by omega)], hb⟩) ?_
    refine c_call (.bool false) (by kernel_rfl) (fun _ w H => (Begins_calls (H.dat 13 rfl) (H.dat 12 rfl) (by omega)).mono fun e w' ⟨r, he, hr, hb⟩ => ⟨r, he, by rw [hr, beg_nums hn0 (by omega)], hb⟩) ?_
    intro w13 H
    refine nc ?_
    refine ret_of [.bool true] ⟨rfl, trivial⟩ ⟨_, rfl, rfl, H.frame⟩
end Go.Proofs.Ytgomlcfoifkdiaa.Cut
