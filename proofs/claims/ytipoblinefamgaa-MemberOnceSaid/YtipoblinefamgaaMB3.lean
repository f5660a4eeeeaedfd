/- Walks, printed by a program of this proof's own. -/
import Derived.Test.YtipoblinefamgaaMB2
import Derived.KernelRfl
namespace Go.Proofs.Ytipoblinefamgaa.G
open Go.RowKit Go.Eng Go.Proofs
set_option linter.unusedVariables false
set_option maxRecDepth 20000
/-! (*gemot/member.Node).finish -/
noncomputable def member_Node_finish.b1 (x0 : O_member_Node) (v381 : O_member_Node) (v384 : List D_cut_Report) (v388 : Int) : Option ((O_member_Node × (List D_cut_Report) × Int) ⊕ ((O_member_Node × (List D_cut_Report)) ⊕ O_member_Node)) := cond (decide (v388 < (x0.promised_.2.length : Int))) ((idxL x0.promised_.2 v388).bind fun y545 => (v381.plan_).bind fun y576 => cond (!((getA y545 y576.told_).isSome)) (some (.inr (Sum.inr ({ v381 with plan_ := (some y576) : O_member_Node })))) (roomM 48 (v384.length + 1) (some (.inl ({ v381 with plan_ := (some y576) : O_member_Node }, (v384 ++ [(((getA y545 y576.told_).getD ((0 : Int), ((0 : Int), (0 : Int)), ([] : List D_cut_Log))).1, ((((getA y545 y576.told_).getD ((0 : Int), ((0 : Int), (0 : Int)), ([] : List D_cut_Log))).2.1).1, (((getA y545 y576.told_).getD ((0 : Int), ((0 : Int), (0 : Int)), ([] : List D_cut_Log))).2.1).2), ((getA y545 y576.told_).getD ((0 : Int), ((0 : Int), (0 : Int)), ([] : List D_cut_Log))).2.2)]), (IntKind.i64.wrap (v388 + (1 : Int)))))))) (some (.inr (Sum.inl (v381, v384))))
noncomputable def member_Node_finish.k2 (y609 : (List D_cut_Part)) (v689 : O_member_Node) : Option (O_member_Node) := (member_Node_enter.f v689 v689.promised_ y609).bind fun y787 => some y787
noncomputable def member_Node_finish.k3 (v300 : O_member_Node) (v303 : List D_cut_Report) : Option (O_member_Node) := (cut_Cut.f v303).bind fun y609 => (cut_Parts.f y609).bind fun y693 => cond (y693.2 == (0 : Int)) ((slices_Clone_int_int.f v300.promised_.2).bind fun y746 => (member_Node_tell.f v300 v300.promised_.2 ((5 : Int), v300.promised_.1, ((0 : Int), (0 : Int)), (0 : Int), y746, y693.1)).bind fun y755 => member_Node_finish.k2 y609 y755) (member_Node_finish.k2 y609 v300)
noncomputable def member_Node_finish.f (x0 : O_member_Node) : Option (O_member_Node) := (loopM (fun s541 : O_member_Node × (List D_cut_Report) × Int => member_Node_finish.b1 x0 s541.1 s541.2.1 s541.2.2) (x0, ([] : List D_cut_Report), (0 : Int))).bind (Sum.elim (fun (o538 : O_member_Node × (List D_cut_Report)) => member_Node_finish.k3 o538.1 o538.2) (fun (o539 : O_member_Node) => some o539))
set_option maxHeartbeats 8000000 in
theorem member_Node_finish_ok {ok : Nat → Prop} {w0 w : World} {R : List Eng.Item} {g0_ : Nat} {a0_ : A_member_Node} {x0 : O_member_Node} {r : O_member_Node} (H : Eng.Own ok w0 w (box (oL_member_Node g0_ a0_ x0) :: R)) (h : member_Node_finish.f x0 = some r) :
    Calls Try.prog 25 #[.pointer (some ⟨g0_, 0, none⟩)] w fun e w' => ∃ v, e = .returned v ∧ ∃ (a1' : A_member_Node), v = .tuple #[] ∧ Eng.Own ok w0 w' (box (oL_member_Node g0_ a1' r) :: R) := by
  replace H := H.tailBox 1
  unfold member_Node_finish.f at h
  refine enterN (args := [.pointer (some ⟨g0_, 0, none⟩)]) Try.func25 rfl Try.ntmps25 rfl rfl ?_
  refine nc_seq ?_
  refine nc ?_
  refine nc_cut (fun e w307 => ∃ (a301 : A_member_Node) (A304 : Option Addr) (c305 : Nat) (cs306 : List Value) (v300 : O_member_Node) (v303 : List D_cut_Report), member_Node_finish.k3 v300 v303 = some r ∧ e = [(0, .pointer (some ⟨g0_, 0, none⟩)), (2, .slice A304 v303.length c305)] ∧ Eng.Own ok w0 w307 [box (oL_member_Node g0_ a301 v300), .dat (dRows t_cut_Report v303 cs306), .row (.slice A304 v303.length c305) 72 4 v303.length cs306, box R]) ?_ ?_
  · skip
    refine nc_seq ?_
    refine nc ?_
    obtain ⟨A309, c310, b311, al312, A313, c314, g315, a316, A317, c318, cs319, A320, c321, cs322, A323, c324, cs325⟩ := a0_
    replace H := H.openAs 0 (oU_member_Node g0_ ⟨A309, c310, b311, al312, A313, c314, g315, a316, A317, c318, cs319, A320, c321, cs322, A323, c324, cs325⟩ x0) rfl rfl
    try dsimp only [oU_member_Node, lastL, pickI, List.drop, List.take, List.set, List.eraseIdx, List.getElem?_cons_zero, List.getElem?_cons_succ, List.cons_append, List.nil_append, List.map] at H
    refine own_load H 0 rfl (by kernel_rfl) (j := 7) rfl ?_
    refine nc_block ?_
    replace H := (H.pickL [0, 1, 2, 3, 4, 5, 6, 7, 8, 9, 10, 11, 4, 12] rfl).shutAs 12 (oL_member_Node g0_ (A309, c310, b311, al312, A313, c314, g315, a316, A317, c318, cs319, A320, c321, cs322, A323, c324, cs325) x0) rfl
    try dsimp only [lastL, pickI, List.drop, List.take, List.set, List.eraseIdx, List.getElem?_cons_zero, List.getElem?_cons_succ, List.cons_append, List.nil_append, List.map] at H
    replace H := H.nilRowD t_cut_Report 72
    obtain ⟨o530, hL531, hO532⟩ := bindS h
    obtain ⟨n533, hL531⟩ := loopS hL531
    refine nc ?_
    refine loop_ruleA (fun k e w537 => ∃ (a382 : A_member_Node) (A385 : Option Addr) (c386 : Nat) (cs387 : List Value) (v381 : O_member_Node) (v384 : List D_cut_Report) (v388 : Int), iterM (fun s541 : O_member_Node × (List D_cut_Report) × Int => member_Node_finish.b1 x0 s541.1 s541.2.1 s541.2.2) k (v381, v384, v388) = some o530 ∧ e = [(0, .pointer (some ⟨g0_, 0, none⟩)), (2, .slice A385 v384.length c386), (14, .slice A313 x0.promised_.2.length c314), (15, .int .i64 (x0.promised_.2.length : Int)), (16, .int .i64 v388)] ∧ Eng.Own ok w0 w537 [box (oL_member_Node g0_ a382 v381), .dat (dRows t_cut_Report v384 cs387), .row (.slice A385 v384.length c386) 72 4 v384.length cs387, .dat (dSl (tInt .i64) (.slice A313 x0.promised_.2.length c314) x0.promised_.2), box R]) ⟨(A309, c310, b311, al312, A313, c314, g315, a316, A317, c318, cs319, A320, c321, cs322, A323, c324, cs325), none, 0, [], _, _, _, hL531, rfl, H.pickL [2, 0, 1, 3, 4] rfl⟩ ?_
    rintro k543 _ w542 ⟨a382, A385, c386, cs387, v381, v384, v388, hL531, rfl, H⟩
    obtain ⟨k536, rfl, q534, h, hq535⟩ := iterS hL531
    replace h : member_Node_finish.b1 x0 v381 v384 v388 = some q534 := h
    unfold member_Node_finish.b1 at h
    refine nc_seq ?_
    refine nc ?_
    refine nc_seq ?_
    refine nc_cond rfl (fun hc544 => ?_) (fun hc544 => ?_)
    · replace h := condT hc544 h
      refine nc ?_
      refine nc_seq ?_
      refine nc_block ?_
      refine nc_seq ?_
      refine nc ?_
      obtain ⟨y545, hx546, h⟩ := bindS h
      obtain ⟨a547, cs548, rfl, hR549, H⟩ := H.elemI 3 rfl hx546
      obtain rfl : cs548 = [.int .i64 y545] := hR549
      refine idxA_rule (e := 3) 1 _ (by kernel_rfl) (by kernel_rfl) (idxL_some hx546).1 (idxL_some hx546).2.1 ?_
      refine own_loadD H 0 rfl 0 (by kernel_rfl) rfl ?_
      refine nc_seq ?_
      refine nc ?_
      obtain ⟨A551, c552, b553, al554, A555, c556, g557, a558, A559, c560, cs561, A562, c563, cs564, A565, c566, cs567⟩ := a382
      replace H := H.openAs 1 (oU_member_Node g0_ ⟨A551, c552, b553, al554, A555, c556, g557, a558, A559, c560, cs561, A562, c563, cs564, A565, c566, cs567⟩ v381) rfl rfl
      try dsimp only [oU_member_Node, lastL, pickI, List.drop, List.take, List.set, List.eraseIdx, List.getElem?_cons_zero, List.getElem?_cons_succ, List.cons_append, List.nil_append, List.map] at H
      refine own_load H 0 rfl (by kernel_rfl) (j := 10) rfl ?_
      obtain ⟨y576, hy577, h⟩ := bindS h
      replace H := H.someAt 5 rfl hy577
      replace H := H.cellAs 0 10 rfl rfl (by rw [hy577]; rfl : Value.pointer (optA g557 v381.plan_) = .pointer (some ⟨g557, 0, none⟩))
      try rw [hy577]
      obtain ⟨b578, vs579⟩ := a558
      replace H := H.openAs 5 (oU_member_plan g557 ⟨b578, vs579⟩ y576) rfl rfl
      try dsimp only [oU_member_plan, lastL, pickI, List.drop, List.take, List.set, List.eraseIdx, List.getElem?_cons_zero, List.getElem?_cons_succ, List.cons_append, List.nil_append, List.map] at H
      refine own_load H 0 rfl (by kernel_rfl) (j := 0) rfl ?_
      obtain ⟨hl581, cs582, hc583, hR584⟩ := H.datOff 2 rfl y545 (d := ((0 : Int), ((0 : Int), (0 : Int)), ([] : List D_cut_Log))) (zs := [.int .i64 0, .int .i64 0, .int .i64 0, .slice none 0 0]) (cut_Report_in (x := ((0 : Int), ((0 : Int), (0 : Int)), ([] : List D_cut_Log))) nilR)
      obtain ⟨u585, rfl, hu586⟩ := cut_Report_cells hR584
      obtain ⟨A587, c588, rfl, H⟩ := H.openD hu586
      refine lookup_rule2V (kt := 3) (et := 72) (by kernel_rfl) (by kernel_rfl) key3 y545 H 2 rfl _ _ hc583 hl581 ?_
      refine own_alloc (z := .agg #[.int .i64 0, .int .i64 0, .int .i64 0, .slice none 0 0]) H (by kernel_rfl) [.int .i64 0, .int .i64 0, .int .i64 0, .slice none 0 0] rfl fun g591 w592 H => ?_
      refine own_storeB (m := 4) H 0 rfl (by kernel_rfl) [.int .i64 (((getA y545 y576.told_).getD ((0 : Int), ((0 : Int), (0 : Int)), ([] : List D_cut_Log))).1), .int .i64 ((((getA y545 y576.told_).getD ((0 : Int), ((0 : Int), (0 : Int)), ([] : List D_cut_Log))).2.1).1), .int .i64 ((((getA y545 y576.told_).getD ((0 : Int), ((0 : Int), (0 : Int)), ([] : List D_cut_Log))).2.1).2), .slice A587 (((getA y545 y576.told_).getD ((0 : Int), ((0 : Int), (0 : Int)), ([] : List D_cut_Log))).2.2).length c588] rfl rfl rfl rfl fun w593 H => ?_
      refine nc_seq ?_
      refine nc_seq ?_
      refine nc ?_
      refine nc_cond rfl (fun hc594 => ?_) (fun hc594 => ?_)
      · replace h := condT hc594 h
        refine nc ?_
        replace H := (H.pickL [2, 3, 4, 0, 1, 5, 6, 7, 8, 9, 10, 11, 12, 13, 14, 15, 16, 17, 18, 19, 20] rfl).shutAs 3 (oL_member_plan g557 (b578, vs579) y576) rfl
        try dsimp only [lastL, pickI, List.drop, List.take, List.set, List.eraseIdx, List.getElem?_cons_zero, List.getElem?_cons_succ, List.cons_append, List.nil_append, List.map] at H
        replace H := (H.pickL [3, 4, 5, 6, 7, 0, 8, 9, 10, 11, 12, 13, 1, 2, 14, 15, 16, 17, 18] rfl).shutAs 12 (oL_member_Node g0_ (A551, c552, b553, al554, A555, c556, g557, (b578, vs579), A559, c560, cs561, A562, c563, cs564, A565, c566, cs567) ({ v381 with plan_ := (some y576) : O_member_Node })) rfl
        try dsimp only [lastL, pickI, List.drop, List.take, List.set, List.eraseIdx, List.getElem?_cons_zero, List.getElem?_cons_succ, List.cons_append, List.nil_append, List.map] at H
        cases h
        replace hq535 : (Sum.inr ({ v381 with plan_ := (some y576) : O_member_Node })) = o530 := hq535
        subst hq535
        have h := hO532
        try dsimp only [Sum.elim_inl, Sum.elim_inr] at h
        replace h := Option.some.inj h
        subst h
        exact ret_inA [] ⟨_, rfl, (A551, c552, b553, al554, A555, c556, g557, (b578, vs579), A559, c560, cs561, A562, c563, cs564, A565, c566, cs567), rfl, (H.pickL [0, 7] rfl).tailOpen 1 rfl⟩
      · replace h := condF hc594 h
        refine nc ?_
        refine nc ?_
        refine own_loadA (m := 4) H 0 rfl (by kernel_rfl) (by kernel_rfl) [.int .i64 (((getA y545 y576.told_).getD ((0 : Int), ((0 : Int), (0 : Int)), ([] : List D_cut_Log))).1), .int .i64 ((((getA y545 y576.told_).getD ((0 : Int), ((0 : Int), (0 : Int)), ([] : List D_cut_Log))).2.1).1), .int .i64 ((((getA y545 y576.told_).getD ((0 : Int), ((0 : Int), (0 : Int)), ([] : List D_cut_Log))).2.1).2), .slice A587 (((getA y545 y576.told_).getD ((0 : Int), ((0 : Int), (0 : Int)), ([] : List D_cut_Log))).2.2).length c588] rfl rfl ?_
        refine own_buildSlice (e := 72) (sz := 4) (z := .agg #[.int .i64 0, .int .i64 0, .int .i64 0, .slice none 0 0]) (cs := [.int .i64 (((getA y545 y576.told_).getD ((0 : Int), ((0 : Int), (0 : Int)), ([] : List D_cut_Log))).1), .int .i64 ((((getA y545 y576.told_).getD ((0 : Int), ((0 : Int), (0 : Int)), ([] : List D_cut_Log))).2.1).1), .int .i64 ((((getA y545 y576.told_).getD ((0 : Int), ((0 : Int), (0 : Int)), ([] : List D_cut_Log))).2.1).2), .slice A587 (((getA y545 y576.told_).getD ((0 : Int), ((0 : Int), (0 : Int)), ([] : List D_cut_Log))).2.2).length c588]) H (by kernel_rfl) (by kernel_rfl) (by kernel_rfl) rfl rfl rfl rfl fun g597 w598 H => ?_
        obtain ⟨hr599, h⟩ := roomS h
        refine own_append1 (k := t_cut_Report) (z := .agg #[.int .i64 0, .int .i64 0, .int .i64 0, .slice none 0 0]) (x := (((getA y545 y576.told_).getD ((0 : Int), ((0 : Int), (0 : Int)), ([] : List D_cut_Log))).1, ((((getA y545 y576.told_).getD ((0 : Int), ((0 : Int), (0 : Int)), ([] : List D_cut_Log))).2.1).1, (((getA y545 y576.told_).getD ((0 : Int), ((0 : Int), (0 : Int)), ([] : List D_cut_Log))).2.1).2), ((getA y545 y576.told_).getD ((0 : Int), ((0 : Int), (0 : Int)), ([] : List D_cut_Log))).2.2)) 48 H 18 17 rfl rfl rfl (cut_Report_in (x := (((getA y545 y576.told_).getD ((0 : Int), ((0 : Int), (0 : Int)), ([] : List D_cut_Log))).1, ((((getA y545 y576.told_).getD ((0 : Int), ((0 : Int), (0 : Int)), ([] : List D_cut_Log))).2.1).1, (((getA y545 y576.told_).getD ((0 : Int), ((0 : Int), (0 : Int)), ([] : List D_cut_Log))).2.1).2), ((getA y545 y576.told_).getD ((0 : Int), ((0 : Int), (0 : Int)), ([] : List D_cut_Log))).2.2)) (H.dat 2 rfl)) (by kernel_rfl) (by kernel_rfl) rfl rfl hr599 rfl fun z600 cs601 w602 H => ?_
        obtain ⟨A603, c604, rfl, _, _⟩ := H.rowSl 18 rfl
        refine nc ?_
        replace H := (H.pickL [2, 3, 4, 0, 1, 5, 6, 7, 8, 9, 10, 11, 12, 13, 14, 15, 16, 17, 18, 19, 20] rfl).shutAs 3 (oL_member_plan g557 (b578, vs579) y576) rfl
        try dsimp only [lastL, pickI, List.drop, List.take, List.set, List.eraseIdx, List.getElem?_cons_zero, List.getElem?_cons_succ, List.cons_append, List.nil_append, List.map] at H
        replace H := (H.pickL [3, 4, 5, 6, 7, 0, 8, 9, 10, 11, 12, 13, 1, 2, 14, 15, 16, 17, 18] rfl).shutAs 12 (oL_member_Node g0_ (A551, c552, b553, al554, A555, c556, g557, (b578, vs579), A559, c560, cs561, A562, c563, cs564, A565, c566, cs567) ({ v381 with plan_ := (some y576) : O_member_Node })) rfl
        try dsimp only [lastL, pickI, List.drop, List.take, List.set, List.eraseIdx, List.getElem?_cons_zero, List.getElem?_cons_succ, List.cons_append, List.nil_append, List.map] at H
        cases h
        exact again_inA ⟨(A551, c552, b553, al554, A555, c556, g557, (b578, vs579), A559, c560, cs561, A562, c563, cs564, A565, c566, cs567), A603, c604, cs601, _, _, _, hq535, rfl, H.pickL [0, 4, 5, 6, 7] rfl⟩
    · replace h := condF hc544 h
      refine nc ?_
      cases h
      replace hq535 : (Sum.inl (v381, v384)) = o530 := hq535
      subst hq535
      have h := hO532
      try dsimp only [Sum.elim_inl, Sum.elim_inr] at h
      exact cut_inA ⟨a382, A385, c386, cs387, _, _, h, rfl, H.pickL [0, 1, 2, 4] rfl⟩
  · rintro _ w607 ⟨a301, A304, c305, cs306, v300, v303, h, rfl, H⟩
    unfold member_Node_finish.k3 at h
    refine nc_seq ?_
    refine nc ?_
    replace H := H.freeze (k := t_cut_Report) 2 1 rfl rfl
    obtain ⟨y609, hy610, h⟩ := bindS h
    refine call_rule (by kernel_rfl) (cut_Cut_ok (H.dat 2 rfl) hy610) fun u615 w611 ⟨hu616, hb614⟩ => ?_
    replace H := H.callDats hb614 [dSl t_cut_Part u615 y609] ⟨hu616, trivial⟩
    obtain ⟨A617, c618, hA619, _⟩ := H.sl 0 rfl
    subst hA619
    refine nc_cut (fun e w691 => ∃ (a690 : A_member_Node) (v689 : O_member_Node), member_Node_finish.k2 y609 v689 = some r ∧ e = [(0, .pointer (some ⟨g0_, 0, none⟩)), (7, .slice A617 y609.length c618)] ∧ Eng.Own ok w0 w691 [box (oL_member_Node g0_ a690 v689), .dat (dSl t_cut_Part (.slice A617 y609.length c618) y609), box R]) ?_ ?_
    · skip
      refine nc_seq ?_
      refine nc ?_
      obtain ⟨y693, hy694, h⟩ := bindS h
      refine call_rule (by kernel_rfl) (cut_Parts_ok (H.dat 0 rfl) hy694) fun v696 w695 ⟨u699, hv697, hu700, hb698⟩ => ?_
      subst hv697
      replace H := H.callDats hb698 [dSl tStr u699 y693.1] ⟨hu700, trivial⟩
      obtain ⟨A701, c702, hA703, _⟩ := H.sl 0 rfl
      subst hA703
      refine nc_seq ?_
      refine nc ?_
      refine nc_cond rfl (fun hc705 => ?_) (fun hc705 => ?_)
      · replace h := condT hc705 h
        obtain ⟨A706, c707, b708, al709, A710, c711, g712, a713, A714, c715, cs716, A717, c718, cs719, A720, c721, cs722⟩ := a301
        replace H := H.openAs 2 (oU_member_Node g0_ ⟨A706, c707, b708, al709, A710, c711, g712, a713, A714, c715, cs716, A717, c718, cs719, A720, c721, cs722⟩ v300) rfl rfl
        try dsimp only [oU_member_Node, lastL, pickI, List.drop, List.take, List.set, List.eraseIdx, List.getElem?_cons_zero, List.getElem?_cons_succ, List.cons_append, List.nil_append, List.map] at H
        obtain ⟨y746, hy747, h⟩ := bindS h
        obtain ⟨y755, hy756, h⟩ := bindS h
        try dsimp only [lastL, pickI, List.drop, List.take, List.set, List.eraseIdx, List.getElem?_cons_zero, List.getElem?_cons_succ, List.cons_append, List.nil_append, List.map] at H
        refine nc ?_
        refine draw_rule [] (by kernel_rfl) (by kernel_rfl) H ?_
        refine c_load 0 rfl (by kernel_rfl) (j := 7) rfl ?_
        refine c_loadA (m := 2) 0 rfl (by kernel_rfl) (by kernel_rfl) [.int .i64 v300.promised_.1.1, .int .i64 v300.promised_.1.2] rfl rfl ?_
        refine c_load 0 rfl (by kernel_rfl) (j := 7) rfl ?_
        refine c_callS rfl (by kernel_rfl) (fun _ H => slices_Clone_int_int_ok (H.dat 4 rfl) hy747) ?_
        intro A752 c753
        refine c_callM [1, 2, 3, 4, 5, 6, 7, 8, 9, 10, 11, 12, 5, 0, 13, 14, 15, 16, 17] 12 (fun v X => ∃ a757, v = .tuple #[] ∧ X = [box (oL_member_Node g0_ a757 y755)]) rfl (by kernel_rfl) (by kernel_rfl) rfl (fun _ H => by
          replace H := H.shutAs 12 (oL_member_Node g0_ (A706, c707, b708, al709, A710, c711, g712, a713, A714, c715, cs716, A717, c718, cs719, A720, c721, cs722) v300) rfl
          exact Calls.mono (member_Node_tell_ok (x0 := v300) (x2 := ((5 : Int), v300.promised_.1, ((0 : Int), (0 : Int)), (0 : Int), y746, y693.1)) H (H.dat 1 rfl) (H.dat 2 rfl) (H.dat 3 rfl) hy756) fun e w' ⟨v, he, a757, hv, H⟩ => ⟨v, he, _, ⟨a757, hv, rfl⟩, H⟩) ?_
        rintro v758 X759 ⟨a757, rfl, rfl⟩
        dsimp only [subLb, lastL, pickI, List.drop, List.take, List.set, List.eraseIdx, List.getElem?_cons_zero, List.getElem?_cons_succ, List.cons_append, List.nil_append, List.map]
        intro w760 H
        dsimp only [lastL, pickI, List.drop, List.take, List.set, List.eraseIdx, List.getElem?_cons_zero, List.getElem?_cons_succ, List.cons_append, List.nil_append, List.map] at H
        exact cut_inA ⟨a757, _, h, rfl, H.pickL [0, 4, 7] rfl⟩
      · replace h := condF hc705 h
        refine nc ?_
        exact cut_inA ⟨a301, _, h, rfl, H.pickL [2, 1, 5] rfl⟩
    · rintro _ w761 ⟨a690, v689, h, rfl, H⟩
      unfold member_Node_finish.k2 at h
      refine nc ?_
      obtain ⟨A762, c763, b764, al765, A766, c767, g768, a769, A770, c771, cs772, A773, c774, cs775, A776, c777, cs778⟩ := a690
      replace H := H.openAs 0 (oU_member_Node g0_ ⟨A762, c763, b764, al765, A766, c767, g768, a769, A770, c771, cs772, A773, c774, cs775, A776, c777, cs778⟩ v689) rfl rfl
      try dsimp only [oU_member_Node, lastL, pickI, List.drop, List.take, List.set, List.eraseIdx, List.getElem?_cons_zero, List.getElem?_cons_succ, List.cons_append, List.nil_append, List.map] at H
      refine own_loadA (m := 3) H 0 rfl (by kernel_rfl) (by kernel_rfl) [.int .i64 v689.promised_.1.1, .int .i64 v689.promised_.1.2, .slice A766 v689.promised_.2.length c767] rfl rfl ?_
      replace H := (H.pickL [0, 1, 2, 3, 4, 5, 6, 7, 8, 9, 10, 11, 4, 12, 13] rfl).shutAs 12 (oL_member_Node g0_ (A762, c763, b764, al765, A766, c767, g768, a769, A770, c771, cs772, A773, c774, cs775, A776, c777, cs778) v689) rfl
      try dsimp only [lastL, pickI, List.drop, List.take, List.set, List.eraseIdx, List.getElem?_cons_zero, List.getElem?_cons_succ, List.cons_append, List.nil_append, List.map] at H
      obtain ⟨y787, hy788, h⟩ := bindS h
      refine call_rule (by kernel_rfl) (member_Node_enter_ok (x0 := v689) (x1 := v689.promised_) H (H.dat 1 rfl) (H.dat 2 rfl) hy788) fun v791 w790 ⟨a789, hv792, H⟩ => ?_
      subst hv792
      replace h := Option.some.inj h
      subst h
      exact ret_inA [] ⟨_, rfl, a789, rfl, (H.pickL [0, 3] rfl).tailOpen 1 rfl⟩
/-! (*gemot/member.Node).Suggest -/
noncomputable def member_Node_Suggest.k1 (x1 : List Int) (v756 : O_member_Node) : Option ((List D_member_Out) × (List D_member_Event) × O_member_Node) := (slices_Clone_int_int.f x1).bind fun y867 => (member_Node_tell.f v756 x1 ((3 : Int), v756.seen_, ((0 : Int), (0 : Int)), (0 : Int), y867, ([] : List (List UInt8)))).bind fun y876 => (member_Node_finish.f y876).bind fun y882 => (member_Node_took.f y882).bind fun y888 => some (y888.1, y888.2.1, y888.2.2)
noncomputable def member_Node_Suggest.k2 (x0 : O_member_Node) (x1 : List Int) : Option ((List D_member_Out) × (List D_member_Event) × O_member_Node) := (view_Next.f x0.seen_ x0.me_).bind fun y601 => (slices_Clone_int_int.f x1).bind fun y620 => (member_Node_Logs.f ({ x0 with promised_ := ((y601.1, y601.2), y620), seen_ := (y601.1, y601.2), plan_ := x0.plan_, early_ := x0.early_, outs_ := x0.outs_, events_ := x0.events_ : O_member_Node })).bind fun y791 => member_Node_Suggest.k1 x1 ({ { x0 with promised_ := ((y601.1, y601.2), y620), seen_ := (y601.1, y601.2), plan_ := x0.plan_, early_ := x0.early_, outs_ := x0.outs_, events_ := x0.events_ : O_member_Node } with plan_ := (some ({ told_ := (putA (({ x0 with promised_ := ((y601.1, y601.2), y620), seen_ := (y601.1, y601.2), plan_ := x0.plan_, early_ := x0.early_, outs_ := x0.outs_, events_ := x0.events_ : O_member_Node }).me_) (({ x0 with promised_ := ((y601.1, y601.2), y620), seen_ := (y601.1, y601.2), plan_ := x0.plan_, early_ := x0.early_, outs_ := x0.outs_, events_ := x0.events_ : O_member_Node }).me_, (((({ x0 with promised_ := ((y601.1, y601.2), y620), seen_ := (y601.1, y601.2), plan_ := x0.plan_, early_ := x0.early_, outs_ := x0.outs_, events_ := x0.events_ : O_member_Node }).view_).1).1, ((({ x0 with promised_ := ((y601.1, y601.2), y620), seen_ := (y601.1, y601.2), plan_ := x0.plan_, early_ := x0.early_, outs_ := x0.outs_, events_ := x0.events_ : O_member_Node }).view_).1).2), y791) ([] : List (Int × D_cut_Report))) : O_member_plan })) : O_member_Node })
noncomputable def member_Node_Suggest.k3 (x0 : O_member_Node) (x1 : List Int) (v531 : Bool) : Option ((List D_member_Out) × (List D_member_Event) × O_member_Node) := cond v531 (some (([] : List D_member_Out), ([] : List D_member_Event), x0)) (member_Node_Suggest.k2 x0 x1)
noncomputable def member_Node_Suggest.k4 (x0 : O_member_Node) (x1 : List Int) (v480 : Bool) : Option ((List D_member_Out) × (List D_member_Event) × O_member_Node) := cond v480 (some (([] : List D_member_Out), ([] : List D_member_Event), x0)) (cond (x0.plan_.isNone) ((member_Node_Flushing.f x0).bind fun y543 => cond (!y543) ((view_Same.f x1 x0.view_.2).bind fun y557 => member_Node_Suggest.k3 x0 x1 (cond (cond (x0.plan_.isNone) (!y543) false) y557 false)) (member_Node_Suggest.k3 x0 x1 (cond (cond (x0.plan_.isNone) (!y543) false) false false))) (member_Node_Suggest.k3 x0 x1 (cond (cond (x0.plan_.isNone) (!false) false) false false)))
noncomputable def member_Node_Suggest.k5 (x0 : O_member_Node) (x1 : List Int) (v354 : Bool) : Option ((List D_member_Out) × (List D_member_Event) × O_member_Node) := cond v354 (some (([] : List D_member_Out), ([] : List D_member_Event), x0)) (cond (!((x0.seen_.1 == x0.promised_.1.1) && (x0.seen_.2 == x0.promised_.1.2))) (member_Node_Suggest.k2 x0 x1) (cond (!(x0.plan_.isNone)) ((view_Same.f x1 x0.promised_.2).bind fun y492 => member_Node_Suggest.k4 x0 x1 (cond (!(x0.plan_.isNone)) y492 false)) (member_Node_Suggest.k4 x0 x1 (cond (!(x0.plan_.isNone)) false false))))
noncomputable def member_Node_Suggest.f (x0 : O_member_Node) (x1 : List Int) : Option ((List D_member_Out) × (List D_member_Event) × O_member_Node) := (view_Row.f x1).bind fun y411 => cond (!y411) (member_Node_Suggest.k5 x0 x1 (cond (cond (!y411) true ((0 : Int) != (0 : Int))) true (decide ((0 : Int) ≥ (2147483646 : Int))))) ((idxL x1 (0 : Int)).bind fun y419 => member_Node_Suggest.k5 x0 x1 (cond (cond (!y411) true (y419 != x0.me_)) true (decide (x0.seen_.1 ≥ (2147483646 : Int)))))
set_option maxHeartbeats 8000000 in
theorem member_Node_Suggest_ok {ok : Nat → Prop} {w0 w : World} {R : List Eng.Item} {g0_ : Nat} {a0_ : A_member_Node} {u2 : Value} {x0 : O_member_Node} {x1 : List Int} {r : (List D_member_Out) × (List D_member_Event) × O_member_Node} (H : Eng.Own ok w0 w (box (oL_member_Node g0_ a0_ x0) :: R)) (hu3 : slR (tInt .i64) w (okOf ok w0 (box (oL_member_Node g0_ a0_ x0) :: R)) u2 x1) (h : member_Node_Suggest.f x0 x1 = some r) :
    Calls Try.prog 9 #[.pointer (some ⟨g0_, 0, none⟩), u2] w fun e w' => ∃ v, e = .returned v ∧ ∃ (A1' : Option Addr) (c2' : Nat) (cs3' : List Value) (A4' : Option Addr) (c5' : Nat) (cs6' : List Value) (a7' : A_member_Node), v = .tuple #[.slice A1' r.1.length c2', .slice A4' r.2.1.length c5'] ∧ Eng.Own ok w0 w' (.dat (dRows t_member_Out r.1 cs3') :: .row (.slice A1' r.1.length c2') 40 9 r.1.length cs3' :: .dat (dRows t_member_Event r.2.1 cs6') :: .row (.slice A4' r.2.1.length c5') 51 7 r.2.1.length cs6' :: box (oL_member_Node g0_ a7' r.2.2) :: R) := by
  obtain ⟨A4, c5, rfl, H⟩ := H.openD hu3
  replace H := H.tailBox 2
  unfold member_Node_Suggest.f at h
  refine enterN (args := [.pointer (some ⟨g0_, 0, none⟩), .slice A4 x1.length c5]) Try.func9 rfl Try.ntmps9 rfl rfl ?_
  refine nc_seq ?_
  refine nc ?_
  refine nc_cut (fun e w283 => member_Node_Suggest.k2 x0 x1 = some r ∧ e = [(0, .pointer (some ⟨g0_, 0, none⟩)), (1, .slice A4 x1.length c5)] ∧ Eng.Own ok w0 w283 [box (oL_member_Node g0_ a0_ x0), .dat (dSl (tInt .i64) (.slice A4 x1.length c5) x1), box R]) ?_ ?_
  · skip
    refine nc_block ?_
    refine nc_cut (fun e w355 => ∃ (v354 : Bool), member_Node_Suggest.k5 x0 x1 v354 = some r ∧ e = [(0, .pointer (some ⟨g0_, 0, none⟩)), (1, .slice A4 x1.length c5), (6, .bool v354)] ∧ Eng.Own ok w0 w355 [box (oL_member_Node g0_ a0_ x0), .dat (dSl (tInt .i64) (.slice A4 x1.length c5) x1), box R]) ?_ ?_
    · skip
      obtain ⟨A371, c372, b373, al374, A375, c376, g377, a378, A379, c380, cs381, A382, c383, cs384, A385, c386, cs387⟩ := a0_
      replace H := H.openAs 1 (oU_member_Node g0_ ⟨A371, c372, b373, al374, A375, c376, g377, a378, A379, c380, cs381, A382, c383, cs384, A385, c386, cs387⟩ x0) rfl rfl
      try dsimp only [oU_member_Node, lastL, pickI, List.drop, List.take, List.set, List.eraseIdx, List.getElem?_cons_zero, List.getElem?_cons_succ, List.cons_append, List.nil_append, List.map] at H
      obtain ⟨y411, hy412, h⟩ := bindS h
      rcases Bool.eq_false_or_eq_true (!y411) with hg417 | hg417
      · replace h := condT hg417 h
        refine nc ?_
        refine draw_rule [] (by kernel_rfl) (by kernel_rfl) H ?_
        refine c_call (.bool y411) (by kernel_rfl) (fun _ _ H => view_Row_ok (H.dat 12 rfl) hy412) ?_
        refine c_skipIA (.pointer (some ⟨0, 0, none⟩)) (gF0 hg417) ?_
        refine c_skipLD (.int .i64 0) (gF0 hg417) ?_
        refine c_skipLD (.int .i64 0) (gF0 hg417) ?_
        refine c_skipLD (.int .i64 0) (gF0 (pickT hg417)) ?_
        intro w418 H
        replace H := (H.pickL [0, 1, 2, 3, 4, 5, 6, 7, 8, 9, 10, 11, 12, 13] rfl).shutAs 12 (oL_member_Node g0_ (A371, c372, b373, al374, A375, c376, g377, a378, A379, c380, cs381, A382, c383, cs384, A385, c386, cs387) x0) rfl
        try dsimp only [lastL, pickI, List.drop, List.take, List.set, List.eraseIdx, List.getElem?_cons_zero, List.getElem?_cons_succ, List.cons_append, List.nil_append, List.map] at H
        exact cut_inA ⟨_, h, rfl, H.pickL [0, 1, 2] rfl⟩
      · replace h := condF hg417 h
        obtain ⟨y419, hx420, h⟩ := bindS h
        obtain ⟨a421, cs422, rfl, hR423, H⟩ := H.elemI 12 rfl hx420
        obtain rfl : cs422 = [.int .i64 y419] := hR423
        refine nc ?_
        refine draw_rule [] (by kernel_rfl) (by kernel_rfl) H ?_
        refine c_call (.bool y411) (by kernel_rfl) (fun _ _ H => view_Row_ok (H.dat 13 rfl) hy412) ?_
        refine c_idxA (e := 3) 1 _ (by kernel_rfl) (by kernel_rfl) (idxL_some hx420).1 (idxL_some hx420).2.1 ?_
        refine c_loadD 0 rfl 0 (by kernel_rfl) rfl ?_
        refine c_load 1 rfl (by kernel_rfl) (j := 0) rfl ?_
        refine c_load 1 rfl (by kernel_rfl) (j := 8) rfl ?_
        intro w425 H
        replace H := (H.pickL [1, 2, 3, 4, 5, 6, 7, 8, 9, 10, 11, 12, 0, 13, 14] rfl).shutAs 12 (oL_member_Node g0_ (A371, c372, b373, al374, A375, c376, g377, a378, A379, c380, cs381, A382, c383, cs384, A385, c386, cs387) x0) rfl
        try dsimp only [lastL, pickI, List.drop, List.take, List.set, List.eraseIdx, List.getElem?_cons_zero, List.getElem?_cons_succ, List.cons_append, List.nil_append, List.map] at H
        exact cut_inA ⟨_, h, rfl, H.pickL [0, 2, 3] rfl⟩
    · rintro _ w426 ⟨v354, h, rfl, H⟩
      unfold member_Node_Suggest.k5 at h
      refine nc_cond rfl (fun hc427 => ?_) (fun hc427 => ?_)
      · replace h := condT hc427 h
        refine nc_seq ?_
        refine nc ?_
        refine nc ?_
        replace H := H.nilRowD t_member_Out 40
        replace H := H.nilRowD t_member_Event 51
        replace h := Option.some.inj h
        subst h
        exact ret_inA [.slice none 0 0, .slice none 0 0] ⟨_, rfl, none, 0, [], none, 0, [], a0_, rfl, (H.pickL [2, 3, 0, 1, 4, 6] rfl).tailOpen 5 rfl⟩
      · replace h := condF hc427 h
        refine nc_seq ?_
        obtain ⟨A430, c431, b432, al433, A434, c435, g436, a437, A438, c439, cs440, A441, c442, cs443, A444, c445, cs446⟩ := a0_
        replace H := H.openAs 0 (oU_member_Node g0_ ⟨A430, c431, b432, al433, A434, c435, g436, a437, A438, c439, cs440, A441, c442, cs443, A444, c445, cs446⟩ x0) rfl rfl
        try dsimp only [oU_member_Node, lastL, pickI, List.drop, List.take, List.set, List.eraseIdx, List.getElem?_cons_zero, List.getElem?_cons_succ, List.cons_append, List.nil_append, List.map] at H
        refine nc ?_
        refine draw_rule [] (by kernel_rfl) (by kernel_rfl) H ?_
        refine c_loadA (m := 2) 0 rfl (by kernel_rfl) (by kernel_rfl) [.int .i64 x0.seen_.1, .int .i64 x0.seen_.2] rfl rfl ?_
        refine c_loadA (m := 2) 0 rfl (by kernel_rfl) (by kernel_rfl) [.int .i64 x0.promised_.1.1, .int .i64 x0.promised_.1.2] rfl rfl ?_
        refine c_neq ((x0.seen_.1 == x0.promised_.1.1) && (x0.seen_.2 == x0.promised_.1.2)) (fun _ => (by kernel_rfl)) (fun _ => (by kernel_rfl)) ?_
        intro w456 H
        refine nc_cond rfl (fun hc457 => ?_) (fun hc457 => ?_)
        · replace h := condT hc457 h
          refine nc ?_
          replace H := (H.pickL [0, 1, 2, 3, 4, 5, 6, 7, 8, 9, 10, 11, 12, 13] rfl).shutAs 12 (oL_member_Node g0_ (A430, c431, b432, al433, A434, c435, g436, a437, A438, c439, cs440, A441, c442, cs443, A444, c445, cs446) x0) rfl
          try dsimp only [lastL, pickI, List.drop, List.take, List.set, List.eraseIdx, List.getElem?_cons_zero, List.getElem?_cons_succ, List.cons_append, List.nil_append, List.map] at H
          exact cut_inA ⟨h, rfl, H.pickL [0, 1, 2] rfl⟩
        · replace h := condF hc457 h
          replace H := (H.pickL [0, 1, 2, 3, 4, 5, 6, 7, 8, 9, 10, 11, 12, 13] rfl).shutAs 12 (oL_member_Node g0_ (A430, c431, b432, al433, A434, c435, g436, a437, A438, c439, cs440, A441, c442, cs443, A444, c445, cs446) x0) rfl
          try dsimp only [lastL, pickI, List.drop, List.take, List.set, List.eraseIdx, List.getElem?_cons_zero, List.getElem?_cons_succ, List.cons_append, List.nil_append, List.map] at H
          refine nc_cut (fun e w481 => ∃ (v480 : Bool), member_Node_Suggest.k4 x0 x1 v480 = some r ∧ e = [(0, .pointer (some ⟨g0_, 0, none⟩)), (1, .slice A4 x1.length c5), (39, .bool v480)] ∧ Eng.Own ok w0 w481 [box (oL_member_Node g0_ (A430, c431, b432, al433, A434, c435, g436, a437, A438, c439, cs440, A441, c442, cs443, A444, c445, cs446) x0), .dat (dSl (tInt .i64) (.slice A4 x1.length c5) x1), box R]) ?_ ?_
          · skip
            refine nc ?_
            replace H := H.openAs 0 (oU_member_Node g0_ ⟨A430, c431, b432, al433, A434, c435, g436, a437, A438, c439, cs440, A441, c442, cs443, A444, c445, cs446⟩ x0) rfl rfl
            try dsimp only [oU_member_Node, lastL, pickI, List.drop, List.take, List.set, List.eraseIdx, List.getElem?_cons_zero, List.getElem?_cons_succ, List.cons_append, List.nil_append, List.map] at H
            refine own_load H 0 rfl (by kernel_rfl) (j := 10) rfl ?_
            refine neqO_rule (by kernel_rfl) ?_
            refine own_load H 0 rfl (by kernel_rfl) (j := 7) rfl ?_
            rcases Bool.eq_false_or_eq_true (!(x0.plan_.isNone)) with hg491 | hg491
            · replace h := condT hg491 h
              obtain ⟨y492, hy493, h⟩ := bindS h
              refine call_yes (gT1 hg491 rfl) (by kernel_rfl) (view_Same_ok (H.dat 12 rfl) (H.dat 4 rfl) hy493) fun v495 w494 ⟨hv496, hb497⟩ => ?_
              subst hv496
              replace H := H.call hb497
              replace H := (H.pickL [0, 1, 2, 3, 4, 5, 6, 7, 8, 9, 10, 11, 4, 12, 13] rfl).shutAs 12 (oL_member_Node g0_ (A430, c431, b432, al433, A434, c435, g436, a437, A438, c439, cs440, A441, c442, cs443, A444, c445, cs446) x0) rfl
              try dsimp only [lastL, pickI, List.drop, List.take, List.set, List.eraseIdx, List.getElem?_cons_zero, List.getElem?_cons_succ, List.cons_append, List.nil_append, List.map] at H
              exact cut_inA ⟨_, h, rfl, H.pickL [0, 2, 3] rfl⟩
            · replace h := condF hg491 h
              refine call_skip (.bool false) (gF1 hg491) ?_
              replace H := (H.pickL [0, 1, 2, 3, 4, 5, 6, 7, 8, 9, 10, 11, 4, 12, 13] rfl).shutAs 12 (oL_member_Node g0_ (A430, c431, b432, al433, A434, c435, g436, a437, A438, c439, cs440, A441, c442, cs443, A444, c445, cs446) x0) rfl
              try dsimp only [lastL, pickI, List.drop, List.take, List.set, List.eraseIdx, List.getElem?_cons_zero, List.getElem?_cons_succ, List.cons_append, List.nil_append, List.map] at H
              exact cut_inA ⟨_, h, rfl, H.pickL [0, 2, 3] rfl⟩
          · rintro _ w498 ⟨v480, h, rfl, H⟩
            unfold member_Node_Suggest.k4 at h
            refine nc_cond rfl (fun hc499 => ?_) (fun hc499 => ?_)
            · replace h := condT hc499 h
              refine nc_seq ?_
              refine nc ?_
              refine nc ?_
              replace H := H.nilRowD t_member_Out 40
              replace H := H.nilRowD t_member_Event 51
              replace h := Option.some.inj h
              subst h
              exact ret_inA [.slice none 0 0, .slice none 0 0] ⟨_, rfl, none, 0, [], none, 0, [], (A430, c431, b432, al433, A434, c435, g436, a437, A438, c439, cs440, A441, c442, cs443, A444, c445, cs446), rfl, (H.pickL [2, 3, 0, 1, 4, 6] rfl).tailOpen 5 rfl⟩
            · replace h := condF hc499 h
              refine nc_cut (fun e w532 => ∃ (v531 : Bool), member_Node_Suggest.k3 x0 x1 v531 = some r ∧ e = [(0, .pointer (some ⟨g0_, 0, none⟩)), (1, .slice A4 x1.length c5), (54, .bool v531)] ∧ Eng.Own ok w0 w532 [box (oL_member_Node g0_ (A430, c431, b432, al433, A434, c435, g436, a437, A438, c439, cs440, A441, c442, cs443, A444, c445, cs446) x0), .dat (dSl (tInt .i64) (.slice A4 x1.length c5) x1), box R]) ?_ ?_
              · skip
                refine nc ?_
                replace H := H.openAs 0 (oU_member_Node g0_ ⟨A430, c431, b432, al433, A434, c435, g436, a437, A438, c439, cs440, A441, c442, cs443, A444, c445, cs446⟩ x0) rfl rfl
                try dsimp only [oU_member_Node, lastL, pickI, List.drop, List.take, List.set, List.eraseIdx, List.getElem?_cons_zero, List.getElem?_cons_succ, List.cons_append, List.nil_append, List.map] at H
                refine own_load H 0 rfl (by kernel_rfl) (j := 10) rfl ?_
                refine eqlO_rule (by kernel_rfl) ?_
                rcases Bool.eq_false_or_eq_true (x0.plan_.isNone) with hg542 | hg542
                · replace h := condT hg542 h
                  replace H := (H.pickL [0, 1, 2, 3, 4, 5, 6, 7, 8, 9, 10, 11, 12, 13] rfl).shutAs 12 (oL_member_Node g0_ (A430, c431, b432, al433, A434, c435, g436, a437, A438, c439, cs440, A441, c442, cs443, A444, c445, cs446) x0) rfl
                  try dsimp only [lastL, pickI, List.drop, List.take, List.set, List.eraseIdx, List.getElem?_cons_zero, List.getElem?_cons_succ, List.cons_append, List.nil_append, List.map] at H
                  obtain ⟨y543, hy544, h⟩ := bindS h
                  refine call_yes (gT1 hg542 rfl) (by kernel_rfl) (member_Node_Flushing_ok (x0 := x0) H hy544) fun v546 w545 ⟨hv547, H⟩ => ?_
                  subst hv547
                  replace H := H.openAs 0 (oU_member_Node g0_ ⟨A430, c431, b432, al433, A434, c435, g436, a437, A438, c439, cs440, A441, c442, cs443, A444, c445, cs446⟩ x0) rfl rfl
                  try dsimp only [oU_member_Node, lastL, pickI, List.drop, List.take, List.set, List.eraseIdx, List.getElem?_cons_zero, List.getElem?_cons_succ, List.cons_append, List.nil_append, List.map] at H
                  refine own_load H 0 rfl (by kernel_rfl) (j := 3) rfl ?_
                  rcases Bool.eq_false_or_eq_true (!y543) with hg556 | hg556
                  · replace h := condT hg556 h
                    obtain ⟨y557, hy558, h⟩ := bindS h
                    refine call_yes (gT1 ((pickT hg542).trans hg556) rfl) (by kernel_rfl) (view_Same_ok (H.dat 12 rfl) (H.dat 1 rfl) hy558) fun v560 w559 ⟨hv561, hb562⟩ => ?_
                    subst hv561
                    replace H := H.call hb562
                    replace H := (H.pickL [0, 1, 2, 3, 4, 5, 6, 7, 8, 9, 10, 11, 1, 12, 13] rfl).shutAs 12 (oL_member_Node g0_ (A430, c431, b432, al433, A434, c435, g436, a437, A438, c439, cs440, A441, c442, cs443, A444, c445, cs446) x0) rfl
                    try dsimp only [lastL, pickI, List.drop, List.take, List.set, List.eraseIdx, List.getElem?_cons_zero, List.getElem?_cons_succ, List.cons_append, List.nil_append, List.map] at H
                    exact cut_inA ⟨_, h, rfl, H.pickL [0, 2, 3] rfl⟩
                  · replace h := condF hg556 h
                    refine call_skip (.bool false) (gF1 ((pickT hg542).trans hg556)) ?_
                    replace H := (H.pickL [0, 1, 2, 3, 4, 5, 6, 7, 8, 9, 10, 11, 1, 12, 13] rfl).shutAs 12 (oL_member_Node g0_ (A430, c431, b432, al433, A434, c435, g436, a437, A438, c439, cs440, A441, c442, cs443, A444, c445, cs446) x0) rfl
                    try dsimp only [lastL, pickI, List.drop, List.take, List.set, List.eraseIdx, List.getElem?_cons_zero, List.getElem?_cons_succ, List.cons_append, List.nil_append, List.map] at H
                    exact cut_inA ⟨_, h, rfl, H.pickL [0, 2, 3] rfl⟩
                · replace h := condF hg542 h
                  refine call_skip (.bool false) (gF1 hg542) ?_
                  refine skipLD (.slice none 0 0) (gF1 (pickF hg542)) ?_
                  refine call_skip (.bool false) (gF1 (pickF hg542)) ?_
                  replace H := (H.pickL [0, 1, 2, 3, 4, 5, 6, 7, 8, 9, 10, 11, 12, 13] rfl).shutAs 12 (oL_member_Node g0_ (A430, c431, b432, al433, A434, c435, g436, a437, A438, c439, cs440, A441, c442, cs443, A444, c445, cs446) x0) rfl
                  try dsimp only [lastL, pickI, List.drop, List.take, List.set, List.eraseIdx, List.getElem?_cons_zero, List.getElem?_cons_succ, List.cons_append, List.nil_append, List.map] at H
                  exact cut_inA ⟨_, h, rfl, H.pickL [0, 1, 2] rfl⟩
              · rintro _ w563 ⟨v531, h, rfl, H⟩
                unfold member_Node_Suggest.k3 at h
                refine nc_cond rfl (fun hc564 => ?_) (fun hc564 => ?_)
                · replace h := condT hc564 h
                  refine nc_seq ?_
                  refine nc ?_
                  refine nc ?_
                  replace H := H.nilRowD t_member_Out 40
                  replace H := H.nilRowD t_member_Event 51
                  replace h := Option.some.inj h
                  subst h
                  exact ret_inA [.slice none 0 0, .slice none 0 0] ⟨_, rfl, none, 0, [], none, 0, [], (A430, c431, b432, al433, A434, c435, g436, a437, A438, c439, cs440, A441, c442, cs443, A444, c445, cs446), rfl, (H.pickL [2, 3, 0, 1, 4, 6] rfl).tailOpen 5 rfl⟩
                · replace h := condF hc564 h
                  refine nc ?_
                  exact cut_inA ⟨h, rfl, H.pickL [0, 1, 2] rfl⟩
  · rintro _ w567 ⟨h, rfl, H⟩
    unfold member_Node_Suggest.k2 at h
    refine nc_seq ?_
    obtain ⟨A568, c569, b570, al571, A572, c573, g574, a575, A576, c577, cs578, A579, c580, cs581, A582, c583, cs584⟩ := a0_
    replace H := H.openAs 0 (oU_member_Node g0_ ⟨A568, c569, b570, al571, A572, c573, g574, a575, A576, c577, cs578, A579, c580, cs581, A582, c583, cs584⟩ x0) rfl rfl
    try dsimp only [oU_member_Node, lastL, pickI, List.drop, List.take, List.set, List.eraseIdx, List.getElem?_cons_zero, List.getElem?_cons_succ, List.cons_append, List.nil_append, List.map] at H
    obtain ⟨y601, hy602, h⟩ := bindS h
    refine nc ?_
    refine draw_rule [] (by kernel_rfl) (by kernel_rfl) H ?_
    refine c_loadA (m := 2) 0 rfl (by kernel_rfl) (by kernel_rfl) [.int .i64 x0.seen_.1, .int .i64 x0.seen_.2] rfl rfl ?_
    refine c_load 0 rfl (by kernel_rfl) (j := 0) rfl ?_
    refine c_call (.agg #[.int .i64 y601.1, .int .i64 y601.2]) (by kernel_rfl) (fun _ _ H => view_Next_ok (ok := fun _ => False) (x0 := x0.seen_) hy602) ?_
    refine c_storeB (m := 2) 0 rfl (by kernel_rfl) [.int .i64 y601.1, .int .i64 y601.2] rfl rfl rfl rfl ?_
    intro w608 H
    refine nc_seq ?_
    obtain ⟨y620, hy621, h⟩ := bindS h
    refine nc ?_
    refine draw_rule [] (by kernel_rfl) (by kernel_rfl) H ?_
    refine c_loadA (m := 2) 0 rfl (by kernel_rfl) (by kernel_rfl) [.int .i64 y601.1, .int .i64 y601.2] rfl rfl ?_
    refine c_callS rfl (by kernel_rfl) (fun _ H => slices_Clone_int_int_ok (H.dat 12 rfl) hy621) ?_
    intro A626 c627
    refine c_storeB (m := 3) 1 rfl (by kernel_rfl) [.int .i64 y601.1, .int .i64 y601.2, .slice A626 y620.length c627] rfl rfl rfl rfl ?_
    intro w630 H
    replace H := (H.pickL [1, 2, 3, 4, 0, 6, 7, 8, 9, 10, 11, 12, 0, 5, 13, 14] rfl).shutAs 12 (oL_member_Node g0_ (A568, c569, b570, al571, A626, c627, g574, a575, A576, c577, cs578, A579, c580, cs581, A582, c583, cs584) ({ x0 with promised_ := ((y601.1, y601.2), y620), seen_ := (y601.1, y601.2), plan_ := x0.plan_, early_ := x0.early_, outs_ := x0.outs_, events_ := x0.events_ : O_member_Node })) rfl
    try dsimp only [lastL, pickI, List.drop, List.take, List.set, List.eraseIdx, List.getElem?_cons_zero, List.getElem?_cons_succ, List.cons_append, List.nil_append, List.map] at H
    refine nc_cut (fun e w758 => ∃ (a757 : A_member_Node) (v756 : O_member_Node), member_Node_Suggest.k1 x1 v756 = some r ∧ e = [(0, .pointer (some ⟨g0_, 0, none⟩)), (1, .slice A4 x1.length c5)] ∧ Eng.Own ok w0 w758 [box (oL_member_Node g0_ a757 v756), .dat (dSl (tInt .i64) (.slice A4 x1.length c5) x1), box R]) ?_ ?_
    · skip
      replace H := H.openAs 0 (oU_member_Node g0_ ⟨A568, c569, b570, al571, A626, c627, g574, a575, A576, c577, cs578, A579, c580, cs581, A582, c583, cs584⟩ ({ x0 with promised_ := ((y601.1, y601.2), y620), seen_ := (y601.1, y601.2), plan_ := x0.plan_, early_ := x0.early_, outs_ := x0.outs_, events_ := x0.events_ : O_member_Node })) rfl rfl
      try dsimp only [oU_member_Node, lastL, pickI, List.drop, List.take, List.set, List.eraseIdx, List.getElem?_cons_zero, List.getElem?_cons_succ, List.cons_append, List.nil_append, List.map] at H
      refine nc ?_
      refine draw_tree (by kernel_rfl) fun a hf => (any_two 1 16 [0, 1, 2, 3, 4, 5, 6, 7, 8, 9, 10, 11, 12, 13, 14, 15, 16, 17, 18, 19, 20, 21, 22, 23, 24] [0, 2, 3, 4, 5, 6, 7, 8, 9, 10, 11, 12, 13, 14, 15, 16, 1, 17, 18, 19, 20, 21, 22, 23, 24] [0, 16, 1, 2, 3, 4, 5, 6, 7, 8, 9, 10, 11, 12, 13, 14, 15, 17, 18, 19, 20, 21, 22, 23, 24] (by kernel_rfl) (any_leaf hf [] (by kernel_rfl) H ?_) (any_leaf hf [] (by kernel_rfl) H ?_))
      · skip
        obtain ⟨y791, hy792, h⟩ := bindS h
        refine c_makeMap (enc := (Value.int .i64)) ?_
        intro b789
        refine c_load 0 rfl (by kernel_rfl) (j := 0) rfl ?_
        refine c_load 0 rfl (by kernel_rfl) (j := 0) rfl ?_
        refine c_loadA (m := 2) 0 rfl (by kernel_rfl) (by kernel_rfl) [.int .i64 (((({ x0 with promised_ := ((y601.1, y601.2), y620), seen_ := (y601.1, y601.2), plan_ := x0.plan_, early_ := x0.early_, outs_ := x0.outs_, events_ := x0.events_ : O_member_Node }).view_).1).1), .int .i64 (((({ x0 with promised_ := ((y601.1, y601.2), y620), seen_ := (y601.1, y601.2), plan_ := x0.plan_, early_ := x0.early_, outs_ := x0.outs_, events_ := x0.events_ : O_member_Node }).view_).1).2)] rfl rfl ?_
        refine c_callRd [1, 2, 3, 4, 5, 6, 7, 8, 9, 10, 11, 12, 0, 13, 14, 15, 16] 12 (oL_member_Node g0_ (A568, c569, b570, al571, A626, c627, g574, a575, A576, c577, cs578, A579, c580, cs581, A582, c583, cs584) ({ x0 with promised_ := ((y601.1, y601.2), y620), seen_ := (y601.1, y601.2), plan_ := x0.plan_, early_ := x0.early_, outs_ := x0.outs_, events_ := x0.events_ : O_member_Node })) (fun v X => ∃ A793, ∃ c794, v = .slice A793 y791.length c794 ∧ X = [dSl t_cut_Log (.slice A793 y791.length c794) y791]) rfl (by kernel_rfl) rfl rfl (fun _ H => Calls.mono (member_Node_Logs_ok (x0 := ({ x0 with promised_ := ((y601.1, y601.2), y620), seen_ := (y601.1, y601.2), plan_ := x0.plan_, early_ := x0.early_, outs_ := x0.outs_, events_ := x0.events_ : O_member_Node })) H hy792) fun e w' ⟨v, he, A793, c794, cs795, hv, H⟩ => ⟨v, he, _, ⟨A793, c794, hv, rfl⟩, (H.freeze (k := t_cut_Log) 1 0 rfl rfl).tail⟩) ?_
        rintro v797 X798 ⟨A793, c794, rfl, rfl⟩
        dsimp only [subLb, lastL, pickI, List.drop, List.take, List.set, List.eraseIdx, List.getElem?_cons_zero, List.getElem?_cons_succ, List.cons_append, List.nil_append, List.map]
        refine c_mapUpdate (kt := 3) (et := 72) (by kernel_rfl) key3 (({ x0 with promised_ := ((y601.1, y601.2), y620), seen_ := (y601.1, y601.2), plan_ := x0.plan_, early_ := x0.early_, outs_ := x0.outs_, events_ := x0.events_ : O_member_Node }).me_) _ 1 rfl ?_
        refine c_box [.map (some b789)] rfl ?_
        intro g801
        refine c_storeB (m := 1) 3 rfl (by kernel_rfl) [.pointer (some ⟨g801, 0, none⟩)] rfl rfl rfl rfl ?_
        intro w804 H
        dsimp only [lastL, pickI, List.drop, List.take, List.set, List.eraseIdx, List.getElem?_cons_zero, List.getElem?_cons_succ, List.cons_append, List.nil_append, List.map] at H
        replace H := H.addDat (dEnts t_cut_Report ([] : List (Int × Value)) ([] : List (Int × D_cut_Report))) trivial
        replace H := H.datPut (x := (({ x0 with promised_ := ((y601.1, y601.2), y620), seen_ := (y601.1, y601.2), plan_ := x0.plan_, early_ := x0.early_, outs_ := x0.outs_, events_ := x0.events_ : O_member_Node }).me_, (((({ x0 with promised_ := ((y601.1, y601.2), y620), seen_ := (y601.1, y601.2), plan_ := x0.plan_, early_ := x0.early_, outs_ := x0.outs_, events_ := x0.events_ : O_member_Node }).view_).1).1, ((({ x0 with promised_ := ((y601.1, y601.2), y620), seen_ := (y601.1, y601.2), plan_ := x0.plan_, early_ := x0.early_, outs_ := x0.outs_, events_ := x0.events_ : O_member_Node }).view_).1).2), y791)) (cs := [.int .i64 (({ x0 with promised_ := ((y601.1, y601.2), y620), seen_ := (y601.1, y601.2), plan_ := x0.plan_, early_ := x0.early_, outs_ := x0.outs_, events_ := x0.events_ : O_member_Node }).me_), .int .i64 (((({ x0 with promised_ := ((y601.1, y601.2), y620), seen_ := (y601.1, y601.2), plan_ := x0.plan_, early_ := x0.early_, outs_ := x0.outs_, events_ := x0.events_ : O_member_Node }).view_).1).1), .int .i64 (((({ x0 with promised_ := ((y601.1, y601.2), y620), seen_ := (y601.1, y601.2), plan_ := x0.plan_, early_ := x0.early_, outs_ := x0.outs_, events_ := x0.events_ : O_member_Node }).view_).1).2), .slice A793 y791.length c794]) 0 rfl (({ x0 with promised_ := ((y601.1, y601.2), y620), seen_ := (y601.1, y601.2), plan_ := x0.plan_, early_ := x0.early_, outs_ := x0.outs_, events_ := x0.events_ : O_member_Node }).me_) (cut_Report_in (x := (({ x0 with promised_ := ((y601.1, y601.2), y620), seen_ := (y601.1, y601.2), plan_ := x0.plan_, early_ := x0.early_, outs_ := x0.outs_, events_ := x0.events_ : O_member_Node }).me_, (((({ x0 with promised_ := ((y601.1, y601.2), y620), seen_ := (y601.1, y601.2), plan_ := x0.plan_, early_ := x0.early_, outs_ := x0.outs_, events_ := x0.events_ : O_member_Node }).view_).1).1, ((({ x0 with promised_ := ((y601.1, y601.2), y620), seen_ := (y601.1, y601.2), plan_ := x0.plan_, early_ := x0.early_, outs_ := x0.outs_, events_ := x0.events_ : O_member_Node }).view_).1).2), y791)) (H.dat 2 rfl))
        replace H := (H.pickL [1, 3, 0, 2, 4, 5, 6, 7, 8, 9, 10, 11, 12, 13, 14, 15, 16, 17, 18, 19] rfl).shutAs 3 (oL_member_plan g801 (b789, (putA (({ x0 with promised_ := ((y601.1, y601.2), y620), seen_ := (y601.1, y601.2), plan_ := x0.plan_, early_ := x0.early_, outs_ := x0.outs_, events_ := x0.events_ : O_member_Node }).me_) (.agg #[.int .i64 (({ x0 with promised_ := ((y601.1, y601.2), y620), seen_ := (y601.1, y601.2), plan_ := x0.plan_, early_ := x0.early_, outs_ := x0.outs_, events_ := x0.events_ : O_member_Node }).me_), .int .i64 (((({ x0 with promised_ := ((y601.1, y601.2), y620), seen_ := (y601.1, y601.2), plan_ := x0.plan_, early_ := x0.early_, outs_ := x0.outs_, events_ := x0.events_ : O_member_Node }).view_).1).1), .int .i64 (((({ x0 with promised_ := ((y601.1, y601.2), y620), seen_ := (y601.1, y601.2), plan_ := x0.plan_, early_ := x0.early_, outs_ := x0.outs_, events_ := x0.events_ : O_member_Node }).view_).1).2), .slice A793 y791.length c794]) [])) ({ told_ := (putA (({ x0 with promised_ := ((y601.1, y601.2), y620), seen_ := (y601.1, y601.2), plan_ := x0.plan_, early_ := x0.early_, outs_ := x0.outs_, events_ := x0.events_ : O_member_Node }).me_) (({ x0 with promised_ := ((y601.1, y601.2), y620), seen_ := (y601.1, y601.2), plan_ := x0.plan_, early_ := x0.early_, outs_ := x0.outs_, events_ := x0.events_ : O_member_Node }).me_, (((({ x0 with promised_ := ((y601.1, y601.2), y620), seen_ := (y601.1, y601.2), plan_ := x0.plan_, early_ := x0.early_, outs_ := x0.outs_, events_ := x0.events_ : O_member_Node }).view_).1).1, ((({ x0 with promised_ := ((y601.1, y601.2), y620), seen_ := (y601.1, y601.2), plan_ := x0.plan_, early_ := x0.early_, outs_ := x0.outs_, events_ := x0.events_ : O_member_Node }).view_).1).2), y791) ([] : List (Int × D_cut_Report))) : O_member_plan })) rfl
        try dsimp only [lastL, pickI, List.drop, List.take, List.set, List.eraseIdx, List.getElem?_cons_zero, List.getElem?_cons_succ, List.cons_append, List.nil_append, List.map] at H
        replace H := (H.pickL [2, 3, 4, 5, 6, 0, 8, 9, 10, 11, 12, 13, 1, 7, 14, 15, 16, 17] rfl).shutAs 12 (oL_member_Node g0_ (A568, c569, b570, al571, A626, c627, g801, (b789, (putA (({ x0 with promised_ := ((y601.1, y601.2), y620), seen_ := (y601.1, y601.2), plan_ := x0.plan_, early_ := x0.early_, outs_ := x0.outs_, events_ := x0.events_ : O_member_Node }).me_) (.agg #[.int .i64 (({ x0 with promised_ := ((y601.1, y601.2), y620), seen_ := (y601.1, y601.2), plan_ := x0.plan_, early_ := x0.early_, outs_ := x0.outs_, events_ := x0.events_ : O_member_Node }).me_), .int .i64 (((({ x0 with promised_ := ((y601.1, y601.2), y620), seen_ := (y601.1, y601.2), plan_ := x0.plan_, early_ := x0.early_, outs_ := x0.outs_, events_ := x0.events_ : O_member_Node }).view_).1).1), .int .i64 (((({ x0 with promised_ := ((y601.1, y601.2), y620), seen_ := (y601.1, y601.2), plan_ := x0.plan_, early_ := x0.early_, outs_ := x0.outs_, events_ := x0.events_ : O_member_Node }).view_).1).2), .slice A793 y791.length c794]) [])), A576, c577, cs578, A579, c580, cs581, A582, c583, cs584) ({ { x0 with promised_ := ((y601.1, y601.2), y620), seen_ := (y601.1, y601.2), plan_ := x0.plan_, early_ := x0.early_, outs_ := x0.outs_, events_ := x0.events_ : O_member_Node } with plan_ := (some ({ told_ := (putA (({ x0 with promised_ := ((y601.1, y601.2), y620), seen_ := (y601.1, y601.2), plan_ := x0.plan_, early_ := x0.early_, outs_ := x0.outs_, events_ := x0.events_ : O_member_Node }).me_) (({ x0 with promised_ := ((y601.1, y601.2), y620), seen_ := (y601.1, y601.2), plan_ := x0.plan_, early_ := x0.early_, outs_ := x0.outs_, events_ := x0.events_ : O_member_Node }).me_, (((({ x0 with promised_ := ((y601.1, y601.2), y620), seen_ := (y601.1, y601.2), plan_ := x0.plan_, early_ := x0.early_, outs_ := x0.outs_, events_ := x0.events_ : O_member_Node }).view_).1).1, ((({ x0 with promised_ := ((y601.1, y601.2), y620), seen_ := (y601.1, y601.2), plan_ := x0.plan_, early_ := x0.early_, outs_ := x0.outs_, events_ := x0.events_ : O_member_Node }).view_).1).2), y791) ([] : List (Int × D_cut_Report))) : O_member_plan })) : O_member_Node })) rfl
        try dsimp only [lastL, pickI, List.drop, List.take, List.set, List.eraseIdx, List.getElem?_cons_zero, List.getElem?_cons_succ, List.cons_append, List.nil_append, List.map] at H
        exact cut_inA ⟨(A568, c569, b570, al571, A626, c627, g801, (b789, (putA (({ x0 with promised_ := ((y601.1, y601.2), y620), seen_ := (y601.1, y601.2), plan_ := x0.plan_, early_ := x0.early_, outs_ := x0.outs_, events_ := x0.events_ : O_member_Node }).me_) (.agg #[.int .i64 (({ x0 with promised_ := ((y601.1, y601.2), y620), seen_ := (y601.1, y601.2), plan_ := x0.plan_, early_ := x0.early_, outs_ := x0.outs_, events_ := x0.events_ : O_member_Node }).me_), .int .i64 (((({ x0 with promised_ := ((y601.1, y601.2), y620), seen_ := (y601.1, y601.2), plan_ := x0.plan_, early_ := x0.early_, outs_ := x0.outs_, events_ := x0.events_ : O_member_Node }).view_).1).1), .int .i64 (((({ x0 with promised_ := ((y601.1, y601.2), y620), seen_ := (y601.1, y601.2), plan_ := x0.plan_, early_ := x0.early_, outs_ := x0.outs_, events_ := x0.events_ : O_member_Node }).view_).1).2), .slice A793 y791.length c794]) [])), A576, c577, cs578, A579, c580, cs581, A582, c583, cs584), _, h, rfl, H.pickL [0, 5, 6] rfl⟩
      · skip
        obtain ⟨y807, hy808, h⟩ := bindS h
        refine c_load 0 rfl (by kernel_rfl) (j := 0) rfl ?_
        refine c_load 0 rfl (by kernel_rfl) (j := 0) rfl ?_
        refine c_loadA (m := 2) 0 rfl (by kernel_rfl) (by kernel_rfl) [.int .i64 (((({ x0 with promised_ := ((y601.1, y601.2), y620), seen_ := (y601.1, y601.2), plan_ := x0.plan_, early_ := x0.early_, outs_ := x0.outs_, events_ := x0.events_ : O_member_Node }).view_).1).1), .int .i64 (((({ x0 with promised_ := ((y601.1, y601.2), y620), seen_ := (y601.1, y601.2), plan_ := x0.plan_, early_ := x0.early_, outs_ := x0.outs_, events_ := x0.events_ : O_member_Node }).view_).1).2)] rfl rfl ?_
        refine c_callRd [0, 1, 2, 3, 4, 5, 6, 7, 8, 9, 10, 11, 12, 13, 14, 15] 12 (oL_member_Node g0_ (A568, c569, b570, al571, A626, c627, g574, a575, A576, c577, cs578, A579, c580, cs581, A582, c583, cs584) ({ x0 with promised_ := ((y601.1, y601.2), y620), seen_ := (y601.1, y601.2), plan_ := x0.plan_, early_ := x0.early_, outs_ := x0.outs_, events_ := x0.events_ : O_member_Node })) (fun v X => ∃ A809, ∃ c810, v = .slice A809 y807.length c810 ∧ X = [dSl t_cut_Log (.slice A809 y807.length c810) y807]) rfl (by kernel_rfl) rfl rfl (fun _ H => Calls.mono (member_Node_Logs_ok (x0 := ({ x0 with promised_ := ((y601.1, y601.2), y620), seen_ := (y601.1, y601.2), plan_ := x0.plan_, early_ := x0.early_, outs_ := x0.outs_, events_ := x0.events_ : O_member_Node })) H hy808) fun e w' ⟨v, he, A809, c810, cs811, hv, H⟩ => ⟨v, he, _, ⟨A809, c810, hv, rfl⟩, (H.freeze (k := t_cut_Log) 1 0 rfl rfl).tail⟩) ?_
        rintro v813 X814 ⟨A809, c810, rfl, rfl⟩
        dsimp only [subLb, lastL, pickI, List.drop, List.take, List.set, List.eraseIdx, List.getElem?_cons_zero, List.getElem?_cons_succ, List.cons_append, List.nil_append, List.map]
        refine c_makeMap (enc := (Value.int .i64)) ?_
        intro b816
        refine c_mapUpdate (kt := 3) (et := 72) (by kernel_rfl) key3 (({ x0 with promised_ := ((y601.1, y601.2), y620), seen_ := (y601.1, y601.2), plan_ := x0.plan_, early_ := x0.early_, outs_ := x0.outs_, events_ := x0.events_ : O_member_Node }).me_) _ 0 rfl ?_
        refine c_box [.map (some b816)] rfl ?_
        intro g820
        refine c_storeB (m := 1) 3 rfl (by kernel_rfl) [.pointer (some ⟨g820, 0, none⟩)] rfl rfl rfl rfl ?_
        intro w823 H
        dsimp only [lastL, pickI, List.drop, List.take, List.set, List.eraseIdx, List.getElem?_cons_zero, List.getElem?_cons_succ, List.cons_append, List.nil_append, List.map] at H
        replace H := H.addDat (dEnts t_cut_Report ([] : List (Int × Value)) ([] : List (Int × D_cut_Report))) trivial
        replace H := H.datPut (x := (({ x0 with promised_ := ((y601.1, y601.2), y620), seen_ := (y601.1, y601.2), plan_ := x0.plan_, early_ := x0.early_, outs_ := x0.outs_, events_ := x0.events_ : O_member_Node }).me_, (((({ x0 with promised_ := ((y601.1, y601.2), y620), seen_ := (y601.1, y601.2), plan_ := x0.plan_, early_ := x0.early_, outs_ := x0.outs_, events_ := x0.events_ : O_member_Node }).view_).1).1, ((({ x0 with promised_ := ((y601.1, y601.2), y620), seen_ := (y601.1, y601.2), plan_ := x0.plan_, early_ := x0.early_, outs_ := x0.outs_, events_ := x0.events_ : O_member_Node }).view_).1).2), y807)) (cs := [.int .i64 (({ x0 with promised_ := ((y601.1, y601.2), y620), seen_ := (y601.1, y601.2), plan_ := x0.plan_, early_ := x0.early_, outs_ := x0.outs_, events_ := x0.events_ : O_member_Node }).me_), .int .i64 (((({ x0 with promised_ := ((y601.1, y601.2), y620), seen_ := (y601.1, y601.2), plan_ := x0.plan_, early_ := x0.early_, outs_ := x0.outs_, events_ := x0.events_ : O_member_Node }).view_).1).1), .int .i64 (((({ x0 with promised_ := ((y601.1, y601.2), y620), seen_ := (y601.1, y601.2), plan_ := x0.plan_, early_ := x0.early_, outs_ := x0.outs_, events_ := x0.events_ : O_member_Node }).view_).1).2), .slice A809 y807.length c810]) 0 rfl (({ x0 with promised_ := ((y601.1, y601.2), y620), seen_ := (y601.1, y601.2), plan_ := x0.plan_, early_ := x0.early_, outs_ := x0.outs_, events_ := x0.events_ : O_member_Node }).me_) (cut_Report_in (x := (({ x0 with promised_ := ((y601.1, y601.2), y620), seen_ := (y601.1, y601.2), plan_ := x0.plan_, early_ := x0.early_, outs_ := x0.outs_, events_ := x0.events_ : O_member_Node }).me_, (((({ x0 with promised_ := ((y601.1, y601.2), y620), seen_ := (y601.1, y601.2), plan_ := x0.plan_, early_ := x0.early_, outs_ := x0.outs_, events_ := x0.events_ : O_member_Node }).view_).1).1, ((({ x0 with promised_ := ((y601.1, y601.2), y620), seen_ := (y601.1, y601.2), plan_ := x0.plan_, early_ := x0.early_, outs_ := x0.outs_, events_ := x0.events_ : O_member_Node }).view_).1).2), y807)) (H.dat 3 rfl))
        replace H := (H.pickL [1, 2, 0, 3, 4, 5, 6, 7, 8, 9, 10, 11, 12, 13, 14, 15, 16, 17, 18, 19] rfl).shutAs 3 (oL_member_plan g820 (b816, (putA (({ x0 with promised_ := ((y601.1, y601.2), y620), seen_ := (y601.1, y601.2), plan_ := x0.plan_, early_ := x0.early_, outs_ := x0.outs_, events_ := x0.events_ : O_member_Node }).me_) (.agg #[.int .i64 (({ x0 with promised_ := ((y601.1, y601.2), y620), seen_ := (y601.1, y601.2), plan_ := x0.plan_, early_ := x0.early_, outs_ := x0.outs_, events_ := x0.events_ : O_member_Node }).me_), .int .i64 (((({ x0 with promised_ := ((y601.1, y601.2), y620), seen_ := (y601.1, y601.2), plan_ := x0.plan_, early_ := x0.early_, outs_ := x0.outs_, events_ := x0.events_ : O_member_Node }).view_).1).1), .int .i64 (((({ x0 with promised_ := ((y601.1, y601.2), y620), seen_ := (y601.1, y601.2), plan_ := x0.plan_, early_ := x0.early_, outs_ := x0.outs_, events_ := x0.events_ : O_member_Node }).view_).1).2), .slice A809 y807.length c810]) [])) ({ told_ := (putA (({ x0 with promised_ := ((y601.1, y601.2), y620), seen_ := (y601.1, y601.2), plan_ := x0.plan_, early_ := x0.early_, outs_ := x0.outs_, events_ := x0.events_ : O_member_Node }).me_) (({ x0 with promised_ := ((y601.1, y601.2), y620), seen_ := (y601.1, y601.2), plan_ := x0.plan_, early_ := x0.early_, outs_ := x0.outs_, events_ := x0.events_ : O_member_Node }).me_, (((({ x0 with promised_ := ((y601.1, y601.2), y620), seen_ := (y601.1, y601.2), plan_ := x0.plan_, early_ := x0.early_, outs_ := x0.outs_, events_ := x0.events_ : O_member_Node }).view_).1).1, ((({ x0 with promised_ := ((y601.1, y601.2), y620), seen_ := (y601.1, y601.2), plan_ := x0.plan_, early_ := x0.early_, outs_ := x0.outs_, events_ := x0.events_ : O_member_Node }).view_).1).2), y807) ([] : List (Int × D_cut_Report))) : O_member_plan })) rfl
        try dsimp only [lastL, pickI, List.drop, List.take, List.set, List.eraseIdx, List.getElem?_cons_zero, List.getElem?_cons_succ, List.cons_append, List.nil_append, List.map] at H
        replace H := (H.pickL [2, 3, 4, 5, 6, 0, 8, 9, 10, 11, 12, 13, 1, 7, 14, 15, 16, 17] rfl).shutAs 12 (oL_member_Node g0_ (A568, c569, b570, al571, A626, c627, g820, (b816, (putA (({ x0 with promised_ := ((y601.1, y601.2), y620), seen_ := (y601.1, y601.2), plan_ := x0.plan_, early_ := x0.early_, outs_ := x0.outs_, events_ := x0.events_ : O_member_Node }).me_) (.agg #[.int .i64 (({ x0 with promised_ := ((y601.1, y601.2), y620), seen_ := (y601.1, y601.2), plan_ := x0.plan_, early_ := x0.early_, outs_ := x0.outs_, events_ := x0.events_ : O_member_Node }).me_), .int .i64 (((({ x0 with promised_ := ((y601.1, y601.2), y620), seen_ := (y601.1, y601.2), plan_ := x0.plan_, early_ := x0.early_, outs_ := x0.outs_, events_ := x0.events_ : O_member_Node }).view_).1).1), .int .i64 (((({ x0 with promised_ := ((y601.1, y601.2), y620), seen_ := (y601.1, y601.2), plan_ := x0.plan_, early_ := x0.early_, outs_ := x0.outs_, events_ := x0.events_ : O_member_Node }).view_).1).2), .slice A809 y807.length c810]) [])), A576, c577, cs578, A579, c580, cs581, A582, c583, cs584) ({ { x0 with promised_ := ((y601.1, y601.2), y620), seen_ := (y601.1, y601.2), plan_ := x0.plan_, early_ := x0.early_, outs_ := x0.outs_, events_ := x0.events_ : O_member_Node } with plan_ := (some ({ told_ := (putA (({ x0 with promised_ := ((y601.1, y601.2), y620), seen_ := (y601.1, y601.2), plan_ := x0.plan_, early_ := x0.early_, outs_ := x0.outs_, events_ := x0.events_ : O_member_Node }).me_) (({ x0 with promised_ := ((y601.1, y601.2), y620), seen_ := (y601.1, y601.2), plan_ := x0.plan_, early_ := x0.early_, outs_ := x0.outs_, events_ := x0.events_ : O_member_Node }).me_, (((({ x0 with promised_ := ((y601.1, y601.2), y620), seen_ := (y601.1, y601.2), plan_ := x0.plan_, early_ := x0.early_, outs_ := x0.outs_, events_ := x0.events_ : O_member_Node }).view_).1).1, ((({ x0 with promised_ := ((y601.1, y601.2), y620), seen_ := (y601.1, y601.2), plan_ := x0.plan_, early_ := x0.early_, outs_ := x0.outs_, events_ := x0.events_ : O_member_Node }).view_).1).2), y807) ([] : List (Int × D_cut_Report))) : O_member_plan })) : O_member_Node })) rfl
        try dsimp only [lastL, pickI, List.drop, List.take, List.set, List.eraseIdx, List.getElem?_cons_zero, List.getElem?_cons_succ, List.cons_append, List.nil_append, List.map] at H
        exact cut_inA ⟨(A568, c569, b570, al571, A626, c627, g820, (b816, (putA (({ x0 with promised_ := ((y601.1, y601.2), y620), seen_ := (y601.1, y601.2), plan_ := x0.plan_, early_ := x0.early_, outs_ := x0.outs_, events_ := x0.events_ : O_member_Node }).me_) (.agg #[.int .i64 (({ x0 with promised_ := ((y601.1, y601.2), y620), seen_ := (y601.1, y601.2), plan_ := x0.plan_, early_ := x0.early_, outs_ := x0.outs_, events_ := x0.events_ : O_member_Node }).me_), .int .i64 (((({ x0 with promised_ := ((y601.1, y601.2), y620), seen_ := (y601.1, y601.2), plan_ := x0.plan_, early_ := x0.early_, outs_ := x0.outs_, events_ := x0.events_ : O_member_Node }).view_).1).1), .int .i64 (((({ x0 with promised_ := ((y601.1, y601.2), y620), seen_ := (y601.1, y601.2), plan_ := x0.plan_, early_ := x0.early_, outs_ := x0.outs_, events_ := x0.events_ : O_member_Node }).view_).1).2), .slice A809 y807.length c810]) [])), A576, c577, cs578, A579, c580, cs581, A582, c583, cs584), _, h, rfl, H.pickL [0, 5, 6] rfl⟩
    · rintro _ w826 ⟨a757, v756, h, rfl, H⟩
      unfold member_Node_Suggest.k1 at h
      refine nc_seq ?_
      obtain ⟨A827, c828, b829, al830, A831, c832, g833, a834, A835, c836, cs837, A838, c839, cs840, A841, c842, cs843⟩ := a757
      replace H := H.openAs 0 (oU_member_Node g0_ ⟨A827, c828, b829, al830, A831, c832, g833, a834, A835, c836, cs837, A838, c839, cs840, A841, c842, cs843⟩ v756) rfl rfl
      try dsimp only [oU_member_Node, lastL, pickI, List.drop, List.take, List.set, List.eraseIdx, List.getElem?_cons_zero, List.getElem?_cons_succ, List.cons_append, List.nil_append, List.map] at H
      obtain ⟨y867, hy868, h⟩ := bindS h
      obtain ⟨y876, hy877, h⟩ := bindS h
      try dsimp only [lastL, pickI, List.drop, List.take, List.set, List.eraseIdx, List.getElem?_cons_zero, List.getElem?_cons_succ, List.cons_append, List.nil_append, List.map] at H
      refine nc ?_
      refine draw_rule [] (by kernel_rfl) (by kernel_rfl) H ?_
      refine c_loadA (m := 2) 0 rfl (by kernel_rfl) (by kernel_rfl) [.int .i64 v756.seen_.1, .int .i64 v756.seen_.2] rfl rfl ?_
      refine c_callS rfl (by kernel_rfl) (fun _ H => slices_Clone_int_int_ok (H.dat 12 rfl) hy868) ?_
      intro A873 c874
      refine c_callM [1, 2, 3, 4, 5, 6, 7, 8, 9, 10, 11, 12, 0, 13, 14] 12 (fun v X => ∃ a878, v = .tuple #[] ∧ X = [box (oL_member_Node g0_ a878 y876)]) rfl (by kernel_rfl) (by kernel_rfl) rfl (fun _ H => by
        replace H := H.shutAs 12 (oL_member_Node g0_ (A827, c828, b829, al830, A831, c832, g833, a834, A835, c836, cs837, A838, c839, cs840, A841, c842, cs843) v756) rfl
        exact Calls.mono (member_Node_tell_ok (x0 := v756) (x2 := ((3 : Int), v756.seen_, ((0 : Int), (0 : Int)), (0 : Int), y867, ([] : List (List UInt8)))) H (H.dat 2 rfl) (H.dat 1 rfl) nilR hy877) fun e w' ⟨v, he, a878, hv, H⟩ => ⟨v, he, _, ⟨a878, hv, rfl⟩, H⟩) ?_
      rintro v879 X880 ⟨a878, rfl, rfl⟩
      dsimp only [subLb, lastL, pickI, List.drop, List.take, List.set, List.eraseIdx, List.getElem?_cons_zero, List.getElem?_cons_succ, List.cons_append, List.nil_append, List.map]
      intro w881 H
      dsimp only [lastL, pickI, List.drop, List.take, List.set, List.eraseIdx, List.getElem?_cons_zero, List.getElem?_cons_succ, List.cons_append, List.nil_append, List.map] at H
      refine nc_seq ?_
      refine nc ?_
      obtain ⟨y882, hy883, h⟩ := bindS h
      refine call_rule (by kernel_rfl) (member_Node_finish_ok (x0 := y876) H hy883) fun v886 w885 ⟨a884, hv887, H⟩ => ?_
      subst hv887
      refine nc_seq ?_
      refine nc ?_
      obtain ⟨y888, hy889, h⟩ := bindS h
      refine call_rule (by kernel_rfl) (member_Node_took_ok (x0 := y882) H hy889) fun v900 w899 ⟨A890, c891, cs892, A894, c895, cs896, a898, hv901, H⟩ => ?_
      subst hv901
      refine nc ?_
      replace h := Option.some.inj h
      subst h
      exact ret_inA [.slice A890 y888.1.length c891, .slice A894 y888.2.1.length c895] ⟨_, rfl, A890, c891, cs892, A894, c895, cs896, a898, rfl, (H.pickL [0, 1, 2, 3, 4, 7] rfl).tailOpen 5 rfl⟩
end Go.Proofs.Ytipoblinefamgaa.G
