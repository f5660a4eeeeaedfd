/- Walks, printed by a program of this proof's own. -/
import Derived.Test.YtipoblinefamgaaM3
import Derived.Test.YtipoblinefamgaaGObjs
import Derived.Test.YtipoblinefamgaaTwo
import Derived.KernelRfl
namespace Go.Proofs.Ytipoblinefamgaa.G
open Go.RowKit Go.Eng Go.Proofs
set_option linter.unusedVariables false
set_option maxRecDepth 20000
/-! gemot/member.New -/
noncomputable def member_New.f (x0 : Int) : Option ((Option O_member_Node) × Int) := cond (cond (decide (x0 < (1 : Int))) true (decide (x0 > (8 : Int)))) (some (none, (1 : Int))) (some ((some ({ me_ := x0, view_ := (((0 : Int), x0), ([x0] : List Int)), rows_ := ([] : List (Int × (List (List UInt8)))), promised_ := (((0 : Int), x0), ([x0] : List Int)), seen_ := ((0 : Int), x0), plan_ := none, early_ := ([] : List D_member_cast), outs_ := ([] : List D_member_Out), events_ := ([] : List D_member_Event) : O_member_Node })), (0 : Int)))
set_option maxHeartbeats 8000000 in
theorem member_New_ok {ok : Nat → Prop} {w0 w : World} {R : List Eng.Item} {x0 : Int} {r : (Option O_member_Node) × Int} (H : Eng.Own ok w0 w (R)) (h : member_New.f x0 = some r) :
    Calls Try.prog 8 #[.int .i64 x0] w fun e w' => ∃ v, e = .returned v ∧ ∃ (g1' : Nat) (a2' : A_member_Node), v = .tuple #[.pointer (optA g1' r.1), .int .i64 r.2] ∧ Eng.Own ok w0 w' (box (optL oL_member_Node g1' a2' r.1) :: R) := by
  replace H := H.tailBox 0
  unfold member_New.f at h
  refine enterN (args := [.int .i64 x0]) Try.func8 rfl Try.ntmps8 rfl rfl ?_
  refine nc_seq ?_
  refine nc ?_
  refine nc_seq ?_
  refine nc_seq ?_
  refine nc ?_
  refine nc_cond rfl (fun hc1 => ?_) (fun hc1 => ?_)
  · replace h := condT hc1 h
    refine nc_seq ?_
    refine nc ?_
    refine nc ?_
    replace H := H.box0
    replace h := Option.some.inj h
    subst h
    exact ret_inA [.pointer (optA 0 none), .int .i64 1] ⟨_, rfl, 0, default, rfl, (H.pickL [0, 1] rfl).tailOpen 1 rfl⟩
  · replace h := condF hc1 h
    refine nc ?_
    refine nc_seq ?_
    refine nc ?_
    refine own_buildSlice (e := 3) (sz := 1) (z := .int .i64 0) (cs := [.int .i64 x0]) H (by kernel_rfl) (by kernel_rfl) (by kernel_rfl) rfl rfl rfl rfl fun g4 w5 H => ?_
    replace H := H.blkSl (k := (tInt .i64)) [x0] 1 rfl rfl (by decide) ⟨_, _, rfl, rfl, rfl⟩
    refine own_alloc (z := .agg #[.int .i64 0, .int .i64 0, .slice none 0 0]) H (by kernel_rfl) [.int .i64 0, .int .i64 0, .slice none 0 0] rfl fun g8 w9 H => ?_
    refine own_storeB (m := 3) H 0 rfl (by kernel_rfl) [.int .i64 0, .int .i64 x0, .slice (some ⟨g4, 0, none⟩) ([x0] : List Int).length 1] rfl rfl rfl rfl fun w10 H => ?_
    refine nc_seq ?_
    refine nc ?_
    refine own_loadA (m := 3) H 0 rfl (by kernel_rfl) (by kernel_rfl) [.int .i64 0, .int .i64 x0, .slice (some ⟨g4, 0, none⟩) ([x0] : List Int).length 1] rfl rfl ?_
    refine makeS_rule (enc := (Value.int .i64)) (f := rowI tStr 45) rowVal H fun b12 w13 H => ?_
    refine own_loadA (m := 3) H 2 rfl (by kernel_rfl) (by kernel_rfl) [.int .i64 0, .int .i64 x0, .slice (some ⟨g4, 0, none⟩) ([x0] : List Int).length 1] rfl rfl ?_
    refine own_loadA (m := 2) H 2 rfl (by kernel_rfl) (by kernel_rfl) [.int .i64 0, .int .i64 x0] rfl rfl ?_
    refine own_box H [.int .i64 x0, .int .i64 0, .int .i64 x0, .slice (some ⟨g4, 0, none⟩) ([x0] : List Int).length 1, .map (some b12), .int .i64 0, .int .i64 x0, .slice (some ⟨g4, 0, none⟩) ([x0] : List Int).length 1, .int .i64 0, .int .i64 x0, .pointer none, .slice none 0 0, .slice none 0 0, .slice none 0 0] rfl fun g16 w17 H => ?_
    refine nc ?_
    replace H := H.box0
    replace H := H.nilRowD t_member_cast 101
    replace H := H.nilRowD t_member_Out 40
    replace H := H.nilRowD t_member_Event 51
    replace H := (H.pickL [7, 11, 8, 9, 11, 6, 4, 5, 2, 3, 0, 1, 10, 11, 12] rfl).shutAs 12 (oL_member_Node g16 ((some ⟨g4, 0, none⟩), 1, b12, [], (some ⟨g4, 0, none⟩), 1, 0, default, none, 0, [], none, 0, [], none, 0, []) ({ me_ := x0, view_ := (((0 : Int), x0), ([x0] : List Int)), rows_ := ([] : List (Int × (List (List UInt8)))), promised_ := (((0 : Int), x0), ([x0] : List Int)), seen_ := ((0 : Int), x0), plan_ := none, early_ := ([] : List D_member_cast), outs_ := ([] : List D_member_Out), events_ := ([] : List D_member_Event) : O_member_Node })) rfl
    try dsimp only [lastL, pickI, List.drop, List.take, List.set, List.eraseIdx, List.getElem?_cons_zero, List.getElem?_cons_succ, List.cons_append, List.nil_append, List.map] at H
    replace h := Option.some.inj h
    subst h
    exact ret_inA [.pointer (some ⟨g16, 0, none⟩), .int .i64 0] ⟨_, rfl, g16, ((some ⟨g4, 0, none⟩), 1, b12, [], (some ⟨g4, 0, none⟩), 1, 0, default, none, 0, [], none, 0, [], none, 0, []), rfl, (H.pickL [0, 3] rfl).tailOpen 1 rfl⟩
/-! (*gemot/member.Node).Flushing -/
noncomputable def member_Node_Flushing.f (x0 : O_member_Node) : Option (Bool) := some (!((x0.promised_.1.1 == x0.view_.1.1) && (x0.promised_.1.2 == x0.view_.1.2)))
set_option maxHeartbeats 8000000 in
theorem member_Node_Flushing_ok {ok : Nat → Prop} {w0 w : World} {R : List Eng.Item} {g0_ : Nat} {a0_ : A_member_Node} {x0 : O_member_Node} {r : Bool} (H : Eng.Own ok w0 w (box (oL_member_Node g0_ a0_ x0) :: R)) (h : member_Node_Flushing.f x0 = some r) :
    Calls Try.prog 10 #[.pointer (some ⟨g0_, 0, none⟩)] w fun e w' => ∃ v, e = .returned v ∧ v = .bool r ∧ Eng.Own ok w0 w' (box (oL_member_Node g0_ a0_ x0) :: R) := by
  replace H := H.tailBox 1
  unfold member_Node_Flushing.f at h
  refine enterN (args := [.pointer (some ⟨g0_, 0, none⟩)]) Try.func10 rfl Try.ntmps10 rfl rfl ?_
  refine nc_seq ?_
  refine nc ?_
  refine nc_seq ?_
  obtain ⟨A2, c3, b4, al5, A6, c7, g8, a9, A10, c11, cs12, A13, c14, cs15, A16, c17, cs18⟩ := a0_
  replace H := H.openAs 0 (oU_member_Node g0_ ⟨A2, c3, b4, al5, A6, c7, g8, a9, A10, c11, cs12, A13, c14, cs15, A16, c17, cs18⟩ x0) rfl rfl
  try dsimp only [oU_member_Node, lastL, pickI, List.drop, List.take, List.set, List.eraseIdx, List.getElem?_cons_zero, List.getElem?_cons_succ, List.cons_append, List.nil_append, List.map] at H
  refine nc ?_
  refine draw_rule [] (by kernel_rfl) (by kernel_rfl) H ?_
  refine c_loadA (m := 2) 0 rfl (by kernel_rfl) (by kernel_rfl) [.int .i64 x0.promised_.1.1, .int .i64 x0.promised_.1.2] rfl rfl ?_
  refine c_loadA (m := 2) 0 rfl (by kernel_rfl) (by kernel_rfl) [.int .i64 x0.view_.1.1, .int .i64 x0.view_.1.2] rfl rfl ?_
  refine c_neq ((x0.promised_.1.1 == x0.view_.1.1) && (x0.promised_.1.2 == x0.view_.1.2)) (fun _ => (by kernel_rfl)) (fun _ => (by kernel_rfl)) ?_
  intro w28 H
  refine nc ?_
  replace H := (H.pickL [0, 1, 2, 3, 4, 5, 6, 7, 8, 9, 10, 11, 12] rfl).shutAs 12 (oL_member_Node g0_ (A2, c3, b4, al5, A6, c7, g8, a9, A10, c11, cs12, A13, c14, cs15, A16, c17, cs18) x0) rfl
  try dsimp only [lastL, pickI, List.drop, List.take, List.set, List.eraseIdx, List.getElem?_cons_zero, List.getElem?_cons_succ, List.cons_append, List.nil_append, List.map] at H
  replace h := Option.some.inj h
  subst h
  exact ret_inA [.bool (!((x0.promised_.1.1 == x0.view_.1.1) && (x0.promised_.1.2 == x0.view_.1.2)))] ⟨_, rfl, rfl, (H.pickL [0, 1] rfl).tailOpen 1 rfl⟩
/-! (*gemot/member.Node).Promised -/
/-! (*gemot/member.Node).View -/
noncomputable def member_Node_View.f (x0 : O_member_Node) : Option (D_api_View) := (slices_Clone_int_int.f x0.view_.2).bind fun y41 => some (x0.view_.1, y41)
set_option maxHeartbeats 8000000 in
theorem member_Node_View_ok {ok : Nat → Prop} {w0 w : World} {R : List Eng.Item} {g0_ : Nat} {a0_ : A_member_Node} {x0 : O_member_Node} {r : D_api_View} (H : Eng.Own ok w0 w (box (oL_member_Node g0_ a0_ x0) :: R)) (h : member_Node_View.f x0 = some r) :
    Calls Try.prog 18 #[.pointer (some ⟨g0_, 0, none⟩)] w fun e w' => ∃ v, e = .returned v ∧ ∃ (A1' : Option Addr) (c2' : Nat), v = .agg #[.int .i64 r.1.1, .int .i64 r.1.2, .slice A1' r.2.length c2'] ∧ Eng.Own ok w0 w' (.dat (dSl (tInt .i64) (.slice A1' r.2.length c2') r.2) :: box (oL_member_Node g0_ a0_ x0) :: R) := by
  replace H := H.tailBox 1
  unfold member_Node_View.f at h
  refine enterN (args := [.pointer (some ⟨g0_, 0, none⟩)]) Try.func18 rfl Try.ntmps18 rfl rfl ?_
  refine nc_seq ?_
  refine nc ?_
  refine own_alloc (z := .agg #[.int .i64 0, .int .i64 0, .slice none 0 0]) H (by kernel_rfl) [.int .i64 0, .int .i64 0, .slice none 0 0] rfl fun g3 w4 H => ?_
  refine nc_seq ?_
  obtain ⟨A5, c6, b7, al8, A9, c10, g11, a12, A13, c14, cs15, A16, c17, cs18, A19, c20, cs21⟩ := a0_
  replace H := H.openAs 1 (oU_member_Node g0_ ⟨A5, c6, b7, al8, A9, c10, g11, a12, A13, c14, cs15, A16, c17, cs18, A19, c20, cs21⟩ x0) rfl rfl
  try dsimp only [oU_member_Node, lastL, pickI, List.drop, List.take, List.set, List.eraseIdx, List.getElem?_cons_zero, List.getElem?_cons_succ, List.cons_append, List.nil_append, List.map] at H
  obtain ⟨y41, hy42, h⟩ := bindS h
  refine nc ?_
  refine draw_rule [] (by kernel_rfl) (by kernel_rfl) H ?_
  refine c_loadA (m := 2) 0 rfl (by kernel_rfl) (by kernel_rfl) [.int .i64 x0.view_.1.1, .int .i64 x0.view_.1.2] rfl rfl ?_
  refine c_load 0 rfl (by kernel_rfl) (j := 3) rfl ?_
  refine c_callS rfl (by kernel_rfl) (fun _ H => slices_Clone_int_int_ok (H.dat 1 rfl) hy42) ?_
  intro A47 c48
  refine c_storeB (m := 3) 13 rfl (by kernel_rfl) [.int .i64 x0.view_.1.1, .int .i64 x0.view_.1.2, .slice A47 y41.length c48] rfl rfl rfl rfl ?_
  intro w51 H
  refine nc ?_
  replace H := (H.pickL [1, 2, 3, 4, 5, 6, 7, 8, 9, 10, 11, 12, 0, 2, 13, 14] rfl).shutAs 12 (oL_member_Node g0_ (A5, c6, b7, al8, A9, c10, g11, a12, A13, c14, cs15, A16, c17, cs18, A19, c20, cs21) x0) rfl
  try dsimp only [lastL, pickI, List.drop, List.take, List.set, List.eraseIdx, List.getElem?_cons_zero, List.getElem?_cons_succ, List.cons_append, List.nil_append, List.map] at H
  replace h := Option.some.inj h
  subst h
  exact ret_inA [.agg #[.int .i64 x0.view_.1.1, .int .i64 x0.view_.1.2, .slice A47 y41.length c48]] ⟨_, rfl, A47, c48, rfl, (H.pickL [1, 0, 4] rfl).tailOpen 2 rfl⟩ (And.intro (Exists.intro _ (And.intro rfl (H.resA (m := 3) 3 rfl (by kernel_rfl) (by kernel_rfl) rfl))) trivial)
/-! (*gemot/member.Node).took -/
noncomputable def member_Node_took.f (x0 : O_member_Node) : Option ((List D_member_Out) × (List D_member_Event) × O_member_Node) := some (x0.outs_, x0.events_, { x0 with outs_ := ([] : List D_member_Out), events_ := ([] : List D_member_Event) : O_member_Node })
set_option maxHeartbeats 8000000 in
theorem member_Node_took_ok {ok : Nat → Prop} {w0 w : World} {R : List Eng.Item} {g0_ : Nat} {a0_ : A_member_Node} {x0 : O_member_Node} {r : (List D_member_Out) × (List D_member_Event) × O_member_Node} (H : Eng.Own ok w0 w (box (oL_member_Node g0_ a0_ x0) :: R)) (h : member_Node_took.f x0 = some r) :
    Calls Try.prog 26 #[.pointer (some ⟨g0_, 0, none⟩)] w fun e w' => ∃ v, e = .returned v ∧ ∃ (A1' : Option Addr) (c2' : Nat) (cs3' : List Value) (A4' : Option Addr) (c5' : Nat) (cs6' : List Value) (a7' : A_member_Node), v = .tuple #[.slice A1' r.1.length c2', .slice A4' r.2.1.length c5'] ∧ Eng.Own ok w0 w' (.dat (dRows t_member_Out r.1 cs3') :: .row (.slice A1' r.1.length c2') 40 9 r.1.length cs3' :: .dat (dRows t_member_Event r.2.1 cs6') :: .row (.slice A4' r.2.1.length c5') 51 7 r.2.1.length cs6' :: box (oL_member_Node g0_ a7' r.2.2) :: R) := by
  replace H := H.tailBox 1
  unfold member_Node_took.f at h
  refine enterN (args := [.pointer (some ⟨g0_, 0, none⟩)]) Try.func26 rfl Try.ntmps26 rfl rfl ?_
  refine nc_seq ?_
  refine nc ?_
  refine nc_seq ?_
  obtain ⟨A2, c3, b4, al5, A6, c7, g8, a9, A10, c11, cs12, A13, c14, cs15, A16, c17, cs18⟩ := a0_
  replace H := H.openAs 0 (oU_member_Node g0_ ⟨A2, c3, b4, al5, A6, c7, g8, a9, A10, c11, cs12, A13, c14, cs15, A16, c17, cs18⟩ x0) rfl rfl
  try dsimp only [oU_member_Node, lastL, pickI, List.drop, List.take, List.set, List.eraseIdx, List.getElem?_cons_zero, List.getElem?_cons_succ, List.cons_append, List.nil_append, List.map] at H
  refine nc ?_
  refine draw_rule [] (by kernel_rfl) (by kernel_rfl) H ?_
  refine c_load 0 rfl (by kernel_rfl) (j := 12) rfl ?_
  refine c_load 0 rfl (by kernel_rfl) (j := 13) rfl ?_
  intro w28 H
  refine nc_seq ?_
  refine nc ?_
  refine own_storeB (m := 1) H 0 rfl (by kernel_rfl) [.slice none 0 0] rfl rfl rfl rfl fun w29 H => ?_
  refine own_storeB (m := 1) H 0 rfl (by kernel_rfl) [.slice none 0 0] rfl rfl rfl rfl fun w30 H => ?_
  refine nc_seq ?_
  refine nc ?_
  refine nc ?_
  replace H := H.nilRowD t_member_Out 40
  replace H := H.nilRowD t_member_Event 51
  replace H := (H.pickL [4, 5, 6, 7, 8, 9, 10, 11, 2, 3, 0, 1, 12, 13, 14, 15, 16] rfl).shutAs 12 (oL_member_Node g0_ (A2, c3, b4, al5, A6, c7, g8, a9, A10, c11, cs12, none, 0, [], none, 0, []) ({ x0 with outs_ := ([] : List D_member_Out), events_ := ([] : List D_member_Event) : O_member_Node })) rfl
  try dsimp only [lastL, pickI, List.drop, List.take, List.set, List.eraseIdx, List.getElem?_cons_zero, List.getElem?_cons_succ, List.cons_append, List.nil_append, List.map] at H
  replace h := Option.some.inj h
  subst h
  exact ret_inA [.slice A13 x0.outs_.length c14, .slice A16 x0.events_.length c17] ⟨_, rfl, A13, c14, cs15, A16, c17, cs18, (A2, c3, b4, al5, A6, c7, g8, a9, A10, c11, cs12, none, 0, [], none, 0, []), rfl, (H.pickL [1, 2, 3, 4, 0, 5] rfl).tailOpen 5 rfl⟩
/-! (*gemot/member.Node).Logs -/
noncomputable def member_Node_Logs.k1 (x0 : O_member_Node) (v645 : Int) (v965 : List D_cut_Log) : Option (((List D_cut_Log) × Int) ⊕ (List D_cut_Log)) := some (.inl (v965, (IntKind.i64.wrap (v645 + (1 : Int)))))
noncomputable def member_Node_Logs.b2 (x0 : O_member_Node) (v641 : List D_cut_Log) (v645 : Int) : Option (((List D_cut_Log) × Int) ⊕ (List D_cut_Log)) := cond (decide (v645 ≤ (8 : Int))) (cond (decide ((((getA v645 x0.rows_).getD []).length : Int) > (0 : Int))) ((slices_Clone_term_Term_term_Term.f ((getA v645 x0.rows_).getD [])).bind fun y1009 => roomM 32 (v641.length + 1) (member_Node_Logs.k1 x0 v645 (v641 ++ [(v645, y1009)]))) (member_Node_Logs.k1 x0 v645 v641)) (some (.inr v641))
noncomputable def member_Node_Logs.k3 (x0 : O_member_Node) (v512 : List D_cut_Log) : Option ((List D_cut_Log)) := some v512
noncomputable def member_Node_Logs.f (x0 : O_member_Node) : Option ((List D_cut_Log)) := (loopM (fun s905 : (List D_cut_Log) × Int => member_Node_Logs.b2 x0 s905.1 s905.2) (([] : List D_cut_Log), (1 : Int))).bind (fun (o903 : (List D_cut_Log)) => member_Node_Logs.k3 x0 o903)
set_option maxHeartbeats 8000000 in
theorem member_Node_Logs_ok {ok : Nat → Prop} {w0 w : World} {R : List Eng.Item} {g0_ : Nat} {a0_ : A_member_Node} {x0 : O_member_Node} {r : (List D_cut_Log)} (H : Eng.Own ok w0 w (box (oL_member_Node g0_ a0_ x0) :: R)) (h : member_Node_Logs.f x0 = some r) :
    Calls Try.prog 19 #[.pointer (some ⟨g0_, 0, none⟩)] w fun e w' => ∃ v, e = .returned v ∧ ∃ (A1' : Option Addr) (c2' : Nat) (cs3' : List Value), v = .slice A1' r.length c2' ∧ Eng.Own ok w0 w' (.dat (dRows t_cut_Log r cs3') :: .row (.slice A1' r.length c2') 88 2 r.length cs3' :: box (oL_member_Node g0_ a0_ x0) :: R) := by
  replace H := H.tailBox 1
  unfold member_Node_Logs.f at h
  refine enterN (args := [.pointer (some ⟨g0_, 0, none⟩)]) Try.func19 rfl Try.ntmps19 rfl rfl ?_
  refine nc_seq ?_
  refine nc ?_
  refine nc_seq ?_
  refine nc ?_
  refine nc_cut (fun e w516 => ∃ (A513 : Option Addr) (c514 : Nat) (cs515 : List Value) (v512 : List D_cut_Log), member_Node_Logs.k3 x0 v512 = some r ∧ e = [(3, .slice A513 v512.length c514)] ∧ Eng.Own ok w0 w516 [box (oL_member_Node g0_ a0_ x0), .dat (dRows t_cut_Log v512 cs515), .row (.slice A513 v512.length c514) 88 2 v512.length cs515, box R]) ?_ ?_
  · skip
    refine nc_seq ?_
    refine nc ?_
    refine nc_block ?_
    replace H := H.nilRowD t_cut_Log 88
    obtain ⟨o895, hL896, hO897⟩ := bindS h
    obtain ⟨n898, hL896⟩ := loopS hL896
    refine nc ?_
    refine loop_ruleA (fun k e w902 => ∃ (A642 : Option Addr) (c643 : Nat) (cs644 : List Value) (v641 : List D_cut_Log) (v645 : Int), iterM (fun s905 : (List D_cut_Log) × Int => member_Node_Logs.b2 x0 s905.1 s905.2) k (v641, v645) = some o895 ∧ e = [(0, .pointer (some ⟨g0_, 0, none⟩)), (3, .slice A642 v641.length c643), (4, .int .i64 v645)] ∧ Eng.Own ok w0 w902 [box (oL_member_Node g0_ a0_ x0), .dat (dRows t_cut_Log v641 cs644), .row (.slice A642 v641.length c643) 88 2 v641.length cs644, box R]) ⟨none, 0, [], _, _, hL896, rfl, H.pickL [2, 0, 1, 3] rfl⟩ ?_
    rintro k907 _ w906 ⟨A642, c643, cs644, v641, v645, hL896, rfl, H⟩
    obtain ⟨k901, rfl, q899, h, hq900⟩ := iterS hL896
    replace h : member_Node_Logs.b2 x0 v641 v645 = some q899 := h
    unfold member_Node_Logs.b2 at h
    refine nc_seq ?_
    refine nc_seq ?_
    refine nc ?_
    refine nc_cond rfl (fun hc908 => ?_) (fun hc908 => ?_)
    · replace h := condT hc908 h
      refine nc ?_
      refine nc_cut (fun e w969 => ∃ (A966 : Option Addr) (c967 : Nat) (cs968 : List Value) (v965 : List D_cut_Log), member_Node_Logs.k1 x0 v645 v965 = some q899 ∧ e = [(0, .pointer (some ⟨g0_, 0, none⟩)), (3, .slice A966 v965.length c967), (4, .int .i64 v645)] ∧ Eng.Own ok w0 w969 [box (oL_member_Node g0_ a0_ x0), .dat (dRows t_cut_Log v965 cs968), .row (.slice A966 v965.length c967) 88 2 v965.length cs968, box R]) ?_ ?_
      · skip
        refine nc_block ?_
        refine nc_seq ?_
        refine nc ?_
        obtain ⟨A971, c972, b973, al974, A975, c976, g977, a978, A979, c980, cs981, A982, c983, cs984, A985, c986, cs987⟩ := a0_
        replace H := H.openAs 0 (oU_member_Node g0_ ⟨A971, c972, b973, al974, A975, c976, g977, a978, A979, c980, cs981, A982, c983, cs984, A985, c986, cs987⟩ x0) rfl rfl
        try dsimp only [oU_member_Node, lastL, pickI, List.drop, List.take, List.set, List.eraseIdx, List.getElem?_cons_zero, List.getElem?_cons_succ, List.cons_append, List.nil_append, List.map] at H
        refine own_load H 0 rfl (by kernel_rfl) (j := 4) rfl ?_
        obtain ⟨A996, c997, hl998⟩ := H.rowPeek 3 rfl v645
        refine lookup_ruleV (kt := 3) (et := 36) (by kernel_rfl) (by kernel_rfl) key3 v645 H 2 rfl _ hl998 ?_
        refine nc_cond rfl (fun hc1000 => ?_) (fun hc1000 => ?_)
        · replace h := condT hc1000 h
          refine nc ?_
          refine own_load H 0 rfl (by kernel_rfl) (j := 4) rfl ?_
          obtain ⟨A1001, c1002, cs1003, gp1004, hl1005, hput1006, hback1007, H⟩ := (H.pickL [3, 0, 1, 2, 4, 5, 6, 7, 8, 9, 10, 11, 12, 13, 14] rfl).rowOff v645
          refine lookup_ruleV (kt := 3) (et := 36) (by kernel_rfl) (by kernel_rfl) key3 v645 H 5 rfl _ hl1005 ?_
          obtain ⟨y1009, hy1010, h⟩ := bindS h
          refine call_rule (by kernel_rfl) (slices_Clone_term_Term_term_Term_own H 1 0 rfl rfl hy1010) fun v1013 w1014 ⟨A1011, c1012, hv, H⟩ => ?_
          subst hv
          refine own_buildSlice (e := 88) (sz := 2) (z := .agg #[.int .i64 0, .slice none 0 0]) (cs := [.int .i64 v645, .slice A1011 y1009.length c1012]) H (by kernel_rfl) (by kernel_rfl) (by kernel_rfl) rfl rfl rfl rfl fun g1017 w1018 H => ?_
          obtain ⟨hr1019, h⟩ := roomS h
          refine own_append1 (k := t_cut_Log) (z := .agg #[.int .i64 0, .slice none 0 0]) (x := (v645, y1009)) 32 H 16 15 rfl rfl rfl (cut_Log_in (x := (v645, y1009)) (H.dat 1 rfl)) (by kernel_rfl) (by kernel_rfl) rfl rfl hr1019 rfl fun z1020 cs1021 w1022 H => ?_
          obtain ⟨A1023, c1024, rfl, _, _⟩ := H.rowSl 16 rfl
          replace H := hback1007 (H.pickL [1, 2, 3, 0, 4, 5, 6, 7, 8, 9, 10, 11, 12, 13, 14, 15, 16, 17] rfl)
          try dsimp only [lastL, pickI, List.drop, List.take, List.set, List.eraseIdx, List.getElem?_cons_zero, List.getElem?_cons_succ, List.cons_append, List.nil_append, List.map] at H
          replace H := (H.pickL [2, 3, 4, 0, 5, 6, 7, 8, 9, 10, 11, 12, 1, 13, 14, 15] rfl).shutAs 12 (oL_member_Node g0_ (A971, c972, b973, al974, A975, c976, g977, a978, A979, c980, cs981, A982, c983, cs984, A985, c986, cs987) x0) rfl
          try dsimp only [lastL, pickI, List.drop, List.take, List.set, List.eraseIdx, List.getElem?_cons_zero, List.getElem?_cons_succ, List.cons_append, List.nil_append, List.map] at H
          exact cut_inA ⟨A1023, c1024, cs1021, _, h, rfl, H.pickL [0, 2, 3, 4] rfl⟩
        · replace h := condF hc1000 h
          refine nc ?_
          replace H := (H.pickL [0, 1, 2, 3, 4, 5, 6, 7, 8, 9, 10, 11, 12, 13, 14] rfl).shutAs 12 (oL_member_Node g0_ (A971, c972, b973, al974, A975, c976, g977, a978, A979, c980, cs981, A982, c983, cs984, A985, c986, cs987) x0) rfl
          try dsimp only [lastL, pickI, List.drop, List.take, List.set, List.eraseIdx, List.getElem?_cons_zero, List.getElem?_cons_succ, List.cons_append, List.nil_append, List.map] at H
          exact cut_inA ⟨A642, c643, cs644, _, h, rfl, H.pickL [0, 1, 2, 3] rfl⟩
      · rintro _ w1026 ⟨A966, c967, cs968, v965, h, rfl, H⟩
        unfold member_Node_Logs.k1 at h
        refine nc ?_
        cases h
        exact again_inA ⟨A966, c967, cs968, _, _, hq900, rfl, H.pickL [0, 1, 2, 3] rfl⟩
    · replace h := condF hc908 h
      refine nc ?_
      cases h
      replace hq900 : v641 = o895 := hq900
      subst hq900
      have h := hO897
      try dsimp only [Sum.elim_inl, Sum.elim_inr] at h
      exact cut_inA ⟨A642, c643, cs644, _, h, rfl, H.pickL [0, 1, 2, 3] rfl⟩
  · rintro _ w1027 ⟨A513, c514, cs515, v512, h, rfl, H⟩
    unfold member_Node_Logs.k3 at h
    refine nc_seq ?_
    refine nc ?_
    refine nc ?_
    replace h := Option.some.inj h
    subst h
    exact ret_inA [.slice A513 v512.length c514] ⟨_, rfl, A513, c514, cs515, rfl, (H.pickL [1, 2, 0, 3] rfl).tailOpen 3 rfl⟩
/-! (*gemot/member.Node).Heed -/
noncomputable def member_Node_Heed.f (x0 : O_member_Node) (x1 : D_api_Id) : Option (O_member_Node) := (view_Less.f x0.seen_ x1).bind fun y37 => cond (cond y37 (decide (x1.1 ≤ (2147483646 : Int))) false) (some ({ x0 with seen_ := (x1.1, x1.2), plan_ := x0.plan_, early_ := x0.early_, outs_ := x0.outs_, events_ := x0.events_ : O_member_Node })) (some x0)
set_option maxHeartbeats 8000000 in
theorem member_Node_Heed_ok {ok : Nat → Prop} {w0 w : World} {R : List Eng.Item} {g0_ : Nat} {a0_ : A_member_Node} {x0 : O_member_Node} {x1 : D_api_Id} {r : O_member_Node} (H : Eng.Own ok w0 w (box (oL_member_Node g0_ a0_ x0) :: R)) (h : member_Node_Heed.f x0 x1 = some r) :
    Calls Try.prog 13 #[.pointer (some ⟨g0_, 0, none⟩), .agg #[.int .i64 x1.1, .int .i64 x1.2]] w fun e w' => ∃ v, e = .returned v ∧ ∃ (a1' : A_member_Node), v = .tuple #[] ∧ Eng.Own ok w0 w' (box (oL_member_Node g0_ a1' r) :: R) := by
  replace H := H.tailBox 1
  unfold member_Node_Heed.f at h
  refine enterN (args := [.pointer (some ⟨g0_, 0, none⟩), .agg #[.int .i64 x1.1, .int .i64 x1.2]]) Try.func13 rfl Try.ntmps13 rfl rfl ?_
  refine nc_seq ?_
  refine nc ?_
  refine own_box H [.int .i64 x1.1, .int .i64 x1.2] rfl fun g3 w4 H => ?_
  refine nc_seq ?_
  obtain ⟨A5, c6, b7, al8, A9, c10, g11, a12, A13, c14, cs15, A16, c17, cs18, A19, c20, cs21⟩ := a0_
  replace H := H.openAs 1 (oU_member_Node g0_ ⟨A5, c6, b7, al8, A9, c10, g11, a12, A13, c14, cs15, A16, c17, cs18, A19, c20, cs21⟩ x0) rfl rfl
  try dsimp only [oU_member_Node, lastL, pickI, List.drop, List.take, List.set, List.eraseIdx, List.getElem?_cons_zero, List.getElem?_cons_succ, List.cons_append, List.nil_append, List.map] at H
  obtain ⟨y37, hy38, h⟩ := bindS h
  refine nc ?_
  refine draw_rule [] (by kernel_rfl) (by kernel_rfl) H ?_
  refine c_loadA (m := 2) 0 rfl (by kernel_rfl) (by kernel_rfl) [.int .i64 x0.seen_.1, .int .i64 x0.seen_.2] rfl rfl ?_
  refine c_loadA (m := 2) 12 rfl (by kernel_rfl) (by kernel_rfl) [.int .i64 x1.1, .int .i64 x1.2] rfl rfl ?_
  refine c_call (.bool y37) (by kernel_rfl) (fun _ _ H => view_Less_ok (x0 := x0.seen_) (x1 := x1) hy38) ?_
  refine c_load 12 rfl (by kernel_rfl) (j := 0) rfl ?_
  intro w43 H
  refine nc_cond rfl (fun hc44 => ?_) (fun hc44 => ?_)
  · replace h := condT hc44 h
    refine nc ?_
    refine own_loadA (m := 2) H 12 rfl (by kernel_rfl) (by kernel_rfl) [.int .i64 x1.1, .int .i64 x1.2] rfl rfl ?_
    refine own_storeB (m := 2) H 0 rfl (by kernel_rfl) [.int .i64 x1.1, .int .i64 x1.2] rfl rfl rfl rfl fun w45 H => ?_
    replace H := (H.pickL [0, 1, 2, 3, 4, 5, 6, 7, 8, 9, 10, 11, 12, 13] rfl).shutAs 12 (oL_member_Node g0_ (A5, c6, b7, al8, A9, c10, g11, a12, A13, c14, cs15, A16, c17, cs18, A19, c20, cs21) ({ x0 with seen_ := (x1.1, x1.2), plan_ := x0.plan_, early_ := x0.early_, outs_ := x0.outs_, events_ := x0.events_ : O_member_Node })) rfl
    try dsimp only [lastL, pickI, List.drop, List.take, List.set, List.eraseIdx, List.getElem?_cons_zero, List.getElem?_cons_succ, List.cons_append, List.nil_append, List.map] at H
    replace h := Option.some.inj h
    subst h
    exact ret_inA [] ⟨_, rfl, (A5, c6, b7, al8, A9, c10, g11, a12, A13, c14, cs15, A16, c17, cs18, A19, c20, cs21), rfl, (H.pickL [0, 2] rfl).tailOpen 1 rfl⟩
  · replace h := condF hc44 h
    refine nc ?_
    replace H := (H.pickL [0, 1, 2, 3, 4, 5, 6, 7, 8, 9, 10, 11, 12, 13] rfl).shutAs 12 (oL_member_Node g0_ (A5, c6, b7, al8, A9, c10, g11, a12, A13, c14, cs15, A16, c17, cs18, A19, c20, cs21) x0) rfl
    try dsimp only [lastL, pickI, List.drop, List.take, List.set, List.eraseIdx, List.getElem?_cons_zero, List.getElem?_cons_succ, List.cons_append, List.nil_append, List.map] at H
    replace h := Option.some.inj h
    subst h
    exact ret_inA [] ⟨_, rfl, (A5, c6, b7, al8, A9, c10, g11, a12, A13, c14, cs15, A16, c17, cs18, A19, c20, cs21), rfl, (H.pickL [0, 2] rfl).tailOpen 1 rfl⟩
/-! (*gemot/member.Node).send -/
noncomputable def member_Node_send.f (x0 : O_member_Node) (x1 : Int) (x2 : D_list_Message) : Option (O_member_Node) := (list_Pack.f x2).bind fun y15 => cond (y15.2 == (0 : Int)) (roomM 104 (x0.outs_.length + 1) (some ({ x0 with outs_ := (x0.outs_ ++ [(x1, x2)]) : O_member_Node }))) (some x0)
set_option maxHeartbeats 8000000 in
theorem member_Node_send_ok {ok : Nat → Prop} {w0 w : World} {R : List Eng.Item} {g0_ : Nat} {a0_ : A_member_Node} {u2 : Value} {u4 : Value} {x0 : O_member_Node} {x1 : Int} {x2 : D_list_Message} {r : O_member_Node} (H : Eng.Own ok w0 w (box (oL_member_Node g0_ a0_ x0) :: R)) (hu3 : slR (tInt .i64) w (okOf ok w0 (box (oL_member_Node g0_ a0_ x0) :: R)) u2 x2.2.2.2.2.1) (hu5 : slR tStr w (okOf ok w0 (box (oL_member_Node g0_ a0_ x0) :: R)) u4 x2.2.2.2.2.2) (h : member_Node_send.f x0 x1 x2 = some r) :
    Calls Try.prog 39 #[.pointer (some ⟨g0_, 0, none⟩), .int .i64 x1, .agg #[.int .i64 x2.1, .int .i64 x2.2.1.1, .int .i64 x2.2.1.2, .int .i64 x2.2.2.1.1, .int .i64 x2.2.2.1.2, .int .i64 x2.2.2.2.1, u2, u4]] w fun e w' => ∃ v, e = .returned v ∧ ∃ (a1' : A_member_Node), v = .tuple #[] ∧ Eng.Own ok w0 w' (box (oL_member_Node g0_ a1' r) :: R) := by
  obtain ⟨A6, c7, rfl, H⟩ := H.openD hu3
  obtain ⟨A9, c10, rfl, H⟩ := H.openD hu5
  replace H := H.tailBox 3
  unfold member_Node_send.f at h
  refine enterN (args := [.pointer (some ⟨g0_, 0, none⟩), .int .i64 x1, .agg #[.int .i64 x2.1, .int .i64 x2.2.1.1, .int .i64 x2.2.1.2, .int .i64 x2.2.2.1.1, .int .i64 x2.2.2.1.2, .int .i64 x2.2.2.2.1, .slice A6 x2.2.2.2.2.1.length c7, .slice A9 x2.2.2.2.2.2.length c10]]) Try.func39 rfl Try.ntmps39 rfl rfl ?_
  refine nc_seq ?_
  refine nc ?_
  refine own_box H [.int .i64 x2.1, .int .i64 x2.2.1.1, .int .i64 x2.2.1.2, .int .i64 x2.2.2.1.1, .int .i64 x2.2.2.1.2, .int .i64 x2.2.2.2.1, .slice A6 x2.2.2.2.2.1.length c7, .slice A9 x2.2.2.2.2.2.length c10] rfl fun g13 w14 H => ?_
  refine nc_seq ?_
  refine nc ?_
  refine own_loadA (m := 8) H 0 rfl (by kernel_rfl) (by kernel_rfl) [.int .i64 x2.1, .int .i64 x2.2.1.1, .int .i64 x2.2.1.2, .int .i64 x2.2.2.1.1, .int .i64 x2.2.2.1.2, .int .i64 x2.2.2.2.1, .slice A6 x2.2.2.2.2.1.length c7, .slice A9 x2.2.2.2.2.2.length c10] rfl rfl ?_
  obtain ⟨y15, hy16, h⟩ := bindS h
  refine call_rule (by kernel_rfl) (list_Pack_ok (x0 := x2) (H.dat 2 rfl) (H.dat 1 rfl) hy16) fun v18 w17 ⟨hv19, hb20⟩ => ?_
  subst hv19
  replace H := H.call hb20
  refine nc_seq ?_
  refine nc ?_
  refine nc_cond rfl (fun hc21 => ?_) (fun hc21 => ?_)
  · replace h := condT hc21 h
    obtain ⟨A22, c23, b24, al25, A26, c27, g28, a29, A30, c31, cs32, A33, c34, cs35, A36, c37, cs38⟩ := a0_
    replace H := H.openAs 3 (oU_member_Node g0_ ⟨A22, c23, b24, al25, A26, c27, g28, a29, A30, c31, cs32, A33, c34, cs35, A36, c37, cs38⟩ x0) rfl rfl
    try dsimp only [oU_member_Node, lastL, pickI, List.drop, List.take, List.set, List.eraseIdx, List.getElem?_cons_zero, List.getElem?_cons_succ, List.cons_append, List.nil_append, List.map] at H
    obtain ⟨hr62, h⟩ := roomS h
    refine nc ?_
    refine draw_rule [] (by kernel_rfl) (by kernel_rfl) H ?_
    refine c_load 0 rfl (by kernel_rfl) (j := 12) rfl ?_
    refine c_loadA (m := 8) 12 rfl (by kernel_rfl) (by kernel_rfl) [.int .i64 x2.1, .int .i64 x2.2.1.1, .int .i64 x2.2.1.2, .int .i64 x2.2.2.1.1, .int .i64 x2.2.2.1.2, .int .i64 x2.2.2.2.1, .slice A6 x2.2.2.2.2.1.length c7, .slice A9 x2.2.2.2.2.2.length c10] rfl rfl ?_
    refine c_buildSlice (e := 40) (sz := 9) (z := .agg #[.int .i64 0, .int .i64 0, .int .i64 0, .int .i64 0, .int .i64 0, .int .i64 0, .int .i64 0, .slice none 0 0, .slice none 0 0]) (cs := [.int .i64 x1, .int .i64 x2.1, .int .i64 x2.2.1.1, .int .i64 x2.2.1.2, .int .i64 x2.2.2.1.1, .int .i64 x2.2.2.1.2, .int .i64 x2.2.2.2.1, .slice A6 x2.2.2.2.2.1.length c7, .slice A9 x2.2.2.2.2.2.length c10]) (by kernel_rfl) (by kernel_rfl) (by kernel_rfl) rfl rfl rfl rfl ?_
    intro g60
    refine c_append1S (k := t_member_Out) (z := .agg #[.int .i64 0, .int .i64 0, .int .i64 0, .int .i64 0, .int .i64 0, .int .i64 0, .int .i64 0, .slice none 0 0, .slice none 0 0]) (x := (x1, x2)) 104 9 8 rfl rfl rfl (fun _ H => (member_Out_in (x := (x1, x2)) (H.dat 15 rfl) (H.dat 14 rfl))) (by kernel_rfl) (by kernel_rfl) rfl rfl hr62 rfl ?_
    intro A66 c67 cs64
    refine c_storeB (m := 1) 0 rfl (by kernel_rfl) [.slice A66 (x0.outs_ ++ [(x1, x2)]).length c67] rfl rfl rfl rfl ?_
    intro w70 H
    replace H := (H.pickL [0, 1, 2, 3, 4, 5, 6, 7, 8, 9, 10, 11, 12, 13, 14, 15] rfl).shutAs 12 (oL_member_Node g0_ (A22, c23, b24, al25, A26, c27, g28, a29, A30, c31, cs32, A66, c67, cs64, A36, c37, cs38) ({ x0 with outs_ := (x0.outs_ ++ [(x1, x2)]) : O_member_Node })) rfl
    try dsimp only [lastL, pickI, List.drop, List.take, List.set, List.eraseIdx, List.getElem?_cons_zero, List.getElem?_cons_succ, List.cons_append, List.nil_append, List.map] at H
    replace h := Option.some.inj h
    subst h
    exact ret_inA [] ⟨_, rfl, (A22, c23, b24, al25, A26, c27, g28, a29, A30, c31, cs32, A66, c67, cs64, A36, c37, cs38), rfl, (H.pickL [0, 4] rfl).tailOpen 1 rfl⟩
  · replace h := condF hc21 h
    refine nc ?_
    replace h := Option.some.inj h
    subst h
    exact ret_inA [] ⟨_, rfl, a0_, rfl, (H.pickL [3, 4] rfl).tailOpen 1 rfl⟩
/-! (*gemot/member.Node).tell -/
noncomputable def member_Node_tell.k1 (x1 : List Int) (x2 : D_list_Message) (v104 : Int) (v325 : O_member_Node) : Option ((O_member_Node × Int) ⊕ O_member_Node) := some (.inl (v325, (IntKind.i64.wrap (v104 + (1 : Int)))))
noncomputable def member_Node_tell.b2 (x1 : List Int) (x2 : D_list_Message) (v102 : O_member_Node) (v104 : Int) : Option ((O_member_Node × Int) ⊕ O_member_Node) := cond (decide (v104 < (x1.length : Int))) ((idxL x1 v104).bind fun y329 => cond (y329 != v102.me_) ((member_Node_send.f v102 y329 x2).bind fun y361 => member_Node_tell.k1 x1 x2 v104 y361) (member_Node_tell.k1 x1 x2 v104 v102)) (some (.inr v102))
noncomputable def member_Node_tell.f (x0 : O_member_Node) (x1 : List Int) (x2 : D_list_Message) : Option (O_member_Node) := (loopM (fun s283 : O_member_Node × Int => member_Node_tell.b2 x1 x2 s283.1 s283.2) (x0, (0 : Int))).bind (fun (o282 : O_member_Node) => some o282)
set_option maxHeartbeats 8000000 in
theorem member_Node_tell_ok {ok : Nat → Prop} {w0 w : World} {R : List Eng.Item} {g0_ : Nat} {a0_ : A_member_Node} {u2 : Value} {u4 : Value} {u6 : Value} {x0 : O_member_Node} {x1 : List Int} {x2 : D_list_Message} {r : O_member_Node} (H : Eng.Own ok w0 w (box (oL_member_Node g0_ a0_ x0) :: R)) (hu3 : slR (tInt .i64) w (okOf ok w0 (box (oL_member_Node g0_ a0_ x0) :: R)) u2 x1) (hu5 : slR (tInt .i64) w (okOf ok w0 (box (oL_member_Node g0_ a0_ x0) :: R)) u4 x2.2.2.2.2.1) (hu7 : slR tStr w (okOf ok w0 (box (oL_member_Node g0_ a0_ x0) :: R)) u6 x2.2.2.2.2.2) (h : member_Node_tell.f x0 x1 x2 = some r) :
    Calls Try.prog 24 #[.pointer (some ⟨g0_, 0, none⟩), u2, .agg #[.int .i64 x2.1, .int .i64 x2.2.1.1, .int .i64 x2.2.1.2, .int .i64 x2.2.2.1.1, .int .i64 x2.2.2.1.2, .int .i64 x2.2.2.2.1, u4, u6]] w fun e w' => ∃ v, e = .returned v ∧ ∃ (a1' : A_member_Node), v = .tuple #[] ∧ Eng.Own ok w0 w' (box (oL_member_Node g0_ a1' r) :: R) := by
  obtain ⟨A8, c9, rfl, H⟩ := H.openD hu3
  obtain ⟨A11, c12, rfl, H⟩ := H.openD hu5
  obtain ⟨A14, c15, rfl, H⟩ := H.openD hu7
  replace H := H.tailBox 4
  unfold member_Node_tell.f at h
  refine enterN (args := [.pointer (some ⟨g0_, 0, none⟩), .slice A8 x1.length c9, .agg #[.int .i64 x2.1, .int .i64 x2.2.1.1, .int .i64 x2.2.1.2, .int .i64 x2.2.2.1.1, .int .i64 x2.2.2.1.2, .int .i64 x2.2.2.2.1, .slice A11 x2.2.2.2.2.1.length c12, .slice A14 x2.2.2.2.2.2.length c15]]) Try.func24 rfl Try.ntmps24 rfl rfl ?_
  refine nc_seq ?_
  refine nc ?_
  refine own_box H [.int .i64 x2.1, .int .i64 x2.2.1.1, .int .i64 x2.2.1.2, .int .i64 x2.2.2.1.1, .int .i64 x2.2.2.1.2, .int .i64 x2.2.2.2.1, .slice A11 x2.2.2.2.2.1.length c12, .slice A14 x2.2.2.2.2.2.length c15] rfl fun g18 w19 H => ?_
  refine nc_seq ?_
  refine nc ?_
  refine nc_block ?_
  obtain ⟨o274, hL275, hO276⟩ := bindS h
  obtain ⟨n277, hL275⟩ := loopS hL275
  refine nc ?_
  refine loop_ruleA (fun k e w281 => ∃ (a103 : A_member_Node) (v102 : O_member_Node) (v104 : Int), iterM (fun s283 : O_member_Node × Int => member_Node_tell.b2 x1 x2 s283.1 s283.2) k (v102, v104) = some o274 ∧ e = [(0, .pointer (some ⟨g0_, 0, none⟩)), (5, .pointer (some ⟨g18, 0, none⟩)), (8, .slice A8 x1.length c9), (9, .int .i64 (x1.length : Int)), (10, .int .i64 v104)] ∧ Eng.Own ok w0 w281 [box (oL_member_Node g0_ a103 v102), .blk g18 [.int .i64 x2.1, .int .i64 x2.2.1.1, .int .i64 x2.2.1.2, .int .i64 x2.2.2.1.1, .int .i64 x2.2.2.1.2, .int .i64 x2.2.2.2.1, .slice A11 x2.2.2.2.2.1.length c12, .slice A14 x2.2.2.2.2.2.length c15] 38, .dat (dSl (tInt .i64) (.slice A11 x2.2.2.2.2.1.length c12) x2.2.2.2.2.1), .dat (dSl tStr (.slice A14 x2.2.2.2.2.2.length c15) x2.2.2.2.2.2), .dat (dSl (tInt .i64) (.slice A8 x1.length c9) x1), box R]) ⟨a0_, _, _, hL275, rfl, H.pickL [4, 0, 2, 1, 3, 5] rfl⟩ ?_
  rintro k285 _ w284 ⟨a103, v102, v104, hL275, rfl, H⟩
  obtain ⟨k280, rfl, q278, h, hq279⟩ := iterS hL275
  replace h : member_Node_tell.b2 x1 x2 v102 v104 = some q278 := h
  unfold member_Node_tell.b2 at h
  refine nc_seq ?_
  refine nc ?_
  refine nc_seq ?_
  refine nc_cond rfl (fun hc286 => ?_) (fun hc286 => ?_)
  · replace h := condT hc286 h
    refine nc ?_
    refine nc_cut (fun e w327 => ∃ (a326 : A_member_Node) (v325 : O_member_Node), member_Node_tell.k1 x1 x2 v104 v325 = some q278 ∧ e = [(0, .pointer (some ⟨g0_, 0, none⟩)), (5, .pointer (some ⟨g18, 0, none⟩)), (8, .slice A8 x1.length c9), (9, .int .i64 (x1.length : Int)), (10, .int .i64 v104)] ∧ Eng.Own ok w0 w327 [box (oL_member_Node g0_ a326 v325), .blk g18 [.int .i64 x2.1, .int .i64 x2.2.1.1, .int .i64 x2.2.1.2, .int .i64 x2.2.2.1.1, .int .i64 x2.2.2.1.2, .int .i64 x2.2.2.2.1, .slice A11 x2.2.2.2.2.1.length c12, .slice A14 x2.2.2.2.2.2.length c15] 38, .dat (dSl (tInt .i64) (.slice A11 x2.2.2.2.2.1.length c12) x2.2.2.2.2.1), .dat (dSl tStr (.slice A14 x2.2.2.2.2.2.length c15) x2.2.2.2.2.2), .dat (dSl (tInt .i64) (.slice A8 x1.length c9) x1), box R]) ?_ ?_
    · skip
      refine nc_block ?_
      refine nc_seq ?_
      refine nc ?_
      obtain ⟨y329, hx330, h⟩ := bindS h
      obtain ⟨a331, cs332, rfl, hR333, H⟩ := H.elemI 4 rfl hx330
      obtain rfl : cs332 = [.int .i64 y329] := hR333
      refine idxA_rule (e := 3) 1 _ (by kernel_rfl) (by kernel_rfl) (idxL_some hx330).1 (idxL_some hx330).2.1 ?_
      refine own_loadD H 0 rfl 0 (by kernel_rfl) rfl ?_
      refine nc_seq ?_
      refine nc ?_
      obtain ⟨A335, c336, b337, al338, A339, c340, g341, a342, A343, c344, cs345, A346, c347, cs348, A349, c350, cs351⟩ := a103
      replace H := H.openAs 1 (oU_member_Node g0_ ⟨A335, c336, b337, al338, A339, c340, g341, a342, A343, c344, cs345, A346, c347, cs348, A349, c350, cs351⟩ v102) rfl rfl
      try dsimp only [oU_member_Node, lastL, pickI, List.drop, List.take, List.set, List.eraseIdx, List.getElem?_cons_zero, List.getElem?_cons_succ, List.cons_append, List.nil_append, List.map] at H
      refine own_load H 0 rfl (by kernel_rfl) (j := 0) rfl ?_
      refine nc_cond rfl (fun hc360 => ?_) (fun hc360 => ?_)
      · replace h := condT hc360 h
        refine nc ?_
        refine own_loadA (m := 8) H 13 rfl (by kernel_rfl) (by kernel_rfl) [.int .i64 x2.1, .int .i64 x2.2.1.1, .int .i64 x2.2.1.2, .int .i64 x2.2.2.1.1, .int .i64 x2.2.2.1.2, .int .i64 x2.2.2.2.1, .slice A11 x2.2.2.2.2.1.length c12, .slice A14 x2.2.2.2.2.2.length c15] rfl rfl ?_
        replace H := (H.pickL [0, 1, 2, 3, 4, 5, 6, 7, 8, 9, 10, 11, 12, 13, 14, 15, 16, 17] rfl).shutAs 12 (oL_member_Node g0_ (A335, c336, b337, al338, A339, c340, g341, a342, A343, c344, cs345, A346, c347, cs348, A349, c350, cs351) v102) rfl
        try dsimp only [lastL, pickI, List.drop, List.take, List.set, List.eraseIdx, List.getElem?_cons_zero, List.getElem?_cons_succ, List.cons_append, List.nil_append, List.map] at H
        obtain ⟨y361, hy362, h⟩ := bindS h
        refine call_rule (by kernel_rfl) (member_Node_send_ok (x0 := v102) (x2 := x2) H (H.dat 3 rfl) (H.dat 4 rfl) hy362) fun v365 w364 ⟨a363, hv366, H⟩ => ?_
        subst hv366
        exact cut_inA ⟨a363, _, h, rfl, H.pickL [0, 2, 3, 4, 5, 6] rfl⟩
      · replace h := condF hc360 h
        refine nc ?_
        replace H := (H.pickL [0, 1, 2, 3, 4, 5, 6, 7, 8, 9, 10, 11, 12, 13, 14, 15, 16, 17] rfl).shutAs 12 (oL_member_Node g0_ (A335, c336, b337, al338, A339, c340, g341, a342, A343, c344, cs345, A346, c347, cs348, A349, c350, cs351) v102) rfl
        try dsimp only [lastL, pickI, List.drop, List.take, List.set, List.eraseIdx, List.getElem?_cons_zero, List.getElem?_cons_succ, List.cons_append, List.nil_append, List.map] at H
        exact cut_inA ⟨(A335, c336, b337, al338, A339, c340, g341, a342, A343, c344, cs345, A346, c347, cs348, A349, c350, cs351), _, h, rfl, H.pickL [0, 2, 3, 4, 5, 6] rfl⟩
    · rintro _ w367 ⟨a326, v325, h, rfl, H⟩
      unfold member_Node_tell.k1 at h
      refine nc ?_
      cases h
      exact again_inA ⟨a326, _, _, hq279, rfl, H.pickL [0, 1, 2, 3, 4, 5] rfl⟩
  · replace h := condF hc286 h
    refine nc ?_
    cases h
    replace hq279 : v102 = o274 := hq279
    subst hq279
    have h := hO276
    try dsimp only [Sum.elim_inl, Sum.elim_inr] at h
    replace h := Option.some.inj h
    subst h
    exact ret_inA [] ⟨_, rfl, a103, rfl, (H.pickL [0, 5] rfl).tailOpen 1 rfl⟩
/-! (*gemot/member.Node).deliver -/
noncomputable def member_Node_deliver.f (x0 : O_member_Node) (x1 : Int) (x2 : List UInt8) : Option (O_member_Node) := roomM 16 (((getA x1 x0.rows_).getD []).length + 1) ((member_Node_View.f ({ x0 with rows_ := (putA x1 (((getA x1 x0.rows_).getD []) ++ [x2]) x0.rows_) : O_member_Node })).bind fun y96 => roomM 80 (x0.events_.length + 1) (some ({ x0 with rows_ := (putA x1 (((getA x1 x0.rows_).getD []) ++ [x2]) x0.rows_), events_ := (x0.events_ ++ [((1 : Int), y96, x1, (((getA x1 (putA x1 (((getA x1 x0.rows_).getD []) ++ [x2]) x0.rows_)).getD []).length : Int), x2)]) : O_member_Node })))
set_option maxHeartbeats 8000000 in
theorem member_Node_deliver_ok {ok : Nat → Prop} {w0 w : World} {R : List Eng.Item} {g0_ : Nat} {a0_ : A_member_Node} {x0 : O_member_Node} {x1 : Int} {x2 : List UInt8} {r : O_member_Node} (H : Eng.Own ok w0 w (box (oL_member_Node g0_ a0_ x0) :: R)) (h : member_Node_deliver.f x0 x1 x2 = some r) :
    Calls Try.prog 34 #[.pointer (some ⟨g0_, 0, none⟩), .int .i64 x1, .string (bs x2)] w fun e w' => ∃ v, e = .returned v ∧ ∃ (a1' : A_member_Node), v = .tuple #[] ∧ Eng.Own ok w0 w' (box (oL_member_Node g0_ a1' r) :: R) := by
  replace H := H.tailBox 1
  unfold member_Node_deliver.f at h
  refine enterN (args := [.pointer (some ⟨g0_, 0, none⟩), .int .i64 x1, .string (bs x2)]) Try.func34 rfl Try.ntmps34 rfl rfl ?_
  refine nc_seq ?_
  obtain ⟨A2, c3, b4, al5, A6, c7, g8, a9, A10, c11, cs12, A13, c14, cs15, A16, c17, cs18⟩ := a0_
  replace H := H.openAs 0 (oU_member_Node g0_ ⟨A2, c3, b4, al5, A6, c7, g8, a9, A10, c11, cs12, A13, c14, cs15, A16, c17, cs18⟩ x0) rfl rfl
  try dsimp only [oU_member_Node, lastL, pickI, List.drop, List.take, List.set, List.eraseIdx, List.getElem?_cons_zero, List.getElem?_cons_succ, List.cons_append, List.nil_append, List.map] at H
  obtain ⟨A49, c50, cs51, gp52, hl53, hput54, hback55, H⟩ := (H.pickL [3, 0, 1, 2, 4, 5, 6, 7, 8, 9, 10, 11, 12] rfl).rowOff x1
  obtain ⟨hr60, h⟩ := roomS h
  refine nc ?_
  refine draw_ruleB [.blk g0_ [.int .i64 x0.me_, .int .i64 x0.view_.1.1, .int .i64 x0.view_.1.2, .slice A2 x0.view_.2.length c3, .map (some b4), .int .i64 x0.promised_.1.1, .int .i64 x0.promised_.1.2, .slice A6 x0.promised_.2.length c7, .int .i64 x0.seen_.1, .int .i64 x0.seen_.2, .pointer (optA g8 x0.plan_), .slice A10 x0.early_.length c11, .slice A13 x0.outs_.length c14, .slice A16 x0.events_.length c17] 67] [] (fun j => undef) [1000, 1000, 1000, 1000, 1000, 1000, 1000, 1000, 0, 1000, 0, 1000, 1000, 1000, 1000] (by kernel_rfl) (by kernel_rfl) H (by repeat first | exact List.nil_sublist _ | apply List.Sublist.cons_cons | apply List.Sublist.cons) ?_
  refine c_load 0 rfl (by kernel_rfl) (j := 4) rfl ?_
  refine c_load 3 rfl (by kernel_rfl) (j := 4) rfl ?_
  refine c_lookupV (kt := 3) (et := 36) (by kernel_rfl) (by kernel_rfl) key3 x1 5 rfl _ hl53 ?_
  refine c_buildSlice (e := 45) (sz := 1) (z := .string ⟨#[]⟩) (cs := [.string (bs x2)]) (by kernel_rfl) (by kernel_rfl) (by kernel_rfl) rfl rfl rfl rfl ?_
  intro g58
  refine ⟨(by repeat first | exact List.nil_sublist _ | apply List.Sublist.cons_cons | apply List.Sublist.cons), ?_⟩
  refine c_append1S (k := tStr) (z := .string ⟨#[]⟩) (x := x2) 16 1 0 rfl rfl rfl (fun _ H => rfl) (by kernel_rfl) (by kernel_rfl) rfl rfl hr60 rfl ?_
  intro A64 c65 cs62
  refine ⟨(by repeat first | exact List.nil_sublist _ | apply List.Sublist.cons_cons | apply List.Sublist.cons), ?_⟩
  refine c_mapUpdate (kt := 3) (et := 36) (by kernel_rfl) key3 x1 _ 5 rfl ?_
  refine ⟨(by repeat first | exact List.nil_sublist _ | apply List.Sublist.cons_cons | apply List.Sublist.cons), ?_⟩
  intro w68 H
  obtain ⟨al69, he70, H⟩ := hput54 (H.pickL [0, 1, 2, 3, 4, 5, 6, 7, 8, 9, 10, 11, 12, 13, 14] rfl)
  replace H := H.objAs 3 rfl he70
  obtain ⟨y96, hy97, h⟩ := bindS h
  obtain ⟨A103, c104, hl105⟩ := H.rowPeek 0 rfl x1
  obtain ⟨hr110, h⟩ := roomS h
  try dsimp only [lastL, pickI, List.drop, List.take, List.set, List.eraseIdx, List.getElem?_cons_zero, List.getElem?_cons_succ, List.cons_append, List.nil_append, List.map] at H
  refine nc ?_
  refine draw_rule [0, 0, 0, 0, 0, 0, 0, 0, 0, 0, 0, 0, 0, 0, 1000, 0, 0, 0, 0, 0, 0, 0] (by kernel_rfl) (by kernel_rfl) H ?_
  refine c_load 1 rfl (by kernel_rfl) (j := 13) rfl ?_
  refine c_callRd [1, 2, 3, 0, 4, 5, 6, 7, 8, 9, 10, 11, 12] 12 (oL_member_Node g0_ (A2, c3, b4, al69, A6, c7, g8, a9, A10, c11, cs12, A13, c14, cs15, A16, c17, cs18) ({ x0 with rows_ := (putA x1 (((getA x1 x0.rows_).getD []) ++ [x2]) x0.rows_) : O_member_Node })) (fun v X => ∃ A98, ∃ c99, v = .agg #[.int .i64 y96.1.1, .int .i64 y96.1.2, .slice A98 y96.2.length c99] ∧ X = [dSl (tInt .i64) (.slice A98 y96.2.length c99) y96.2]) rfl (by kernel_rfl) rfl rfl (fun _ H => Calls.mono (member_Node_View_ok (x0 := ({ x0 with rows_ := (putA x1 (((getA x1 x0.rows_).getD []) ++ [x2]) x0.rows_) : O_member_Node })) H hy97) fun e w' ⟨v, he, A98, c99, hv, H⟩ => ⟨v, he, _, ⟨A98, c99, hv, rfl⟩, H⟩) ?_
  rintro v101 X102 ⟨A98, c99, rfl, rfl⟩
  dsimp only [subLb, lastL, pickI, List.drop, List.take, List.set, List.eraseIdx, List.getElem?_cons_zero, List.getElem?_cons_succ, List.cons_append, List.nil_append, List.map]
  refine c_load 1 rfl (by kernel_rfl) (j := 4) rfl ?_
  refine c_lookupV (kt := 3) (et := 36) (by kernel_rfl) (by kernel_rfl) key3 x1 3 rfl _ hl105 ?_
  refine c_buildSlice (e := 51) (sz := 7) (z := .agg #[.int .i64 0, .int .i64 0, .int .i64 0, .slice none 0 0, .int .i64 0, .int .i64 0, .string ⟨#[]⟩]) (cs := [.int .i64 1, .int .i64 y96.1.1, .int .i64 y96.1.2, .slice A98 y96.2.length c99, .int .i64 x1, .int .i64 (((getA x1 (putA x1 (((getA x1 x0.rows_).getD []) ++ [x2]) x0.rows_)).getD []).length : Int), .string (bs x2)]) (by kernel_rfl) (by kernel_rfl) (by kernel_rfl) rfl rfl rfl rfl ?_
  intro g108
  refine c_append1S (k := t_member_Event) (z := .agg #[.int .i64 0, .int .i64 0, .int .i64 0, .slice none 0 0, .int .i64 0, .int .i64 0, .string ⟨#[]⟩]) (x := ((1 : Int), y96, x1, (((getA x1 (putA x1 (((getA x1 x0.rows_).getD []) ++ [x2]) x0.rows_)).getD []).length : Int), x2)) 80 12 11 rfl rfl rfl (fun _ H => (member_Event_in (x := ((1 : Int), y96, x1, (((getA x1 (putA x1 (((getA x1 x0.rows_).getD []) ++ [x2]) x0.rows_)).getD []).length : Int), x2)) (H.dat 1 rfl))) (by kernel_rfl) (by kernel_rfl) rfl rfl hr110 rfl ?_
  intro A114 c115 cs112
  refine c_storeB (m := 1) 2 rfl (by kernel_rfl) [.slice A114 (x0.events_ ++ [((1 : Int), y96, x1, (((getA x1 (putA x1 (((getA x1 x0.rows_).getD []) ++ [x2]) x0.rows_)).getD []).length : Int), x2)]).length c115] rfl rfl rfl rfl ?_
  intro w118 H
  dsimp only [lastL, pickI, List.drop, List.take, List.set, List.eraseIdx, List.getElem?_cons_zero, List.getElem?_cons_succ, List.cons_append, List.nil_append, List.map] at H
  replace H := (H.pickL [2, 3, 4, 1, 5, 6, 7, 8, 9, 10, 11, 12, 0, 13] rfl).shutAs 12 (oL_member_Node g0_ (A2, c3, b4, al69, A6, c7, g8, a9, A10, c11, cs12, A13, c14, cs15, A114, c115, cs112) ({ x0 with rows_ := (putA x1 (((getA x1 x0.rows_).getD []) ++ [x2]) x0.rows_), events_ := (x0.events_ ++ [((1 : Int), y96, x1, (((getA x1 (putA x1 (((getA x1 x0.rows_).getD []) ++ [x2]) x0.rows_)).getD []).length : Int), x2)]) : O_member_Node })) rfl
  try dsimp only [lastL, pickI, List.drop, List.take, List.set, List.eraseIdx, List.getElem?_cons_zero, List.getElem?_cons_succ, List.cons_append, List.nil_append, List.map] at H
  replace h := Option.some.inj h
  subst h
  exact ret_inA [] ⟨_, rfl, (A2, c3, b4, al69, A6, c7, g8, a9, A10, c11, cs12, A13, c14, cs15, A114, c115, cs112), rfl, (H.pickL [0, 2] rfl).tailOpen 1 rfl⟩
/-! (*gemot/member.Node).cast -/
noncomputable def member_Node_cast.k1 (x0 : O_member_Node) (x1 : Int) (x2 : D_list_Message) (v120 : Bool) : Option (O_member_Node) := cond v120 ((idxL x2.2.2.2.2.2 (0 : Int)).bind fun y167 => (member_Node_deliver.f x0 x1 y167).bind fun y173 => some y173) (some x0)
noncomputable def member_Node_cast.f (x0 : O_member_Node) (x1 : Int) (x2 : D_list_Message) : Option (O_member_Node) := cond (cond (cond (decide (x2.2.2.2.1 < (1 : Int))) true ((x2.2.2.2.2.2.length : Int) != (1 : Int))) true (x1 == x0.me_)) (some x0) (cond ((x2.2.1.1 == x0.view_.1.1) && (x2.2.1.2 == x0.view_.1.2)) ((member_Node_Flushing.f x0).bind fun y148 => cond (!y148) ((view_Has.f x0.view_.2 x1).bind fun y153 => member_Node_cast.k1 x0 x1 x2 (cond (cond (!y148) y153 false) (x2.2.2.2.1 == (IntKind.i64.wrap ((((getA x1 x0.rows_).getD []).length : Int) + (1 : Int)))) false)) (member_Node_cast.k1 x0 x1 x2 (cond (cond (!y148) false false) ((0 : Int) == (IntKind.i64.wrap ((0 : Int) + (1 : Int)))) false))) ((view_Less.f x0.view_.1 x2.2.1).bind fun y186 => cond (cond y186 (decide ((x0.early_.length : Int) < (256 : Int))) false) (roomM 104 (x0.early_.length + 1) (some ({ x0 with early_ := (x0.early_ ++ [(x1, x2)]) : O_member_Node }))) (some x0)))
set_option maxHeartbeats 8000000 in
theorem member_Node_cast_ok {ok : Nat → Prop} {w0 w : World} {R : List Eng.Item} {g0_ : Nat} {a0_ : A_member_Node} {u2 : Value} {u4 : Value} {x0 : O_member_Node} {x1 : Int} {x2 : D_list_Message} {r : O_member_Node} (H : Eng.Own ok w0 w (box (oL_member_Node g0_ a0_ x0) :: R)) (hu3 : slR (tInt .i64) w (okOf ok w0 (box (oL_member_Node g0_ a0_ x0) :: R)) u2 x2.2.2.2.2.1) (hu5 : slR tStr w (okOf ok w0 (box (oL_member_Node g0_ a0_ x0) :: R)) u4 x2.2.2.2.2.2) (h : member_Node_cast.f x0 x1 x2 = some r) :
    Calls Try.prog 31 #[.pointer (some ⟨g0_, 0, none⟩), .int .i64 x1, .agg #[.int .i64 x2.1, .int .i64 x2.2.1.1, .int .i64 x2.2.1.2, .int .i64 x2.2.2.1.1, .int .i64 x2.2.2.1.2, .int .i64 x2.2.2.2.1, u2, u4]] w fun e w' => ∃ v, e = .returned v ∧ ∃ (a1' : A_member_Node), v = .tuple #[] ∧ Eng.Own ok w0 w' (box (oL_member_Node g0_ a1' r) :: R) := by
  obtain ⟨A6, c7, rfl, H⟩ := H.openD hu3
  obtain ⟨A9, c10, rfl, H⟩ := H.openD hu5
  replace H := H.tailBox 3
  unfold member_Node_cast.f at h
  refine enterN (args := [.pointer (some ⟨g0_, 0, none⟩), .int .i64 x1, .agg #[.int .i64 x2.1, .int .i64 x2.2.1.1, .int .i64 x2.2.1.2, .int .i64 x2.2.2.1.1, .int .i64 x2.2.2.1.2, .int .i64 x2.2.2.2.1, .slice A6 x2.2.2.2.2.1.length c7, .slice A9 x2.2.2.2.2.2.length c10]]) Try.func31 rfl Try.ntmps31 rfl rfl ?_
  refine nc_seq ?_
  refine nc ?_
  refine own_box H [.int .i64 x2.1, .int .i64 x2.2.1.1, .int .i64 x2.2.1.2, .int .i64 x2.2.2.1.1, .int .i64 x2.2.2.1.2, .int .i64 x2.2.2.2.1, .slice A6 x2.2.2.2.2.1.length c7, .slice A9 x2.2.2.2.2.2.length c10] rfl fun g13 w14 H => ?_
  refine nc_block ?_
  refine nc_seq ?_
  refine nc ?_
  refine own_load H 0 rfl (by kernel_rfl) (j := 5) rfl ?_
  refine own_load H 0 rfl (by kernel_rfl) (j := 7) rfl ?_
  obtain ⟨A15, c16, b17, al18, A19, c20, g21, a22, A23, c24, cs25, A26, c27, cs28, A29, c30, cs31⟩ := a0_
  replace H := H.openAs 3 (oU_member_Node g0_ ⟨A15, c16, b17, al18, A19, c20, g21, a22, A23, c24, cs25, A26, c27, cs28, A29, c30, cs31⟩ x0) rfl rfl
  try dsimp only [oU_member_Node, lastL, pickI, List.drop, List.take, List.set, List.eraseIdx, List.getElem?_cons_zero, List.getElem?_cons_succ, List.cons_append, List.nil_append, List.map] at H
  refine own_load H 0 rfl (by kernel_rfl) (j := 0) rfl ?_
  refine nc_cond rfl (fun hc40 => ?_) (fun hc40 => ?_)
  · replace h := condT hc40 h
    refine nc ?_
    replace H := (H.pickL [0, 1, 2, 3, 4, 5, 6, 7, 8, 9, 10, 11, 12, 13, 14, 15] rfl).shutAs 12 (oL_member_Node g0_ (A15, c16, b17, al18, A19, c20, g21, a22, A23, c24, cs25, A26, c27, cs28, A29, c30, cs31) x0) rfl
    try dsimp only [lastL, pickI, List.drop, List.take, List.set, List.eraseIdx, List.getElem?_cons_zero, List.getElem?_cons_succ, List.cons_append, List.nil_append, List.map] at H
    replace h := Option.some.inj h
    subst h
    exact ret_inA [] ⟨_, rfl, (A15, c16, b17, al18, A19, c20, g21, a22, A23, c24, cs25, A26, c27, cs28, A29, c30, cs31), rfl, (H.pickL [0, 4] rfl).tailOpen 1 rfl⟩
  · replace h := condF hc40 h
    refine nc_seq ?_
    refine nc ?_
    refine draw_rule [] (by kernel_rfl) (by kernel_rfl) H ?_
    refine c_loadA (m := 2) 12 rfl (by kernel_rfl) (by kernel_rfl) [.int .i64 x2.2.1.1, .int .i64 x2.2.1.2] rfl rfl ?_
    refine c_loadA (m := 2) 0 rfl (by kernel_rfl) (by kernel_rfl) [.int .i64 x0.view_.1.1, .int .i64 x0.view_.1.2] rfl rfl ?_
    refine c_eql ((x2.2.1.1 == x0.view_.1.1) && (x2.2.1.2 == x0.view_.1.2)) (fun _ => (by kernel_rfl)) (fun _ => (by kernel_rfl)) ?_
    intro w42 H
    refine nc_cond rfl (fun hc43 => ?_) (fun hc43 => ?_)
    · replace h := condT hc43 h
      replace H := (H.pickL [0, 1, 2, 3, 4, 5, 6, 7, 8, 9, 10, 11, 12, 13, 14, 15] rfl).shutAs 12 (oL_member_Node g0_ (A15, c16, b17, al18, A19, c20, g21, a22, A23, c24, cs25, A26, c27, cs28, A29, c30, cs31) x0) rfl
      try dsimp only [lastL, pickI, List.drop, List.take, List.set, List.eraseIdx, List.getElem?_cons_zero, List.getElem?_cons_succ, List.cons_append, List.nil_append, List.map] at H
      refine nc_cut (fun e w121 => ∃ (v120 : Bool), member_Node_cast.k1 x0 x1 x2 v120 = some r ∧ e = [(0, .pointer (some ⟨g0_, 0, none⟩)), (1, .int .i64 x1), (5, .pointer (some ⟨g13, 0, none⟩)), (57, .bool v120)] ∧ Eng.Own ok w0 w121 [box (oL_member_Node g0_ (A15, c16, b17, al18, A19, c20, g21, a22, A23, c24, cs25, A26, c27, cs28, A29, c30, cs31) x0), .blk g13 [.int .i64 x2.1, .int .i64 x2.2.1.1, .int .i64 x2.2.1.2, .int .i64 x2.2.2.1.1, .int .i64 x2.2.2.1.2, .int .i64 x2.2.2.2.1, .slice A6 x2.2.2.2.2.1.length c7, .slice A9 x2.2.2.2.2.2.length c10] 38, .dat (dSl (tInt .i64) (.slice A6 x2.2.2.2.2.1.length c7) x2.2.2.2.2.1), .dat (dSl tStr (.slice A9 x2.2.2.2.2.2.length c10) x2.2.2.2.2.2), box R]) ?_ ?_
      · skip
        replace H := H.openAs 0 (oU_member_Node g0_ ⟨A15, c16, b17, al18, A19, c20, g21, a22, A23, c24, cs25, A26, c27, cs28, A29, c30, cs31⟩ x0) rfl rfl
        try dsimp only [oU_member_Node, lastL, pickI, List.drop, List.take, List.set, List.eraseIdx, List.getElem?_cons_zero, List.getElem?_cons_succ, List.cons_append, List.nil_append, List.map] at H
        obtain ⟨y148, hy149, h⟩ := bindS h
        rcases Bool.eq_false_or_eq_true (!y148) with hg152 | hg152
        · replace h := condT hg152 h
          obtain ⟨y153, hy154, h⟩ := bindS h
          obtain ⟨A159, c160, hl161⟩ := H.rowPeek 3 rfl x1
          try dsimp only [lastL, pickI, List.drop, List.take, List.set, List.eraseIdx, List.getElem?_cons_zero, List.getElem?_cons_succ, List.cons_append, List.nil_append, List.map] at H
          refine nc ?_
          refine draw_rule [] (by kernel_rfl) (by kernel_rfl) H ?_
          refine c_callRd [0, 1, 2, 3, 4, 5, 6, 7, 8, 9, 10, 11, 12, 13, 14, 15] 12 (oL_member_Node g0_ (A15, c16, b17, al18, A19, c20, g21, a22, A23, c24, cs25, A26, c27, cs28, A29, c30, cs31) x0) (fun v X => v = .bool y148 ∧ X = []) rfl (by kernel_rfl) rfl rfl (fun _ H => Calls.mono (member_Node_Flushing_ok (x0 := x0) H hy149) fun e w' ⟨v, he, hv, H⟩ => ⟨v, he, _, ⟨hv, rfl⟩, H⟩) ?_
          rintro v150 X151 ⟨rfl, rfl⟩
          dsimp only [subLb, lastL, pickI, List.drop, List.take, List.set, List.eraseIdx, List.getElem?_cons_zero, List.getElem?_cons_succ, List.cons_append, List.nil_append, List.map]
          refine c_load 0 rfl (by kernel_rfl) (j := 3) rfl ?_
          refine c_call (.bool y153) (by kernel_rfl) (fun _ _ H => view_Has_ok (H.dat 1 rfl) hy154) ?_
          refine c_load 12 rfl (by kernel_rfl) (j := 5) rfl ?_
          refine c_load 0 rfl (by kernel_rfl) (j := 4) rfl ?_
          refine c_lookupV (kt := 3) (et := 36) (by kernel_rfl) (by kernel_rfl) key3 x1 2 rfl _ hl161 ?_
          intro w163 H
          dsimp only [lastL, pickI, List.drop, List.take, List.set, List.eraseIdx, List.getElem?_cons_zero, List.getElem?_cons_succ, List.cons_append, List.nil_append, List.map] at H
          replace H := (H.pickL [0, 1, 2, 3, 4, 5, 6, 7, 8, 9, 10, 11, 1, 12, 13, 14, 15] rfl).shutAs 12 (oL_member_Node g0_ (A15, c16, b17, al18, A19, c20, g21, a22, A23, c24, cs25, A26, c27, cs28, A29, c30, cs31) x0) rfl
          try dsimp only [lastL, pickI, List.drop, List.take, List.set, List.eraseIdx, List.getElem?_cons_zero, List.getElem?_cons_succ, List.cons_append, List.nil_append, List.map] at H
          exact cut_inA ⟨_, h, rfl, H.pickL [0, 2, 4, 3, 5] rfl⟩
        · replace h := condF hg152 h
          try dsimp only [lastL, pickI, List.drop, List.take, List.set, List.eraseIdx, List.getElem?_cons_zero, List.getElem?_cons_succ, List.cons_append, List.nil_append, List.map] at H
          refine nc ?_
          refine draw_rule [] (by kernel_rfl) (by kernel_rfl) H ?_
          refine c_callRd [0, 1, 2, 3, 4, 5, 6, 7, 8, 9, 10, 11, 12, 13, 14, 15] 12 (oL_member_Node g0_ (A15, c16, b17, al18, A19, c20, g21, a22, A23, c24, cs25, A26, c27, cs28, A29, c30, cs31) x0) (fun v X => v = .bool y148 ∧ X = []) rfl (by kernel_rfl) rfl rfl (fun _ H => Calls.mono (member_Node_Flushing_ok (x0 := x0) H hy149) fun e w' ⟨v, he, hv, H⟩ => ⟨v, he, _, ⟨hv, rfl⟩, H⟩) ?_
          rintro v150 X151 ⟨rfl, rfl⟩
          dsimp only [subLb, lastL, pickI, List.drop, List.take, List.set, List.eraseIdx, List.getElem?_cons_zero, List.getElem?_cons_succ, List.cons_append, List.nil_append, List.map]
          refine c_load 0 rfl (by kernel_rfl) (j := 3) rfl ?_
          refine c_skipCL (.bool false) (gF1 hg152) ?_
          refine c_skipLD (.int .i64 0) (gF1 (pickF hg152)) ?_
          refine c_skipLD (.map none) (gF1 (pickF hg152)) ?_
          refine c_skipLU (.slice none 0 0) (gF1 (pickF hg152)) ?_
          intro w164 H
          dsimp only [lastL, pickI, List.drop, List.take, List.set, List.eraseIdx, List.getElem?_cons_zero, List.getElem?_cons_succ, List.cons_append, List.nil_append, List.map] at H
          replace H := (H.pickL [0, 1, 2, 3, 4, 5, 6, 7, 8, 9, 10, 11, 1, 12, 13, 14, 15] rfl).shutAs 12 (oL_member_Node g0_ (A15, c16, b17, al18, A19, c20, g21, a22, A23, c24, cs25, A26, c27, cs28, A29, c30, cs31) x0) rfl
          try dsimp only [lastL, pickI, List.drop, List.take, List.set, List.eraseIdx, List.getElem?_cons_zero, List.getElem?_cons_succ, List.cons_append, List.nil_append, List.map] at H
          exact cut_inA ⟨_, h, rfl, H.pickL [0, 2, 4, 3, 5] rfl⟩
      · rintro _ w165 ⟨v120, h, rfl, H⟩
        unfold member_Node_cast.k1 at h
        refine nc_cond rfl (fun hc166 => ?_) (fun hc166 => ?_)
        · replace h := condT hc166 h
          refine nc ?_
          refine own_load H 1 rfl (by kernel_rfl) (j := 7) rfl ?_
          obtain ⟨y167, hx168, h⟩ := bindS h
          obtain ⟨a169, cs170, rfl, hR171, H⟩ := H.elemI 3 rfl hx168
          obtain rfl : cs170 = [.string (bs y167)] := hR171
          refine idxA_rule (e := 45) 1 _ (by kernel_rfl) (by kernel_rfl) (idxL_some hx168).1 (idxL_some hx168).2.1 ?_
          refine own_loadD H 0 rfl 0 (by kernel_rfl) rfl ?_
          replace H := H.pickL [1, 0, 2, 3, 4, 5] rfl
          try dsimp only [lastL, pickI, List.drop, List.take, List.set, List.eraseIdx, List.getElem?_cons_zero, List.getElem?_cons_succ, List.cons_append, List.nil_append, List.map] at H
          obtain ⟨y173, hy174, h⟩ := bindS h
          refine call_rule (by kernel_rfl) (member_Node_deliver_ok (x0 := x0) H hy174) fun v177 w176 ⟨a175, hv178, H⟩ => ?_
          subst hv178
          replace h := Option.some.inj h
          subst h
          exact ret_inA [] ⟨_, rfl, a175, rfl, (H.pickL [0, 5] rfl).tailOpen 1 rfl⟩
        · replace h := condF hc166 h
          refine nc ?_
          replace h := Option.some.inj h
          subst h
          exact ret_inA [] ⟨_, rfl, (A15, c16, b17, al18, A19, c20, g21, a22, A23, c24, cs25, A26, c27, cs28, A29, c30, cs31), rfl, (H.pickL [0, 4] rfl).tailOpen 1 rfl⟩
    · replace h := condF hc43 h
      refine nc_seq ?_
      obtain ⟨y186, hy187, h⟩ := bindS h
      refine nc ?_
      refine draw_rule [] (by kernel_rfl) (by kernel_rfl) H ?_
      refine c_loadA (m := 2) 0 rfl (by kernel_rfl) (by kernel_rfl) [.int .i64 x0.view_.1.1, .int .i64 x0.view_.1.2] rfl rfl ?_
      refine c_loadA (m := 2) 12 rfl (by kernel_rfl) (by kernel_rfl) [.int .i64 x2.2.1.1, .int .i64 x2.2.1.2] rfl rfl ?_
      refine c_call (.bool y186) (by kernel_rfl) (fun _ _ H => view_Less_ok (x0 := x0.view_.1) (x1 := x2.2.1) hy187) ?_
      refine c_load 0 rfl (by kernel_rfl) (j := 11) rfl ?_
      intro w192 H
      refine nc_cond rfl (fun hc193 => ?_) (fun hc193 => ?_)
      · replace h := condT hc193 h
        obtain ⟨hr209, h⟩ := roomS h
        refine nc ?_
        refine draw_rule [] (by kernel_rfl) (by kernel_rfl) H ?_
        refine c_load 0 rfl (by kernel_rfl) (j := 11) rfl ?_
        refine c_loadA (m := 8) 12 rfl (by kernel_rfl) (by kernel_rfl) [.int .i64 x2.1, .int .i64 x2.2.1.1, .int .i64 x2.2.1.2, .int .i64 x2.2.2.1.1, .int .i64 x2.2.2.1.2, .int .i64 x2.2.2.2.1, .slice A6 x2.2.2.2.2.1.length c7, .slice A9 x2.2.2.2.2.2.length c10] rfl rfl ?_
        refine c_buildSlice (e := 101) (sz := 9) (z := .agg #[.int .i64 0, .int .i64 0, .int .i64 0, .int .i64 0, .int .i64 0, .int .i64 0, .int .i64 0, .slice none 0 0, .slice none 0 0]) (cs := [.int .i64 x1, .int .i64 x2.1, .int .i64 x2.2.1.1, .int .i64 x2.2.1.2, .int .i64 x2.2.2.1.1, .int .i64 x2.2.2.1.2, .int .i64 x2.2.2.2.1, .slice A6 x2.2.2.2.2.1.length c7, .slice A9 x2.2.2.2.2.2.length c10]) (by kernel_rfl) (by kernel_rfl) (by kernel_rfl) rfl rfl rfl rfl ?_
        intro g207
        refine c_append1S (k := t_member_cast) (z := .agg #[.int .i64 0, .int .i64 0, .int .i64 0, .int .i64 0, .int .i64 0, .int .i64 0, .int .i64 0, .slice none 0 0, .slice none 0 0]) (x := (x1, x2)) 104 7 6 rfl rfl rfl (fun _ H => (member_cast_in (x := (x1, x2)) (H.dat 15 rfl) (H.dat 14 rfl))) (by kernel_rfl) (by kernel_rfl) rfl rfl hr209 rfl ?_
        intro A213 c214 cs211
        refine c_storeB (m := 1) 0 rfl (by kernel_rfl) [.slice A213 (x0.early_ ++ [(x1, x2)]).length c214] rfl rfl rfl rfl ?_
        intro w217 H
        replace H := (H.pickL [0, 1, 2, 3, 4, 5, 6, 7, 8, 9, 10, 11, 12, 13, 14, 15] rfl).shutAs 12 (oL_member_Node g0_ (A15, c16, b17, al18, A19, c20, g21, a22, A213, c214, cs211, A26, c27, cs28, A29, c30, cs31) ({ x0 with early_ := (x0.early_ ++ [(x1, x2)]) : O_member_Node })) rfl
        try dsimp only [lastL, pickI, List.drop, List.take, List.set, List.eraseIdx, List.getElem?_cons_zero, List.getElem?_cons_succ, List.cons_append, List.nil_append, List.map] at H
        replace h := Option.some.inj h
        subst h
        exact ret_inA [] ⟨_, rfl, (A15, c16, b17, al18, A19, c20, g21, a22, A213, c214, cs211, A26, c27, cs28, A29, c30, cs31), rfl, (H.pickL [0, 4] rfl).tailOpen 1 rfl⟩
      · replace h := condF hc193 h
        refine nc ?_
        replace H := (H.pickL [0, 1, 2, 3, 4, 5, 6, 7, 8, 9, 10, 11, 12, 13, 14, 15] rfl).shutAs 12 (oL_member_Node g0_ (A15, c16, b17, al18, A19, c20, g21, a22, A23, c24, cs25, A26, c27, cs28, A29, c30, cs31) x0) rfl
        try dsimp only [lastL, pickI, List.drop, List.take, List.set, List.eraseIdx, List.getElem?_cons_zero, List.getElem?_cons_succ, List.cons_append, List.nil_append, List.map] at H
        replace h := Option.some.inj h
        subst h
        exact ret_inA [] ⟨_, rfl, (A15, c16, b17, al18, A19, c20, g21, a22, A23, c24, cs25, A26, c27, cs28, A29, c30, cs31), rfl, (H.pickL [0, 4] rfl).tailOpen 1 rfl⟩
end Go.Proofs.Ytipoblinefamgaa.G
