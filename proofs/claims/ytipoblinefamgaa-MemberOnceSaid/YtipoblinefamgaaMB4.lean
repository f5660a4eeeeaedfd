/- Walks, printed by a program of this proof's own. -/
import Derived.Test.YtipoblinefamgaaMB3
import Derived.KernelRfl
namespace Go.Proofs.Ytipoblinefamgaa.G
open Go.RowKit Go.Eng Go.Proofs
set_option linter.unusedVariables false
set_option maxRecDepth 20000
/-! (*gemot/member.Node).Cast -/
noncomputable def member_Node_Cast.f (x0 : O_member_Node) (x1 : List UInt8) : Option ((List D_member_Out) × (List D_member_Event) × Int × O_member_Node) := (member_Node_Flushing.f x0).bind fun y2 => cond y2 (some (([] : List D_member_Out), ([] : List D_member_Event), (9 : Int), x0)) (cond ((((getA x0.me_ x0.rows_).getD []).length : Int) == (32 : Int)) (some (([] : List D_member_Out), ([] : List D_member_Event), (10 : Int), x0)) ((term_Right.f x1).bind fun y48 => cond (!y48) (some (([] : List D_member_Out), ([] : List D_member_Event), (1 : Int), x0)) ((member_Node_deliver.f x0 x0.me_ x1).bind fun y57 => (member_Node_tell.f y57 y57.view_.2 ((6 : Int), y57.view_.1, ((0 : Int), (0 : Int)), (((getA y57.me_ y57.rows_).getD []).length : Int), ([] : List Int), ([x1] : List (List UInt8)))).bind fun y110 => (member_Node_took.f y110).bind fun y116 => some (y116.1, y116.2.1, (0 : Int), y116.2.2))))
set_option maxHeartbeats 8000000 in
theorem member_Node_Cast_ok {ok : Nat → Prop} {w0 w : World} {R : List Eng.Item} {g0_ : Nat} {a0_ : A_member_Node} {x0 : O_member_Node} {x1 : List UInt8} {r : (List D_member_Out) × (List D_member_Event) × Int × O_member_Node} (H : Eng.Own ok w0 w (box (oL_member_Node g0_ a0_ x0) :: R)) (h : member_Node_Cast.f x0 x1 = some r) :
    Calls Try.prog 16 #[.pointer (some ⟨g0_, 0, none⟩), .string (bs x1)] w fun e w' => ∃ v, e = .returned v ∧ ∃ (A1' : Option Addr) (c2' : Nat) (cs3' : List Value) (A4' : Option Addr) (c5' : Nat) (cs6' : List Value) (a7' : A_member_Node), v = .tuple #[.slice A1' r.1.length c2', .slice A4' r.2.1.length c5', .int .i64 r.2.2.1] ∧ Eng.Own ok w0 w' (.dat (dRows t_member_Out r.1 cs3') :: .row (.slice A1' r.1.length c2') 40 9 r.1.length cs3' :: .dat (dRows t_member_Event r.2.1 cs6') :: .row (.slice A4' r.2.1.length c5') 51 7 r.2.1.length cs6' :: box (oL_member_Node g0_ a7' r.2.2.2) :: R) := by
  replace H := H.tailBox 1
  unfold member_Node_Cast.f at h
  refine enterN (args := [.pointer (some ⟨g0_, 0, none⟩), .string (bs x1)]) Try.func16 rfl Try.ntmps16 rfl rfl ?_
  refine nc_seq ?_
  refine nc ?_
  refine nc_seq ?_
  refine nc_block ?_
  refine nc_seq ?_
  refine nc ?_
  obtain ⟨y2, hy3, h⟩ := bindS h
  refine call_rule (by kernel_rfl) (member_Node_Flushing_ok (x0 := x0) H hy3) fun v5 w4 ⟨hv6, H⟩ => ?_
  subst hv6
  refine nc_cond rfl (fun hc7 => ?_) (fun hc7 => ?_)
  · replace h := condT hc7 h
    refine nc_seq ?_
    refine nc ?_
    refine nc ?_
    replace H := H.nilRowD t_member_Out 40
    replace H := H.nilRowD t_member_Event 51
    replace h := Option.some.inj h
    subst h
    exact ret_inA [.slice none 0 0, .slice none 0 0, .int .i64 9] ⟨_, rfl, none, 0, [], none, 0, [], a0_, rfl, (H.pickL [2, 3, 0, 1, 4, 5] rfl).tailOpen 5 rfl⟩
  · replace h := condF hc7 h
    refine nc_seq ?_
    obtain ⟨A10, c11, b12, al13, A14, c15, g16, a17, A18, c19, cs20, A21, c22, cs23, A24, c25, cs26⟩ := a0_
    replace H := H.openAs 0 (oU_member_Node g0_ ⟨A10, c11, b12, al13, A14, c15, g16, a17, A18, c19, cs20, A21, c22, cs23, A24, c25, cs26⟩ x0) rfl rfl
    try dsimp only [oU_member_Node, lastL, pickI, List.drop, List.take, List.set, List.eraseIdx, List.getElem?_cons_zero, List.getElem?_cons_succ, List.cons_append, List.nil_append, List.map] at H
    obtain ⟨A40, c41, hl42⟩ := H.rowPeek 3 rfl x0.me_
    refine nc ?_
    refine draw_rule [] (by kernel_rfl) (by kernel_rfl) H ?_
    refine c_load 0 rfl (by kernel_rfl) (j := 4) rfl ?_
    refine c_load 0 rfl (by kernel_rfl) (j := 0) rfl ?_
    refine c_lookupV (kt := 3) (et := 36) (by kernel_rfl) (by kernel_rfl) key3 x0.me_ 2 rfl _ hl42 ?_
    intro w44 H
    refine nc_cond rfl (fun hc45 => ?_) (fun hc45 => ?_)
    · replace h := condT hc45 h
      refine nc_seq ?_
      refine nc ?_
      refine nc ?_
      replace H := (H.pickL [0, 1, 2, 3, 4, 5, 6, 7, 8, 9, 10, 11, 12] rfl).shutAs 12 (oL_member_Node g0_ (A10, c11, b12, al13, A14, c15, g16, a17, A18, c19, cs20, A21, c22, cs23, A24, c25, cs26) x0) rfl
      try dsimp only [lastL, pickI, List.drop, List.take, List.set, List.eraseIdx, List.getElem?_cons_zero, List.getElem?_cons_succ, List.cons_append, List.nil_append, List.map] at H
      replace H := H.nilRowD t_member_Out 40
      replace H := H.nilRowD t_member_Event 51
      replace h := Option.some.inj h
      subst h
      exact ret_inA [.slice none 0 0, .slice none 0 0, .int .i64 10] ⟨_, rfl, none, 0, [], none, 0, [], (A10, c11, b12, al13, A14, c15, g16, a17, A18, c19, cs20, A21, c22, cs23, A24, c25, cs26), rfl, (H.pickL [2, 3, 0, 1, 4, 5] rfl).tailOpen 5 rfl⟩
    · replace h := condF hc45 h
      refine nc_seq ?_
      refine nc ?_
      obtain ⟨y48, hy49, h⟩ := bindS h
      refine call_rule (by kernel_rfl) (term_Right_ok (ok := fun _ => False) hy49) fun v51 w50 ⟨hv52, hb53⟩ => ?_
      subst hv52
      replace H := H.call hb53
      refine nc_cond rfl (fun hc54 => ?_) (fun hc54 => ?_)
      · replace h := condT hc54 h
        refine nc_seq ?_
        refine nc ?_
        refine nc ?_
        replace H := (H.pickL [0, 1, 2, 3, 4, 5, 6, 7, 8, 9, 10, 11, 12] rfl).shutAs 12 (oL_member_Node g0_ (A10, c11, b12, al13, A14, c15, g16, a17, A18, c19, cs20, A21, c22, cs23, A24, c25, cs26) x0) rfl
        try dsimp only [lastL, pickI, List.drop, List.take, List.set, List.eraseIdx, List.getElem?_cons_zero, List.getElem?_cons_succ, List.cons_append, List.nil_append, List.map] at H
        replace H := H.nilRowD t_member_Out 40
        replace H := H.nilRowD t_member_Event 51
        replace h := Option.some.inj h
        subst h
        exact ret_inA [.slice none 0 0, .slice none 0 0, .int .i64 1] ⟨_, rfl, none, 0, [], none, 0, [], (A10, c11, b12, al13, A14, c15, g16, a17, A18, c19, cs20, A21, c22, cs23, A24, c25, cs26), rfl, (H.pickL [2, 3, 0, 1, 4, 5] rfl).tailOpen 5 rfl⟩
      · replace h := condF hc54 h
        refine nc ?_
        refine nc_seq ?_
        refine nc ?_
        refine own_load H 0 rfl (by kernel_rfl) (j := 0) rfl ?_
        replace H := (H.pickL [0, 1, 2, 3, 4, 5, 6, 7, 8, 9, 10, 11, 12] rfl).shutAs 12 (oL_member_Node g0_ (A10, c11, b12, al13, A14, c15, g16, a17, A18, c19, cs20, A21, c22, cs23, A24, c25, cs26) x0) rfl
        try dsimp only [lastL, pickI, List.drop, List.take, List.set, List.eraseIdx, List.getElem?_cons_zero, List.getElem?_cons_succ, List.cons_append, List.nil_append, List.map] at H
        obtain ⟨y57, hy58, h⟩ := bindS h
        refine call_rule (by kernel_rfl) (member_Node_deliver_ok (x0 := x0) H hy58) fun v61 w60 ⟨a59, hv62, H⟩ => ?_
        subst hv62
        refine nc_seq ?_
        obtain ⟨A63, c64, b65, al66, A67, c68, g69, a70, A71, c72, cs73, A74, c75, cs76, A77, c78, cs79⟩ := a59
        replace H := H.openAs 0 (oU_member_Node g0_ ⟨A63, c64, b65, al66, A67, c68, g69, a70, A71, c72, cs73, A74, c75, cs76, A77, c78, cs79⟩ y57) rfl rfl
        try dsimp only [oU_member_Node, lastL, pickI, List.drop, List.take, List.set, List.eraseIdx, List.getElem?_cons_zero, List.getElem?_cons_succ, List.cons_append, List.nil_append, List.map] at H
        obtain ⟨A102, c103, hl104⟩ := H.rowPeek 3 rfl y57.me_
        obtain ⟨y110, hy111, h⟩ := bindS h
        try dsimp only [lastL, pickI, List.drop, List.take, List.set, List.eraseIdx, List.getElem?_cons_zero, List.getElem?_cons_succ, List.cons_append, List.nil_append, List.map] at H
        refine nc ?_
        refine draw_rule [] (by kernel_rfl) (by kernel_rfl) H ?_
        refine c_load 0 rfl (by kernel_rfl) (j := 3) rfl ?_
        refine c_loadA (m := 2) 0 rfl (by kernel_rfl) (by kernel_rfl) [.int .i64 y57.view_.1.1, .int .i64 y57.view_.1.2] rfl rfl ?_
        refine c_load 0 rfl (by kernel_rfl) (j := 4) rfl ?_
        refine c_load 0 rfl (by kernel_rfl) (j := 0) rfl ?_
        refine c_lookupV (kt := 3) (et := 36) (by kernel_rfl) (by kernel_rfl) key3 y57.me_ 2 rfl _ hl104 ?_
        refine c_buildData (k := tStr) (e := 45) (z := .string ⟨#[]⟩) [.string (bs x1)] [x1] (by kernel_rfl) (by kernel_rfl) (by kernel_rfl) rfl rfl rfl rfl rfl rfl (by decide) (fun _ _ H => ⟨_, _, rfl, rfl, rfl⟩) ?_
        intro g107
        refine c_callM [1, 2, 3, 4, 5, 6, 7, 8, 9, 10, 11, 12, 2, 0, 13] 12 (fun v X => ∃ a112, v = .tuple #[] ∧ X = [box (oL_member_Node g0_ a112 y110)]) rfl (by kernel_rfl) (by kernel_rfl) rfl (fun _ H => by
          replace H := H.shutAs 12 (oL_member_Node g0_ (A63, c64, b65, al66, A67, c68, g69, a70, A71, c72, cs73, A74, c75, cs76, A77, c78, cs79) y57) rfl
          exact Calls.mono (member_Node_tell_ok (x0 := y57) (x2 := ((6 : Int), y57.view_.1, ((0 : Int), (0 : Int)), (((getA y57.me_ y57.rows_).getD []).length : Int), ([] : List Int), ([x1] : List (List UInt8)))) H (H.dat 1 rfl) nilR (H.dat 2 rfl) hy111) fun e w' ⟨v, he, a112, hv, H⟩ => ⟨v, he, _, ⟨a112, hv, rfl⟩, H⟩) ?_
        rintro v113 X114 ⟨a112, rfl, rfl⟩
        dsimp only [subLb, lastL, pickI, List.drop, List.take, List.set, List.eraseIdx, List.getElem?_cons_zero, List.getElem?_cons_succ, List.cons_append, List.nil_append, List.map]
        intro w115 H
        dsimp only [lastL, pickI, List.drop, List.take, List.set, List.eraseIdx, List.getElem?_cons_zero, List.getElem?_cons_succ, List.cons_append, List.nil_append, List.map] at H
        refine nc_seq ?_
        refine nc ?_
        obtain ⟨y116, hy117, h⟩ := bindS h
        refine call_rule (by kernel_rfl) (member_Node_took_ok (x0 := y110) H hy117) fun v128 w127 ⟨A118, c119, cs120, A122, c123, cs124, a126, hv129, H⟩ => ?_
        subst hv129
        refine nc_seq ?_
        refine nc ?_
        refine nc ?_
        replace h := Option.some.inj h
        subst h
        exact ret_inA [.slice A118 y116.1.length c119, .slice A122 y116.2.1.length c123, .int .i64 0] ⟨_, rfl, A118, c119, cs120, A122, c123, cs124, a126, rfl, (H.pickL [0, 1, 2, 3, 4, 7] rfl).tailOpen 5 rfl⟩
/-! (*gemot/member.Node).propose -/
noncomputable def member_Node_propose.k1 (x1 : Int) (x2 : D_list_Message) (v557 : O_member_Node) : Option (O_member_Node) := (member_Node_Logs.f v557).bind fun y586 => (cut_Put.f y586).bind fun y596 => cond (y596.2 == (0 : Int)) ((member_Node_send.f v557 x1 ((4 : Int), x2.2.1, v557.view_.1, (0 : Int), ([] : List Int), y596.1)).bind fun y640 => some y640) (some v557)
noncomputable def member_Node_propose.k2 (x0 : O_member_Node) (x1 : Int) (x2 : D_list_Message) (v341 : Bool) : Option (O_member_Node) := cond v341 (some x0) ((slices_Clone_int_int.f x2.2.2.2.2.1).bind fun y499 => (view_Less.f ((({ x0 with promised_ := ((x2.2.1.1, x2.2.1.2), y499), seen_ := (x0.seen_.1, x0.seen_.2), plan_ := none, early_ := x0.early_, outs_ := x0.outs_, events_ := x0.events_ : O_member_Node }).seen_).1, (({ x0 with promised_ := ((x2.2.1.1, x2.2.1.2), y499), seen_ := (x0.seen_.1, x0.seen_.2), plan_ := none, early_ := x0.early_, outs_ := x0.outs_, events_ := x0.events_ : O_member_Node }).seen_).2) x2.2.1).bind fun y576 => cond y576 (member_Node_propose.k1 x1 x2 ({ { x0 with promised_ := ((x2.2.1.1, x2.2.1.2), y499), seen_ := (x0.seen_.1, x0.seen_.2), plan_ := none, early_ := x0.early_, outs_ := x0.outs_, events_ := x0.events_ : O_member_Node } with seen_ := (x2.2.1.1, x2.2.1.2), plan_ := ({ x0 with promised_ := ((x2.2.1.1, x2.2.1.2), y499), seen_ := (x0.seen_.1, x0.seen_.2), plan_ := none, early_ := x0.early_, outs_ := x0.outs_, events_ := x0.events_ : O_member_Node }).plan_, early_ := ({ x0 with promised_ := ((x2.2.1.1, x2.2.1.2), y499), seen_ := (x0.seen_.1, x0.seen_.2), plan_ := none, early_ := x0.early_, outs_ := x0.outs_, events_ := x0.events_ : O_member_Node }).early_, outs_ := ({ x0 with promised_ := ((x2.2.1.1, x2.2.1.2), y499), seen_ := (x0.seen_.1, x0.seen_.2), plan_ := none, early_ := x0.early_, outs_ := x0.outs_, events_ := x0.events_ : O_member_Node }).outs_, events_ := ({ x0 with promised_ := ((x2.2.1.1, x2.2.1.2), y499), seen_ := (x0.seen_.1, x0.seen_.2), plan_ := none, early_ := x0.early_, outs_ := x0.outs_, events_ := x0.events_ : O_member_Node }).events_ : O_member_Node })) (member_Node_propose.k1 x1 x2 ({ x0 with promised_ := ((x2.2.1.1, x2.2.1.2), y499), seen_ := (x0.seen_.1, x0.seen_.2), plan_ := none, early_ := x0.early_, outs_ := x0.outs_, events_ := x0.events_ : O_member_Node })))
noncomputable def member_Node_propose.f (x0 : O_member_Node) (x1 : Int) (x2 : D_list_Message) : Option (O_member_Node) := cond (x1 != x2.2.1.2) (member_Node_propose.k2 x0 x1 x2 (cond (cond (cond (cond (cond (x1 != x2.2.1.2) true (!false)) true (!false)) true (!false)) true (!false)) true (decide ((0 : Int) > (2147483646 : Int))))) ((view_Row.f x2.2.2.2.2.1).bind fun y420 => cond (!y420) (member_Node_propose.k2 x0 x1 x2 (cond (cond (cond (cond (cond (x1 != x2.2.1.2) true (!y420)) true (!false)) true (!false)) true (!false)) true (decide ((0 : Int) > (2147483646 : Int))))) ((view_Has.f x2.2.2.2.2.1 x1).bind fun y428 => cond (!y428) (member_Node_propose.k2 x0 x1 x2 (cond (cond (cond (cond (cond (x1 != x2.2.1.2) true (!y420)) true (!y428)) true (!false)) true (!false)) true (decide ((0 : Int) > (2147483646 : Int))))) ((view_Has.f x2.2.2.2.2.1 x0.me_).bind fun y436 => cond (!y436) (member_Node_propose.k2 x0 x1 x2 (cond (cond (cond (cond (cond (x1 != x2.2.1.2) true (!y420)) true (!y428)) true (!y436)) true (!false)) true (decide ((0 : Int) > (2147483646 : Int))))) ((view_Less.f x0.promised_.1 x2.2.1).bind fun y444 => member_Node_propose.k2 x0 x1 x2 (cond (cond (cond (cond (cond (x1 != x2.2.1.2) true (!y420)) true (!y428)) true (!y436)) true (!y444)) true (decide (x2.2.1.1 > (2147483646 : Int))))))))
set_option maxHeartbeats 8000000 in
theorem member_Node_propose_ok {ok : Nat → Prop} {w0 w : World} {R : List Eng.Item} {g0_ : Nat} {a0_ : A_member_Node} {u2 : Value} {u4 : Value} {x0 : O_member_Node} {x1 : Int} {x2 : D_list_Message} {r : O_member_Node} (H : Eng.Own ok w0 w (box (oL_member_Node g0_ a0_ x0) :: R)) (hu3 : slR (tInt .i64) w (okOf ok w0 (box (oL_member_Node g0_ a0_ x0) :: R)) u2 x2.2.2.2.2.1) (hu5 : slR tStr w (okOf ok w0 (box (oL_member_Node g0_ a0_ x0) :: R)) u4 x2.2.2.2.2.2) (h : member_Node_propose.f x0 x1 x2 = some r) :
    Calls Try.prog 28 #[.pointer (some ⟨g0_, 0, none⟩), .int .i64 x1, .agg #[.int .i64 x2.1, .int .i64 x2.2.1.1, .int .i64 x2.2.1.2, .int .i64 x2.2.2.1.1, .int .i64 x2.2.2.1.2, .int .i64 x2.2.2.2.1, u2, u4]] w fun e w' => ∃ v, e = .returned v ∧ ∃ (a1' : A_member_Node), v = .tuple #[] ∧ Eng.Own ok w0 w' (box (oL_member_Node g0_ a1' r) :: R) := by
  obtain ⟨A6, c7, rfl, H⟩ := H.openD hu3
  obtain ⟨A9, c10, rfl, H⟩ := H.openD hu5
  replace H := H.tailBox 3
  unfold member_Node_propose.f at h
  refine enterN (args := [.pointer (some ⟨g0_, 0, none⟩), .int .i64 x1, .agg #[.int .i64 x2.1, .int .i64 x2.2.1.1, .int .i64 x2.2.1.2, .int .i64 x2.2.2.1.1, .int .i64 x2.2.2.1.2, .int .i64 x2.2.2.2.1, .slice A6 x2.2.2.2.2.1.length c7, .slice A9 x2.2.2.2.2.2.length c10]]) Try.func28 rfl Try.ntmps28 rfl rfl ?_
  refine nc_seq ?_
  refine nc ?_
  refine own_box H [.int .i64 x2.1, .int .i64 x2.2.1.1, .int .i64 x2.2.1.2, .int .i64 x2.2.2.1.1, .int .i64 x2.2.2.1.2, .int .i64 x2.2.2.2.1, .slice A6 x2.2.2.2.2.1.length c7, .slice A9 x2.2.2.2.2.2.length c10] rfl fun g13 w14 H => ?_
  refine nc_seq ?_
  refine nc_cut (fun e w342 => ∃ (v341 : Bool), member_Node_propose.k2 x0 x1 x2 v341 = some r ∧ e = [(0, .pointer (some ⟨g0_, 0, none⟩)), (1, .int .i64 x1), (5, .pointer (some ⟨g13, 0, none⟩)), (52, .bool v341)] ∧ Eng.Own ok w0 w342 [box (oL_member_Node g0_ a0_ x0), .blk g13 [.int .i64 x2.1, .int .i64 x2.2.1.1, .int .i64 x2.2.1.2, .int .i64 x2.2.2.1.1, .int .i64 x2.2.2.1.2, .int .i64 x2.2.2.2.1, .slice A6 x2.2.2.2.2.1.length c7, .slice A9 x2.2.2.2.2.2.length c10] 38, .dat (dSl (tInt .i64) (.slice A6 x2.2.2.2.2.1.length c7) x2.2.2.2.2.1), .dat (dSl tStr (.slice A9 x2.2.2.2.2.2.length c10) x2.2.2.2.2.2), box R]) ?_ ?_
  · skip
    obtain ⟨A360, c361, b362, al363, A364, c365, g366, a367, A368, c369, cs370, A371, c372, cs373, A374, c375, cs376⟩ := a0_
    replace H := H.openAs 3 (oU_member_Node g0_ ⟨A360, c361, b362, al363, A364, c365, g366, a367, A368, c369, cs370, A371, c372, cs373, A374, c375, cs376⟩ x0) rfl rfl
    try dsimp only [oU_member_Node, lastL, pickI, List.drop, List.take, List.set, List.eraseIdx, List.getElem?_cons_zero, List.getElem?_cons_succ, List.cons_append, List.nil_append, List.map] at H
    rcases Bool.eq_false_or_eq_true (x1 != x2.2.1.2) with hg418 | hg418
    · replace h := condT hg418 h
      refine nc ?_
      refine draw_rule [] (by kernel_rfl) (by kernel_rfl) H ?_
      refine c_load 12 rfl (by kernel_rfl) (j := 2) rfl ?_
      refine c_load 12 rfl (by kernel_rfl) (j := 6) rfl ?_
      refine c_skipCL (.bool false) (gF0 hg418) ?_
      refine c_skipLD (.slice none 0 0) (gF0 (pickT hg418)) ?_
      refine c_skipCL (.bool false) (gF0 (pickT hg418)) ?_
      refine c_skipLD (.slice none 0 0) (gF0 (pickT (pickT hg418))) ?_
      refine c_skipLD (.int .i64 0) (gF0 (pickT (pickT hg418))) ?_
      refine c_skipCL (.bool false) (gF0 (pickT (pickT hg418))) ?_
      refine c_skipLD (.agg #[.int .i64 0, .int .i64 0]) (gF0 (pickT (pickT (pickT hg418)))) ?_
      refine c_skipLD (.agg #[.int .i64 0, .int .i64 0]) (gF0 (pickT (pickT (pickT hg418)))) ?_
      refine c_skipCL (.bool false) (gF0 (pickT (pickT (pickT hg418)))) ?_
      refine c_skipLD (.int .i64 0) (gF0 (pickT (pickT (pickT (pickT hg418))))) ?_
      intro w419 H
      replace H := (H.pickL [0, 1, 2, 3, 4, 5, 6, 7, 8, 9, 10, 11, 12, 13, 14, 15] rfl).shutAs 12 (oL_member_Node g0_ (A360, c361, b362, al363, A364, c365, g366, a367, A368, c369, cs370, A371, c372, cs373, A374, c375, cs376) x0) rfl
      try dsimp only [lastL, pickI, List.drop, List.take, List.set, List.eraseIdx, List.getElem?_cons_zero, List.getElem?_cons_succ, List.cons_append, List.nil_append, List.map] at H
      exact cut_inA ⟨_, h, rfl, H.pickL [0, 1, 3, 2, 4] rfl⟩
    · replace h := condF hg418 h
      obtain ⟨y420, hy421, h⟩ := bindS h
      rcases Bool.eq_false_or_eq_true (!y420) with hg426 | hg426
      · replace h := condT hg426 h
        refine nc ?_
        refine draw_rule [] (by kernel_rfl) (by kernel_rfl) H ?_
        refine c_load 12 rfl (by kernel_rfl) (j := 2) rfl ?_
        refine c_load 12 rfl (by kernel_rfl) (j := 6) rfl ?_
        refine c_call (.bool y420) (by kernel_rfl) (fun _ _ H => view_Row_ok (H.dat 14 rfl) hy421) ?_
        refine c_load 12 rfl (by kernel_rfl) (j := 6) rfl ?_
        refine c_skipCL (.bool false) (gF0 ((pickF hg418).trans hg426)) ?_
        refine c_skipLD (.slice none 0 0) (gF0 (pickT ((pickF hg418).trans hg426))) ?_
        refine c_skipLD (.int .i64 0) (gF0 (pickT ((pickF hg418).trans hg426))) ?_
        refine c_skipCL (.bool false) (gF0 (pickT ((pickF hg418).trans hg426))) ?_
        refine c_skipLD (.agg #[.int .i64 0, .int .i64 0]) (gF0 (pickT (pickT ((pickF hg418).trans hg426)))) ?_
        refine c_skipLD (.agg #[.int .i64 0, .int .i64 0]) (gF0 (pickT (pickT ((pickF hg418).trans hg426)))) ?_
        refine c_skipCL (.bool false) (gF0 (pickT (pickT ((pickF hg418).trans hg426)))) ?_
        refine c_skipLD (.int .i64 0) (gF0 (pickT (pickT (pickT ((pickF hg418).trans hg426))))) ?_
        intro w427 H
        replace H := (H.pickL [0, 1, 2, 3, 4, 5, 6, 7, 8, 9, 10, 11, 12, 13, 14, 15] rfl).shutAs 12 (oL_member_Node g0_ (A360, c361, b362, al363, A364, c365, g366, a367, A368, c369, cs370, A371, c372, cs373, A374, c375, cs376) x0) rfl
        try dsimp only [lastL, pickI, List.drop, List.take, List.set, List.eraseIdx, List.getElem?_cons_zero, List.getElem?_cons_succ, List.cons_append, List.nil_append, List.map] at H
        exact cut_inA ⟨_, h, rfl, H.pickL [0, 1, 3, 2, 4] rfl⟩
      · replace h := condF hg426 h
        obtain ⟨y428, hy429, h⟩ := bindS h
        rcases Bool.eq_false_or_eq_true (!y428) with hg434 | hg434
        · replace h := condT hg434 h
          refine nc ?_
          refine draw_rule [] (by kernel_rfl) (by kernel_rfl) H ?_
          refine c_load 12 rfl (by kernel_rfl) (j := 2) rfl ?_
          refine c_load 12 rfl (by kernel_rfl) (j := 6) rfl ?_
          refine c_call (.bool y420) (by kernel_rfl) (fun _ _ H => view_Row_ok (H.dat 14 rfl) hy421) ?_
          refine c_load 12 rfl (by kernel_rfl) (j := 6) rfl ?_
          refine c_call (.bool y428) (by kernel_rfl) (fun _ _ H => view_Has_ok (H.dat 14 rfl) hy429) ?_
          refine c_load 12 rfl (by kernel_rfl) (j := 6) rfl ?_
          refine c_load 0 rfl (by kernel_rfl) (j := 0) rfl ?_
          refine c_skipCL (.bool false) (gF0 ((pickF ((pickF hg418).trans hg426)).trans hg434)) ?_
          refine c_skipLD (.agg #[.int .i64 0, .int .i64 0]) (gF0 (pickT ((pickF ((pickF hg418).trans hg426)).trans hg434))) ?_
          refine c_skipLD (.agg #[.int .i64 0, .int .i64 0]) (gF0 (pickT ((pickF ((pickF hg418).trans hg426)).trans hg434))) ?_
          refine c_skipCL (.bool false) (gF0 (pickT ((pickF ((pickF hg418).trans hg426)).trans hg434))) ?_
          refine c_skipLD (.int .i64 0) (gF0 (pickT (pickT ((pickF ((pickF hg418).trans hg426)).trans hg434)))) ?_
          intro w435 H
          replace H := (H.pickL [0, 1, 2, 3, 4, 5, 6, 7, 8, 9, 10, 11, 12, 13, 14, 15] rfl).shutAs 12 (oL_member_Node g0_ (A360, c361, b362, al363, A364, c365, g366, a367, A368, c369, cs370, A371, c372, cs373, A374, c375, cs376) x0) rfl
          try dsimp only [lastL, pickI, List.drop, List.take, List.set, List.eraseIdx, List.getElem?_cons_zero, List.getElem?_cons_succ, List.cons_append, List.nil_append, List.map] at H
          exact cut_inA ⟨_, h, rfl, H.pickL [0, 1, 3, 2, 4] rfl⟩
        · replace h := condF hg434 h
          obtain ⟨y436, hy437, h⟩ := bindS h
          rcases Bool.eq_false_or_eq_true (!y436) with hg442 | hg442
          · replace h := condT hg442 h
            refine nc ?_
            refine draw_rule [] (by kernel_rfl) (by kernel_rfl) H ?_
            refine c_load 12 rfl (by kernel_rfl) (j := 2) rfl ?_
            refine c_load 12 rfl (by kernel_rfl) (j := 6) rfl ?_
            refine c_call (.bool y420) (by kernel_rfl) (fun _ _ H => view_Row_ok (H.dat 14 rfl) hy421) ?_
            refine c_load 12 rfl (by kernel_rfl) (j := 6) rfl ?_
            refine c_call (.bool y428) (by kernel_rfl) (fun _ _ H => view_Has_ok (H.dat 14 rfl) hy429) ?_
            refine c_load 12 rfl (by kernel_rfl) (j := 6) rfl ?_
            refine c_load 0 rfl (by kernel_rfl) (j := 0) rfl ?_
            refine c_call (.bool y436) (by kernel_rfl) (fun _ _ H => view_Has_ok (H.dat 14 rfl) hy437) ?_
            refine c_loadA (m := 2) 0 rfl (by kernel_rfl) (by kernel_rfl) [.int .i64 x0.promised_.1.1, .int .i64 x0.promised_.1.2] rfl rfl ?_
            refine c_loadA (m := 2) 12 rfl (by kernel_rfl) (by kernel_rfl) [.int .i64 x2.2.1.1, .int .i64 x2.2.1.2] rfl rfl ?_
            refine c_skipCL (.bool false) (gF0 ((pickF ((pickF ((pickF hg418).trans hg426)).trans hg434)).trans hg442)) ?_
            refine c_skipLD (.int .i64 0) (gF0 (pickT ((pickF ((pickF ((pickF hg418).trans hg426)).trans hg434)).trans hg442))) ?_
            intro w443 H
            replace H := (H.pickL [0, 1, 2, 3, 4, 5, 6, 7, 8, 9, 10, 11, 12, 13, 14, 15] rfl).shutAs 12 (oL_member_Node g0_ (A360, c361, b362, al363, A364, c365, g366, a367, A368, c369, cs370, A371, c372, cs373, A374, c375, cs376) x0) rfl
            try dsimp only [lastL, pickI, List.drop, List.take, List.set, List.eraseIdx, List.getElem?_cons_zero, List.getElem?_cons_succ, List.cons_append, List.nil_append, List.map] at H
            exact cut_inA ⟨_, h, rfl, H.pickL [0, 1, 3, 2, 4] rfl⟩
          · replace h := condF hg442 h
            obtain ⟨y444, hy445, h⟩ := bindS h
            refine nc ?_
            refine draw_rule [] (by kernel_rfl) (by kernel_rfl) H ?_
            refine c_load 12 rfl (by kernel_rfl) (j := 2) rfl ?_
            refine c_load 12 rfl (by kernel_rfl) (j := 6) rfl ?_
            refine c_call (.bool y420) (by kernel_rfl) (fun _ _ H => view_Row_ok (H.dat 14 rfl) hy421) ?_
            refine c_load 12 rfl (by kernel_rfl) (j := 6) rfl ?_
            refine c_call (.bool y428) (by kernel_rfl) (fun _ _ H => view_Has_ok (H.dat 14 rfl) hy429) ?_
            refine c_load 12 rfl (by kernel_rfl) (j := 6) rfl ?_
            refine c_load 0 rfl (by kernel_rfl) (j := 0) rfl ?_
            refine c_call (.bool y436) (by kernel_rfl) (fun _ _ H => view_Has_ok (H.dat 14 rfl) hy437) ?_
            refine c_loadA (m := 2) 0 rfl (by kernel_rfl) (by kernel_rfl) [.int .i64 x0.promised_.1.1, .int .i64 x0.promised_.1.2] rfl rfl ?_
            refine c_loadA (m := 2) 12 rfl (by kernel_rfl) (by kernel_rfl) [.int .i64 x2.2.1.1, .int .i64 x2.2.1.2] rfl rfl ?_
            refine c_call (.bool y444) (by kernel_rfl) (fun _ _ H => view_Less_ok (x0 := x0.promised_.1) (x1 := x2.2.1) hy445) ?_
            refine c_load 12 rfl (by kernel_rfl) (j := 1) rfl ?_
            intro w450 H
            replace H := (H.pickL [0, 1, 2, 3, 4, 5, 6, 7, 8, 9, 10, 11, 12, 13, 14, 15] rfl).shutAs 12 (oL_member_Node g0_ (A360, c361, b362, al363, A364, c365, g366, a367, A368, c369, cs370, A371, c372, cs373, A374, c375, cs376) x0) rfl
            try dsimp only [lastL, pickI, List.drop, List.take, List.set, List.eraseIdx, List.getElem?_cons_zero, List.getElem?_cons_succ, List.cons_append, List.nil_append, List.map] at H
            exact cut_inA ⟨_, h, rfl, H.pickL [0, 1, 3, 2, 4] rfl⟩
  · rintro _ w451 ⟨v341, h, rfl, H⟩
    unfold member_Node_propose.k2 at h
    refine nc_cond rfl (fun hc452 => ?_) (fun hc452 => ?_)
    · replace h := condT hc452 h
      refine nc ?_
      replace h := Option.some.inj h
      subst h
      exact ret_inA [] ⟨_, rfl, a0_, rfl, (H.pickL [0, 4] rfl).tailOpen 1 rfl⟩
    · replace h := condF hc452 h
      refine nc ?_
      refine nc_seq ?_
      obtain ⟨A462, c463, b464, al465, A466, c467, g468, a469, A470, c471, cs472, A473, c474, cs475, A476, c477, cs478⟩ := a0_
      replace H := H.openAs 0 (oU_member_Node g0_ ⟨A462, c463, b464, al465, A466, c467, g468, a469, A470, c471, cs472, A473, c474, cs475, A476, c477, cs478⟩ x0) rfl rfl
      try dsimp only [oU_member_Node, lastL, pickI, List.drop, List.take, List.set, List.eraseIdx, List.getElem?_cons_zero, List.getElem?_cons_succ, List.cons_append, List.nil_append, List.map] at H
      obtain ⟨y499, hy500, h⟩ := bindS h
      refine nc ?_
      refine draw_rule [] (by kernel_rfl) (by kernel_rfl) H ?_
      refine c_loadA (m := 2) 12 rfl (by kernel_rfl) (by kernel_rfl) [.int .i64 x2.2.1.1, .int .i64 x2.2.1.2] rfl rfl ?_
      refine c_load 12 rfl (by kernel_rfl) (j := 6) rfl ?_
      refine c_callS rfl (by kernel_rfl) (fun _ H => slices_Clone_int_int_ok (H.dat 13 rfl) hy500) ?_
      intro A505 c506
      refine c_storeB (m := 3) 1 rfl (by kernel_rfl) [.int .i64 x2.2.1.1, .int .i64 x2.2.1.2, .slice A505 y499.length c506] rfl rfl rfl rfl ?_
      refine c_storeB (m := 1) 1 rfl (by kernel_rfl) [.pointer none] rfl rfl rfl rfl ?_
      intro w510 H
      replace H := H.box0
      replace H := (H.pickL [2, 3, 4, 5, 1, 0, 8, 9, 10, 11, 12, 13, 1, 6, 7, 14, 15, 16, 17] rfl).shutAs 12 (oL_member_Node g0_ (A462, c463, b464, al465, A505, c506, 0, default, A470, c471, cs472, A473, c474, cs475, A476, c477, cs478) ({ x0 with promised_ := ((x2.2.1.1, x2.2.1.2), y499), seen_ := (x0.seen_.1, x0.seen_.2), plan_ := none, early_ := x0.early_, outs_ := x0.outs_, events_ := x0.events_ : O_member_Node })) rfl
      try dsimp only [lastL, pickI, List.drop, List.take, List.set, List.eraseIdx, List.getElem?_cons_zero, List.getElem?_cons_succ, List.cons_append, List.nil_append, List.map] at H
      refine nc_cut (fun e w559 => ∃ (a558 : A_member_Node) (v557 : O_member_Node), member_Node_propose.k1 x1 x2 v557 = some r ∧ e = [(0, .pointer (some ⟨g0_, 0, none⟩)), (1, .int .i64 x1), (5, .pointer (some ⟨g13, 0, none⟩))] ∧ Eng.Own ok w0 w559 [box (oL_member_Node g0_ a558 v557), .blk g13 [.int .i64 x2.1, .int .i64 x2.2.1.1, .int .i64 x2.2.1.2, .int .i64 x2.2.2.1.1, .int .i64 x2.2.2.1.2, .int .i64 x2.2.2.2.1, .slice A6 x2.2.2.2.2.1.length c7, .slice A9 x2.2.2.2.2.2.length c10] 38, .dat (dSl (tInt .i64) (.slice A6 x2.2.2.2.2.1.length c7) x2.2.2.2.2.1), .dat (dSl tStr (.slice A9 x2.2.2.2.2.2.length c10) x2.2.2.2.2.2), box R]) ?_ ?_
      · skip
        refine nc_seq ?_
        replace H := H.openAs 0 (oU_member_Node g0_ ⟨A462, c463, b464, al465, A505, c506, 0, default, A470, c471, cs472, A473, c474, cs475, A476, c477, cs478⟩ ({ x0 with promised_ := ((x2.2.1.1, x2.2.1.2), y499), seen_ := (x0.seen_.1, x0.seen_.2), plan_ := none, early_ := x0.early_, outs_ := x0.outs_, events_ := x0.events_ : O_member_Node })) rfl rfl
        try dsimp only [oU_member_Node, lastL, pickI, List.drop, List.take, List.set, List.eraseIdx, List.getElem?_cons_zero, List.getElem?_cons_succ, List.cons_append, List.nil_append, List.map] at H
        obtain ⟨y576, hy577, h⟩ := bindS h
        refine nc ?_
        refine draw_rule [] (by kernel_rfl) (by kernel_rfl) H ?_
        refine c_loadA (m := 2) 0 rfl (by kernel_rfl) (by kernel_rfl) [.int .i64 ((({ x0 with promised_ := ((x2.2.1.1, x2.2.1.2), y499), seen_ := (x0.seen_.1, x0.seen_.2), plan_ := none, early_ := x0.early_, outs_ := x0.outs_, events_ := x0.events_ : O_member_Node }).seen_).1), .int .i64 ((({ x0 with promised_ := ((x2.2.1.1, x2.2.1.2), y499), seen_ := (x0.seen_.1, x0.seen_.2), plan_ := none, early_ := x0.early_, outs_ := x0.outs_, events_ := x0.events_ : O_member_Node }).seen_).2)] rfl rfl ?_
        refine c_loadA (m := 2) 15 rfl (by kernel_rfl) (by kernel_rfl) [.int .i64 x2.2.1.1, .int .i64 x2.2.1.2] rfl rfl ?_
        refine c_call (.bool y576) (by kernel_rfl) (fun _ _ H => view_Less_ok (x0 := ((({ x0 with promised_ := ((x2.2.1.1, x2.2.1.2), y499), seen_ := (x0.seen_.1, x0.seen_.2), plan_ := none, early_ := x0.early_, outs_ := x0.outs_, events_ := x0.events_ : O_member_Node }).seen_).1, (({ x0 with promised_ := ((x2.2.1.1, x2.2.1.2), y499), seen_ := (x0.seen_.1, x0.seen_.2), plan_ := none, early_ := x0.early_, outs_ := x0.outs_, events_ := x0.events_ : O_member_Node }).seen_).2)) (x1 := x2.2.1) hy577) ?_
        intro w582 H
        refine nc_cond rfl (fun hc583 => ?_) (fun hc583 => ?_)
        · replace h := condT hc583 h
          refine nc ?_
          refine own_loadA (m := 2) H 15 rfl (by kernel_rfl) (by kernel_rfl) [.int .i64 x2.2.1.1, .int .i64 x2.2.1.2] rfl rfl ?_
          refine own_storeB (m := 2) H 0 rfl (by kernel_rfl) [.int .i64 x2.2.1.1, .int .i64 x2.2.1.2] rfl rfl rfl rfl fun w584 H => ?_
          replace H := (H.pickL [0, 1, 2, 3, 4, 5, 6, 7, 8, 9, 10, 11, 12, 13, 14, 15, 16, 17, 18] rfl).shutAs 12 (oL_member_Node g0_ (A462, c463, b464, al465, A505, c506, 0, default, A470, c471, cs472, A473, c474, cs475, A476, c477, cs478) ({ { x0 with promised_ := ((x2.2.1.1, x2.2.1.2), y499), seen_ := (x0.seen_.1, x0.seen_.2), plan_ := none, early_ := x0.early_, outs_ := x0.outs_, events_ := x0.events_ : O_member_Node } with seen_ := (x2.2.1.1, x2.2.1.2), plan_ := ({ x0 with promised_ := ((x2.2.1.1, x2.2.1.2), y499), seen_ := (x0.seen_.1, x0.seen_.2), plan_ := none, early_ := x0.early_, outs_ := x0.outs_, events_ := x0.events_ : O_member_Node }).plan_, early_ := ({ x0 with promised_ := ((x2.2.1.1, x2.2.1.2), y499), seen_ := (x0.seen_.1, x0.seen_.2), plan_ := none, early_ := x0.early_, outs_ := x0.outs_, events_ := x0.events_ : O_member_Node }).early_, outs_ := ({ x0 with promised_ := ((x2.2.1.1, x2.2.1.2), y499), seen_ := (x0.seen_.1, x0.seen_.2), plan_ := none, early_ := x0.early_, outs_ := x0.outs_, events_ := x0.events_ : O_member_Node }).outs_, events_ := ({ x0 with promised_ := ((x2.2.1.1, x2.2.1.2), y499), seen_ := (x0.seen_.1, x0.seen_.2), plan_ := none, early_ := x0.early_, outs_ := x0.outs_, events_ := x0.events_ : O_member_Node }).events_ : O_member_Node })) rfl
          try dsimp only [lastL, pickI, List.drop, List.take, List.set, List.eraseIdx, List.getElem?_cons_zero, List.getElem?_cons_succ, List.cons_append, List.nil_append, List.map] at H
          exact cut_inA ⟨(A462, c463, b464, al465, A505, c506, 0, default, A470, c471, cs472, A473, c474, cs475, A476, c477, cs478), _, h, rfl, H.pickL [0, 4, 5, 6, 7] rfl⟩
        · replace h := condF hc583 h
          refine nc ?_
          replace H := (H.pickL [0, 1, 2, 3, 4, 5, 6, 7, 8, 9, 10, 11, 12, 13, 14, 15, 16, 17, 18] rfl).shutAs 12 (oL_member_Node g0_ (A462, c463, b464, al465, A505, c506, 0, default, A470, c471, cs472, A473, c474, cs475, A476, c477, cs478) ({ x0 with promised_ := ((x2.2.1.1, x2.2.1.2), y499), seen_ := (x0.seen_.1, x0.seen_.2), plan_ := none, early_ := x0.early_, outs_ := x0.outs_, events_ := x0.events_ : O_member_Node })) rfl
          try dsimp only [lastL, pickI, List.drop, List.take, List.set, List.eraseIdx, List.getElem?_cons_zero, List.getElem?_cons_succ, List.cons_append, List.nil_append, List.map] at H
          exact cut_inA ⟨(A462, c463, b464, al465, A505, c506, 0, default, A470, c471, cs472, A473, c474, cs475, A476, c477, cs478), _, h, rfl, H.pickL [0, 4, 5, 6, 7] rfl⟩
      · rintro _ w585 ⟨a558, v557, h, rfl, H⟩
        unfold member_Node_propose.k1 at h
        refine nc_seq ?_
        refine nc ?_
        obtain ⟨y586, hy587, h⟩ := bindS h
        refine call_rule (by kernel_rfl) (member_Node_Logs_ok (x0 := v557) H hy587) fun v593 w592 ⟨A588, c589, cs590, hv594, H⟩ => ?_
        subst hv594
        replace H := H.freeze (k := t_cut_Log) 1 0 rfl rfl
        obtain ⟨y596, hy597, h⟩ := bindS h
        refine call_rule (by kernel_rfl) (cut_Put_ok (H.dat 1 rfl) hy597) fun v599 w598 ⟨u602, hv600, hu603, hb601⟩ => ?_
        subst hv600
        replace H := H.callDats hb601 [dSl tStr u602 y596.1] ⟨hu603, trivial⟩
        obtain ⟨A604, c605, hA606, _⟩ := H.sl 0 rfl
        subst hA606
        refine nc_seq ?_
        refine nc ?_
        refine nc_cond rfl (fun hc608 => ?_) (fun hc608 => ?_)
        · replace h := condT hc608 h
          obtain ⟨A609, c610, b611, al612, A613, c614, g615, a616, A617, c618, cs619, A620, c621, cs622, A623, c624, cs625⟩ := a558
          replace H := H.openAs 3 (oU_member_Node g0_ ⟨A609, c610, b611, al612, A613, c614, g615, a616, A617, c618, cs619, A620, c621, cs622, A623, c624, cs625⟩ v557) rfl rfl
          try dsimp only [oU_member_Node, lastL, pickI, List.drop, List.take, List.set, List.eraseIdx, List.getElem?_cons_zero, List.getElem?_cons_succ, List.cons_append, List.nil_append, List.map] at H
          obtain ⟨y640, hy641, h⟩ := bindS h
          try dsimp only [lastL, pickI, List.drop, List.take, List.set, List.eraseIdx, List.getElem?_cons_zero, List.getElem?_cons_succ, List.cons_append, List.nil_append, List.map] at H
          refine nc ?_
          refine draw_rule [] (by kernel_rfl) (by kernel_rfl) H ?_
          refine c_loadA (m := 2) 15 rfl (by kernel_rfl) (by kernel_rfl) [.int .i64 x2.2.1.1, .int .i64 x2.2.1.2] rfl rfl ?_
          refine c_loadA (m := 2) 0 rfl (by kernel_rfl) (by kernel_rfl) [.int .i64 v557.view_.1.1, .int .i64 v557.view_.1.2] rfl rfl ?_
          refine c_callM [0, 1, 2, 3, 4, 5, 6, 7, 8, 9, 10, 11, 12, 13, 14, 15, 16, 17, 18] 12 (fun v X => ∃ a642, v = .tuple #[] ∧ X = [box (oL_member_Node g0_ a642 y640)]) rfl (by kernel_rfl) (by kernel_rfl) rfl (fun _ H => by
            replace H := H.shutAs 12 (oL_member_Node g0_ (A609, c610, b611, al612, A613, c614, g615, a616, A617, c618, cs619, A620, c621, cs622, A623, c624, cs625) v557) rfl
            exact Calls.mono (member_Node_send_ok (x0 := v557) (x2 := ((4 : Int), x2.2.1, v557.view_.1, (0 : Int), ([] : List Int), y596.1)) H nilR (H.dat 1 rfl) hy641) fun e w' ⟨v, he, a642, hv, H⟩ => ⟨v, he, _, ⟨a642, hv, rfl⟩, H⟩) ?_
          rintro v643 X644 ⟨a642, rfl, rfl⟩
          dsimp only [subLb, lastL, pickI, List.drop, List.take, List.set, List.eraseIdx, List.getElem?_cons_zero, List.getElem?_cons_succ, List.cons_append, List.nil_append, List.map]
          intro w645 H
          dsimp only [lastL, pickI, List.drop, List.take, List.set, List.eraseIdx, List.getElem?_cons_zero, List.getElem?_cons_succ, List.cons_append, List.nil_append, List.map] at H
          replace h := Option.some.inj h
          subst h
          exact ret_inA [] ⟨_, rfl, a642, rfl, (H.pickL [0, 7] rfl).tailOpen 1 rfl⟩
        · replace h := condF hc608 h
          refine nc ?_
          replace h := Option.some.inj h
          subst h
          exact ret_inA [] ⟨_, rfl, a558, rfl, (H.pickL [3, 7] rfl).tailOpen 1 rfl⟩
/-! (*gemot/member.Node).told -/
noncomputable def member_Node_told.k1 (x0 : O_member_Node) (x1 : Int) (x2 : D_list_Message) (y15 : (List D_cut_Log) × Int) (v161 : Bool) : Option (O_member_Node) := cond v161 (some x0) ((x0.plan_).bind fun y234 => cond ((getA x1 y234.told_).isSome) (some ({ x0 with plan_ := (some y234) : O_member_Node })) ((member_Node_finish.f ({ x0 with plan_ := (some ({ y234 with told_ := (putA x1 (x1, x2.2.2.1, y15.1) y234.told_) : O_member_plan })) : O_member_Node })).bind fun y260 => some y260))
noncomputable def member_Node_told.f (x0 : O_member_Node) (x1 : Int) (x2 : D_list_Message) : Option (O_member_Node) := (cut_Take.f x2.2.2.2.2.2).bind fun y15 => cond (cond (cond (y15.2 != (0 : Int)) true (x0.plan_.isNone)) true (!((x2.2.1.1 == x0.promised_.1.1) && (x2.2.1.2 == x0.promised_.1.2)))) (member_Node_told.k1 x0 x1 x2 y15 (cond (cond (cond (y15.2 != (0 : Int)) true (x0.plan_.isNone)) true (!((x2.2.1.1 == x0.promised_.1.1) && (x2.2.1.2 == x0.promised_.1.2)))) true (!false))) ((view_Has.f x0.promised_.2 x1).bind fun y200 => member_Node_told.k1 x0 x1 x2 y15 (cond (cond (cond (y15.2 != (0 : Int)) true (x0.plan_.isNone)) true (!((x2.2.1.1 == x0.promised_.1.1) && (x2.2.1.2 == x0.promised_.1.2)))) true (!y200)))
set_option maxHeartbeats 8000000 in
theorem member_Node_told_ok {ok : Nat → Prop} {w0 w : World} {R : List Eng.Item} {g0_ : Nat} {a0_ : A_member_Node} {u2 : Value} {u4 : Value} {x0 : O_member_Node} {x1 : Int} {x2 : D_list_Message} {r : O_member_Node} (H : Eng.Own ok w0 w (box (oL_member_Node g0_ a0_ x0) :: R)) (hu3 : slR (tInt .i64) w (okOf ok w0 (box (oL_member_Node g0_ a0_ x0) :: R)) u2 x2.2.2.2.2.1) (hu5 : slR tStr w (okOf ok w0 (box (oL_member_Node g0_ a0_ x0) :: R)) u4 x2.2.2.2.2.2) (h : member_Node_told.f x0 x1 x2 = some r) :
    Calls Try.prog 29 #[.pointer (some ⟨g0_, 0, none⟩), .int .i64 x1, .agg #[.int .i64 x2.1, .int .i64 x2.2.1.1, .int .i64 x2.2.1.2, .int .i64 x2.2.2.1.1, .int .i64 x2.2.2.1.2, .int .i64 x2.2.2.2.1, u2, u4]] w fun e w' => ∃ v, e = .returned v ∧ ∃ (a1' : A_member_Node), v = .tuple #[] ∧ Eng.Own ok w0 w' (box (oL_member_Node g0_ a1' r) :: R) := by
  obtain ⟨A6, c7, rfl, H⟩ := H.openD hu3
  obtain ⟨A9, c10, rfl, H⟩ := H.openD hu5
  replace H := H.tailBox 3
  unfold member_Node_told.f at h
  refine enterN (args := [.pointer (some ⟨g0_, 0, none⟩), .int .i64 x1, .agg #[.int .i64 x2.1, .int .i64 x2.2.1.1, .int .i64 x2.2.1.2, .int .i64 x2.2.2.1.1, .int .i64 x2.2.2.1.2, .int .i64 x2.2.2.2.1, .slice A6 x2.2.2.2.2.1.length c7, .slice A9 x2.2.2.2.2.2.length c10]]) Try.func29 rfl Try.ntmps29 rfl rfl ?_
  refine nc_seq ?_
  refine nc ?_
  refine own_box H [.int .i64 x2.1, .int .i64 x2.2.1.1, .int .i64 x2.2.1.2, .int .i64 x2.2.2.1.1, .int .i64 x2.2.2.1.2, .int .i64 x2.2.2.2.1, .slice A6 x2.2.2.2.2.1.length c7, .slice A9 x2.2.2.2.2.2.length c10] rfl fun g13 w14 H => ?_
  refine nc_seq ?_
  refine nc ?_
  refine own_load H 0 rfl (by kernel_rfl) (j := 7) rfl ?_
  obtain ⟨y15, hy16, h⟩ := bindS h
  refine call_rule (by kernel_rfl) (cut_Take_ok (H.dat 1 rfl) hy16) fun v18 w17 ⟨u21, hv19, hu22, hb20⟩ => ?_
  subst hv19
  replace H := H.callDats hb20 [dSl t_cut_Log u21 y15.1] ⟨hu22, trivial⟩
  obtain ⟨A23, c24, hA25, _⟩ := H.sl 0 rfl
  subst hA25
  refine nc_seq ?_
  refine nc_cut (fun e w162 => ∃ (v161 : Bool), member_Node_told.k1 x0 x1 x2 y15 v161 = some r ∧ e = [(0, .pointer (some ⟨g0_, 0, none⟩)), (1, .int .i64 x1), (5, .pointer (some ⟨g13, 0, none⟩)), (6, .slice A23 y15.1.length c24), (44, .bool v161)] ∧ Eng.Own ok w0 w162 [box (oL_member_Node g0_ a0_ x0), .blk g13 [.int .i64 x2.1, .int .i64 x2.2.1.1, .int .i64 x2.2.1.2, .int .i64 x2.2.2.1.1, .int .i64 x2.2.2.1.2, .int .i64 x2.2.2.2.1, .slice A6 x2.2.2.2.2.1.length c7, .slice A9 x2.2.2.2.2.2.length c10] 38, .dat (dSl (tInt .i64) (.slice A6 x2.2.2.2.2.1.length c7) x2.2.2.2.2.1), .dat (dSl tStr (.slice A9 x2.2.2.2.2.2.length c10) x2.2.2.2.2.2), .dat (dSl t_cut_Log (.slice A23 y15.1.length c24) y15.1), box R]) ?_ ?_
  · skip
    obtain ⟨A164, c165, b166, al167, A168, c169, g170, a171, A172, c173, cs174, A175, c176, cs177, A178, c179, cs180⟩ := a0_
    replace H := H.openAs 4 (oU_member_Node g0_ ⟨A164, c165, b166, al167, A168, c169, g170, a171, A172, c173, cs174, A175, c176, cs177, A178, c179, cs180⟩ x0) rfl rfl
    try dsimp only [oU_member_Node, lastL, pickI, List.drop, List.take, List.set, List.eraseIdx, List.getElem?_cons_zero, List.getElem?_cons_succ, List.cons_append, List.nil_append, List.map] at H
    rcases Bool.eq_false_or_eq_true (cond (cond (y15.2 != (0 : Int)) true (x0.plan_.isNone)) true (!((x2.2.1.1 == x0.promised_.1.1) && (x2.2.1.2 == x0.promised_.1.2)))) with hg198 | hg198
    · replace h := condT hg198 h
      refine nc ?_
      refine draw_rule [] (by kernel_rfl) (by kernel_rfl) H ?_
      refine c_load 0 rfl (by kernel_rfl) (j := 10) rfl ?_
      refine c_eqlO (by kernel_rfl) ?_
      refine c_loadA (m := 2) 13 rfl (by kernel_rfl) (by kernel_rfl) [.int .i64 x2.2.1.1, .int .i64 x2.2.1.2] rfl rfl ?_
      refine c_loadA (m := 2) 0 rfl (by kernel_rfl) (by kernel_rfl) [.int .i64 x0.promised_.1.1, .int .i64 x0.promised_.1.2] rfl rfl ?_
      refine c_neq ((x2.2.1.1 == x0.promised_.1.1) && (x2.2.1.2 == x0.promised_.1.2)) (fun _ => (by kernel_rfl)) (fun _ => (by kernel_rfl)) ?_
      refine c_load 0 rfl (by kernel_rfl) (j := 7) rfl ?_
      refine c_skipCL (.bool false) (gF0 hg198) ?_
      intro w199 H
      replace H := (H.pickL [0, 1, 2, 3, 4, 5, 6, 7, 8, 9, 10, 11, 4, 12, 13, 14, 15, 16] rfl).shutAs 12 (oL_member_Node g0_ (A164, c165, b166, al167, A168, c169, g170, a171, A172, c173, cs174, A175, c176, cs177, A178, c179, cs180) x0) rfl
      try dsimp only [lastL, pickI, List.drop, List.take, List.set, List.eraseIdx, List.getElem?_cons_zero, List.getElem?_cons_succ, List.cons_append, List.nil_append, List.map] at H
      exact cut_inA ⟨_, h, rfl, H.pickL [0, 3, 5, 4, 2, 6] rfl⟩
    · replace h := condF hg198 h
      obtain ⟨y200, hy201, h⟩ := bindS h
      refine nc ?_
      refine draw_rule [] (by kernel_rfl) (by kernel_rfl) H ?_
      refine c_load 0 rfl (by kernel_rfl) (j := 10) rfl ?_
      refine c_eqlO (by kernel_rfl) ?_
      refine c_loadA (m := 2) 13 rfl (by kernel_rfl) (by kernel_rfl) [.int .i64 x2.2.1.1, .int .i64 x2.2.1.2] rfl rfl ?_
      refine c_loadA (m := 2) 0 rfl (by kernel_rfl) (by kernel_rfl) [.int .i64 x0.promised_.1.1, .int .i64 x0.promised_.1.2] rfl rfl ?_
      refine c_neq ((x2.2.1.1 == x0.promised_.1.1) && (x2.2.1.2 == x0.promised_.1.2)) (fun _ => (by kernel_rfl)) (fun _ => (by kernel_rfl)) ?_
      refine c_load 0 rfl (by kernel_rfl) (j := 7) rfl ?_
      refine c_call (.bool y200) (by kernel_rfl) (fun _ _ H => view_Has_ok (H.dat 4 rfl) hy201) ?_
      intro w206 H
      replace H := (H.pickL [0, 1, 2, 3, 4, 5, 6, 7, 8, 9, 10, 11, 4, 12, 13, 14, 15, 16] rfl).shutAs 12 (oL_member_Node g0_ (A164, c165, b166, al167, A168, c169, g170, a171, A172, c173, cs174, A175, c176, cs177, A178, c179, cs180) x0) rfl
      try dsimp only [lastL, pickI, List.drop, List.take, List.set, List.eraseIdx, List.getElem?_cons_zero, List.getElem?_cons_succ, List.cons_append, List.nil_append, List.map] at H
      exact cut_inA ⟨_, h, rfl, H.pickL [0, 3, 5, 4, 2, 6] rfl⟩
  · rintro _ w207 ⟨v161, h, rfl, H⟩
    unfold member_Node_told.k1 at h
    refine nc_cond rfl (fun hc208 => ?_) (fun hc208 => ?_)
    · replace h := condT hc208 h
      refine nc ?_
      replace h := Option.some.inj h
      subst h
      exact ret_inA [] ⟨_, rfl, a0_, rfl, (H.pickL [0, 5] rfl).tailOpen 1 rfl⟩
    · replace h := condF hc208 h
      refine nc ?_
      refine nc_seq ?_
      refine nc_seq ?_
      refine nc ?_
      obtain ⟨A209, c210, b211, al212, A213, c214, g215, a216, A217, c218, cs219, A220, c221, cs222, A223, c224, cs225⟩ := a0_
      replace H := H.openAs 0 (oU_member_Node g0_ ⟨A209, c210, b211, al212, A213, c214, g215, a216, A217, c218, cs219, A220, c221, cs222, A223, c224, cs225⟩ x0) rfl rfl
      try dsimp only [oU_member_Node, lastL, pickI, List.drop, List.take, List.set, List.eraseIdx, List.getElem?_cons_zero, List.getElem?_cons_succ, List.cons_append, List.nil_append, List.map] at H
      refine own_load H 0 rfl (by kernel_rfl) (j := 10) rfl ?_
      obtain ⟨y234, hy235, h⟩ := bindS h
      replace H := H.someAt 5 rfl hy235
      replace H := H.cellAs 0 10 rfl rfl (by rw [hy235]; rfl : Value.pointer (optA g215 x0.plan_) = .pointer (some ⟨g215, 0, none⟩))
      try rw [hy235]
      obtain ⟨b236, vs237⟩ := a216
      replace H := H.openAs 5 (oU_member_plan g215 ⟨b236, vs237⟩ y234) rfl rfl
      try dsimp only [oU_member_plan, lastL, pickI, List.drop, List.take, List.set, List.eraseIdx, List.getElem?_cons_zero, List.getElem?_cons_succ, List.cons_append, List.nil_append, List.map] at H
      refine own_load H 0 rfl (by kernel_rfl) (j := 0) rfl ?_
      obtain ⟨hl239, cs240, hc241, hR242⟩ := H.datOff 2 rfl x1 (d := ((0 : Int), ((0 : Int), (0 : Int)), ([] : List D_cut_Log))) (zs := [.int .i64 0, .int .i64 0, .int .i64 0, .slice none 0 0]) (cut_Report_in (x := ((0 : Int), ((0 : Int), (0 : Int)), ([] : List D_cut_Log))) nilR)
      obtain ⟨u243, rfl, hu244⟩ := cut_Report_cells hR242
      obtain ⟨A245, c246, rfl, H⟩ := H.openD hu244
      refine lookup_rule2V (kt := 3) (et := 72) (by kernel_rfl) (by kernel_rfl) key3 x1 H 2 rfl _ _ hc241 hl239 ?_
      refine own_alloc (z := .agg #[.int .i64 0, .int .i64 0, .int .i64 0, .slice none 0 0]) H (by kernel_rfl) [.int .i64 0, .int .i64 0, .int .i64 0, .slice none 0 0] rfl fun g249 w250 H => ?_
      refine own_storeB (m := 4) H 0 rfl (by kernel_rfl) [.int .i64 (((getA x1 y234.told_).getD ((0 : Int), ((0 : Int), (0 : Int)), ([] : List D_cut_Log))).1), .int .i64 ((((getA x1 y234.told_).getD ((0 : Int), ((0 : Int), (0 : Int)), ([] : List D_cut_Log))).2.1).1), .int .i64 ((((getA x1 y234.told_).getD ((0 : Int), ((0 : Int), (0 : Int)), ([] : List D_cut_Log))).2.1).2), .slice A245 (((getA x1 y234.told_).getD ((0 : Int), ((0 : Int), (0 : Int)), ([] : List D_cut_Log))).2.2).length c246] rfl rfl rfl rfl fun w251 H => ?_
      refine nc_seq ?_
      refine nc ?_
      refine nc_cond rfl (fun hc252 => ?_) (fun hc252 => ?_)
      · replace h := condT hc252 h
        refine nc ?_
        replace H := (H.pickL [2, 3, 4, 0, 1, 5, 6, 7, 8, 9, 10, 11, 12, 13, 14, 15, 16, 17, 18, 19, 20] rfl).shutAs 3 (oL_member_plan g215 (b236, vs237) y234) rfl
        try dsimp only [lastL, pickI, List.drop, List.take, List.set, List.eraseIdx, List.getElem?_cons_zero, List.getElem?_cons_succ, List.cons_append, List.nil_append, List.map] at H
        replace H := (H.pickL [3, 4, 5, 6, 7, 0, 8, 9, 10, 11, 12, 13, 1, 2, 14, 15, 16, 17, 18] rfl).shutAs 12 (oL_member_Node g0_ (A209, c210, b211, al212, A213, c214, g215, (b236, vs237), A217, c218, cs219, A220, c221, cs222, A223, c224, cs225) ({ x0 with plan_ := (some y234) : O_member_Node })) rfl
        try dsimp only [lastL, pickI, List.drop, List.take, List.set, List.eraseIdx, List.getElem?_cons_zero, List.getElem?_cons_succ, List.cons_append, List.nil_append, List.map] at H
        replace h := Option.some.inj h
        subst h
        exact ret_inA [] ⟨_, rfl, (A209, c210, b211, al212, A213, c214, g215, (b236, vs237), A217, c218, cs219, A220, c221, cs222, A223, c224, cs225), rfl, (H.pickL [0, 7] rfl).tailOpen 1 rfl⟩
      · replace h := condF hc252 h
        refine nc ?_
        refine nc_seq ?_
        refine nc ?_
        refine draw_rule [] (by kernel_rfl) (by kernel_rfl) H ?_
        refine c_load 5 rfl (by kernel_rfl) (j := 10) rfl ?_
        refine c_load 2 rfl (by kernel_rfl) (j := 0) rfl ?_
        refine c_loadA (m := 2) 16 rfl (by kernel_rfl) (by kernel_rfl) [.int .i64 x2.2.2.1.1, .int .i64 x2.2.2.1.2] rfl rfl ?_
        refine c_mapUpdate (kt := 3) (et := 72) (by kernel_rfl) key3 x1 _ 3 rfl ?_
        intro w257 H
        replace H := H.datPut (x := (x1, x2.2.2.1, y15.1)) (cs := [.int .i64 x1, .int .i64 x2.2.2.1.1, .int .i64 x2.2.2.1.2, .slice A23 y15.1.length c24]) 4 rfl x1 (cut_Report_in (x := (x1, x2.2.2.1, y15.1)) (H.dat 19 rfl))
        refine nc ?_
        replace H := (H.pickL [2, 3, 4, 0, 1, 5, 6, 7, 8, 9, 10, 11, 12, 13, 14, 15, 16, 17, 18, 19, 20] rfl).shutAs 3 (oL_member_plan g215 (b236, (putA x1 (.agg #[.int .i64 x1, .int .i64 x2.2.2.1.1, .int .i64 x2.2.2.1.2, .slice A23 y15.1.length c24]) vs237)) ({ y234 with told_ := (putA x1 (x1, x2.2.2.1, y15.1) y234.told_) : O_member_plan })) rfl
        try dsimp only [lastL, pickI, List.drop, List.take, List.set, List.eraseIdx, List.getElem?_cons_zero, List.getElem?_cons_succ, List.cons_append, List.nil_append, List.map] at H
        replace H := (H.pickL [3, 4, 5, 6, 7, 0, 8, 9, 10, 11, 12, 13, 1, 2, 14, 15, 16, 17, 18] rfl).shutAs 12 (oL_member_Node g0_ (A209, c210, b211, al212, A213, c214, g215, (b236, (putA x1 (.agg #[.int .i64 x1, .int .i64 x2.2.2.1.1, .int .i64 x2.2.2.1.2, .slice A23 y15.1.length c24]) vs237)), A217, c218, cs219, A220, c221, cs222, A223, c224, cs225) ({ x0 with plan_ := (some ({ y234 with told_ := (putA x1 (x1, x2.2.2.1, y15.1) y234.told_) : O_member_plan })) : O_member_Node })) rfl
        try dsimp only [lastL, pickI, List.drop, List.take, List.set, List.eraseIdx, List.getElem?_cons_zero, List.getElem?_cons_succ, List.cons_append, List.nil_append, List.map] at H
        obtain ⟨y260, hy261, h⟩ := bindS h
        refine call_rule (by kernel_rfl) (member_Node_finish_ok (x0 := ({ x0 with plan_ := (some ({ y234 with told_ := (putA x1 (x1, x2.2.2.1, y15.1) y234.told_) : O_member_plan })) : O_member_Node })) H hy261) fun v264 w263 ⟨a262, hv265, H⟩ => ?_
        subst hv265
        replace h := Option.some.inj h
        subst h
        exact ret_inA [] ⟨_, rfl, a262, rfl, (H.pickL [0, 7] rfl).tailOpen 1 rfl⟩
/-! (*gemot/member.Node).install -/
noncomputable def member_Node_install.k1 (x0 : O_member_Node) (y15 : (List D_cut_Part) × Int) (v82 : Bool) : Option (O_member_Node) := cond v82 ((member_Node_enter.f x0 x0.promised_ y15.1).bind fun y167 => some y167) (some x0)
noncomputable def member_Node_install.f (x0 : O_member_Node) (x1 : Int) (x2 : D_list_Message) : Option (O_member_Node) := (cut_Unpart.f x2.2.2.2.2.2).bind fun y15 => cond (cond (cond (cond (y15.2 == (0 : Int)) (x1 == x2.2.1.2) false) (x1 != x0.me_) false) ((x2.2.1.1 == x0.promised_.1.1) && (x2.2.1.2 == x0.promised_.1.2)) false) ((member_Node_Flushing.f x0).bind fun y126 => cond y126 ((view_Same.f x2.2.2.2.2.1 x0.promised_.2).bind fun y131 => member_Node_install.k1 x0 y15 (cond (cond (cond (cond (cond (y15.2 == (0 : Int)) (x1 == x2.2.1.2) false) (x1 != x0.me_) false) ((x2.2.1.1 == x0.promised_.1.1) && (x2.2.1.2 == x0.promised_.1.2)) false) y126 false) y131 false)) (member_Node_install.k1 x0 y15 (cond (cond (cond (cond (cond (y15.2 == (0 : Int)) (x1 == x2.2.1.2) false) (x1 != x0.me_) false) ((x2.2.1.1 == x0.promised_.1.1) && (x2.2.1.2 == x0.promised_.1.2)) false) y126 false) false false))) (member_Node_install.k1 x0 y15 (cond (cond (cond (cond (cond (y15.2 == (0 : Int)) (x1 == x2.2.1.2) false) (x1 != x0.me_) false) ((x2.2.1.1 == x0.promised_.1.1) && (x2.2.1.2 == x0.promised_.1.2)) false) false false) false false))
set_option maxHeartbeats 8000000 in
theorem member_Node_install_ok {ok : Nat → Prop} {w0 w : World} {R : List Eng.Item} {g0_ : Nat} {a0_ : A_member_Node} {u2 : Value} {u4 : Value} {x0 : O_member_Node} {x1 : Int} {x2 : D_list_Message} {r : O_member_Node} (H : Eng.Own ok w0 w (box (oL_member_Node g0_ a0_ x0) :: R)) (hu3 : slR (tInt .i64) w (okOf ok w0 (box (oL_member_Node g0_ a0_ x0) :: R)) u2 x2.2.2.2.2.1) (hu5 : slR tStr w (okOf ok w0 (box (oL_member_Node g0_ a0_ x0) :: R)) u4 x2.2.2.2.2.2) (h : member_Node_install.f x0 x1 x2 = some r) :
    Calls Try.prog 30 #[.pointer (some ⟨g0_, 0, none⟩), .int .i64 x1, .agg #[.int .i64 x2.1, .int .i64 x2.2.1.1, .int .i64 x2.2.1.2, .int .i64 x2.2.2.1.1, .int .i64 x2.2.2.1.2, .int .i64 x2.2.2.2.1, u2, u4]] w fun e w' => ∃ v, e = .returned v ∧ ∃ (a1' : A_member_Node), v = .tuple #[] ∧ Eng.Own ok w0 w' (box (oL_member_Node g0_ a1' r) :: R) := by
  obtain ⟨A6, c7, rfl, H⟩ := H.openD hu3
  obtain ⟨A9, c10, rfl, H⟩ := H.openD hu5
  replace H := H.tailBox 3
  unfold member_Node_install.f at h
  refine enterN (args := [.pointer (some ⟨g0_, 0, none⟩), .int .i64 x1, .agg #[.int .i64 x2.1, .int .i64 x2.2.1.1, .int .i64 x2.2.1.2, .int .i64 x2.2.2.1.1, .int .i64 x2.2.2.1.2, .int .i64 x2.2.2.2.1, .slice A6 x2.2.2.2.2.1.length c7, .slice A9 x2.2.2.2.2.2.length c10]]) Try.func30 rfl Try.ntmps30 rfl rfl ?_
  refine nc_seq ?_
  refine nc ?_
  refine own_box H [.int .i64 x2.1, .int .i64 x2.2.1.1, .int .i64 x2.2.1.2, .int .i64 x2.2.2.1.1, .int .i64 x2.2.2.1.2, .int .i64 x2.2.2.2.1, .slice A6 x2.2.2.2.2.1.length c7, .slice A9 x2.2.2.2.2.2.length c10] rfl fun g13 w14 H => ?_
  refine nc_seq ?_
  refine nc ?_
  refine own_load H 0 rfl (by kernel_rfl) (j := 7) rfl ?_
  obtain ⟨y15, hy16, h⟩ := bindS h
  refine call_rule (by kernel_rfl) (cut_Unpart_ok (H.dat 1 rfl) hy16) fun v18 w17 ⟨u21, hv19, hu22, hb20⟩ => ?_
  subst hv19
  replace H := H.callDats hb20 [dSl t_cut_Part u21 y15.1] ⟨hu22, trivial⟩
  obtain ⟨A23, c24, hA25, _⟩ := H.sl 0 rfl
  subst hA25
  refine nc_cut (fun e w83 => ∃ (v82 : Bool), member_Node_install.k1 x0 y15 v82 = some r ∧ e = [(0, .pointer (some ⟨g0_, 0, none⟩)), (6, .slice A23 y15.1.length c24), (54, .bool v82)] ∧ Eng.Own ok w0 w83 [box (oL_member_Node g0_ a0_ x0), .dat (dSl t_cut_Part (.slice A23 y15.1.length c24) y15.1), box R]) ?_ ?_
  · skip
    obtain ⟨A85, c86, b87, al88, A89, c90, g91, a92, A93, c94, cs95, A96, c97, cs98, A99, c100, cs101⟩ := a0_
    replace H := H.openAs 4 (oU_member_Node g0_ ⟨A85, c86, b87, al88, A89, c90, g91, a92, A93, c94, cs95, A96, c97, cs98, A99, c100, cs101⟩ x0) rfl rfl
    try dsimp only [oU_member_Node, lastL, pickI, List.drop, List.take, List.set, List.eraseIdx, List.getElem?_cons_zero, List.getElem?_cons_succ, List.cons_append, List.nil_append, List.map] at H
    rcases Bool.eq_false_or_eq_true (cond (cond (cond (y15.2 == (0 : Int)) (x1 == x2.2.1.2) false) (x1 != x0.me_) false) ((x2.2.1.1 == x0.promised_.1.1) && (x2.2.1.2 == x0.promised_.1.2)) false) with hg125 | hg125
    · replace h := condT hg125 h
      obtain ⟨y126, hy127, h⟩ := bindS h
      rcases Bool.eq_false_or_eq_true y126 with hg130 | hg130
      · replace h := condT hg130 h
        obtain ⟨y131, hy132, h⟩ := bindS h
        try dsimp only [lastL, pickI, List.drop, List.take, List.set, List.eraseIdx, List.getElem?_cons_zero, List.getElem?_cons_succ, List.cons_append, List.nil_append, List.map] at H
        refine nc ?_
        refine draw_rule [] (by kernel_rfl) (by kernel_rfl) H ?_
        refine c_load 13 rfl (by kernel_rfl) (j := 2) rfl ?_
        refine c_load 0 rfl (by kernel_rfl) (j := 0) rfl ?_
        refine c_loadA (m := 2) 13 rfl (by kernel_rfl) (by kernel_rfl) [.int .i64 x2.2.1.1, .int .i64 x2.2.1.2] rfl rfl ?_
        refine c_loadA (m := 2) 0 rfl (by kernel_rfl) (by kernel_rfl) [.int .i64 x0.promised_.1.1, .int .i64 x0.promised_.1.2] rfl rfl ?_
        refine c_eql ((x2.2.1.1 == x0.promised_.1.1) && (x2.2.1.2 == x0.promised_.1.2)) (fun _ => (by kernel_rfl)) (fun _ => (by kernel_rfl)) ?_
        refine c_callRd [0, 1, 2, 3, 4, 5, 6, 7, 8, 9, 10, 11, 12, 13, 14, 15, 16] 12 (oL_member_Node g0_ (A85, c86, b87, al88, A89, c90, g91, a92, A93, c94, cs95, A96, c97, cs98, A99, c100, cs101) x0) (fun v X => v = .bool y126 ∧ X = []) (gT1 hg125 rfl) (by kernel_rfl) rfl rfl (fun _ H => Calls.mono (member_Node_Flushing_ok (x0 := x0) H hy127) fun e w' ⟨v, he, hv, H⟩ => ⟨v, he, _, ⟨hv, rfl⟩, H⟩) ?_
        rintro v128 X129 ⟨rfl, rfl⟩
        dsimp only [subLb, lastL, pickI, List.drop, List.take, List.set, List.eraseIdx, List.getElem?_cons_zero, List.getElem?_cons_succ, List.cons_append, List.nil_append, List.map]
        refine c_load 13 rfl (by kernel_rfl) (j := 6) rfl ?_
        refine c_load 0 rfl (by kernel_rfl) (j := 7) rfl ?_
        refine c_call (.bool y131) (by kernel_rfl) (fun _ _ H => view_Same_ok (H.dat 15 rfl) (H.dat 4 rfl) hy132) ?_
        intro w137 H
        dsimp only [lastL, pickI, List.drop, List.take, List.set, List.eraseIdx, List.getElem?_cons_zero, List.getElem?_cons_succ, List.cons_append, List.nil_append, List.map] at H
        replace H := (H.pickL [0, 1, 2, 3, 4, 5, 6, 7, 8, 9, 10, 11, 4, 12, 13, 14, 15, 16] rfl).shutAs 12 (oL_member_Node g0_ (A85, c86, b87, al88, A89, c90, g91, a92, A93, c94, cs95, A96, c97, cs98, A99, c100, cs101) x0) rfl
        try dsimp only [lastL, pickI, List.drop, List.take, List.set, List.eraseIdx, List.getElem?_cons_zero, List.getElem?_cons_succ, List.cons_append, List.nil_append, List.map] at H
        exact cut_inA ⟨_, h, rfl, H.pickL [0, 2, 6] rfl⟩
      · replace h := condF hg130 h
        try dsimp only [lastL, pickI, List.drop, List.take, List.set, List.eraseIdx, List.getElem?_cons_zero, List.getElem?_cons_succ, List.cons_append, List.nil_append, List.map] at H
        refine nc ?_
        refine draw_rule [] (by kernel_rfl) (by kernel_rfl) H ?_
        refine c_load 13 rfl (by kernel_rfl) (j := 2) rfl ?_
        refine c_load 0 rfl (by kernel_rfl) (j := 0) rfl ?_
        refine c_loadA (m := 2) 13 rfl (by kernel_rfl) (by kernel_rfl) [.int .i64 x2.2.1.1, .int .i64 x2.2.1.2] rfl rfl ?_
        refine c_loadA (m := 2) 0 rfl (by kernel_rfl) (by kernel_rfl) [.int .i64 x0.promised_.1.1, .int .i64 x0.promised_.1.2] rfl rfl ?_
        refine c_eql ((x2.2.1.1 == x0.promised_.1.1) && (x2.2.1.2 == x0.promised_.1.2)) (fun _ => (by kernel_rfl)) (fun _ => (by kernel_rfl)) ?_
        refine c_callRd [0, 1, 2, 3, 4, 5, 6, 7, 8, 9, 10, 11, 12, 13, 14, 15, 16] 12 (oL_member_Node g0_ (A85, c86, b87, al88, A89, c90, g91, a92, A93, c94, cs95, A96, c97, cs98, A99, c100, cs101) x0) (fun v X => v = .bool y126 ∧ X = []) (gT1 hg125 rfl) (by kernel_rfl) rfl rfl (fun _ H => Calls.mono (member_Node_Flushing_ok (x0 := x0) H hy127) fun e w' ⟨v, he, hv, H⟩ => ⟨v, he, _, ⟨hv, rfl⟩, H⟩) ?_
        rintro v128 X129 ⟨rfl, rfl⟩
        dsimp only [subLb, lastL, pickI, List.drop, List.take, List.set, List.eraseIdx, List.getElem?_cons_zero, List.getElem?_cons_succ, List.cons_append, List.nil_append, List.map]
        refine c_load 13 rfl (by kernel_rfl) (j := 6) rfl ?_
        refine c_load 0 rfl (by kernel_rfl) (j := 7) rfl ?_
        refine c_skipCL (.bool false) (gF1 ((pickT hg125).trans hg130)) ?_
        intro w138 H
        dsimp only [lastL, pickI, List.drop, List.take, List.set, List.eraseIdx, List.getElem?_cons_zero, List.getElem?_cons_succ, List.cons_append, List.nil_append, List.map] at H
        replace H := (H.pickL [0, 1, 2, 3, 4, 5, 6, 7, 8, 9, 10, 11, 4, 12, 13, 14, 15, 16] rfl).shutAs 12 (oL_member_Node g0_ (A85, c86, b87, al88, A89, c90, g91, a92, A93, c94, cs95, A96, c97, cs98, A99, c100, cs101) x0) rfl
        try dsimp only [lastL, pickI, List.drop, List.take, List.set, List.eraseIdx, List.getElem?_cons_zero, List.getElem?_cons_succ, List.cons_append, List.nil_append, List.map] at H
        exact cut_inA ⟨_, h, rfl, H.pickL [0, 2, 6] rfl⟩
    · replace h := condF hg125 h
      refine nc ?_
      refine draw_rule [] (by kernel_rfl) (by kernel_rfl) H ?_
      refine c_load 13 rfl (by kernel_rfl) (j := 2) rfl ?_
      refine c_load 0 rfl (by kernel_rfl) (j := 0) rfl ?_
      refine c_loadA (m := 2) 13 rfl (by kernel_rfl) (by kernel_rfl) [.int .i64 x2.2.1.1, .int .i64 x2.2.1.2] rfl rfl ?_
      refine c_loadA (m := 2) 0 rfl (by kernel_rfl) (by kernel_rfl) [.int .i64 x0.promised_.1.1, .int .i64 x0.promised_.1.2] rfl rfl ?_
      refine c_eql ((x2.2.1.1 == x0.promised_.1.1) && (x2.2.1.2 == x0.promised_.1.2)) (fun _ => (by kernel_rfl)) (fun _ => (by kernel_rfl)) ?_
      refine c_skipCL (.bool false) (gF1 hg125) ?_
      refine c_skipLD (.slice none 0 0) (gF1 (pickF hg125)) ?_
      refine c_skipLD (.slice none 0 0) (gF1 (pickF hg125)) ?_
      refine c_skipCL (.bool false) (gF1 (pickF hg125)) ?_
      intro w139 H
      replace H := (H.pickL [0, 1, 2, 3, 4, 5, 6, 7, 8, 9, 10, 11, 12, 13, 14, 15, 16] rfl).shutAs 12 (oL_member_Node g0_ (A85, c86, b87, al88, A89, c90, g91, a92, A93, c94, cs95, A96, c97, cs98, A99, c100, cs101) x0) rfl
      try dsimp only [lastL, pickI, List.drop, List.take, List.set, List.eraseIdx, List.getElem?_cons_zero, List.getElem?_cons_succ, List.cons_append, List.nil_append, List.map] at H
      exact cut_inA ⟨_, h, rfl, H.pickL [0, 1, 5] rfl⟩
  · rintro _ w140 ⟨v82, h, rfl, H⟩
    unfold member_Node_install.k1 at h
    refine nc_cond rfl (fun hc141 => ?_) (fun hc141 => ?_)
    · replace h := condT hc141 h
      refine nc ?_
      obtain ⟨A142, c143, b144, al145, A146, c147, g148, a149, A150, c151, cs152, A153, c154, cs155, A156, c157, cs158⟩ := a0_
      replace H := H.openAs 0 (oU_member_Node g0_ ⟨A142, c143, b144, al145, A146, c147, g148, a149, A150, c151, cs152, A153, c154, cs155, A156, c157, cs158⟩ x0) rfl rfl
      try dsimp only [oU_member_Node, lastL, pickI, List.drop, List.take, List.set, List.eraseIdx, List.getElem?_cons_zero, List.getElem?_cons_succ, List.cons_append, List.nil_append, List.map] at H
      refine own_loadA (m := 3) H 0 rfl (by kernel_rfl) (by kernel_rfl) [.int .i64 x0.promised_.1.1, .int .i64 x0.promised_.1.2, .slice A146 x0.promised_.2.length c147] rfl rfl ?_
      replace H := (H.pickL [0, 1, 2, 3, 4, 5, 6, 7, 8, 9, 10, 11, 4, 12, 13] rfl).shutAs 12 (oL_member_Node g0_ (A142, c143, b144, al145, A146, c147, g148, a149, A150, c151, cs152, A153, c154, cs155, A156, c157, cs158) x0) rfl
      try dsimp only [lastL, pickI, List.drop, List.take, List.set, List.eraseIdx, List.getElem?_cons_zero, List.getElem?_cons_succ, List.cons_append, List.nil_append, List.map] at H
      obtain ⟨y167, hy168, h⟩ := bindS h
      refine call_rule (by kernel_rfl) (member_Node_enter_ok (x0 := x0) (x1 := x0.promised_) H (H.dat 1 rfl) (H.dat 2 rfl) hy168) fun v171 w170 ⟨a169, hv172, H⟩ => ?_
      subst hv172
      replace h := Option.some.inj h
      subst h
      exact ret_inA [] ⟨_, rfl, a169, rfl, (H.pickL [0, 3] rfl).tailOpen 1 rfl⟩
    · replace h := condF hc141 h
      refine nc ?_
      replace h := Option.some.inj h
      subst h
      exact ret_inA [] ⟨_, rfl, a0_, rfl, (H.pickL [0, 2] rfl).tailOpen 1 rfl⟩
end Go.Proofs.Ytipoblinefamgaa.G
