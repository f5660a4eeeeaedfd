/- Walks, printed by a program of this proof's own. -/
import Derived.Test.YtipoblinefamgaaMB4
import Derived.KernelRfl
namespace Go.Proofs.Ytipoblinefamgaa.G
open Go.RowKit Go.Eng Go.Proofs
set_option linter.unusedVariables false
set_option maxRecDepth 20000
/-! (*gemot/member.Node).Take -/
noncomputable def member_Node_Take.k1 (v43 : O_member_Node) : Option ((List D_member_Out) × (List D_member_Event) × O_member_Node) := (member_Node_took.f v43).bind fun y76 => some (y76.1, y76.2.1, y76.2.2)
noncomputable def member_Node_Take.f (x0 : O_member_Node) (x1 : Int) (x2 : D_list_Message) : Option ((List D_member_Out) × (List D_member_Event) × O_member_Node) := cond (x2.1 == (3 : Int)) ((member_Node_propose.f x0 x1 x2).bind fun y48 => member_Node_Take.k1 y48) (cond (x2.1 == (4 : Int)) ((member_Node_told.f x0 x1 x2).bind fun y55 => member_Node_Take.k1 y55) (cond (x2.1 == (5 : Int)) ((member_Node_install.f x0 x1 x2).bind fun y62 => member_Node_Take.k1 y62) (cond (x2.1 == (6 : Int)) ((member_Node_cast.f x0 x1 x2).bind fun y69 => member_Node_Take.k1 y69) (member_Node_Take.k1 x0))))
set_option maxHeartbeats 8000000 in
theorem member_Node_Take_ok {ok : Nat → Prop} {w0 w : World} {R : List Eng.Item} {g0_ : Nat} {a0_ : A_member_Node} {u2 : Value} {u4 : Value} {x0 : O_member_Node} {x1 : Int} {x2 : D_list_Message} {r : (List D_member_Out) × (List D_member_Event) × O_member_Node} (H : Eng.Own ok w0 w (box (oL_member_Node g0_ a0_ x0) :: R)) (hu3 : slR (tInt .i64) w (okOf ok w0 (box (oL_member_Node g0_ a0_ x0) :: R)) u2 x2.2.2.2.2.1) (hu5 : slR tStr w (okOf ok w0 (box (oL_member_Node g0_ a0_ x0) :: R)) u4 x2.2.2.2.2.2) (h : member_Node_Take.f x0 x1 x2 = some r) :
    Calls Try.prog 14 #[.pointer (some ⟨g0_, 0, none⟩), .int .i64 x1, .agg #[.int .i64 x2.1, .int .i64 x2.2.1.1, .int .i64 x2.2.1.2, .int .i64 x2.2.2.1.1, .int .i64 x2.2.2.1.2, .int .i64 x2.2.2.2.1, u2, u4]] w fun e w' => ∃ v, e = .returned v ∧ ∃ (A1' : Option Addr) (c2' : Nat) (cs3' : List Value) (A4' : Option Addr) (c5' : Nat) (cs6' : List Value) (a7' : A_member_Node), v = .tuple #[.slice A1' r.1.length c2', .slice A4' r.2.1.length c5'] ∧ Eng.Own ok w0 w' (.dat (dRows t_member_Out r.1 cs3') :: .row (.slice A1' r.1.length c2') 40 9 r.1.length cs3' :: .dat (dRows t_member_Event r.2.1 cs6') :: .row (.slice A4' r.2.1.length c5') 51 7 r.2.1.length cs6' :: box (oL_member_Node g0_ a7' r.2.2) :: R) := by
  obtain ⟨A6, c7, rfl, H⟩ := H.openD hu3
  obtain ⟨A9, c10, rfl, H⟩ := H.openD hu5
  replace H := H.tailBox 3
  unfold member_Node_Take.f at h
  refine enterN (args := [.pointer (some ⟨g0_, 0, none⟩), .int .i64 x1, .agg #[.int .i64 x2.1, .int .i64 x2.2.1.1, .int .i64 x2.2.1.2, .int .i64 x2.2.2.1.1, .int .i64 x2.2.2.1.2, .int .i64 x2.2.2.2.1, .slice A6 x2.2.2.2.2.1.length c7, .slice A9 x2.2.2.2.2.2.length c10]]) Try.func14 rfl Try.ntmps14 rfl rfl ?_
  refine nc_seq ?_
  refine nc ?_
  refine own_box H [.int .i64 x2.1, .int .i64 x2.2.1.1, .int .i64 x2.2.1.2, .int .i64 x2.2.2.1.1, .int .i64 x2.2.2.1.2, .int .i64 x2.2.2.2.1, .slice A6 x2.2.2.2.2.1.length c7, .slice A9 x2.2.2.2.2.2.length c10] rfl fun g13 w14 H => ?_
  refine nc_cut (fun e w45 => ∃ (a44 : A_member_Node) (v43 : O_member_Node), member_Node_Take.k1 v43 = some r ∧ e = [(0, .pointer (some ⟨g0_, 0, none⟩))] ∧ Eng.Own ok w0 w45 [box (oL_member_Node g0_ a44 v43), box R]) ?_ ?_
  · skip
    refine nc_seq ?_
    refine nc ?_
    refine own_load H 0 rfl (by kernel_rfl) (j := 0) rfl ?_
    refine nc_block ?_
    refine nc_seq ?_
    refine nc ?_
    refine nc_cond rfl (fun hc47 => ?_) (fun hc47 => ?_)
    · replace h := condT hc47 h
      refine nc ?_
      refine own_loadA (m := 8) H 0 rfl (by kernel_rfl) (by kernel_rfl) [.int .i64 x2.1, .int .i64 x2.2.1.1, .int .i64 x2.2.1.2, .int .i64 x2.2.2.1.1, .int .i64 x2.2.2.1.2, .int .i64 x2.2.2.2.1, .slice A6 x2.2.2.2.2.1.length c7, .slice A9 x2.2.2.2.2.2.length c10] rfl rfl ?_
      replace H := H.pickL [3, 0, 1, 2, 4] rfl
      try dsimp only [lastL, pickI, List.drop, List.take, List.set, List.eraseIdx, List.getElem?_cons_zero, List.getElem?_cons_succ, List.cons_append, List.nil_append, List.map] at H
      obtain ⟨y48, hy49, h⟩ := bindS h
      refine call_rule (by kernel_rfl) (member_Node_propose_ok (x0 := x0) (x2 := x2) H (H.dat 3 rfl) (H.dat 2 rfl) hy49) fun v52 w51 ⟨a50, hv53, H⟩ => ?_
      subst hv53
      exact cut_inA ⟨a50, _, h, rfl, H.pickL [0, 4] rfl⟩
    · replace h := condF hc47 h
      refine nc_seq ?_
      refine nc ?_
      refine nc_cond rfl (fun hc54 => ?_) (fun hc54 => ?_)
      · replace h := condT hc54 h
        refine nc ?_
        refine own_loadA (m := 8) H 0 rfl (by kernel_rfl) (by kernel_rfl) [.int .i64 x2.1, .int .i64 x2.2.1.1, .int .i64 x2.2.1.2, .int .i64 x2.2.2.1.1, .int .i64 x2.2.2.1.2, .int .i64 x2.2.2.2.1, .slice A6 x2.2.2.2.2.1.length c7, .slice A9 x2.2.2.2.2.2.length c10] rfl rfl ?_
        replace H := H.pickL [3, 0, 1, 2, 4] rfl
        try dsimp only [lastL, pickI, List.drop, List.take, List.set, List.eraseIdx, List.getElem?_cons_zero, List.getElem?_cons_succ, List.cons_append, List.nil_append, List.map] at H
        obtain ⟨y55, hy56, h⟩ := bindS h
        refine call_rule (by kernel_rfl) (member_Node_told_ok (x0 := x0) (x2 := x2) H (H.dat 3 rfl) (H.dat 2 rfl) hy56) fun v59 w58 ⟨a57, hv60, H⟩ => ?_
        subst hv60
        exact cut_inA ⟨a57, _, h, rfl, H.pickL [0, 4] rfl⟩
      · replace h := condF hc54 h
        refine nc_seq ?_
        refine nc ?_
        refine nc_cond rfl (fun hc61 => ?_) (fun hc61 => ?_)
        · replace h := condT hc61 h
          refine nc ?_
          refine own_loadA (m := 8) H 0 rfl (by kernel_rfl) (by kernel_rfl) [.int .i64 x2.1, .int .i64 x2.2.1.1, .int .i64 x2.2.1.2, .int .i64 x2.2.2.1.1, .int .i64 x2.2.2.1.2, .int .i64 x2.2.2.2.1, .slice A6 x2.2.2.2.2.1.length c7, .slice A9 x2.2.2.2.2.2.length c10] rfl rfl ?_
          replace H := H.pickL [3, 0, 1, 2, 4] rfl
          try dsimp only [lastL, pickI, List.drop, List.take, List.set, List.eraseIdx, List.getElem?_cons_zero, List.getElem?_cons_succ, List.cons_append, List.nil_append, List.map] at H
          obtain ⟨y62, hy63, h⟩ := bindS h
          refine call_rule (by kernel_rfl) (member_Node_install_ok (x0 := x0) (x2 := x2) H (H.dat 3 rfl) (H.dat 2 rfl) hy63) fun v66 w65 ⟨a64, hv67, H⟩ => ?_
          subst hv67
          exact cut_inA ⟨a64, _, h, rfl, H.pickL [0, 4] rfl⟩
        · replace h := condF hc61 h
          refine nc_seq ?_
          refine nc ?_
          refine nc_cond rfl (fun hc68 => ?_) (fun hc68 => ?_)
          · replace h := condT hc68 h
            refine nc ?_
            refine own_loadA (m := 8) H 0 rfl (by kernel_rfl) (by kernel_rfl) [.int .i64 x2.1, .int .i64 x2.2.1.1, .int .i64 x2.2.1.2, .int .i64 x2.2.2.1.1, .int .i64 x2.2.2.1.2, .int .i64 x2.2.2.2.1, .slice A6 x2.2.2.2.2.1.length c7, .slice A9 x2.2.2.2.2.2.length c10] rfl rfl ?_
            replace H := H.pickL [3, 0, 1, 2, 4] rfl
            try dsimp only [lastL, pickI, List.drop, List.take, List.set, List.eraseIdx, List.getElem?_cons_zero, List.getElem?_cons_succ, List.cons_append, List.nil_append, List.map] at H
            obtain ⟨y69, hy70, h⟩ := bindS h
            refine call_rule (by kernel_rfl) (member_Node_cast_ok (x0 := x0) (x2 := x2) H (H.dat 3 rfl) (H.dat 2 rfl) hy70) fun v73 w72 ⟨a71, hv74, H⟩ => ?_
            subst hv74
            exact cut_inA ⟨a71, _, h, rfl, H.pickL [0, 4] rfl⟩
          · replace h := condF hc68 h
            refine nc ?_
            exact cut_inA ⟨a0_, _, h, rfl, H.pickL [3, 4] rfl⟩
  · rintro _ w75 ⟨a44, v43, h, rfl, H⟩
    unfold member_Node_Take.k1 at h
    refine nc_seq ?_
    refine nc ?_
    obtain ⟨y76, hy77, h⟩ := bindS h
    refine call_rule (by kernel_rfl) (member_Node_took_ok (x0 := v43) H hy77) fun v88 w87 ⟨A78, c79, cs80, A82, c83, cs84, a86, hv89, H⟩ => ?_
    subst hv89
    refine nc ?_
    replace h := Option.some.inj h
    subst h
    exact ret_inA [.slice A78 y76.1.length c79, .slice A82 y76.2.1.length c83] ⟨_, rfl, A78, c79, cs80, A82, c83, cs84, a86, rfl, (H.pickL [0, 1, 2, 3, 4, 5] rfl).tailOpen 5 rfl⟩
end Go.Proofs.Ytipoblinefamgaa.G
