/- Walks, printed by a program of this proof's own. -/
import Derived.Test.YtipoblinefamgaaM1
import Derived.Test.YtipoblinefamgaaListPut
import Derived.KernelRfl
namespace Go.Proofs.Ytipoblinefamgaa.G
open Go.RowKit Go.Eng Go.Proofs
set_option linter.unusedVariables false
set_option maxRecDepth 20000
/-! gemot/list.right -/
noncomputable def list_right.f (x0 : D_api_Id) : Option (Bool) := some (cond (cond (cond (decide (x0.1 ≥ (0 : Int))) (decide (x0.1 ≤ (2147483647 : Int))) false) (decide (x0.2 ≥ (0 : Int))) false) (decide (x0.2 ≤ (8 : Int))) false)
set_option maxHeartbeats 4000000 in
theorem list_right_ok {ok : Nat → Prop} {w : World} {x0 : D_api_Id} {r : Bool} (h : list_right.f x0 = some r) :
    Calls Try.prog 78 #[.agg #[.int .i64 x0.1, .int .i64 x0.2]] w fun e w' => ∃ v, e = .returned v ∧ (v = .bool r ∧ Bel w.heap.size w w') := by
  have H : Eng.Own ok w w [] := Eng.Own.nil ok w
  unfold list_right.f at h
  refine enterN (args := [.agg #[.int .i64 x0.1, .int .i64 x0.2]]) Try.func78 rfl Try.ntmps78 rfl rfl ?_
  refine nc_seq ?_
  refine nc ?_
  refine own_box H [.int .i64 x0.1, .int .i64 x0.2] rfl fun g2 w3 H => ?_
  refine nc_seq ?_
  refine nc ?_
  refine own_load H 0 rfl (by kernel_rfl) (j := 0) rfl ?_
  refine own_load H 0 rfl (by kernel_rfl) (j := 0) rfl ?_
  refine own_load H 0 rfl (by kernel_rfl) (j := 1) rfl ?_
  refine own_load H 0 rfl (by kernel_rfl) (j := 1) rfl ?_
  refine nc ?_
  replace h := Option.some.inj h
  subst h
  exact ret_inA [.bool (cond (cond (cond (decide (x0.1 ≥ (0 : Int))) (decide (x0.1 ≤ (2147483647 : Int))) false) (decide (x0.2 ≥ (0 : Int))) false) (decide (x0.2 ≤ (8 : Int))) false)] ⟨_, rfl, ⟨rfl, H.frame⟩⟩
/-! gemot/list.Right -/
noncomputable def list_Right.b1 (x0 : D_list_Message) (v73 : Int) (v74 : Int) : Option ((Int × Int) ⊕ (Unit ⊕ Bool)) := cond (decide (v74 < (x0.2.2.2.2.1.length : Int))) ((idxL x0.2.2.2.2.1 v74).bind fun y107 => cond (cond (decide (y107 ≤ v73)) true (decide (y107 > (8 : Int)))) (some (.inr (Sum.inr false))) (some (.inl (y107, (IntKind.i64.wrap (v74 + (1 : Int))))))) (some (.inr (Sum.inl ())))
noncomputable def list_Right.k2 (v135 : Bool) : Option (Bool) := some v135
noncomputable def list_Right.k3 (x0 : D_list_Message) : Option (Bool) := (list_Put.f x0.2.2.2.2.2).bind fun y115 => cond (y115.2 == (0 : Int)) ((list_right.f (x0.2.1.1, x0.2.1.2)).bind fun y139 => cond y139 ((list_right.f (x0.2.2.1.1, x0.2.2.1.2)).bind fun y146 => list_Right.k2 (cond (cond (cond (cond (cond (cond (y115.2 == (0 : Int)) y139 false) y146 false) (decide (x0.1 ≥ (0 : Int))) false) (decide (x0.1 ≤ (20 : Int))) false) (decide (x0.2.2.2.1 ≥ (0 : Int))) false) (decide (x0.2.2.2.1 ≤ (2147483647 : Int))) false)) (list_Right.k2 (cond (cond (cond (cond (cond (cond (y115.2 == (0 : Int)) y139 false) false false) (decide ((0 : Int) ≥ (0 : Int))) false) (decide ((0 : Int) ≤ (20 : Int))) false) (decide ((0 : Int) ≥ (0 : Int))) false) (decide ((0 : Int) ≤ (2147483647 : Int))) false))) (list_Right.k2 (cond (cond (cond (cond (cond (cond (y115.2 == (0 : Int)) false false) false false) (decide ((0 : Int) ≥ (0 : Int))) false) (decide ((0 : Int) ≤ (20 : Int))) false) (decide ((0 : Int) ≥ (0 : Int))) false) (decide ((0 : Int) ≤ (2147483647 : Int))) false))
noncomputable def list_Right.f (x0 : D_list_Message) : Option (Bool) := (loopM (fun s103 : Int × Int => list_Right.b1 x0 s103.1 s103.2) ((0 : Int), (0 : Int))).bind (Sum.elim (fun (o101 : Unit) => list_Right.k3 x0) (fun (o102 : Bool) => some o102))
set_option maxHeartbeats 4000000 in
theorem list_Right_ok {ok : Nat → Prop} {w : World} {u1 u6 : Value} {x0 : D_list_Message} {r : Bool} (hu2 : slR (tInt .i64) w ok u1 x0.2.2.2.2.1) (hu7 : slR tStr w ok u6 x0.2.2.2.2.2) (h : list_Right.f x0 = some r) :
    Calls Try.prog 63 #[.agg #[.int .i64 x0.1, .int .i64 x0.2.1.1, .int .i64 x0.2.1.2, .int .i64 x0.2.2.1.1, .int .i64 x0.2.2.1.2, .int .i64 x0.2.2.2.1, u1, u6]] w fun e w' => ∃ v, e = .returned v ∧ (v = .bool r ∧ Bel w.heap.size w w') := by
  have H : Eng.Own ok w w [] := Eng.Own.nil ok w
  obtain ⟨A3, c4, rfl, H⟩ := H.arg rfl hu2
  obtain ⟨A8, c9, rfl, H⟩ := H.arg rfl hu7
  unfold list_Right.f at h
  refine enterN (args := [.agg #[.int .i64 x0.1, .int .i64 x0.2.1.1, .int .i64 x0.2.1.2, .int .i64 x0.2.2.1.1, .int .i64 x0.2.2.1.2, .int .i64 x0.2.2.2.1, .slice A3 x0.2.2.2.2.1.length c4, .slice A8 x0.2.2.2.2.2.length c9]]) Try.func63 rfl Try.ntmps63 rfl rfl ?_
  refine nc_seq ?_
  refine nc ?_
  refine own_box H [.int .i64 x0.1, .int .i64 x0.2.1.1, .int .i64 x0.2.1.2, .int .i64 x0.2.2.1.1, .int .i64 x0.2.2.1.2, .int .i64 x0.2.2.2.1, .slice A3 x0.2.2.2.2.1.length c4, .slice A8 x0.2.2.2.2.2.length c9] rfl fun g12 w13 H => ?_
  refine nc_seq ?_
  refine nc ?_
  refine nc_cut (fun e w63 => list_Right.k3 x0 = some r ∧ e = [(1, .pointer (some ⟨g12, 0, none⟩))] ∧ Eng.Own ok w w63 [.blk g12 [.int .i64 x0.1, .int .i64 x0.2.1.1, .int .i64 x0.2.1.2, .int .i64 x0.2.2.1.1, .int .i64 x0.2.2.1.2, .int .i64 x0.2.2.2.1, .slice A3 x0.2.2.2.2.1.length c4, .slice A8 x0.2.2.2.2.2.length c9] 38, .dat (dSl (tInt .i64) (.slice A3 x0.2.2.2.2.1.length c4) x0.2.2.2.2.1), .dat (dSl tStr (.slice A8 x0.2.2.2.2.2.length c9) x0.2.2.2.2.2)]) ?_ ?_
  · skip
    refine nc_seq ?_
    refine nc ?_
    refine own_load H 0 rfl (by kernel_rfl) (j := 6) rfl ?_
    refine nc_block ?_
    obtain ⟨o93, hL94, hO95⟩ := bindS h
    obtain ⟨n96, hL94⟩ := loopS hL94
    refine nc ?_
    refine loop_ruleA (fun k e w100 => ∃ (v73 : Int) (v74 : Int), iterM (fun s103 : Int × Int => list_Right.b1 x0 s103.1 s103.2) k (v73, v74) = some o93 ∧ e = [(1, .pointer (some ⟨g12, 0, none⟩)), (3, .int .i64 v73), (9, .slice A3 x0.2.2.2.2.1.length c4), (10, .int .i64 (x0.2.2.2.2.1.length : Int)), (11, .int .i64 v74)] ∧ Eng.Own ok w w100 [.blk g12 [.int .i64 x0.1, .int .i64 x0.2.1.1, .int .i64 x0.2.1.2, .int .i64 x0.2.2.1.1, .int .i64 x0.2.2.1.2, .int .i64 x0.2.2.2.1, .slice A3 x0.2.2.2.2.1.length c4, .slice A8 x0.2.2.2.2.2.length c9] 38, .dat (dSl (tInt .i64) (.slice A3 x0.2.2.2.2.1.length c4) x0.2.2.2.2.1), .dat (dSl tStr (.slice A8 x0.2.2.2.2.2.length c9) x0.2.2.2.2.2)]) ⟨_, _, hL94, rfl, H.pickL [0, 2, 1] rfl⟩ ?_
    rintro k105 _ w104 ⟨v73, v74, hL94, rfl, H⟩
    obtain ⟨k99, rfl, q97, h, hq98⟩ := iterS hL94
    replace h : list_Right.b1 x0 v73 v74 = some q97 := h
    unfold list_Right.b1 at h
    refine nc_seq ?_
    refine nc ?_
    refine nc_seq ?_
    refine nc_cond rfl (fun hc106 => ?_) (fun hc106 => ?_)
    · replace h := condT hc106 h
      refine nc ?_
      refine nc_seq ?_
      refine nc_block ?_
      refine nc_seq ?_
      refine nc ?_
      obtain ⟨y107, hx108, h⟩ := bindS h
      obtain ⟨a109, cs110, rfl, hR111, H⟩ := H.elemI 1 rfl hx108
      obtain rfl : cs110 = [.int .i64 y107] := hR111
      refine idxA_rule (e := 3) 1 _ (by kernel_rfl) (by kernel_rfl) (idxL_some hx108).1 (idxL_some hx108).2.1 ?_
      refine own_loadD H 0 rfl 0 (by kernel_rfl) rfl ?_
      refine nc_seq ?_
      refine nc_seq ?_
      refine nc ?_
      refine nc_cond rfl (fun hc113 => ?_) (fun hc113 => ?_)
      · replace h := condT hc113 h
        refine nc_seq ?_
        refine nc ?_
        refine nc ?_
        cases h
        replace hq98 : (Sum.inr false) = o93 := hq98
        subst hq98
        have h := hO95
        try dsimp only [Sum.elim_inl, Sum.elim_inr] at h
        replace h := Option.some.inj h
        subst h
        exact ret_inA [.bool false] ⟨_, rfl, ⟨rfl, H.frame⟩⟩
      · replace h := condF hc113 h
        refine nc ?_
        refine nc ?_
        refine nc ?_
        cases h
        exact again_inA ⟨_, _, hq98, rfl, H.pickL [1, 2, 3] rfl⟩
    · replace h := condF hc106 h
      refine nc ?_
      cases h
      replace hq98 : (Sum.inl ()) = o93 := hq98
      subst hq98
      have h := hO95
      try dsimp only [Sum.elim_inl, Sum.elim_inr] at h
      exact cut_inA ⟨h, rfl, H.pickL [0, 1, 2] rfl⟩
  · rintro _ w114 ⟨h, rfl, H⟩
    unfold list_Right.k3 at h
    refine nc_seq ?_
    refine nc ?_
    refine own_load H 0 rfl (by kernel_rfl) (j := 7) rfl ?_
    obtain ⟨y115, hy116, h⟩ := bindS h
    refine call_rule (by kernel_rfl) (list_Put_ok (H.dat 2 rfl) hy116) fun v118 w117 ⟨hv119, hb120⟩ => ?_
    subst hv119
    replace H := H.call hb120
    refine nc_cut (fun e w136 => ∃ (v135 : Bool), list_Right.k2 v135 = some r ∧ e = [(2, .bool v135)] ∧ Eng.Own ok w w136 []) ?_ ?_
    · skip
      refine nc ?_
      refine own_loadA (m := 2) H 0 rfl (by kernel_rfl) (by kernel_rfl) [.int .i64 x0.2.1.1, .int .i64 x0.2.1.2] rfl rfl ?_
      rcases Bool.eq_false_or_eq_true (y115.2 == (0 : Int)) with hg138 | hg138
      · replace h := condT hg138 h
        obtain ⟨y139, hy140, h⟩ := bindS h
        refine call_yes (gT1 hg138 rfl) (by kernel_rfl) (list_right_ok (ok := fun _ => False) (x0 := (x0.2.1.1, x0.2.1.2)) hy140) fun v142 w141 ⟨hv143, hb144⟩ => ?_
        subst hv143
        replace H := H.call hb144
        refine own_loadA (m := 2) H 0 rfl (by kernel_rfl) (by kernel_rfl) [.int .i64 x0.2.2.1.1, .int .i64 x0.2.2.1.2] rfl rfl ?_
        rcases Bool.eq_false_or_eq_true y139 with hg145 | hg145
        · replace h := condT hg145 h
          obtain ⟨y146, hy147, h⟩ := bindS h
          refine call_yes (gT1 ((pickT hg138).trans hg145) rfl) (by kernel_rfl) (list_right_ok (ok := fun _ => False) (x0 := (x0.2.2.1.1, x0.2.2.1.2)) hy147) fun v149 w148 ⟨hv150, hb151⟩ => ?_
          subst hv150
          replace H := H.call hb151
          refine own_load H 0 rfl (by kernel_rfl) (j := 0) rfl ?_
          refine own_load H 0 rfl (by kernel_rfl) (j := 0) rfl ?_
          refine own_load H 0 rfl (by kernel_rfl) (j := 5) rfl ?_
          refine own_load H 0 rfl (by kernel_rfl) (j := 5) rfl ?_
          exact cut_inA ⟨_, h, rfl, H.pickL [] rfl⟩
        · replace h := condF hg145 h
          refine call_skip (.bool false) (gF1 ((pickT hg138).trans hg145)) ?_
          refine skipLD (.int .i64 0) (gF1 (pickF ((pickT hg138).trans hg145))) ?_
          refine skipLD (.int .i64 0) (gF1 (pickF (pickF ((pickT hg138).trans hg145)))) ?_
          refine skipLD (.int .i64 0) (gF1 (pickF (pickF (pickF ((pickT hg138).trans hg145))))) ?_
          refine skipLD (.int .i64 0) (gF1 (pickF (pickF (pickF (pickF ((pickT hg138).trans hg145)))))) ?_
          exact cut_inA ⟨_, h, rfl, H.pickL [] rfl⟩
      · replace h := condF hg138 h
        refine call_skip (.bool false) (gF1 hg138) ?_
        refine skipLD (.agg #[.int .i64 0, .int .i64 0]) (gF1 (pickF hg138)) ?_
        refine call_skip (.bool false) (gF1 (pickF hg138)) ?_
        refine skipLD (.int .i64 0) (gF1 (pickF (pickF hg138))) ?_
        refine skipLD (.int .i64 0) (gF1 (pickF (pickF (pickF hg138)))) ?_
        refine skipLD (.int .i64 0) (gF1 (pickF (pickF (pickF (pickF hg138))))) ?_
        refine skipLD (.int .i64 0) (gF1 (pickF (pickF (pickF (pickF (pickF hg138)))))) ?_
        exact cut_inA ⟨_, h, rfl, H.pickL [] rfl⟩
    · rintro _ w152 ⟨v135, h, rfl, H⟩
      unfold list_Right.k2 at h
      refine nc ?_
      replace h := Option.some.inj h
      subst h
      exact ret_inA [.bool v135] ⟨_, rfl, ⟨rfl, H.frame⟩⟩
/-! gemot/list.Pack -/
noncomputable def list_Pack.b1 (x0 : D_list_Message) (v189 : List (List UInt8)) (v193 : Int) : Option (((List (List UInt8)) × Int) ⊕ (List (List UInt8))) := cond (decide (v193 < ((([x0.1, x0.2.1.1, x0.2.1.2, x0.2.2.1.1, x0.2.2.1.2, x0.2.2.2.1, (x0.2.2.2.2.1.length : Int)] : List Int) ++ x0.2.2.2.2.1).length : Int))) ((idxL (([x0.1, x0.2.1.1, x0.2.1.2, x0.2.2.1.1, x0.2.2.1.2, x0.2.2.2.1, (x0.2.2.2.2.1.length : Int)] : List Int) ++ x0.2.2.2.2.1) v193).bind fun y265 => (term_Number.f (IntKind.u64.wrap y265)).bind fun y271 => roomM 16 (v189.length + 1) (some (.inl ((v189 ++ [y271]), (IntKind.i64.wrap (v193 + (1 : Int))))))) (some (.inr v189))
noncomputable def list_Pack.k2 (x0 : D_list_Message) (v158 : List (List UInt8)) : Option ((List UInt8) × Int) := roomM 16 (v158.length + x0.2.2.2.2.2.length) ((list_Put.f (v158 ++ x0.2.2.2.2.2)).bind fun y296 => some (y296.1, y296.2))
noncomputable def list_Pack.f (x0 : D_list_Message) : Option ((List UInt8) × Int) := (list_Right.f (x0.1, (x0.2.1.1, x0.2.1.2), (x0.2.2.1.1, x0.2.2.1.2), x0.2.2.2.1, x0.2.2.2.2.1, x0.2.2.2.2.2)).bind fun y14 => cond (!y14) (some (([] : List UInt8), (1 : Int))) (roomM 8 (([x0.1, x0.2.1.1, x0.2.1.2, x0.2.2.1.1, x0.2.2.1.2, x0.2.2.2.1, (x0.2.2.2.2.1.length : Int)] : List Int).length + x0.2.2.2.2.1.length) ((loopM (fun s261 : (List (List UInt8)) × Int => list_Pack.b1 x0 s261.1 s261.2) (([] : List (List UInt8)), (0 : Int))).bind (fun (o259 : (List (List UInt8))) => list_Pack.k2 x0 o259)))
set_option maxHeartbeats 4000000 in
theorem list_Pack_ok {ok : Nat → Prop} {w : World} {u1 u6 : Value} {x0 : D_list_Message} {r : (List UInt8) × Int} (hu2 : slR (tInt .i64) w ok u1 x0.2.2.2.2.1) (hu7 : slR tStr w ok u6 x0.2.2.2.2.2) (h : list_Pack.f x0 = some r) :
    Calls Try.prog 52 #[.agg #[.int .i64 x0.1, .int .i64 x0.2.1.1, .int .i64 x0.2.1.2, .int .i64 x0.2.2.1.1, .int .i64 x0.2.2.1.2, .int .i64 x0.2.2.2.1, u1, u6]] w fun e w' => ∃ v, e = .returned v ∧ (v = .tuple #[.string (bs r.1), .int .i64 r.2] ∧ Bel w.heap.size w w') := by
  have H : Eng.Own ok w w [] := Eng.Own.nil ok w
  obtain ⟨A3, c4, rfl, H⟩ := H.arg rfl hu2
  obtain ⟨A8, c9, rfl, H⟩ := H.arg rfl hu7
  unfold list_Pack.f at h
  refine enterN (args := [.agg #[.int .i64 x0.1, .int .i64 x0.2.1.1, .int .i64 x0.2.1.2, .int .i64 x0.2.2.1.1, .int .i64 x0.2.2.1.2, .int .i64 x0.2.2.2.1, .slice A3 x0.2.2.2.2.1.length c4, .slice A8 x0.2.2.2.2.2.length c9]]) Try.func52 rfl Try.ntmps52 rfl rfl ?_
  refine nc_seq ?_
  refine nc ?_
  refine own_box H [.int .i64 x0.1, .int .i64 x0.2.1.1, .int .i64 x0.2.1.2, .int .i64 x0.2.2.1.1, .int .i64 x0.2.2.1.2, .int .i64 x0.2.2.2.1, .slice A3 x0.2.2.2.2.1.length c4, .slice A8 x0.2.2.2.2.2.length c9] rfl fun g12 w13 H => ?_
  refine nc_seq ?_
  refine nc_seq ?_
  refine nc ?_
  refine own_loadA (m := 8) H 0 rfl (by kernel_rfl) (by kernel_rfl) [.int .i64 x0.1, .int .i64 x0.2.1.1, .int .i64 x0.2.1.2, .int .i64 x0.2.2.1.1, .int .i64 x0.2.2.1.2, .int .i64 x0.2.2.2.1, .slice A3 x0.2.2.2.2.1.length c4, .slice A8 x0.2.2.2.2.2.length c9] rfl rfl ?_
  obtain ⟨y14, hy15, h⟩ := bindS h
  refine call_rule (by kernel_rfl) (list_Right_ok (x0 := (x0.1, (x0.2.1.1, x0.2.1.2), (x0.2.2.1.1, x0.2.2.1.2), x0.2.2.2.1, x0.2.2.2.2.1, x0.2.2.2.2.2)) (H.dat 2 rfl) (H.dat 1 rfl) hy15) fun v17 w16 ⟨hv18, hb19⟩ => ?_
  subst hv18
  replace H := H.call hb19
  refine nc_cond rfl (fun hc20 => ?_) (fun hc20 => ?_)
  · replace h := condT hc20 h
    refine nc_seq ?_
    refine nc ?_
    refine nc ?_
    replace h := Option.some.inj h
    subst h
    exact ret_inA [.string (bs ([] : List UInt8)), .int .i64 1] ⟨_, rfl, ⟨rfl, H.frame⟩⟩
  · replace h := condF hc20 h
    refine nc ?_
    refine nc_seq ?_
    refine nc ?_
    refine own_load H 0 rfl (by kernel_rfl) (j := 0) rfl ?_
    refine own_load H 0 rfl (by kernel_rfl) (j := 1) rfl ?_
    refine own_load H 0 rfl (by kernel_rfl) (j := 2) rfl ?_
    refine own_load H 0 rfl (by kernel_rfl) (j := 3) rfl ?_
    refine own_load H 0 rfl (by kernel_rfl) (j := 4) rfl ?_
    refine own_load H 0 rfl (by kernel_rfl) (j := 5) rfl ?_
    refine own_load H 0 rfl (by kernel_rfl) (j := 6) rfl ?_
    refine own_buildSlice (e := 3) (sz := 1) (z := .int .i64 0) (cs := [.int .i64 x0.1, .int .i64 x0.2.1.1, .int .i64 x0.2.1.2, .int .i64 x0.2.2.1.1, .int .i64 x0.2.2.1.2, .int .i64 x0.2.2.2.1, .int .i64 (x0.2.2.2.2.1.length : Int)]) H (by kernel_rfl) (by kernel_rfl) (by kernel_rfl) rfl rfl rfl rfl fun g22 w23 H => ?_
    have hr := H.addDat (dRows (tInt .i64) ([x0.1, x0.2.1.1, x0.2.1.2, x0.2.2.1.1, x0.2.2.1.2, x0.2.2.2.1, (x0.2.2.2.2.1.length : Int)] : List Int) [.int .i64 x0.1, .int .i64 x0.2.1.1, .int .i64 x0.2.1.2, .int .i64 x0.2.2.1.1, .int .i64 x0.2.2.1.2, .int .i64 x0.2.2.2.1, .int .i64 (x0.2.2.2.2.1.length : Int)]) ⟨_, _, rfl, rfl, ⟨_, _, rfl, rfl, ⟨_, _, rfl, rfl, ⟨_, _, rfl, rfl, ⟨_, _, rfl, rfl, ⟨_, _, rfl, rfl, ⟨_, _, rfl, rfl, rfl⟩⟩⟩⟩⟩⟩⟩
    replace H := (hr.pickL (1 :: 0 :: (List.range 3).map (· + 2)) rfl).blkRow (n := 7) (sz := 1) rfl (by decide)
    refine own_load H 2 rfl (by kernel_rfl) (j := 6) rfl ?_
    obtain ⟨hr27, h⟩ := roomS h
    refine own_appendD (k := (tInt .i64)) (z := .int .i64 0) 8 H 0 1 4 rfl rfl rfl rfl (by kernel_rfl) (by kernel_rfl) rfl rfl hr27 rfl fun z28 cs29 w30 H => ?_
    obtain ⟨A31, c32, rfl, _, _⟩ := H.rowSl 0 rfl
    refine nc_seq ?_
    refine nc ?_
    refine nc_cut (fun e w162 => ∃ (A159 : Option Addr) (c160 : Nat) (cs161 : List Value) (v158 : List (List UInt8)), list_Pack.k2 x0 v158 = some r ∧ e = [(1, .pointer (some ⟨g12, 0, none⟩)), (5, .slice A159 v158.length c160)] ∧ Eng.Own ok w w162 [.blk g12 [.int .i64 x0.1, .int .i64 x0.2.1.1, .int .i64 x0.2.1.2, .int .i64 x0.2.2.1.1, .int .i64 x0.2.2.1.2, .int .i64 x0.2.2.2.1, .slice A3 x0.2.2.2.2.1.length c4, .slice A8 x0.2.2.2.2.2.length c9] 38, .dat (dSl (tInt .i64) (.slice A3 x0.2.2.2.2.1.length c4) x0.2.2.2.2.1), .dat (dSl tStr (.slice A8 x0.2.2.2.2.2.length c9) x0.2.2.2.2.2), .dat (dRows tStr v158 cs161), .row (.slice A159 v158.length c160) 45 1 v158.length cs161]) ?_ ?_
    · skip
      refine nc_seq ?_
      refine nc ?_
      refine nc_block ?_
      replace H := H.nilRowD tStr 45
      obtain ⟨o251, hL252, hO253⟩ := bindS h
      obtain ⟨n254, hL252⟩ := loopS hL252
      refine nc ?_
      refine loop_ruleA (fun k e w258 => ∃ (A190 : Option Addr) (c191 : Nat) (cs192 : List Value) (v189 : List (List UInt8)) (v193 : Int), iterM (fun s261 : (List (List UInt8)) × Int => list_Pack.b1 x0 s261.1 s261.2) k (v189, v193) = some o251 ∧ e = [(1, .pointer (some ⟨g12, 0, none⟩)), (5, .slice A190 v189.length c191), (34, .slice A31 (([x0.1, x0.2.1.1, x0.2.1.2, x0.2.2.1.1, x0.2.2.1.2, x0.2.2.2.1, (x0.2.2.2.2.1.length : Int)] : List Int) ++ x0.2.2.2.2.1).length c32), (35, .int .i64 ((([x0.1, x0.2.1.1, x0.2.1.2, x0.2.2.1.1, x0.2.2.1.2, x0.2.2.2.1, (x0.2.2.2.2.1.length : Int)] : List Int) ++ x0.2.2.2.2.1).length : Int)), (36, .int .i64 v193)] ∧ Eng.Own ok w w258 [.blk g12 [.int .i64 x0.1, .int .i64 x0.2.1.1, .int .i64 x0.2.1.2, .int .i64 x0.2.2.1.1, .int .i64 x0.2.2.1.2, .int .i64 x0.2.2.2.1, .slice A3 x0.2.2.2.2.1.length c4, .slice A8 x0.2.2.2.2.2.length c9] 38, .dat (dSl (tInt .i64) (.slice A3 x0.2.2.2.2.1.length c4) x0.2.2.2.2.1), .dat (dSl tStr (.slice A8 x0.2.2.2.2.2.length c9) x0.2.2.2.2.2), .dat (dRows tStr v189 cs192), .row (.slice A190 v189.length c191) 45 1 v189.length cs192, .dat (dRows (tInt .i64) (([x0.1, x0.2.1.1, x0.2.1.2, x0.2.2.1.1, x0.2.2.1.2, x0.2.2.2.1, (x0.2.2.2.2.1.length : Int)] : List Int) ++ x0.2.2.2.2.1) cs29), .row (.slice A31 (([x0.1, x0.2.1.1, x0.2.1.2, x0.2.2.1.1, x0.2.2.1.2, x0.2.2.2.1, (x0.2.2.2.2.1.length : Int)] : List Int) ++ x0.2.2.2.2.1).length c32) 3 1 (([x0.1, x0.2.1.1, x0.2.1.2, x0.2.2.1.1, x0.2.2.1.2, x0.2.2.2.1, (x0.2.2.2.2.1.length : Int)] : List Int) ++ x0.2.2.2.2.1).length cs29]) ⟨none, 0, [], _, _, hL252, rfl, H.pickL [4, 6, 5, 0, 1, 3, 2] rfl⟩ ?_
      rintro k263 _ w262 ⟨A190, c191, cs192, v189, v193, hL252, rfl, H⟩
      obtain ⟨k257, rfl, q255, h, hq256⟩ := iterS hL252
      replace h : list_Pack.b1 x0 v189 v193 = some q255 := h
      unfold list_Pack.b1 at h
      refine nc_seq ?_
      refine nc ?_
      refine nc_seq ?_
      refine nc_cond rfl (fun hc264 => ?_) (fun hc264 => ?_)
      · replace h := condT hc264 h
        refine nc ?_
        refine nc_seq ?_
        refine nc_block ?_
        refine nc_seq ?_
        refine nc ?_
        obtain ⟨y265, hx266, h⟩ := bindS h
        obtain ⟨a267, _, rfl, _, _⟩ := H.rowElem (k := (tInt .i64)) 6 5 rfl rfl rfl hx266
        refine idxA_rule (e := 3) 1 _ (by kernel_rfl) (by kernel_rfl) (idxL_some hx266).1 (idxL_some hx266).2.1 ?_
        obtain ⟨cs268, hR269, hC270⟩ := H.rowElemJ (k := (tInt .i64)) 6 5 rfl rfl rfl hx266
        replace hR269 : cs268 = [.int .i64 y265] := by exact hR269
        subst hR269
        refine load_at hC270 0 (by kernel_rfl) rfl ?_
        refine nc ?_
        obtain ⟨y271, hy272, h⟩ := bindS h
        refine call_rule (by kernel_rfl) (term_Number_ok hy272) fun v274 w273 ⟨hv275, hb276⟩ => ?_
        subst hv275
        replace H := H.call hb276
        refine own_buildSlice (e := 45) (sz := 1) (z := .string ⟨#[]⟩) (cs := [.string (bs y271)]) H (by kernel_rfl) (by kernel_rfl) (by kernel_rfl) rfl rfl rfl rfl fun g278 w279 H => ?_
        obtain ⟨hr280, h⟩ := roomS h
        refine own_append1 (k := tStr) (z := .string ⟨#[]⟩) (x := y271) 16 H 4 3 rfl rfl rfl rfl (by kernel_rfl) (by kernel_rfl) rfl rfl hr280 rfl fun z281 cs282 w283 H => ?_
        obtain ⟨A284, c285, rfl, _, _⟩ := H.rowSl 4 rfl
        refine nc ?_
        cases h
        exact again_inA ⟨A284, c285, cs282, _, _, hq256, rfl, H.pickL [0, 1, 2, 3, 4, 5, 6] rfl⟩
      · replace h := condF hc264 h
        refine nc ?_
        cases h
        replace hq256 : v189 = o251 := hq256
        subst hq256
        have h := hO253
        try dsimp only [Sum.elim_inl, Sum.elim_inr] at h
        exact cut_inA ⟨A190, c191, cs192, _, h, rfl, H.pickL [0, 1, 2, 3, 4] rfl⟩
    · rintro _ w287 ⟨A159, c160, cs161, v158, h, rfl, H⟩
      unfold list_Pack.k2 at h
      refine nc_seq ?_
      refine nc ?_
      refine own_load H 0 rfl (by kernel_rfl) (j := 7) rfl ?_
      obtain ⟨hr288, h⟩ := roomS h
      refine own_appendD (k := tStr) (z := .string ⟨#[]⟩) 16 H 4 3 2 rfl rfl rfl rfl (by kernel_rfl) (by kernel_rfl) rfl rfl hr288 rfl fun z289 cs290 w291 H => ?_
      obtain ⟨A292, c293, rfl, _, _⟩ := H.rowSl 4 rfl
      replace H := H.freeze (k := tStr) 4 3 rfl rfl
      obtain ⟨y296, hy297, h⟩ := bindS h
      refine call_rule (by kernel_rfl) (list_Put_ok (H.dat 4 rfl) hy297) fun v299 w298 ⟨hv300, hb301⟩ => ?_
      subst hv300
      replace H := H.call hb301
      refine nc ?_
      replace h := Option.some.inj h
      subst h
      exact ret_inA [.string (bs y296.1), .int .i64 y296.2] ⟨_, rfl, ⟨rfl, H.frame⟩⟩
/-! cmp.isNaN(int) -/
noncomputable def cmp_isNaN_int.f (x0 : Int) : Option (Bool) := some (x0 != x0)
set_option maxHeartbeats 4000000 in
theorem cmp_isNaN_int_ok {ok : Nat → Prop} {w : World} {x0 : Int} {r : Bool} (h : cmp_isNaN_int.f x0 = some r) :
    Calls Try.prog 56 #[.int .i64 x0] w fun e w' => ∃ v, e = .returned v ∧ (v = .bool r ∧ Bel w.heap.size w w') := by
  have H : Eng.Own ok w w [] := Eng.Own.nil ok w
  unfold cmp_isNaN_int.f at h
  refine enterN (args := [.int .i64 x0]) Try.func56 rfl Try.ntmps56 rfl rfl ?_
  refine nc_seq ?_
  refine nc ?_
  refine nc_seq ?_
  refine nc ?_
  refine nc ?_
  replace h := Option.some.inj h
  subst h
  exact ret_inA [.bool (x0 != x0)] ⟨_, rfl, ⟨rfl, H.frame⟩⟩
/-! cmp.Compare(int) -/
noncomputable def cmp_Compare_int.f (x0 : Int) (x1 : Int) : Option (Int) := (cmp_isNaN_int.f x0).bind fun y1 => (cmp_isNaN_int.f x1).bind fun y7 => cond y1 (cond y7 (some (0 : Int)) (some (-1))) (cond y7 (some (1 : Int)) (cond (decide (x0 < x1)) (some (-1)) (cond (decide (x0 > x1)) (some (1 : Int)) (some (0 : Int)))))
set_option maxHeartbeats 4000000 in
theorem cmp_Compare_int_ok {ok : Nat → Prop} {w : World} {x0 : Int} {x1 : Int} {r : Int} (h : cmp_Compare_int.f x0 x1 = some r) :
    Calls Try.prog 43 #[.int .i64 x0, .int .i64 x1] w fun e w' => ∃ v, e = .returned v ∧ (v = .int .i64 r ∧ Bel w.heap.size w w') := by
  have H : Eng.Own ok w w [] := Eng.Own.nil ok w
  unfold cmp_Compare_int.f at h
  refine enterN (args := [.int .i64 x0, .int .i64 x1]) Try.func43 rfl Try.ntmps43 rfl rfl ?_
  refine nc_seq ?_
  refine nc ?_
  refine nc_seq ?_
  refine nc ?_
  obtain ⟨y1, hy2, h⟩ := bindS h
  refine call_rule (by kernel_rfl) (cmp_isNaN_int_ok (ok := fun _ => False) hy2) fun v4 w3 ⟨hv5, hb6⟩ => ?_
  subst hv5
  replace H := H.call hb6
  refine nc_seq ?_
  refine nc ?_
  obtain ⟨y7, hy8, h⟩ := bindS h
  refine call_rule (by kernel_rfl) (cmp_isNaN_int_ok (ok := fun _ => False) hy8) fun v10 w9 ⟨hv11, hb12⟩ => ?_
  subst hv11
  replace H := H.call hb12
  refine nc_seq ?_
  refine nc_seq ?_
  refine nc ?_
  refine nc_cond rfl (fun hc13 => ?_) (fun hc13 => ?_)
  · replace h := condT hc13 h
    refine nc_seq ?_
    refine nc_seq ?_
    refine nc ?_
    refine nc_cond rfl (fun hc14 => ?_) (fun hc14 => ?_)
    · replace h := condT hc14 h
      refine nc_seq ?_
      refine nc ?_
      refine nc ?_
      replace h := Option.some.inj h
      subst h
      exact ret_inA [.int .i64 0] ⟨_, rfl, ⟨rfl, H.frame⟩⟩
    · replace h := condF hc14 h
      refine nc ?_
      refine nc_seq ?_
      refine nc ?_
      refine nc ?_
      replace h := Option.some.inj h
      subst h
      exact ret_inA [.int .i64 (-1)] ⟨_, rfl, ⟨rfl, H.frame⟩⟩
  · replace h := condF hc13 h
    refine nc ?_
    refine nc_seq ?_
    refine nc_seq ?_
    refine nc ?_
    refine nc_cond rfl (fun hc15 => ?_) (fun hc15 => ?_)
    · replace h := condT hc15 h
      refine nc_seq ?_
      refine nc ?_
      refine nc ?_
      replace h := Option.some.inj h
      subst h
      exact ret_inA [.int .i64 1] ⟨_, rfl, ⟨rfl, H.frame⟩⟩
    · replace h := condF hc15 h
      refine nc ?_
      refine nc_seq ?_
      refine nc_seq ?_
      refine nc ?_
      refine nc_cond rfl (fun hc16 => ?_) (fun hc16 => ?_)
      · replace h := condT hc16 h
        refine nc_seq ?_
        refine nc ?_
        refine nc ?_
        replace h := Option.some.inj h
        subst h
        exact ret_inA [.int .i64 (-1)] ⟨_, rfl, ⟨rfl, H.frame⟩⟩
      · replace h := condF hc16 h
        refine nc ?_
        refine nc_seq ?_
        refine nc_seq ?_
        refine nc ?_
        refine nc_cond rfl (fun hc17 => ?_) (fun hc17 => ?_)
        · replace h := condT hc17 h
          refine nc_seq ?_
          refine nc ?_
          refine nc ?_
          replace h := Option.some.inj h
          subst h
          exact ret_inA [.int .i64 1] ⟨_, rfl, ⟨rfl, H.frame⟩⟩
        · replace h := condF hc17 h
          refine nc ?_
          refine nc_seq ?_
          refine nc ?_
          refine nc ?_
          replace h := Option.some.inj h
          subst h
          exact ret_inA [.int .i64 0] ⟨_, rfl, ⟨rfl, H.frame⟩⟩
/-! (gemot/cut.place).against -/
noncomputable def cut_place_against.f (x0 : D_cut_place) (x1 : D_cut_place) : Option (Int) := (view_Less.f (x0.1.1, x0.1.2) (x1.1.1, x1.1.2)).bind fun y7 => cond y7 (some (-1)) ((view_Less.f (x1.1.1, x1.1.2) (x0.1.1, x0.1.2)).bind fun y14 => cond y14 (some (1 : Int)) ((cmp_Compare_int.f x0.2 x1.2).bind fun y21 => some y21))
set_option maxHeartbeats 4000000 in
theorem cut_place_against_ok {ok : Nat → Prop} {w : World} {x0 : D_cut_place} {x1 : D_cut_place} {r : Int} (h : cut_place_against.f x0 x1 = some r) :
    Calls Try.prog 50 #[.agg #[.int .i64 x0.1.1, .int .i64 x0.1.2, .int .i64 x0.2], .agg #[.int .i64 x1.1.1, .int .i64 x1.1.2, .int .i64 x1.2]] w fun e w' => ∃ v, e = .returned v ∧ (v = .int .i64 r ∧ Bel w.heap.size w w') := by
  have H : Eng.Own ok w w [] := Eng.Own.nil ok w
  unfold cut_place_against.f at h
  refine enterN (args := [.agg #[.int .i64 x0.1.1, .int .i64 x0.1.2, .int .i64 x0.2], .agg #[.int .i64 x1.1.1, .int .i64 x1.1.2, .int .i64 x1.2]]) Try.func50 rfl Try.ntmps50 rfl rfl ?_
  refine nc_seq ?_
  refine nc ?_
  refine own_box H [.int .i64 x0.1.1, .int .i64 x0.1.2, .int .i64 x0.2] rfl fun g2 w3 H => ?_
  refine own_box H [.int .i64 x1.1.1, .int .i64 x1.1.2, .int .i64 x1.2] rfl fun g5 w6 H => ?_
  refine nc_seq ?_
  refine nc_block ?_
  refine nc_seq ?_
  refine nc ?_
  refine own_loadA (m := 2) H 1 rfl (by kernel_rfl) (by kernel_rfl) [.int .i64 x0.1.1, .int .i64 x0.1.2] rfl rfl ?_
  refine own_loadA (m := 2) H 0 rfl (by kernel_rfl) (by kernel_rfl) [.int .i64 x1.1.1, .int .i64 x1.1.2] rfl rfl ?_
  obtain ⟨y7, hy8, h⟩ := bindS h
  refine call_rule (by kernel_rfl) (view_Less_ok (x0 := (x0.1.1, x0.1.2)) (x1 := (x1.1.1, x1.1.2)) hy8) fun v10 w9 ⟨hv11, hb12⟩ => ?_
  subst hv11
  replace H := H.call hb12
  refine nc_cond rfl (fun hc13 => ?_) (fun hc13 => ?_)
  · replace h := condT hc13 h
    refine nc_seq ?_
    refine nc ?_
    refine nc ?_
    replace h := Option.some.inj h
    subst h
    exact ret_inA [.int .i64 (-1)] ⟨_, rfl, ⟨rfl, H.frame⟩⟩
  · replace h := condF hc13 h
    refine nc_seq ?_
    refine nc ?_
    refine own_loadA (m := 2) H 0 rfl (by kernel_rfl) (by kernel_rfl) [.int .i64 x1.1.1, .int .i64 x1.1.2] rfl rfl ?_
    refine own_loadA (m := 2) H 1 rfl (by kernel_rfl) (by kernel_rfl) [.int .i64 x0.1.1, .int .i64 x0.1.2] rfl rfl ?_
    obtain ⟨y14, hy15, h⟩ := bindS h
    refine call_rule (by kernel_rfl) (view_Less_ok (x0 := (x1.1.1, x1.1.2)) (x1 := (x0.1.1, x0.1.2)) hy15) fun v17 w16 ⟨hv18, hb19⟩ => ?_
    subst hv18
    replace H := H.call hb19
    refine nc_cond rfl (fun hc20 => ?_) (fun hc20 => ?_)
    · replace h := condT hc20 h
      refine nc_seq ?_
      refine nc ?_
      refine nc ?_
      replace h := Option.some.inj h
      subst h
      exact ret_inA [.int .i64 1] ⟨_, rfl, ⟨rfl, H.frame⟩⟩
    · replace h := condF hc20 h
      refine nc ?_
      refine nc_seq ?_
      refine nc ?_
      refine own_load H 1 rfl (by kernel_rfl) (j := 2) rfl ?_
      refine own_load H 0 rfl (by kernel_rfl) (j := 2) rfl ?_
      obtain ⟨y21, hy22, h⟩ := bindS h
      refine call_rule (by kernel_rfl) (cmp_Compare_int_ok (ok := fun _ => False) hy22) fun v24 w23 ⟨hv25, hb26⟩ => ?_
      subst hv25
      replace H := H.call hb26
      refine nc ?_
      replace h := Option.some.inj h
      subst h
      exact ret_inA [.int .i64 y21] ⟨_, rfl, ⟨rfl, H.frame⟩⟩
/-! gemot/cut.right -/
noncomputable def cut_right.k1 (x0 : List D_cut_Part) (v908 : Int) (v1415 : Bool) : Option (Int ⊕ (Unit ⊕ Bool)) := cond v1415 (some (.inr (Sum.inr false))) (some (.inl (IntKind.i64.wrap (v908 + (1 : Int)))))
noncomputable def cut_right.b2 (x0 : List D_cut_Part) (v908 : Int) : Option (Int ⊕ (Unit ⊕ Bool)) := cond (decide (v908 < (x0.length : Int))) ((idxL x0 v908).bind fun y1366 => cond (cond (cond (decide (y1366.2.1 < (1 : Int))) true (decide (y1366.2.1 > (8 : Int)))) true (decide (y1366.1.2 > (8 : Int)))) (cut_right.k1 x0 v908 (cond (cond (cond (decide (y1366.2.1 < (1 : Int))) true (decide (y1366.2.1 > (8 : Int)))) true (decide (y1366.1.2 > (8 : Int)))) true (cond (decide (v908 > (0 : Int))) (decide ((0 : Int) ≥ (0 : Int))) false))) (cond (decide (v908 > (0 : Int))) ((idxL x0 (IntKind.i64.wrap (v908 - (1 : Int)))).bind fun y1421 => (cut_Part_place.f ((y1421.1.1, y1421.1.2), y1421.2.1, y1421.2.2)).bind fun y1432 => (cut_Part_place.f ((y1366.1.1, y1366.1.2), y1366.2.1, y1366.2.2)).bind fun y1438 => (cut_place_against.f ((y1432.1.1, y1432.1.2), y1432.2) ((y1438.1.1, y1438.1.2), y1438.2)).bind fun y1444 => cut_right.k1 x0 v908 (cond (cond (cond (decide (y1366.2.1 < (1 : Int))) true (decide (y1366.2.1 > (8 : Int)))) true (decide (y1366.1.2 > (8 : Int)))) true (cond (decide (v908 > (0 : Int))) (decide (y1444 ≥ (0 : Int))) false))) (cut_right.k1 x0 v908 (cond (cond (cond (decide (y1366.2.1 < (1 : Int))) true (decide (y1366.2.1 > (8 : Int)))) true (decide (y1366.1.2 > (8 : Int)))) true (cond (decide (v908 > (0 : Int))) (decide ((0 : Int) ≥ (0 : Int))) false))))) (some (.inr (Sum.inl ())))
noncomputable def cut_right.k3 : Option (Bool) := some true
noncomputable def cut_right.f (x0 : List D_cut_Part) : Option (Bool) := (loopM (fun s1274 : Int => cut_right.b2 x0 s1274) (0 : Int)).bind (Sum.elim (fun (o1272 : Unit) => cut_right.k3) (fun (o1273 : Bool) => some o1273))
set_option maxHeartbeats 4000000 in
theorem cut_right_ok {ok : Nat → Prop} {w : World} {u1 : Value} {x0 : List D_cut_Part} {r : Bool} (hu2 : slR t_cut_Part w ok u1 x0) (h : cut_right.f x0 = some r) :
    Calls Try.prog 35 #[u1] w fun e w' => ∃ v, e = .returned v ∧ (v = .bool r ∧ Bel w.heap.size w w') := by
  have H : Eng.Own ok w w [] := Eng.Own.nil ok w
  obtain ⟨A3, c4, rfl, H⟩ := H.arg rfl hu2
  unfold cut_right.f at h
  refine enterN (args := [.slice A3 x0.length c4]) Try.func35 rfl Try.ntmps35 rfl rfl ?_
  refine nc_seq ?_
  refine nc ?_
  refine nc_cut (fun e w729 => cut_right.k3 = some r ∧ e = [] ∧ Eng.Own ok w w729 []) ?_ ?_
  · skip
    refine nc_seq ?_
    refine nc ?_
    refine nc_block ?_
    obtain ⟨o1264, hL1265, hO1266⟩ := bindS h
    obtain ⟨n1267, hL1265⟩ := loopS hL1265
    refine nc ?_
    refine loop_ruleA (fun k e w1271 => ∃ (v908 : Int), iterM (fun s1274 : Int => cut_right.b2 x0 s1274) k v908 = some o1264 ∧ e = [(0, .slice A3 x0.length c4), (5, .slice A3 x0.length c4), (6, .int .i64 (x0.length : Int)), (7, .int .i64 v908)] ∧ Eng.Own ok w w1271 [.dat (dSl t_cut_Part (.slice A3 x0.length c4) x0)]) ⟨_, hL1265, rfl, H.pickL [0] rfl⟩ ?_
    rintro k1276 _ w1275 ⟨v908, hL1265, rfl, H⟩
    obtain ⟨k1270, rfl, q1268, h, hq1269⟩ := iterS hL1265
    replace h : cut_right.b2 x0 v908 = some q1268 := h
    unfold cut_right.b2 at h
    refine nc_seq ?_
    refine nc ?_
    refine nc_seq ?_
    refine nc_cond rfl (fun hc1277 => ?_) (fun hc1277 => ?_)
    · replace h := condT hc1277 h
      refine nc ?_
      refine nc_seq ?_
      refine nc_block ?_
      refine nc_seq ?_
      refine nc ?_
      obtain ⟨y1366, hx1367, h⟩ := bindS h
      obtain ⟨a1368, cs1369, rfl, hR1370, H⟩ := H.elemI 0 rfl hx1367
      obtain ⟨u1372, rfl, hu1373⟩ := cut_Part_cells hR1370
      obtain ⟨A1374, c1375, rfl, H⟩ := H.openD hu1373
      refine idxA_rule (e := 57) 4 _ (by kernel_rfl) (by kernel_rfl) (idxL_some hx1367).1 (idxL_some hx1367).2.1 ?_
      refine own_loadDA (m := 4) H 1 rfl 0 (by kernel_rfl) (by kernel_rfl) [.int .i64 y1366.1.1, .int .i64 y1366.1.2, .int .i64 y1366.2.1, .slice A1374 y1366.2.2.length c1375] rfl rfl ?_
      refine own_alloc (z := .agg #[.int .i64 0, .int .i64 0, .int .i64 0, .slice none 0 0]) H (by kernel_rfl) [.int .i64 0, .int .i64 0, .int .i64 0, .slice none 0 0] rfl fun g1378 w1379 H => ?_
      refine own_storeB (m := 4) H 0 rfl (by kernel_rfl) [.int .i64 y1366.1.1, .int .i64 y1366.1.2, .int .i64 y1366.2.1, .slice A1374 y1366.2.2.length c1375] rfl rfl rfl rfl fun w1380 H => ?_
      refine nc_cut (fun e w1416 => ∃ (v1415 : Bool), cut_right.k1 x0 v908 v1415 = some q1268 ∧ e = [(0, .slice (some a1368) x0.length c4), (5, .slice (some a1368) x0.length c4), (6, .int .i64 (x0.length : Int)), (7, .int .i64 v908), (41, .bool v1415)] ∧ Eng.Own ok w w1416 [.dat (dSl t_cut_Part (.slice (some a1368) x0.length c4) x0)]) ?_ ?_
      · skip
        rcases Bool.eq_false_or_eq_true (cond (cond (decide (y1366.2.1 < (1 : Int))) true (decide (y1366.2.1 > (8 : Int)))) true (decide (y1366.1.2 > (8 : Int)))) with hg1418 | hg1418
        · replace h := condT hg1418 h
          refine nc ?_
          refine draw_rule [] (by kernel_rfl) (by kernel_rfl) H ?_
          refine c_load 0 rfl (by kernel_rfl) (j := 2) rfl ?_
          refine c_load 0 rfl (by kernel_rfl) (j := 2) rfl ?_
          refine c_load 0 rfl (by kernel_rfl) (j := 1) rfl ?_
          refine c_skipIA (.pointer (some ⟨0, 0, none⟩)) (by first | exact gFr (gF0 hg1418) | exact (gF0 hg1418) | rfl) ?_
          refine c_skipLD (.agg #[.int .i64 0, .int .i64 0, .int .i64 0, .slice none 0 0]) (by first | exact gFr (gF0 hg1418) | exact (gF0 hg1418) | rfl) ?_
          refine c_skipCL (.agg #[.int .i64 0, .int .i64 0, .int .i64 0]) (by first | exact gFr (gF0 hg1418) | exact (gF0 hg1418) | rfl) ?_
          refine c_skipLD (.agg #[.int .i64 0, .int .i64 0, .int .i64 0, .slice none 0 0]) (by first | exact gFr (gF0 hg1418) | exact (gF0 hg1418) | rfl) ?_
          refine c_skipCL (.agg #[.int .i64 0, .int .i64 0, .int .i64 0]) (by first | exact gFr (gF0 hg1418) | exact (gF0 hg1418) | rfl) ?_
          refine c_skipCL (.int .i64 0) (by first | exact gFr (gF0 hg1418) | exact (gF0 hg1418) | rfl) ?_
          intro w1419 H
          exact cut_inA ⟨_, h, rfl, H.pickL [3] rfl⟩
        · replace h := condF hg1418 h
          rcases Bool.eq_false_or_eq_true (decide (v908 > (0 : Int))) with hg1420 | hg1420
          · replace h := condT hg1420 h
            obtain ⟨y1421, hx1422, h⟩ := bindS h
            obtain ⟨cs1424, hR1425, H⟩ := H.elemJ 3 rfl hx1422
            obtain ⟨u1427, rfl, hu1428⟩ := cut_Part_cells hR1425
            obtain ⟨A1429, c1430, rfl, H⟩ := H.openD hu1428
            obtain ⟨y1432, hy1433, h⟩ := bindS h
            obtain ⟨y1438, hy1439, h⟩ := bindS h
            obtain ⟨y1444, hy1445, h⟩ := bindS h
            refine nc ?_
            refine draw_rule [] (by kernel_rfl) (by kernel_rfl) H ?_
            refine c_load 2 rfl (by kernel_rfl) (j := 2) rfl ?_
            refine c_load 2 rfl (by kernel_rfl) (j := 2) rfl ?_
            refine c_load 2 rfl (by kernel_rfl) (j := 1) rfl ?_
            refine c_idxA (e := 57) 4 _ (by kernel_rfl) (by kernel_rfl) (idxL_some hx1422).1 (idxL_some hx1422).2.1 ?_
            refine c_loadDA (m := 4) 1 rfl 0 (by kernel_rfl) (by kernel_rfl) [.int .i64 y1421.1.1, .int .i64 y1421.1.2, .int .i64 y1421.2.1, .slice A1429 y1421.2.2.length c1430] rfl rfl ?_
            refine c_call (.agg #[.int .i64 y1432.1.1, .int .i64 y1432.1.2, .int .i64 y1432.2]) (by kernel_rfl) (fun _ _ H => cut_Part_place_ok (x0 := ((y1421.1.1, y1421.1.2), y1421.2.1, y1421.2.2)) (H.dat 0 rfl) hy1433) ?_
            refine c_loadA (m := 4) 2 rfl (by kernel_rfl) (by kernel_rfl) [.int .i64 y1366.1.1, .int .i64 y1366.1.2, .int .i64 y1366.2.1, .slice A1374 y1366.2.2.length c1375] rfl rfl ?_
            refine c_call (.agg #[.int .i64 y1438.1.1, .int .i64 y1438.1.2, .int .i64 y1438.2]) (by kernel_rfl) (fun _ _ H => cut_Part_place_ok (x0 := ((y1366.1.1, y1366.1.2), y1366.2.1, y1366.2.2)) (H.dat 3 rfl) hy1439) ?_
            refine c_call (.int .i64 y1444) (by kernel_rfl) (fun _ _ H => cut_place_against_ok (ok := fun _ => False) (x0 := ((y1432.1.1, y1432.1.2), y1432.2)) (x1 := ((y1438.1.1, y1438.1.2), y1438.2)) hy1445) ?_
            intro w1450 H
            exact cut_inA ⟨_, h, rfl, H.pickL [5] rfl⟩
          · replace h := condF hg1420 h
            refine nc ?_
            refine draw_rule [] (by kernel_rfl) (by kernel_rfl) H ?_
            refine c_load 0 rfl (by kernel_rfl) (j := 2) rfl ?_
            refine c_load 0 rfl (by kernel_rfl) (j := 2) rfl ?_
            refine c_load 0 rfl (by kernel_rfl) (j := 1) rfl ?_
            refine c_skipIA (.pointer (some ⟨0, 0, none⟩)) (gF1 hg1420) ?_
            refine c_skipLD (.agg #[.int .i64 0, .int .i64 0, .int .i64 0, .slice none 0 0]) (gF1 hg1420) ?_
            refine c_skipCL (.agg #[.int .i64 0, .int .i64 0, .int .i64 0]) (gF1 hg1420) ?_
            refine c_skipLD (.agg #[.int .i64 0, .int .i64 0, .int .i64 0, .slice none 0 0]) (gF1 hg1420) ?_
            refine c_skipCL (.agg #[.int .i64 0, .int .i64 0, .int .i64 0]) (gF1 hg1420) ?_
            refine c_skipCL (.int .i64 0) (gF1 hg1420) ?_
            intro w1451 H
            exact cut_inA ⟨_, h, rfl, H.pickL [3] rfl⟩
      · rintro _ w1452 ⟨v1415, h, rfl, H⟩
        unfold cut_right.k1 at h
        refine nc_cond rfl (fun hc1453 => ?_) (fun hc1453 => ?_)
        · replace h := condT hc1453 h
          refine nc_seq ?_
          refine nc ?_
          refine nc ?_
          cases h
          replace hq1269 : (Sum.inr false) = o1264 := hq1269
          subst hq1269
          have h := hO1266
          try dsimp only [Sum.elim_inl, Sum.elim_inr] at h
          replace h := Option.some.inj h
          subst h
          exact ret_inA [.bool false] ⟨_, rfl, ⟨rfl, H.frame⟩⟩
        · replace h := condF hc1453 h
          refine nc ?_
          refine nc ?_
          cases h
          exact again_inA ⟨_, hq1269, rfl, H.pickL [0] rfl⟩
    · replace h := condF hc1277 h
      refine nc ?_
      cases h
      replace hq1269 : (Sum.inl ()) = o1264 := hq1269
      subst hq1269
      have h := hO1266
      try dsimp only [Sum.elim_inl, Sum.elim_inr] at h
      exact cut_inA ⟨h, rfl, H.pickL [] rfl⟩
  · rintro _ w1454 ⟨h, rfl, H⟩
    unfold cut_right.k3 at h
    refine nc_seq ?_
    refine nc ?_
    refine nc ?_
    replace h := Option.some.inj h
    subst h
    exact ret_inA [.bool true] ⟨_, rfl, ⟨rfl, H.frame⟩⟩
/-! gemot/cut.row -/
noncomputable def cut_row.b1 (x0 : List (List UInt8)) (x1 : List Int) (v172 : List (List UInt8)) (v176 : Int) : Option (((List (List UInt8)) × Int) ⊕ ((List (List UInt8)) ⊕ ((List UInt8) × Bool))) := cond (decide (v176 < (x1.length : Int))) ((idxL x1 v176).bind fun y251 => cond (cond (decide (y251 < (0 : Int))) true (decide (y251 > (2147483647 : Int)))) (some (.inr (Sum.inr (([] : List UInt8), false)))) ((term_Number.f (IntKind.u64.wrap y251)).bind fun y258 => roomM 16 (v172.length + 1) (some (.inl ((v172 ++ [y258]), (IntKind.i64.wrap (v176 + (1 : Int)))))))) (some (.inr (Sum.inl v172)))
noncomputable def cut_row.k2 (x0 : List (List UInt8)) (v140 : List (List UInt8)) : Option ((List UInt8) × Bool) := roomM 16 (v140.length + x0.length) ((list_Put.f (v140 ++ x0)).bind fun y283 => some (y283.1, (cond (y283.2 == (0 : Int)) (decide ((x0.length : Int) > (0 : Int))) false)))
noncomputable def cut_row.f (x0 : List (List UInt8)) (x1 : List Int) : Option ((List UInt8) × Bool) := (loopM (fun s247 : (List (List UInt8)) × Int => cut_row.b1 x0 x1 s247.1 s247.2) (([] : List (List UInt8)), (0 : Int))).bind (Sum.elim (fun (o244 : (List (List UInt8))) => cut_row.k2 x0 o244) (fun (o245 : (List UInt8) × Bool) => some o245))
set_option maxHeartbeats 4000000 in
theorem cut_row_ok {ok : Nat → Prop} {w : World} {u1 u6 : Value} {x0 : List (List UInt8)} {x1 : List Int} {r : (List UInt8) × Bool} (hu2 : slR tStr w ok u1 x0) (hu7 : slR (tInt .i64) w ok u6 x1) (h : cut_row.f x0 x1 = some r) :
    Calls Try.prog 36 #[u1, u6] w fun e w' => ∃ v, e = .returned v ∧ (v = .tuple #[.string (bs r.1), .bool r.2] ∧ Bel w.heap.size w w') := by
  have H : Eng.Own ok w w [] := Eng.Own.nil ok w
  obtain ⟨A3, c4, rfl, H⟩ := H.arg rfl hu2
  obtain ⟨A8, c9, rfl, H⟩ := H.arg rfl hu7
  unfold cut_row.f at h
  refine enterN (args := [.slice A3 x0.length c4, .slice A8 x1.length c9]) Try.func36 rfl Try.ntmps36 rfl rfl ?_
  refine nc_seq ?_
  refine nc ?_
  refine nc_seq ?_
  refine nc ?_
  refine nc_cut (fun e w144 => ∃ (A141 : Option Addr) (c142 : Nat) (cs143 : List Value) (v140 : List (List UInt8)), cut_row.k2 x0 v140 = some r ∧ e = [(0, .slice A3 x0.length c4), (6, .slice A141 v140.length c142)] ∧ Eng.Own ok w w144 [.dat (dSl tStr (.slice A3 x0.length c4) x0), .dat (dRows tStr v140 cs143), .row (.slice A141 v140.length c142) 45 1 v140.length cs143]) ?_ ?_
  · skip
    refine nc_seq ?_
    refine nc ?_
    refine nc_block ?_
    replace H := H.nilRowD tStr 45
    obtain ⟨o236, hL237, hO238⟩ := bindS h
    obtain ⟨n239, hL237⟩ := loopS hL237
    refine nc ?_
    refine loop_ruleA (fun k e w243 => ∃ (A173 : Option Addr) (c174 : Nat) (cs175 : List Value) (v172 : List (List UInt8)) (v176 : Int), iterM (fun s247 : (List (List UInt8)) × Int => cut_row.b1 x0 x1 s247.1 s247.2) k (v172, v176) = some o236 ∧ e = [(0, .slice A3 x0.length c4), (6, .slice A173 v172.length c174), (11, .slice A8 x1.length c9), (12, .int .i64 (x1.length : Int)), (13, .int .i64 v176)] ∧ Eng.Own ok w w243 [.dat (dSl tStr (.slice A3 x0.length c4) x0), .dat (dRows tStr v172 cs175), .row (.slice A173 v172.length c174) 45 1 v172.length cs175, .dat (dSl (tInt .i64) (.slice A8 x1.length c9) x1)]) ⟨none, 0, [], _, _, hL237, rfl, H.pickL [3, 0, 1, 2] rfl⟩ ?_
    rintro k249 _ w248 ⟨A173, c174, cs175, v172, v176, hL237, rfl, H⟩
    obtain ⟨k242, rfl, q240, h, hq241⟩ := iterS hL237
    replace h : cut_row.b1 x0 x1 v172 v176 = some q240 := h
    unfold cut_row.b1 at h
    refine nc_seq ?_
    refine nc ?_
    refine nc_seq ?_
    refine nc_cond rfl (fun hc250 => ?_) (fun hc250 => ?_)
    · replace h := condT hc250 h
      refine nc ?_
      refine nc_seq ?_
      refine nc_block ?_
      refine nc_seq ?_
      refine nc ?_
      obtain ⟨y251, hx252, h⟩ := bindS h
      obtain ⟨a253, cs254, rfl, hR255, H⟩ := H.elemI 3 rfl hx252
      obtain rfl : cs254 = [.int .i64 y251] := hR255
      refine idxA_rule (e := 3) 1 _ (by kernel_rfl) (by kernel_rfl) (idxL_some hx252).1 (idxL_some hx252).2.1 ?_
      refine own_loadD H 0 rfl 0 (by kernel_rfl) rfl ?_
      refine nc_seq ?_
      refine nc_seq ?_
      refine nc ?_
      refine nc_cond rfl (fun hc257 => ?_) (fun hc257 => ?_)
      · replace h := condT hc257 h
        refine nc_seq ?_
        refine nc ?_
        refine nc ?_
        cases h
        replace hq241 : (Sum.inr (([] : List UInt8), false)) = o236 := hq241
        subst hq241
        have h := hO238
        try dsimp only [Sum.elim_inl, Sum.elim_inr] at h
        replace h := Option.some.inj h
        subst h
        exact ret_inA [.string (bs ([] : List UInt8)), .bool false] ⟨_, rfl, ⟨rfl, H.frame⟩⟩
      · replace h := condF hc257 h
        refine nc ?_
        refine nc ?_
        obtain ⟨y258, hy259, h⟩ := bindS h
        refine call_rule (by kernel_rfl) (term_Number_ok hy259) fun v261 w260 ⟨hv262, hb263⟩ => ?_
        subst hv262
        replace H := H.call hb263
        refine own_buildSlice (e := 45) (sz := 1) (z := .string ⟨#[]⟩) (cs := [.string (bs y258)]) H (by kernel_rfl) (by kernel_rfl) (by kernel_rfl) rfl rfl rfl rfl fun g265 w266 H => ?_
        obtain ⟨hr267, h⟩ := roomS h
        refine own_append1 (k := tStr) (z := .string ⟨#[]⟩) (x := y258) 16 H 3 2 rfl rfl rfl rfl (by kernel_rfl) (by kernel_rfl) rfl rfl hr267 rfl fun z268 cs269 w270 H => ?_
        obtain ⟨A271, c272, rfl, _, _⟩ := H.rowSl 3 rfl
        refine nc ?_
        cases h
        exact again_inA ⟨A271, c272, cs269, _, _, hq241, rfl, H.pickL [1, 2, 3, 4] rfl⟩
    · replace h := condF hc250 h
      refine nc ?_
      cases h
      replace hq241 : (Sum.inl v172) = o236 := hq241
      subst hq241
      have h := hO238
      try dsimp only [Sum.elim_inl, Sum.elim_inr] at h
      exact cut_inA ⟨A173, c174, cs175, _, h, rfl, H.pickL [0, 1, 2] rfl⟩
  · rintro _ w274 ⟨A141, c142, cs143, v140, h, rfl, H⟩
    unfold cut_row.k2 at h
    refine nc_seq ?_
    refine nc ?_
    obtain ⟨hr275, h⟩ := roomS h
    refine own_appendD (k := tStr) (z := .string ⟨#[]⟩) 16 H 2 1 0 rfl rfl rfl rfl (by kernel_rfl) (by kernel_rfl) rfl rfl hr275 rfl fun z276 cs277 w278 H => ?_
    obtain ⟨A279, c280, rfl, _, _⟩ := H.rowSl 2 rfl
    replace H := H.freeze (k := tStr) 2 1 rfl rfl
    obtain ⟨y283, hy284, h⟩ := bindS h
    refine call_rule (by kernel_rfl) (list_Put_ok (H.dat 2 rfl) hy284) fun v286 w285 ⟨hv287, hb288⟩ => ?_
    subst hv287
    replace H := H.call hb288
    refine nc_seq ?_
    refine nc ?_
    refine nc ?_
    replace h := Option.some.inj h
    subst h
    exact ret_inA [.string (bs y283.1), .bool (cond (y283.2 == (0 : Int)) (decide ((x0.length : Int) > (0 : Int))) false)] ⟨_, rfl, ⟨rfl, H.frame⟩⟩
/-! gemot/cut.Parts -/
noncomputable def cut_Parts.b1 (x0 : List D_cut_Part) (v239 : List (List UInt8)) (v243 : Int) : Option (((List (List UInt8)) × Int) ⊕ ((List (List UInt8)) ⊕ ((List (List UInt8)) × Int))) := cond (decide (v243 < (x0.length : Int))) ((idxL x0 v243).bind fun y344 => (cut_row.f y344.2.2 ([y344.1.1, y344.1.2, y344.2.1] : List Int)).bind fun y363 => cond (!y363.2) (some (.inr (Sum.inr (([] : List (List UInt8)), (1 : Int))))) (roomM 16 (v239.length + 1) (some (.inl ((v239 ++ [y363.1]), (IntKind.i64.wrap (v243 + (1 : Int)))))))) (some (.inr (Sum.inl v239)))
noncomputable def cut_Parts.k2 (v194 : List (List UInt8)) : Option ((List (List UInt8)) × Int) := some (v194, (0 : Int))
noncomputable def cut_Parts.f (x0 : List D_cut_Part) : Option ((List (List UInt8)) × Int) := (cut_right.f x0).bind fun y6 => cond (!y6) (some (([] : List (List UInt8)), (1 : Int))) ((loopM (fun s340 : (List (List UInt8)) × Int => cut_Parts.b1 x0 s340.1 s340.2) (([] : List (List UInt8)), (0 : Int))).bind (Sum.elim (fun (o337 : (List (List UInt8))) => cut_Parts.k2 o337) (fun (o338 : (List (List UInt8)) × Int) => some o338)))
set_option maxHeartbeats 4000000 in
theorem cut_Parts_ok {ok : Nat → Prop} {w : World} {u1 : Value} {x0 : List D_cut_Part} {r : (List (List UInt8)) × Int} (hu2 : slR t_cut_Part w ok u1 x0) (h : cut_Parts.f x0 = some r) :
    Calls Try.prog 17 #[u1] w fun e w' => ∃ v, e = .returned v ∧ (∃ (u0_ : Value), v = .tuple #[u0_, .int .i64 r.2] ∧ slR tStr w' (fun b => ok b ∨ w.heap.size ≤ b) u0_ r.1 ∧ Bel w.heap.size w w') := by
  have H : Eng.Own ok w w [] := Eng.Own.nil ok w
  obtain ⟨A3, c4, rfl, H⟩ := H.arg rfl hu2
  unfold cut_Parts.f at h
  refine enterN (args := [.slice A3 x0.length c4]) Try.func17 rfl Try.ntmps17 rfl rfl ?_
  refine nc_seq ?_
  refine nc ?_
  refine nc_seq ?_
  refine nc_seq ?_
  refine nc ?_
  obtain ⟨y6, hy7, h⟩ := bindS h
  refine call_rule (by kernel_rfl) (cut_right_ok (H.dat 0 rfl) hy7) fun v9 w8 ⟨hv10, hb11⟩ => ?_
  subst hv10
  replace H := H.call hb11
  refine nc_cond rfl (fun hc12 => ?_) (fun hc12 => ?_)
  · replace h := condT hc12 h
    refine nc_seq ?_
    refine nc ?_
    refine nc ?_
    replace h := Option.some.inj h
    subst h
    exact ret_inA [.slice none 0 0, .int .i64 1] ⟨_, rfl, ⟨_, rfl, nilR, H.frame⟩⟩
  · replace h := condF hc12 h
    refine nc ?_
    refine nc_seq ?_
    refine nc ?_
    refine nc_cut (fun e w198 => ∃ (A195 : Option Addr) (c196 : Nat) (cs197 : List Value) (v194 : List (List UInt8)), cut_Parts.k2 v194 = some r ∧ e = [(4, .slice A195 v194.length c196)] ∧ Eng.Own ok w w198 [.dat (dRows tStr v194 cs197), .row (.slice A195 v194.length c196) 45 1 v194.length cs197]) ?_ ?_
    · skip
      refine nc_seq ?_
      refine nc ?_
      refine nc_block ?_
      replace H := H.nilRowD tStr 45
      obtain ⟨o329, hL330, hO331⟩ := bindS h
      obtain ⟨n332, hL330⟩ := loopS hL330
      refine nc ?_
      refine loop_ruleA (fun k e w336 => ∃ (A240 : Option Addr) (c241 : Nat) (cs242 : List Value) (v239 : List (List UInt8)) (v243 : Int), iterM (fun s340 : (List (List UInt8)) × Int => cut_Parts.b1 x0 s340.1 s340.2) k (v239, v243) = some o329 ∧ e = [(4, .slice A240 v239.length c241), (12, .slice A3 x0.length c4), (13, .int .i64 (x0.length : Int)), (14, .int .i64 v243)] ∧ Eng.Own ok w w336 [.dat (dRows tStr v239 cs242), .row (.slice A240 v239.length c241) 45 1 v239.length cs242, .dat (dSl t_cut_Part (.slice A3 x0.length c4) x0)]) ⟨none, 0, [], _, _, hL330, rfl, H.pickL [0, 1, 2] rfl⟩ ?_
      rintro k342 _ w341 ⟨A240, c241, cs242, v239, v243, hL330, rfl, H⟩
      obtain ⟨k335, rfl, q333, h, hq334⟩ := iterS hL330
      replace h : cut_Parts.b1 x0 v239 v243 = some q333 := h
      unfold cut_Parts.b1 at h
      refine nc_seq ?_
      refine nc ?_
      refine nc_seq ?_
      refine nc_cond rfl (fun hc343 => ?_) (fun hc343 => ?_)
      · replace h := condT hc343 h
        refine nc ?_
        refine nc_seq ?_
        refine nc_block ?_
        refine nc_seq ?_
        refine nc ?_
        obtain ⟨y344, hx345, h⟩ := bindS h
        obtain ⟨a346, cs347, rfl, hR348, H⟩ := H.elemI 2 rfl hx345
        obtain ⟨u350, rfl, hu351⟩ := cut_Part_cells hR348
        obtain ⟨A352, c353, rfl, H⟩ := H.openD hu351
        refine idxA_rule (e := 57) 4 _ (by kernel_rfl) (by kernel_rfl) (idxL_some hx345).1 (idxL_some hx345).2.1 ?_
        refine own_loadDA (m := 4) H 1 rfl 0 (by kernel_rfl) (by kernel_rfl) [.int .i64 y344.1.1, .int .i64 y344.1.2, .int .i64 y344.2.1, .slice A352 y344.2.2.length c353] rfl rfl ?_
        refine own_alloc (z := .agg #[.int .i64 0, .int .i64 0, .int .i64 0, .slice none 0 0]) H (by kernel_rfl) [.int .i64 0, .int .i64 0, .int .i64 0, .slice none 0 0] rfl fun g356 w357 H => ?_
        refine own_storeB (m := 4) H 0 rfl (by kernel_rfl) [.int .i64 y344.1.1, .int .i64 y344.1.2, .int .i64 y344.2.1, .slice A352 y344.2.2.length c353] rfl rfl rfl rfl fun w358 H => ?_
        refine nc_seq ?_
        refine nc ?_
        refine own_load H 0 rfl (by kernel_rfl) (j := 3) rfl ?_
        refine own_load H 0 rfl (by kernel_rfl) (j := 0) rfl ?_
        refine own_load H 0 rfl (by kernel_rfl) (j := 1) rfl ?_
        refine own_load H 0 rfl (by kernel_rfl) (j := 2) rfl ?_
        refine own_buildSlice (e := 3) (sz := 1) (z := .int .i64 0) (cs := [.int .i64 y344.1.1, .int .i64 y344.1.2, .int .i64 y344.2.1]) H (by kernel_rfl) (by kernel_rfl) (by kernel_rfl) rfl rfl rfl rfl fun g360 w361 H => ?_
        replace H := H.blkSl (k := (tInt .i64)) [y344.1.1, y344.1.2, y344.2.1] 3 rfl rfl (by decide) ⟨_, _, rfl, rfl, ⟨_, _, rfl, rfl, ⟨_, _, rfl, rfl, rfl⟩⟩⟩
        obtain ⟨y363, hy364, h⟩ := bindS h
        refine call_rule (by kernel_rfl) (cut_row_ok (H.dat 2 rfl) (H.dat 0 rfl) hy364) fun v366 w365 ⟨hv367, hb368⟩ => ?_
        subst hv367
        replace H := H.call hb368
        refine nc_seq ?_
        refine nc_seq ?_
        refine nc ?_
        refine nc_cond rfl (fun hc369 => ?_) (fun hc369 => ?_)
        · replace h := condT hc369 h
          refine nc_seq ?_
          refine nc ?_
          refine nc ?_
          cases h
          replace hq334 : (Sum.inr (([] : List (List UInt8)), (1 : Int))) = o329 := hq334
          subst hq334
          have h := hO331
          try dsimp only [Sum.elim_inl, Sum.elim_inr] at h
          replace h := Option.some.inj h
          subst h
          exact ret_inA [.slice none 0 0, .int .i64 1] ⟨_, rfl, ⟨_, rfl, nilR, H.frame⟩⟩
        · replace h := condF hc369 h
          refine nc ?_
          refine nc ?_
          refine own_buildSlice (e := 45) (sz := 1) (z := .string ⟨#[]⟩) (cs := [.string (bs y363.1)]) H (by kernel_rfl) (by kernel_rfl) (by kernel_rfl) rfl rfl rfl rfl fun g371 w372 H => ?_
          obtain ⟨hr373, h⟩ := roomS h
          refine own_append1 (k := tStr) (z := .string ⟨#[]⟩) (x := y363.1) 16 H 5 4 rfl rfl rfl rfl (by kernel_rfl) (by kernel_rfl) rfl rfl hr373 rfl fun z374 cs375 w376 H => ?_
          obtain ⟨A377, c378, rfl, _, _⟩ := H.rowSl 5 rfl
          refine nc ?_
          cases h
          exact again_inA ⟨A377, c378, cs375, _, _, hq334, rfl, H.pickL [4, 5, 6] rfl⟩
      · replace h := condF hc343 h
        refine nc ?_
        cases h
        replace hq334 : (Sum.inl v239) = o329 := hq334
        subst hq334
        have h := hO331
        try dsimp only [Sum.elim_inl, Sum.elim_inr] at h
        exact cut_inA ⟨A240, c241, cs242, _, h, rfl, H.pickL [0, 1] rfl⟩
    · rintro _ w380 ⟨A195, c196, cs197, v194, h, rfl, H⟩
      unfold cut_Parts.k2 at h
      refine nc_seq ?_
      refine nc ?_
      refine nc ?_
      replace H := H.freeze (k := tStr) 1 0 rfl rfl
      replace h := Option.some.inj h
      subst h
      exact ret_inA [.slice A195 v194.length c196, .int .i64 0] ⟨_, rfl, ⟨_, rfl, H.outD 1 rfl, H.frame⟩⟩
/-! gemot/cut.Put -/
noncomputable def cut_Put.b1 (x0 : List D_cut_Log) (v239 : List (List UInt8)) (v243 : Int) (v244 : Int) : Option (((List (List UInt8)) × Int × Int) ⊕ ((List (List UInt8)) ⊕ ((List (List UInt8)) × Int))) := cond (decide (v244 < (x0.length : Int))) ((idxL x0 v244).bind fun y348 => (cut_row.f y348.2 ([y348.1] : List Int)).bind fun y367 => cond (cond (cond (!y367.2) true (decide (y348.1 ≤ v243))) true (decide (y348.1 > (8 : Int)))) (some (.inr (Sum.inr (([] : List (List UInt8)), (1 : Int))))) (roomM 16 (v239.length + 1) (some (.inl ((v239 ++ [y367.1]), y348.1, (IntKind.i64.wrap (v244 + (1 : Int)))))))) (some (.inr (Sum.inl v239)))
noncomputable def cut_Put.k2 (v193 : List (List UInt8)) : Option ((List (List UInt8)) × Int) := some (v193, (0 : Int))
noncomputable def cut_Put.f (x0 : List D_cut_Log) : Option ((List (List UInt8)) × Int) := (loopM (fun s344 : (List (List UInt8)) × Int × Int => cut_Put.b1 x0 s344.1 s344.2.1 s344.2.2) (([] : List (List UInt8)), (0 : Int), (0 : Int))).bind (Sum.elim (fun (o341 : (List (List UInt8))) => cut_Put.k2 o341) (fun (o342 : (List (List UInt8)) × Int) => some o342))
set_option maxHeartbeats 4000000 in
theorem cut_Put_ok {ok : Nat → Prop} {w : World} {u1 : Value} {x0 : List D_cut_Log} {r : (List (List UInt8)) × Int} (hu2 : slR t_cut_Log w ok u1 x0) (h : cut_Put.f x0 = some r) :
    Calls Try.prog 45 #[u1] w fun e w' => ∃ v, e = .returned v ∧ (∃ (u0_ : Value), v = .tuple #[u0_, .int .i64 r.2] ∧ slR tStr w' (fun b => ok b ∨ w.heap.size ≤ b) u0_ r.1 ∧ Bel w.heap.size w w') := by
  have H : Eng.Own ok w w [] := Eng.Own.nil ok w
  obtain ⟨A3, c4, rfl, H⟩ := H.arg rfl hu2
  unfold cut_Put.f at h
  refine enterN (args := [.slice A3 x0.length c4]) Try.func45 rfl Try.ntmps45 rfl rfl ?_
  refine nc_seq ?_
  refine nc ?_
  refine nc_seq ?_
  refine nc ?_
  refine nc_seq ?_
  refine nc ?_
  refine nc_cut (fun e w197 => ∃ (A194 : Option Addr) (c195 : Nat) (cs196 : List Value) (v193 : List (List UInt8)), cut_Put.k2 v193 = some r ∧ e = [(4, .slice A194 v193.length c195)] ∧ Eng.Own ok w w197 [.dat (dRows tStr v193 cs196), .row (.slice A194 v193.length c195) 45 1 v193.length cs196]) ?_ ?_
  · skip
    refine nc_seq ?_
    refine nc ?_
    refine nc_block ?_
    replace H := H.nilRowD tStr 45
    obtain ⟨o333, hL334, hO335⟩ := bindS h
    obtain ⟨n336, hL334⟩ := loopS hL334
    refine nc ?_
    refine loop_ruleA (fun k e w340 => ∃ (A240 : Option Addr) (c241 : Nat) (cs242 : List Value) (v239 : List (List UInt8)) (v243 : Int) (v244 : Int), iterM (fun s344 : (List (List UInt8)) × Int × Int => cut_Put.b1 x0 s344.1 s344.2.1 s344.2.2) k (v239, v243, v244) = some o333 ∧ e = [(4, .slice A240 v239.length c241), (5, .int .i64 v243), (10, .slice A3 x0.length c4), (11, .int .i64 (x0.length : Int)), (12, .int .i64 v244)] ∧ Eng.Own ok w w340 [.dat (dRows tStr v239 cs242), .row (.slice A240 v239.length c241) 45 1 v239.length cs242, .dat (dSl t_cut_Log (.slice A3 x0.length c4) x0)]) ⟨none, 0, [], _, _, _, hL334, rfl, H.pickL [0, 1, 2] rfl⟩ ?_
    rintro k346 _ w345 ⟨A240, c241, cs242, v239, v243, v244, hL334, rfl, H⟩
    obtain ⟨k339, rfl, q337, h, hq338⟩ := iterS hL334
    replace h : cut_Put.b1 x0 v239 v243 v244 = some q337 := h
    unfold cut_Put.b1 at h
    refine nc_seq ?_
    refine nc ?_
    refine nc_seq ?_
    refine nc_cond rfl (fun hc347 => ?_) (fun hc347 => ?_)
    · replace h := condT hc347 h
      refine nc ?_
      refine nc_seq ?_
      refine nc_block ?_
      refine nc_seq ?_
      refine nc ?_
      obtain ⟨y348, hx349, h⟩ := bindS h
      obtain ⟨a350, cs351, rfl, hR352, H⟩ := H.elemI 2 rfl hx349
      obtain ⟨u354, rfl, hu355⟩ := cut_Log_cells hR352
      obtain ⟨A356, c357, rfl, H⟩ := H.openD hu355
      refine idxA_rule (e := 88) 2 _ (by kernel_rfl) (by kernel_rfl) (idxL_some hx349).1 (idxL_some hx349).2.1 ?_
      refine own_loadDA (m := 2) H 1 rfl 0 (by kernel_rfl) (by kernel_rfl) [.int .i64 y348.1, .slice A356 y348.2.length c357] rfl rfl ?_
      refine own_alloc (z := .agg #[.int .i64 0, .slice none 0 0]) H (by kernel_rfl) [.int .i64 0, .slice none 0 0] rfl fun g360 w361 H => ?_
      refine own_storeB (m := 2) H 0 rfl (by kernel_rfl) [.int .i64 y348.1, .slice A356 y348.2.length c357] rfl rfl rfl rfl fun w362 H => ?_
      refine nc_seq ?_
      refine nc ?_
      refine own_load H 0 rfl (by kernel_rfl) (j := 1) rfl ?_
      refine own_load H 0 rfl (by kernel_rfl) (j := 0) rfl ?_
      refine own_buildSlice (e := 3) (sz := 1) (z := .int .i64 0) (cs := [.int .i64 y348.1]) H (by kernel_rfl) (by kernel_rfl) (by kernel_rfl) rfl rfl rfl rfl fun g364 w365 H => ?_
      replace H := H.blkSl (k := (tInt .i64)) [y348.1] 1 rfl rfl (by decide) ⟨_, _, rfl, rfl, rfl⟩
      obtain ⟨y367, hy368, h⟩ := bindS h
      refine call_rule (by kernel_rfl) (cut_row_ok (H.dat 2 rfl) (H.dat 0 rfl) hy368) fun v370 w369 ⟨hv371, hb372⟩ => ?_
      subst hv371
      replace H := H.call hb372
      refine nc_seq ?_
      refine nc_seq ?_
      refine nc ?_
      refine own_load H 1 rfl (by kernel_rfl) (j := 0) rfl ?_
      refine own_load H 1 rfl (by kernel_rfl) (j := 0) rfl ?_
      refine nc_cond rfl (fun hc373 => ?_) (fun hc373 => ?_)
      · replace h := condT hc373 h
        refine nc_seq ?_
        refine nc ?_
        refine nc ?_
        cases h
        replace hq338 : (Sum.inr (([] : List (List UInt8)), (1 : Int))) = o333 := hq338
        subst hq338
        have h := hO335
        try dsimp only [Sum.elim_inl, Sum.elim_inr] at h
        replace h := Option.some.inj h
        subst h
        exact ret_inA [.slice none 0 0, .int .i64 1] ⟨_, rfl, ⟨_, rfl, nilR, H.frame⟩⟩
      · replace h := condF hc373 h
        refine nc ?_
        obtain ⟨hr377, h⟩ := roomS h
        refine nc ?_
        refine draw_ruleB [.blk g360 [.int .i64 y348.1, .slice A356 y348.2.length c357] 88] [] (fun j => undef) [1000, 1000, 1000, 1000, 1000, 1000, 1000, 1000] (by kernel_rfl) (by kernel_rfl) H (by repeat first | exact List.nil_sublist _ | apply List.Sublist.cons_cons | apply List.Sublist.cons) ?_
        refine c_buildSlice (e := 45) (sz := 1) (z := .string ⟨#[]⟩) (cs := [.string (bs y367.1)]) (by kernel_rfl) (by kernel_rfl) (by kernel_rfl) rfl rfl rfl rfl ?_
        intro g375
        refine ⟨(by repeat first | exact List.nil_sublist _ | apply List.Sublist.cons_cons | apply List.Sublist.cons), ?_⟩
        refine c_append1 (k := tStr) (z := .string ⟨#[]⟩) (x := y367.1) 16 5 4 rfl rfl rfl (fun _ H => rfl) (by kernel_rfl) (by kernel_rfl) rfl rfl hr377 rfl ?_
        intro z378 cs379
        refine ⟨(by repeat first | exact List.nil_sublist _ | apply List.Sublist.cons_cons | apply List.Sublist.cons), ?_⟩
        refine c_load 0 rfl (by kernel_rfl) (j := 0) rfl ?_
        intro w384 H
        obtain ⟨A381, c382, rfl, _, _⟩ := H.rowSl 5 rfl
        refine nc ?_
        cases h
        exact again_inA ⟨A381, c382, cs379, _, _, _, hq338, rfl, H.pickL [4, 5, 6] rfl⟩
    · replace h := condF hc347 h
      refine nc ?_
      cases h
      replace hq338 : (Sum.inl v239) = o333 := hq338
      subst hq338
      have h := hO335
      try dsimp only [Sum.elim_inl, Sum.elim_inr] at h
      exact cut_inA ⟨A240, c241, cs242, _, h, rfl, H.pickL [0, 1] rfl⟩
  · rintro _ w385 ⟨A194, c195, cs196, v193, h, rfl, H⟩
    unfold cut_Put.k2 at h
    refine nc_seq ?_
    refine nc ?_
    refine nc ?_
    replace H := H.freeze (k := tStr) 1 0 rfl rfl
    replace h := Option.some.inj h
    subst h
    exact ret_inA [.slice A194 v193.length c195, .int .i64 0] ⟨_, rfl, ⟨_, rfl, H.outD 1 rfl, H.frame⟩⟩
end Go.Proofs.Ytipoblinefamgaa.G
