/- Walks, printed by a program of this proof's own. -/
import Derived.Test.YtfapphlhkfddoaaGreatDoorHS
import Derived.Test.YtfapphlhkfddoaaGreatDoorListPut15
import Derived.Test.YtfapphlhkfddoaaGreatDoorPathP
import Derived.Test.YtfapphlhkfddoaaGreatDoorNodesP
import Derived.Test.YtfapphlhkfddoaaGreatDoorManTree
import Derived.KernelRfl
namespace Go.Proofs.YtfapphlhkfddoaaGreatDoor.G
open Go.RowKit Go.Eng Go.Proofs
set_option linter.unusedVariables false
set_option maxRecDepth 20000
/-! gemot/term.of -/
noncomputable def term_of.b1 (x1 : List (List UInt8)) (v102 : List UInt8) (v103 : Int) : Option (((List UInt8) × Int) ⊕ ((List UInt8) ⊕ ((List UInt8) × Int))) := cond (decide (v103 < (x1.length : Int))) ((idxL x1 v103).bind fun y151 => (term_Right.f y151).bind fun y157 => cond (!y157) (some (.inr (Sum.inr (([] : List UInt8), (1 : Int))))) (roomM 1 (v102.length + y151.length) (some (.inl ((v102 ++ y151), (IntKind.i64.wrap (v103 + (1 : Int)))))))) (some (.inr (Sum.inl v102)))
noncomputable def term_of.k2 (v84 : List UInt8) : Option ((List UInt8) × Int) := (term_whole.f v84).bind fun y166 => some (y166.1, y166.2)
noncomputable def term_of.f (x0 : List UInt8) (x1 : List (List UInt8)) : Option ((List UInt8) × Int) := (loopM (fun s147 : (List UInt8) × Int => term_of.b1 x1 s147.1 s147.2) (x0, (0 : Int))).bind (Sum.elim (fun (o145 : (List UInt8)) => term_of.k2 o145) (fun (o146 : (List UInt8) × Int) => some o146))
set_option maxHeartbeats 4000000 in
theorem term_of_ok {ok : Nat → Prop} {w : World} {u1 : Value} {x0 : List UInt8} {x1 : List (List UInt8)} {r : (List UInt8) × Int} (hu2 : slR tStr w ok u1 x1) (h : term_of.f x0 x1 = some r) :
    Calls Tryz.prog 98 #[.string (bs x0), u1] w fun e w' => ∃ v, e = .returned v ∧ (v = .tuple #[.string (bs r.1), .int .i64 r.2] ∧ Bel w.heap.size w w') := by
  have H : Eng.Own ok w w [] := Eng.Own.nil ok w
  obtain ⟨A3, c4, rfl, H⟩ := H.arg rfl hu2
  unfold term_of.f at h
  refine enterN (args := [.string (bs x0), .slice A3 x1.length c4]) Tryz.func98 rfl Tryz.ntmps98 rfl rfl ?_
  refine nc_seq ?_
  refine nc ?_
  refine nc_cut (fun e w85 => ∃ (v84 : List UInt8), term_of.k2 v84 = some r ∧ e = [(0, .string (bs v84))] ∧ Eng.Own ok w w85 []) ?_ ?_
  · skip
    refine nc_seq ?_
    refine nc ?_
    refine nc_block ?_
    obtain ⟨o137, hL138, hO139⟩ := bindS h
    obtain ⟨n140, hL138⟩ := loopS hL138
    refine nc ?_
    refine loop_ruleA (fun k e w144 => ∃ (v102 : List UInt8) (v103 : Int), iterM (fun s147 : (List UInt8) × Int => term_of.b1 x1 s147.1 s147.2) k (v102, v103) = some o137 ∧ e = [(0, .string (bs v102)), (8, .slice A3 x1.length c4), (9, .int .i64 (x1.length : Int)), (10, .int .i64 v103)] ∧ Eng.Own ok w w144 [.dat (dSl tStr (.slice A3 x1.length c4) x1)]) ⟨_, _, hL138, rfl, H.pickL [0] rfl⟩ ?_
    rintro k149 _ w148 ⟨v102, v103, hL138, rfl, H⟩
    obtain ⟨k143, rfl, q141, h, hq142⟩ := iterS hL138
    replace h : term_of.b1 x1 v102 v103 = some q141 := h
    unfold term_of.b1 at h
    refine nc_seq ?_
    refine nc ?_
    refine nc_seq ?_
    refine nc_cond rfl (fun hc150 => ?_) (fun hc150 => ?_)
    · replace h := condT hc150 h
      refine nc ?_
      refine nc_seq ?_
      refine nc_block ?_
      refine nc_seq ?_
      refine nc ?_
      obtain ⟨y151, hx152, h⟩ := bindS h
      obtain ⟨a153, cs154, rfl, hR155, H⟩ := H.elemI 0 rfl hx152
      obtain rfl : cs154 = [.string (bs y151)] := hR155
      refine idxA_rule (e := 28) 1 _ (by kernel_rfl) (by kernel_rfl) (idxL_some hx152).1 (idxL_some hx152).2.1 ?_
      refine own_loadD H 0 rfl 0 (by kernel_rfl) rfl ?_
      refine nc_seq ?_
      refine nc_seq ?_
      refine nc ?_
      obtain ⟨y157, hy158, h⟩ := bindS h
      refine call_rule (by kernel_rfl) (term_Right_ok (ok := fun _ => False) hy158) fun v160 w159 ⟨hv161, hb162⟩ => ?_
      subst hv161
      replace H := H.call hb162
      refine nc_cond rfl (fun hc163 => ?_) (fun hc163 => ?_)
      · replace h := condT hc163 h
        refine nc_seq ?_
        refine nc ?_
        refine nc ?_
        cases h
        replace hq142 : (Sum.inr (([] : List UInt8), (1 : Int))) = o137 := hq142
        subst hq142
        have h := hO139
        try dsimp only [Sum.elim_inl, Sum.elim_inr] at h
        replace h := Option.some.inj h
        subst h
        exact ret_inA [.string (bs ([] : List UInt8)), .int .i64 1] ⟨_, rfl, ⟨rfl, H.frame⟩⟩
      · replace h := condF hc163 h
        refine nc ?_
        refine nc ?_
        obtain ⟨hr164, h⟩ := roomS h
        refine catM_rule hr164 ?_
        refine nc ?_
        cases h
        exact again_inA ⟨_, _, hq142, rfl, H.pickL [1] rfl⟩
    · replace h := condF hc150 h
      refine nc ?_
      cases h
      replace hq142 : (Sum.inl v102) = o137 := hq142
      subst hq142
      have h := hO139
      try dsimp only [Sum.elim_inl, Sum.elim_inr] at h
      exact cut_inA ⟨_, h, rfl, H.pickL [] rfl⟩
  · rintro _ w165 ⟨v84, h, rfl, H⟩
    unfold term_of.k2 at h
    refine nc_seq ?_
    refine nc ?_
    obtain ⟨y166, hy167, h⟩ := bindS h
    refine call_rule (by kernel_rfl) (term_whole_ok (ok := fun _ => False) hy167) fun v169 w168 ⟨hv170, hb171⟩ => ?_
    subst hv170
    replace H := H.call hb171
    refine nc ?_
    replace h := Option.some.inj h
    subst h
    exact ret_inA [.string (bs y166.1), .int .i64 y166.2] ⟨_, rfl, ⟨rfl, H.frame⟩⟩
/-! gemot/term.Pair -/
noncomputable def term_Pair.f (x0 : List UInt8) (x1 : List UInt8) : Option ((List UInt8) × Int) := (term_of.f [112] ([x0, x1] : List (List UInt8))).bind fun y5 => some (y5.1, y5.2)
set_option maxHeartbeats 4000000 in
theorem term_Pair_ok {ok : Nat → Prop} {w : World} {x0 : List UInt8} {x1 : List UInt8} {r : (List UInt8) × Int} (h : term_Pair.f x0 x1 = some r) :
    Calls Tryz.prog 56 #[.string (bs x0), .string (bs x1)] w fun e w' => ∃ v, e = .returned v ∧ (v = .tuple #[.string (bs r.1), .int .i64 r.2] ∧ Bel w.heap.size w w') := by
  have H : Eng.Own ok w w [] := Eng.Own.nil ok w
  unfold term_Pair.f at h
  refine enterN (args := [.string (bs x0), .string (bs x1)]) Tryz.func56 rfl Tryz.ntmps56 rfl rfl ?_
  refine nc_seq ?_
  refine nc ?_
  refine nc_seq ?_
  refine nc ?_
  refine own_buildSlice (e := 28) (sz := 1) (z := .string ⟨#[]⟩) (cs := [.string (bs x0), .string (bs x1)]) H (by kernel_rfl) (by kernel_rfl) (by kernel_rfl) rfl rfl rfl rfl fun g2 w3 H => ?_
  replace H := H.blkSl (k := tStr) [x0, x1] 2 rfl rfl (by decide) ⟨_, _, rfl, rfl, ⟨_, _, rfl, rfl, rfl⟩⟩
  obtain ⟨y5, hy6, h⟩ := bindS h
  refine call_rule (by kernel_rfl) (term_of_ok (H.dat 0 rfl) hy6) fun v8 w7 ⟨hv9, hb10⟩ => ?_
  subst hv9
  replace H := H.call hb10
  refine nc ?_
  replace h := Option.some.inj h
  subst h
  exact ret_inA [.string (bs y5.1), .int .i64 y5.2] ⟨_, rfl, ⟨rfl, H.frame⟩⟩
/-! gemot/term.Hash -/
noncomputable def term_Hash.f (x0 : List UInt8) : Option ((List UInt8) × Int) := (term_of.f [104] ([x0] : List (List UInt8))).bind fun y5 => some (y5.1, y5.2)
set_option maxHeartbeats 4000000 in
theorem term_Hash_ok {ok : Nat → Prop} {w : World} {x0 : List UInt8} {r : (List UInt8) × Int} (h : term_Hash.f x0 = some r) :
    Calls Tryz.prog 57 #[.string (bs x0)] w fun e w' => ∃ v, e = .returned v ∧ (v = .tuple #[.string (bs r.1), .int .i64 r.2] ∧ Bel w.heap.size w w') := by
  have H : Eng.Own ok w w [] := Eng.Own.nil ok w
  unfold term_Hash.f at h
  refine enterN (args := [.string (bs x0)]) Tryz.func57 rfl Tryz.ntmps57 rfl rfl ?_
  refine nc_seq ?_
  refine nc ?_
  refine nc_seq ?_
  refine nc ?_
  refine own_buildSlice (e := 28) (sz := 1) (z := .string ⟨#[]⟩) (cs := [.string (bs x0)]) H (by kernel_rfl) (by kernel_rfl) (by kernel_rfl) rfl rfl rfl rfl fun g2 w3 H => ?_
  replace H := H.blkSl (k := tStr) [x0] 1 rfl rfl (by decide) ⟨_, _, rfl, rfl, rfl⟩
  obtain ⟨y5, hy6, h⟩ := bindS h
  refine call_rule (by kernel_rfl) (term_of_ok (H.dat 0 rfl) hy6) fun v8 w7 ⟨hv9, hb10⟩ => ?_
  subst hv9
  replace H := H.call hb10
  refine nc ?_
  replace h := Option.some.inj h
  subst h
  exact ret_inA [.string (bs y5.1), .int .i64 y5.2] ⟨_, rfl, ⟨rfl, H.frame⟩⟩
/-! gemot/view.Right -/
noncomputable def view_Right.k1 (v22 : Bool) : Option (Bool) := some v22
noncomputable def view_Right.f (x0 : D_api_View) : Option (Bool) := (view_Row.f x0.2).bind fun y25 => cond y25 ((view_Has.f x0.2 x0.1.2).bind fun y32 => view_Right.k1 (cond (cond (cond y25 y32 false) (decide (x0.1.1 ≥ (0 : Int))) false) (decide (x0.1.1 ≤ (2147483647 : Int))) false)) (view_Right.k1 (cond (cond (cond y25 false false) (decide ((0 : Int) ≥ (0 : Int))) false) (decide ((0 : Int) ≤ (2147483647 : Int))) false))
set_option maxHeartbeats 4000000 in
theorem view_Right_ok {ok : Nat → Prop} {w : World} {u1 : Value} {x0 : D_api_View} {r : Bool} (hu2 : slR (tInt .i64) w ok u1 x0.2) (h : view_Right.f x0 = some r) :
    Calls Tryz.prog 59 #[.agg #[.int .i64 x0.1.1, .int .i64 x0.1.2, u1]] w fun e w' => ∃ v, e = .returned v ∧ (v = .bool r ∧ Bel w.heap.size w w') := by
  have H : Eng.Own ok w w [] := Eng.Own.nil ok w
  obtain ⟨A3, c4, rfl, H⟩ := H.arg rfl hu2
  unfold view_Right.f at h
  refine enterN (args := [.agg #[.int .i64 x0.1.1, .int .i64 x0.1.2, .slice A3 x0.2.length c4]]) Tryz.func59 rfl Tryz.ntmps59 rfl rfl ?_
  refine nc_seq ?_
  refine nc ?_
  refine own_box H [.int .i64 x0.1.1, .int .i64 x0.1.2, .slice A3 x0.2.length c4] rfl fun g7 w8 H => ?_
  refine nc_cut (fun e w23 => ∃ (v22 : Bool), view_Right.k1 v22 = some r ∧ e = [(2, .bool v22)] ∧ Eng.Own ok w w23 []) ?_ ?_
  · skip
    refine nc ?_
    refine own_load H 0 rfl (by kernel_rfl) (j := 2) rfl ?_
    obtain ⟨y25, hy26, h⟩ := bindS h
    refine call_rule (by kernel_rfl) (view_Row_ok (H.dat 1 rfl) hy26) fun v28 w27 ⟨hv29, hb30⟩ => ?_
    subst hv29
    replace H := H.call hb30
    refine own_load H 0 rfl (by kernel_rfl) (j := 2) rfl ?_
    refine own_load H 0 rfl (by kernel_rfl) (j := 1) rfl ?_
    rcases Bool.eq_false_or_eq_true y25 with hg31 | hg31
    · replace h := condT hg31 h
      obtain ⟨y32, hy33, h⟩ := bindS h
      refine call_yes (gT1 hg31 rfl) (by kernel_rfl) (view_Has_ok (H.dat 1 rfl) hy33) fun v35 w34 ⟨hv36, hb37⟩ => ?_
      subst hv36
      replace H := H.call hb37
      refine own_load H 0 rfl (by kernel_rfl) (j := 0) rfl ?_
      refine own_load H 0 rfl (by kernel_rfl) (j := 0) rfl ?_
      exact cut_inA ⟨_, h, rfl, H.pickL [] rfl⟩
    · replace h := condF hg31 h
      refine call_skip (.bool false) (gF1 hg31) ?_
      refine skipLD (.int .i64 0) (gF1 (pickF hg31)) ?_
      refine skipLD (.int .i64 0) (gF1 (pickF (pickF hg31))) ?_
      exact cut_inA ⟨_, h, rfl, H.pickL [] rfl⟩
  · rintro _ w38 ⟨v22, h, rfl, H⟩
    unfold view_Right.k1 at h
    refine nc ?_
    replace h := Option.some.inj h
    subst h
    exact ret_inA [.bool v22] ⟨_, rfl, ⟨rfl, H.frame⟩⟩
/-! gemot/list.right -/
noncomputable def list_right.f (x0 : D_api_Id) : Option (Bool) := some (cond (cond (cond (decide (x0.1 ≥ (0 : Int))) (decide (x0.1 ≤ (2147483647 : Int))) false) (decide (x0.2 ≥ (0 : Int))) false) (decide (x0.2 ≤ (8 : Int))) false)
set_option maxHeartbeats 4000000 in
theorem list_right_ok {ok : Nat → Prop} {w : World} {x0 : D_api_Id} {r : Bool} (h : list_right.f x0 = some r) :
    Calls Tryz.prog 173 #[.agg #[.int .i64 x0.1, .int .i64 x0.2]] w fun e w' => ∃ v, e = .returned v ∧ (v = .bool r ∧ Bel w.heap.size w w') := by
  have H : Eng.Own ok w w [] := Eng.Own.nil ok w
  unfold list_right.f at h
  refine enterN (args := [.agg #[.int .i64 x0.1, .int .i64 x0.2]]) Tryz.func173 rfl Tryz.ntmps173 rfl rfl ?_
  refine nc_seq ?_
  refine nc ?_
  refine own_box H [.int .i64 x0.1, .int .i64 x0.2] rfl fun g2 w3 H => ?_
  refine nc_seq ?_
  refine nc ?_
  refine own_load H 0 rfl (by kernel_rfl) (j := 0) rfl ?_
  refine own_load H 0 rfl (by kernel_rfl) (j := 0) rfl ?_
  refine own_load H 0 rfl (by kernel_rfl) (j := 1) rfl ?_
  refine own_load H 0 rfl (by kernel_rfl) (j := 1) rfl ?_
  refine nc ?_
  replace h := Option.some.inj h
  subst h
  exact ret_inA [.bool (cond (cond (cond (decide (x0.1 ≥ (0 : Int))) (decide (x0.1 ≤ (2147483647 : Int))) false) (decide (x0.2 ≥ (0 : Int))) false) (decide (x0.2 ≤ (8 : Int))) false)] ⟨_, rfl, ⟨rfl, H.frame⟩⟩
/-! gemot/list.Right -/
noncomputable def list_Right.b1 (x0 : D_list_Message) (v73 : Int) (v74 : Int) : Option ((Int × Int) ⊕ (Unit ⊕ Bool)) := cond (decide (v74 < (x0.2.2.2.2.1.length : Int))) ((idxL x0.2.2.2.2.1 v74).bind fun y107 => cond (cond (decide (y107 ≤ v73)) true (decide (y107 > (8 : Int)))) (some (.inr (Sum.inr false))) (some (.inl (y107, (IntKind.i64.wrap (v74 + (1 : Int))))))) (some (.inr (Sum.inl ())))
noncomputable def list_Right.k2 (v135 : Bool) : Option (Bool) := some v135
noncomputable def list_Right.k3 (x0 : D_list_Message) : Option (Bool) := (list_Put.f x0.2.2.2.2.2).bind fun y115 => cond (y115.2 == (0 : Int)) ((list_right.f (x0.2.1.1, x0.2.1.2)).bind fun y139 => cond y139 ((list_right.f (x0.2.2.1.1, x0.2.2.1.2)).bind fun y146 => list_Right.k2 (cond (cond (cond (cond (cond (cond (y115.2 == (0 : Int)) y139 false) y146 false) (decide (x0.1 ≥ (0 : Int))) false) (decide (x0.1 ≤ (20 : Int))) false) (decide (x0.2.2.2.1 ≥ (0 : Int))) false) (decide (x0.2.2.2.1 ≤ (2147483647 : Int))) false)) (list_Right.k2 (cond (cond (cond (cond (cond (cond (y115.2 == (0 : Int)) y139 false) false false) (decide ((0 : Int) ≥ (0 : Int))) false) (decide ((0 : Int) ≤ (20 : Int))) false) (decide ((0 : Int) ≥ (0 : Int))) false) (decide ((0 : Int) ≤ (2147483647 : Int))) false))) (list_Right.k2 (cond (cond (cond (cond (cond (cond (y115.2 == (0 : Int)) false false) false false) (decide ((0 : Int) ≥ (0 : Int))) false) (decide ((0 : Int) ≤ (20 : Int))) false) (decide ((0 : Int) ≥ (0 : Int))) false) (decide ((0 : Int) ≤ (2147483647 : Int))) false))
noncomputable def list_Right.f (x0 : D_list_Message) : Option (Bool) := (loopM (fun s103 : Int × Int => list_Right.b1 x0 s103.1 s103.2) ((0 : Int), (0 : Int))).bind (Sum.elim (fun (o101 : Unit) => list_Right.k3 x0) (fun (o102 : Bool) => some o102))
set_option maxHeartbeats 4000000 in
theorem list_Right_ok {ok : Nat → Prop} {w : World} {u1 u6 : Value} {x0 : D_list_Message} {r : Bool} (hu2 : slR (tInt .i64) w ok u1 x0.2.2.2.2.1) (hu7 : slR tStr w ok u6 x0.2.2.2.2.2) (h : list_Right.f x0 = some r) :
    Calls Tryz.prog 125 #[.agg #[.int .i64 x0.1, .int .i64 x0.2.1.1, .int .i64 x0.2.1.2, .int .i64 x0.2.2.1.1, .int .i64 x0.2.2.1.2, .int .i64 x0.2.2.2.1, u1, u6]] w fun e w' => ∃ v, e = .returned v ∧ (v = .bool r ∧ Bel w.heap.size w w') := by
  have H : Eng.Own ok w w [] := Eng.Own.nil ok w
  obtain ⟨A3, c4, rfl, H⟩ := H.arg rfl hu2
  obtain ⟨A8, c9, rfl, H⟩ := H.arg rfl hu7
  unfold list_Right.f at h
  refine enterN (args := [.agg #[.int .i64 x0.1, .int .i64 x0.2.1.1, .int .i64 x0.2.1.2, .int .i64 x0.2.2.1.1, .int .i64 x0.2.2.1.2, .int .i64 x0.2.2.2.1, .slice A3 x0.2.2.2.2.1.length c4, .slice A8 x0.2.2.2.2.2.length c9]]) Tryz.func125 rfl Tryz.ntmps125 rfl rfl ?_
  refine nc_seq ?_
  refine nc ?_
  refine own_box H [.int .i64 x0.1, .int .i64 x0.2.1.1, .int .i64 x0.2.1.2, .int .i64 x0.2.2.1.1, .int .i64 x0.2.2.1.2, .int .i64 x0.2.2.2.1, .slice A3 x0.2.2.2.2.1.length c4, .slice A8 x0.2.2.2.2.2.length c9] rfl fun g12 w13 H => ?_
  refine nc_seq ?_
  refine nc ?_
  refine nc_cut (fun e w63 => list_Right.k3 x0 = some r ∧ e = [(1, .pointer (some ⟨g12, 0, none⟩))] ∧ Eng.Own ok w w63 [.blk g12 [.int .i64 x0.1, .int .i64 x0.2.1.1, .int .i64 x0.2.1.2, .int .i64 x0.2.2.1.1, .int .i64 x0.2.2.1.2, .int .i64 x0.2.2.2.1, .slice A3 x0.2.2.2.2.1.length c4, .slice A8 x0.2.2.2.2.2.length c9] 58, .dat (dSl (tInt .i64) (.slice A3 x0.2.2.2.2.1.length c4) x0.2.2.2.2.1), .dat (dSl tStr (.slice A8 x0.2.2.2.2.2.length c9) x0.2.2.2.2.2)]) ?_ ?_
  · skip
    refine nc_seq ?_
    refine nc ?_
    refine own_load H 0 rfl (by kernel_rfl) (j := 6) rfl ?_
    refine nc_block ?_
    obtain ⟨o93, hL94, hO95⟩ := bindS h
    obtain ⟨n96, hL94⟩ := loopS hL94
    refine nc ?_
    refine loop_ruleA (fun k e w100 => ∃ (v73 : Int) (v74 : Int), iterM (fun s103 : Int × Int => list_Right.b1 x0 s103.1 s103.2) k (v73, v74) = some o93 ∧ e = [(1, .pointer (some ⟨g12, 0, none⟩)), (3, .int .i64 v73), (9, .slice A3 x0.2.2.2.2.1.length c4), (10, .int .i64 (x0.2.2.2.2.1.length : Int)), (11, .int .i64 v74)] ∧ Eng.Own ok w w100 [.blk g12 [.int .i64 x0.1, .int .i64 x0.2.1.1, .int .i64 x0.2.1.2, .int .i64 x0.2.2.1.1, .int .i64 x0.2.2.1.2, .int .i64 x0.2.2.2.1, .slice A3 x0.2.2.2.2.1.length c4, .slice A8 x0.2.2.2.2.2.length c9] 58, .dat (dSl (tInt .i64) (.slice A3 x0.2.2.2.2.1.length c4) x0.2.2.2.2.1), .dat (dSl tStr (.slice A8 x0.2.2.2.2.2.length c9) x0.2.2.2.2.2)]) ⟨_, _, hL94, rfl, H.pickL [0, 2, 1] rfl⟩ ?_
    rintro k105 _ w104 ⟨v73, v74, hL94, rfl, H⟩
    obtain ⟨k99, rfl, q97, h, hq98⟩ := iterS hL94
    replace h : list_Right.b1 x0 v73 v74 = some q97 := h
    unfold list_Right.b1 at h
    refine nc_seq ?_
    refine nc ?_
    refine nc_seq ?_
    refine nc_cond rfl (fun hc106 => ?_) (fun hc106 => ?_)
    · replace h := condT hc106 h
      refine nc ?_
      refine nc_seq ?_
      refine nc_block ?_
      refine nc_seq ?_
      refine nc ?_
      obtain ⟨y107, hx108, h⟩ := bindS h
      obtain ⟨a109, cs110, rfl, hR111, H⟩ := H.elemI 1 rfl hx108
      obtain rfl : cs110 = [.int .i64 y107] := hR111
      refine idxA_rule (e := 3) 1 _ (by kernel_rfl) (by kernel_rfl) (idxL_some hx108).1 (idxL_some hx108).2.1 ?_
      refine own_loadD H 0 rfl 0 (by kernel_rfl) rfl ?_
      refine nc_seq ?_
      refine nc_seq ?_
      refine nc ?_
      refine nc_cond rfl (fun hc113 => ?_) (fun hc113 => ?_)
      · replace h := condT hc113 h
        refine nc_seq ?_
        refine nc ?_
        refine nc ?_
        cases h
        replace hq98 : (Sum.inr false) = o93 := hq98
        subst hq98
        have h := hO95
        try dsimp only [Sum.elim_inl, Sum.elim_inr] at h
        replace h := Option.some.inj h
        subst h
        exact ret_inA [.bool false] ⟨_, rfl, ⟨rfl, H.frame⟩⟩
      · replace h := condF hc113 h
        refine nc ?_
        refine nc ?_
        refine nc ?_
        cases h
        exact again_inA ⟨_, _, hq98, rfl, H.pickL [1, 2, 3] rfl⟩
    · replace h := condF hc106 h
      refine nc ?_
      cases h
      replace hq98 : (Sum.inl ()) = o93 := hq98
      subst hq98
      have h := hO95
      try dsimp only [Sum.elim_inl, Sum.elim_inr] at h
      exact cut_inA ⟨h, rfl, H.pickL [0, 1, 2] rfl⟩
  · rintro _ w114 ⟨h, rfl, H⟩
    unfold list_Right.k3 at h
    refine nc_seq ?_
    refine nc ?_
    refine own_load H 0 rfl (by kernel_rfl) (j := 7) rfl ?_
    obtain ⟨y115, hy116, h⟩ := bindS h
    refine call_rule (by kernel_rfl) (list_Put_ok (H.dat 2 rfl) hy116) fun v118 w117 ⟨hv119, hb120⟩ => ?_
    subst hv119
    replace H := H.call hb120
    refine nc_cut (fun e w136 => ∃ (v135 : Bool), list_Right.k2 v135 = some r ∧ e = [(2, .bool v135)] ∧ Eng.Own ok w w136 []) ?_ ?_
    · skip
      refine nc ?_
      refine own_loadA (m := 2) H 0 rfl (by kernel_rfl) (by kernel_rfl) [.int .i64 x0.2.1.1, .int .i64 x0.2.1.2] rfl rfl ?_
      rcases Bool.eq_false_or_eq_true (y115.2 == (0 : Int)) with hg138 | hg138
      · replace h := condT hg138 h
        obtain ⟨y139, hy140, h⟩ := bindS h
        refine call_yes (gT1 hg138 rfl) (by kernel_rfl) (list_right_ok (ok := fun _ => False) (x0 := (x0.2.1.1, x0.2.1.2)) hy140) fun v142 w141 ⟨hv143, hb144⟩ => ?_
        subst hv143
        replace H := H.call hb144
        refine own_loadA (m := 2) H 0 rfl (by kernel_rfl) (by kernel_rfl) [.int .i64 x0.2.2.1.1, .int .i64 x0.2.2.1.2] rfl rfl ?_
        rcases Bool.eq_false_or_eq_true y139 with hg145 | hg145
        · replace h := condT hg145 h
          obtain ⟨y146, hy147, h⟩ := bindS h
          refine call_yes (gT1 ((pickT hg138).trans hg145) rfl) (by kernel_rfl) (list_right_ok (ok := fun _ => False) (x0 := (x0.2.2.1.1, x0.2.2.1.2)) hy147) fun v149 w148 ⟨hv150, hb151⟩ => ?_
          subst hv150
          replace H := H.call hb151
          refine own_load H 0 rfl (by kernel_rfl) (j := 0) rfl ?_
          refine own_load H 0 rfl (by kernel_rfl) (j := 0) rfl ?_
          refine own_load H 0 rfl (by kernel_rfl) (j := 5) rfl ?_
          refine own_load H 0 rfl (by kernel_rfl) (j := 5) rfl ?_
          exact cut_inA ⟨_, h, rfl, H.pickL [] rfl⟩
        · replace h := condF hg145 h
          refine call_skip (.bool false) (gF1 ((pickT hg138).trans hg145)) ?_
          refine skipLD (.int .i64 0) (gF1 (pickF ((pickT hg138).trans hg145))) ?_
          refine skipLD (.int .i64 0) (gF1 (pickF (pickF ((pickT hg138).trans hg145)))) ?_
          refine skipLD (.int .i64 0) (gF1 (pickF (pickF (pickF ((pickT hg138).trans hg145))))) ?_
          refine skipLD (.int .i64 0) (gF1 (pickF (pickF (pickF (pickF ((pickT hg138).trans hg145)))))) ?_
          exact cut_inA ⟨_, h, rfl, H.pickL [] rfl⟩
      · replace h := condF hg138 h
        refine call_skip (.bool false) (gF1 hg138) ?_
        refine skipLD (.agg #[.int .i64 0, .int .i64 0]) (gF1 (pickF hg138)) ?_
        refine call_skip (.bool false) (gF1 (pickF hg138)) ?_
        refine skipLD (.int .i64 0) (gF1 (pickF (pickF hg138))) ?_
        refine skipLD (.int .i64 0) (gF1 (pickF (pickF (pickF hg138)))) ?_
        refine skipLD (.int .i64 0) (gF1 (pickF (pickF (pickF (pickF hg138))))) ?_
        refine skipLD (.int .i64 0) (gF1 (pickF (pickF (pickF (pickF (pickF hg138)))))) ?_
        exact cut_inA ⟨_, h, rfl, H.pickL [] rfl⟩
    · rintro _ w152 ⟨v135, h, rfl, H⟩
      unfold list_Right.k2 at h
      refine nc ?_
      replace h := Option.some.inj h
      subst h
      exact ret_inA [.bool v135] ⟨_, rfl, ⟨rfl, H.frame⟩⟩
/-! gemot/list.Pack -/
noncomputable def list_Pack.b1 (x0 : D_list_Message) (v189 : List (List UInt8)) (v193 : Int) : Option (((List (List UInt8)) × Int) ⊕ (List (List UInt8))) := cond (decide (v193 < ((([x0.1, x0.2.1.1, x0.2.1.2, x0.2.2.1.1, x0.2.2.1.2, x0.2.2.2.1, (x0.2.2.2.2.1.length : Int)] : List Int) ++ x0.2.2.2.2.1).length : Int))) ((idxL (([x0.1, x0.2.1.1, x0.2.1.2, x0.2.2.1.1, x0.2.2.1.2, x0.2.2.2.1, (x0.2.2.2.2.1.length : Int)] : List Int) ++ x0.2.2.2.2.1) v193).bind fun y265 => (term_Number.f (IntKind.u64.wrap y265)).bind fun y271 => roomM 16 (v189.length + 1) (some (.inl ((v189 ++ [y271]), (IntKind.i64.wrap (v193 + (1 : Int))))))) (some (.inr v189))
noncomputable def list_Pack.k2 (x0 : D_list_Message) (v158 : List (List UInt8)) : Option ((List UInt8) × Int) := roomM 16 (v158.length + x0.2.2.2.2.2.length) ((list_Put.f (v158 ++ x0.2.2.2.2.2)).bind fun y296 => some (y296.1, y296.2))
noncomputable def list_Pack.f (x0 : D_list_Message) : Option ((List UInt8) × Int) := (list_Right.f (x0.1, (x0.2.1.1, x0.2.1.2), (x0.2.2.1.1, x0.2.2.1.2), x0.2.2.2.1, x0.2.2.2.2.1, x0.2.2.2.2.2)).bind fun y14 => cond (!y14) (some (([] : List UInt8), (1 : Int))) (roomM 8 (([x0.1, x0.2.1.1, x0.2.1.2, x0.2.2.1.1, x0.2.2.1.2, x0.2.2.2.1, (x0.2.2.2.2.1.length : Int)] : List Int).length + x0.2.2.2.2.1.length) ((loopM (fun s261 : (List (List UInt8)) × Int => list_Pack.b1 x0 s261.1 s261.2) (([] : List (List UInt8)), (0 : Int))).bind (fun (o259 : (List (List UInt8))) => list_Pack.k2 x0 o259)))
set_option maxHeartbeats 4000000 in
theorem list_Pack_ok {ok : Nat → Prop} {w : World} {u1 u6 : Value} {x0 : D_list_Message} {r : (List UInt8) × Int} (hu2 : slR (tInt .i64) w ok u1 x0.2.2.2.2.1) (hu7 : slR tStr w ok u6 x0.2.2.2.2.2) (h : list_Pack.f x0 = some r) :
    Calls Tryz.prog 97 #[.agg #[.int .i64 x0.1, .int .i64 x0.2.1.1, .int .i64 x0.2.1.2, .int .i64 x0.2.2.1.1, .int .i64 x0.2.2.1.2, .int .i64 x0.2.2.2.1, u1, u6]] w fun e w' => ∃ v, e = .returned v ∧ (v = .tuple #[.string (bs r.1), .int .i64 r.2] ∧ Bel w.heap.size w w') := by
  have H : Eng.Own ok w w [] := Eng.Own.nil ok w
  obtain ⟨A3, c4, rfl, H⟩ := H.arg rfl hu2
  obtain ⟨A8, c9, rfl, H⟩ := H.arg rfl hu7
  unfold list_Pack.f at h
  refine enterN (args := [.agg #[.int .i64 x0.1, .int .i64 x0.2.1.1, .int .i64 x0.2.1.2, .int .i64 x0.2.2.1.1, .int .i64 x0.2.2.1.2, .int .i64 x0.2.2.2.1, .slice A3 x0.2.2.2.2.1.length c4, .slice A8 x0.2.2.2.2.2.length c9]]) Tryz.func97 rfl Tryz.ntmps97 rfl rfl ?_
  refine nc_seq ?_
  refine nc ?_
  refine own_box H [.int .i64 x0.1, .int .i64 x0.2.1.1, .int .i64 x0.2.1.2, .int .i64 x0.2.2.1.1, .int .i64 x0.2.2.1.2, .int .i64 x0.2.2.2.1, .slice A3 x0.2.2.2.2.1.length c4, .slice A8 x0.2.2.2.2.2.length c9] rfl fun g12 w13 H => ?_
  refine nc_seq ?_
  refine nc_seq ?_
  refine nc ?_
  refine own_loadA (m := 8) H 0 rfl (by kernel_rfl) (by kernel_rfl) [.int .i64 x0.1, .int .i64 x0.2.1.1, .int .i64 x0.2.1.2, .int .i64 x0.2.2.1.1, .int .i64 x0.2.2.1.2, .int .i64 x0.2.2.2.1, .slice A3 x0.2.2.2.2.1.length c4, .slice A8 x0.2.2.2.2.2.length c9] rfl rfl ?_
  obtain ⟨y14, hy15, h⟩ := bindS h
  refine call_rule (by kernel_rfl) (list_Right_ok (x0 := (x0.1, (x0.2.1.1, x0.2.1.2), (x0.2.2.1.1, x0.2.2.1.2), x0.2.2.2.1, x0.2.2.2.2.1, x0.2.2.2.2.2)) (H.dat 2 rfl) (H.dat 1 rfl) hy15) fun v17 w16 ⟨hv18, hb19⟩ => ?_
  subst hv18
  replace H := H.call hb19
  refine nc_cond rfl (fun hc20 => ?_) (fun hc20 => ?_)
  · replace h := condT hc20 h
    refine nc_seq ?_
    refine nc ?_
    refine nc ?_
    replace h := Option.some.inj h
    subst h
    exact ret_inA [.string (bs ([] : List UInt8)), .int .i64 1] ⟨_, rfl, ⟨rfl, H.frame⟩⟩
  · replace h := condF hc20 h
    refine nc ?_
    refine nc_seq ?_
    refine nc ?_
    refine own_load H 0 rfl (by kernel_rfl) (j := 0) rfl ?_
    refine own_load H 0 rfl (by kernel_rfl) (j := 1) rfl ?_
    refine own_load H 0 rfl (by kernel_rfl) (j := 2) rfl ?_
    refine own_load H 0 rfl (by kernel_rfl) (j := 3) rfl ?_
    refine own_load H 0 rfl (by kernel_rfl) (j := 4) rfl ?_
    refine own_load H 0 rfl (by kernel_rfl) (j := 5) rfl ?_
    refine own_load H 0 rfl (by kernel_rfl) (j := 6) rfl ?_
    refine own_buildSlice (e := 3) (sz := 1) (z := .int .i64 0) (cs := [.int .i64 x0.1, .int .i64 x0.2.1.1, .int .i64 x0.2.1.2, .int .i64 x0.2.2.1.1, .int .i64 x0.2.2.1.2, .int .i64 x0.2.2.2.1, .int .i64 (x0.2.2.2.2.1.length : Int)]) H (by kernel_rfl) (by kernel_rfl) (by kernel_rfl) rfl rfl rfl rfl fun g22 w23 H => ?_
    have hr := H.addDat (dRows (tInt .i64) ([x0.1, x0.2.1.1, x0.2.1.2, x0.2.2.1.1, x0.2.2.1.2, x0.2.2.2.1, (x0.2.2.2.2.1.length : Int)] : List Int) [.int .i64 x0.1, .int .i64 x0.2.1.1, .int .i64 x0.2.1.2, .int .i64 x0.2.2.1.1, .int .i64 x0.2.2.1.2, .int .i64 x0.2.2.2.1, .int .i64 (x0.2.2.2.2.1.length : Int)]) ⟨_, _, rfl, rfl, ⟨_, _, rfl, rfl, ⟨_, _, rfl, rfl, ⟨_, _, rfl, rfl, ⟨_, _, rfl, rfl, ⟨_, _, rfl, rfl, ⟨_, _, rfl, rfl, rfl⟩⟩⟩⟩⟩⟩⟩
    replace H := (hr.pickL (1 :: 0 :: (List.range 3).map (· + 2)) rfl).blkRow (n := 7) (sz := 1) rfl (by decide)
    refine own_load H 2 rfl (by kernel_rfl) (j := 6) rfl ?_
    obtain ⟨hr27, h⟩ := roomS h
    refine own_appendD (k := (tInt .i64)) (z := .int .i64 0) 8 H 0 1 4 rfl rfl rfl rfl (by kernel_rfl) (by kernel_rfl) rfl rfl hr27 rfl fun z28 cs29 w30 H => ?_
    obtain ⟨A31, c32, rfl, _, _⟩ := H.rowSl 0 rfl
    refine nc_seq ?_
    refine nc ?_
    refine nc_cut (fun e w162 => ∃ (A159 : Option Addr) (c160 : Nat) (cs161 : List Value) (v158 : List (List UInt8)), list_Pack.k2 x0 v158 = some r ∧ e = [(1, .pointer (some ⟨g12, 0, none⟩)), (5, .slice A159 v158.length c160)] ∧ Eng.Own ok w w162 [.blk g12 [.int .i64 x0.1, .int .i64 x0.2.1.1, .int .i64 x0.2.1.2, .int .i64 x0.2.2.1.1, .int .i64 x0.2.2.1.2, .int .i64 x0.2.2.2.1, .slice A3 x0.2.2.2.2.1.length c4, .slice A8 x0.2.2.2.2.2.length c9] 58, .dat (dSl (tInt .i64) (.slice A3 x0.2.2.2.2.1.length c4) x0.2.2.2.2.1), .dat (dSl tStr (.slice A8 x0.2.2.2.2.2.length c9) x0.2.2.2.2.2), .dat (dRows tStr v158 cs161), .row (.slice A159 v158.length c160) 28 1 v158.length cs161]) ?_ ?_
    · skip
      refine nc_seq ?_
      refine nc ?_
      refine nc_block ?_
      replace H := H.nilRowD tStr 28
      obtain ⟨o251, hL252, hO253⟩ := bindS h
      obtain ⟨n254, hL252⟩ := loopS hL252
      refine nc ?_
      refine loop_ruleA (fun k e w258 => ∃ (A190 : Option Addr) (c191 : Nat) (cs192 : List Value) (v189 : List (List UInt8)) (v193 : Int), iterM (fun s261 : (List (List UInt8)) × Int => list_Pack.b1 x0 s261.1 s261.2) k (v189, v193) = some o251 ∧ e = [(1, .pointer (some ⟨g12, 0, none⟩)), (5, .slice A190 v189.length c191), (34, .slice A31 (([x0.1, x0.2.1.1, x0.2.1.2, x0.2.2.1.1, x0.2.2.1.2, x0.2.2.2.1, (x0.2.2.2.2.1.length : Int)] : List Int) ++ x0.2.2.2.2.1).length c32), (35, .int .i64 ((([x0.1, x0.2.1.1, x0.2.1.2, x0.2.2.1.1, x0.2.2.1.2, x0.2.2.2.1, (x0.2.2.2.2.1.length : Int)] : List Int) ++ x0.2.2.2.2.1).length : Int)), (36, .int .i64 v193)] ∧ Eng.Own ok w w258 [.blk g12 [.int .i64 x0.1, .int .i64 x0.2.1.1, .int .i64 x0.2.1.2, .int .i64 x0.2.2.1.1, .int .i64 x0.2.2.1.2, .int .i64 x0.2.2.2.1, .slice A3 x0.2.2.2.2.1.length c4, .slice A8 x0.2.2.2.2.2.length c9] 58, .dat (dSl (tInt .i64) (.slice A3 x0.2.2.2.2.1.length c4) x0.2.2.2.2.1), .dat (dSl tStr (.slice A8 x0.2.2.2.2.2.length c9) x0.2.2.2.2.2), .dat (dRows tStr v189 cs192), .row (.slice A190 v189.length c191) 28 1 v189.length cs192, .dat (dRows (tInt .i64) (([x0.1, x0.2.1.1, x0.2.1.2, x0.2.2.1.1, x0.2.2.1.2, x0.2.2.2.1, (x0.2.2.2.2.1.length : Int)] : List Int) ++ x0.2.2.2.2.1) cs29), .row (.slice A31 (([x0.1, x0.2.1.1, x0.2.1.2, x0.2.2.1.1, x0.2.2.1.2, x0.2.2.2.1, (x0.2.2.2.2.1.length : Int)] : List Int) ++ x0.2.2.2.2.1).length c32) 3 1 (([x0.1, x0.2.1.1, x0.2.1.2, x0.2.2.1.1, x0.2.2.1.2, x0.2.2.2.1, (x0.2.2.2.2.1.length : Int)] : List Int) ++ x0.2.2.2.2.1).length cs29]) ⟨none, 0, [], _, _, hL252, rfl, H.pickL [4, 6, 5, 0, 1, 3, 2] rfl⟩ ?_
      rintro k263 _ w262 ⟨A190, c191, cs192, v189, v193, hL252, rfl, H⟩
      obtain ⟨k257, rfl, q255, h, hq256⟩ := iterS hL252
      replace h : list_Pack.b1 x0 v189 v193 = some q255 := h
      unfold list_Pack.b1 at h
      refine nc_seq ?_
      refine nc ?_
      refine nc_seq ?_
      refine nc_cond rfl (fun hc264 => ?_) (fun hc264 => ?_)
      · replace h := condT hc264 h
        refine nc ?_
        refine nc_seq ?_
        refine nc_block ?_
        refine nc_seq ?_
        refine nc ?_
        obtain ⟨y265, hx266, h⟩ := bindS h
        obtain ⟨a267, _, rfl, _, _⟩ := H.rowElem (k := (tInt .i64)) 6 5 rfl rfl rfl hx266
        refine idxA_rule (e := 3) 1 _ (by kernel_rfl) (by kernel_rfl) (idxL_some hx266).1 (idxL_some hx266).2.1 ?_
        obtain ⟨cs268, hR269, hC270⟩ := H.rowElemJ (k := (tInt .i64)) 6 5 rfl rfl rfl hx266
        replace hR269 : cs268 = [.int .i64 y265] := by exact hR269
        subst hR269
        refine load_at hC270 0 (by kernel_rfl) rfl ?_
        refine nc ?_
        obtain ⟨y271, hy272, h⟩ := bindS h
        refine call_rule (by kernel_rfl) (term_Number_ok hy272) fun v274 w273 ⟨hv275, hb276⟩ => ?_
        subst hv275
        replace H := H.call hb276
        refine own_buildSlice (e := 28) (sz := 1) (z := .string ⟨#[]⟩) (cs := [.string (bs y271)]) H (by kernel_rfl) (by kernel_rfl) (by kernel_rfl) rfl rfl rfl rfl fun g278 w279 H => ?_
        obtain ⟨hr280, h⟩ := roomS h
        refine own_append1 (k := tStr) (z := .string ⟨#[]⟩) (x := y271) 16 H 4 3 rfl rfl rfl rfl (by kernel_rfl) (by kernel_rfl) rfl rfl hr280 rfl fun z281 cs282 w283 H => ?_
        obtain ⟨A284, c285, rfl, _, _⟩ := H.rowSl 4 rfl
        refine nc ?_
        cases h
        exact again_inA ⟨A284, c285, cs282, _, _, hq256, rfl, H.pickL [0, 1, 2, 3, 4, 5, 6] rfl⟩
      · replace h := condF hc264 h
        refine nc ?_
        cases h
        replace hq256 : v189 = o251 := hq256
        subst hq256
        have h := hO253
        try dsimp only [Sum.elim_inl, Sum.elim_inr] at h
        exact cut_inA ⟨A190, c191, cs192, _, h, rfl, H.pickL [0, 1, 2, 3, 4] rfl⟩
    · rintro _ w287 ⟨A159, c160, cs161, v158, h, rfl, H⟩
      unfold list_Pack.k2 at h
      refine nc_seq ?_
      refine nc ?_
      refine own_load H 0 rfl (by kernel_rfl) (j := 7) rfl ?_
      obtain ⟨hr288, h⟩ := roomS h
      refine own_appendD (k := tStr) (z := .string ⟨#[]⟩) 16 H 4 3 2 rfl rfl rfl rfl (by kernel_rfl) (by kernel_rfl) rfl rfl hr288 rfl fun z289 cs290 w291 H => ?_
      obtain ⟨A292, c293, rfl, _, _⟩ := H.rowSl 4 rfl
      replace H := H.freeze (k := tStr) 4 3 rfl rfl
      obtain ⟨y296, hy297, h⟩ := bindS h
      refine call_rule (by kernel_rfl) (list_Put_ok (H.dat 4 rfl) hy297) fun v299 w298 ⟨hv300, hb301⟩ => ?_
      subst hv300
      replace H := H.call hb301
      refine nc ?_
      replace h := Option.some.inj h
      subst h
      exact ret_inA [.string (bs y296.1), .int .i64 y296.2] ⟨_, rfl, ⟨rfl, H.frame⟩⟩
/-! gemot/view.Term -/
noncomputable def view_Term.f (x0 : D_api_View) : Option ((List UInt8) × Int) := (view_Right.f ((x0.1.1, x0.1.2), x0.2)).bind fun y9 => cond (!y9) (some (([] : List UInt8), (1 : Int))) ((list_Pack.f ((0 : Int), (x0.1.1, x0.1.2), ((0 : Int), (0 : Int)), (0 : Int), x0.2, ([] : List (List UInt8)))).bind fun y16 => some (y16.1, y16.2))
set_option maxHeartbeats 4000000 in
theorem view_Term_ok {ok : Nat → Prop} {w : World} {u1 : Value} {x0 : D_api_View} {r : (List UInt8) × Int} (hu2 : slR (tInt .i64) w ok u1 x0.2) (h : view_Term.f x0 = some r) :
    Calls Tryz.prog 55 #[.agg #[.int .i64 x0.1.1, .int .i64 x0.1.2, u1]] w fun e w' => ∃ v, e = .returned v ∧ (v = .tuple #[.string (bs r.1), .int .i64 r.2] ∧ Bel w.heap.size w w') := by
  have H : Eng.Own ok w w [] := Eng.Own.nil ok w
  obtain ⟨A3, c4, rfl, H⟩ := H.arg rfl hu2
  unfold view_Term.f at h
  refine enterN (args := [.agg #[.int .i64 x0.1.1, .int .i64 x0.1.2, .slice A3 x0.2.length c4]]) Tryz.func55 rfl Tryz.ntmps55 rfl rfl ?_
  refine nc_seq ?_
  refine nc ?_
  refine own_box H [.int .i64 x0.1.1, .int .i64 x0.1.2, .slice A3 x0.2.length c4] rfl fun g7 w8 H => ?_
  refine nc_seq ?_
  refine nc_seq ?_
  refine nc ?_
  refine own_loadA (m := 3) H 0 rfl (by kernel_rfl) (by kernel_rfl) [.int .i64 x0.1.1, .int .i64 x0.1.2, .slice A3 x0.2.length c4] rfl rfl ?_
  obtain ⟨y9, hy10, h⟩ := bindS h
  refine call_rule (by kernel_rfl) (view_Right_ok (x0 := ((x0.1.1, x0.1.2), x0.2)) (H.dat 1 rfl) hy10) fun v12 w11 ⟨hv13, hb14⟩ => ?_
  subst hv13
  replace H := H.call hb14
  refine nc_cond rfl (fun hc15 => ?_) (fun hc15 => ?_)
  · replace h := condT hc15 h
    refine nc_seq ?_
    refine nc ?_
    refine nc ?_
    replace h := Option.some.inj h
    subst h
    exact ret_inA [.string (bs ([] : List UInt8)), .int .i64 1] ⟨_, rfl, ⟨rfl, H.frame⟩⟩
  · replace h := condF hc15 h
    refine nc ?_
    refine nc_seq ?_
    refine nc ?_
    refine own_loadA (m := 2) H 0 rfl (by kernel_rfl) (by kernel_rfl) [.int .i64 x0.1.1, .int .i64 x0.1.2] rfl rfl ?_
    refine own_load H 0 rfl (by kernel_rfl) (j := 2) rfl ?_
    obtain ⟨y16, hy17, h⟩ := bindS h
    refine call_rule (by kernel_rfl) (list_Pack_ok (x0 := ((0 : Int), (x0.1.1, x0.1.2), ((0 : Int), (0 : Int)), (0 : Int), x0.2, ([] : List (List UInt8)))) (H.dat 1 rfl) nilR hy17) fun v19 w18 ⟨hv20, hb21⟩ => ?_
    subst hv20
    replace H := H.call hb21
    refine nc ?_
    replace h := Option.some.inj h
    subst h
    exact ret_inA [.string (bs y16.1), .int .i64 y16.2] ⟨_, rfl, ⟨rfl, H.frame⟩⟩
/-! gemot/blind.Group -/
noncomputable def blind_Group.f (x0 : D_api_View) (x1 : List UInt8) : Option ((List UInt8) × Int) := (view_Term.f ((x0.1.1, x0.1.2), x0.2)).bind fun y9 => cond (y9.2 != (0 : Int)) (some (([] : List UInt8), y9.2)) ((term_Pair.f y9.1 x1).bind fun y16 => cond (y16.2 != (0 : Int)) (some (([] : List UInt8), y16.2)) ((term_Hash.f y16.1).bind fun y23 => some (y23.1, y23.2)))
set_option maxHeartbeats 4000000 in
theorem blind_Group_ok {ok : Nat → Prop} {w : World} {u1 : Value} {x0 : D_api_View} {x1 : List UInt8} {r : (List UInt8) × Int} (hu2 : slR (tInt .i64) w ok u1 x0.2) (h : blind_Group.f x0 x1 = some r) :
    Calls Tryz.prog 18 #[.agg #[.int .i64 x0.1.1, .int .i64 x0.1.2, u1], .string (bs x1)] w fun e w' => ∃ v, e = .returned v ∧ (v = .tuple #[.string (bs r.1), .int .i64 r.2] ∧ Bel w.heap.size w w') := by
  have H : Eng.Own ok w w [] := Eng.Own.nil ok w
  obtain ⟨A3, c4, rfl, H⟩ := H.arg rfl hu2
  unfold blind_Group.f at h
  refine enterN (args := [.agg #[.int .i64 x0.1.1, .int .i64 x0.1.2, .slice A3 x0.2.length c4], .string (bs x1)]) Tryz.func18 rfl Tryz.ntmps18 rfl rfl ?_
  refine nc_seq ?_
  refine nc ?_
  refine own_box H [.int .i64 x0.1.1, .int .i64 x0.1.2, .slice A3 x0.2.length c4] rfl fun g7 w8 H => ?_
  refine nc_seq ?_
  refine nc ?_
  refine own_loadA (m := 3) H 0 rfl (by kernel_rfl) (by kernel_rfl) [.int .i64 x0.1.1, .int .i64 x0.1.2, .slice A3 x0.2.length c4] rfl rfl ?_
  obtain ⟨y9, hy10, h⟩ := bindS h
  refine call_rule (by kernel_rfl) (view_Term_ok (x0 := ((x0.1.1, x0.1.2), x0.2)) (H.dat 1 rfl) hy10) fun v12 w11 ⟨hv13, hb14⟩ => ?_
  subst hv13
  replace H := H.call hb14
  refine nc_seq ?_
  refine nc_seq ?_
  refine nc ?_
  refine nc_cond rfl (fun hc15 => ?_) (fun hc15 => ?_)
  · replace h := condT hc15 h
    refine nc_seq ?_
    refine nc ?_
    refine nc ?_
    replace h := Option.some.inj h
    subst h
    exact ret_inA [.string (bs ([] : List UInt8)), .int .i64 y9.2] ⟨_, rfl, ⟨rfl, H.frame⟩⟩
  · replace h := condF hc15 h
    refine nc ?_
    refine nc_seq ?_
    refine nc ?_
    obtain ⟨y16, hy17, h⟩ := bindS h
    refine call_rule (by kernel_rfl) (term_Pair_ok (ok := fun _ => False) hy17) fun v19 w18 ⟨hv20, hb21⟩ => ?_
    subst hv20
    replace H := H.call hb21
    refine nc_seq ?_
    refine nc_seq ?_
    refine nc ?_
    refine nc_cond rfl (fun hc22 => ?_) (fun hc22 => ?_)
    · replace h := condT hc22 h
      refine nc_seq ?_
      refine nc ?_
      refine nc ?_
      replace h := Option.some.inj h
      subst h
      exact ret_inA [.string (bs ([] : List UInt8)), .int .i64 y16.2] ⟨_, rfl, ⟨rfl, H.frame⟩⟩
    · replace h := condF hc22 h
      refine nc ?_
      refine nc_seq ?_
      refine nc ?_
      obtain ⟨y23, hy24, h⟩ := bindS h
      refine call_rule (by kernel_rfl) (term_Hash_ok (ok := fun _ => False) hy24) fun v26 w25 ⟨hv27, hb28⟩ => ?_
      subst hv27
      replace H := H.call hb28
      refine nc ?_
      replace h := Option.some.inj h
      subst h
      exact ret_inA [.string (bs y23.1), .int .i64 y23.2] ⟨_, rfl, ⟨rfl, H.frame⟩⟩
/-! gemot/place.Beside -/
noncomputable def place_Beside.f (x0 : List UInt8) : Option ((List UInt8)) := cond (strEq x0 ([] : List UInt8)) (some ([] : List UInt8)) ((slcM x0 (0 : Int) (IntKind.i64.wrap ((x0.length : Int) - (1 : Int)))).bind fun y2 => (idxS x0 (IntKind.i64.wrap ((x0.length : Int) - (1 : Int)))).bind fun y4 => cond (y4 == (108 : Int)) (roomM 1 (y2.length + [114].length) (some (y2 ++ [114]))) (roomM 1 (y2.length + [108].length) (some (y2 ++ [108]))))
set_option maxHeartbeats 4000000 in
theorem place_Beside_ok {ok : Nat → Prop} {w : World} {x0 : List UInt8} {r : (List UInt8)} (h : place_Beside.f x0 = some r) :
    Calls Tryz.prog 78 #[.string (bs x0)] w fun e w' => ∃ v, e = .returned v ∧ (v = .string (bs r) ∧ Bel w.heap.size w w') := by
  have H : Eng.Own ok w w [] := Eng.Own.nil ok w
  unfold place_Beside.f at h
  refine enterN (args := [.string (bs x0)]) Tryz.func78 rfl Tryz.ntmps78 rfl rfl ?_
  refine nc_seq ?_
  refine nc ?_
  refine nc_seq ?_
  refine nc_seq ?_
  refine nc ?_
  refine nc_cond rfl (fun hc1 => ?_) (fun hc1 => ?_)
  · replace h := condT hc1 h
    refine nc_seq ?_
    refine nc ?_
    refine nc ?_
    replace h := Option.some.inj h
    subst h
    exact ret_inA [.string (bs ([] : List UInt8))] ⟨_, rfl, ⟨rfl, H.frame⟩⟩
  · replace h := condF hc1 h
    refine nc ?_
    refine nc_seq ?_
    obtain ⟨y2, hx3, h⟩ := bindS h
    obtain ⟨y4, hx5, h⟩ := bindS h
    refine nc ?_
    refine draw_rule [] (by kernel_rfl) (by kernel_rfl) H ?_
    refine c_txtI (0 : Int) (IntKind.i64.wrap ((x0.length : Int) - (1 : Int))) (by kernel_rfl) rfl ⟨_, rfl⟩ hx3 ?_
    refine c_idxS (by kernel_rfl) hx5 ?_
    intro w6 H
    refine nc_seq ?_
    refine nc_seq ?_
    refine nc ?_
    refine nc_cond rfl (fun hc7 => ?_) (fun hc7 => ?_)
    · replace h := condT hc7 h
      refine nc_seq ?_
      refine nc ?_
      obtain ⟨hr8, h⟩ := roomS h
      refine catM_rule hr8 ?_
      refine nc ?_
      replace h := Option.some.inj h
      subst h
      exact ret_inA [.string (bs (y2 ++ [114]))] ⟨_, rfl, ⟨rfl, H.frame⟩⟩
    · replace h := condF hc7 h
      refine nc ?_
      refine nc_seq ?_
      refine nc ?_
      obtain ⟨hr9, h⟩ := roomS h
      refine catM_rule hr9 ?_
      refine nc ?_
      replace h := Option.some.inj h
      subst h
      exact ret_inA [.string (bs (y2 ++ [108]))] ⟨_, rfl, ⟨rfl, H.frame⟩⟩
/-! gemot/place.Co -/
noncomputable def place_Co.k1 (y273 : (List (List UInt8))) (v348 : Int) (v508 : List (List UInt8)) : Option (((List (List UInt8)) × Int) ⊕ (List (List UInt8))) := some (.inl (v508, (IntKind.i64.wrap (v348 + (1 : Int)))))
noncomputable def place_Co.b2 (y273 : (List (List UInt8))) (v344 : List (List UInt8)) (v348 : Int) : Option (((List (List UInt8)) × Int) ⊕ (List (List UInt8))) := cond (decide (v348 < (y273.length : Int))) ((idxL y273 v348).bind fun y514 => cond (!(strEq y514 ([] : List UInt8))) ((place_Beside.f y514).bind fun y521 => roomM 16 (v344.length + 1) (place_Co.k1 y273 v348 (v344 ++ [y521]))) (place_Co.k1 y273 v348 v344)) (some (.inr v344))
noncomputable def place_Co.k3 (v267 : List (List UInt8)) : Option ((List (List UInt8))) := some v267
noncomputable def place_Co.f (x0 : List UInt8) (x1 : Int) : Option ((List (List UInt8))) := (place_Path.f x0 x1).bind fun y273 => (loopM (fun s480 : (List (List UInt8)) × Int => place_Co.b2 y273 s480.1 s480.2) (([] : List (List UInt8)), (0 : Int))).bind (fun (o478 : (List (List UInt8))) => place_Co.k3 o478)
set_option maxHeartbeats 4000000 in
theorem place_Co_ok {ok : Nat → Prop} {w : World} {x0 : List UInt8} {x1 : Int} {r : (List (List UInt8))} (h : place_Co.f x0 x1 = some r) :
    Calls Tryz.prog 37 #[.string (bs x0), .int .i64 x1] w fun e w' => ∃ v, e = .returned v ∧ (rowOut w w' ok tStr 9 v r ∧ Bel w.heap.size w w') := by
  have H : Eng.Own ok w w [] := Eng.Own.nil ok w
  unfold place_Co.f at h
  refine enterN (args := [.string (bs x0), .int .i64 x1]) Tryz.func37 rfl Tryz.ntmps37 rfl rfl ?_
  refine nc_seq ?_
  refine nc ?_
  refine nc_seq ?_
  refine nc ?_
  refine nc_cut (fun e w271 => ∃ (A268 : Option Addr) (c269 : Nat) (cs270 : List Value) (v267 : List (List UInt8)), place_Co.k3 v267 = some r ∧ e = [(5, .slice A268 v267.length c269)] ∧ Eng.Own ok w w271 [.dat (dRows tStr v267 cs270), .row (.slice A268 v267.length c269) 9 1 v267.length cs270]) ?_ ?_
  · skip
    refine nc_seq ?_
    refine nc ?_
    obtain ⟨y273, hy274, h⟩ := bindS h
    refine call_rule (by kernel_rfl) (place_Path_ok (ok := fun _ => False) hy274) fun u279 w275 ⟨hu280, hb278⟩ => ?_
    replace H := H.callDats hb278 [dSl tStr u279 y273] ⟨(slR_any hu280), trivial⟩
    obtain ⟨A281, c282, hA283, _⟩ := H.sl 0 rfl
    subst hA283
    refine nc_block ?_
    replace H := H.nilRowD tStr 9
    obtain ⟨o470, hL471, hO472⟩ := bindS h
    obtain ⟨n473, hL471⟩ := loopS hL471
    refine nc ?_
    refine loop_ruleA (fun k e w477 => ∃ (A345 : Option Addr) (c346 : Nat) (cs347 : List Value) (v344 : List (List UInt8)) (v348 : Int), iterM (fun s480 : (List (List UInt8)) × Int => place_Co.b2 y273 s480.1 s480.2) k (v344, v348) = some o470 ∧ e = [(5, .slice A345 v344.length c346), (10, .slice A281 y273.length c282), (11, .int .i64 (y273.length : Int)), (12, .int .i64 v348)] ∧ Eng.Own ok w w477 [.dat (dRows tStr v344 cs347), .row (.slice A345 v344.length c346) 9 1 v344.length cs347, .dat (dSl tStr (.slice A281 y273.length c282) y273)]) ⟨none, 0, [], _, _, hL471, rfl, H.pickL [0, 1, 2] rfl⟩ ?_
    rintro k482 _ w481 ⟨A345, c346, cs347, v344, v348, hL471, rfl, H⟩
    obtain ⟨k476, rfl, q474, h, hq475⟩ := iterS hL471
    replace h : place_Co.b2 y273 v344 v348 = some q474 := h
    unfold place_Co.b2 at h
    refine nc_seq ?_
    refine nc ?_
    refine nc_seq ?_
    refine nc_cond rfl (fun hc483 => ?_) (fun hc483 => ?_)
    · replace h := condT hc483 h
      refine nc ?_
      refine nc_cut (fun e w512 => ∃ (A509 : Option Addr) (c510 : Nat) (cs511 : List Value) (v508 : List (List UInt8)), place_Co.k1 y273 v348 v508 = some q474 ∧ e = [(5, .slice A509 v508.length c510), (10, .slice A281 y273.length c282), (11, .int .i64 (y273.length : Int)), (12, .int .i64 v348)] ∧ Eng.Own ok w w512 [.dat (dRows tStr v508 cs511), .row (.slice A509 v508.length c510) 9 1 v508.length cs511, .dat (dSl tStr (.slice A281 y273.length c282) y273)]) ?_ ?_
      · skip
        refine nc_block ?_
        refine nc_seq ?_
        refine nc ?_
        obtain ⟨y514, hx515, h⟩ := bindS h
        obtain ⟨a516, cs517, rfl, hR518, H⟩ := H.elemI 2 rfl hx515
        obtain rfl : cs517 = [.string (bs y514)] := hR518
        refine idxA_rule (e := 9) 1 _ (by kernel_rfl) (by kernel_rfl) (idxL_some hx515).1 (idxL_some hx515).2.1 ?_
        refine own_loadD H 0 rfl 0 (by kernel_rfl) rfl ?_
        refine nc_seq ?_
        refine nc ?_
        refine nc_cond rfl (fun hc520 => ?_) (fun hc520 => ?_)
        · replace h := condT hc520 h
          refine nc ?_
          obtain ⟨y521, hy522, h⟩ := bindS h
          refine call_rule (by kernel_rfl) (place_Beside_ok (ok := fun _ => False) hy522) fun v524 w523 ⟨hv525, hb526⟩ => ?_
          subst hv525
          replace H := H.call hb526
          refine own_buildSlice (e := 9) (sz := 1) (z := .string ⟨#[]⟩) (cs := [.string (bs y521)]) H (by kernel_rfl) (by kernel_rfl) (by kernel_rfl) rfl rfl rfl rfl fun g528 w529 H => ?_
          obtain ⟨hr530, h⟩ := roomS h
          refine own_append1 (k := tStr) (z := .string ⟨#[]⟩) (x := y521) 16 H 2 1 rfl rfl rfl rfl (by kernel_rfl) (by kernel_rfl) rfl rfl hr530 rfl fun z531 cs532 w533 H => ?_
          obtain ⟨A534, c535, rfl, _, _⟩ := H.rowSl 2 rfl
          exact cut_inA ⟨A534, c535, cs532, _, h, rfl, H.pickL [1, 2, 3] rfl⟩
        · replace h := condF hc520 h
          refine nc ?_
          exact cut_inA ⟨A345, c346, cs347, _, h, rfl, H.pickL [1, 2, 3] rfl⟩
      · rintro _ w537 ⟨A509, c510, cs511, v508, h, rfl, H⟩
        unfold place_Co.k1 at h
        refine nc ?_
        cases h
        exact again_inA ⟨A509, c510, cs511, _, _, hq475, rfl, H.pickL [0, 1, 2] rfl⟩
    · replace h := condF hc483 h
      refine nc ?_
      cases h
      replace hq475 : v344 = o470 := hq475
      subst hq475
      have h := hO472
      try dsimp only [Sum.elim_inl, Sum.elim_inr] at h
      exact cut_inA ⟨A345, c346, cs347, _, h, rfl, H.pickL [0, 1] rfl⟩
  · rintro _ w538 ⟨A268, c269, cs270, v267, h, rfl, H⟩
    unfold place_Co.k3 at h
    refine nc_seq ?_
    refine nc ?_
    refine nc ?_
    replace h := Option.some.inj h
    subst h
    exact ret_inA [.slice A268 v267.length c269] ⟨_, rfl, ⟨H.outR 1 0 rfl rfl rfl, H.frame⟩⟩
end Go.Proofs.YtfapphlhkfddoaaGreatDoor.G
