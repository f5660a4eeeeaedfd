/- Walks, printed by a program of this proof's own. -/
import Derived.Test.YtgomlcfoifkdiaaGreatHP
import Derived.Test.YtgomlcfoifkdiaaGreatHR
import Derived.KernelRfl
namespace Go.Proofs.YtgomlcfoifkdiaaGreat.G
open Go.RowKit Go.Eng Go.Proofs
set_option linter.unusedVariables false
set_option maxRecDepth 20000
/-! gemot/gemotref1.Power -/
noncomputable def gemotref1_Power.k1 (x0 : List UInt8) (x1 : List UInt8) (v45 : Bool) : Option ((List UInt8) × Int) := cond v45 (some (([] : List UInt8), (1 : Int))) ((gemotref1_Exponents.f x0).bind fun y63 => roomM 16 (y63.length + 1) (cond (decide (((y63 ++ [x1]).length : Int) > (32 : Int))) (some (([] : List UInt8), (3 : Int))) ((gemotref1_Raised.f (y63 ++ [x1])).bind fun y87 => (gemotref1_made.f y87).bind fun y93 => some (y93.1, y93.2))))
noncomputable def gemotref1_Power.f (x0 : List UInt8) (x1 : List UInt8) : Option ((List UInt8) × Int) := (gemotref1_element.f x0).bind fun y48 => cond (!y48) (gemotref1_Power.k1 x0 x1 (cond (!y48) true (!false))) ((gemotref1_Right.f x1).bind fun y55 => gemotref1_Power.k1 x0 x1 (cond (!y48) true (!y55)))
set_option maxHeartbeats 4000000 in
theorem gemotref1_Power_ok {ok : Nat → Prop} {w : World} {x0 : List UInt8} {x1 : List UInt8} {r : (List UInt8) × Int} (h : gemotref1_Power.f x0 x1 = some r) :
    Calls Tryz.prog 33 #[.string (bs x0), .string (bs x1)] w fun e w' => ∃ v, e = .returned v ∧ (v = .tuple #[.string (bs r.1), .int .i64 r.2] ∧ Bel w.heap.size w w') := by
  have H : Eng.Own ok w w [] := Eng.Own.nil ok w
  unfold gemotref1_Power.f at h
  refine enterN (args := [.string (bs x0), .string (bs x1)]) Tryz.func33 rfl Tryz.ntmps33 rfl rfl ?_
  refine nc_seq ?_
  refine nc ?_
  refine nc_seq ?_
  refine nc_cut (fun e w46 => ∃ (v45 : Bool), gemotref1_Power.k1 x0 x1 v45 = some r ∧ e = [(0, .string (bs x0)), (1, .string (bs x1)), (14, .bool v45)] ∧ Eng.Own ok w w46 []) ?_ ?_
  · skip
    refine nc ?_
    obtain ⟨y48, hy49, h⟩ := bindS h
    refine call_rule (by kernel_rfl) (gemotref1_element_ok (ok := fun _ => False) hy49) fun v51 w50 ⟨hv52, hb53⟩ => ?_
    subst hv52
    replace H := H.call hb53
    rcases Bool.eq_false_or_eq_true (!y48) with hg54 | hg54
    · replace h := condT hg54 h
      refine call_skip (.bool false) (gF0 hg54) ?_
      exact cut_inA ⟨_, h, rfl, H.pickL [] rfl⟩
    · replace h := condF hg54 h
      obtain ⟨y55, hy56, h⟩ := bindS h
      refine call_yes (gT0 hg54 rfl) (by kernel_rfl) (gemotref1_Right_ok (ok := fun _ => False) hy56) fun v58 w57 ⟨hv59, hb60⟩ => ?_
      subst hv59
      replace H := H.call hb60
      exact cut_inA ⟨_, h, rfl, H.pickL [] rfl⟩
  · rintro _ w61 ⟨v45, h, rfl, H⟩
    unfold gemotref1_Power.k1 at h
    refine nc_cond rfl (fun hc62 => ?_) (fun hc62 => ?_)
    · replace h := condT hc62 h
      refine nc_seq ?_
      refine nc ?_
      refine nc ?_
      replace h := Option.some.inj h
      subst h
      exact ret_inA [.string (bs ([] : List UInt8)), .int .i64 1] ⟨_, rfl, ⟨rfl, H.frame⟩⟩
    · replace h := condF hc62 h
      refine nc ?_
      refine nc_seq ?_
      refine nc ?_
      obtain ⟨y63, hy64, h⟩ := bindS h
      refine call_rule (by kernel_rfl) (gemotref1_Exponents_ok (ok := fun _ => False) hy64) fun u69 w65 ⟨hu70, hb68⟩ => ?_
      obtain ⟨cs72, H⟩ := H.callRow hb68 (rowOut_any hu70)
      obtain ⟨A73, c74, rfl, _, _⟩ := H.rowSl 1 rfl
      refine own_buildSlice (e := 9) (sz := 1) (z := .string ⟨#[]⟩) (cs := [.string (bs x1)]) H (by kernel_rfl) (by kernel_rfl) (by kernel_rfl) rfl rfl rfl rfl fun g76 w77 H => ?_
      obtain ⟨hr78, h⟩ := roomS h
      refine own_append1 (k := tStr) (z := .string ⟨#[]⟩) (x := x1) 16 H 1 0 rfl rfl rfl rfl (by kernel_rfl) (by kernel_rfl) rfl rfl hr78 rfl fun z79 cs80 w81 H => ?_
      obtain ⟨A82, c83, rfl, _, _⟩ := H.rowSl 1 rfl
      refine nc_seq ?_
      refine nc_seq ?_
      refine nc ?_
      refine nc_cond rfl (fun hc85 => ?_) (fun hc85 => ?_)
      · replace h := condT hc85 h
        refine nc_seq ?_
        refine nc ?_
        refine nc ?_
        replace h := Option.some.inj h
        subst h
        exact ret_inA [.string (bs ([] : List UInt8)), .int .i64 3] ⟨_, rfl, ⟨rfl, H.frame⟩⟩
      · replace h := condF hc85 h
        refine nc ?_
        refine nc_seq ?_
        refine nc ?_
        replace H := H.freeze (k := tStr) 1 0 rfl rfl
        obtain ⟨y87, hy88, h⟩ := bindS h
        refine call_rule (by kernel_rfl) (gemotref1_Raised_ok (H.dat 1 rfl) hy88) fun v90 w89 ⟨hv91, hb92⟩ => ?_
        subst hv91
        replace H := H.call hb92
        obtain ⟨y93, hy94, h⟩ := bindS h
        refine call_rule (by kernel_rfl) (gemotref1_made_ok (ok := fun _ => False) hy94) fun v96 w95 ⟨hv97, hb98⟩ => ?_
        subst hv97
        replace H := H.call hb98
        refine nc ?_
        replace h := Option.some.inj h
        subst h
        exact ret_inA [.string (bs y93.1), .int .i64 y93.2] ⟨_, rfl, ⟨rfl, H.frame⟩⟩
/-! gemot/term.of -/
noncomputable def term_of.b1 (x1 : List (List UInt8)) (v102 : List UInt8) (v103 : Int) : Option (((List UInt8) × Int) ⊕ ((List UInt8) ⊕ ((List UInt8) × Int))) := cond (decide (v103 < (x1.length : Int))) ((idxL x1 v103).bind fun y151 => (term_Right.f y151).bind fun y157 => cond (!y157) (some (.inr (Sum.inr (([] : List UInt8), (1 : Int))))) (roomM 1 (v102.length + y151.length) (some (.inl ((v102 ++ y151), (IntKind.i64.wrap (v103 + (1 : Int)))))))) (some (.inr (Sum.inl v102)))
noncomputable def term_of.k2 (v84 : List UInt8) : Option ((List UInt8) × Int) := (term_whole.f v84).bind fun y166 => some (y166.1, y166.2)
noncomputable def term_of.f (x0 : List UInt8) (x1 : List (List UInt8)) : Option ((List UInt8) × Int) := (loopM (fun s147 : (List UInt8) × Int => term_of.b1 x1 s147.1 s147.2) (x0, (0 : Int))).bind (Sum.elim (fun (o145 : (List UInt8)) => term_of.k2 o145) (fun (o146 : (List UInt8) × Int) => some o146))
set_option maxHeartbeats 4000000 in
theorem term_of_ok {ok : Nat → Prop} {w : World} {u1 : Value} {x0 : List UInt8} {x1 : List (List UInt8)} {r : (List UInt8) × Int} (hu2 : slR tStr w ok u1 x1) (h : term_of.f x0 x1 = some r) :
    Calls Tryz.prog 66 #[.string (bs x0), u1] w fun e w' => ∃ v, e = .returned v ∧ (v = .tuple #[.string (bs r.1), .int .i64 r.2] ∧ Bel w.heap.size w w') := by
  have H : Eng.Own ok w w [] := Eng.Own.nil ok w
  obtain ⟨A3, c4, rfl, H⟩ := H.arg rfl hu2
  unfold term_of.f at h
  refine enterN (args := [.string (bs x0), .slice A3 x1.length c4]) Tryz.func66 rfl Tryz.ntmps66 rfl rfl ?_
  refine nc_seq ?_
  refine nc ?_
  refine nc_cut (fun e w85 => ∃ (v84 : List UInt8), term_of.k2 v84 = some r ∧ e = [(0, .string (bs v84))] ∧ Eng.Own ok w w85 []) ?_ ?_
  · skip
    refine nc_seq ?_
    refine nc ?_
    refine nc_block ?_
    obtain ⟨o137, hL138, hO139⟩ := bindS h
    obtain ⟨n140, hL138⟩ := loopS hL138
    refine nc ?_
    refine loop_ruleA (fun k e w144 => ∃ (v102 : List UInt8) (v103 : Int), iterM (fun s147 : (List UInt8) × Int => term_of.b1 x1 s147.1 s147.2) k (v102, v103) = some o137 ∧ e = [(0, .string (bs v102)), (8, .slice A3 x1.length c4), (9, .int .i64 (x1.length : Int)), (10, .int .i64 v103)] ∧ Eng.Own ok w w144 [.dat (dSl tStr (.slice A3 x1.length c4) x1)]) ⟨_, _, hL138, rfl, H.pickL [0] rfl⟩ ?_
    rintro k149 _ w148 ⟨v102, v103, hL138, rfl, H⟩
    obtain ⟨k143, rfl, q141, h, hq142⟩ := iterS hL138
    replace h : term_of.b1 x1 v102 v103 = some q141 := h
    unfold term_of.b1 at h
    refine nc_seq ?_
    refine nc ?_
    refine nc_seq ?_
    refine nc_cond rfl (fun hc150 => ?_) (fun hc150 => ?_)
    · replace h := condT hc150 h
      refine nc ?_
      refine nc_seq ?_
      refine nc_block ?_
      refine nc_seq ?_
      refine nc ?_
      obtain ⟨y151, hx152, h⟩ := bindS h
      obtain ⟨a153, cs154, rfl, hR155, H⟩ := H.elemI 0 rfl hx152
      obtain rfl : cs154 = [.string (bs y151)] := hR155
      refine idxA_rule (e := 26) 1 _ (by kernel_rfl) (by kernel_rfl) (idxL_some hx152).1 (idxL_some hx152).2.1 ?_
      refine own_loadD H 0 rfl 0 (by kernel_rfl) rfl ?_
      refine nc_seq ?_
      refine nc_seq ?_
      refine nc ?_
      obtain ⟨y157, hy158, h⟩ := bindS h
      refine call_rule (by kernel_rfl) (term_Right_ok (ok := fun _ => False) hy158) fun v160 w159 ⟨hv161, hb162⟩ => ?_
      subst hv161
      replace H := H.call hb162
      refine nc_cond rfl (fun hc163 => ?_) (fun hc163 => ?_)
      · replace h := condT hc163 h
        refine nc_seq ?_
        refine nc ?_
        refine nc ?_
        cases h
        replace hq142 : (Sum.inr (([] : List UInt8), (1 : Int))) = o137 := hq142
        subst hq142
        have h := hO139
        try dsimp only [Sum.elim_inl, Sum.elim_inr] at h
        replace h := Option.some.inj h
        subst h
        exact ret_inA [.string (bs ([] : List UInt8)), .int .i64 1] ⟨_, rfl, ⟨rfl, H.frame⟩⟩
      · replace h := condF hc163 h
        refine nc ?_
        refine nc ?_
        obtain ⟨hr164, h⟩ := roomS h
        refine catM_rule hr164 ?_
        refine nc ?_
        cases h
        exact again_inA ⟨_, _, hq142, rfl, H.pickL [1] rfl⟩
    · replace h := condF hc150 h
      refine nc ?_
      cases h
      replace hq142 : (Sum.inl v102) = o137 := hq142
      subst hq142
      have h := hO139
      try dsimp only [Sum.elim_inl, Sum.elim_inr] at h
      exact cut_inA ⟨_, h, rfl, H.pickL [] rfl⟩
  · rintro _ w165 ⟨v84, h, rfl, H⟩
    unfold term_of.k2 at h
    refine nc_seq ?_
    refine nc ?_
    obtain ⟨y166, hy167, h⟩ := bindS h
    refine call_rule (by kernel_rfl) (term_whole_ok (ok := fun _ => False) hy167) fun v169 w168 ⟨hv170, hb171⟩ => ?_
    subst hv170
    replace H := H.call hb171
    refine nc ?_
    replace h := Option.some.inj h
    subst h
    exact ret_inA [.string (bs y166.1), .int .i64 y166.2] ⟨_, rfl, ⟨rfl, H.frame⟩⟩
/-! gemot/term.Pair -/
noncomputable def term_Pair.f (x0 : List UInt8) (x1 : List UInt8) : Option ((List UInt8) × Int) := (term_of.f [112] ([x0, x1] : List (List UInt8))).bind fun y5 => some (y5.1, y5.2)
set_option maxHeartbeats 4000000 in
theorem term_Pair_ok {ok : Nat → Prop} {w : World} {x0 : List UInt8} {x1 : List UInt8} {r : (List UInt8) × Int} (h : term_Pair.f x0 x1 = some r) :
    Calls Tryz.prog 36 #[.string (bs x0), .string (bs x1)] w fun e w' => ∃ v, e = .returned v ∧ (v = .tuple #[.string (bs r.1), .int .i64 r.2] ∧ Bel w.heap.size w w') := by
  have H : Eng.Own ok w w [] := Eng.Own.nil ok w
  unfold term_Pair.f at h
  refine enterN (args := [.string (bs x0), .string (bs x1)]) Tryz.func36 rfl Tryz.ntmps36 rfl rfl ?_
  refine nc_seq ?_
  refine nc ?_
  refine nc_seq ?_
  refine nc ?_
  refine own_buildSlice (e := 26) (sz := 1) (z := .string ⟨#[]⟩) (cs := [.string (bs x0), .string (bs x1)]) H (by kernel_rfl) (by kernel_rfl) (by kernel_rfl) rfl rfl rfl rfl fun g2 w3 H => ?_
  replace H := H.blkSl (k := tStr) [x0, x1] 2 rfl rfl (by decide) ⟨_, _, rfl, rfl, ⟨_, _, rfl, rfl, rfl⟩⟩
  obtain ⟨y5, hy6, h⟩ := bindS h
  refine call_rule (by kernel_rfl) (term_of_ok (H.dat 0 rfl) hy6) fun v8 w7 ⟨hv9, hb10⟩ => ?_
  subst hv9
  replace H := H.call hb10
  refine nc ?_
  replace h := Option.some.inj h
  subst h
  exact ret_inA [.string (bs y5.1), .int .i64 y5.2] ⟨_, rfl, ⟨rfl, H.frame⟩⟩
/-! gemot/term.Hash -/
noncomputable def term_Hash.f (x0 : List UInt8) : Option ((List UInt8) × Int) := (term_of.f [104] ([x0] : List (List UInt8))).bind fun y5 => some (y5.1, y5.2)
set_option maxHeartbeats 4000000 in
theorem term_Hash_ok {ok : Nat → Prop} {w : World} {x0 : List UInt8} {r : (List UInt8) × Int} (h : term_Hash.f x0 = some r) :
    Calls Tryz.prog 37 #[.string (bs x0)] w fun e w' => ∃ v, e = .returned v ∧ (v = .tuple #[.string (bs r.1), .int .i64 r.2] ∧ Bel w.heap.size w w') := by
  have H : Eng.Own ok w w [] := Eng.Own.nil ok w
  unfold term_Hash.f at h
  refine enterN (args := [.string (bs x0)]) Tryz.func37 rfl Tryz.ntmps37 rfl rfl ?_
  refine nc_seq ?_
  refine nc ?_
  refine nc_seq ?_
  refine nc ?_
  refine own_buildSlice (e := 26) (sz := 1) (z := .string ⟨#[]⟩) (cs := [.string (bs x0)]) H (by kernel_rfl) (by kernel_rfl) (by kernel_rfl) rfl rfl rfl rfl fun g2 w3 H => ?_
  replace H := H.blkSl (k := tStr) [x0] 1 rfl rfl (by decide) ⟨_, _, rfl, rfl, rfl⟩
  obtain ⟨y5, hy6, h⟩ := bindS h
  refine call_rule (by kernel_rfl) (term_of_ok (H.dat 0 rfl) hy6) fun v8 w7 ⟨hv9, hb10⟩ => ?_
  subst hv9
  replace H := H.call hb10
  refine nc ?_
  replace h := Option.some.inj h
  subst h
  exact ret_inA [.string (bs y5.1), .int .i64 y5.2] ⟨_, rfl, ⟨rfl, H.frame⟩⟩
/-! slices.Contains(()int,int) -/
noncomputable def slices_Contains_int_int.f (x0 : List Int) (x1 : Int) : Option (Bool) := (slices_Index_int_int.f x0 x1).bind fun y6 => some (decide (y6 ≥ (0 : Int)))
set_option maxHeartbeats 4000000 in
theorem slices_Contains_int_int_ok {ok : Nat → Prop} {w : World} {u1 : Value} {x0 : List Int} {x1 : Int} {r : Bool} (hu2 : slR (tInt .i64) w ok u1 x0) (h : slices_Contains_int_int.f x0 x1 = some r) :
    Calls Tryz.prog 112 #[u1, .int .i64 x1] w fun e w' => ∃ v, e = .returned v ∧ (v = .bool r ∧ Bel w.heap.size w w') := by
  have H : Eng.Own ok w w [] := Eng.Own.nil ok w
  obtain ⟨A3, c4, rfl, H⟩ := H.arg rfl hu2
  unfold slices_Contains_int_int.f at h
  refine enterN (args := [.slice A3 x0.length c4, .int .i64 x1]) Tryz.func112 rfl Tryz.ntmps112 rfl rfl ?_
  refine nc_seq ?_
  refine nc ?_
  refine nc_seq ?_
  refine nc ?_
  obtain ⟨y6, hy7, h⟩ := bindS h
  refine call_rule (by kernel_rfl) (slices_Index_int_int_ok (H.dat 0 rfl) hy7) fun v9 w8 ⟨hv10, hb11⟩ => ?_
  subst hv10
  replace H := H.call hb11
  refine nc ?_
  replace h := Option.some.inj h
  subst h
  exact ret_inA [.bool (decide (y6 ≥ (0 : Int)))] ⟨_, rfl, ⟨rfl, H.frame⟩⟩
/-! gemot/view.Has -/
noncomputable def view_Has.f (x0 : List Int) (x1 : Int) : Option (Bool) := (slices_Contains_int_int.f x0 x1).bind fun y6 => some y6
set_option maxHeartbeats 4000000 in
theorem view_Has_ok {ok : Nat → Prop} {w : World} {u1 : Value} {x0 : List Int} {x1 : Int} {r : Bool} (hu2 : slR (tInt .i64) w ok u1 x0) (h : view_Has.f x0 x1 = some r) :
    Calls Tryz.prog 85 #[u1, .int .i64 x1] w fun e w' => ∃ v, e = .returned v ∧ (v = .bool r ∧ Bel w.heap.size w w') := by
  have H : Eng.Own ok w w [] := Eng.Own.nil ok w
  obtain ⟨A3, c4, rfl, H⟩ := H.arg rfl hu2
  unfold view_Has.f at h
  refine enterN (args := [.slice A3 x0.length c4, .int .i64 x1]) Tryz.func85 rfl Tryz.ntmps85 rfl rfl ?_
  refine nc_seq ?_
  refine nc ?_
  refine nc_seq ?_
  refine nc ?_
  obtain ⟨y6, hy7, h⟩ := bindS h
  refine call_rule (by kernel_rfl) (slices_Contains_int_int_ok (H.dat 0 rfl) hy7) fun v9 w8 ⟨hv10, hb11⟩ => ?_
  subst hv10
  replace H := H.call hb11
  refine nc ?_
  replace h := Option.some.inj h
  subst h
  exact ret_inA [.bool y6] ⟨_, rfl, ⟨rfl, H.frame⟩⟩
/-! gemot/view.Right -/
noncomputable def view_Right.k1 (v22 : Bool) : Option (Bool) := some v22
noncomputable def view_Right.f (x0 : D_api_View) : Option (Bool) := (view_Row.f x0.2).bind fun y25 => cond y25 ((view_Has.f x0.2 x0.1.2).bind fun y32 => view_Right.k1 (cond (cond (cond y25 y32 false) (decide (x0.1.1 ≥ (0 : Int))) false) (decide (x0.1.1 ≤ (2147483647 : Int))) false)) (view_Right.k1 (cond (cond (cond y25 false false) (decide ((0 : Int) ≥ (0 : Int))) false) (decide ((0 : Int) ≤ (2147483647 : Int))) false))
set_option maxHeartbeats 4000000 in
theorem view_Right_ok {ok : Nat → Prop} {w : World} {u1 : Value} {x0 : D_api_View} {r : Bool} (hu2 : slR (tInt .i64) w ok u1 x0.2) (h : view_Right.f x0 = some r) :
    Calls Tryz.prog 64 #[.agg #[.int .i64 x0.1.1, .int .i64 x0.1.2, u1]] w fun e w' => ∃ v, e = .returned v ∧ (v = .bool r ∧ Bel w.heap.size w w') := by
  have H : Eng.Own ok w w [] := Eng.Own.nil ok w
  obtain ⟨A3, c4, rfl, H⟩ := H.arg rfl hu2
  unfold view_Right.f at h
  refine enterN (args := [.agg #[.int .i64 x0.1.1, .int .i64 x0.1.2, .slice A3 x0.2.length c4]]) Tryz.func64 rfl Tryz.ntmps64 rfl rfl ?_
  refine nc_seq ?_
  refine nc ?_
  refine own_box H [.int .i64 x0.1.1, .int .i64 x0.1.2, .slice A3 x0.2.length c4] rfl fun g7 w8 H => ?_
  refine nc_cut (fun e w23 => ∃ (v22 : Bool), view_Right.k1 v22 = some r ∧ e = [(2, .bool v22)] ∧ Eng.Own ok w w23 []) ?_ ?_
  · skip
    refine nc ?_
    refine own_load H 0 rfl (by kernel_rfl) (j := 2) rfl ?_
    obtain ⟨y25, hy26, h⟩ := bindS h
    refine call_rule (by kernel_rfl) (view_Row_ok (H.dat 1 rfl) hy26) fun v28 w27 ⟨hv29, hb30⟩ => ?_
    subst hv29
    replace H := H.call hb30
    refine own_load H 0 rfl (by kernel_rfl) (j := 2) rfl ?_
    refine own_load H 0 rfl (by kernel_rfl) (j := 1) rfl ?_
    rcases Bool.eq_false_or_eq_true y25 with hg31 | hg31
    · replace h := condT hg31 h
      obtain ⟨y32, hy33, h⟩ := bindS h
      refine call_yes (gT1 hg31 rfl) (by kernel_rfl) (view_Has_ok (H.dat 1 rfl) hy33) fun v35 w34 ⟨hv36, hb37⟩ => ?_
      subst hv36
      replace H := H.call hb37
      refine own_load H 0 rfl (by kernel_rfl) (j := 0) rfl ?_
      refine own_load H 0 rfl (by kernel_rfl) (j := 0) rfl ?_
      exact cut_inA ⟨_, h, rfl, H.pickL [] rfl⟩
    · replace h := condF hg31 h
      refine call_skip (.bool false) (gF1 hg31) ?_
      refine skipLD (.int .i64 0) (gF1 (pickF hg31)) ?_
      refine skipLD (.int .i64 0) (gF1 (pickF (pickF hg31))) ?_
      exact cut_inA ⟨_, h, rfl, H.pickL [] rfl⟩
  · rintro _ w38 ⟨v22, h, rfl, H⟩
    unfold view_Right.k1 at h
    refine nc ?_
    replace h := Option.some.inj h
    subst h
    exact ret_inA [.bool v22] ⟨_, rfl, ⟨rfl, H.frame⟩⟩
/-! gemot/list.right -/
noncomputable def list_right.f (x0 : D_api_Id) : Option (Bool) := some (cond (cond (cond (decide (x0.1 ≥ (0 : Int))) (decide (x0.1 ≤ (2147483647 : Int))) false) (decide (x0.2 ≥ (0 : Int))) false) (decide (x0.2 ≤ (8 : Int))) false)
set_option maxHeartbeats 4000000 in
theorem list_right_ok {ok : Nat → Prop} {w : World} {x0 : D_api_Id} {r : Bool} (h : list_right.f x0 = some r) :
    Calls Tryz.prog 113 #[.agg #[.int .i64 x0.1, .int .i64 x0.2]] w fun e w' => ∃ v, e = .returned v ∧ (v = .bool r ∧ Bel w.heap.size w w') := by
  have H : Eng.Own ok w w [] := Eng.Own.nil ok w
  unfold list_right.f at h
  refine enterN (args := [.agg #[.int .i64 x0.1, .int .i64 x0.2]]) Tryz.func113 rfl Tryz.ntmps113 rfl rfl ?_
  refine nc_seq ?_
  refine nc ?_
  refine own_box H [.int .i64 x0.1, .int .i64 x0.2] rfl fun g2 w3 H => ?_
  refine nc_seq ?_
  refine nc ?_
  refine own_load H 0 rfl (by kernel_rfl) (j := 0) rfl ?_
  refine own_load H 0 rfl (by kernel_rfl) (j := 0) rfl ?_
  refine own_load H 0 rfl (by kernel_rfl) (j := 1) rfl ?_
  refine own_load H 0 rfl (by kernel_rfl) (j := 1) rfl ?_
  refine nc ?_
  replace h := Option.some.inj h
  subst h
  exact ret_inA [.bool (cond (cond (cond (decide (x0.1 ≥ (0 : Int))) (decide (x0.1 ≤ (2147483647 : Int))) false) (decide (x0.2 ≥ (0 : Int))) false) (decide (x0.2 ≤ (8 : Int))) false)] ⟨_, rfl, ⟨rfl, H.frame⟩⟩
/-! gemot/list.Right -/
noncomputable def list_Right.b1 (x0 : D_list_Message) (v73 : Int) (v74 : Int) : Option ((Int × Int) ⊕ (Unit ⊕ Bool)) := cond (decide (v74 < (x0.2.2.2.2.1.length : Int))) ((idxL x0.2.2.2.2.1 v74).bind fun y107 => cond (cond (decide (y107 ≤ v73)) true (decide (y107 > (8 : Int)))) (some (.inr (Sum.inr false))) (some (.inl (y107, (IntKind.i64.wrap (v74 + (1 : Int))))))) (some (.inr (Sum.inl ())))
noncomputable def list_Right.k2 (v135 : Bool) : Option (Bool) := some v135
noncomputable def list_Right.k3 (x0 : D_list_Message) : Option (Bool) := (list_Put.f x0.2.2.2.2.2).bind fun y115 => cond (y115.2 == (0 : Int)) ((list_right.f (x0.2.1.1, x0.2.1.2)).bind fun y139 => cond y139 ((list_right.f (x0.2.2.1.1, x0.2.2.1.2)).bind fun y146 => list_Right.k2 (cond (cond (cond (cond (cond (cond (y115.2 == (0 : Int)) y139 false) y146 false) (decide (x0.1 ≥ (0 : Int))) false) (decide (x0.1 ≤ (20 : Int))) false) (decide (x0.2.2.2.1 ≥ (0 : Int))) false) (decide (x0.2.2.2.1 ≤ (2147483647 : Int))) false)) (list_Right.k2 (cond (cond (cond (cond (cond (cond (y115.2 == (0 : Int)) y139 false) false false) (decide ((0 : Int) ≥ (0 : Int))) false) (decide ((0 : Int) ≤ (20 : Int))) false) (decide ((0 : Int) ≥ (0 : Int))) false) (decide ((0 : Int) ≤ (2147483647 : Int))) false))) (list_Right.k2 (cond (cond (cond (cond (cond (cond (y115.2 == (0 : Int)) false false) false false) (decide ((0 : Int) ≥ (0 : Int))) false) (decide ((0 : Int) ≤ (20 : Int))) false) (decide ((0 : Int) ≥ (0 : Int))) false) (decide ((0 : Int) ≤ (2147483647 : Int))) false))
noncomputable def list_Right.f (x0 : D_list_Message) : Option (Bool) := (loopM (fun s103 : Int × Int => list_Right.b1 x0 s103.1 s103.2) ((0 : Int), (0 : Int))).bind (Sum.elim (fun (o101 : Unit) => list_Right.k3 x0) (fun (o102 : Bool) => some o102))
set_option maxHeartbeats 4000000 in
theorem list_Right_ok {ok : Nat → Prop} {w : World} {u1 u6 : Value} {x0 : D_list_Message} {r : Bool} (hu2 : slR (tInt .i64) w ok u1 x0.2.2.2.2.1) (hu7 : slR tStr w ok u6 x0.2.2.2.2.2) (h : list_Right.f x0 = some r) :
    Calls Tryz.prog 86 #[.agg #[.int .i64 x0.1, .int .i64 x0.2.1.1, .int .i64 x0.2.1.2, .int .i64 x0.2.2.1.1, .int .i64 x0.2.2.1.2, .int .i64 x0.2.2.2.1, u1, u6]] w fun e w' => ∃ v, e = .returned v ∧ (v = .bool r ∧ Bel w.heap.size w w') := by
  have H : Eng.Own ok w w [] := Eng.Own.nil ok w
  obtain ⟨A3, c4, rfl, H⟩ := H.arg rfl hu2
  obtain ⟨A8, c9, rfl, H⟩ := H.arg rfl hu7
  unfold list_Right.f at h
  refine enterN (args := [.agg #[.int .i64 x0.1, .int .i64 x0.2.1.1, .int .i64 x0.2.1.2, .int .i64 x0.2.2.1.1, .int .i64 x0.2.2.1.2, .int .i64 x0.2.2.2.1, .slice A3 x0.2.2.2.2.1.length c4, .slice A8 x0.2.2.2.2.2.length c9]]) Tryz.func86 rfl Tryz.ntmps86 rfl rfl ?_
  refine nc_seq ?_
  refine nc ?_
  refine own_box H [.int .i64 x0.1, .int .i64 x0.2.1.1, .int .i64 x0.2.1.2, .int .i64 x0.2.2.1.1, .int .i64 x0.2.2.1.2, .int .i64 x0.2.2.2.1, .slice A3 x0.2.2.2.2.1.length c4, .slice A8 x0.2.2.2.2.2.length c9] rfl fun g12 w13 H => ?_
  refine nc_seq ?_
  refine nc ?_
  refine nc_cut (fun e w63 => list_Right.k3 x0 = some r ∧ e = [(1, .pointer (some ⟨g12, 0, none⟩))] ∧ Eng.Own ok w w63 [.blk g12 [.int .i64 x0.1, .int .i64 x0.2.1.1, .int .i64 x0.2.1.2, .int .i64 x0.2.2.1.1, .int .i64 x0.2.2.1.2, .int .i64 x0.2.2.2.1, .slice A3 x0.2.2.2.2.1.length c4, .slice A8 x0.2.2.2.2.2.length c9] 93, .dat (dSl (tInt .i64) (.slice A3 x0.2.2.2.2.1.length c4) x0.2.2.2.2.1), .dat (dSl tStr (.slice A8 x0.2.2.2.2.2.length c9) x0.2.2.2.2.2)]) ?_ ?_
  · skip
    refine nc_seq ?_
    refine nc ?_
    refine own_load H 0 rfl (by kernel_rfl) (j := 6) rfl ?_
    refine nc_block ?_
    obtain ⟨o93, hL94, hO95⟩ := bindS h
    obtain ⟨n96, hL94⟩ := loopS hL94
    refine nc ?_
    refine loop_ruleA (fun k e w100 => ∃ (v73 : Int) (v74 : Int), iterM (fun s103 : Int × Int => list_Right.b1 x0 s103.1 s103.2) k (v73, v74) = some o93 ∧ e = [(1, .pointer (some ⟨g12, 0, none⟩)), (3, .int .i64 v73), (9, .slice A3 x0.2.2.2.2.1.length c4), (10, .int .i64 (x0.2.2.2.2.1.length : Int)), (11, .int .i64 v74)] ∧ Eng.Own ok w w100 [.blk g12 [.int .i64 x0.1, .int .i64 x0.2.1.1, .int .i64 x0.2.1.2, .int .i64 x0.2.2.1.1, .int .i64 x0.2.2.1.2, .int .i64 x0.2.2.2.1, .slice A3 x0.2.2.2.2.1.length c4, .slice A8 x0.2.2.2.2.2.length c9] 93, .dat (dSl (tInt .i64) (.slice A3 x0.2.2.2.2.1.length c4) x0.2.2.2.2.1), .dat (dSl tStr (.slice A8 x0.2.2.2.2.2.length c9) x0.2.2.2.2.2)]) ⟨_, _, hL94, rfl, H.pickL [0, 2, 1] rfl⟩ ?_
    rintro k105 _ w104 ⟨v73, v74, hL94, rfl, H⟩
    obtain ⟨k99, rfl, q97, h, hq98⟩ := iterS hL94
    replace h : list_Right.b1 x0 v73 v74 = some q97 := h
    unfold list_Right.b1 at h
    refine nc_seq ?_
    refine nc ?_
    refine nc_seq ?_
    refine nc_cond rfl (fun hc106 => ?_) (fun hc106 => ?_)
    · replace h := condT hc106 h
      refine nc ?_
      refine nc_seq ?_
      refine nc_block ?_
      refine nc_seq ?_
      refine nc ?_
      obtain ⟨y107, hx108, h⟩ := bindS h
      obtain ⟨a109, cs110, rfl, hR111, H⟩ := H.elemI 1 rfl hx108
      obtain rfl : cs110 = [.int .i64 y107] := hR111
      refine idxA_rule (e := 3) 1 _ (by kernel_rfl) (by kernel_rfl) (idxL_some hx108).1 (idxL_some hx108).2.1 ?_
      refine own_loadD H 0 rfl 0 (by kernel_rfl) rfl ?_
      refine nc_seq ?_
      refine nc_seq ?_
      refine nc ?_
      refine nc_cond rfl (fun hc113 => ?_) (fun hc113 => ?_)
      · replace h := condT hc113 h
        refine nc_seq ?_
        refine nc ?_
        refine nc ?_
        cases h
        replace hq98 : (Sum.inr false) = o93 := hq98
        subst hq98
        have h := hO95
        try dsimp only [Sum.elim_inl, Sum.elim_inr] at h
        replace h := Option.some.inj h
        subst h
        exact ret_inA [.bool false] ⟨_, rfl, ⟨rfl, H.frame⟩⟩
      · replace h := condF hc113 h
        refine nc ?_
        refine nc ?_
        refine nc ?_
        cases h
        exact again_inA ⟨_, _, hq98, rfl, H.pickL [1, 2, 3] rfl⟩
    · replace h := condF hc106 h
      refine nc ?_
      cases h
      replace hq98 : (Sum.inl ()) = o93 := hq98
      subst hq98
      have h := hO95
      try dsimp only [Sum.elim_inl, Sum.elim_inr] at h
      exact cut_inA ⟨h, rfl, H.pickL [0, 1, 2] rfl⟩
  · rintro _ w114 ⟨h, rfl, H⟩
    unfold list_Right.k3 at h
    refine nc_seq ?_
    refine nc ?_
    refine own_load H 0 rfl (by kernel_rfl) (j := 7) rfl ?_
    obtain ⟨y115, hy116, h⟩ := bindS h
    refine call_rule (by kernel_rfl) (list_Put_ok (H.dat 2 rfl) hy116) fun v118 w117 ⟨hv119, hb120⟩ => ?_
    subst hv119
    replace H := H.call hb120
    refine nc_cut (fun e w136 => ∃ (v135 : Bool), list_Right.k2 v135 = some r ∧ e = [(2, .bool v135)] ∧ Eng.Own ok w w136 []) ?_ ?_
    · skip
      refine nc ?_
      refine own_loadA (m := 2) H 0 rfl (by kernel_rfl) (by kernel_rfl) [.int .i64 x0.2.1.1, .int .i64 x0.2.1.2] rfl rfl ?_
      rcases Bool.eq_false_or_eq_true (y115.2 == (0 : Int)) with hg138 | hg138
      · replace h := condT hg138 h
        obtain ⟨y139, hy140, h⟩ := bindS h
        refine call_yes (gT1 hg138 rfl) (by kernel_rfl) (list_right_ok (ok := fun _ => False) (x0 := (x0.2.1.1, x0.2.1.2)) hy140) fun v142 w141 ⟨hv143, hb144⟩ => ?_
        subst hv143
        replace H := H.call hb144
        refine own_loadA (m := 2) H 0 rfl (by kernel_rfl) (by kernel_rfl) [.int .i64 x0.2.2.1.1, .int .i64 x0.2.2.1.2] rfl rfl ?_
        rcases Bool.eq_false_or_eq_true y139 with hg145 | hg145
        · replace h := condT hg145 h
          obtain ⟨y146, hy147, h⟩ := bindS h
          refine call_yes (gT1 ((pickT hg138).trans hg145) rfl) (by kernel_rfl) (list_right_ok (ok := fun _ => False) (x0 := (x0.2.2.1.1, x0.2.2.1.2)) hy147) fun v149 w148 ⟨hv150, hb151⟩ => ?_
          subst hv150
          replace H := H.call hb151
          refine own_load H 0 rfl (by kernel_rfl) (j := 0) rfl ?_
          refine own_load H 0 rfl (by kernel_rfl) (j := 0) rfl ?_
          refine own_load H 0 rfl (by kernel_rfl) (j := 5) rfl ?_
          refine own_load H 0 rfl (by kernel_rfl) (j := 5) rfl ?_
          exact cut_inA ⟨_, h, rfl, H.pickL [] rfl⟩
        · replace h := condF hg145 h
          refine call_skip (.bool false) (gF1 ((pickT hg138).trans hg145)) ?_
          refine skipLD (.int .i64 0) (gF1 (pickF ((pickT hg138).trans hg145))) ?_
          refine skipLD (.int .i64 0) (gF1 (pickF (pickF ((pickT hg138).trans hg145)))) ?_
          refine skipLD (.int .i64 0) (gF1 (pickF (pickF (pickF ((pickT hg138).trans hg145))))) ?_
          refine skipLD (.int .i64 0) (gF1 (pickF (pickF (pickF (pickF ((pickT hg138).trans hg145)))))) ?_
          exact cut_inA ⟨_, h, rfl, H.pickL [] rfl⟩
      · replace h := condF hg138 h
        refine call_skip (.bool false) (gF1 hg138) ?_
        refine skipLD (.agg #[.int .i64 0, .int .i64 0]) (gF1 (pickF hg138)) ?_
        refine call_skip (.bool false) (gF1 (pickF hg138)) ?_
        refine skipLD (.int .i64 0) (gF1 (pickF (pickF hg138))) ?_
        refine skipLD (.int .i64 0) (gF1 (pickF (pickF (pickF hg138)))) ?_
        refine skipLD (.int .i64 0) (gF1 (pickF (pickF (pickF (pickF hg138))))) ?_
        refine skipLD (.int .i64 0) (gF1 (pickF (pickF (pickF (pickF (pickF hg138)))))) ?_
        exact cut_inA ⟨_, h, rfl, H.pickL [] rfl⟩
    · rintro _ w152 ⟨v135, h, rfl, H⟩
      unfold list_Right.k2 at h
      refine nc ?_
      replace h := Option.some.inj h
      subst h
      exact ret_inA [.bool v135] ⟨_, rfl, ⟨rfl, H.frame⟩⟩
/-! gemot/list.Pack -/
noncomputable def list_Pack.b1 (x0 : D_list_Message) (v189 : List (List UInt8)) (v193 : Int) : Option (((List (List UInt8)) × Int) ⊕ (List (List UInt8))) := cond (decide (v193 < ((([x0.1, x0.2.1.1, x0.2.1.2, x0.2.2.1.1, x0.2.2.1.2, x0.2.2.2.1, (x0.2.2.2.2.1.length : Int)] : List Int) ++ x0.2.2.2.2.1).length : Int))) ((idxL (([x0.1, x0.2.1.1, x0.2.1.2, x0.2.2.1.1, x0.2.2.1.2, x0.2.2.2.1, (x0.2.2.2.2.1.length : Int)] : List Int) ++ x0.2.2.2.2.1) v193).bind fun y265 => (term_Number.f (IntKind.u64.wrap y265)).bind fun y271 => roomM 16 (v189.length + 1) (some (.inl ((v189 ++ [y271]), (IntKind.i64.wrap (v193 + (1 : Int))))))) (some (.inr v189))
noncomputable def list_Pack.k2 (x0 : D_list_Message) (v158 : List (List UInt8)) : Option ((List UInt8) × Int) := roomM 16 (v158.length + x0.2.2.2.2.2.length) ((list_Put.f (v158 ++ x0.2.2.2.2.2)).bind fun y296 => some (y296.1, y296.2))
noncomputable def list_Pack.f (x0 : D_list_Message) : Option ((List UInt8) × Int) := (list_Right.f (x0.1, (x0.2.1.1, x0.2.1.2), (x0.2.2.1.1, x0.2.2.1.2), x0.2.2.2.1, x0.2.2.2.2.1, x0.2.2.2.2.2)).bind fun y14 => cond (!y14) (some (([] : List UInt8), (1 : Int))) (roomM 8 (([x0.1, x0.2.1.1, x0.2.1.2, x0.2.2.1.1, x0.2.2.1.2, x0.2.2.2.1, (x0.2.2.2.2.1.length : Int)] : List Int).length + x0.2.2.2.2.1.length) ((loopM (fun s261 : (List (List UInt8)) × Int => list_Pack.b1 x0 s261.1 s261.2) (([] : List (List UInt8)), (0 : Int))).bind (fun (o259 : (List (List UInt8))) => list_Pack.k2 x0 o259)))
set_option maxHeartbeats 4000000 in
theorem list_Pack_ok {ok : Nat → Prop} {w : World} {u1 u6 : Value} {x0 : D_list_Message} {r : (List UInt8) × Int} (hu2 : slR (tInt .i64) w ok u1 x0.2.2.2.2.1) (hu7 : slR tStr w ok u6 x0.2.2.2.2.2) (h : list_Pack.f x0 = some r) :
    Calls Tryz.prog 65 #[.agg #[.int .i64 x0.1, .int .i64 x0.2.1.1, .int .i64 x0.2.1.2, .int .i64 x0.2.2.1.1, .int .i64 x0.2.2.1.2, .int .i64 x0.2.2.2.1, u1, u6]] w fun e w' => ∃ v, e = .returned v ∧ (v = .tuple #[.string (bs r.1), .int .i64 r.2] ∧ Bel w.heap.size w w') := by
  have H : Eng.Own ok w w [] := Eng.Own.nil ok w
  obtain ⟨A3, c4, rfl, H⟩ := H.arg rfl hu2
  obtain ⟨A8, c9, rfl, H⟩ := H.arg rfl hu7
  unfold list_Pack.f at h
  refine enterN (args := [.agg #[.int .i64 x0.1, .int .i64 x0.2.1.1, .int .i64 x0.2.1.2, .int .i64 x0.2.2.1.1, .int .i64 x0.2.2.1.2, .int .i64 x0.2.2.2.1, .slice A3 x0.2.2.2.2.1.length c4, .slice A8 x0.2.2.2.2.2.length c9]]) Tryz.func65 rfl Tryz.ntmps65 rfl rfl ?_
  refine nc_seq ?_
  refine nc ?_
  refine own_box H [.int .i64 x0.1, .int .i64 x0.2.1.1, .int .i64 x0.2.1.2, .int .i64 x0.2.2.1.1, .int .i64 x0.2.2.1.2, .int .i64 x0.2.2.2.1, .slice A3 x0.2.2.2.2.1.length c4, .slice A8 x0.2.2.2.2.2.length c9] rfl fun g12 w13 H => ?_
  refine nc_seq ?_
  refine nc_seq ?_
  refine nc ?_
  refine own_loadA (m := 8) H 0 rfl (by kernel_rfl) (by kernel_rfl) [.int .i64 x0.1, .int .i64 x0.2.1.1, .int .i64 x0.2.1.2, .int .i64 x0.2.2.1.1, .int .i64 x0.2.2.1.2, .int .i64 x0.2.2.2.1, .slice A3 x0.2.2.2.2.1.length c4, .slice A8 x0.2.2.2.2.2.length c9] rfl rfl ?_
  obtain ⟨y14, hy15, h⟩ := bindS h
  refine call_rule (by kernel_rfl) (list_Right_ok (x0 := (x0.1, (x0.2.1.1, x0.2.1.2), (x0.2.2.1.1, x0.2.2.1.2), x0.2.2.2.1, x0.2.2.2.2.1, x0.2.2.2.2.2)) (H.dat 2 rfl) (H.dat 1 rfl) hy15) fun v17 w16 ⟨hv18, hb19⟩ => ?_
  subst hv18
  replace H := H.call hb19
  refine nc_cond rfl (fun hc20 => ?_) (fun hc20 => ?_)
  · replace h := condT hc20 h
    refine nc_seq ?_
    refine nc ?_
    refine nc ?_
    replace h := Option.some.inj h
    subst h
    exact ret_inA [.string (bs ([] : List UInt8)), .int .i64 1] ⟨_, rfl, ⟨rfl, H.frame⟩⟩
  · replace h := condF hc20 h
    refine nc ?_
    refine nc_seq ?_
    refine nc ?_
    refine own_load H 0 rfl (by kernel_rfl) (j := 0) rfl ?_
    refine own_load H 0 rfl (by kernel_rfl) (j := 1) rfl ?_
    refine own_load H 0 rfl (by kernel_rfl) (j := 2) rfl ?_
    refine own_load H 0 rfl (by kernel_rfl) (j := 3) rfl ?_
    refine own_load H 0 rfl (by kernel_rfl) (j := 4) rfl ?_
    refine own_load H 0 rfl (by kernel_rfl) (j := 5) rfl ?_
    refine own_load H 0 rfl (by kernel_rfl) (j := 6) rfl ?_
    refine own_buildSlice (e := 3) (sz := 1) (z := .int .i64 0) (cs := [.int .i64 x0.1, .int .i64 x0.2.1.1, .int .i64 x0.2.1.2, .int .i64 x0.2.2.1.1, .int .i64 x0.2.2.1.2, .int .i64 x0.2.2.2.1, .int .i64 (x0.2.2.2.2.1.length : Int)]) H (by kernel_rfl) (by kernel_rfl) (by kernel_rfl) rfl rfl rfl rfl fun g22 w23 H => ?_
    have hr := H.addDat (dRows (tInt .i64) ([x0.1, x0.2.1.1, x0.2.1.2, x0.2.2.1.1, x0.2.2.1.2, x0.2.2.2.1, (x0.2.2.2.2.1.length : Int)] : List Int) [.int .i64 x0.1, .int .i64 x0.2.1.1, .int .i64 x0.2.1.2, .int .i64 x0.2.2.1.1, .int .i64 x0.2.2.1.2, .int .i64 x0.2.2.2.1, .int .i64 (x0.2.2.2.2.1.length : Int)]) ⟨_, _, rfl, rfl, ⟨_, _, rfl, rfl, ⟨_, _, rfl, rfl, ⟨_, _, rfl, rfl, ⟨_, _, rfl, rfl, ⟨_, _, rfl, rfl, ⟨_, _, rfl, rfl, rfl⟩⟩⟩⟩⟩⟩⟩
    replace H := (hr.pickL (1 :: 0 :: (List.range 3).map (· + 2)) rfl).blkRow (n := 7) (sz := 1) rfl (by decide)
    refine own_load H 2 rfl (by kernel_rfl) (j := 6) rfl ?_
    obtain ⟨hr27, h⟩ := roomS h
    refine own_appendD (k := (tInt .i64)) (z := .int .i64 0) 8 H 0 1 4 rfl rfl rfl rfl (by kernel_rfl) (by kernel_rfl) rfl rfl hr27 rfl fun z28 cs29 w30 H => ?_
    obtain ⟨A31, c32, rfl, _, _⟩ := H.rowSl 0 rfl
    refine nc_seq ?_
    refine nc ?_
    refine nc_cut (fun e w162 => ∃ (A159 : Option Addr) (c160 : Nat) (cs161 : List Value) (v158 : List (List UInt8)), list_Pack.k2 x0 v158 = some r ∧ e = [(1, .pointer (some ⟨g12, 0, none⟩)), (5, .slice A159 v158.length c160)] ∧ Eng.Own ok w w162 [.blk g12 [.int .i64 x0.1, .int .i64 x0.2.1.1, .int .i64 x0.2.1.2, .int .i64 x0.2.2.1.1, .int .i64 x0.2.2.1.2, .int .i64 x0.2.2.2.1, .slice A3 x0.2.2.2.2.1.length c4, .slice A8 x0.2.2.2.2.2.length c9] 93, .dat (dSl (tInt .i64) (.slice A3 x0.2.2.2.2.1.length c4) x0.2.2.2.2.1), .dat (dSl tStr (.slice A8 x0.2.2.2.2.2.length c9) x0.2.2.2.2.2), .dat (dRows tStr v158 cs161), .row (.slice A159 v158.length c160) 26 1 v158.length cs161]) ?_ ?_
    · skip
      refine nc_seq ?_
      refine nc ?_
      refine nc_block ?_
      replace H := H.nilRowD tStr 26
      obtain ⟨o251, hL252, hO253⟩ := bindS h
      obtain ⟨n254, hL252⟩ := loopS hL252
      refine nc ?_
      refine loop_ruleA (fun k e w258 => ∃ (A190 : Option Addr) (c191 : Nat) (cs192 : List Value) (v189 : List (List UInt8)) (v193 : Int), iterM (fun s261 : (List (List UInt8)) × Int => list_Pack.b1 x0 s261.1 s261.2) k (v189, v193) = some o251 ∧ e = [(1, .pointer (some ⟨g12, 0, none⟩)), (5, .slice A190 v189.length c191), (34, .slice A31 (([x0.1, x0.2.1.1, x0.2.1.2, x0.2.2.1.1, x0.2.2.1.2, x0.2.2.2.1, (x0.2.2.2.2.1.length : Int)] : List Int) ++ x0.2.2.2.2.1).length c32), (35, .int .i64 ((([x0.1, x0.2.1.1, x0.2.1.2, x0.2.2.1.1, x0.2.2.1.2, x0.2.2.2.1, (x0.2.2.2.2.1.length : Int)] : List Int) ++ x0.2.2.2.2.1).length : Int)), (36, .int .i64 v193)] ∧ Eng.Own ok w w258 [.blk g12 [.int .i64 x0.1, .int .i64 x0.2.1.1, .int .i64 x0.2.1.2, .int .i64 x0.2.2.1.1, .int .i64 x0.2.2.1.2, .int .i64 x0.2.2.2.1, .slice A3 x0.2.2.2.2.1.length c4, .slice A8 x0.2.2.2.2.2.length c9] 93, .dat (dSl (tInt .i64) (.slice A3 x0.2.2.2.2.1.length c4) x0.2.2.2.2.1), .dat (dSl tStr (.slice A8 x0.2.2.2.2.2.length c9) x0.2.2.2.2.2), .dat (dRows tStr v189 cs192), .row (.slice A190 v189.length c191) 26 1 v189.length cs192, .dat (dRows (tInt .i64) (([x0.1, x0.2.1.1, x0.2.1.2, x0.2.2.1.1, x0.2.2.1.2, x0.2.2.2.1, (x0.2.2.2.2.1.length : Int)] : List Int) ++ x0.2.2.2.2.1) cs29), .row (.slice A31 (([x0.1, x0.2.1.1, x0.2.1.2, x0.2.2.1.1, x0.2.2.1.2, x0.2.2.2.1, (x0.2.2.2.2.1.length : Int)] : List Int) ++ x0.2.2.2.2.1).length c32) 3 1 (([x0.1, x0.2.1.1, x0.2.1.2, x0.2.2.1.1, x0.2.2.1.2, x0.2.2.2.1, (x0.2.2.2.2.1.length : Int)] : List Int) ++ x0.2.2.2.2.1).length cs29]) ⟨none, 0, [], _, _, hL252, rfl, H.pickL [4, 6, 5, 0, 1, 3, 2] rfl⟩ ?_
      rintro k263 _ w262 ⟨A190, c191, cs192, v189, v193, hL252, rfl, H⟩
      obtain ⟨k257, rfl, q255, h, hq256⟩ := iterS hL252
      replace h : list_Pack.b1 x0 v189 v193 = some q255 := h
      unfold list_Pack.b1 at h
      refine nc_seq ?_
      refine nc ?_
      refine nc_seq ?_
      refine nc_cond rfl (fun hc264 => ?_) (fun hc264 => ?_)
      · replace h := condT hc264 h
        refine nc ?_
        refine nc_seq ?_
        refine nc_block ?_
        refine nc_seq ?_
        refine nc ?_
        obtain ⟨y265, hx266, h⟩ := bindS h
        obtain ⟨a267, _, rfl, _, _⟩ := H.rowElem (k := (tInt .i64)) 6 5 rfl rfl rfl hx266
        refine idxA_rule (e := 3) 1 _ (by kernel_rfl) (by kernel_rfl) (idxL_some hx266).1 (idxL_some hx266).2.1 ?_
        obtain ⟨cs268, hR269, hC270⟩ := H.rowElemJ (k := (tInt .i64)) 6 5 rfl rfl rfl hx266
        replace hR269 : cs268 = [.int .i64 y265] := by exact hR269
        subst hR269
        refine load_at hC270 0 (by kernel_rfl) rfl ?_
        refine nc ?_
        obtain ⟨y271, hy272, h⟩ := bindS h
        refine call_rule (by kernel_rfl) (term_Number_ok hy272) fun v274 w273 ⟨hv275, hb276⟩ => ?_
        subst hv275
        replace H := H.call hb276
        refine own_buildSlice (e := 26) (sz := 1) (z := .string ⟨#[]⟩) (cs := [.string (bs y271)]) H (by kernel_rfl) (by kernel_rfl) (by kernel_rfl) rfl rfl rfl rfl fun g278 w279 H => ?_
        obtain ⟨hr280, h⟩ := roomS h
        refine own_append1 (k := tStr) (z := .string ⟨#[]⟩) (x := y271) 16 H 4 3 rfl rfl rfl rfl (by kernel_rfl) (by kernel_rfl) rfl rfl hr280 rfl fun z281 cs282 w283 H => ?_
        obtain ⟨A284, c285, rfl, _, _⟩ := H.rowSl 4 rfl
        refine nc ?_
        cases h
        exact again_inA ⟨A284, c285, cs282, _, _, hq256, rfl, H.pickL [0, 1, 2, 3, 4, 5, 6] rfl⟩
      · replace h := condF hc264 h
        refine nc ?_
        cases h
        replace hq256 : v189 = o251 := hq256
        subst hq256
        have h := hO253
        try dsimp only [Sum.elim_inl, Sum.elim_inr] at h
        exact cut_inA ⟨A190, c191, cs192, _, h, rfl, H.pickL [0, 1, 2, 3, 4] rfl⟩
    · rintro _ w287 ⟨A159, c160, cs161, v158, h, rfl, H⟩
      unfold list_Pack.k2 at h
      refine nc_seq ?_
      refine nc ?_
      refine own_load H 0 rfl (by kernel_rfl) (j := 7) rfl ?_
      obtain ⟨hr288, h⟩ := roomS h
      refine own_appendD (k := tStr) (z := .string ⟨#[]⟩) 16 H 4 3 2 rfl rfl rfl rfl (by kernel_rfl) (by kernel_rfl) rfl rfl hr288 rfl fun z289 cs290 w291 H => ?_
      obtain ⟨A292, c293, rfl, _, _⟩ := H.rowSl 4 rfl
      replace H := H.freeze (k := tStr) 4 3 rfl rfl
      obtain ⟨y296, hy297, h⟩ := bindS h
      refine call_rule (by kernel_rfl) (list_Put_ok (H.dat 4 rfl) hy297) fun v299 w298 ⟨hv300, hb301⟩ => ?_
      subst hv300
      replace H := H.call hb301
      refine nc ?_
      replace h := Option.some.inj h
      subst h
      exact ret_inA [.string (bs y296.1), .int .i64 y296.2] ⟨_, rfl, ⟨rfl, H.frame⟩⟩
/-! gemot/view.Term -/
noncomputable def view_Term.f (x0 : D_api_View) : Option ((List UInt8) × Int) := (view_Right.f ((x0.1.1, x0.1.2), x0.2)).bind fun y9 => cond (!y9) (some (([] : List UInt8), (1 : Int))) ((list_Pack.f ((0 : Int), (x0.1.1, x0.1.2), ((0 : Int), (0 : Int)), (0 : Int), x0.2, ([] : List (List UInt8)))).bind fun y16 => some (y16.1, y16.2))
set_option maxHeartbeats 4000000 in
theorem view_Term_ok {ok : Nat → Prop} {w : World} {u1 : Value} {x0 : D_api_View} {r : (List UInt8) × Int} (hu2 : slR (tInt .i64) w ok u1 x0.2) (h : view_Term.f x0 = some r) :
    Calls Tryz.prog 35 #[.agg #[.int .i64 x0.1.1, .int .i64 x0.1.2, u1]] w fun e w' => ∃ v, e = .returned v ∧ (v = .tuple #[.string (bs r.1), .int .i64 r.2] ∧ Bel w.heap.size w w') := by
  have H : Eng.Own ok w w [] := Eng.Own.nil ok w
  obtain ⟨A3, c4, rfl, H⟩ := H.arg rfl hu2
  unfold view_Term.f at h
  refine enterN (args := [.agg #[.int .i64 x0.1.1, .int .i64 x0.1.2, .slice A3 x0.2.length c4]]) Tryz.func35 rfl Tryz.ntmps35 rfl rfl ?_
  refine nc_seq ?_
  refine nc ?_
  refine own_box H [.int .i64 x0.1.1, .int .i64 x0.1.2, .slice A3 x0.2.length c4] rfl fun g7 w8 H => ?_
  refine nc_seq ?_
  refine nc_seq ?_
  refine nc ?_
  refine own_loadA (m := 3) H 0 rfl (by kernel_rfl) (by kernel_rfl) [.int .i64 x0.1.1, .int .i64 x0.1.2, .slice A3 x0.2.length c4] rfl rfl ?_
  obtain ⟨y9, hy10, h⟩ := bindS h
  refine call_rule (by kernel_rfl) (view_Right_ok (x0 := ((x0.1.1, x0.1.2), x0.2)) (H.dat 1 rfl) hy10) fun v12 w11 ⟨hv13, hb14⟩ => ?_
  subst hv13
  replace H := H.call hb14
  refine nc_cond rfl (fun hc15 => ?_) (fun hc15 => ?_)
  · replace h := condT hc15 h
    refine nc_seq ?_
    refine nc ?_
    refine nc ?_
    replace h := Option.some.inj h
    subst h
    exact ret_inA [.string (bs ([] : List UInt8)), .int .i64 1] ⟨_, rfl, ⟨rfl, H.frame⟩⟩
  · replace h := condF hc15 h
    refine nc ?_
    refine nc_seq ?_
    refine nc ?_
    refine own_loadA (m := 2) H 0 rfl (by kernel_rfl) (by kernel_rfl) [.int .i64 x0.1.1, .int .i64 x0.1.2] rfl rfl ?_
    refine own_load H 0 rfl (by kernel_rfl) (j := 2) rfl ?_
    obtain ⟨y16, hy17, h⟩ := bindS h
    refine call_rule (by kernel_rfl) (list_Pack_ok (x0 := ((0 : Int), (x0.1.1, x0.1.2), ((0 : Int), (0 : Int)), (0 : Int), x0.2, ([] : List (List UInt8)))) (H.dat 1 rfl) nilR hy17) fun v19 w18 ⟨hv20, hb21⟩ => ?_
    subst hv20
    replace H := H.call hb21
    refine nc ?_
    replace h := Option.some.inj h
    subst h
    exact ret_inA [.string (bs y16.1), .int .i64 y16.2] ⟨_, rfl, ⟨rfl, H.frame⟩⟩
/-! gemot/blind.Group -/
noncomputable def blind_Group.f (x0 : D_api_View) (x1 : List UInt8) : Option ((List UInt8) × Int) := (view_Term.f ((x0.1.1, x0.1.2), x0.2)).bind fun y9 => cond (y9.2 != (0 : Int)) (some (([] : List UInt8), y9.2)) ((term_Pair.f y9.1 x1).bind fun y16 => cond (y16.2 != (0 : Int)) (some (([] : List UInt8), y16.2)) ((term_Hash.f y16.1).bind fun y23 => some (y23.1, y23.2)))
set_option maxHeartbeats 4000000 in
theorem blind_Group_ok {ok : Nat → Prop} {w : World} {u1 : Value} {x0 : D_api_View} {x1 : List UInt8} {r : (List UInt8) × Int} (hu2 : slR (tInt .i64) w ok u1 x0.2) (h : blind_Group.f x0 x1 = some r) :
    Calls Tryz.prog 15 #[.agg #[.int .i64 x0.1.1, .int .i64 x0.1.2, u1], .string (bs x1)] w fun e w' => ∃ v, e = .returned v ∧ (v = .tuple #[.string (bs r.1), .int .i64 r.2] ∧ Bel w.heap.size w w') := by
  have H : Eng.Own ok w w [] := Eng.Own.nil ok w
  obtain ⟨A3, c4, rfl, H⟩ := H.arg rfl hu2
  unfold blind_Group.f at h
  refine enterN (args := [.agg #[.int .i64 x0.1.1, .int .i64 x0.1.2, .slice A3 x0.2.length c4], .string (bs x1)]) Tryz.func15 rfl Tryz.ntmps15 rfl rfl ?_
  refine nc_seq ?_
  refine nc ?_
  refine own_box H [.int .i64 x0.1.1, .int .i64 x0.1.2, .slice A3 x0.2.length c4] rfl fun g7 w8 H => ?_
  refine nc_seq ?_
  refine nc ?_
  refine own_loadA (m := 3) H 0 rfl (by kernel_rfl) (by kernel_rfl) [.int .i64 x0.1.1, .int .i64 x0.1.2, .slice A3 x0.2.length c4] rfl rfl ?_
  obtain ⟨y9, hy10, h⟩ := bindS h
  refine call_rule (by kernel_rfl) (view_Term_ok (x0 := ((x0.1.1, x0.1.2), x0.2)) (H.dat 1 rfl) hy10) fun v12 w11 ⟨hv13, hb14⟩ => ?_
  subst hv13
  replace H := H.call hb14
  refine nc_seq ?_
  refine nc_seq ?_
  refine nc ?_
  refine nc_cond rfl (fun hc15 => ?_) (fun hc15 => ?_)
  · replace h := condT hc15 h
    refine nc_seq ?_
    refine nc ?_
    refine nc ?_
    replace h := Option.some.inj h
    subst h
    exact ret_inA [.string (bs ([] : List UInt8)), .int .i64 y9.2] ⟨_, rfl, ⟨rfl, H.frame⟩⟩
  · replace h := condF hc15 h
    refine nc ?_
    refine nc_seq ?_
    refine nc ?_
    obtain ⟨y16, hy17, h⟩ := bindS h
    refine call_rule (by kernel_rfl) (term_Pair_ok (ok := fun _ => False) hy17) fun v19 w18 ⟨hv20, hb21⟩ => ?_
    subst hv20
    replace H := H.call hb21
    refine nc_seq ?_
    refine nc_seq ?_
    refine nc ?_
    refine nc_cond rfl (fun hc22 => ?_) (fun hc22 => ?_)
    · replace h := condT hc22 h
      refine nc_seq ?_
      refine nc ?_
      refine nc ?_
      replace h := Option.some.inj h
      subst h
      exact ret_inA [.string (bs ([] : List UInt8)), .int .i64 y16.2] ⟨_, rfl, ⟨rfl, H.frame⟩⟩
    · replace h := condF hc22 h
      refine nc ?_
      refine nc_seq ?_
      refine nc ?_
      obtain ⟨y23, hy24, h⟩ := bindS h
      refine call_rule (by kernel_rfl) (term_Hash_ok (ok := fun _ => False) hy24) fun v26 w25 ⟨hv27, hb28⟩ => ?_
      subst hv27
      replace H := H.call hb28
      refine nc ?_
      replace h := Option.some.inj h
      subst h
      exact ret_inA [.string (bs y23.1), .int .i64 y23.2] ⟨_, rfl, ⟨rfl, H.frame⟩⟩
/-! gemot/gemotref4.Put -/
noncomputable def gemotref4_Put.b1 (x0 : List (List UInt8)) (v137 : List UInt8) (v138 : Int) : Option (((List UInt8) × Int) ⊕ ((List UInt8) ⊕ ((List UInt8) × Int))) := cond (decide (v138 < (x0.length : Int))) ((idxL x0 v138).bind fun y200 => (gemotref1_Right.f y200).bind fun y206 => cond (!y206) (some (.inr (Sum.inr (([] : List UInt8), (1 : Int))))) (roomM 1 (v137.length + [112].length) ((idxL x0 v138).bind fun y214 => roomM 1 ((v137 ++ [112]).length + y214.length) (some (.inl (((v137 ++ [112]) ++ y214), (IntKind.i64.wrap (v138 + (1 : Int))))))))) (some (.inr (Sum.inl v137)))
noncomputable def gemotref4_Put.k2 (x0 : List (List UInt8)) (v112 : List UInt8) : Option ((List UInt8) × Int) := cond (decide ((x0.length : Int) > (150 : Int))) (some (([] : List UInt8), (1 : Int))) ((gemotref1_Number.f (0 : Int)).bind fun y223 => roomM 1 (v112.length + y223.length) (cond (decide (((v112 ++ y223).length : Int) > (20000 : Int))) (some (([] : List UInt8), (3 : Int))) ((gemotref1_Right.f (v112 ++ y223)).bind fun y231 => cond (!y231) (some (([] : List UInt8), (4 : Int))) (some ((v112 ++ y223), (0 : Int))))))
noncomputable def gemotref4_Put.f (x0 : List (List UInt8)) : Option ((List UInt8) × Int) := (loopM (fun s196 : (List UInt8) × Int => gemotref4_Put.b1 x0 s196.1 s196.2) (([] : List UInt8), (0 : Int))).bind (Sum.elim (fun (o194 : (List UInt8)) => gemotref4_Put.k2 x0 o194) (fun (o195 : (List UInt8) × Int) => some o195))
set_option maxHeartbeats 4000000 in
theorem gemotref4_Put_ok {ok : Nat → Prop} {w : World} {u1 : Value} {x0 : List (List UInt8)} {r : (List UInt8) × Int} (hu2 : slR tStr w ok u1 x0) (h : gemotref4_Put.f x0 = some r) :
    Calls Tryz.prog 92 #[u1] w fun e w' => ∃ v, e = .returned v ∧ (v = .tuple #[.string (bs r.1), .int .i64 r.2] ∧ Bel w.heap.size w w') := by
  have H : Eng.Own ok w w [] := Eng.Own.nil ok w
  obtain ⟨A3, c4, rfl, H⟩ := H.arg rfl hu2
  unfold gemotref4_Put.f at h
  refine enterN (args := [.slice A3 x0.length c4]) Tryz.func92 rfl Tryz.ntmps92 rfl rfl ?_
  refine nc_seq ?_
  refine nc ?_
  refine nc_seq ?_
  refine nc ?_
  refine nc_cut (fun e w113 => ∃ (v112 : List UInt8), gemotref4_Put.k2 x0 v112 = some r ∧ e = [(0, .slice A3 x0.length c4), (4, .string (bs v112))] ∧ Eng.Own ok w w113 [.dat (dSl tStr (.slice A3 x0.length c4) x0)]) ?_ ?_
  · skip
    refine nc_seq ?_
    refine nc ?_
    refine nc_block ?_
    obtain ⟨o186, hL187, hO188⟩ := bindS h
    obtain ⟨n189, hL187⟩ := loopS hL187
    refine nc ?_
    refine loop_ruleA (fun k e w193 => ∃ (v137 : List UInt8) (v138 : Int), iterM (fun s196 : (List UInt8) × Int => gemotref4_Put.b1 x0 s196.1 s196.2) k (v137, v138) = some o186 ∧ e = [(0, .slice A3 x0.length c4), (4, .string (bs v137)), (5, .int .i64 v138)] ∧ Eng.Own ok w w193 [.dat (dSl tStr (.slice A3 x0.length c4) x0)]) ⟨_, _, hL187, rfl, H.pickL [0] rfl⟩ ?_
    rintro k198 _ w197 ⟨v137, v138, hL187, rfl, H⟩
    obtain ⟨k192, rfl, q190, h, hq191⟩ := iterS hL187
    replace h : gemotref4_Put.b1 x0 v137 v138 = some q190 := h
    unfold gemotref4_Put.b1 at h
    refine nc_seq ?_
    refine nc_seq ?_
    refine nc ?_
    refine nc_cond rfl (fun hc199 => ?_) (fun hc199 => ?_)
    · replace h := condT hc199 h
      refine nc ?_
      refine nc_seq ?_
      refine nc_block ?_
      refine nc_seq ?_
      refine nc_seq ?_
      refine nc ?_
      obtain ⟨y200, hx201, h⟩ := bindS h
      obtain ⟨a202, cs203, rfl, hR204, H⟩ := H.elemI 0 rfl hx201
      obtain rfl : cs203 = [.string (bs y200)] := hR204
      refine idxA_rule (e := 9) 1 _ (by kernel_rfl) (by kernel_rfl) (idxL_some hx201).1 (idxL_some hx201).2.1 ?_
      refine own_loadD H 0 rfl 0 (by kernel_rfl) rfl ?_
      obtain ⟨y206, hy207, h⟩ := bindS h
      refine call_rule (by kernel_rfl) (gemotref1_Right_ok (ok := fun _ => False) hy207) fun v209 w208 ⟨hv210, hb211⟩ => ?_
      subst hv210
      replace H := H.call hb211
      refine nc_cond rfl (fun hc212 => ?_) (fun hc212 => ?_)
      · replace h := condT hc212 h
        refine nc_seq ?_
        refine nc ?_
        refine nc ?_
        cases h
        replace hq191 : (Sum.inr (([] : List UInt8), (1 : Int))) = o186 := hq191
        subst hq191
        have h := hO188
        try dsimp only [Sum.elim_inl, Sum.elim_inr] at h
        replace h := Option.some.inj h
        subst h
        exact ret_inA [.string (bs ([] : List UInt8)), .int .i64 1] ⟨_, rfl, ⟨rfl, H.frame⟩⟩
      · replace h := condF hc212 h
        refine nc ?_
        refine nc ?_
        obtain ⟨hr213, h⟩ := roomS h
        refine catM_rule hr213 ?_
        obtain ⟨y214, hx215, h⟩ := bindS h
        obtain ⟨cs217, hR218, H⟩ := H.elemJ 1 rfl hx215
        obtain rfl : cs217 = [.string (bs y214)] := hR218
        refine idxA_rule (e := 9) 1 _ (by kernel_rfl) (by kernel_rfl) (idxL_some hx215).1 (idxL_some hx215).2.1 ?_
        refine own_loadD H 0 rfl 0 (by kernel_rfl) rfl ?_
        obtain ⟨hr220, h⟩ := roomS h
        refine catM_rule hr220 ?_
        refine nc ?_
        cases h
        exact again_inA ⟨_, _, hq191, rfl, H.pickL [2] rfl⟩
    · replace h := condF hc199 h
      refine nc ?_
      cases h
      replace hq191 : (Sum.inl v137) = o186 := hq191
      subst hq191
      have h := hO188
      try dsimp only [Sum.elim_inl, Sum.elim_inr] at h
      exact cut_inA ⟨_, h, rfl, H.pickL [0] rfl⟩
  · rintro _ w221 ⟨v112, h, rfl, H⟩
    unfold gemotref4_Put.k2 at h
    refine nc_seq ?_
    refine nc_seq ?_
    refine nc ?_
    refine nc_cond rfl (fun hc222 => ?_) (fun hc222 => ?_)
    · replace h := condT hc222 h
      refine nc_seq ?_
      refine nc ?_
      refine nc ?_
      replace h := Option.some.inj h
      subst h
      exact ret_inA [.string (bs ([] : List UInt8)), .int .i64 1] ⟨_, rfl, ⟨rfl, H.frame⟩⟩
    · replace h := condF hc222 h
      refine nc ?_
      refine nc_seq ?_
      refine nc ?_
      obtain ⟨y223, hy224, h⟩ := bindS h
      refine call_rule (by kernel_rfl) (gemotref1_Number_ok (ok := fun _ => False) hy224) fun v226 w225 ⟨hv227, hb228⟩ => ?_
      subst hv227
      replace H := H.call hb228
      obtain ⟨hr229, h⟩ := roomS h
      refine catM_rule hr229 ?_
      refine nc_seq ?_
      refine nc_seq ?_
      refine nc ?_
      refine nc_cond rfl (fun hc230 => ?_) (fun hc230 => ?_)
      · replace h := condT hc230 h
        refine nc_seq ?_
        refine nc ?_
        refine nc ?_
        replace h := Option.some.inj h
        subst h
        exact ret_inA [.string (bs ([] : List UInt8)), .int .i64 3] ⟨_, rfl, ⟨rfl, H.frame⟩⟩
      · replace h := condF hc230 h
        refine nc ?_
        refine nc_seq ?_
        refine nc_seq ?_
        refine nc ?_
        obtain ⟨y231, hy232, h⟩ := bindS h
        refine call_rule (by kernel_rfl) (gemotref1_Right_ok (ok := fun _ => False) hy232) fun v234 w233 ⟨hv235, hb236⟩ => ?_
        subst hv235
        replace H := H.call hb236
        refine nc_cond rfl (fun hc237 => ?_) (fun hc237 => ?_)
        · replace h := condT hc237 h
          refine nc_seq ?_
          refine nc ?_
          refine nc ?_
          replace h := Option.some.inj h
          subst h
          exact ret_inA [.string (bs ([] : List UInt8)), .int .i64 4] ⟨_, rfl, ⟨rfl, H.frame⟩⟩
        · replace h := condF hc237 h
          refine nc ?_
          refine nc_seq ?_
          refine nc ?_
          refine nc ?_
          replace h := Option.some.inj h
          subst h
          exact ret_inA [.string (bs (v112 ++ y223)), .int .i64 0] ⟨_, rfl, ⟨rfl, H.frame⟩⟩
/-! gemot/gemotref4.id -/
noncomputable def gemotref4_id.f (x0 : D_api_Id) : Option (Bool) := some (cond (cond (cond (decide (x0.1 ≥ (0 : Int))) (decide (x0.1 ≤ (2147483647 : Int))) false) (decide (x0.2 ≥ (0 : Int))) false) (decide (x0.2 ≤ (8 : Int))) false)
set_option maxHeartbeats 4000000 in
theorem gemotref4_id_ok {ok : Nat → Prop} {w : World} {x0 : D_api_Id} {r : Bool} (h : gemotref4_id.f x0 = some r) :
    Calls Tryz.prog 117 #[.agg #[.int .i64 x0.1, .int .i64 x0.2]] w fun e w' => ∃ v, e = .returned v ∧ (v = .bool r ∧ Bel w.heap.size w w') := by
  have H : Eng.Own ok w w [] := Eng.Own.nil ok w
  unfold gemotref4_id.f at h
  refine enterN (args := [.agg #[.int .i64 x0.1, .int .i64 x0.2]]) Tryz.func117 rfl Tryz.ntmps117 rfl rfl ?_
  refine nc_seq ?_
  refine nc ?_
  refine own_box H [.int .i64 x0.1, .int .i64 x0.2] rfl fun g2 w3 H => ?_
  refine nc_seq ?_
  refine nc ?_
  refine own_load H 0 rfl (by kernel_rfl) (j := 0) rfl ?_
  refine own_load H 0 rfl (by kernel_rfl) (j := 0) rfl ?_
  refine own_load H 0 rfl (by kernel_rfl) (j := 1) rfl ?_
  refine own_load H 0 rfl (by kernel_rfl) (j := 1) rfl ?_
  refine nc ?_
  replace h := Option.some.inj h
  subst h
  exact ret_inA [.bool (cond (cond (cond (decide (x0.1 ≥ (0 : Int))) (decide (x0.1 ≤ (2147483647 : Int))) false) (decide (x0.2 ≥ (0 : Int))) false) (decide (x0.2 ≤ (8 : Int))) false)] ⟨_, rfl, ⟨rfl, H.frame⟩⟩
/-! gemot/gemotref4.Right -/
noncomputable def gemotref4_Right.k1 (x0 : D_gemotref4_Message) (v706 : Int) (v1090 : Bool) : Option (Int ⊕ (Unit ⊕ Bool)) := cond v1090 (some (.inr (Sum.inr false))) (some (.inl (IntKind.i64.wrap (v706 + (1 : Int)))))
noncomputable def gemotref4_Right.b2 (x0 : D_gemotref4_Message) (v706 : Int) : Option (Int ⊕ (Unit ⊕ Bool)) := cond (decide (v706 < (x0.2.2.2.2.1.length : Int))) ((idxL x0.2.2.2.2.1 v706).bind fun y1093 => cond (decide (y1093 < (1 : Int))) (gemotref4_Right.k1 x0 v706 (cond (cond (decide (y1093 < (1 : Int))) true (decide ((0 : Int) > (8 : Int)))) true (cond (decide (v706 > (0 : Int))) (decide ((0 : Int) ≤ (0 : Int))) false))) ((idxL x0.2.2.2.2.1 v706).bind fun y1101 => cond (decide (y1101 > (8 : Int))) (gemotref4_Right.k1 x0 v706 (cond (cond (decide (y1093 < (1 : Int))) true (decide (y1101 > (8 : Int)))) true (cond (decide (v706 > (0 : Int))) (decide ((0 : Int) ≤ (0 : Int))) false))) (cond (decide (v706 > (0 : Int))) ((idxL x0.2.2.2.2.1 v706).bind fun y1110 => (idxL x0.2.2.2.2.1 (IntKind.i64.wrap (v706 - (1 : Int)))).bind fun y1116 => gemotref4_Right.k1 x0 v706 (cond (cond (decide (y1093 < (1 : Int))) true (decide (y1101 > (8 : Int)))) true (cond (decide (v706 > (0 : Int))) (decide (y1110 ≤ y1116)) false))) (gemotref4_Right.k1 x0 v706 (cond (cond (decide (y1093 < (1 : Int))) true (decide (y1101 > (8 : Int)))) true (cond (decide (v706 > (0 : Int))) (decide ((0 : Int) ≤ (0 : Int))) false)))))) (some (.inr (Sum.inl ())))
noncomputable def gemotref4_Right.k3 (v1147 : Bool) : Option (Bool) := some v1147
noncomputable def gemotref4_Right.k4 (x0 : D_gemotref4_Message) : Option (Bool) := (gemotref4_Put.f x0.2.2.2.2.2).bind fun y1127 => cond (y1127.2 == (0 : Int)) ((gemotref4_id.f (x0.2.1.1, x0.2.1.2)).bind fun y1151 => cond y1151 ((gemotref4_id.f (x0.2.2.1.1, x0.2.2.1.2)).bind fun y1158 => gemotref4_Right.k3 (cond (cond (cond (cond (cond (cond (y1127.2 == (0 : Int)) y1151 false) y1158 false) (decide (x0.1 ≥ (0 : Int))) false) (decide (x0.1 ≤ (20 : Int))) false) (decide (x0.2.2.2.1 ≥ (0 : Int))) false) (decide (x0.2.2.2.1 ≤ (2147483647 : Int))) false)) (gemotref4_Right.k3 (cond (cond (cond (cond (cond (cond (y1127.2 == (0 : Int)) y1151 false) false false) (decide ((0 : Int) ≥ (0 : Int))) false) (decide ((0 : Int) ≤ (20 : Int))) false) (decide ((0 : Int) ≥ (0 : Int))) false) (decide ((0 : Int) ≤ (2147483647 : Int))) false))) (gemotref4_Right.k3 (cond (cond (cond (cond (cond (cond (y1127.2 == (0 : Int)) false false) false false) (decide ((0 : Int) ≥ (0 : Int))) false) (decide ((0 : Int) ≤ (20 : Int))) false) (decide ((0 : Int) ≥ (0 : Int))) false) (decide ((0 : Int) ≤ (2147483647 : Int))) false))
noncomputable def gemotref4_Right.f (x0 : D_gemotref4_Message) : Option (Bool) := (loopM (fun s988 : Int => gemotref4_Right.b2 x0 s988) (0 : Int)).bind (Sum.elim (fun (o986 : Unit) => gemotref4_Right.k4 x0) (fun (o987 : Bool) => some o987))
set_option maxHeartbeats 4000000 in
theorem gemotref4_Right_ok {ok : Nat → Prop} {w : World} {u1 u6 : Value} {x0 : D_gemotref4_Message} {r : Bool} (hu2 : slR (tInt .i64) w ok u1 x0.2.2.2.2.1) (hu7 : slR tStr w ok u6 x0.2.2.2.2.2) (h : gemotref4_Right.f x0 = some r) :
    Calls Tryz.prog 90 #[.agg #[.int .i64 x0.1, .int .i64 x0.2.1.1, .int .i64 x0.2.1.2, .int .i64 x0.2.2.1.1, .int .i64 x0.2.2.1.2, .int .i64 x0.2.2.2.1, u1, u6]] w fun e w' => ∃ v, e = .returned v ∧ (v = .bool r ∧ Bel w.heap.size w w') := by
  have H : Eng.Own ok w w [] := Eng.Own.nil ok w
  obtain ⟨A3, c4, rfl, H⟩ := H.arg rfl hu2
  obtain ⟨A8, c9, rfl, H⟩ := H.arg rfl hu7
  unfold gemotref4_Right.f at h
  refine enterN (args := [.agg #[.int .i64 x0.1, .int .i64 x0.2.1.1, .int .i64 x0.2.1.2, .int .i64 x0.2.2.1.1, .int .i64 x0.2.2.1.2, .int .i64 x0.2.2.2.1, .slice A3 x0.2.2.2.2.1.length c4, .slice A8 x0.2.2.2.2.2.length c9]]) Tryz.func90 rfl Tryz.ntmps90 rfl rfl ?_
  refine nc_seq ?_
  refine nc ?_
  refine own_box H [.int .i64 x0.1, .int .i64 x0.2.1.1, .int .i64 x0.2.1.2, .int .i64 x0.2.2.1.1, .int .i64 x0.2.2.1.2, .int .i64 x0.2.2.2.1, .slice A3 x0.2.2.2.2.1.length c4, .slice A8 x0.2.2.2.2.2.length c9] rfl fun g12 w13 H => ?_
  refine nc_cut (fun e w569 => gemotref4_Right.k4 x0 = some r ∧ e = [(1, .pointer (some ⟨g12, 0, none⟩))] ∧ Eng.Own ok w w569 [.blk g12 [.int .i64 x0.1, .int .i64 x0.2.1.1, .int .i64 x0.2.1.2, .int .i64 x0.2.2.1.1, .int .i64 x0.2.2.1.2, .int .i64 x0.2.2.2.1, .slice A3 x0.2.2.2.2.1.length c4, .slice A8 x0.2.2.2.2.2.length c9] 97, .dat (dSl (tInt .i64) (.slice A3 x0.2.2.2.2.1.length c4) x0.2.2.2.2.1), .dat (dSl tStr (.slice A8 x0.2.2.2.2.2.length c9) x0.2.2.2.2.2)]) ?_ ?_
  · skip
    refine nc_seq ?_
    refine nc ?_
    refine nc_block ?_
    obtain ⟨o978, hL979, hO980⟩ := bindS h
    obtain ⟨n981, hL979⟩ := loopS hL979
    refine nc ?_
    refine loop_ruleA (fun k e w985 => ∃ (v706 : Int), iterM (fun s988 : Int => gemotref4_Right.b2 x0 s988) k v706 = some o978 ∧ e = [(1, .pointer (some ⟨g12, 0, none⟩)), (3, .int .i64 v706)] ∧ Eng.Own ok w w985 [.blk g12 [.int .i64 x0.1, .int .i64 x0.2.1.1, .int .i64 x0.2.1.2, .int .i64 x0.2.2.1.1, .int .i64 x0.2.2.1.2, .int .i64 x0.2.2.2.1, .slice A3 x0.2.2.2.2.1.length c4, .slice A8 x0.2.2.2.2.2.length c9] 97, .dat (dSl (tInt .i64) (.slice A3 x0.2.2.2.2.1.length c4) x0.2.2.2.2.1), .dat (dSl tStr (.slice A8 x0.2.2.2.2.2.length c9) x0.2.2.2.2.2)]) ⟨_, hL979, rfl, H.pickL [0, 2, 1] rfl⟩ ?_
    rintro k990 _ w989 ⟨v706, hL979, rfl, H⟩
    obtain ⟨k984, rfl, q982, h, hq983⟩ := iterS hL979
    replace h : gemotref4_Right.b2 x0 v706 = some q982 := h
    unfold gemotref4_Right.b2 at h
    refine nc_seq ?_
    refine nc_seq ?_
    refine nc ?_
    refine own_load H 0 rfl (by kernel_rfl) (j := 6) rfl ?_
    refine nc_cond rfl (fun hc991 => ?_) (fun hc991 => ?_)
    · replace h := condT hc991 h
      refine nc ?_
      refine nc_seq ?_
      refine nc_block ?_
      refine nc_cut (fun e w1091 => ∃ (v1090 : Bool), gemotref4_Right.k1 x0 v706 v1090 = some q982 ∧ e = [(1, .pointer (some ⟨g12, 0, none⟩)), (3, .int .i64 v706), (44, .bool v1090)] ∧ Eng.Own ok w w1091 [.blk g12 [.int .i64 x0.1, .int .i64 x0.2.1.1, .int .i64 x0.2.1.2, .int .i64 x0.2.2.1.1, .int .i64 x0.2.2.1.2, .int .i64 x0.2.2.2.1, .slice A3 x0.2.2.2.2.1.length c4, .slice A8 x0.2.2.2.2.2.length c9] 97, .dat (dSl (tInt .i64) (.slice A3 x0.2.2.2.2.1.length c4) x0.2.2.2.2.1), .dat (dSl tStr (.slice A8 x0.2.2.2.2.2.length c9) x0.2.2.2.2.2)]) ?_ ?_
      · skip
        obtain ⟨y1093, hx1094, h⟩ := bindS h
        obtain ⟨a1095, cs1096, rfl, hR1097, H⟩ := H.elemI 1 rfl hx1094
        obtain rfl : cs1096 = [.int .i64 y1093] := hR1097
        rcases Bool.eq_false_or_eq_true (decide (y1093 < (1 : Int))) with hg1099 | hg1099
        · replace h := condT hg1099 h
          refine nc ?_
          refine draw_rule [] (by kernel_rfl) (by kernel_rfl) H ?_
          refine c_load 1 rfl (by kernel_rfl) (j := 6) rfl ?_
          refine c_idxA (e := 3) 1 _ (by kernel_rfl) (by kernel_rfl) (idxL_some hx1094).1 (idxL_some hx1094).2.1 ?_
          refine c_loadD 0 rfl 0 (by kernel_rfl) rfl ?_
          refine c_load 1 rfl (by kernel_rfl) (j := 6) rfl ?_
          refine c_skipIA (.pointer (some ⟨0, 0, none⟩)) (gF0 hg1099) ?_
          refine c_skipLD (.int .i64 0) (gF0 hg1099) ?_
          refine c_skipLD (.slice none 0 0) (by first | exact gFr (gF0 (pickT hg1099)) | exact (gF0 (pickT hg1099)) | rfl) ?_
          refine c_skipIA (.pointer (some ⟨0, 0, none⟩)) (by first | exact gFr (gF0 (pickT hg1099)) | exact (gF0 (pickT hg1099)) | rfl) ?_
          refine c_skipLD (.int .i64 0) (by first | exact gFr (gF0 (pickT hg1099)) | exact (gF0 (pickT hg1099)) | rfl) ?_
          refine c_skipLD (.slice none 0 0) (by first | exact gFr (gF0 (pickT hg1099)) | exact (gF0 (pickT hg1099)) | rfl) ?_
          refine c_skipIA (.pointer (some ⟨0, 0, none⟩)) (by first | exact gFr (gF0 (pickT hg1099)) | exact (gF0 (pickT hg1099)) | rfl) ?_
          refine c_skipLD (.int .i64 0) (by first | exact gFr (gF0 (pickT hg1099)) | exact (gF0 (pickT hg1099)) | rfl) ?_
          intro w1100 H
          exact cut_inA ⟨_, h, rfl, H.pickL [1, 2, 3] rfl⟩
        · replace h := condF hg1099 h
          obtain ⟨y1101, hx1102, h⟩ := bindS h
          obtain ⟨cs1104, hR1105, H⟩ := H.elemJ 2 rfl hx1102
          obtain rfl : cs1104 = [.int .i64 y1101] := hR1105
          rcases Bool.eq_false_or_eq_true (decide (y1101 > (8 : Int))) with hg1107 | hg1107
          · replace h := condT hg1107 h
            refine nc ?_
            refine draw_rule [] (by kernel_rfl) (by kernel_rfl) H ?_
            refine c_load 2 rfl (by kernel_rfl) (j := 6) rfl ?_
            refine c_idxA (e := 3) 1 _ (by kernel_rfl) (by kernel_rfl) (idxL_some hx1094).1 (idxL_some hx1094).2.1 ?_
            refine c_loadD 1 rfl 0 (by kernel_rfl) rfl ?_
            refine c_load 2 rfl (by kernel_rfl) (j := 6) rfl ?_
            refine c_idxA (e := 3) 1 _ (by kernel_rfl) (by kernel_rfl) (idxL_some hx1102).1 (idxL_some hx1102).2.1 ?_
            refine c_loadD 0 rfl 0 (by kernel_rfl) rfl ?_
            refine c_load 2 rfl (by kernel_rfl) (j := 6) rfl ?_
            refine c_skipIA (.pointer (some ⟨0, 0, none⟩)) (by first | exact gFr (gF0 ((pickF hg1099).trans hg1107)) | exact (gF0 ((pickF hg1099).trans hg1107)) | rfl) ?_
            refine c_skipLD (.int .i64 0) (by first | exact gFr (gF0 ((pickF hg1099).trans hg1107)) | exact (gF0 ((pickF hg1099).trans hg1107)) | rfl) ?_
            refine c_skipLD (.slice none 0 0) (by first | exact gFr (gF0 ((pickF hg1099).trans hg1107)) | exact (gF0 ((pickF hg1099).trans hg1107)) | rfl) ?_
            refine c_skipIA (.pointer (some ⟨0, 0, none⟩)) (by first | exact gFr (gF0 ((pickF hg1099).trans hg1107)) | exact (gF0 ((pickF hg1099).trans hg1107)) | rfl) ?_
            refine c_skipLD (.int .i64 0) (by first | exact gFr (gF0 ((pickF hg1099).trans hg1107)) | exact (gF0 ((pickF hg1099).trans hg1107)) | rfl) ?_
            intro w1108 H
            exact cut_inA ⟨_, h, rfl, H.pickL [2, 3, 4] rfl⟩
          · replace h := condF hg1107 h
            rcases Bool.eq_false_or_eq_true (decide (v706 > (0 : Int))) with hg1109 | hg1109
            · replace h := condT hg1109 h
              obtain ⟨y1110, hx1111, h⟩ := bindS h
              obtain ⟨cs1113, hR1114, H⟩ := H.elemJ 3 rfl hx1111
              obtain rfl : cs1113 = [.int .i64 y1110] := hR1114
              obtain ⟨y1116, hx1117, h⟩ := bindS h
              obtain ⟨cs1119, hR1120, H⟩ := H.elemJ 4 rfl hx1117
              obtain rfl : cs1119 = [.int .i64 y1116] := hR1120
              refine nc ?_
              refine draw_rule [] (by kernel_rfl) (by kernel_rfl) H ?_
              refine c_load 4 rfl (by kernel_rfl) (j := 6) rfl ?_
              refine c_idxA (e := 3) 1 _ (by kernel_rfl) (by kernel_rfl) (idxL_some hx1094).1 (idxL_some hx1094).2.1 ?_
              refine c_loadD 3 rfl 0 (by kernel_rfl) rfl ?_
              refine c_load 4 rfl (by kernel_rfl) (j := 6) rfl ?_
              refine c_idxA (e := 3) 1 _ (by kernel_rfl) (by kernel_rfl) (idxL_some hx1102).1 (idxL_some hx1102).2.1 ?_
              refine c_loadD 2 rfl 0 (by kernel_rfl) rfl ?_
              refine c_load 4 rfl (by kernel_rfl) (j := 6) rfl ?_
              refine c_idxA (e := 3) 1 _ (by kernel_rfl) (by kernel_rfl) (idxL_some hx1111).1 (idxL_some hx1111).2.1 ?_
              refine c_loadD 1 rfl 0 (by kernel_rfl) rfl ?_
              refine c_load 4 rfl (by kernel_rfl) (j := 6) rfl ?_
              refine c_idxA (e := 3) 1 _ (by kernel_rfl) (by kernel_rfl) (idxL_some hx1117).1 (idxL_some hx1117).2.1 ?_
              refine c_loadD 0 rfl 0 (by kernel_rfl) rfl ?_
              intro w1122 H
              exact cut_inA ⟨_, h, rfl, H.pickL [4, 5, 6] rfl⟩
            · replace h := condF hg1109 h
              refine nc ?_
              refine draw_rule [] (by kernel_rfl) (by kernel_rfl) H ?_
              refine c_load 2 rfl (by kernel_rfl) (j := 6) rfl ?_
              refine c_idxA (e := 3) 1 _ (by kernel_rfl) (by kernel_rfl) (idxL_some hx1094).1 (idxL_some hx1094).2.1 ?_
              refine c_loadD 1 rfl 0 (by kernel_rfl) rfl ?_
              refine c_load 2 rfl (by kernel_rfl) (j := 6) rfl ?_
              refine c_idxA (e := 3) 1 _ (by kernel_rfl) (by kernel_rfl) (idxL_some hx1102).1 (idxL_some hx1102).2.1 ?_
              refine c_loadD 0 rfl 0 (by kernel_rfl) rfl ?_
              refine c_load 2 rfl (by kernel_rfl) (j := 6) rfl ?_
              refine c_skipIA (.pointer (some ⟨0, 0, none⟩)) (gF1 hg1109) ?_
              refine c_skipLD (.int .i64 0) (gF1 hg1109) ?_
              refine c_skipLD (.slice none 0 0) (gF1 hg1109) ?_
              refine c_skipIA (.pointer (some ⟨0, 0, none⟩)) (gF1 hg1109) ?_
              refine c_skipLD (.int .i64 0) (gF1 hg1109) ?_
              intro w1123 H
              exact cut_inA ⟨_, h, rfl, H.pickL [2, 3, 4] rfl⟩
      · rintro _ w1124 ⟨v1090, h, rfl, H⟩
        unfold gemotref4_Right.k1 at h
        refine nc_cond rfl (fun hc1125 => ?_) (fun hc1125 => ?_)
        · replace h := condT hc1125 h
          refine nc_seq ?_
          refine nc ?_
          refine nc ?_
          cases h
          replace hq983 : (Sum.inr false) = o978 := hq983
          subst hq983
          have h := hO980
          try dsimp only [Sum.elim_inl, Sum.elim_inr] at h
          replace h := Option.some.inj h
          subst h
          exact ret_inA [.bool false] ⟨_, rfl, ⟨rfl, H.frame⟩⟩
        · replace h := condF hc1125 h
          refine nc ?_
          refine nc ?_
          cases h
          exact again_inA ⟨_, hq983, rfl, H.pickL [0, 1, 2] rfl⟩
    · replace h := condF hc991 h
      refine nc ?_
      cases h
      replace hq983 : (Sum.inl ()) = o978 := hq983
      subst hq983
      have h := hO980
      try dsimp only [Sum.elim_inl, Sum.elim_inr] at h
      exact cut_inA ⟨h, rfl, H.pickL [0, 1, 2] rfl⟩
  · rintro _ w1126 ⟨h, rfl, H⟩
    unfold gemotref4_Right.k4 at h
    refine nc_seq ?_
    refine nc ?_
    refine own_load H 0 rfl (by kernel_rfl) (j := 7) rfl ?_
    obtain ⟨y1127, hy1128, h⟩ := bindS h
    refine call_rule (by kernel_rfl) (gemotref4_Put_ok (H.dat 2 rfl) hy1128) fun v1130 w1129 ⟨hv1131, hb1132⟩ => ?_
    subst hv1131
    replace H := H.call hb1132
    refine nc_cut (fun e w1148 => ∃ (v1147 : Bool), gemotref4_Right.k3 v1147 = some r ∧ e = [(2, .bool v1147)] ∧ Eng.Own ok w w1148 []) ?_ ?_
    · skip
      refine nc ?_
      refine own_loadA (m := 2) H 0 rfl (by kernel_rfl) (by kernel_rfl) [.int .i64 x0.2.1.1, .int .i64 x0.2.1.2] rfl rfl ?_
      rcases Bool.eq_false_or_eq_true (y1127.2 == (0 : Int)) with hg1150 | hg1150
      · replace h := condT hg1150 h
        obtain ⟨y1151, hy1152, h⟩ := bindS h
        refine call_yes (gT1 hg1150 rfl) (by kernel_rfl) (gemotref4_id_ok (ok := fun _ => False) (x0 := (x0.2.1.1, x0.2.1.2)) hy1152) fun v1154 w1153 ⟨hv1155, hb1156⟩ => ?_
        subst hv1155
        replace H := H.call hb1156
        refine own_loadA (m := 2) H 0 rfl (by kernel_rfl) (by kernel_rfl) [.int .i64 x0.2.2.1.1, .int .i64 x0.2.2.1.2] rfl rfl ?_
        rcases Bool.eq_false_or_eq_true y1151 with hg1157 | hg1157
        · replace h := condT hg1157 h
          obtain ⟨y1158, hy1159, h⟩ := bindS h
          refine call_yes (gT1 ((pickT hg1150).trans hg1157) rfl) (by kernel_rfl) (gemotref4_id_ok (ok := fun _ => False) (x0 := (x0.2.2.1.1, x0.2.2.1.2)) hy1159) fun v1161 w1160 ⟨hv1162, hb1163⟩ => ?_
          subst hv1162
          replace H := H.call hb1163
          refine own_load H 0 rfl (by kernel_rfl) (j := 0) rfl ?_
          refine own_load H 0 rfl (by kernel_rfl) (j := 0) rfl ?_
          refine own_load H 0 rfl (by kernel_rfl) (j := 5) rfl ?_
          refine own_load H 0 rfl (by kernel_rfl) (j := 5) rfl ?_
          exact cut_inA ⟨_, h, rfl, H.pickL [] rfl⟩
        · replace h := condF hg1157 h
          refine call_skip (.bool false) (gF1 ((pickT hg1150).trans hg1157)) ?_
          refine skipLD (.int .i64 0) (gF1 (pickF ((pickT hg1150).trans hg1157))) ?_
          refine skipLD (.int .i64 0) (gF1 (pickF (pickF ((pickT hg1150).trans hg1157)))) ?_
          refine skipLD (.int .i64 0) (gF1 (pickF (pickF (pickF ((pickT hg1150).trans hg1157))))) ?_
          refine skipLD (.int .i64 0) (gF1 (pickF (pickF (pickF (pickF ((pickT hg1150).trans hg1157)))))) ?_
          exact cut_inA ⟨_, h, rfl, H.pickL [] rfl⟩
      · replace h := condF hg1150 h
        refine call_skip (.bool false) (gF1 hg1150) ?_
        refine skipLD (.agg #[.int .i64 0, .int .i64 0]) (gF1 (pickF hg1150)) ?_
        refine call_skip (.bool false) (gF1 (pickF hg1150)) ?_
        refine skipLD (.int .i64 0) (gF1 (pickF (pickF hg1150))) ?_
        refine skipLD (.int .i64 0) (gF1 (pickF (pickF (pickF hg1150)))) ?_
        refine skipLD (.int .i64 0) (gF1 (pickF (pickF (pickF (pickF hg1150))))) ?_
        refine skipLD (.int .i64 0) (gF1 (pickF (pickF (pickF (pickF (pickF hg1150)))))) ?_
        exact cut_inA ⟨_, h, rfl, H.pickL [] rfl⟩
    · rintro _ w1164 ⟨v1147, h, rfl, H⟩
      unfold gemotref4_Right.k3 at h
      refine nc ?_
      replace h := Option.some.inj h
      subst h
      exact ret_inA [.bool v1147] ⟨_, rfl, ⟨rfl, H.frame⟩⟩
/-! gemot/gemotref4.Pack -/
noncomputable def gemotref4_Pack.b1 (x0 : D_gemotref4_Message) (v189 : List (List UInt8)) (v193 : Int) : Option (((List (List UInt8)) × Int) ⊕ (List (List UInt8))) := cond (decide (v193 < ((([x0.1, x0.2.1.1, x0.2.1.2, x0.2.2.1.1, x0.2.2.1.2, x0.2.2.2.1, (x0.2.2.2.2.1.length : Int)] : List Int) ++ x0.2.2.2.2.1).length : Int))) ((idxL (([x0.1, x0.2.1.1, x0.2.1.2, x0.2.2.1.1, x0.2.2.1.2, x0.2.2.2.1, (x0.2.2.2.2.1.length : Int)] : List Int) ++ x0.2.2.2.2.1) v193).bind fun y265 => (gemotref1_Number.f (IntKind.u64.wrap y265)).bind fun y271 => roomM 16 (v189.length + 1) (some (.inl ((v189 ++ [y271]), (IntKind.i64.wrap (v193 + (1 : Int))))))) (some (.inr v189))
noncomputable def gemotref4_Pack.k2 (x0 : D_gemotref4_Message) (v158 : List (List UInt8)) : Option ((List UInt8) × Int) := roomM 16 (v158.length + x0.2.2.2.2.2.length) ((gemotref4_Put.f (v158 ++ x0.2.2.2.2.2)).bind fun y296 => some (y296.1, y296.2))
noncomputable def gemotref4_Pack.f (x0 : D_gemotref4_Message) : Option ((List UInt8) × Int) := (gemotref4_Right.f (x0.1, (x0.2.1.1, x0.2.1.2), (x0.2.2.1.1, x0.2.2.1.2), x0.2.2.2.1, x0.2.2.2.2.1, x0.2.2.2.2.2)).bind fun y14 => cond (!y14) (some (([] : List UInt8), (1 : Int))) (roomM 8 (([x0.1, x0.2.1.1, x0.2.1.2, x0.2.2.1.1, x0.2.2.1.2, x0.2.2.2.1, (x0.2.2.2.2.1.length : Int)] : List Int).length + x0.2.2.2.2.1.length) ((loopM (fun s261 : (List (List UInt8)) × Int => gemotref4_Pack.b1 x0 s261.1 s261.2) (([] : List (List UInt8)), (0 : Int))).bind (fun (o259 : (List (List UInt8))) => gemotref4_Pack.k2 x0 o259)))
set_option maxHeartbeats 4000000 in
theorem gemotref4_Pack_ok {ok : Nat → Prop} {w : World} {u1 u6 : Value} {x0 : D_gemotref4_Message} {r : (List UInt8) × Int} (hu2 : slR (tInt .i64) w ok u1 x0.2.2.2.2.1) (hu7 : slR tStr w ok u6 x0.2.2.2.2.2) (h : gemotref4_Pack.f x0 = some r) :
    Calls Tryz.prog 68 #[.agg #[.int .i64 x0.1, .int .i64 x0.2.1.1, .int .i64 x0.2.1.2, .int .i64 x0.2.2.1.1, .int .i64 x0.2.2.1.2, .int .i64 x0.2.2.2.1, u1, u6]] w fun e w' => ∃ v, e = .returned v ∧ (v = .tuple #[.string (bs r.1), .int .i64 r.2] ∧ Bel w.heap.size w w') := by
  have H : Eng.Own ok w w [] := Eng.Own.nil ok w
  obtain ⟨A3, c4, rfl, H⟩ := H.arg rfl hu2
  obtain ⟨A8, c9, rfl, H⟩ := H.arg rfl hu7
  unfold gemotref4_Pack.f at h
  refine enterN (args := [.agg #[.int .i64 x0.1, .int .i64 x0.2.1.1, .int .i64 x0.2.1.2, .int .i64 x0.2.2.1.1, .int .i64 x0.2.2.1.2, .int .i64 x0.2.2.2.1, .slice A3 x0.2.2.2.2.1.length c4, .slice A8 x0.2.2.2.2.2.length c9]]) Tryz.func68 rfl Tryz.ntmps68 rfl rfl ?_
  refine nc_seq ?_
  refine nc ?_
  refine own_box H [.int .i64 x0.1, .int .i64 x0.2.1.1, .int .i64 x0.2.1.2, .int .i64 x0.2.2.1.1, .int .i64 x0.2.2.1.2, .int .i64 x0.2.2.2.1, .slice A3 x0.2.2.2.2.1.length c4, .slice A8 x0.2.2.2.2.2.length c9] rfl fun g12 w13 H => ?_
  refine nc_seq ?_
  refine nc_seq ?_
  refine nc ?_
  refine own_loadA (m := 8) H 0 rfl (by kernel_rfl) (by kernel_rfl) [.int .i64 x0.1, .int .i64 x0.2.1.1, .int .i64 x0.2.1.2, .int .i64 x0.2.2.1.1, .int .i64 x0.2.2.1.2, .int .i64 x0.2.2.2.1, .slice A3 x0.2.2.2.2.1.length c4, .slice A8 x0.2.2.2.2.2.length c9] rfl rfl ?_
  obtain ⟨y14, hy15, h⟩ := bindS h
  refine call_rule (by kernel_rfl) (gemotref4_Right_ok (x0 := (x0.1, (x0.2.1.1, x0.2.1.2), (x0.2.2.1.1, x0.2.2.1.2), x0.2.2.2.1, x0.2.2.2.2.1, x0.2.2.2.2.2)) (H.dat 2 rfl) (H.dat 1 rfl) hy15) fun v17 w16 ⟨hv18, hb19⟩ => ?_
  subst hv18
  replace H := H.call hb19
  refine nc_cond rfl (fun hc20 => ?_) (fun hc20 => ?_)
  · replace h := condT hc20 h
    refine nc_seq ?_
    refine nc ?_
    refine nc ?_
    replace h := Option.some.inj h
    subst h
    exact ret_inA [.string (bs ([] : List UInt8)), .int .i64 1] ⟨_, rfl, ⟨rfl, H.frame⟩⟩
  · replace h := condF hc20 h
    refine nc ?_
    refine nc_seq ?_
    refine nc ?_
    refine own_load H 0 rfl (by kernel_rfl) (j := 0) rfl ?_
    refine own_load H 0 rfl (by kernel_rfl) (j := 1) rfl ?_
    refine own_load H 0 rfl (by kernel_rfl) (j := 2) rfl ?_
    refine own_load H 0 rfl (by kernel_rfl) (j := 3) rfl ?_
    refine own_load H 0 rfl (by kernel_rfl) (j := 4) rfl ?_
    refine own_load H 0 rfl (by kernel_rfl) (j := 5) rfl ?_
    refine own_load H 0 rfl (by kernel_rfl) (j := 6) rfl ?_
    refine own_buildSlice (e := 3) (sz := 1) (z := .int .i64 0) (cs := [.int .i64 x0.1, .int .i64 x0.2.1.1, .int .i64 x0.2.1.2, .int .i64 x0.2.2.1.1, .int .i64 x0.2.2.1.2, .int .i64 x0.2.2.2.1, .int .i64 (x0.2.2.2.2.1.length : Int)]) H (by kernel_rfl) (by kernel_rfl) (by kernel_rfl) rfl rfl rfl rfl fun g22 w23 H => ?_
    have hr := H.addDat (dRows (tInt .i64) ([x0.1, x0.2.1.1, x0.2.1.2, x0.2.2.1.1, x0.2.2.1.2, x0.2.2.2.1, (x0.2.2.2.2.1.length : Int)] : List Int) [.int .i64 x0.1, .int .i64 x0.2.1.1, .int .i64 x0.2.1.2, .int .i64 x0.2.2.1.1, .int .i64 x0.2.2.1.2, .int .i64 x0.2.2.2.1, .int .i64 (x0.2.2.2.2.1.length : Int)]) ⟨_, _, rfl, rfl, ⟨_, _, rfl, rfl, ⟨_, _, rfl, rfl, ⟨_, _, rfl, rfl, ⟨_, _, rfl, rfl, ⟨_, _, rfl, rfl, ⟨_, _, rfl, rfl, rfl⟩⟩⟩⟩⟩⟩⟩
    replace H := (hr.pickL (1 :: 0 :: (List.range 3).map (· + 2)) rfl).blkRow (n := 7) (sz := 1) rfl (by decide)
    refine nc_seq ?_
    refine nc ?_
    refine own_load H 2 rfl (by kernel_rfl) (j := 6) rfl ?_
    obtain ⟨hr27, h⟩ := roomS h
    refine own_appendD (k := (tInt .i64)) (z := .int .i64 0) 8 H 0 1 4 rfl rfl rfl rfl (by kernel_rfl) (by kernel_rfl) rfl rfl hr27 rfl fun z28 cs29 w30 H => ?_
    obtain ⟨A31, c32, rfl, _, _⟩ := H.rowSl 0 rfl
    refine nc_seq ?_
    refine nc ?_
    refine nc_cut (fun e w162 => ∃ (A159 : Option Addr) (c160 : Nat) (cs161 : List Value) (v158 : List (List UInt8)), gemotref4_Pack.k2 x0 v158 = some r ∧ e = [(1, .pointer (some ⟨g12, 0, none⟩)), (5, .slice A159 v158.length c160)] ∧ Eng.Own ok w w162 [.blk g12 [.int .i64 x0.1, .int .i64 x0.2.1.1, .int .i64 x0.2.1.2, .int .i64 x0.2.2.1.1, .int .i64 x0.2.2.1.2, .int .i64 x0.2.2.2.1, .slice A3 x0.2.2.2.2.1.length c4, .slice A8 x0.2.2.2.2.2.length c9] 97, .dat (dSl (tInt .i64) (.slice A3 x0.2.2.2.2.1.length c4) x0.2.2.2.2.1), .dat (dSl tStr (.slice A8 x0.2.2.2.2.2.length c9) x0.2.2.2.2.2), .dat (dRows tStr v158 cs161), .row (.slice A159 v158.length c160) 9 1 v158.length cs161]) ?_ ?_
    · skip
      refine nc_seq ?_
      refine nc ?_
      refine nc_block ?_
      replace H := H.nilRowD tStr 9
      obtain ⟨o251, hL252, hO253⟩ := bindS h
      obtain ⟨n254, hL252⟩ := loopS hL252
      refine nc ?_
      refine loop_ruleA (fun k e w258 => ∃ (A190 : Option Addr) (c191 : Nat) (cs192 : List Value) (v189 : List (List UInt8)) (v193 : Int), iterM (fun s261 : (List (List UInt8)) × Int => gemotref4_Pack.b1 x0 s261.1 s261.2) k (v189, v193) = some o251 ∧ e = [(1, .pointer (some ⟨g12, 0, none⟩)), (4, .slice A31 (([x0.1, x0.2.1.1, x0.2.1.2, x0.2.2.1.1, x0.2.2.1.2, x0.2.2.2.1, (x0.2.2.2.2.1.length : Int)] : List Int) ++ x0.2.2.2.2.1).length c32), (5, .slice A190 v189.length c191), (6, .int .i64 v193)] ∧ Eng.Own ok w w258 [.blk g12 [.int .i64 x0.1, .int .i64 x0.2.1.1, .int .i64 x0.2.1.2, .int .i64 x0.2.2.1.1, .int .i64 x0.2.2.1.2, .int .i64 x0.2.2.2.1, .slice A3 x0.2.2.2.2.1.length c4, .slice A8 x0.2.2.2.2.2.length c9] 97, .dat (dSl (tInt .i64) (.slice A3 x0.2.2.2.2.1.length c4) x0.2.2.2.2.1), .dat (dSl tStr (.slice A8 x0.2.2.2.2.2.length c9) x0.2.2.2.2.2), .dat (dRows (tInt .i64) (([x0.1, x0.2.1.1, x0.2.1.2, x0.2.2.1.1, x0.2.2.1.2, x0.2.2.2.1, (x0.2.2.2.2.1.length : Int)] : List Int) ++ x0.2.2.2.2.1) cs29), .row (.slice A31 (([x0.1, x0.2.1.1, x0.2.1.2, x0.2.2.1.1, x0.2.2.1.2, x0.2.2.2.1, (x0.2.2.2.2.1.length : Int)] : List Int) ++ x0.2.2.2.2.1).length c32) 3 1 (([x0.1, x0.2.1.1, x0.2.1.2, x0.2.2.1.1, x0.2.2.1.2, x0.2.2.2.1, (x0.2.2.2.2.1.length : Int)] : List Int) ++ x0.2.2.2.2.1).length cs29, .dat (dRows tStr v189 cs192), .row (.slice A190 v189.length c191) 9 1 v189.length cs192]) ⟨none, 0, [], _, _, hL252, rfl, H.pickL [4, 6, 5, 3, 2, 0, 1] rfl⟩ ?_
      rintro k263 _ w262 ⟨A190, c191, cs192, v189, v193, hL252, rfl, H⟩
      obtain ⟨k257, rfl, q255, h, hq256⟩ := iterS hL252
      replace h : gemotref4_Pack.b1 x0 v189 v193 = some q255 := h
      unfold gemotref4_Pack.b1 at h
      refine nc_seq ?_
      refine nc_seq ?_
      refine nc ?_
      refine nc_cond rfl (fun hc264 => ?_) (fun hc264 => ?_)
      · replace h := condT hc264 h
        refine nc ?_
        refine nc_seq ?_
        refine nc_block ?_
        refine nc ?_
        obtain ⟨y265, hx266, h⟩ := bindS h
        obtain ⟨a267, _, rfl, _, _⟩ := H.rowElem (k := (tInt .i64)) 4 3 rfl rfl rfl hx266
        refine idxA_rule (e := 3) 1 _ (by kernel_rfl) (by kernel_rfl) (idxL_some hx266).1 (idxL_some hx266).2.1 ?_
        obtain ⟨cs268, hR269, hC270⟩ := H.rowElemJ (k := (tInt .i64)) 4 3 rfl rfl rfl hx266
        replace hR269 : cs268 = [.int .i64 y265] := by exact hR269
        subst hR269
        refine load_at hC270 0 (by kernel_rfl) rfl ?_
        obtain ⟨y271, hy272, h⟩ := bindS h
        refine call_rule (by kernel_rfl) (gemotref1_Number_ok (ok := fun _ => False) hy272) fun v274 w273 ⟨hv275, hb276⟩ => ?_
        subst hv275
        replace H := H.call hb276
        refine own_buildSlice (e := 9) (sz := 1) (z := .string ⟨#[]⟩) (cs := [.string (bs y271)]) H (by kernel_rfl) (by kernel_rfl) (by kernel_rfl) rfl rfl rfl rfl fun g278 w279 H => ?_
        obtain ⟨hr280, h⟩ := roomS h
        refine own_append1 (k := tStr) (z := .string ⟨#[]⟩) (x := y271) 16 H 6 5 rfl rfl rfl rfl (by kernel_rfl) (by kernel_rfl) rfl rfl hr280 rfl fun z281 cs282 w283 H => ?_
        obtain ⟨A284, c285, rfl, _, _⟩ := H.rowSl 6 rfl
        refine nc ?_
        cases h
        exact again_inA ⟨A284, c285, cs282, _, _, hq256, rfl, H.pickL [0, 1, 2, 3, 4, 5, 6] rfl⟩
      · replace h := condF hc264 h
        refine nc ?_
        cases h
        replace hq256 : v189 = o251 := hq256
        subst hq256
        have h := hO253
        try dsimp only [Sum.elim_inl, Sum.elim_inr] at h
        exact cut_inA ⟨A190, c191, cs192, _, h, rfl, H.pickL [0, 1, 2, 5, 6] rfl⟩
    · rintro _ w287 ⟨A159, c160, cs161, v158, h, rfl, H⟩
      unfold gemotref4_Pack.k2 at h
      refine nc_seq ?_
      refine nc ?_
      refine own_load H 0 rfl (by kernel_rfl) (j := 7) rfl ?_
      obtain ⟨hr288, h⟩ := roomS h
      refine own_appendD (k := tStr) (z := .string ⟨#[]⟩) 16 H 4 3 2 rfl rfl rfl rfl (by kernel_rfl) (by kernel_rfl) rfl rfl hr288 rfl fun z289 cs290 w291 H => ?_
      obtain ⟨A292, c293, rfl, _, _⟩ := H.rowSl 4 rfl
      refine nc_seq ?_
      refine nc ?_
      replace H := H.freeze (k := tStr) 4 3 rfl rfl
      obtain ⟨y296, hy297, h⟩ := bindS h
      refine call_rule (by kernel_rfl) (gemotref4_Put_ok (H.dat 4 rfl) hy297) fun v299 w298 ⟨hv300, hb301⟩ => ?_
      subst hv300
      replace H := H.call hb301
      refine nc ?_
      replace h := Option.some.inj h
      subst h
      exact ret_inA [.string (bs y296.1), .int .i64 y296.2] ⟨_, rfl, ⟨rfl, H.frame⟩⟩
/-! gemot/gemotref10.Has -/
noncomputable def gemotref10_Has.b1 (x0 : List Int) (x1 : Int) (v63 : Int) : Option (Int ⊕ (Unit ⊕ Bool)) := cond (decide (v63 < (x0.length : Int))) ((idxL x0 v63).bind fun y95 => cond (y95 == x1) (some (.inr (Sum.inr true))) (some (.inl (IntKind.i64.wrap (v63 + (1 : Int)))))) (some (.inr (Sum.inl ())))
noncomputable def gemotref10_Has.k2 : Option (Bool) := some false
noncomputable def gemotref10_Has.f (x0 : List Int) (x1 : Int) : Option (Bool) := (loopM (fun s91 : Int => gemotref10_Has.b1 x0 x1 s91) (0 : Int)).bind (Sum.elim (fun (o89 : Unit) => gemotref10_Has.k2) (fun (o90 : Bool) => some o90))
set_option maxHeartbeats 4000000 in
theorem gemotref10_Has_ok {ok : Nat → Prop} {w : World} {u1 : Value} {x0 : List Int} {x1 : Int} {r : Bool} (hu2 : slR (tInt .i64) w ok u1 x0) (h : gemotref10_Has.f x0 x1 = some r) :
    Calls Tryz.prog 53 #[u1, .int .i64 x1] w fun e w' => ∃ v, e = .returned v ∧ (v = .bool r ∧ Bel w.heap.size w w') := by
  have H : Eng.Own ok w w [] := Eng.Own.nil ok w
  obtain ⟨A3, c4, rfl, H⟩ := H.arg rfl hu2
  unfold gemotref10_Has.f at h
  refine enterN (args := [.slice A3 x0.length c4, .int .i64 x1]) Tryz.func53 rfl Tryz.ntmps53 rfl rfl ?_
  refine nc_seq ?_
  refine nc ?_
  refine nc_cut (fun e w53 => gemotref10_Has.k2 = some r ∧ e = [] ∧ Eng.Own ok w w53 []) ?_ ?_
  · skip
    refine nc_seq ?_
    refine nc ?_
    refine nc_block ?_
    obtain ⟨o81, hL82, hO83⟩ := bindS h
    obtain ⟨n84, hL82⟩ := loopS hL82
    refine nc ?_
    refine loop_ruleA (fun k e w88 => ∃ (v63 : Int), iterM (fun s91 : Int => gemotref10_Has.b1 x0 x1 s91) k v63 = some o81 ∧ e = [(0, .slice A3 x0.length c4), (1, .int .i64 x1), (5, .int .i64 v63)] ∧ Eng.Own ok w w88 [.dat (dSl (tInt .i64) (.slice A3 x0.length c4) x0)]) ⟨_, hL82, rfl, H.pickL [0] rfl⟩ ?_
    rintro k93 _ w92 ⟨v63, hL82, rfl, H⟩
    obtain ⟨k87, rfl, q85, h, hq86⟩ := iterS hL82
    replace h : gemotref10_Has.b1 x0 x1 v63 = some q85 := h
    unfold gemotref10_Has.b1 at h
    refine nc_seq ?_
    refine nc_seq ?_
    refine nc ?_
    refine nc_cond rfl (fun hc94 => ?_) (fun hc94 => ?_)
    · replace h := condT hc94 h
      refine nc ?_
      refine nc_seq ?_
      refine nc_block ?_
      refine nc_seq ?_
      refine nc ?_
      obtain ⟨y95, hx96, h⟩ := bindS h
      obtain ⟨a97, cs98, rfl, hR99, H⟩ := H.elemI 0 rfl hx96
      obtain rfl : cs98 = [.int .i64 y95] := hR99
      refine idxA_rule (e := 3) 1 _ (by kernel_rfl) (by kernel_rfl) (idxL_some hx96).1 (idxL_some hx96).2.1 ?_
      refine own_loadD H 0 rfl 0 (by kernel_rfl) rfl ?_
      refine nc_cond rfl (fun hc101 => ?_) (fun hc101 => ?_)
      · replace h := condT hc101 h
        refine nc_seq ?_
        refine nc ?_
        refine nc ?_
        cases h
        replace hq86 : (Sum.inr true) = o81 := hq86
        subst hq86
        have h := hO83
        try dsimp only [Sum.elim_inl, Sum.elim_inr] at h
        replace h := Option.some.inj h
        subst h
        exact ret_inA [.bool true] ⟨_, rfl, ⟨rfl, H.frame⟩⟩
      · replace h := condF hc101 h
        refine nc ?_
        refine nc ?_
        cases h
        exact again_inA ⟨_, hq86, rfl, H.pickL [1] rfl⟩
    · replace h := condF hc94 h
      refine nc ?_
      cases h
      replace hq86 : (Sum.inl ()) = o81 := hq86
      subst hq86
      have h := hO83
      try dsimp only [Sum.elim_inl, Sum.elim_inr] at h
      exact cut_inA ⟨h, rfl, H.pickL [] rfl⟩
  · rintro _ w102 ⟨h, rfl, H⟩
    unfold gemotref10_Has.k2 at h
    refine nc_seq ?_
    refine nc ?_
    refine nc ?_
    replace h := Option.some.inj h
    subst h
    exact ret_inA [.bool false] ⟨_, rfl, ⟨rfl, H.frame⟩⟩
/-! gemot/gemotref10.Row -/
noncomputable def gemotref10_Row.k1 (x0 : List Int) (v698 : Int) (v1082 : Bool) : Option (Int ⊕ (Unit ⊕ Bool)) := cond v1082 (some (.inr (Sum.inr false))) (some (.inl (IntKind.i64.wrap (v698 + (1 : Int)))))
noncomputable def gemotref10_Row.b2 (x0 : List Int) (v698 : Int) : Option (Int ⊕ (Unit ⊕ Bool)) := cond (decide (v698 < (x0.length : Int))) ((idxL x0 v698).bind fun y1085 => cond (decide (y1085 < (1 : Int))) (gemotref10_Row.k1 x0 v698 (cond (cond (decide (y1085 < (1 : Int))) true (decide ((0 : Int) > (8 : Int)))) true (cond (decide (v698 > (0 : Int))) (decide ((0 : Int) ≤ (0 : Int))) false))) ((idxL x0 v698).bind fun y1093 => cond (decide (y1093 > (8 : Int))) (gemotref10_Row.k1 x0 v698 (cond (cond (decide (y1085 < (1 : Int))) true (decide (y1093 > (8 : Int)))) true (cond (decide (v698 > (0 : Int))) (decide ((0 : Int) ≤ (0 : Int))) false))) (cond (decide (v698 > (0 : Int))) ((idxL x0 v698).bind fun y1102 => (idxL x0 (IntKind.i64.wrap (v698 - (1 : Int)))).bind fun y1108 => gemotref10_Row.k1 x0 v698 (cond (cond (decide (y1085 < (1 : Int))) true (decide (y1093 > (8 : Int)))) true (cond (decide (v698 > (0 : Int))) (decide (y1102 ≤ y1108)) false))) (gemotref10_Row.k1 x0 v698 (cond (cond (decide (y1085 < (1 : Int))) true (decide (y1093 > (8 : Int)))) true (cond (decide (v698 > (0 : Int))) (decide ((0 : Int) ≤ (0 : Int))) false)))))) (some (.inr (Sum.inl ())))
noncomputable def gemotref10_Row.k3 (x0 : List Int) : Option (Bool) := some (decide ((x0.length : Int) > (0 : Int)))
noncomputable def gemotref10_Row.f (x0 : List Int) : Option (Bool) := (loopM (fun s980 : Int => gemotref10_Row.b2 x0 s980) (0 : Int)).bind (Sum.elim (fun (o978 : Unit) => gemotref10_Row.k3 x0) (fun (o979 : Bool) => some o979))
set_option maxHeartbeats 4000000 in
theorem gemotref10_Row_ok {ok : Nat → Prop} {w : World} {u1 : Value} {x0 : List Int} {r : Bool} (hu2 : slR (tInt .i64) w ok u1 x0) (h : gemotref10_Row.f x0 = some r) :
    Calls Tryz.prog 89 #[u1] w fun e w' => ∃ v, e = .returned v ∧ (v = .bool r ∧ Bel w.heap.size w w') := by
  have H : Eng.Own ok w w [] := Eng.Own.nil ok w
  obtain ⟨A3, c4, rfl, H⟩ := H.arg rfl hu2
  unfold gemotref10_Row.f at h
  refine enterN (args := [.slice A3 x0.length c4]) Tryz.func89 rfl Tryz.ntmps89 rfl rfl ?_
  refine nc_seq ?_
  refine nc ?_
  refine nc_cut (fun e w561 => gemotref10_Row.k3 x0 = some r ∧ e = [(0, .slice A3 x0.length c4)] ∧ Eng.Own ok w w561 [.dat (dSl (tInt .i64) (.slice A3 x0.length c4) x0)]) ?_ ?_
  · skip
    refine nc_seq ?_
    refine nc ?_
    refine nc_block ?_
    obtain ⟨o970, hL971, hO972⟩ := bindS h
    obtain ⟨n973, hL971⟩ := loopS hL971
    refine nc ?_
    refine loop_ruleA (fun k e w977 => ∃ (v698 : Int), iterM (fun s980 : Int => gemotref10_Row.b2 x0 s980) k v698 = some o970 ∧ e = [(0, .slice A3 x0.length c4), (3, .int .i64 v698)] ∧ Eng.Own ok w w977 [.dat (dSl (tInt .i64) (.slice A3 x0.length c4) x0)]) ⟨_, hL971, rfl, H.pickL [0] rfl⟩ ?_
    rintro k982 _ w981 ⟨v698, hL971, rfl, H⟩
    obtain ⟨k976, rfl, q974, h, hq975⟩ := iterS hL971
    replace h : gemotref10_Row.b2 x0 v698 = some q974 := h
    unfold gemotref10_Row.b2 at h
    refine nc_seq ?_
    refine nc_seq ?_
    refine nc ?_
    refine nc_cond rfl (fun hc983 => ?_) (fun hc983 => ?_)
    · replace h := condT hc983 h
      refine nc ?_
      refine nc_seq ?_
      refine nc_block ?_
      refine nc_cut (fun e w1083 => ∃ (v1082 : Bool), gemotref10_Row.k1 x0 v698 v1082 = some q974 ∧ e = [(0, .slice A3 x0.length c4), (3, .int .i64 v698), (37, .bool v1082)] ∧ Eng.Own ok w w1083 [.dat (dSl (tInt .i64) (.slice A3 x0.length c4) x0)]) ?_ ?_
      · skip
        obtain ⟨y1085, hx1086, h⟩ := bindS h
        obtain ⟨a1087, cs1088, rfl, hR1089, H⟩ := H.elemI 0 rfl hx1086
        obtain rfl : cs1088 = [.int .i64 y1085] := hR1089
        rcases Bool.eq_false_or_eq_true (decide (y1085 < (1 : Int))) with hg1091 | hg1091
        · replace h := condT hg1091 h
          refine nc ?_
          refine draw_rule [] (by kernel_rfl) (by kernel_rfl) H ?_
          refine c_idxA (e := 3) 1 _ (by kernel_rfl) (by kernel_rfl) (idxL_some hx1086).1 (idxL_some hx1086).2.1 ?_
          refine c_loadD 0 rfl 0 (by kernel_rfl) rfl ?_
          refine c_skipIA (.pointer (some ⟨0, 0, none⟩)) (gF0 hg1091) ?_
          refine c_skipLD (.int .i64 0) (gF0 hg1091) ?_
          refine c_skipIA (.pointer (some ⟨0, 0, none⟩)) (by first | exact gFr (gF0 (pickT hg1091)) | exact (gF0 (pickT hg1091)) | rfl) ?_
          refine c_skipLD (.int .i64 0) (by first | exact gFr (gF0 (pickT hg1091)) | exact (gF0 (pickT hg1091)) | rfl) ?_
          refine c_skipIA (.pointer (some ⟨0, 0, none⟩)) (by first | exact gFr (gF0 (pickT hg1091)) | exact (gF0 (pickT hg1091)) | rfl) ?_
          refine c_skipLD (.int .i64 0) (by first | exact gFr (gF0 (pickT hg1091)) | exact (gF0 (pickT hg1091)) | rfl) ?_
          intro w1092 H
          exact cut_inA ⟨_, h, rfl, H.pickL [1] rfl⟩
        · replace h := condF hg1091 h
          obtain ⟨y1093, hx1094, h⟩ := bindS h
          obtain ⟨cs1096, hR1097, H⟩ := H.elemJ 1 rfl hx1094
          obtain rfl : cs1096 = [.int .i64 y1093] := hR1097
          rcases Bool.eq_false_or_eq_true (decide (y1093 > (8 : Int))) with hg1099 | hg1099
          · replace h := condT hg1099 h
            refine nc ?_
            refine draw_rule [] (by kernel_rfl) (by kernel_rfl) H ?_
            refine c_idxA (e := 3) 1 _ (by kernel_rfl) (by kernel_rfl) (idxL_some hx1086).1 (idxL_some hx1086).2.1 ?_
            refine c_loadD 1 rfl 0 (by kernel_rfl) rfl ?_
            refine c_idxA (e := 3) 1 _ (by kernel_rfl) (by kernel_rfl) (idxL_some hx1094).1 (idxL_some hx1094).2.1 ?_
            refine c_loadD 0 rfl 0 (by kernel_rfl) rfl ?_
            refine c_skipIA (.pointer (some ⟨0, 0, none⟩)) (by first | exact gFr (gF0 ((pickF hg1091).trans hg1099)) | exact (gF0 ((pickF hg1091).trans hg1099)) | rfl) ?_
            refine c_skipLD (.int .i64 0) (by first | exact gFr (gF0 ((pickF hg1091).trans hg1099)) | exact (gF0 ((pickF hg1091).trans hg1099)) | rfl) ?_
            refine c_skipIA (.pointer (some ⟨0, 0, none⟩)) (by first | exact gFr (gF0 ((pickF hg1091).trans hg1099)) | exact (gF0 ((pickF hg1091).trans hg1099)) | rfl) ?_
            refine c_skipLD (.int .i64 0) (by first | exact gFr (gF0 ((pickF hg1091).trans hg1099)) | exact (gF0 ((pickF hg1091).trans hg1099)) | rfl) ?_
            intro w1100 H
            exact cut_inA ⟨_, h, rfl, H.pickL [2] rfl⟩
          · replace h := condF hg1099 h
            rcases Bool.eq_false_or_eq_true (decide (v698 > (0 : Int))) with hg1101 | hg1101
            · replace h := condT hg1101 h
              obtain ⟨y1102, hx1103, h⟩ := bindS h
              obtain ⟨cs1105, hR1106, H⟩ := H.elemJ 2 rfl hx1103
              obtain rfl : cs1105 = [.int .i64 y1102] := hR1106
              obtain ⟨y1108, hx1109, h⟩ := bindS h
              obtain ⟨cs1111, hR1112, H⟩ := H.elemJ 3 rfl hx1109
              obtain rfl : cs1111 = [.int .i64 y1108] := hR1112
              refine nc ?_
              refine draw_rule [] (by kernel_rfl) (by kernel_rfl) H ?_
              refine c_idxA (e := 3) 1 _ (by kernel_rfl) (by kernel_rfl) (idxL_some hx1086).1 (idxL_some hx1086).2.1 ?_
              refine c_loadD 3 rfl 0 (by kernel_rfl) rfl ?_
              refine c_idxA (e := 3) 1 _ (by kernel_rfl) (by kernel_rfl) (idxL_some hx1094).1 (idxL_some hx1094).2.1 ?_
              refine c_loadD 2 rfl 0 (by kernel_rfl) rfl ?_
              refine c_idxA (e := 3) 1 _ (by kernel_rfl) (by kernel_rfl) (idxL_some hx1103).1 (idxL_some hx1103).2.1 ?_
              refine c_loadD 1 rfl 0 (by kernel_rfl) rfl ?_
              refine c_idxA (e := 3) 1 _ (by kernel_rfl) (by kernel_rfl) (idxL_some hx1109).1 (idxL_some hx1109).2.1 ?_
              refine c_loadD 0 rfl 0 (by kernel_rfl) rfl ?_
              intro w1114 H
              exact cut_inA ⟨_, h, rfl, H.pickL [4] rfl⟩
            · replace h := condF hg1101 h
              refine nc ?_
              refine draw_rule [] (by kernel_rfl) (by kernel_rfl) H ?_
              refine c_idxA (e := 3) 1 _ (by kernel_rfl) (by kernel_rfl) (idxL_some hx1086).1 (idxL_some hx1086).2.1 ?_
              refine c_loadD 1 rfl 0 (by kernel_rfl) rfl ?_
              refine c_idxA (e := 3) 1 _ (by kernel_rfl) (by kernel_rfl) (idxL_some hx1094).1 (idxL_some hx1094).2.1 ?_
              refine c_loadD 0 rfl 0 (by kernel_rfl) rfl ?_
              refine c_skipIA (.pointer (some ⟨0, 0, none⟩)) (gF1 hg1101) ?_
              refine c_skipLD (.int .i64 0) (gF1 hg1101) ?_
              refine c_skipIA (.pointer (some ⟨0, 0, none⟩)) (gF1 hg1101) ?_
              refine c_skipLD (.int .i64 0) (gF1 hg1101) ?_
              intro w1115 H
              exact cut_inA ⟨_, h, rfl, H.pickL [2] rfl⟩
      · rintro _ w1116 ⟨v1082, h, rfl, H⟩
        unfold gemotref10_Row.k1 at h
        refine nc_cond rfl (fun hc1117 => ?_) (fun hc1117 => ?_)
        · replace h := condT hc1117 h
          refine nc_seq ?_
          refine nc ?_
          refine nc ?_
          cases h
          replace hq975 : (Sum.inr false) = o970 := hq975
          subst hq975
          have h := hO972
          try dsimp only [Sum.elim_inl, Sum.elim_inr] at h
          replace h := Option.some.inj h
          subst h
          exact ret_inA [.bool false] ⟨_, rfl, ⟨rfl, H.frame⟩⟩
        · replace h := condF hc1117 h
          refine nc ?_
          refine nc ?_
          cases h
          exact again_inA ⟨_, hq975, rfl, H.pickL [0] rfl⟩
    · replace h := condF hc983 h
      refine nc ?_
      cases h
      replace hq975 : (Sum.inl ()) = o970 := hq975
      subst hq975
      have h := hO972
      try dsimp only [Sum.elim_inl, Sum.elim_inr] at h
      exact cut_inA ⟨h, rfl, H.pickL [0] rfl⟩
  · rintro _ w1118 ⟨h, rfl, H⟩
    unfold gemotref10_Row.k3 at h
    refine nc_seq ?_
    refine nc ?_
    refine nc ?_
    replace h := Option.some.inj h
    subst h
    exact ret_inA [.bool (decide ((x0.length : Int) > (0 : Int)))] ⟨_, rfl, ⟨rfl, H.frame⟩⟩
/-! gemot/gemotref10.Right -/
noncomputable def gemotref10_Right.k1 (v22 : Bool) : Option (Bool) := some v22
noncomputable def gemotref10_Right.f (x0 : D_api_View) : Option (Bool) := (gemotref10_Row.f x0.2).bind fun y25 => cond y25 ((gemotref10_Has.f x0.2 x0.1.2).bind fun y32 => gemotref10_Right.k1 (cond (cond (cond y25 y32 false) (decide (x0.1.1 ≥ (0 : Int))) false) (decide (x0.1.1 ≤ (2147483647 : Int))) false)) (gemotref10_Right.k1 (cond (cond (cond y25 false false) (decide ((0 : Int) ≥ (0 : Int))) false) (decide ((0 : Int) ≤ (2147483647 : Int))) false))
set_option maxHeartbeats 4000000 in
theorem gemotref10_Right_ok {ok : Nat → Prop} {w : World} {u1 : Value} {x0 : D_api_View} {r : Bool} (hu2 : slR (tInt .i64) w ok u1 x0.2) (h : gemotref10_Right.f x0 = some r) :
    Calls Tryz.prog 67 #[.agg #[.int .i64 x0.1.1, .int .i64 x0.1.2, u1]] w fun e w' => ∃ v, e = .returned v ∧ (v = .bool r ∧ Bel w.heap.size w w') := by
  have H : Eng.Own ok w w [] := Eng.Own.nil ok w
  obtain ⟨A3, c4, rfl, H⟩ := H.arg rfl hu2
  unfold gemotref10_Right.f at h
  refine enterN (args := [.agg #[.int .i64 x0.1.1, .int .i64 x0.1.2, .slice A3 x0.2.length c4]]) Tryz.func67 rfl Tryz.ntmps67 rfl rfl ?_
  refine nc_seq ?_
  refine nc ?_
  refine own_box H [.int .i64 x0.1.1, .int .i64 x0.1.2, .slice A3 x0.2.length c4] rfl fun g7 w8 H => ?_
  refine nc_cut (fun e w23 => ∃ (v22 : Bool), gemotref10_Right.k1 v22 = some r ∧ e = [(2, .bool v22)] ∧ Eng.Own ok w w23 []) ?_ ?_
  · skip
    refine nc ?_
    refine own_load H 0 rfl (by kernel_rfl) (j := 2) rfl ?_
    obtain ⟨y25, hy26, h⟩ := bindS h
    refine call_rule (by kernel_rfl) (gemotref10_Row_ok (H.dat 1 rfl) hy26) fun v28 w27 ⟨hv29, hb30⟩ => ?_
    subst hv29
    replace H := H.call hb30
    refine own_load H 0 rfl (by kernel_rfl) (j := 2) rfl ?_
    refine own_load H 0 rfl (by kernel_rfl) (j := 1) rfl ?_
    rcases Bool.eq_false_or_eq_true y25 with hg31 | hg31
    · replace h := condT hg31 h
      obtain ⟨y32, hy33, h⟩ := bindS h
      refine call_yes (gT1 hg31 rfl) (by kernel_rfl) (gemotref10_Has_ok (H.dat 1 rfl) hy33) fun v35 w34 ⟨hv36, hb37⟩ => ?_
      subst hv36
      replace H := H.call hb37
      refine own_load H 0 rfl (by kernel_rfl) (j := 0) rfl ?_
      refine own_load H 0 rfl (by kernel_rfl) (j := 0) rfl ?_
      exact cut_inA ⟨_, h, rfl, H.pickL [] rfl⟩
    · replace h := condF hg31 h
      refine call_skip (.bool false) (gF1 hg31) ?_
      refine skipLD (.int .i64 0) (gF1 (pickF hg31)) ?_
      refine skipLD (.int .i64 0) (gF1 (pickF (pickF hg31))) ?_
      exact cut_inA ⟨_, h, rfl, H.pickL [] rfl⟩
  · rintro _ w38 ⟨v22, h, rfl, H⟩
    unfold gemotref10_Right.k1 at h
    refine nc ?_
    replace h := Option.some.inj h
    subst h
    exact ret_inA [.bool v22] ⟨_, rfl, ⟨rfl, H.frame⟩⟩
/-! gemot/gemotref10.Term -/
noncomputable def gemotref10_Term.f (x0 : D_api_View) : Option ((List UInt8) × Int) := (gemotref10_Right.f ((x0.1.1, x0.1.2), x0.2)).bind fun y9 => cond (!y9) (some (([] : List UInt8), (1 : Int))) ((gemotref4_Pack.f ((0 : Int), (x0.1.1, x0.1.2), ((0 : Int), (0 : Int)), (0 : Int), x0.2, ([] : List (List UInt8)))).bind fun y16 => some (y16.1, y16.2))
set_option maxHeartbeats 4000000 in
theorem gemotref10_Term_ok {ok : Nat → Prop} {w : World} {u1 : Value} {x0 : D_api_View} {r : (List UInt8) × Int} (hu2 : slR (tInt .i64) w ok u1 x0.2) (h : gemotref10_Term.f x0 = some r) :
    Calls Tryz.prog 38 #[.agg #[.int .i64 x0.1.1, .int .i64 x0.1.2, u1]] w fun e w' => ∃ v, e = .returned v ∧ (v = .tuple #[.string (bs r.1), .int .i64 r.2] ∧ Bel w.heap.size w w') := by
  have H : Eng.Own ok w w [] := Eng.Own.nil ok w
  obtain ⟨A3, c4, rfl, H⟩ := H.arg rfl hu2
  unfold gemotref10_Term.f at h
  refine enterN (args := [.agg #[.int .i64 x0.1.1, .int .i64 x0.1.2, .slice A3 x0.2.length c4]]) Tryz.func38 rfl Tryz.ntmps38 rfl rfl ?_
  refine nc_seq ?_
  refine nc ?_
  refine own_box H [.int .i64 x0.1.1, .int .i64 x0.1.2, .slice A3 x0.2.length c4] rfl fun g7 w8 H => ?_
  refine nc_seq ?_
  refine nc_seq ?_
  refine nc ?_
  refine own_loadA (m := 3) H 0 rfl (by kernel_rfl) (by kernel_rfl) [.int .i64 x0.1.1, .int .i64 x0.1.2, .slice A3 x0.2.length c4] rfl rfl ?_
  obtain ⟨y9, hy10, h⟩ := bindS h
  refine call_rule (by kernel_rfl) (gemotref10_Right_ok (x0 := ((x0.1.1, x0.1.2), x0.2)) (H.dat 1 rfl) hy10) fun v12 w11 ⟨hv13, hb14⟩ => ?_
  subst hv13
  replace H := H.call hb14
  refine nc_cond rfl (fun hc15 => ?_) (fun hc15 => ?_)
  · replace h := condT hc15 h
    refine nc_seq ?_
    refine nc ?_
    refine nc ?_
    replace h := Option.some.inj h
    subst h
    exact ret_inA [.string (bs ([] : List UInt8)), .int .i64 1] ⟨_, rfl, ⟨rfl, H.frame⟩⟩
  · replace h := condF hc15 h
    refine nc ?_
    refine nc_seq ?_
    refine nc ?_
    refine own_loadA (m := 2) H 0 rfl (by kernel_rfl) (by kernel_rfl) [.int .i64 x0.1.1, .int .i64 x0.1.2] rfl rfl ?_
    refine own_load H 0 rfl (by kernel_rfl) (j := 2) rfl ?_
    obtain ⟨y16, hy17, h⟩ := bindS h
    refine call_rule (by kernel_rfl) (gemotref4_Pack_ok (x0 := ((0 : Int), (x0.1.1, x0.1.2), ((0 : Int), (0 : Int)), (0 : Int), x0.2, ([] : List (List UInt8)))) (H.dat 1 rfl) nilR hy17) fun v19 w18 ⟨hv20, hb21⟩ => ?_
    subst hv20
    replace H := H.call hb21
    refine nc ?_
    replace h := Option.some.inj h
    subst h
    exact ret_inA [.string (bs y16.1), .int .i64 y16.2] ⟨_, rfl, ⟨rfl, H.frame⟩⟩
/-! gemot/gemotref15.Element -/
noncomputable def gemotref15_Element.f (x0 : List UInt8) : Option ((List UInt8) × Int) := (gemotref1_Power.f [103] x0).bind fun y1 => some (y1.1, y1.2)
set_option maxHeartbeats 4000000 in
theorem gemotref15_Element_ok {ok : Nat → Prop} {w : World} {x0 : List UInt8} {r : (List UInt8) × Int} (h : gemotref15_Element.f x0 = some r) :
    Calls Tryz.prog 12 #[.string (bs x0)] w fun e w' => ∃ v, e = .returned v ∧ (v = .tuple #[.string (bs r.1), .int .i64 r.2] ∧ Bel w.heap.size w w') := by
  have H : Eng.Own ok w w [] := Eng.Own.nil ok w
  unfold gemotref15_Element.f at h
  refine enterN (args := [.string (bs x0)]) Tryz.func12 rfl Tryz.ntmps12 rfl rfl ?_
  refine nc_seq ?_
  refine nc ?_
  refine nc_seq ?_
  refine nc ?_
  obtain ⟨y1, hy2, h⟩ := bindS h
  refine call_rule (by kernel_rfl) (gemotref1_Power_ok (ok := fun _ => False) hy2) fun v4 w3 ⟨hv5, hb6⟩ => ?_
  subst hv5
  replace H := H.call hb6
  refine nc ?_
  replace h := Option.some.inj h
  subst h
  exact ret_inA [.string (bs y1.1), .int .i64 y1.2] ⟨_, rfl, ⟨rfl, H.frame⟩⟩
/-! gemot/gemotref15.Above -/
noncomputable def gemotref15_Above.f (x0 : List UInt8) (x1 : List UInt8) : Option ((List UInt8) × Int) := (gemotref1_Power.f x1 x0).bind fun y1 => cond (y1.2 != (0 : Int)) (some (([] : List UInt8), y1.2)) ((gemotref1_Key.f y1.1).bind fun y8 => some (y8.1, y8.2))
set_option maxHeartbeats 4000000 in
theorem gemotref15_Above_ok {ok : Nat → Prop} {w : World} {x0 : List UInt8} {x1 : List UInt8} {r : (List UInt8) × Int} (h : gemotref15_Above.f x0 x1 = some r) :
    Calls Tryz.prog 14 #[.string (bs x0), .string (bs x1)] w fun e w' => ∃ v, e = .returned v ∧ (v = .tuple #[.string (bs r.1), .int .i64 r.2] ∧ Bel w.heap.size w w') := by
  have H : Eng.Own ok w w [] := Eng.Own.nil ok w
  unfold gemotref15_Above.f at h
  refine enterN (args := [.string (bs x0), .string (bs x1)]) Tryz.func14 rfl Tryz.ntmps14 rfl rfl ?_
  refine nc_seq ?_
  refine nc ?_
  refine nc_seq ?_
  refine nc ?_
  obtain ⟨y1, hy2, h⟩ := bindS h
  refine call_rule (by kernel_rfl) (gemotref1_Power_ok (ok := fun _ => False) hy2) fun v4 w3 ⟨hv5, hb6⟩ => ?_
  subst hv5
  replace H := H.call hb6
  refine nc_seq ?_
  refine nc_seq ?_
  refine nc ?_
  refine nc_cond rfl (fun hc7 => ?_) (fun hc7 => ?_)
  · replace h := condT hc7 h
    refine nc_seq ?_
    refine nc ?_
    refine nc ?_
    replace h := Option.some.inj h
    subst h
    exact ret_inA [.string (bs ([] : List UInt8)), .int .i64 y1.2] ⟨_, rfl, ⟨rfl, H.frame⟩⟩
  · replace h := condF hc7 h
    refine nc ?_
    refine nc_seq ?_
    refine nc ?_
    obtain ⟨y8, hy9, h⟩ := bindS h
    refine call_rule (by kernel_rfl) (gemotref1_Key_ok (ok := fun _ => False) hy9) fun v11 w10 ⟨hv12, hb13⟩ => ?_
    subst hv12
    replace H := H.call hb13
    refine nc ?_
    replace h := Option.some.inj h
    subst h
    exact ret_inA [.string (bs y8.1), .int .i64 y8.2] ⟨_, rfl, ⟨rfl, H.frame⟩⟩
/-! gemot/gemotref15.Group -/
noncomputable def gemotref15_Group.k1 (x1 : List UInt8) (y9 : (List UInt8) × Int) (v41 : Bool) : Option ((List UInt8) × Int) := cond v41 (some (([] : List UInt8), (1 : Int))) ((gemotref1_Of.f [112] ([y9.1, x1] : List (List UInt8))).bind fun y57 => cond (y57.2 != (0 : Int)) (some (([] : List UInt8), y57.2)) ((gemotref1_Of.f [104] ([y57.1] : List (List UInt8))).bind fun y68 => some (y68.1, y68.2)))
noncomputable def gemotref15_Group.f (x0 : D_api_View) (x1 : List UInt8) : Option ((List UInt8) × Int) := (gemotref10_Term.f ((x0.1.1, x0.1.2), x0.2)).bind fun y9 => cond (y9.2 != (0 : Int)) (gemotref15_Group.k1 x1 y9 (cond (y9.2 != (0 : Int)) true (!false))) ((gemotref1_Right.f x1).bind fun y45 => gemotref15_Group.k1 x1 y9 (cond (y9.2 != (0 : Int)) true (!y45)))
set_option maxHeartbeats 4000000 in
theorem gemotref15_Group_ok {ok : Nat → Prop} {w : World} {u1 : Value} {x0 : D_api_View} {x1 : List UInt8} {r : (List UInt8) × Int} (hu2 : slR (tInt .i64) w ok u1 x0.2) (h : gemotref15_Group.f x0 x1 = some r) :
    Calls Tryz.prog 16 #[.agg #[.int .i64 x0.1.1, .int .i64 x0.1.2, u1], .string (bs x1)] w fun e w' => ∃ v, e = .returned v ∧ (v = .tuple #[.string (bs r.1), .int .i64 r.2] ∧ Bel w.heap.size w w') := by
  have H : Eng.Own ok w w [] := Eng.Own.nil ok w
  obtain ⟨A3, c4, rfl, H⟩ := H.arg rfl hu2
  unfold gemotref15_Group.f at h
  refine enterN (args := [.agg #[.int .i64 x0.1.1, .int .i64 x0.1.2, .slice A3 x0.2.length c4], .string (bs x1)]) Tryz.func16 rfl Tryz.ntmps16 rfl rfl ?_
  refine nc_seq ?_
  refine nc ?_
  refine own_box H [.int .i64 x0.1.1, .int .i64 x0.1.2, .slice A3 x0.2.length c4] rfl fun g7 w8 H => ?_
  refine nc_seq ?_
  refine nc ?_
  refine own_loadA (m := 3) H 0 rfl (by kernel_rfl) (by kernel_rfl) [.int .i64 x0.1.1, .int .i64 x0.1.2, .slice A3 x0.2.length c4] rfl rfl ?_
  obtain ⟨y9, hy10, h⟩ := bindS h
  refine call_rule (by kernel_rfl) (gemotref10_Term_ok (x0 := ((x0.1.1, x0.1.2), x0.2)) (H.dat 1 rfl) hy10) fun v12 w11 ⟨hv13, hb14⟩ => ?_
  subst hv13
  replace H := H.call hb14
  refine nc_seq ?_
  refine nc_cut (fun e w42 => ∃ (v41 : Bool), gemotref15_Group.k1 x1 y9 v41 = some r ∧ e = [(1, .string (bs x1)), (6, .string (bs y9.1)), (21, .bool v41)] ∧ Eng.Own ok w w42 []) ?_ ?_
  · skip
    refine nc ?_
    rcases Bool.eq_false_or_eq_true (y9.2 != (0 : Int)) with hg44 | hg44
    · replace h := condT hg44 h
      refine call_skip (.bool false) (gF0 hg44) ?_
      exact cut_inA ⟨_, h, rfl, H.pickL [] rfl⟩
    · replace h := condF hg44 h
      obtain ⟨y45, hy46, h⟩ := bindS h
      refine call_yes (gT0 hg44 rfl) (by kernel_rfl) (gemotref1_Right_ok (ok := fun _ => False) hy46) fun v48 w47 ⟨hv49, hb50⟩ => ?_
      subst hv49
      replace H := H.call hb50
      exact cut_inA ⟨_, h, rfl, H.pickL [] rfl⟩
  · rintro _ w51 ⟨v41, h, rfl, H⟩
    unfold gemotref15_Group.k1 at h
    refine nc_cond rfl (fun hc52 => ?_) (fun hc52 => ?_)
    · replace h := condT hc52 h
      refine nc_seq ?_
      refine nc ?_
      refine nc ?_
      replace h := Option.some.inj h
      subst h
      exact ret_inA [.string (bs ([] : List UInt8)), .int .i64 1] ⟨_, rfl, ⟨rfl, H.frame⟩⟩
    · replace h := condF hc52 h
      refine nc ?_
      refine nc_seq ?_
      refine nc ?_
      refine own_buildSlice (e := 9) (sz := 1) (z := .string ⟨#[]⟩) (cs := [.string (bs y9.1), .string (bs x1)]) H (by kernel_rfl) (by kernel_rfl) (by kernel_rfl) rfl rfl rfl rfl fun g54 w55 H => ?_
      replace H := H.blkSl (k := tStr) [y9.1, x1] 2 rfl rfl (by decide) ⟨_, _, rfl, rfl, ⟨_, _, rfl, rfl, rfl⟩⟩
      obtain ⟨y57, hy58, h⟩ := bindS h
      refine call_rule (by kernel_rfl) (gemotref1_Of_ok (H.dat 0 rfl) hy58) fun v60 w59 ⟨hv61, hb62⟩ => ?_
      subst hv61
      replace H := H.call hb62
      refine nc_seq ?_
      refine nc_seq ?_
      refine nc ?_
      refine nc_cond rfl (fun hc63 => ?_) (fun hc63 => ?_)
      · replace h := condT hc63 h
        refine nc_seq ?_
        refine nc ?_
        refine nc ?_
        replace h := Option.some.inj h
        subst h
        exact ret_inA [.string (bs ([] : List UInt8)), .int .i64 y57.2] ⟨_, rfl, ⟨rfl, H.frame⟩⟩
      · replace h := condF hc63 h
        refine nc ?_
        refine nc_seq ?_
        refine nc ?_
        refine own_buildSlice (e := 9) (sz := 1) (z := .string ⟨#[]⟩) (cs := [.string (bs y57.1)]) H (by kernel_rfl) (by kernel_rfl) (by kernel_rfl) rfl rfl rfl rfl fun g65 w66 H => ?_
        replace H := H.blkSl (k := tStr) [y57.1] 1 rfl rfl (by decide) ⟨_, _, rfl, rfl, rfl⟩
        obtain ⟨y68, hy69, h⟩ := bindS h
        refine call_rule (by kernel_rfl) (gemotref1_Of_ok (H.dat 0 rfl) hy69) fun v71 w70 ⟨hv72, hb73⟩ => ?_
        subst hv72
        replace H := H.call hb73
        refine nc ?_
        replace h := Option.some.inj h
        subst h
        exact ret_inA [.string (bs y68.1), .int .i64 y68.2] ⟨_, rfl, ⟨rfl, H.frame⟩⟩
/-! gemot/gemotlaw15.BlindMakes -/
noncomputable def gemotlaw15_BlindMakes.f (x0 : List UInt8) (x1 : List UInt8) (x2 : D_api_View) : Option (Bool) := (gemotlaw15_shown.f).bind fun y9 => cond (cond (cond (cond (!y9) true (decide ((x0.length : Int) > (2000 : Int)))) true (decide ((x1.length : Int) > (2000 : Int)))) true (decide ((x2.2.length : Int) > (30 : Int)))) (some y9) ((blind_Element.f x0).bind fun y16 => (gemotref15_Element.f x0).bind fun y22 => (blind_Above.f x0 x1).bind fun y28 => (gemotref15_Above.f x0 x1).bind fun y34 => (blind_Group.f ((x2.1.1, x2.1.2), x2.2) x0).bind fun y40 => (gemotref15_Group.f ((x2.1.1, x2.1.2), x2.2) x0).bind fun y46 => some (cond (cond (cond (cond (cond (strEq y16.1 y22.1) (y16.2 == y22.2) false) (strEq y28.1 y34.1) false) (y28.2 == y34.2) false) (strEq y40.1 y46.1) false) (y40.2 == y46.2) false))
set_option maxHeartbeats 4000000 in
theorem gemotlaw15_BlindMakes_ok {ok : Nat → Prop} {w : World} {u1 : Value} {x0 : List UInt8} {x1 : List UInt8} {x2 : D_api_View} {r : Bool} (hu2 : slR (tInt .i64) w ok u1 x2.2) (h : gemotlaw15_BlindMakes.f x0 x1 x2 = some r) :
    Calls Tryz.prog 4 #[.string (bs x0), .string (bs x1), .agg #[.int .i64 x2.1.1, .int .i64 x2.1.2, u1]] w fun e w' => ∃ v, e = .returned v ∧ (v = .bool r ∧ Bel w.heap.size w w') := by
  have H : Eng.Own ok w w [] := Eng.Own.nil ok w
  obtain ⟨A3, c4, rfl, H⟩ := H.arg rfl hu2
  unfold gemotlaw15_BlindMakes.f at h
  refine enterN (args := [.string (bs x0), .string (bs x1), .agg #[.int .i64 x2.1.1, .int .i64 x2.1.2, .slice A3 x2.2.length c4]]) Tryz.func4 rfl Tryz.ntmps4 rfl rfl ?_
  refine nc_seq ?_
  refine nc ?_
  refine own_box H [.int .i64 x2.1.1, .int .i64 x2.1.2, .slice A3 x2.2.length c4] rfl fun g7 w8 H => ?_
  refine nc_seq ?_
  refine nc ?_
  obtain ⟨y9, hy10, h⟩ := bindS h
  refine call_rule (by kernel_rfl) (gemotlaw15_shown_ok (ok := fun _ => False) hy10) fun v12 w11 ⟨hv13, hb14⟩ => ?_
  subst hv13
  replace H := H.call hb14
  refine nc_seq ?_
  refine nc_seq ?_
  refine nc ?_
  refine own_load H 0 rfl (by kernel_rfl) (j := 2) rfl ?_
  refine nc_cond rfl (fun hc15 => ?_) (fun hc15 => ?_)
  · replace h := condT hc15 h
    refine nc_seq ?_
    refine nc ?_
    refine nc ?_
    replace h := Option.some.inj h
    subst h
    exact ret_inA [.bool y9] ⟨_, rfl, ⟨rfl, H.frame⟩⟩
  · replace h := condF hc15 h
    refine nc ?_
    refine nc_seq ?_
    refine nc ?_
    obtain ⟨y16, hy17, h⟩ := bindS h
    refine call_rule (by kernel_rfl) (blind_Element_ok (ok := fun _ => False) hy17) fun v19 w18 ⟨hv20, hb21⟩ => ?_
    subst hv20
    replace H := H.call hb21
    refine nc_seq ?_
    refine nc ?_
    obtain ⟨y22, hy23, h⟩ := bindS h
    refine call_rule (by kernel_rfl) (gemotref15_Element_ok (ok := fun _ => False) hy23) fun v25 w24 ⟨hv26, hb27⟩ => ?_
    subst hv26
    replace H := H.call hb27
    refine nc_seq ?_
    refine nc ?_
    obtain ⟨y28, hy29, h⟩ := bindS h
    refine call_rule (by kernel_rfl) (blind_Above_ok (ok := fun _ => False) hy29) fun v31 w30 ⟨hv32, hb33⟩ => ?_
    subst hv32
    replace H := H.call hb33
    refine nc_seq ?_
    refine nc ?_
    obtain ⟨y34, hy35, h⟩ := bindS h
    refine call_rule (by kernel_rfl) (gemotref15_Above_ok (ok := fun _ => False) hy35) fun v37 w36 ⟨hv38, hb39⟩ => ?_
    subst hv38
    replace H := H.call hb39
    refine nc_seq ?_
    refine nc ?_
    refine own_loadA (m := 3) H 0 rfl (by kernel_rfl) (by kernel_rfl) [.int .i64 x2.1.1, .int .i64 x2.1.2, .slice A3 x2.2.length c4] rfl rfl ?_
    obtain ⟨y40, hy41, h⟩ := bindS h
    refine call_rule (by kernel_rfl) (blind_Group_ok (x0 := ((x2.1.1, x2.1.2), x2.2)) (H.dat 1 rfl) hy41) fun v43 w42 ⟨hv44, hb45⟩ => ?_
    subst hv44
    replace H := H.call hb45
    refine nc_seq ?_
    refine nc ?_
    refine own_loadA (m := 3) H 0 rfl (by kernel_rfl) (by kernel_rfl) [.int .i64 x2.1.1, .int .i64 x2.1.2, .slice A3 x2.2.length c4] rfl rfl ?_
    obtain ⟨y46, hy47, h⟩ := bindS h
    refine call_rule (by kernel_rfl) (gemotref15_Group_ok (x0 := ((x2.1.1, x2.1.2), x2.2)) (H.dat 1 rfl) hy47) fun v49 w48 ⟨hv50, hb51⟩ => ?_
    subst hv50
    replace H := H.call hb51
    refine nc_seq ?_
    refine nc ?_
    refine nc ?_
    replace h := Option.some.inj h
    subst h
    exact ret_inA [.bool (cond (cond (cond (cond (cond (strEq y16.1 y22.1) (y16.2 == y22.2) false) (strEq y28.1 y34.1) false) (y28.2 == y34.2) false) (strEq y40.1 y46.1) false) (y40.2 == y46.2) false)] ⟨_, rfl, ⟨rfl, H.frame⟩⟩
end Go.Proofs.YtgomlcfoifkdiaaGreat.G
