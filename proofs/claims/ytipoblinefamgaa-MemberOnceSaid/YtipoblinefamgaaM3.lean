/- Walks, printed by a program of this proof's own. -/
import Derived.Test.YtipoblinefamgaaM2
import Derived.Test.YtipoblinefamgaaPartsOf
import Derived.KernelRfl
namespace Go.Proofs.Ytipoblinefamgaa.G
open Go.RowKit Go.Eng Go.Proofs
set_option linter.unusedVariables false
set_option maxRecDepth 20000
/-! gemot/parts.Kind -/
noncomputable def parts_Kind.f (x0 : List UInt8) : Option (Int) := (term_Right.f x0).bind fun y1 => cond (!y1) (some (0 : Int)) ((idxS x0 (0 : Int)).bind fun y8 => some y8)
set_option maxHeartbeats 4000000 in
theorem parts_Kind_ok {ok : Nat → Prop} {w : World} {x0 : List UInt8} {r : Int} (h : parts_Kind.f x0 = some r) :
    Calls Try.prog 73 #[.string (bs x0)] w fun e w' => ∃ v, e = .returned v ∧ (v = .int .u8 r ∧ Bel w.heap.size w w') := by
  have H : Eng.Own ok w w [] := Eng.Own.nil ok w
  unfold parts_Kind.f at h
  refine enterN (args := [.string (bs x0)]) Try.func73 rfl Try.ntmps73 rfl rfl ?_
  refine nc_seq ?_
  refine nc ?_
  refine nc_seq ?_
  refine nc_seq ?_
  refine nc ?_
  obtain ⟨y1, hy2, h⟩ := bindS h
  refine call_rule (by kernel_rfl) (term_Right_ok (ok := fun _ => False) hy2) fun v4 w3 ⟨hv5, hb6⟩ => ?_
  subst hv5
  replace H := H.call hb6
  refine nc_cond rfl (fun hc7 => ?_) (fun hc7 => ?_)
  · replace h := condT hc7 h
    refine nc_seq ?_
    refine nc ?_
    refine nc ?_
    replace h := Option.some.inj h
    subst h
    exact ret_inA [.int .u8 0] ⟨_, rfl, ⟨rfl, H.frame⟩⟩
  · replace h := condF hc7 h
    refine nc ?_
    refine nc_seq ?_
    refine nc ?_
    obtain ⟨y8, hx9, h⟩ := bindS h
    refine idxS_rule (by kernel_rfl) hx9 ?_
    refine nc ?_
    replace h := Option.some.inj h
    subst h
    exact ret_inA [.int .u8 y8] ⟨_, rfl, ⟨rfl, H.frame⟩⟩
/-! gemot/parts.Value -/
noncomputable def parts_Value.b1 (y70 : List UInt8) (v85 : Int) (v86 : Int) : Option ((Int × Int) ⊕ Int) := cond (decide (v86 < ((bytesI y70).length : Int))) ((idxL (bytesI y70) v86).bind fun y121 => (shlM .u64 v85 (8 : Int)).bind fun _ => some (.inl ((orI .u64 (IntKind.u64.wrap (v85 * 2 ^ min ((8 : Int)).toNat IntKind.u64.bits)) (IntKind.u64.wrap y121)), (IntKind.i64.wrap (v86 + (1 : Int)))))) (some (.inr v85))
noncomputable def parts_Value.k2 (v67 : Int) : Option (Int × Bool) := some (v67, true)
noncomputable def parts_Value.f (x0 : List UInt8) : Option (Int × Bool) := (parts_Kind.f x0).bind fun y1 => cond (cond (y1 != (110 : Int)) (y1 != (117 : Int)) false) (some ((0 : Int), false)) ((slcM x0 (1 : Int) (x0.length : Int)).bind fun y70 => (loopM (fun s117 : Int × Int => parts_Value.b1 y70 s117.1 s117.2) ((0 : Int), (0 : Int))).bind (fun (o116 : Int) => parts_Value.k2 o116))
set_option maxHeartbeats 4000000 in
theorem parts_Value_ok {ok : Nat → Prop} {w : World} {x0 : List UInt8} {r : Int × Bool} (h : parts_Value.f x0 = some r) :
    Calls Try.prog 72 #[.string (bs x0)] w fun e w' => ∃ v, e = .returned v ∧ (v = .tuple #[.int .u64 r.1, .bool r.2] ∧ Bel w.heap.size w w') := by
  have H : Eng.Own ok w w [] := Eng.Own.nil ok w
  unfold parts_Value.f at h
  refine enterN (args := [.string (bs x0)]) Try.func72 rfl Try.ntmps72 rfl rfl ?_
  refine nc_seq ?_
  refine nc ?_
  refine nc_seq ?_
  refine nc_seq ?_
  refine nc ?_
  obtain ⟨y1, hy2, h⟩ := bindS h
  refine call_rule (by kernel_rfl) (parts_Kind_ok (ok := fun _ => False) hy2) fun v4 w3 ⟨hv5, hb6⟩ => ?_
  subst hv5
  replace H := H.call hb6
  refine nc_seq ?_
  refine nc ?_
  refine nc_cond rfl (fun hc7 => ?_) (fun hc7 => ?_)
  · replace h := condT hc7 h
    refine nc_seq ?_
    refine nc ?_
    refine nc ?_
    replace h := Option.some.inj h
    subst h
    exact ret_inA [.int .u64 0, .bool false] ⟨_, rfl, ⟨rfl, H.frame⟩⟩
  · replace h := condF hc7 h
    refine nc ?_
    refine nc_seq ?_
    refine nc ?_
    refine nc_cut (fun e w68 => ∃ (v67 : Int), parts_Value.k2 v67 = some r ∧ e = [(5, .int .u64 v67)] ∧ Eng.Own ok w w68 []) ?_ ?_
    · skip
      refine nc_seq ?_
      refine nc ?_
      obtain ⟨y70, hx71, h⟩ := bindS h
      refine txtI_rule (1 : Int) (x0.length : Int) (by kernel_rfl) ⟨_, rfl⟩ rfl hx71 ?_
      refine own_ofStr (e := 5) H (by kernel_rfl) (by kernel_rfl) fun A72 c73 w74 H => ?_
      refine nc_block ?_
      obtain ⟨o108, hL109, hO110⟩ := bindS h
      obtain ⟨n111, hL109⟩ := loopS hL109
      refine nc ?_
      refine loop_ruleA (fun k e w115 => ∃ (v85 : Int) (v86 : Int), iterM (fun s117 : Int × Int => parts_Value.b1 y70 s117.1 s117.2) k (v85, v86) = some o108 ∧ e = [(5, .int .u64 v85), (18, .slice A72 (bytesI y70).length c73), (19, .int .i64 ((bytesI y70).length : Int)), (20, .int .i64 v86)] ∧ Eng.Own ok w w115 [.dat (dSl (tInt .u8) (.slice A72 (bytesI y70).length c73) (bytesI y70))]) ⟨_, _, hL109, rfl, H.pickL [0] rfl⟩ ?_
      rintro k119 _ w118 ⟨v85, v86, hL109, rfl, H⟩
      obtain ⟨k114, rfl, q112, h, hq113⟩ := iterS hL109
      replace h : parts_Value.b1 y70 v85 v86 = some q112 := h
      unfold parts_Value.b1 at h
      refine nc_seq ?_
      refine nc ?_
      refine nc_seq ?_
      refine nc_cond rfl (fun hc120 => ?_) (fun hc120 => ?_)
      · replace h := condT hc120 h
        refine nc ?_
        refine nc_seq ?_
        refine nc_block ?_
        refine nc_seq ?_
        refine nc ?_
        obtain ⟨y121, hx122, h⟩ := bindS h
        obtain ⟨a123, cs124, rfl, hR125, H⟩ := H.elemI 0 rfl hx122
        obtain rfl : cs124 = [.int .u8 y121] := hR125
        refine idxA_rule (e := 5) 1 _ (by kernel_rfl) (by kernel_rfl) (idxL_some hx122).1 (idxL_some hx122).2.1 ?_
        refine own_loadD H 0 rfl 0 (by kernel_rfl) rfl ?_
        refine nc ?_
        obtain ⟨y127, hy128, h⟩ := bindS h
        obtain ⟨hy128b, rfl⟩ := shlS hy128
        refine shl_rule (fun _ => hy128b) ?_
        refine nc ?_
        cases h
        exact again_inA ⟨_, _, hq113, rfl, H.pickL [1] rfl⟩
      · replace h := condF hc120 h
        refine nc ?_
        cases h
        replace hq113 : v85 = o108 := hq113
        subst hq113
        have h := hO110
        try dsimp only [Sum.elim_inl, Sum.elim_inr] at h
        exact cut_inA ⟨_, h, rfl, H.pickL [] rfl⟩
    · rintro _ w129 ⟨v67, h, rfl, H⟩
      unfold parts_Value.k2 at h
      refine nc_seq ?_
      refine nc ?_
      refine nc ?_
      replace h := Option.some.inj h
      subst h
      exact ret_inA [.int .u64 v67, .bool true] ⟨_, rfl, ⟨rfl, H.frame⟩⟩
/-! gemot/list.Take -/
noncomputable def list_Take.b1 (v286 : List UInt8) (v288 : List (List UInt8)) : Option (((List UInt8) × (List (List UInt8))) ⊕ ((List (List UInt8)) ⊕ ((List (List UInt8)) × Int))) := (term_Number.f (0 : Int)).bind fun y415 => cond (!(strEq v286 y415)) ((parts_Kind.f v286).bind fun y422 => cond (cond (y422 != (112 : Int)) true ((v288.length : Int) == (150 : Int))) (some (.inr (Sum.inr (([] : List (List UInt8)), (2 : Int))))) ((parts_Of.f v286).bind fun y429 => (idxL y429 (0 : Int)).bind fun y441 => roomM 16 (v288.length + 1) ((idxL y429 (1 : Int)).bind fun y457 => some (.inl (y457, (v288 ++ [y441])))))) (some (.inr (Sum.inl v288)))
noncomputable def list_Take.k2 (v230 : List (List UInt8)) : Option ((List (List UInt8)) × Int) := some (v230, (0 : Int))
noncomputable def list_Take.f (x0 : List UInt8) : Option ((List (List UInt8)) × Int) := (loopM (fun s412 : (List UInt8) × (List (List UInt8)) => list_Take.b1 s412.1 s412.2) (x0, ([] : List (List UInt8)))).bind (Sum.elim (fun (o409 : (List (List UInt8))) => list_Take.k2 o409) (fun (o410 : (List (List UInt8)) × Int) => some o410))
set_option maxHeartbeats 4000000 in
theorem list_Take_ok {ok : Nat → Prop} {w : World} {x0 : List UInt8} {r : (List (List UInt8)) × Int} (h : list_Take.f x0 = some r) :
    Calls Try.prog 71 #[.string (bs x0)] w fun e w' => ∃ v, e = .returned v ∧ (∃ (u0_ : Value), v = .tuple #[u0_, .int .i64 r.2] ∧ slR tStr w' (fun b => ok b ∨ w.heap.size ≤ b) u0_ r.1 ∧ Bel w.heap.size w w') := by
  have H : Eng.Own ok w w [] := Eng.Own.nil ok w
  unfold list_Take.f at h
  refine enterN (args := [.string (bs x0)]) Try.func71 rfl Try.ntmps71 rfl rfl ?_
  refine nc_seq ?_
  refine nc ?_
  refine nc_seq ?_
  refine nc ?_
  refine nc_cut (fun e w234 => ∃ (A231 : Option Addr) (c232 : Nat) (cs233 : List Value) (v230 : List (List UInt8)), list_Take.k2 v230 = some r ∧ e = [(4, .slice A231 v230.length c232)] ∧ Eng.Own ok w w234 [.dat (dRows tStr v230 cs233), .row (.slice A231 v230.length c232) 45 1 v230.length cs233]) ?_ ?_
  · skip
    refine nc_block ?_
    replace H := H.nilRowD tStr 45
    obtain ⟨o401, hL402, hO403⟩ := bindS h
    obtain ⟨n404, hL402⟩ := loopS hL402
    refine nc ?_
    refine loop_ruleA (fun k e w408 => ∃ (A289 : Option Addr) (c290 : Nat) (cs291 : List Value) (v286 : List UInt8) (v288 : List (List UInt8)), iterM (fun s412 : (List UInt8) × (List (List UInt8)) => list_Take.b1 s412.1 s412.2) k (v286, v288) = some o401 ∧ e = [(0, .string (bs v286)), (4, .slice A289 v288.length c290)] ∧ Eng.Own ok w w408 [.dat (dRows tStr v288 cs291), .row (.slice A289 v288.length c290) 45 1 v288.length cs291]) ⟨none, 0, [], _, _, hL402, rfl, H.pickL [0, 1] rfl⟩ ?_
    rintro k414 _ w413 ⟨A289, c290, cs291, v286, v288, hL402, rfl, H⟩
    obtain ⟨k407, rfl, q405, h, hq406⟩ := iterS hL402
    replace h : list_Take.b1 v286 v288 = some q405 := h
    unfold list_Take.b1 at h
    refine nc_seq ?_
    refine nc_seq ?_
    refine nc ?_
    obtain ⟨y415, hy416, h⟩ := bindS h
    refine call_rule (by kernel_rfl) (term_Number_ok hy416) fun v418 w417 ⟨hv419, hb420⟩ => ?_
    subst hv419
    replace H := H.call hb420
    refine nc_cond rfl (fun hc421 => ?_) (fun hc421 => ?_)
    · replace h := condT hc421 h
      refine nc ?_
      refine nc_block ?_
      refine nc_seq ?_
      refine nc_seq ?_
      refine nc ?_
      obtain ⟨y422, hy423, h⟩ := bindS h
      refine call_rule (by kernel_rfl) (parts_Kind_ok (ok := fun _ => False) hy423) fun v425 w424 ⟨hv426, hb427⟩ => ?_
      subst hv426
      replace H := H.call hb427
      refine nc_cond rfl (fun hc428 => ?_) (fun hc428 => ?_)
      · replace h := condT hc428 h
        refine nc_seq ?_
        refine nc ?_
        refine nc ?_
        cases h
        replace hq406 : (Sum.inr (([] : List (List UInt8)), (2 : Int))) = o401 := hq406
        subst hq406
        have h := hO403
        try dsimp only [Sum.elim_inl, Sum.elim_inr] at h
        replace h := Option.some.inj h
        subst h
        exact ret_inA [.slice none 0 0, .int .i64 2] ⟨_, rfl, ⟨_, rfl, nilR, H.frame⟩⟩
      · replace h := condF hc428 h
        refine nc ?_
        refine nc_seq ?_
        refine nc ?_
        obtain ⟨y429, hy430, h⟩ := bindS h
        refine call_rule (by kernel_rfl) (parts_Of_ok (ok := fun _ => False) hy430) fun u435 w431 ⟨hu436, hb434⟩ => ?_
        replace H := H.callDats hb434 [dSl tStr u435 y429] ⟨(slR_any hu436), trivial⟩
        obtain ⟨A437, c438, hA439, _⟩ := H.sl 0 rfl
        subst hA439
        obtain ⟨y441, hx442, h⟩ := bindS h
        obtain ⟨a443, cs444, rfl, hR445, H⟩ := H.elemI 0 rfl hx442
        obtain rfl : cs444 = [.string (bs y441)] := hR445
        obtain ⟨hr450, h⟩ := roomS h
        obtain ⟨y457, hx458, h⟩ := bindS h
        obtain ⟨cs460, hR461, H⟩ := H.elemJ 1 rfl hx458
        obtain rfl : cs460 = [.string (bs y457)] := hR461
        refine nc ?_
        refine draw_ruleB [.dat (dCells (a443.add (((1 : Int)).toNat * (tStr).sz)) [.string (bs y457)]), .dat (dCells (a443.add (((0 : Int)).toNat * (tStr).sz)) [.string (bs y441)])] [] (fun j => undef) [1000, 1000, 1000, 1000, 1000, 1000, 1000, 1000, 1000, 1000, 1000] (by kernel_rfl) (by kernel_rfl) H (by repeat first | exact List.nil_sublist _ | apply List.Sublist.cons_cons | apply List.Sublist.cons) ?_
        refine c_idxA (e := 45) 1 _ (by kernel_rfl) (by kernel_rfl) (idxL_some hx442).1 (idxL_some hx442).2.1 ?_
        refine c_loadD 1 rfl 0 (by kernel_rfl) rfl ?_
        refine c_buildSlice (e := 45) (sz := 1) (z := .string ⟨#[]⟩) (cs := [.string (bs y441)]) (by kernel_rfl) (by kernel_rfl) (by kernel_rfl) rfl rfl rfl rfl ?_
        intro g448
        refine ⟨(by repeat first | exact List.nil_sublist _ | apply List.Sublist.cons_cons | apply List.Sublist.cons), ?_⟩
        refine c_append1 (k := tStr) (z := .string ⟨#[]⟩) (x := y441) 16 4 3 rfl rfl rfl (fun _ H => rfl) (by kernel_rfl) (by kernel_rfl) rfl rfl hr450 rfl ?_
        intro z451 cs452
        refine ⟨(by repeat first | exact List.nil_sublist _ | apply List.Sublist.cons_cons | apply List.Sublist.cons), ?_⟩
        refine c_idxA (e := 45) 1 _ (by kernel_rfl) (by kernel_rfl) (idxL_some hx458).1 (idxL_some hx458).2.1 ?_
        refine c_loadD 0 rfl 0 (by kernel_rfl) rfl ?_
        intro w463 H
        obtain ⟨A454, c455, rfl, _, _⟩ := H.rowSl 4 rfl
        cases h
        exact again_inA ⟨A454, c455, cs452, _, _, hq406, rfl, H.pickL [3, 4] rfl⟩
    · replace h := condF hc421 h
      refine nc ?_
      cases h
      replace hq406 : (Sum.inl v288) = o401 := hq406
      subst hq406
      have h := hO403
      try dsimp only [Sum.elim_inl, Sum.elim_inr] at h
      exact cut_inA ⟨A289, c290, cs291, _, h, rfl, H.pickL [0, 1] rfl⟩
  · rintro _ w464 ⟨A231, c232, cs233, v230, h, rfl, H⟩
    unfold list_Take.k2 at h
    refine nc_seq ?_
    refine nc ?_
    refine nc ?_
    replace H := H.freeze (k := tStr) 1 0 rfl rfl
    replace h := Option.some.inj h
    subst h
    exact ret_inA [.slice A231 v230.length c232, .int .i64 0] ⟨_, rfl, ⟨_, rfl, H.outD 1 rfl, H.frame⟩⟩
/-! gemot/cut.unrow -/
noncomputable def cut_unrow.k1 (x1 : Int) (y1 : (List (List UInt8)) × Int) (y545 : List (List UInt8)) (v676 : List Int) (v680 : Int) (y1015 : Int × Bool) (v1047 : Bool) : Option (((List Int) × Int) ⊕ ((List Int) ⊕ ((List Int) × (List (List UInt8)) × Bool))) := cond v1047 (some (.inr (Sum.inr (([] : List Int), ([] : List (List UInt8)), false)))) (roomM 8 (v676.length + 1) (some (.inl ((v676 ++ [(IntKind.i64.wrap y1015.1)]), (IntKind.i64.wrap (v680 + (1 : Int)))))))
noncomputable def cut_unrow.b2 (x1 : Int) (y1 : (List (List UInt8)) × Int) (y545 : List (List UInt8)) (v676 : List Int) (v680 : Int) : Option (((List Int) × Int) ⊕ ((List Int) ⊕ ((List Int) × (List (List UInt8)) × Bool))) := cond (decide (v680 < (y545.length : Int))) ((idxL y545 v680).bind fun y1009 => (parts_Value.f y1009).bind fun y1015 => cond (cond (!y1015.2) true (decide (y1015.1 > (2147483647 : Int)))) (cut_unrow.k1 x1 y1 y545 v676 v680 y1015 (cond (cond (!y1015.2) true (decide (y1015.1 > (2147483647 : Int)))) true ((0 : Int) != (117 : Int)))) ((parts_Kind.f y1009).bind fun y1051 => cut_unrow.k1 x1 y1 y545 v676 v680 y1015 (cond (cond (!y1015.2) true (decide (y1015.1 > (2147483647 : Int)))) true (y1051 != (117 : Int))))) (some (.inr (Sum.inl v676)))
noncomputable def cut_unrow.k3 (x1 : Int) (y1 : (List (List UInt8)) × Int) (v539 : List Int) : Option ((List Int) × (List (List UInt8)) × Bool) := (slcM y1.1 x1 (y1.1.length : Int)).bind fun y1070 => some (v539, y1070, true)
noncomputable def cut_unrow.f (x0 : List UInt8) (x1 : Int) : Option ((List Int) × (List (List UInt8)) × Bool) := (list_Take.f x0).bind fun y1 => cond (cond (y1.2 != (0 : Int)) true (decide ((y1.1.length : Int) ≤ x1))) (some (([] : List Int), ([] : List (List UInt8)), false)) ((slcM y1.1 (0 : Int) x1).bind fun y545 => (loopM (fun s945 : (List Int) × Int => cut_unrow.b2 x1 y1 y545 s945.1 s945.2) (([] : List Int), (0 : Int))).bind (Sum.elim (fun (o942 : (List Int)) => cut_unrow.k3 x1 y1 o942) (fun (o943 : (List Int) × (List (List UInt8)) × Bool) => some o943)))
set_option maxHeartbeats 4000000 in
theorem cut_unrow_ok {ok : Nat → Prop} {w : World} {x0 : List UInt8} {x1 : Int} {r : (List Int) × (List (List UInt8)) × Bool} (h : cut_unrow.f x0 x1 = some r) :
    Calls Try.prog 58 #[.string (bs x0), .int .i64 x1] w fun e w' => ∃ v, e = .returned v ∧ (∃ (u0_ : Value) (u1_ : Value), v = .tuple #[u0_, u1_, .bool r.2.2] ∧ slR (tInt .i64) w' (fun b => ok b ∨ w.heap.size ≤ b) u0_ r.1 ∧ slR tStr w' (fun b => ok b ∨ w.heap.size ≤ b) u1_ r.2.1 ∧ Bel w.heap.size w w') := by
  have H : Eng.Own ok w w [] := Eng.Own.nil ok w
  unfold cut_unrow.f at h
  refine enterN (args := [.string (bs x0), .int .i64 x1]) Try.func58 rfl Try.ntmps58 rfl rfl ?_
  refine nc_seq ?_
  refine nc ?_
  refine nc_seq ?_
  refine nc ?_
  obtain ⟨y1, hy2, h⟩ := bindS h
  refine call_rule (by kernel_rfl) (list_Take_ok (ok := fun _ => False) hy2) fun v4 w3 ⟨u7, hv5, hu8, hb6⟩ => ?_
  subst hv5
  replace H := H.callDats hb6 [dSl tStr u7 y1.1] ⟨(slR_any hu8), trivial⟩
  obtain ⟨A9, c10, hA11, _⟩ := H.sl 0 rfl
  subst hA11
  refine nc_seq ?_
  refine nc_seq ?_
  refine nc ?_
  refine nc_cond rfl (fun hc13 => ?_) (fun hc13 => ?_)
  · replace h := condT hc13 h
    refine nc_seq ?_
    refine nc ?_
    refine nc ?_
    replace h := Option.some.inj h
    subst h
    exact ret_inA [.slice none 0 0, .slice none 0 0, .bool false] ⟨_, rfl, ⟨_, _, rfl, nilR, nilR, H.frame⟩⟩
  · replace h := condF hc13 h
    refine nc ?_
    refine nc_seq ?_
    refine nc ?_
    refine nc_cut (fun e w543 => ∃ (A540 : Option Addr) (c541 : Nat) (cs542 : List Value) (v539 : List Int), cut_unrow.k3 x1 y1 v539 = some r ∧ e = [(1, .int .i64 x1), (7, .slice A9 y1.1.length c10), (9, .slice A540 v539.length c541)] ∧ Eng.Own ok w w543 [.dat (dSl tStr (.slice A9 y1.1.length c10) y1.1), .dat (dRows (tInt .i64) v539 cs542), .row (.slice A540 v539.length c541) 3 1 v539.length cs542]) ?_ ?_
    · skip
      refine nc_seq ?_
      refine nc ?_
      obtain ⟨y545, hx546, h⟩ := bindS h
      obtain ⟨A547, c548, hp549, H⟩ := H.pieceD 0 rfl hx546
      have hn551 := H.slLen 1 rfl
      refine pieceI_rule (e := 45) 1 (0 : Int) x1 (by kernel_rfl) (by kernel_rfl) rfl ⟨_, rfl⟩ hx546 hn551 hp549 ?_
      refine nc_block ?_
      replace H := H.nilRowD (tInt .i64) 3
      obtain ⟨o934, hL935, hO936⟩ := bindS h
      obtain ⟨n937, hL935⟩ := loopS hL935
      refine nc ?_
      refine loop_ruleA (fun k e w941 => ∃ (A677 : Option Addr) (c678 : Nat) (cs679 : List Value) (v676 : List Int) (v680 : Int), iterM (fun s945 : (List Int) × Int => cut_unrow.b2 x1 y1 y545 s945.1 s945.2) k (v676, v680) = some o934 ∧ e = [(1, .int .i64 x1), (7, .slice A9 y1.1.length c10), (9, .slice A677 v676.length c678), (29, .slice A547 y545.length c548), (30, .int .i64 (y545.length : Int)), (31, .int .i64 v680)] ∧ Eng.Own ok w w941 [.dat (dSl tStr (.slice A9 y1.1.length c10) y1.1), .dat (dRows (tInt .i64) v676 cs679), .row (.slice A677 v676.length c678) 3 1 v676.length cs679, .dat (dSl tStr (.slice A547 y545.length c548) y545)]) ⟨none, 0, [], _, _, hL935, rfl, H.pickL [3, 0, 1, 2] rfl⟩ ?_
      rintro k947 _ w946 ⟨A677, c678, cs679, v676, v680, hL935, rfl, H⟩
      obtain ⟨k940, rfl, q938, h, hq939⟩ := iterS hL935
      replace h : cut_unrow.b2 x1 y1 y545 v676 v680 = some q938 := h
      unfold cut_unrow.b2 at h
      refine nc_seq ?_
      refine nc ?_
      refine nc_seq ?_
      refine nc_cond rfl (fun hc948 => ?_) (fun hc948 => ?_)
      · replace h := condT hc948 h
        refine nc ?_
        refine nc_seq ?_
        refine nc_block ?_
        refine nc_seq ?_
        refine nc ?_
        obtain ⟨y1009, hx1010, h⟩ := bindS h
        obtain ⟨a1011, cs1012, rfl, hR1013, H⟩ := H.elemI 3 rfl hx1010
        obtain rfl : cs1012 = [.string (bs y1009)] := hR1013
        refine idxA_rule (e := 45) 1 _ (by kernel_rfl) (by kernel_rfl) (idxL_some hx1010).1 (idxL_some hx1010).2.1 ?_
        refine own_loadD H 0 rfl 0 (by kernel_rfl) rfl ?_
        refine nc_seq ?_
        refine nc ?_
        obtain ⟨y1015, hy1016, h⟩ := bindS h
        refine call_rule (by kernel_rfl) (parts_Value_ok (ok := fun _ => False) hy1016) fun v1018 w1017 ⟨hv1019, hb1020⟩ => ?_
        subst hv1019
        replace H := H.call hb1020
        refine nc_seq ?_
        refine nc_cut (fun e w1048 => ∃ (v1047 : Bool), cut_unrow.k1 x1 y1 y545 v676 v680 y1015 v1047 = some q938 ∧ e = [(1, .int .i64 x1), (7, .slice A9 y1.1.length c10), (9, .slice A677 v676.length c678), (12, .int .u64 y1015.1), (29, .slice (some a1011) y545.length c548), (30, .int .i64 (y545.length : Int)), (31, .int .i64 v680), (50, .bool v1047)] ∧ Eng.Own ok w w1048 [.dat (dSl tStr (.slice A9 y1.1.length c10) y1.1), .dat (dRows (tInt .i64) v676 cs679), .row (.slice A677 v676.length c678) 3 1 v676.length cs679, .dat (dSl tStr (.slice (some a1011) y545.length c548) y545)]) ?_ ?_
        · skip
          refine nc ?_
          rcases Bool.eq_false_or_eq_true (cond (!y1015.2) true (decide (y1015.1 > (2147483647 : Int)))) with hg1050 | hg1050
          · replace h := condT hg1050 h
            refine call_skip (.int .u8 0) (gF0 hg1050) ?_
            exact cut_inA ⟨_, h, rfl, H.pickL [1, 2, 3, 4] rfl⟩
          · replace h := condF hg1050 h
            obtain ⟨y1051, hy1052, h⟩ := bindS h
            refine call_yes (gT0 hg1050 rfl) (by kernel_rfl) (parts_Kind_ok (ok := fun _ => False) hy1052) fun v1054 w1053 ⟨hv1055, hb1056⟩ => ?_
            subst hv1055
            replace H := H.call hb1056
            exact cut_inA ⟨_, h, rfl, H.pickL [1, 2, 3, 4] rfl⟩
        · rintro _ w1057 ⟨v1047, h, rfl, H⟩
          unfold cut_unrow.k1 at h
          refine nc_cond rfl (fun hc1058 => ?_) (fun hc1058 => ?_)
          · replace h := condT hc1058 h
            refine nc_seq ?_
            refine nc ?_
            refine nc ?_
            cases h
            replace hq939 : (Sum.inr (([] : List Int), ([] : List (List UInt8)), false)) = o934 := hq939
            subst hq939
            have h := hO936
            try dsimp only [Sum.elim_inl, Sum.elim_inr] at h
            replace h := Option.some.inj h
            subst h
            exact ret_inA [.slice none 0 0, .slice none 0 0, .bool false] ⟨_, rfl, ⟨_, _, rfl, nilR, nilR, H.frame⟩⟩
          · replace h := condF hc1058 h
            refine nc ?_
            refine nc ?_
            refine own_buildSlice (e := 3) (sz := 1) (z := .int .i64 0) (cs := [.int .i64 (IntKind.i64.wrap y1015.1)]) H (by kernel_rfl) (by kernel_rfl) (by kernel_rfl) rfl rfl rfl rfl fun g1060 w1061 H => ?_
            obtain ⟨hr1062, h⟩ := roomS h
            refine own_append1 (k := (tInt .i64)) (z := .int .i64 0) (x := (IntKind.i64.wrap y1015.1)) 8 H 2 1 rfl rfl rfl rfl (by kernel_rfl) (by kernel_rfl) rfl rfl hr1062 rfl fun z1063 cs1064 w1065 H => ?_
            obtain ⟨A1066, c1067, rfl, _, _⟩ := H.rowSl 2 rfl
            refine nc ?_
            cases h
            exact again_inA ⟨A1066, c1067, cs1064, _, _, hq939, rfl, H.pickL [0, 1, 2, 3] rfl⟩
      · replace h := condF hc948 h
        refine nc ?_
        cases h
        replace hq939 : (Sum.inl v676) = o934 := hq939
        subst hq939
        have h := hO936
        try dsimp only [Sum.elim_inl, Sum.elim_inr] at h
        exact cut_inA ⟨A677, c678, cs679, _, h, rfl, H.pickL [0, 1, 2] rfl⟩
    · rintro _ w1069 ⟨A540, c541, cs542, v539, h, rfl, H⟩
      unfold cut_unrow.k3 at h
      refine nc_seq ?_
      obtain ⟨y1070, hx1071, h⟩ := bindS h
      obtain ⟨A1072, c1073, hp1074, H⟩ := H.pieceD 0 rfl hx1071
      have hn1076 := H.slLen 1 rfl
      refine nc ?_
      refine draw_rule [] (by kernel_rfl) (by kernel_rfl) H ?_
      refine c_pieceI (e := 45) 1 x1 (y1.1.length : Int) (by kernel_rfl) (by kernel_rfl) ⟨_, rfl⟩ rfl hx1071 hn1076 hp1074 ?_
      intro w1077 H
      refine nc ?_
      replace H := H.freeze (k := (tInt .i64)) 3 2 rfl rfl
      replace h := Option.some.inj h
      subst h
      exact ret_inA [.slice A540 v539.length c541, .slice A1072 y1070.length c1073, .bool true] ⟨_, rfl, ⟨_, _, rfl, H.outD 3 rfl, H.outD 0 rfl, H.frame⟩⟩
/-! gemot/cut.Take -/
noncomputable def cut_Take.k1 (x0 : List (List UInt8)) (v1186 : List D_cut_Log) (v1191 : Int) (y1792 : (List Int) × (List (List UInt8)) × Bool) (v1857 : Bool) : Option (((List D_cut_Log) × Int × Int) ⊕ ((List D_cut_Log) ⊕ ((List D_cut_Log) × Int))) := cond v1857 (some (.inr (Sum.inr (([] : List D_cut_Log), (2 : Int))))) ((idxL y1792.1 (0 : Int)).bind fun y1876 => roomM 32 (v1186.length + 1) ((idxL y1792.1 (0 : Int)).bind fun y1892 => some (.inl ((v1186 ++ [(y1876, y1792.2.1)]), y1892, (IntKind.i64.wrap (v1191 + (1 : Int)))))))
noncomputable def cut_Take.b2 (x0 : List (List UInt8)) (v1186 : List D_cut_Log) (v1190 : Int) (v1191 : Int) : Option (((List D_cut_Log) × Int × Int) ⊕ ((List D_cut_Log) ⊕ ((List D_cut_Log) × Int))) := cond (decide (v1191 < (x0.length : Int))) ((idxL x0 v1191).bind fun y1786 => (cut_unrow.f y1786 (1 : Int)).bind fun y1792 => cond (!y1792.2.2) (cut_Take.k1 x0 v1186 v1191 y1792 (cond (cond (!y1792.2.2) true (decide ((0 : Int) ≤ v1190))) true (decide ((0 : Int) > (8 : Int))))) ((idxL y1792.1 (0 : Int)).bind fun y1861 => cond (decide (y1861 ≤ v1190)) (cut_Take.k1 x0 v1186 v1191 y1792 (cond (cond (!y1792.2.2) true (decide (y1861 ≤ v1190))) true (decide ((0 : Int) > (8 : Int))))) ((idxL y1792.1 (0 : Int)).bind fun y1868 => cut_Take.k1 x0 v1186 v1191 y1792 (cond (cond (!y1792.2.2) true (decide (y1861 ≤ v1190))) true (decide (y1868 > (8 : Int))))))) (some (.inr (Sum.inl v1186)))
noncomputable def cut_Take.k3 (v950 : List D_cut_Log) : Option ((List D_cut_Log) × Int) := some (v950, (0 : Int))
noncomputable def cut_Take.f (x0 : List (List UInt8)) : Option ((List D_cut_Log) × Int) := (loopM (fun s1669 : (List D_cut_Log) × Int × Int => cut_Take.b2 x0 s1669.1 s1669.2.1 s1669.2.2) (([] : List D_cut_Log), (0 : Int), (0 : Int))).bind (Sum.elim (fun (o1666 : (List D_cut_Log)) => cut_Take.k3 o1666) (fun (o1667 : (List D_cut_Log) × Int) => some o1667))
set_option maxHeartbeats 4000000 in
theorem cut_Take_ok {ok : Nat → Prop} {w : World} {u1 : Value} {x0 : List (List UInt8)} {r : (List D_cut_Log) × Int} (hu2 : slR tStr w ok u1 x0) (h : cut_Take.f x0 = some r) :
    Calls Try.prog 46 #[u1] w fun e w' => ∃ v, e = .returned v ∧ (∃ (u0_ : Value), v = .tuple #[u0_, .int .i64 r.2] ∧ slR t_cut_Log w' (fun b => ok b ∨ w.heap.size ≤ b) u0_ r.1 ∧ Bel w.heap.size w w') := by
  have H : Eng.Own ok w w [] := Eng.Own.nil ok w
  obtain ⟨A3, c4, rfl, H⟩ := H.arg rfl hu2
  unfold cut_Take.f at h
  refine enterN (args := [.slice A3 x0.length c4]) Try.func46 rfl Try.ntmps46 rfl rfl ?_
  refine nc_seq ?_
  refine nc ?_
  refine nc_seq ?_
  refine nc ?_
  refine nc_seq ?_
  refine nc ?_
  refine nc_cut (fun e w954 => ∃ (A951 : Option Addr) (c952 : Nat) (cs953 : List Value) (v950 : List D_cut_Log), cut_Take.k3 v950 = some r ∧ e = [(4, .slice A951 v950.length c952)] ∧ Eng.Own ok w w954 [.dat (dRows t_cut_Log v950 cs953), .row (.slice A951 v950.length c952) 88 2 v950.length cs953]) ?_ ?_
  · skip
    refine nc_seq ?_
    refine nc ?_
    refine nc_block ?_
    replace H := H.nilRowD t_cut_Log 88
    obtain ⟨o1658, hL1659, hO1660⟩ := bindS h
    obtain ⟨n1661, hL1659⟩ := loopS hL1659
    refine nc ?_
    refine loop_ruleA (fun k e w1665 => ∃ (A1187 : Option Addr) (c1188 : Nat) (cs1189 : List Value) (v1186 : List D_cut_Log) (v1190 : Int) (v1191 : Int), iterM (fun s1669 : (List D_cut_Log) × Int × Int => cut_Take.b2 x0 s1669.1 s1669.2.1 s1669.2.2) k (v1186, v1190, v1191) = some o1658 ∧ e = [(4, .slice A1187 v1186.length c1188), (5, .int .i64 v1190), (11, .slice A3 x0.length c4), (12, .int .i64 (x0.length : Int)), (13, .int .i64 v1191)] ∧ Eng.Own ok w w1665 [.dat (dRows t_cut_Log v1186 cs1189), .row (.slice A1187 v1186.length c1188) 88 2 v1186.length cs1189, .dat (dSl tStr (.slice A3 x0.length c4) x0)]) ⟨none, 0, [], _, _, _, hL1659, rfl, H.pickL [0, 1, 2] rfl⟩ ?_
    rintro k1671 _ w1670 ⟨A1187, c1188, cs1189, v1186, v1190, v1191, hL1659, rfl, H⟩
    obtain ⟨k1664, rfl, q1662, h, hq1663⟩ := iterS hL1659
    replace h : cut_Take.b2 x0 v1186 v1190 v1191 = some q1662 := h
    unfold cut_Take.b2 at h
    refine nc_seq ?_
    refine nc ?_
    refine nc_seq ?_
    refine nc_cond rfl (fun hc1672 => ?_) (fun hc1672 => ?_)
    · replace h := condT hc1672 h
      refine nc ?_
      refine nc_seq ?_
      refine nc_block ?_
      refine nc_seq ?_
      refine nc ?_
      obtain ⟨y1786, hx1787, h⟩ := bindS h
      obtain ⟨a1788, cs1789, rfl, hR1790, H⟩ := H.elemI 2 rfl hx1787
      obtain rfl : cs1789 = [.string (bs y1786)] := hR1790
      refine idxA_rule (e := 45) 1 _ (by kernel_rfl) (by kernel_rfl) (idxL_some hx1787).1 (idxL_some hx1787).2.1 ?_
      refine own_loadD H 0 rfl 0 (by kernel_rfl) rfl ?_
      refine nc_seq ?_
      refine nc ?_
      obtain ⟨y1792, hy1793, h⟩ := bindS h
      refine call_rule (by kernel_rfl) (cut_unrow_ok (ok := fun _ => False) hy1793) fun v1795 w1794 ⟨u1798, u1799, hv1796, hu1800, hu1801, hb1797⟩ => ?_
      subst hv1796
      replace H := H.callDats hb1797 [dSl (tInt .i64) u1798 y1792.1, dSl tStr u1799 y1792.2.1] ⟨(slR_any hu1800), (slR_any hu1801), trivial⟩
      obtain ⟨A1802, c1803, hA1804, _⟩ := H.sl 0 rfl
      subst hA1804
      obtain ⟨A1806, c1807, hA1808, _⟩ := H.sl 1 rfl
      subst hA1808
      refine nc_seq ?_
      refine nc_cut (fun e w1858 => ∃ (v1857 : Bool), cut_Take.k1 x0 v1186 v1191 y1792 v1857 = some q1662 ∧ e = [(4, .slice A1187 v1186.length c1188), (8, .slice A1802 y1792.1.length c1803), (9, .slice A1806 y1792.2.1.length c1807), (11, .slice (some a1788) x0.length c4), (12, .int .i64 (x0.length : Int)), (13, .int .i64 v1191), (37, .bool v1857)] ∧ Eng.Own ok w w1858 [.dat (dRows t_cut_Log v1186 cs1189), .row (.slice A1187 v1186.length c1188) 88 2 v1186.length cs1189, .dat (dSl (tInt .i64) (.slice A1802 y1792.1.length c1803) y1792.1), .dat (dSl tStr (.slice A1806 y1792.2.1.length c1807) y1792.2.1), .dat (dSl tStr (.slice (some a1788) x0.length c4) x0)]) ?_ ?_
      · skip
        refine nc ?_
        rcases Bool.eq_false_or_eq_true (!y1792.2.2) with hg1860 | hg1860
        · replace h := condT hg1860 h
          refine skipIA (.pointer (some ⟨0, 0, none⟩)) (gF0 hg1860) ?_
          refine skipLD (.int .i64 0) (gF0 hg1860) ?_
          refine skipIA (.pointer (some ⟨0, 0, none⟩)) (gF0 (pickT hg1860)) ?_
          refine skipLD (.int .i64 0) (gF0 (pickT hg1860)) ?_
          exact cut_inA ⟨_, h, rfl, H.pickL [3, 4, 0, 1, 5] rfl⟩
        · replace h := condF hg1860 h
          obtain ⟨y1861, hx1862, h⟩ := bindS h
          obtain ⟨a1863, cs1864, rfl, hR1865, H⟩ := H.elemI 0 rfl hx1862
          obtain rfl : cs1864 = [.int .i64 y1861] := hR1865
          refine idxA_rule (e := 3) 1 _ (by kernel_rfl) (by kernel_rfl) (idxL_some hx1862).1 (idxL_some hx1862).2.1 ?_
          refine own_loadD H 0 rfl 0 (by kernel_rfl) rfl ?_
          rcases Bool.eq_false_or_eq_true (decide (y1861 ≤ v1190)) with hg1867 | hg1867
          · replace h := condT hg1867 h
            refine skipIA (.pointer (some ⟨0, 0, none⟩)) (gF0 ((pickF hg1860).trans hg1867)) ?_
            refine skipLD (.int .i64 0) (gF0 ((pickF hg1860).trans hg1867)) ?_
            exact cut_inA ⟨_, h, rfl, H.pickL [4, 5, 1, 2, 6] rfl⟩
          · replace h := condF hg1867 h
            obtain ⟨y1868, hx1869, h⟩ := bindS h
            obtain ⟨cs1871, hR1872, H⟩ := H.elemJ 1 rfl hx1869
            obtain rfl : cs1871 = [.int .i64 y1868] := hR1872
            refine idxA_rule (e := 3) 1 _ (by kernel_rfl) (by kernel_rfl) (idxL_some hx1869).1 (idxL_some hx1869).2.1 ?_
            refine own_loadD H 0 rfl 0 (by kernel_rfl) rfl ?_
            exact cut_inA ⟨_, h, rfl, H.pickL [5, 6, 2, 3, 7] rfl⟩
      · rintro _ w1874 ⟨v1857, h, rfl, H⟩
        unfold cut_Take.k1 at h
        refine nc_cond rfl (fun hc1875 => ?_) (fun hc1875 => ?_)
        · replace h := condT hc1875 h
          refine nc_seq ?_
          refine nc ?_
          refine nc ?_
          cases h
          replace hq1663 : (Sum.inr (([] : List D_cut_Log), (2 : Int))) = o1658 := hq1663
          subst hq1663
          have h := hO1660
          try dsimp only [Sum.elim_inl, Sum.elim_inr] at h
          replace h := Option.some.inj h
          subst h
          exact ret_inA [.slice none 0 0, .int .i64 2] ⟨_, rfl, ⟨_, rfl, nilR, H.frame⟩⟩
        · replace h := condF hc1875 h
          refine nc ?_
          obtain ⟨y1876, hx1877, h⟩ := bindS h
          obtain ⟨a1878, cs1879, rfl, hR1880, H⟩ := H.elemI 2 rfl hx1877
          obtain rfl : cs1879 = [.int .i64 y1876] := hR1880
          obtain ⟨hr1885, h⟩ := roomS h
          obtain ⟨y1892, hx1893, h⟩ := bindS h
          obtain ⟨cs1895, hR1896, H⟩ := H.elemJ 3 rfl hx1893
          obtain rfl : cs1895 = [.int .i64 y1892] := hR1896
          refine nc ?_
          refine draw_ruleB [.dat (dCells (a1878.add (((0 : Int)).toNat * ((tInt .i64)).sz)) [.int .i64 y1892]), .dat (dCells (a1878.add (((0 : Int)).toNat * ((tInt .i64)).sz)) [.int .i64 y1876])] [] (fun j => undef) [1000, 1000, 1000, 1000, 1000, 1000, 1000, 1000, 1000, 1000, 1000, 1000, 1000] (by kernel_rfl) (by kernel_rfl) H (by repeat first | exact List.nil_sublist _ | apply List.Sublist.cons_cons | apply List.Sublist.cons) ?_
          refine c_idxA (e := 3) 1 _ (by kernel_rfl) (by kernel_rfl) (idxL_some hx1877).1 (idxL_some hx1877).2.1 ?_
          refine c_loadD 1 rfl 0 (by kernel_rfl) rfl ?_
          refine c_buildSlice (e := 88) (sz := 2) (z := .agg #[.int .i64 0, .slice none 0 0]) (cs := [.int .i64 y1876, .slice A1806 y1792.2.1.length c1807]) (by kernel_rfl) (by kernel_rfl) (by kernel_rfl) rfl rfl rfl rfl ?_
          intro g1883
          refine ⟨(by repeat first | exact List.nil_sublist _ | apply List.Sublist.cons_cons | apply List.Sublist.cons), ?_⟩
          refine c_append1 (k := t_cut_Log) (z := .agg #[.int .i64 0, .slice none 0 0]) (x := (y1876, y1792.2.1)) 32 3 2 rfl rfl rfl (fun _ H => (cut_Log_in (x := (y1876, y1792.2.1)) (H.dat 6 rfl))) (by kernel_rfl) (by kernel_rfl) rfl rfl hr1885 rfl ?_
          intro z1886 cs1887
          refine ⟨(by repeat first | exact List.nil_sublist _ | apply List.Sublist.cons_cons | apply List.Sublist.cons), ?_⟩
          refine c_idxA (e := 3) 1 _ (by kernel_rfl) (by kernel_rfl) (idxL_some hx1893).1 (idxL_some hx1893).2.1 ?_
          refine c_loadD 0 rfl 0 (by kernel_rfl) rfl ?_
          intro w1898 H
          obtain ⟨A1889, c1890, rfl, _, _⟩ := H.rowSl 3 rfl
          refine nc ?_
          cases h
          exact again_inA ⟨A1889, c1890, cs1887, _, _, _, hq1663, rfl, H.pickL [2, 3, 6] rfl⟩
    · replace h := condF hc1672 h
      refine nc ?_
      cases h
      replace hq1663 : (Sum.inl v1186) = o1658 := hq1663
      subst hq1663
      have h := hO1660
      try dsimp only [Sum.elim_inl, Sum.elim_inr] at h
      exact cut_inA ⟨A1187, c1188, cs1189, _, h, rfl, H.pickL [0, 1] rfl⟩
  · rintro _ w1899 ⟨A951, c952, cs953, v950, h, rfl, H⟩
    unfold cut_Take.k3 at h
    refine nc_seq ?_
    refine nc ?_
    refine nc ?_
    replace H := H.freeze (k := t_cut_Log) 1 0 rfl rfl
    replace h := Option.some.inj h
    subst h
    exact ret_inA [.slice A951 v950.length c952, .int .i64 0] ⟨_, rfl, ⟨_, rfl, H.outD 1 rfl, H.frame⟩⟩
/-! gemot/cut.Unpart -/
noncomputable def cut_Unpart.b1 (x0 : List (List UInt8)) (v322 : List D_cut_Part) (v326 : Int) : Option (((List D_cut_Part) × Int) ⊕ ((List D_cut_Part) ⊕ ((List D_cut_Part) × Int))) := cond (decide (v326 < (x0.length : Int))) ((idxL x0 v326).bind fun y463 => (cut_unrow.f y463 (3 : Int)).bind fun y469 => cond (!y469.2.2) (some (.inr (Sum.inr (([] : List D_cut_Part), (2 : Int))))) ((idxL y469.1 (0 : Int)).bind fun y488 => (idxL y469.1 (1 : Int)).bind fun y494 => (idxL y469.1 (2 : Int)).bind fun y500 => roomM 48 (v322.length + 1) (some (.inl ((v322 ++ [((y488, y494), y500, y469.2.1)]), (IntKind.i64.wrap (v326 + (1 : Int)))))))) (some (.inr (Sum.inl v322)))
noncomputable def cut_Unpart.k2 (v259 : List D_cut_Part) : Option ((List D_cut_Part) × Int) := (cut_right.f v259).bind fun y519 => cond (!y519) (some (([] : List D_cut_Part), (2 : Int))) (some (v259, (0 : Int)))
noncomputable def cut_Unpart.f (x0 : List (List UInt8)) : Option ((List D_cut_Part) × Int) := (loopM (fun s459 : (List D_cut_Part) × Int => cut_Unpart.b1 x0 s459.1 s459.2) (([] : List D_cut_Part), (0 : Int))).bind (Sum.elim (fun (o456 : (List D_cut_Part)) => cut_Unpart.k2 o456) (fun (o457 : (List D_cut_Part) × Int) => some o457))
set_option maxHeartbeats 4000000 in
theorem cut_Unpart_ok {ok : Nat → Prop} {w : World} {u1 : Value} {x0 : List (List UInt8)} {r : (List D_cut_Part) × Int} (hu2 : slR tStr w ok u1 x0) (h : cut_Unpart.f x0 = some r) :
    Calls Try.prog 47 #[u1] w fun e w' => ∃ v, e = .returned v ∧ (∃ (u0_ : Value), v = .tuple #[u0_, .int .i64 r.2] ∧ slR t_cut_Part w' (fun b => ok b ∨ w.heap.size ≤ b) u0_ r.1 ∧ Bel w.heap.size w w') := by
  have H : Eng.Own ok w w [] := Eng.Own.nil ok w
  obtain ⟨A3, c4, rfl, H⟩ := H.arg rfl hu2
  unfold cut_Unpart.f at h
  refine enterN (args := [.slice A3 x0.length c4]) Try.func47 rfl Try.ntmps47 rfl rfl ?_
  refine nc_seq ?_
  refine nc ?_
  refine nc_seq ?_
  refine nc ?_
  refine nc_cut (fun e w263 => ∃ (A260 : Option Addr) (c261 : Nat) (cs262 : List Value) (v259 : List D_cut_Part), cut_Unpart.k2 v259 = some r ∧ e = [(4, .slice A260 v259.length c261)] ∧ Eng.Own ok w w263 [.dat (dRows t_cut_Part v259 cs262), .row (.slice A260 v259.length c261) 57 4 v259.length cs262]) ?_ ?_
  · skip
    refine nc_seq ?_
    refine nc ?_
    refine nc_block ?_
    replace H := H.nilRowD t_cut_Part 57
    obtain ⟨o448, hL449, hO450⟩ := bindS h
    obtain ⟨n451, hL449⟩ := loopS hL449
    refine nc ?_
    refine loop_ruleA (fun k e w455 => ∃ (A323 : Option Addr) (c324 : Nat) (cs325 : List Value) (v322 : List D_cut_Part) (v326 : Int), iterM (fun s459 : (List D_cut_Part) × Int => cut_Unpart.b1 x0 s459.1 s459.2) k (v322, v326) = some o448 ∧ e = [(4, .slice A323 v322.length c324), (10, .slice A3 x0.length c4), (11, .int .i64 (x0.length : Int)), (12, .int .i64 v326)] ∧ Eng.Own ok w w455 [.dat (dRows t_cut_Part v322 cs325), .row (.slice A323 v322.length c324) 57 4 v322.length cs325, .dat (dSl tStr (.slice A3 x0.length c4) x0)]) ⟨none, 0, [], _, _, hL449, rfl, H.pickL [0, 1, 2] rfl⟩ ?_
    rintro k461 _ w460 ⟨A323, c324, cs325, v322, v326, hL449, rfl, H⟩
    obtain ⟨k454, rfl, q452, h, hq453⟩ := iterS hL449
    replace h : cut_Unpart.b1 x0 v322 v326 = some q452 := h
    unfold cut_Unpart.b1 at h
    refine nc_seq ?_
    refine nc ?_
    refine nc_seq ?_
    refine nc_cond rfl (fun hc462 => ?_) (fun hc462 => ?_)
    · replace h := condT hc462 h
      refine nc ?_
      refine nc_seq ?_
      refine nc_block ?_
      refine nc_seq ?_
      refine nc ?_
      obtain ⟨y463, hx464, h⟩ := bindS h
      obtain ⟨a465, cs466, rfl, hR467, H⟩ := H.elemI 2 rfl hx464
      obtain rfl : cs466 = [.string (bs y463)] := hR467
      refine idxA_rule (e := 45) 1 _ (by kernel_rfl) (by kernel_rfl) (idxL_some hx464).1 (idxL_some hx464).2.1 ?_
      refine own_loadD H 0 rfl 0 (by kernel_rfl) rfl ?_
      refine nc_seq ?_
      refine nc ?_
      obtain ⟨y469, hy470, h⟩ := bindS h
      refine call_rule (by kernel_rfl) (cut_unrow_ok (ok := fun _ => False) hy470) fun v472 w471 ⟨u475, u476, hv473, hu477, hu478, hb474⟩ => ?_
      subst hv473
      replace H := H.callDats hb474 [dSl (tInt .i64) u475 y469.1, dSl tStr u476 y469.2.1] ⟨(slR_any hu477), (slR_any hu478), trivial⟩
      obtain ⟨A479, c480, hA481, _⟩ := H.sl 0 rfl
      subst hA481
      obtain ⟨A483, c484, hA485, _⟩ := H.sl 1 rfl
      subst hA485
      refine nc_seq ?_
      refine nc_seq ?_
      refine nc ?_
      refine nc_cond rfl (fun hc487 => ?_) (fun hc487 => ?_)
      · replace h := condT hc487 h
        refine nc_seq ?_
        refine nc ?_
        refine nc ?_
        cases h
        replace hq453 : (Sum.inr (([] : List D_cut_Part), (2 : Int))) = o448 := hq453
        subst hq453
        have h := hO450
        try dsimp only [Sum.elim_inl, Sum.elim_inr] at h
        replace h := Option.some.inj h
        subst h
        exact ret_inA [.slice none 0 0, .int .i64 2] ⟨_, rfl, ⟨_, rfl, nilR, H.frame⟩⟩
      · replace h := condF hc487 h
        refine nc ?_
        obtain ⟨y488, hx489, h⟩ := bindS h
        obtain ⟨a490, cs491, rfl, hR492, H⟩ := H.elemI 0 rfl hx489
        obtain rfl : cs491 = [.int .i64 y488] := hR492
        obtain ⟨y494, hx495, h⟩ := bindS h
        obtain ⟨cs497, hR498, H⟩ := H.elemJ 1 rfl hx495
        obtain rfl : cs497 = [.int .i64 y494] := hR498
        obtain ⟨y500, hx501, h⟩ := bindS h
        obtain ⟨cs503, hR504, H⟩ := H.elemJ 2 rfl hx501
        obtain rfl : cs503 = [.int .i64 y500] := hR504
        obtain ⟨hr509, h⟩ := roomS h
        refine nc ?_
        refine draw_rule [] (by kernel_rfl) (by kernel_rfl) H ?_
        refine c_idxA (e := 3) 1 _ (by kernel_rfl) (by kernel_rfl) (idxL_some hx489).1 (idxL_some hx489).2.1 ?_
        refine c_loadD 2 rfl 0 (by kernel_rfl) rfl ?_
        refine c_idxA (e := 3) 1 _ (by kernel_rfl) (by kernel_rfl) (idxL_some hx495).1 (idxL_some hx495).2.1 ?_
        refine c_loadD 1 rfl 0 (by kernel_rfl) rfl ?_
        refine c_idxA (e := 3) 1 _ (by kernel_rfl) (by kernel_rfl) (idxL_some hx501).1 (idxL_some hx501).2.1 ?_
        refine c_loadD 0 rfl 0 (by kernel_rfl) rfl ?_
        refine c_buildSlice (e := 57) (sz := 4) (z := .agg #[.int .i64 0, .int .i64 0, .int .i64 0, .slice none 0 0]) (cs := [.int .i64 y488, .int .i64 y494, .int .i64 y500, .slice A483 y469.2.1.length c484]) (by kernel_rfl) (by kernel_rfl) (by kernel_rfl) rfl rfl rfl rfl ?_
        intro g507
        refine c_append1 (k := t_cut_Part) (z := .agg #[.int .i64 0, .int .i64 0, .int .i64 0, .slice none 0 0]) (x := ((y488, y494), y500, y469.2.1)) 48 7 6 rfl rfl rfl (fun _ H => (cut_Part_in (x := ((y488, y494), y500, y469.2.1)) (H.dat 5 rfl))) (by kernel_rfl) (by kernel_rfl) rfl rfl hr509 rfl ?_
        intro z510 cs511
        intro w516 H
        obtain ⟨A513, c514, rfl, _, _⟩ := H.rowSl 7 rfl
        refine nc ?_
        cases h
        exact again_inA ⟨A513, c514, cs511, _, _, hq453, rfl, H.pickL [6, 7, 8] rfl⟩
    · replace h := condF hc462 h
      refine nc ?_
      cases h
      replace hq453 : (Sum.inl v322) = o448 := hq453
      subst hq453
      have h := hO450
      try dsimp only [Sum.elim_inl, Sum.elim_inr] at h
      exact cut_inA ⟨A323, c324, cs325, _, h, rfl, H.pickL [0, 1] rfl⟩
  · rintro _ w517 ⟨A260, c261, cs262, v259, h, rfl, H⟩
    unfold cut_Unpart.k2 at h
    refine nc_seq ?_
    refine nc_seq ?_
    refine nc ?_
    replace H := H.freeze (k := t_cut_Part) 1 0 rfl rfl
    obtain ⟨y519, hy520, h⟩ := bindS h
    refine call_rule (by kernel_rfl) (cut_right_ok (H.dat 1 rfl) hy520) fun v522 w521 ⟨hv523, hb524⟩ => ?_
    subst hv523
    replace H := H.call hb524
    refine nc_cond rfl (fun hc525 => ?_) (fun hc525 => ?_)
    · replace h := condT hc525 h
      refine nc_seq ?_
      refine nc ?_
      refine nc ?_
      replace h := Option.some.inj h
      subst h
      exact ret_inA [.slice none 0 0, .int .i64 2] ⟨_, rfl, ⟨_, rfl, nilR, H.frame⟩⟩
    · replace h := condF hc525 h
      refine nc ?_
      refine nc_seq ?_
      refine nc ?_
      refine nc ?_
      replace h := Option.some.inj h
      subst h
      exact ret_inA [.slice A260 v259.length c261, .int .i64 0] ⟨_, rfl, ⟨_, rfl, H.outD 1 rfl, H.frame⟩⟩
end Go.Proofs.Ytipoblinefamgaa.G
