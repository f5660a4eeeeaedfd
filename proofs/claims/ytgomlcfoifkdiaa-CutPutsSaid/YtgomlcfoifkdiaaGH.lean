/- Walks, printed by a program of this proof's own. -/
import Derived.Test.YtgomlcfoifkdiaaGG
import Derived.Test.YtgomlcfoifkdiaaPartsOf
import Derived.KernelRfl
namespace Go.Proofs.Ytgomlcfoifkdiaa.G
open Go.RowKit Go.Eng Go.Proofs
set_option linter.unusedVariables false
set_option maxRecDepth 20000
/-! gemot/parts.Value -/
noncomputable def parts_Value.b1 (y70 : List UInt8) (v85 : Int) (v86 : Int) : Option ((Int × Int) ⊕ Int) := cond (decide (v86 < ((bytesI y70).length : Int))) ((idxL (bytesI y70) v86).bind fun y121 => (shlM .u64 v85 (8 : Int)).bind fun _ => some (.inl ((orI .u64 (IntKind.u64.wrap (v85 * 2 ^ min ((8 : Int)).toNat IntKind.u64.bits)) (IntKind.u64.wrap y121)), (IntKind.i64.wrap (v86 + (1 : Int)))))) (some (.inr v85))
noncomputable def parts_Value.k2 (v67 : Int) : Option (Int × Bool) := some (v67, true)
noncomputable def parts_Value.f (x0 : List UInt8) : Option (Int × Bool) := (parts_Kind.f x0).bind fun y1 => cond (cond (y1 != (110 : Int)) (y1 != (117 : Int)) false) (some ((0 : Int), false)) ((slcM x0 (1 : Int) (x0.length : Int)).bind fun y70 => (loopM (fun s117 : Int × Int => parts_Value.b1 y70 s117.1 s117.2) ((0 : Int), (0 : Int))).bind (fun (o116 : Int) => parts_Value.k2 o116))
set_option maxHeartbeats 4000000 in
theorem parts_Value_ok {ok : Nat → Prop} {w : World} {x0 : List UInt8} {r : Int × Bool} (h : parts_Value.f x0 = some r) :
    Calls Try.prog 105 #[.string (bs x0)] w fun e w' => ∃ v, e = .returned v ∧ (v = .tuple #[.int .u64 r.1, .bool r.2] ∧ Bel w.heap.size w w') := by
  have H : Eng.Own ok w w [] := Eng.Own.nil ok w
  unfold parts_Value.f at h
  refine enterN (args := [.string (bs x0)]) Try.func105 rfl Try.ntmps105 rfl rfl ?_
  refine nc_seq ?_
  refine nc ?_
  refine nc_seq ?_
  refine nc_seq ?_
  refine nc ?_
  obtain ⟨y1, hy2, h⟩ := bindS h
  refine call_rule (by kernel_rfl) (parts_Kind_ok (ok := fun _ => False) hy2) fun v4 w3 ⟨hv5, hb6⟩ => ?_
  subst hv5
  replace H := H.call hb6
  refine nc_seq ?_
  refine nc ?_
  refine nc_cond rfl (fun hc7 => ?_) (fun hc7 => ?_)
  · replace h := condT hc7 h
    refine nc_seq ?_
    refine nc ?_
    refine nc ?_
    replace h := Option.some.inj h
    subst h
    exact ret_inA [.int .u64 0, .bool false] ⟨_, rfl, ⟨rfl, H.frame⟩⟩
  · replace h := condF hc7 h
    refine nc ?_
    refine nc_seq ?_
    refine nc ?_
    refine nc_cut (fun e w68 => ∃ (v67 : Int), parts_Value.k2 v67 = some r ∧ e = [(5, .int .u64 v67)] ∧ Eng.Own ok w w68 []) ?_ ?_
    · skip
      refine nc_seq ?_
      refine nc ?_
      obtain ⟨y70, hx71, h⟩ := bindS h
      refine txtI_rule (1 : Int) (x0.length : Int) (by kernel_rfl) ⟨_, rfl⟩ rfl hx71 ?_
      refine own_ofStr (e := 5) H (by kernel_rfl) (by kernel_rfl) fun A72 c73 w74 H => ?_
      refine nc_block ?_
      obtain ⟨o108, hL109, hO110⟩ := bindS h
      obtain ⟨n111, hL109⟩ := loopS hL109
      refine nc ?_
      refine loop_ruleA (fun k e w115 => ∃ (v85 : Int) (v86 : Int), iterM (fun s117 : Int × Int => parts_Value.b1 y70 s117.1 s117.2) k (v85, v86) = some o108 ∧ e = [(5, .int .u64 v85), (18, .slice A72 (bytesI y70).length c73), (19, .int .i64 ((bytesI y70).length : Int)), (20, .int .i64 v86)] ∧ Eng.Own ok w w115 [.dat (dSl (tInt .u8) (.slice A72 (bytesI y70).length c73) (bytesI y70))]) ⟨_, _, hL109, rfl, H.pickL [0] rfl⟩ ?_
      rintro k119 _ w118 ⟨v85, v86, hL109, rfl, H⟩
      obtain ⟨k114, rfl, q112, h, hq113⟩ := iterS hL109
      replace h : parts_Value.b1 y70 v85 v86 = some q112 := h
      unfold parts_Value.b1 at h
      refine nc_seq ?_
      refine nc ?_
      refine nc_seq ?_
      refine nc_cond rfl (fun hc120 => ?_) (fun hc120 => ?_)
      · replace h := condT hc120 h
        refine nc ?_
        refine nc_seq ?_
        refine nc_block ?_
        refine nc_seq ?_
        refine nc ?_
        obtain ⟨y121, hx122, h⟩ := bindS h
        obtain ⟨a123, cs124, rfl, hR125, H⟩ := H.elemI 0 rfl hx122
        obtain rfl : cs124 = [.int .u8 y121] := hR125
        refine idxA_rule (e := 5) 1 _ (by kernel_rfl) (by kernel_rfl) (idxL_some hx122).1 (idxL_some hx122).2.1 ?_
        refine own_loadD H 0 rfl 0 (by kernel_rfl) rfl ?_
        refine nc ?_
        obtain ⟨y127, hy128, h⟩ := bindS h
        obtain ⟨hy128b, rfl⟩ := shlS hy128
        refine shl_rule (fun _ => hy128b) ?_
        refine nc ?_
        cases h
        exact again_inA ⟨_, _, hq113, rfl, H.pickL [1] rfl⟩
      · replace h := condF hc120 h
        refine nc ?_
        cases h
        replace hq113 : v85 = o108 := hq113
        subst hq113
        have h := hO110
        try dsimp only [Sum.elim_inl, Sum.elim_inr] at h
        exact cut_inA ⟨_, h, rfl, H.pickL [] rfl⟩
    · rintro _ w129 ⟨v67, h, rfl, H⟩
      unfold parts_Value.k2 at h
      refine nc_seq ?_
      refine nc ?_
      refine nc ?_
      replace h := Option.some.inj h
      subst h
      exact ret_inA [.int .u64 v67, .bool true] ⟨_, rfl, ⟨rfl, H.frame⟩⟩
/-! gemot/list.Take -/
noncomputable def list_Take.b1 (v286 : List UInt8) (v288 : List (List UInt8)) : Option (((List UInt8) × (List (List UInt8))) ⊕ ((List (List UInt8)) ⊕ ((List (List UInt8)) × Int))) := (term_Number.f (0 : Int)).bind fun y415 => cond (!(strEq v286 y415)) ((parts_Kind.f v286).bind fun y422 => cond (cond (y422 != (112 : Int)) true ((v288.length : Int) == (150 : Int))) (some (.inr (Sum.inr (([] : List (List UInt8)), (2 : Int))))) ((parts_Of.f v286).bind fun y429 => (idxL y429 (0 : Int)).bind fun y441 => roomM 16 (v288.length + 1) ((idxL y429 (1 : Int)).bind fun y457 => some (.inl (y457, (v288 ++ [y441])))))) (some (.inr (Sum.inl v288)))
noncomputable def list_Take.k2 (v230 : List (List UInt8)) : Option ((List (List UInt8)) × Int) := some (v230, (0 : Int))
noncomputable def list_Take.f (x0 : List UInt8) : Option ((List (List UInt8)) × Int) := (loopM (fun s412 : (List UInt8) × (List (List UInt8)) => list_Take.b1 s412.1 s412.2) (x0, ([] : List (List UInt8)))).bind (Sum.elim (fun (o409 : (List (List UInt8))) => list_Take.k2 o409) (fun (o410 : (List (List UInt8)) × Int) => some o410))
set_option maxHeartbeats 4000000 in
theorem list_Take_ok {ok : Nat → Prop} {w : World} {x0 : List UInt8} {r : (List (List UInt8)) × Int} (h : list_Take.f x0 = some r) :
    Calls Try.prog 104 #[.string (bs x0)] w fun e w' => ∃ v, e = .returned v ∧ (∃ (u0_ : Value), v = .tuple #[u0_, .int .i64 r.2] ∧ slR tStr w' (fun b => ok b ∨ w.heap.size ≤ b) u0_ r.1 ∧ Bel w.heap.size w w') := by
  have H : Eng.Own ok w w [] := Eng.Own.nil ok w
  unfold list_Take.f at h
  refine enterN (args := [.string (bs x0)]) Try.func104 rfl Try.ntmps104 rfl rfl ?_
  refine nc_seq ?_
  refine nc ?_
  refine nc_seq ?_
  refine nc ?_
  refine nc_cut (fun e w234 => ∃ (A231 : Option Addr) (c232 : Nat) (cs233 : List Value) (v230 : List (List UInt8)), list_Take.k2 v230 = some r ∧ e = [(4, .slice A231 v230.length c232)] ∧ Eng.Own ok w w234 [.dat (dRows tStr v230 cs233), .row (.slice A231 v230.length c232) 62 1 v230.length cs233]) ?_ ?_
  · skip
    refine nc_block ?_
    replace H := H.nilRowD tStr 62
    obtain ⟨o401, hL402, hO403⟩ := bindS h
    obtain ⟨n404, hL402⟩ := loopS hL402
    refine nc ?_
    refine loop_ruleA (fun k e w408 => ∃ (A289 : Option Addr) (c290 : Nat) (cs291 : List Value) (v286 : List UInt8) (v288 : List (List UInt8)), iterM (fun s412 : (List UInt8) × (List (List UInt8)) => list_Take.b1 s412.1 s412.2) k (v286, v288) = some o401 ∧ e = [(0, .string (bs v286)), (4, .slice A289 v288.length c290)] ∧ Eng.Own ok w w408 [.dat (dRows tStr v288 cs291), .row (.slice A289 v288.length c290) 62 1 v288.length cs291]) ⟨none, 0, [], _, _, hL402, rfl, H.pickL [0, 1] rfl⟩ ?_
    rintro k414 _ w413 ⟨A289, c290, cs291, v286, v288, hL402, rfl, H⟩
    obtain ⟨k407, rfl, q405, h, hq406⟩ := iterS hL402
    replace h : list_Take.b1 v286 v288 = some q405 := h
    unfold list_Take.b1 at h
    refine nc_seq ?_
    refine nc_seq ?_
    refine nc ?_
    obtain ⟨y415, hy416, h⟩ := bindS h
    refine call_rule (by kernel_rfl) (term_Number_ok hy416) fun v418 w417 ⟨hv419, hb420⟩ => ?_
    subst hv419
    replace H := H.call hb420
    refine nc_cond rfl (fun hc421 => ?_) (fun hc421 => ?_)
    · replace h := condT hc421 h
      refine nc ?_
      refine nc_block ?_
      refine nc_seq ?_
      refine nc_seq ?_
      refine nc ?_
      obtain ⟨y422, hy423, h⟩ := bindS h
      refine call_rule (by kernel_rfl) (parts_Kind_ok (ok := fun _ => False) hy423) fun v425 w424 ⟨hv426, hb427⟩ => ?_
      subst hv426
      replace H := H.call hb427
      refine nc_cond rfl (fun hc428 => ?_) (fun hc428 => ?_)
      · replace h := condT hc428 h
        refine nc_seq ?_
        refine nc ?_
        refine nc ?_
        cases h
        replace hq406 : (Sum.inr (([] : List (List UInt8)), (2 : Int))) = o401 := hq406
        subst hq406
        have h := hO403
        try dsimp only [Sum.elim_inl, Sum.elim_inr] at h
        replace h := Option.some.inj h
        subst h
        exact ret_inA [.slice none 0 0, .int .i64 2] ⟨_, rfl, ⟨_, rfl, nilR, H.frame⟩⟩
      · replace h := condF hc428 h
        refine nc ?_
        refine nc_seq ?_
        refine nc ?_
        obtain ⟨y429, hy430, h⟩ := bindS h
        refine call_rule (by kernel_rfl) (parts_Of_ok (ok := fun _ => False) hy430) fun u435 w431 ⟨hu436, hb434⟩ => ?_
        replace H := H.callDats hb434 [dSl tStr u435 y429] ⟨(slR_any hu436), trivial⟩
        obtain ⟨A437, c438, hA439, _⟩ := H.sl 0 rfl
        subst hA439
        obtain ⟨y441, hx442, h⟩ := bindS h
        obtain ⟨a443, cs444, rfl, hR445, H⟩ := H.elemI 0 rfl hx442
        obtain rfl : cs444 = [.string (bs y441)] := hR445
        obtain ⟨hr450, h⟩ := roomS h
        obtain ⟨y457, hx458, h⟩ := bindS h
        obtain ⟨cs460, hR461, H⟩ := H.elemJ 1 rfl hx458
        obtain rfl : cs460 = [.string (bs y457)] := hR461
        refine nc ?_
        refine draw_ruleB [.dat (dCells (a443.add (((1 : Int)).toNat * (tStr).sz)) [.string (bs y457)]), .dat (dCells (a443.add (((0 : Int)).toNat * (tStr).sz)) [.string (bs y441)])] [] (fun _ => undef) [1000, 1000, 1000, 1000, 1000, 1000, 1000, 1000, 1000, 1000, 1000] (by kernel_rfl) (by kernel_rfl) H (by repeat first | exact List.nil_sublist _ | apply List.Sublist.cons_cons | apply List.Sublist.cons) ?_
        refine c_idxA (e := 62) 1 _ (by kernel_rfl) (by kernel_rfl) (idxL_some hx442).1 (idxL_some hx442).2.1 ?_
        refine c_loadD 1 rfl 0 (by kernel_rfl) rfl ?_
        refine c_buildSlice (e := 62) (sz := 1) (z := .string ⟨#[]⟩) (cs := [.string (bs y441)]) (by kernel_rfl) (by kernel_rfl) (by kernel_rfl) rfl rfl rfl rfl ?_
        intro g448
        refine ⟨(by repeat first | exact List.nil_sublist _ | apply List.Sublist.cons_cons | apply List.Sublist.cons), ?_⟩
        refine c_append1 (k := tStr) (z := .string ⟨#[]⟩) (x := y441) 16 4 3 rfl rfl rfl (fun _ H => rfl) (by kernel_rfl) (by kernel_rfl) rfl rfl hr450 rfl ?_
        intro z451 cs452
        refine ⟨(by repeat first | exact List.nil_sublist _ | apply List.Sublist.cons_cons | apply List.Sublist.cons), ?_⟩
        refine c_idxA (e := 62) 1 _ (by kernel_rfl) (by kernel_rfl) (idxL_some hx458).1 (idxL_some hx458).2.1 ?_
        refine c_loadD 0 rfl 0 (by kernel_rfl) rfl ?_
        intro w463 H
        obtain ⟨A454, c455, rfl, _, _⟩ := H.rowSl 4 rfl
        cases h
        exact again_inA ⟨A454, c455, cs452, _, _, hq406, rfl, H.pickL [3, 4] rfl⟩
    · replace h := condF hc421 h
      refine nc ?_
      cases h
      replace hq406 : (Sum.inl v288) = o401 := hq406
      subst hq406
      have h := hO403
      try dsimp only [Sum.elim_inl, Sum.elim_inr] at h
      exact cut_inA ⟨A289, c290, cs291, _, h, rfl, H.pickL [0, 1] rfl⟩
  · rintro _ w464 ⟨A231, c232, cs233, v230, h, rfl, H⟩
    unfold list_Take.k2 at h
    refine nc_seq ?_
    refine nc ?_
    refine nc ?_
    replace H := H.freeze (k := tStr) 1 0 rfl rfl
    replace h := Option.some.inj h
    subst h
    exact ret_inA [.slice A231 v230.length c232, .int .i64 0] ⟨_, rfl, ⟨_, rfl, H.outD 1 rfl, H.frame⟩⟩
/-! gemot/cut.unrow -/
noncomputable def cut_unrow.k1 (x1 : Int) (y1 : (List (List UInt8)) × Int) (y545 : List (List UInt8)) (v676 : List Int) (v680 : Int) (y1015 : Int × Bool) (v1047 : Bool) : Option (((List Int) × Int) ⊕ ((List Int) ⊕ ((List Int) × (List (List UInt8)) × Bool))) := cond v1047 (some (.inr (Sum.inr (([] : List Int), ([] : List (List UInt8)), false)))) (roomM 8 (v676.length + 1) (some (.inl ((v676 ++ [(IntKind.i64.wrap y1015.1)]), (IntKind.i64.wrap (v680 + (1 : Int)))))))
noncomputable def cut_unrow.b2 (x1 : Int) (y1 : (List (List UInt8)) × Int) (y545 : List (List UInt8)) (v676 : List Int) (v680 : Int) : Option (((List Int) × Int) ⊕ ((List Int) ⊕ ((List Int) × (List (List UInt8)) × Bool))) := cond (decide (v680 < (y545.length : Int))) ((idxL y545 v680).bind fun y1009 => (parts_Value.f y1009).bind fun y1015 => cond (cond (!y1015.2) true (decide (y1015.1 > (2147483647 : Int)))) (cut_unrow.k1 x1 y1 y545 v676 v680 y1015 (cond (cond (!y1015.2) true (decide (y1015.1 > (2147483647 : Int)))) true ((0 : Int) != (117 : Int)))) ((parts_Kind.f y1009).bind fun y1051 => cut_unrow.k1 x1 y1 y545 v676 v680 y1015 (cond (cond (!y1015.2) true (decide (y1015.1 > (2147483647 : Int)))) true (y1051 != (117 : Int))))) (some (.inr (Sum.inl v676)))
noncomputable def cut_unrow.k3 (x1 : Int) (y1 : (List (List UInt8)) × Int) (v539 : List Int) : Option ((List Int) × (List (List UInt8)) × Bool) := (slcM y1.1 x1 (y1.1.length : Int)).bind fun y1070 => some (v539, y1070, true)
noncomputable def cut_unrow.f (x0 : List UInt8) (x1 : Int) : Option ((List Int) × (List (List UInt8)) × Bool) := (list_Take.f x0).bind fun y1 => cond (cond (y1.2 != (0 : Int)) true (decide ((y1.1.length : Int) ≤ x1))) (some (([] : List Int), ([] : List (List UInt8)), false)) ((slcM y1.1 (0 : Int) x1).bind fun y545 => (loopM (fun s945 : (List Int) × Int => cut_unrow.b2 x1 y1 y545 s945.1 s945.2) (([] : List Int), (0 : Int))).bind (Sum.elim (fun (o942 : (List Int)) => cut_unrow.k3 x1 y1 o942) (fun (o943 : (List Int) × (List (List UInt8)) × Bool) => some o943)))
set_option maxHeartbeats 4000000 in
theorem cut_unrow_ok {ok : Nat → Prop} {w : World} {x0 : List UInt8} {x1 : Int} {r : (List Int) × (List (List UInt8)) × Bool} (h : cut_unrow.f x0 x1 = some r) :
    Calls Try.prog 75 #[.string (bs x0), .int .i64 x1] w fun e w' => ∃ v, e = .returned v ∧ (∃ (u0_ : Value) (u1_ : Value), v = .tuple #[u0_, u1_, .bool r.2.2] ∧ slR (tInt .i64) w' (fun b => ok b ∨ w.heap.size ≤ b) u0_ r.1 ∧ slR tStr w' (fun b => ok b ∨ w.heap.size ≤ b) u1_ r.2.1 ∧ Bel w.heap.size w w') := by
  have H : Eng.Own ok w w [] := Eng.Own.nil ok w
  unfold cut_unrow.f at h
  refine enterN (args := [.string (bs x0), .int .i64 x1]) Try.func75 rfl Try.ntmps75 rfl rfl ?_
  refine nc_seq ?_
  refine nc ?_
  refine nc_seq ?_
  refine nc ?_
  obtain ⟨y1, hy2, h⟩ := bindS h
  refine call_rule (by kernel_rfl) (list_Take_ok (ok := fun _ => False) hy2) fun v4 w3 ⟨u7, hv5, hu8, hb6⟩ => ?_
  subst hv5
  replace H := H.callDats hb6 [dSl tStr u7 y1.1] ⟨(slR_any hu8), trivial⟩
  obtain ⟨A9, c10, hA11, _⟩ := H.sl 0 rfl
  subst hA11
  refine nc_seq ?_
  refine nc_seq ?_
  refine nc ?_
  refine nc_cond rfl (fun hc13 => ?_) (fun hc13 => ?_)
  · replace h := condT hc13 h
    refine nc_seq ?_
    refine nc ?_
    refine nc ?_
    replace h := Option.some.inj h
    subst h
    exact ret_inA [.slice none 0 0, .slice none 0 0, .bool false] ⟨_, rfl, ⟨_, _, rfl, nilR, nilR, H.frame⟩⟩
  · replace h := condF hc13 h
    refine nc ?_
    refine nc_seq ?_
    refine nc ?_
    refine nc_cut (fun e w543 => ∃ (A540 : Option Addr) (c541 : Nat) (cs542 : List Value) (v539 : List Int), cut_unrow.k3 x1 y1 v539 = some r ∧ e = [(1, .int .i64 x1), (7, .slice A9 y1.1.length c10), (9, .slice A540 v539.length c541)] ∧ Eng.Own ok w w543 [.dat (dSl tStr (.slice A9 y1.1.length c10) y1.1), .dat (dRows (tInt .i64) v539 cs542), .row (.slice A540 v539.length c541) 3 1 v539.length cs542]) ?_ ?_
    · skip
      refine nc_seq ?_
      refine nc ?_
      obtain ⟨y545, hx546, h⟩ := bindS h
      obtain ⟨A547, c548, hp549, H⟩ := H.pieceD 0 rfl hx546
      have hn551 := H.slLen 1 rfl
      refine pieceI_rule (e := 62) 1 (0 : Int) x1 (by kernel_rfl) (by kernel_rfl) rfl ⟨_, rfl⟩ hx546 hn551 hp549 ?_
      refine nc_block ?_
      replace H := H.nilRowD (tInt .i64) 3
      obtain ⟨o934, hL935, hO936⟩ := bindS h
      obtain ⟨n937, hL935⟩ := loopS hL935
      refine nc ?_
      refine loop_ruleA (fun k e w941 => ∃ (A677 : Option Addr) (c678 : Nat) (cs679 : List Value) (v676 : List Int) (v680 : Int), iterM (fun s945 : (List Int) × Int => cut_unrow.b2 x1 y1 y545 s945.1 s945.2) k (v676, v680) = some o934 ∧ e = [(1, .int .i64 x1), (7, .slice A9 y1.1.length c10), (9, .slice A677 v676.length c678), (29, .slice A547 y545.length c548), (30, .int .i64 (y545.length : Int)), (31, .int .i64 v680)] ∧ Eng.Own ok w w941 [.dat (dSl tStr (.slice A9 y1.1.length c10) y1.1), .dat (dRows (tInt .i64) v676 cs679), .row (.slice A677 v676.length c678) 3 1 v676.length cs679, .dat (dSl tStr (.slice A547 y545.length c548) y545)]) ⟨none, 0, [], _, _, hL935, rfl, H.pickL [3, 0, 1, 2] rfl⟩ ?_
      rintro k947 _ w946 ⟨A677, c678, cs679, v676, v680, hL935, rfl, H⟩
      obtain ⟨k940, rfl, q938, h, hq939⟩ := iterS hL935
      replace h : cut_unrow.b2 x1 y1 y545 v676 v680 = some q938 := h
      unfold cut_unrow.b2 at h
      refine nc_seq ?_
      refine nc ?_
      refine nc_seq ?_
      refine nc_cond rfl (fun hc948 => ?_) (fun hc948 => ?_)
      · replace h := condT hc948 h
        refine nc ?_
        refine nc_seq ?_
        refine nc_block ?_
        refine nc_seq ?_
        refine nc ?_
        obtain ⟨y1009, hx1010, h⟩ := bindS h
        obtain ⟨a1011, cs1012, rfl, hR1013, H⟩ := H.elemI 3 rfl hx1010
        obtain rfl : cs1012 = [.string (bs y1009)] := hR1013
        refine idxA_rule (e := 62) 1 _ (by kernel_rfl) (by kernel_rfl) (idxL_some hx1010).1 (idxL_some hx1010).2.1 ?_
        refine own_loadD H 0 rfl 0 (by kernel_rfl) rfl ?_
        refine nc_seq ?_
        refine nc ?_
        obtain ⟨y1015, hy1016, h⟩ := bindS h
        refine call_rule (by kernel_rfl) (parts_Value_ok (ok := fun _ => False) hy1016) fun v1018 w1017 ⟨hv1019, hb1020⟩ => ?_
        subst hv1019
        replace H := H.call hb1020
        refine nc_seq ?_
        refine nc_cut (fun e w1048 => ∃ (v1047 : Bool), cut_unrow.k1 x1 y1 y545 v676 v680 y1015 v1047 = some q938 ∧ e = [(1, .int .i64 x1), (7, .slice A9 y1.1.length c10), (9, .slice A677 v676.length c678), (12, .int .u64 y1015.1), (29, .slice (some a1011) y545.length c548), (30, .int .i64 (y545.length : Int)), (31, .int .i64 v680), (50, .bool v1047)] ∧ Eng.Own ok w w1048 [.dat (dSl tStr (.slice A9 y1.1.length c10) y1.1), .dat (dRows (tInt .i64) v676 cs679), .row (.slice A677 v676.length c678) 3 1 v676.length cs679, .dat (dSl tStr (.slice (some a1011) y545.length c548) y545)]) ?_ ?_
        · skip
          refine nc ?_
          rcases Bool.eq_false_or_eq_true (cond (!y1015.2) true (decide (y1015.1 > (2147483647 : Int)))) with hg1050 | hg1050
          · replace h := condT hg1050 h
            refine call_skip (.int .u8 0) (gF0 hg1050) ?_
            exact cut_inA ⟨_, h, rfl, H.pickL [1, 2, 3, 4] rfl⟩
          · replace h := condF hg1050 h
            obtain ⟨y1051, hy1052, h⟩ := bindS h
            refine call_yes (gT0 hg1050 rfl) (by kernel_rfl) (parts_Kind_ok (ok := fun _ => False) hy1052) fun v1054 w1053 ⟨hv1055, hb1056⟩ => ?_
            subst hv1055
            replace H := H.call hb1056
            exact cut_inA ⟨_, h, rfl, H.pickL [1, 2, 3, 4] rfl⟩
        · rintro _ w1057 ⟨v1047, h, rfl, H⟩
          unfold cut_unrow.k1 at h
          refine nc_cond rfl (fun hc1058 => ?_) (fun hc1058 => ?_)
          · replace h := condT hc1058 h
            refine nc_seq ?_
            refine nc ?_
            refine nc ?_
            cases h
            replace hq939 : (Sum.inr (([] : List Int), ([] : List (List UInt8)), false)) = o934 := hq939
            subst hq939
            have h := hO936
            try dsimp only [Sum.elim_inl, Sum.elim_inr] at h
            replace h := Option.some.inj h
            subst h
            exact ret_inA [.slice none 0 0, .slice none 0 0, .bool false] ⟨_, rfl, ⟨_, _, rfl, nilR, nilR, H.frame⟩⟩
          · replace h := condF hc1058 h
            refine nc ?_
            refine nc ?_
            refine own_buildSlice (e := 3) (sz := 1) (z := .int .i64 0) (cs := [.int .i64 (IntKind.i64.wrap y1015.1)]) H (by kernel_rfl) (by kernel_rfl) (by kernel_rfl) rfl rfl rfl rfl fun g1060 w1061 H => ?_
            obtain ⟨hr1062, h⟩ := roomS h
            refine own_append1 (k := (tInt .i64)) (z := .int .i64 0) (x := (IntKind.i64.wrap y1015.1)) 8 H 2 1 rfl rfl rfl rfl (by kernel_rfl) (by kernel_rfl) rfl rfl hr1062 rfl fun z1063 cs1064 w1065 H => ?_
            obtain ⟨A1066, c1067, rfl, _, _⟩ := H.rowSl 2 rfl
            refine nc ?_
            cases h
            exact again_inA ⟨A1066, c1067, cs1064, _, _, hq939, rfl, H.pickL [0, 1, 2, 3] rfl⟩
      · replace h := condF hc948 h
        refine nc ?_
        cases h
        replace hq939 : (Sum.inl v676) = o934 := hq939
        subst hq939
        have h := hO936
        try dsimp only [Sum.elim_inl, Sum.elim_inr] at h
        exact cut_inA ⟨A677, c678, cs679, _, h, rfl, H.pickL [0, 1, 2] rfl⟩
    · rintro _ w1069 ⟨A540, c541, cs542, v539, h, rfl, H⟩
      unfold cut_unrow.k3 at h
      refine nc_seq ?_
      obtain ⟨y1070, hx1071, h⟩ := bindS h
      obtain ⟨A1072, c1073, hp1074, H⟩ := H.pieceD 0 rfl hx1071
      have hn1076 := H.slLen 1 rfl
      refine nc ?_
      refine draw_rule [] (by kernel_rfl) (by kernel_rfl) H ?_
      refine c_pieceI (e := 62) 1 x1 (y1.1.length : Int) (by kernel_rfl) (by kernel_rfl) ⟨_, rfl⟩ rfl hx1071 hn1076 hp1074 ?_
      intro w1077 H
      refine nc ?_
      replace H := H.freeze (k := (tInt .i64)) 3 2 rfl rfl
      replace h := Option.some.inj h
      subst h
      exact ret_inA [.slice A540 v539.length c541, .slice A1072 y1070.length c1073, .bool true] ⟨_, rfl, ⟨_, _, rfl, H.outD 3 rfl, H.outD 0 rfl, H.frame⟩⟩
/-! gemot/cut.Take -/
noncomputable def cut_Take.k1 (x0 : List (List UInt8)) (v1186 : List D_cut_Log) (v1191 : Int) (y1792 : (List Int) × (List (List UInt8)) × Bool) (v1857 : Bool) : Option (((List D_cut_Log) × Int × Int) ⊕ ((List D_cut_Log) ⊕ ((List D_cut_Log) × Int))) := cond v1857 (some (.inr (Sum.inr (([] : List D_cut_Log), (2 : Int))))) ((idxL y1792.1 (0 : Int)).bind fun y1876 => roomM 32 (v1186.length + 1) ((idxL y1792.1 (0 : Int)).bind fun y1892 => some (.inl ((v1186 ++ [(y1876, y1792.2.1)]), y1892, (IntKind.i64.wrap (v1191 + (1 : Int)))))))
noncomputable def cut_Take.b2 (x0 : List (List UInt8)) (v1186 : List D_cut_Log) (v1190 : Int) (v1191 : Int) : Option (((List D_cut_Log) × Int × Int) ⊕ ((List D_cut_Log) ⊕ ((List D_cut_Log) × Int))) := cond (decide (v1191 < (x0.length : Int))) ((idxL x0 v1191).bind fun y1786 => (cut_unrow.f y1786 (1 : Int)).bind fun y1792 => cond (!y1792.2.2) (cut_Take.k1 x0 v1186 v1191 y1792 (cond (cond (!y1792.2.2) true (decide ((0 : Int) ≤ v1190))) true (decide ((0 : Int) > (8 : Int))))) ((idxL y1792.1 (0 : Int)).bind fun y1861 => cond (decide (y1861 ≤ v1190)) (cut_Take.k1 x0 v1186 v1191 y1792 (cond (cond (!y1792.2.2) true (decide (y1861 ≤ v1190))) true (decide ((0 : Int) > (8 : Int))))) ((idxL y1792.1 (0 : Int)).bind fun y1868 => cut_Take.k1 x0 v1186 v1191 y1792 (cond (cond (!y1792.2.2) true (decide (y1861 ≤ v1190))) true (decide (y1868 > (8 : Int))))))) (some (.inr (Sum.inl v1186)))
noncomputable def cut_Take.k3 (v950 : List D_cut_Log) : Option ((List D_cut_Log) × Int) := some (v950, (0 : Int))
noncomputable def cut_Take.f (x0 : List (List UInt8)) : Option ((List D_cut_Log) × Int) := (loopM (fun s1669 : (List D_cut_Log) × Int × Int => cut_Take.b2 x0 s1669.1 s1669.2.1 s1669.2.2) (([] : List D_cut_Log), (0 : Int), (0 : Int))).bind (Sum.elim (fun (o1666 : (List D_cut_Log)) => cut_Take.k3 o1666) (fun (o1667 : (List D_cut_Log) × Int) => some o1667))
set_option maxHeartbeats 4000000 in
theorem cut_Take_ok {ok : Nat → Prop} {w : World} {u1 : Value} {x0 : List (List UInt8)} {r : (List D_cut_Log) × Int} (hu2 : slR tStr w ok u1 x0) (h : cut_Take.f x0 = some r) :
    Calls Try.prog 38 #[u1] w fun e w' => ∃ v, e = .returned v ∧ (∃ (u0_ : Value), v = .tuple #[u0_, .int .i64 r.2] ∧ slR t_cut_Log w' (fun b => ok b ∨ w.heap.size ≤ b) u0_ r.1 ∧ Bel w.heap.size w w') := by
  have H : Eng.Own ok w w [] := Eng.Own.nil ok w
  obtain ⟨A3, c4, rfl, H⟩ := H.arg rfl hu2
  unfold cut_Take.f at h
  refine enterN (args := [.slice A3 x0.length c4]) Try.func38 rfl Try.ntmps38 rfl rfl ?_
  refine nc_seq ?_
  refine nc ?_
  refine nc_seq ?_
  refine nc ?_
  refine nc_seq ?_
  refine nc ?_
  refine nc_cut (fun e w954 => ∃ (A951 : Option Addr) (c952 : Nat) (cs953 : List Value) (v950 : List D_cut_Log), cut_Take.k3 v950 = some r ∧ e = [(4, .slice A951 v950.length c952)] ∧ Eng.Own ok w w954 [.dat (dRows t_cut_Log v950 cs953), .row (.slice A951 v950.length c952) 58 2 v950.length cs953]) ?_ ?_
  · skip
    refine nc_seq ?_
    refine nc ?_
    refine nc_block ?_
    replace H := H.nilRowD t_cut_Log 58
    obtain ⟨o1658, hL1659, hO1660⟩ := bindS h
    obtain ⟨n1661, hL1659⟩ := loopS hL1659
    refine nc ?_
    refine loop_ruleA (fun k e w1665 => ∃ (A1187 : Option Addr) (c1188 : Nat) (cs1189 : List Value) (v1186 : List D_cut_Log) (v1190 : Int) (v1191 : Int), iterM (fun s1669 : (List D_cut_Log) × Int × Int => cut_Take.b2 x0 s1669.1 s1669.2.1 s1669.2.2) k (v1186, v1190, v1191) = some o1658 ∧ e = [(4, .slice A1187 v1186.length c1188), (5, .int .i64 v1190), (11, .slice A3 x0.length c4), (12, .int .i64 (x0.length : Int)), (13, .int .i64 v1191)] ∧ Eng.Own ok w w1665 [.dat (dRows t_cut_Log v1186 cs1189), .row (.slice A1187 v1186.length c1188) 58 2 v1186.length cs1189, .dat (dSl tStr (.slice A3 x0.length c4) x0)]) ⟨none, 0, [], _, _, _, hL1659, rfl, H.pickL [0, 1, 2] rfl⟩ ?_
    rintro k1671 _ w1670 ⟨A1187, c1188, cs1189, v1186, v1190, v1191, hL1659, rfl, H⟩
    obtain ⟨k1664, rfl, q1662, h, hq1663⟩ := iterS hL1659
    replace h : cut_Take.b2 x0 v1186 v1190 v1191 = some q1662 := h
    unfold cut_Take.b2 at h
    refine nc_seq ?_
    refine nc ?_
    refine nc_seq ?_
    refine nc_cond rfl (fun hc1672 => ?_) (fun hc1672 => ?_)
    · replace h := condT hc1672 h
      refine nc ?_
      refine nc_seq ?_
      refine nc_block ?_
      refine nc_seq ?_
      refine nc ?_
      obtain ⟨y1786, hx1787, h⟩ := bindS h
      obtain ⟨a1788, cs1789, rfl, hR1790, H⟩ := H.elemI 2 rfl hx1787
      obtain rfl : cs1789 = [.string (bs y1786)] := hR1790
      refine idxA_rule (e := 62) 1 _ (by kernel_rfl) (by kernel_rfl) (idxL_some hx1787).1 (idxL_some hx1787).2.1 ?_
      refine own_loadD H 0 rfl 0 (by kernel_rfl) rfl ?_
      refine nc_seq ?_
      refine nc ?_
      obtain ⟨y1792, hy1793, h⟩ := bindS h
      refine call_rule (by kernel_rfl) (cut_unrow_ok (ok := fun _ => False) hy1793) fun v1795 w1794 ⟨u1798, u1799, hv1796, hu1800, hu1801, hb1797⟩ => ?_
      subst hv1796
      replace H := H.callDats hb1797 [dSl (tInt .i64) u1798 y1792.1, dSl tStr u1799 y1792.2.1] ⟨(slR_any hu1800), (slR_any hu1801), trivial⟩
      obtain ⟨A1802, c1803, hA1804, _⟩ := H.sl 0 rfl
      subst hA1804
      obtain ⟨A1806, c1807, hA1808, _⟩ := H.sl 1 rfl
      subst hA1808
      refine nc_seq ?_
      refine nc_cut (fun e w1858 => ∃ (v1857 : Bool), cut_Take.k1 x0 v1186 v1191 y1792 v1857 = some q1662 ∧ e = [(4, .slice A1187 v1186.length c1188), (8, .slice A1802 y1792.1.length c1803), (9, .slice A1806 y1792.2.1.length c1807), (11, .slice (some a1788) x0.length c4), (12, .int .i64 (x0.length : Int)), (13, .int .i64 v1191), (37, .bool v1857)] ∧ Eng.Own ok w w1858 [.dat (dRows t_cut_Log v1186 cs1189), .row (.slice A1187 v1186.length c1188) 58 2 v1186.length cs1189, .dat (dSl (tInt .i64) (.slice A1802 y1792.1.length c1803) y1792.1), .dat (dSl tStr (.slice A1806 y1792.2.1.length c1807) y1792.2.1), .dat (dSl tStr (.slice (some a1788) x0.length c4) x0)]) ?_ ?_
      · skip
        refine nc ?_
        rcases Bool.eq_false_or_eq_true (!y1792.2.2) with hg1860 | hg1860
        · replace h := condT hg1860 h
          refine skipIA (.pointer (some ⟨0, 0, none⟩)) (gF0 hg1860) ?_
          refine skipLD (.int .i64 0) (gF0 hg1860) ?_
          refine skipIA (.pointer (some ⟨0, 0, none⟩)) (gF0 (pickT hg1860)) ?_
          refine skipLD (.int .i64 0) (gF0 (pickT hg1860)) ?_
          exact cut_inA ⟨_, h, rfl, H.pickL [3, 4, 0, 1, 5] rfl⟩
        · replace h := condF hg1860 h
          obtain ⟨y1861, hx1862, h⟩ := bindS h
          obtain ⟨a1863, cs1864, rfl, hR1865, H⟩ := H.elemI 0 rfl hx1862
          obtain rfl : cs1864 = [.int .i64 y1861] := hR1865
          refine idxA_rule (e := 3) 1 _ (by kernel_rfl) (by kernel_rfl) (idxL_some hx1862).1 (idxL_some hx1862).2.1 ?_
          refine own_loadD H 0 rfl 0 (by kernel_rfl) rfl ?_
          rcases Bool.eq_false_or_eq_true (decide (y1861 ≤ v1190)) with hg1867 | hg1867
          · replace h := condT hg1867 h
            refine skipIA (.pointer (some ⟨0, 0, none⟩)) (gF0 ((pickF hg1860).trans hg1867)) ?_
            refine skipLD (.int .i64 0) (gF0 ((pickF hg1860).trans hg1867)) ?_
            exact cut_inA ⟨_, h, rfl, H.pickL [4, 5, 1, 2, 6] rfl⟩
          · replace h := condF hg1867 h
            obtain ⟨y1868, hx1869, h⟩ := bindS h
            obtain ⟨cs1871, hR1872, H⟩ := H.elemJ 1 rfl hx1869
            obtain rfl : cs1871 = [.int .i64 y1868] := hR1872
            refine idxA_rule (e := 3) 1 _ (by kernel_rfl) (by kernel_rfl) (idxL_some hx1869).1 (idxL_some hx1869).2.1 ?_
            refine own_loadD H 0 rfl 0 (by kernel_rfl) rfl ?_
            exact cut_inA ⟨_, h, rfl, H.pickL [5, 6, 2, 3, 7] rfl⟩
      · rintro _ w1874 ⟨v1857, h, rfl, H⟩
        unfold cut_Take.k1 at h
        refine nc_cond rfl (fun hc1875 => ?_) (fun hc1875 => ?_)
        · replace h := condT hc1875 h
          refine nc_seq ?_
          refine nc ?_
          refine nc ?_
          cases h
          replace hq1663 : (Sum.inr (([] : List D_cut_Log), (2 : Int))) = o1658 := hq1663
          subst hq1663
          have h := hO1660
          try dsimp only [Sum.elim_inl, Sum.elim_inr] at h
          replace h := Option.some.inj h
          subst h
          exact ret_inA [.slice none 0 0, .int .i64 2] ⟨_, rfl, ⟨_, rfl, nilR, H.frame⟩⟩
        · replace h := condF hc1875 h
          refine nc ?_
          obtain ⟨y1876, hx1877, h⟩ := bindS h
          obtain ⟨a1878, cs1879, rfl, hR1880, H⟩ := H.elemI 2 rfl hx1877
          obtain rfl : cs1879 = [.int .i64 y1876] := hR1880
          obtain ⟨hr1885, h⟩ := roomS h
          obtain ⟨y1892, hx1893, h⟩ := bindS h
          obtain ⟨cs1895, hR1896, H⟩ := H.elemJ 3 rfl hx1893
          obtain rfl : cs1895 = [.int .i64 y1892] := hR1896
          refine nc ?_
          refine draw_ruleB [.dat (dCells (a1878.add (((0 : Int)).toNat * ((tInt .i64)).sz)) [.int .i64 y1892]), .dat (dCells (a1878.add (((0 : Int)).toNat * ((tInt .i64)).sz)) [.int .i64 y1876])] [] (fun _ => undef) [1000, 1000, 1000, 1000, 1000, 1000, 1000, 1000, 1000, 1000, 1000, 1000, 1000] (by kernel_rfl) (by kernel_rfl) H (by repeat first | exact List.nil_sublist _ | apply List.Sublist.cons_cons | apply List.Sublist.cons) ?_
          refine c_idxA (e := 3) 1 _ (by kernel_rfl) (by kernel_rfl) (idxL_some hx1877).1 (idxL_some hx1877).2.1 ?_
          refine c_loadD 1 rfl 0 (by kernel_rfl) rfl ?_
          refine c_buildSlice (e := 58) (sz := 2) (z := .agg #[.int .i64 0, .slice none 0 0]) (cs := [.int .i64 y1876, .slice A1806 y1792.2.1.length c1807]) (by kernel_rfl) (by kernel_rfl) (by kernel_rfl) rfl rfl rfl rfl ?_
          intro g1883
          refine ⟨(by repeat first | exact List.nil_sublist _ | apply List.Sublist.cons_cons | apply List.Sublist.cons), ?_⟩
          refine c_append1 (k := t_cut_Log) (z := .agg #[.int .i64 0, .slice none 0 0]) (x := (y1876, y1792.2.1)) 32 3 2 rfl rfl rfl (fun _ H => (cut_Log_in (x := (y1876, y1792.2.1)) (H.dat 6 rfl))) (by kernel_rfl) (by kernel_rfl) rfl rfl hr1885 rfl ?_
          intro z1886 cs1887
          refine ⟨(by repeat first | exact List.nil_sublist _ | apply List.Sublist.cons_cons | apply List.Sublist.cons), ?_⟩
          refine c_idxA (e := 3) 1 _ (by kernel_rfl) (by kernel_rfl) (idxL_some hx1893).1 (idxL_some hx1893).2.1 ?_
          refine c_loadD 0 rfl 0 (by kernel_rfl) rfl ?_
          intro w1898 H
          obtain ⟨A1889, c1890, rfl, _, _⟩ := H.rowSl 3 rfl
          refine nc ?_
          cases h
          exact again_inA ⟨A1889, c1890, cs1887, _, _, _, hq1663, rfl, H.pickL [2, 3, 6] rfl⟩
    · replace h := condF hc1672 h
      refine nc ?_
      cases h
      replace hq1663 : (Sum.inl v1186) = o1658 := hq1663
      subst hq1663
      have h := hO1660
      try dsimp only [Sum.elim_inl, Sum.elim_inr] at h
      exact cut_inA ⟨A1187, c1188, cs1189, _, h, rfl, H.pickL [0, 1] rfl⟩
  · rintro _ w1899 ⟨A951, c952, cs953, v950, h, rfl, H⟩
    unfold cut_Take.k3 at h
    refine nc_seq ?_
    refine nc ?_
    refine nc ?_
    replace H := H.freeze (k := t_cut_Log) 1 0 rfl rfl
    replace h := Option.some.inj h
    subst h
    exact ret_inA [.slice A951 v950.length c952, .int .i64 0] ⟨_, rfl, ⟨_, rfl, H.outD 1 rfl, H.frame⟩⟩
/-! gemot/cut.Unpart -/
noncomputable def cut_Unpart.b1 (x0 : List (List UInt8)) (v322 : List D_cut_Part) (v326 : Int) : Option (((List D_cut_Part) × Int) ⊕ ((List D_cut_Part) ⊕ ((List D_cut_Part) × Int))) := cond (decide (v326 < (x0.length : Int))) ((idxL x0 v326).bind fun y463 => (cut_unrow.f y463 (3 : Int)).bind fun y469 => cond (!y469.2.2) (some (.inr (Sum.inr (([] : List D_cut_Part), (2 : Int))))) ((idxL y469.1 (0 : Int)).bind fun y488 => (idxL y469.1 (1 : Int)).bind fun y494 => (idxL y469.1 (2 : Int)).bind fun y500 => roomM 48 (v322.length + 1) (some (.inl ((v322 ++ [((y488, y494), y500, y469.2.1)]), (IntKind.i64.wrap (v326 + (1 : Int)))))))) (some (.inr (Sum.inl v322)))
noncomputable def cut_Unpart.k2 (v259 : List D_cut_Part) : Option ((List D_cut_Part) × Int) := (cut_right.f v259).bind fun y519 => cond (!y519) (some (([] : List D_cut_Part), (2 : Int))) (some (v259, (0 : Int)))
noncomputable def cut_Unpart.f (x0 : List (List UInt8)) : Option ((List D_cut_Part) × Int) := (loopM (fun s459 : (List D_cut_Part) × Int => cut_Unpart.b1 x0 s459.1 s459.2) (([] : List D_cut_Part), (0 : Int))).bind (Sum.elim (fun (o456 : (List D_cut_Part)) => cut_Unpart.k2 o456) (fun (o457 : (List D_cut_Part) × Int) => some o457))
set_option maxHeartbeats 4000000 in
theorem cut_Unpart_ok {ok : Nat → Prop} {w : World} {u1 : Value} {x0 : List (List UInt8)} {r : (List D_cut_Part) × Int} (hu2 : slR tStr w ok u1 x0) (h : cut_Unpart.f x0 = some r) :
    Calls Try.prog 40 #[u1] w fun e w' => ∃ v, e = .returned v ∧ (∃ (u0_ : Value), v = .tuple #[u0_, .int .i64 r.2] ∧ slR t_cut_Part w' (fun b => ok b ∨ w.heap.size ≤ b) u0_ r.1 ∧ Bel w.heap.size w w') := by
  have H : Eng.Own ok w w [] := Eng.Own.nil ok w
  obtain ⟨A3, c4, rfl, H⟩ := H.arg rfl hu2
  unfold cut_Unpart.f at h
  refine enterN (args := [.slice A3 x0.length c4]) Try.func40 rfl Try.ntmps40 rfl rfl ?_
  refine nc_seq ?_
  refine nc ?_
  refine nc_seq ?_
  refine nc ?_
  refine nc_cut (fun e w263 => ∃ (A260 : Option Addr) (c261 : Nat) (cs262 : List Value) (v259 : List D_cut_Part), cut_Unpart.k2 v259 = some r ∧ e = [(4, .slice A260 v259.length c261)] ∧ Eng.Own ok w w263 [.dat (dRows t_cut_Part v259 cs262), .row (.slice A260 v259.length c261) 37 4 v259.length cs262]) ?_ ?_
  · skip
    refine nc_seq ?_
    refine nc ?_
    refine nc_block ?_
    replace H := H.nilRowD t_cut_Part 37
    obtain ⟨o448, hL449, hO450⟩ := bindS h
    obtain ⟨n451, hL449⟩ := loopS hL449
    refine nc ?_
    refine loop_ruleA (fun k e w455 => ∃ (A323 : Option Addr) (c324 : Nat) (cs325 : List Value) (v322 : List D_cut_Part) (v326 : Int), iterM (fun s459 : (List D_cut_Part) × Int => cut_Unpart.b1 x0 s459.1 s459.2) k (v322, v326) = some o448 ∧ e = [(4, .slice A323 v322.length c324), (10, .slice A3 x0.length c4), (11, .int .i64 (x0.length : Int)), (12, .int .i64 v326)] ∧ Eng.Own ok w w455 [.dat (dRows t_cut_Part v322 cs325), .row (.slice A323 v322.length c324) 37 4 v322.length cs325, .dat (dSl tStr (.slice A3 x0.length c4) x0)]) ⟨none, 0, [], _, _, hL449, rfl, H.pickL [0, 1, 2] rfl⟩ ?_
    rintro k461 _ w460 ⟨A323, c324, cs325, v322, v326, hL449, rfl, H⟩
    obtain ⟨k454, rfl, q452, h, hq453⟩ := iterS hL449
    replace h : cut_Unpart.b1 x0 v322 v326 = some q452 := h
    unfold cut_Unpart.b1 at h
    refine nc_seq ?_
    refine nc ?_
    refine nc_seq ?_
    refine nc_cond rfl (fun hc462 => ?_) (fun hc462 => ?_)
    · replace h := condT hc462 h
      refine nc ?_
      refine nc_seq ?_
      refine nc_block ?_
      refine nc_seq ?_
      refine nc ?_
      obtain ⟨y463, hx464, h⟩ := bindS h
      obtain ⟨a465, cs466, rfl, hR467, H⟩ := H.elemI 2 rfl hx464
      obtain rfl : cs466 = [.string (bs y463)] := hR467
      refine idxA_rule (e := 62) 1 _ (by kernel_rfl) (by kernel_rfl) (idxL_some hx464).1 (idxL_some hx464).2.1 ?_
      refine own_loadD H 0 rfl 0 (by kernel_rfl) rfl ?_
      refine nc_seq ?_
      refine nc ?_
      obtain ⟨y469, hy470, h⟩ := bindS h
      refine call_rule (by kernel_rfl) (cut_unrow_ok (ok := fun _ => False) hy470) fun v472 w471 ⟨u475, u476, hv473, hu477, hu478, hb474⟩ => ?_
      subst hv473
      replace H := H.callDats hb474 [dSl (tInt .i64) u475 y469.1, dSl tStr u476 y469.2.1] ⟨(slR_any hu477), (slR_any hu478), trivial⟩
      obtain ⟨A479, c480, hA481, _⟩ := H.sl 0 rfl
      subst hA481
      obtain ⟨A483, c484, hA485, _⟩ := H.sl 1 rfl
      subst hA485
      refine nc_seq ?_
      refine nc_seq ?_
      refine nc ?_
      refine nc_cond rfl (fun hc487 => ?_) (fun hc487 => ?_)
      · replace h := condT hc487 h
        refine nc_seq ?_
        refine nc ?_
        refine nc ?_
        cases h
        replace hq453 : (Sum.inr (([] : List D_cut_Part), (2 : Int))) = o448 := hq453
        subst hq453
        have h := hO450
        try dsimp only [Sum.elim_inl, Sum.elim_inr] at h
        replace h := Option.some.inj h
        subst h
        exact ret_inA [.slice none 0 0, .int .i64 2] ⟨_, rfl, ⟨_, rfl, nilR, H.frame⟩⟩
      · replace h := condF hc487 h
        refine nc ?_
        obtain ⟨y488, hx489, h⟩ := bindS h
        obtain ⟨a490, cs491, rfl, hR492, H⟩ := H.elemI 0 rfl hx489
        obtain rfl : cs491 = [.int .i64 y488] := hR492
        obtain ⟨y494, hx495, h⟩ := bindS h
        obtain ⟨cs497, hR498, H⟩ := H.elemJ 1 rfl hx495
        obtain rfl : cs497 = [.int .i64 y494] := hR498
        obtain ⟨y500, hx501, h⟩ := bindS h
        obtain ⟨cs503, hR504, H⟩ := H.elemJ 2 rfl hx501
        obtain rfl : cs503 = [.int .i64 y500] := hR504
        obtain ⟨hr509, h⟩ := roomS h
        refine nc ?_
        refine draw_rule [] (by kernel_rfl) (by kernel_rfl) H ?_
        refine c_idxA (e := 3) 1 _ (by kernel_rfl) (by kernel_rfl) (idxL_some hx489).1 (idxL_some hx489).2.1 ?_
        refine c_loadD 2 rfl 0 (by kernel_rfl) rfl ?_
        refine c_idxA (e := 3) 1 _ (by kernel_rfl) (by kernel_rfl) (idxL_some hx495).1 (idxL_some hx495).2.1 ?_
        refine c_loadD 1 rfl 0 (by kernel_rfl) rfl ?_
        refine c_idxA (e := 3) 1 _ (by kernel_rfl) (by kernel_rfl) (idxL_some hx501).1 (idxL_some hx501).2.1 ?_
        refine c_loadD 0 rfl 0 (by kernel_rfl) rfl ?_
        refine c_buildSlice (e := 37) (sz := 4) (z := .agg #[.int .i64 0, .int .i64 0, .int .i64 0, .slice none 0 0]) (cs := [.int .i64 y488, .int .i64 y494, .int .i64 y500, .slice A483 y469.2.1.length c484]) (by kernel_rfl) (by kernel_rfl) (by kernel_rfl) rfl rfl rfl rfl ?_
        intro g507
        refine c_append1 (k := t_cut_Part) (z := .agg #[.int .i64 0, .int .i64 0, .int .i64 0, .slice none 0 0]) (x := ((y488, y494), y500, y469.2.1)) 48 7 6 rfl rfl rfl (fun _ H => (cut_Part_in (x := ((y488, y494), y500, y469.2.1)) (H.dat 5 rfl))) (by kernel_rfl) (by kernel_rfl) rfl rfl hr509 rfl ?_
        intro z510 cs511
        intro w516 H
        obtain ⟨A513, c514, rfl, _, _⟩ := H.rowSl 7 rfl
        refine nc ?_
        cases h
        exact again_inA ⟨A513, c514, cs511, _, _, hq453, rfl, H.pickL [6, 7, 8] rfl⟩
    · replace h := condF hc462 h
      refine nc ?_
      cases h
      replace hq453 : (Sum.inl v322) = o448 := hq453
      subst hq453
      have h := hO450
      try dsimp only [Sum.elim_inl, Sum.elim_inr] at h
      exact cut_inA ⟨A323, c324, cs325, _, h, rfl, H.pickL [0, 1] rfl⟩
  · rintro _ w517 ⟨A260, c261, cs262, v259, h, rfl, H⟩
    unfold cut_Unpart.k2 at h
    refine nc_seq ?_
    refine nc_seq ?_
    refine nc ?_
    replace H := H.freeze (k := t_cut_Part) 1 0 rfl rfl
    obtain ⟨y519, hy520, h⟩ := bindS h
    refine call_rule (by kernel_rfl) (cut_right_ok (H.dat 1 rfl) hy520) fun v522 w521 ⟨hv523, hb524⟩ => ?_
    subst hv523
    replace H := H.call hb524
    refine nc_cond rfl (fun hc525 => ?_) (fun hc525 => ?_)
    · replace h := condT hc525 h
      refine nc_seq ?_
      refine nc ?_
      refine nc ?_
      replace h := Option.some.inj h
      subst h
      exact ret_inA [.slice none 0 0, .int .i64 2] ⟨_, rfl, ⟨_, rfl, nilR, H.frame⟩⟩
    · replace h := condF hc525 h
      refine nc ?_
      refine nc_seq ?_
      refine nc ?_
      refine nc ?_
      replace h := Option.some.inj h
      subst h
      exact ret_inA [.slice A260 v259.length c261, .int .i64 0] ⟨_, rfl, ⟨_, rfl, H.outD 1 rfl, H.frame⟩⟩
/-! gemot/gemotlaw11.CutPuts -/
noncomputable def gemotlaw11_CutPuts.b1 (x0 : List D_cut_Log) (x1 : List D_cut_Part) (x2 : List (List UInt8)) (y28 : (List D_gemotref11_Part) × Bool) (v202 : List (List UInt8)) (v206 : Int) : Option (((List (List UInt8)) × Int) ⊕ ((List (List UInt8)) ⊕ Bool)) := cond (decide (v206 < (x2.length : Int))) ((idxL x2 v206).bind fun y281 => cond (decide ((y281.length : Int) > (1000 : Int))) (some (.inr (Sum.inr true))) ((idxL x2 v206).bind fun y288 => roomM 16 (v202.length + 1) (some (.inl ((v202 ++ [y288]), (IntKind.i64.wrap (v206 + (1 : Int)))))))) (some (.inr (Sum.inl v202)))
noncomputable def gemotlaw11_CutPuts.k2 (v489 : Bool) : Option (Bool) := some v489
noncomputable def gemotlaw11_CutPuts.k3 (x2 : List (List UInt8)) (v170 : List (List UInt8)) (v409 : Bool) : Option (Bool) := cond v409 (some false) ((cut_Take.f v170).bind fun y428 => (gemotref11_Take.f x2).bind fun y440 => (cut_Unpart.f v170).bind fun y452 => (gemotref11_Unpart.f x2).bind fun y464 => (gemotlaw11_sameLogs.f y428.1 y440.1).bind fun y492 => cond (cond y492 (y428.2 == y440.2) false) ((gemotlaw11_sameParts.f y452.1 y464.1).bind fun y499 => gemotlaw11_CutPuts.k2 (cond (cond (cond y492 (y428.2 == y440.2) false) y499 false) (y452.2 == y464.2) false)) (gemotlaw11_CutPuts.k2 (cond (cond (cond y492 (y428.2 == y440.2) false) false false) (y452.2 == y464.2) false)))
noncomputable def gemotlaw11_CutPuts.k4 (x0 : List D_cut_Log) (x1 : List D_cut_Part) (x2 : List (List UInt8)) (y28 : (List D_gemotref11_Part) × Bool) (v170 : List (List UInt8)) : Option (Bool) := (cut_Put.f x0).bind fun y305 => (gemotlaw11_asLogs.f x0).bind fun y317 => (gemotref11_Put.f y317).bind fun y329 => (cut_Parts.f x1).bind fun y341 => (gemotref11_Parts.f y28.1).bind fun y353 => (gemotlaw11_same.f y305.1 y329.1).bind fun y412 => cond (cond (!y412) true (y305.2 != y329.2)) (gemotlaw11_CutPuts.k3 x2 v170 (cond (cond (cond (!y412) true (y305.2 != y329.2)) true (!false)) true (y341.2 != y353.2))) ((gemotlaw11_same.f y341.1 y353.1).bind fun y419 => gemotlaw11_CutPuts.k3 x2 v170 (cond (cond (cond (!y412) true (y305.2 != y329.2)) true (!y419)) true (y341.2 != y353.2)))
noncomputable def gemotlaw11_CutPuts.f (x0 : List D_cut_Log) (x1 : List D_cut_Part) (x2 : List (List UInt8)) : Option (Bool) := (gemotlaw11_shown.f).bind fun y16 => (gemotlaw11_shortLogs.f x0).bind fun y22 => (gemotlaw11_asParts.f x1).bind fun y28 => cond (cond (cond (cond (!y16) true (!y22)) true (!y28.2)) true (decide ((x2.length : Int) > (20 : Int)))) (some y16) ((loopM (fun s277 : (List (List UInt8)) × Int => gemotlaw11_CutPuts.b1 x0 x1 x2 y28 s277.1 s277.2) (([] : List (List UInt8)), (0 : Int))).bind (Sum.elim (fun (o274 : (List (List UInt8))) => gemotlaw11_CutPuts.k4 x0 x1 x2 y28 o274) (fun (o275 : Bool) => some o275)))
set_option maxHeartbeats 4000000 in
theorem gemotlaw11_CutPuts_ok {ok : Nat → Prop} {w : World} {u1 u6 u11 : Value} {x0 : List D_cut_Log} {x1 : List D_cut_Part} {x2 : List (List UInt8)} {r : Bool} (hu2 : slR t_cut_Log w ok u1 x0) (hu7 : slR t_cut_Part w ok u6 x1) (hu12 : slR tStr w ok u11 x2) (h : gemotlaw11_CutPuts.f x0 x1 x2 = some r) :
    Calls Try.prog 9 #[u1, u6, u11] w fun e w' => ∃ v, e = .returned v ∧ (v = .bool r ∧ Bel w.heap.size w w') := by
  have H : Eng.Own ok w w [] := Eng.Own.nil ok w
  obtain ⟨A3, c4, rfl, H⟩ := H.arg rfl hu2
  obtain ⟨A8, c9, rfl, H⟩ := H.arg rfl hu7
  obtain ⟨A13, c14, rfl, H⟩ := H.arg rfl hu12
  unfold gemotlaw11_CutPuts.f at h
  refine enterN (args := [.slice A3 x0.length c4, .slice A8 x1.length c9, .slice A13 x2.length c14]) Try.func9 rfl Try.ntmps9 rfl rfl ?_
  refine nc_seq ?_
  refine nc ?_
  refine nc_seq ?_
  refine nc ?_
  obtain ⟨y16, hy17, h⟩ := bindS h
  refine call_rule (by kernel_rfl) (gemotlaw11_shown_ok (ok := fun _ => False) hy17) fun v19 w18 ⟨hv20, hb21⟩ => ?_
  subst hv20
  replace H := H.call hb21
  refine nc_seq ?_
  refine nc ?_
  obtain ⟨y22, hy23, h⟩ := bindS h
  refine call_rule (by kernel_rfl) (gemotlaw11_shortLogs_ok (H.dat 2 rfl) hy23) fun v25 w24 ⟨hv26, hb27⟩ => ?_
  subst hv26
  replace H := H.call hb27
  refine nc_seq ?_
  refine nc ?_
  obtain ⟨y28, hy29, h⟩ := bindS h
  refine call_rule (by kernel_rfl) (gemotlaw11_asParts_ok (H.dat 1 rfl) hy29) fun v31 w30 ⟨u34, hv32, hu35, hb33⟩ => ?_
  subst hv32
  replace H := H.callDats hb33 [dSl t_gemotref11_Part u34 y28.1] ⟨hu35, trivial⟩
  obtain ⟨A36, c37, hA38, _⟩ := H.sl 0 rfl
  subst hA38
  refine nc_seq ?_
  refine nc_seq ?_
  refine nc ?_
  refine nc_cond rfl (fun hc40 => ?_) (fun hc40 => ?_)
  · replace h := condT hc40 h
    refine nc_seq ?_
    refine nc ?_
    refine nc ?_
    replace h := Option.some.inj h
    subst h
    exact ret_inA [.bool y16] ⟨_, rfl, ⟨rfl, H.frame⟩⟩
  · replace h := condF hc40 h
    refine nc ?_
    refine nc_seq ?_
    refine nc ?_
    refine nc_cut (fun e w174 => ∃ (A171 : Option Addr) (c172 : Nat) (cs173 : List Value) (v170 : List (List UInt8)), gemotlaw11_CutPuts.k4 x0 x1 x2 y28 v170 = some r ∧ e = [(0, .slice A3 x0.length c4), (1, .slice A8 x1.length c9), (2, .slice A13 x2.length c14), (9, .slice A36 y28.1.length c37), (11, .slice A171 v170.length c172)] ∧ Eng.Own ok w w174 [.dat (dSl t_cut_Log (.slice A3 x0.length c4) x0), .dat (dSl t_cut_Part (.slice A8 x1.length c9) x1), .dat (dSl tStr (.slice A13 x2.length c14) x2), .dat (dSl t_gemotref11_Part (.slice A36 y28.1.length c37) y28.1), .dat (dRows tStr v170 cs173), .row (.slice A171 v170.length c172) 62 1 v170.length cs173]) ?_ ?_
    · skip
      refine nc_seq ?_
      refine nc ?_
      refine nc_block ?_
      replace H := H.nilRowD tStr 62
      obtain ⟨o266, hL267, hO268⟩ := bindS h
      obtain ⟨n269, hL267⟩ := loopS hL267
      refine nc ?_
      refine loop_ruleA (fun k e w273 => ∃ (A203 : Option Addr) (c204 : Nat) (cs205 : List Value) (v202 : List (List UInt8)) (v206 : Int), iterM (fun s277 : (List (List UInt8)) × Int => gemotlaw11_CutPuts.b1 x0 x1 x2 y28 s277.1 s277.2) k (v202, v206) = some o266 ∧ e = [(0, .slice A3 x0.length c4), (1, .slice A8 x1.length c9), (2, .slice A13 x2.length c14), (9, .slice A36 y28.1.length c37), (11, .slice A203 v202.length c204), (12, .int .i64 v206)] ∧ Eng.Own ok w w273 [.dat (dSl t_cut_Log (.slice A3 x0.length c4) x0), .dat (dSl t_cut_Part (.slice A8 x1.length c9) x1), .dat (dSl tStr (.slice A13 x2.length c14) x2), .dat (dSl t_gemotref11_Part (.slice A36 y28.1.length c37) y28.1), .dat (dRows tStr v202 cs205), .row (.slice A203 v202.length c204) 62 1 v202.length cs205]) ⟨none, 0, [], _, _, hL267, rfl, H.pickL [5, 4, 3, 2, 0, 1] rfl⟩ ?_
      rintro k279 _ w278 ⟨A203, c204, cs205, v202, v206, hL267, rfl, H⟩
      obtain ⟨k272, rfl, q270, h, hq271⟩ := iterS hL267
      replace h : gemotlaw11_CutPuts.b1 x0 x1 x2 y28 v202 v206 = some q270 := h
      unfold gemotlaw11_CutPuts.b1 at h
      refine nc_seq ?_
      refine nc_seq ?_
      refine nc ?_
      refine nc_cond rfl (fun hc280 => ?_) (fun hc280 => ?_)
      · replace h := condT hc280 h
        refine nc ?_
        refine nc_seq ?_
        refine nc_block ?_
        refine nc_seq ?_
        refine nc_seq ?_
        refine nc ?_
        obtain ⟨y281, hx282, h⟩ := bindS h
        obtain ⟨a283, cs284, rfl, hR285, H⟩ := H.elemI 2 rfl hx282
        obtain rfl : cs284 = [.string (bs y281)] := hR285
        refine idxA_rule (e := 9) 1 _ (by kernel_rfl) (by kernel_rfl) (idxL_some hx282).1 (idxL_some hx282).2.1 ?_
        refine own_loadD H 0 rfl 0 (by kernel_rfl) rfl ?_
        refine nc_cond rfl (fun hc287 => ?_) (fun hc287 => ?_)
        · replace h := condT hc287 h
          refine nc_seq ?_
          refine nc ?_
          refine nc ?_
          cases h
          replace hq271 : (Sum.inr true) = o266 := hq271
          subst hq271
          have h := hO268
          try dsimp only [Sum.elim_inl, Sum.elim_inr] at h
          replace h := Option.some.inj h
          subst h
          exact ret_inA [.bool true] ⟨_, rfl, ⟨rfl, H.frame⟩⟩
        · replace h := condF hc287 h
          refine nc ?_
          refine nc ?_
          obtain ⟨y288, hx289, h⟩ := bindS h
          obtain ⟨cs291, hR292, H⟩ := H.elemJ 3 rfl hx289
          obtain rfl : cs291 = [.string (bs y288)] := hR292
          refine idxA_rule (e := 9) 1 _ (by kernel_rfl) (by kernel_rfl) (idxL_some hx289).1 (idxL_some hx289).2.1 ?_
          refine own_loadD H 0 rfl 0 (by kernel_rfl) rfl ?_
          refine own_buildSlice (e := 62) (sz := 1) (z := .string ⟨#[]⟩) (cs := [.string (bs y288)]) H (by kernel_rfl) (by kernel_rfl) (by kernel_rfl) rfl rfl rfl rfl fun g295 w296 H => ?_
          obtain ⟨hr297, h⟩ := roomS h
          refine own_append1 (k := tStr) (z := .string ⟨#[]⟩) (x := y288) 16 H 7 6 rfl rfl rfl rfl (by kernel_rfl) (by kernel_rfl) rfl rfl hr297 rfl fun z298 cs299 w300 H => ?_
          obtain ⟨A301, c302, rfl, _, _⟩ := H.rowSl 7 rfl
          refine nc ?_
          cases h
          exact again_inA ⟨A301, c302, cs299, _, _, hq271, rfl, H.pickL [2, 3, 4, 5, 6, 7] rfl⟩
      · replace h := condF hc280 h
        refine nc ?_
        cases h
        replace hq271 : (Sum.inl v202) = o266 := hq271
        subst hq271
        have h := hO268
        try dsimp only [Sum.elim_inl, Sum.elim_inr] at h
        exact cut_inA ⟨A203, c204, cs205, _, h, rfl, H.pickL [0, 1, 2, 3, 4, 5] rfl⟩
    · rintro _ w304 ⟨A171, c172, cs173, v170, h, rfl, H⟩
      unfold gemotlaw11_CutPuts.k4 at h
      refine nc_seq ?_
      refine nc ?_
      obtain ⟨y305, hy306, h⟩ := bindS h
      refine call_rule (by kernel_rfl) (cut_Put_ok (H.dat 0 rfl) hy306) fun v308 w307 ⟨u311, hv309, hu312, hb310⟩ => ?_
      subst hv309
      replace H := H.callDats hb310 [dSl tStr u311 y305.1] ⟨hu312, trivial⟩
      obtain ⟨A313, c314, hA315, _⟩ := H.sl 0 rfl
      subst hA315
      refine nc_seq ?_
      refine nc ?_
      obtain ⟨y317, hy318, h⟩ := bindS h
      refine call_rule (by kernel_rfl) (gemotlaw11_asLogs_ok (H.dat 1 rfl) hy318) fun u323 w319 ⟨hu324, hb322⟩ => ?_
      replace H := H.callDats hb322 [dSl t_gemotref11_Log u323 y317] ⟨(rowOut_sl hu324 hb322), trivial⟩
      obtain ⟨A325, c326, hA327, _⟩ := H.sl 0 rfl
      subst hA327
      obtain ⟨y329, hy330, h⟩ := bindS h
      refine call_rule (by kernel_rfl) (gemotref11_Put_ok (H.dat 0 rfl) hy330) fun v332 w331 ⟨u335, hv333, hu336, hb334⟩ => ?_
      subst hv333
      replace H := H.callDats hb334 [dSl tStr u335 y329.1] ⟨hu336, trivial⟩
      obtain ⟨A337, c338, hA339, _⟩ := H.sl 0 rfl
      subst hA339
      refine nc_seq ?_
      refine nc ?_
      obtain ⟨y341, hy342, h⟩ := bindS h
      refine call_rule (by kernel_rfl) (cut_Parts_ok (H.dat 4 rfl) hy342) fun v344 w343 ⟨u347, hv345, hu348, hb346⟩ => ?_
      subst hv345
      replace H := H.callDats hb346 [dSl tStr u347 y341.1] ⟨hu348, trivial⟩
      obtain ⟨A349, c350, hA351, _⟩ := H.sl 0 rfl
      subst hA351
      refine nc_seq ?_
      refine nc ?_
      obtain ⟨y353, hy354, h⟩ := bindS h
      refine call_rule (by kernel_rfl) (gemotref11_Parts_ok (H.dat 7 rfl) hy354) fun v356 w355 ⟨u359, hv357, hu360, hb358⟩ => ?_
      subst hv357
      replace H := H.callDats hb358 [dSl tStr u359 y353.1] ⟨hu360, trivial⟩
      obtain ⟨A361, c362, hA363, _⟩ := H.sl 0 rfl
      subst hA363
      refine nc_seq ?_
      refine nc_cut (fun e w410 => ∃ (v409 : Bool), gemotlaw11_CutPuts.k3 x2 v170 v409 = some r ∧ e = [(2, .slice A13 x2.length c14), (11, .slice A171 v170.length c172), (112, .bool v409)] ∧ Eng.Own ok w w410 [.dat (dSl tStr (.slice A13 x2.length c14) x2), .dat (dRows tStr v170 cs173), .row (.slice A171 v170.length c172) 62 1 v170.length cs173]) ?_ ?_
      · skip
        refine nc ?_
        obtain ⟨y412, hy413, h⟩ := bindS h
        refine call_rule (by kernel_rfl) (gemotlaw11_same_ok (H.dat 4 rfl) (H.dat 2 rfl) hy413) fun v415 w414 ⟨hv416, hb417⟩ => ?_
        subst hv416
        replace H := H.call hb417
        rcases Bool.eq_false_or_eq_true (cond (!y412) true (y305.2 != y329.2)) with hg418 | hg418
        · replace h := condT hg418 h
          refine call_skip (.bool false) (gF0 hg418) ?_
          exact cut_inA ⟨_, h, rfl, H.pickL [7, 9, 10] rfl⟩
        · replace h := condF hg418 h
          obtain ⟨y419, hy420, h⟩ := bindS h
          refine call_yes (gT0 hg418 rfl) (by kernel_rfl) (gemotlaw11_same_ok (H.dat 1 rfl) (H.dat 0 rfl) hy420) fun v422 w421 ⟨hv423, hb424⟩ => ?_
          subst hv423
          replace H := H.call hb424
          exact cut_inA ⟨_, h, rfl, H.pickL [7, 9, 10] rfl⟩
      · rintro _ w425 ⟨v409, h, rfl, H⟩
        unfold gemotlaw11_CutPuts.k3 at h
        refine nc_cond rfl (fun hc426 => ?_) (fun hc426 => ?_)
        · replace h := condT hc426 h
          refine nc_seq ?_
          refine nc ?_
          refine nc ?_
          replace h := Option.some.inj h
          subst h
          exact ret_inA [.bool false] ⟨_, rfl, ⟨rfl, H.frame⟩⟩
        · replace h := condF hc426 h
          refine nc ?_
          refine nc_seq ?_
          refine nc ?_
          replace H := H.freeze (k := tStr) 2 1 rfl rfl
          obtain ⟨y428, hy429, h⟩ := bindS h
          refine call_rule (by kernel_rfl) (cut_Take_ok (H.dat 2 rfl) hy429) fun v431 w430 ⟨u434, hv432, hu435, hb433⟩ => ?_
          subst hv432
          replace H := H.callDats hb433 [dSl t_cut_Log u434 y428.1] ⟨hu435, trivial⟩
          obtain ⟨A436, c437, hA438, _⟩ := H.sl 0 rfl
          subst hA438
          refine nc_seq ?_
          refine nc ?_
          obtain ⟨y440, hy441, h⟩ := bindS h
          refine call_rule (by kernel_rfl) (gemotref11_Take_ok (H.dat 1 rfl) hy441) fun v443 w442 ⟨u446, hv444, hu447, hb445⟩ => ?_
          subst hv444
          replace H := H.callDats hb445 [dSl t_gemotref11_Log u446 y440.1] ⟨hu447, trivial⟩
          obtain ⟨A448, c449, hA450, _⟩ := H.sl 0 rfl
          subst hA450
          refine nc_seq ?_
          refine nc ?_
          obtain ⟨y452, hy453, h⟩ := bindS h
          refine call_rule (by kernel_rfl) (cut_Unpart_ok (H.dat 4 rfl) hy453) fun v455 w454 ⟨u458, hv456, hu459, hb457⟩ => ?_
          subst hv456
          replace H := H.callDats hb457 [dSl t_cut_Part u458 y452.1] ⟨hu459, trivial⟩
          obtain ⟨A460, c461, hA462, _⟩ := H.sl 0 rfl
          subst hA462
          refine nc_seq ?_
          refine nc ?_
          obtain ⟨y464, hy465, h⟩ := bindS h
          refine call_rule (by kernel_rfl) (gemotref11_Unpart_ok (H.dat 3 rfl) hy465) fun v467 w466 ⟨u470, hv468, hu471, hb469⟩ => ?_
          subst hv468
          replace H := H.callDats hb469 [dSl t_gemotref11_Part u470 y464.1] ⟨hu471, trivial⟩
          obtain ⟨A472, c473, hA474, _⟩ := H.sl 0 rfl
          subst hA474
          refine nc_cut (fun e w490 => ∃ (v489 : Bool), gemotlaw11_CutPuts.k2 v489 = some r ∧ e = [(6, .bool v489)] ∧ Eng.Own ok w w490 []) ?_ ?_
          · skip
            refine nc ?_
            obtain ⟨y492, hy493, h⟩ := bindS h
            refine call_rule (by kernel_rfl) (gemotlaw11_sameLogs_ok (H.dat 3 rfl) (H.dat 2 rfl) hy493) fun v495 w494 ⟨hv496, hb497⟩ => ?_
            subst hv496
            replace H := H.call hb497
            rcases Bool.eq_false_or_eq_true (cond y492 (y428.2 == y440.2) false) with hg498 | hg498
            · replace h := condT hg498 h
              obtain ⟨y499, hy500, h⟩ := bindS h
              refine call_yes (gT1 hg498 rfl) (by kernel_rfl) (gemotlaw11_sameParts_ok (H.dat 1 rfl) (H.dat 0 rfl) hy500) fun v502 w501 ⟨hv503, hb504⟩ => ?_
              subst hv503
              replace H := H.call hb504
              exact cut_inA ⟨_, h, rfl, H.pickL [] rfl⟩
            · replace h := condF hg498 h
              refine call_skip (.bool false) (gF1 hg498) ?_
              exact cut_inA ⟨_, h, rfl, H.pickL [] rfl⟩
          · rintro _ w505 ⟨v489, h, rfl, H⟩
            unfold gemotlaw11_CutPuts.k2 at h
            refine nc ?_
            replace h := Option.some.inj h
            subst h
            exact ret_inA [.bool v489] ⟨_, rfl, ⟨rfl, H.frame⟩⟩
/-! gemot/gemotlaw11.CutBack -/
noncomputable def gemotlaw11_CutBack.b1 (x2 : List (List UInt8)) (v439 : List (List UInt8)) (v443 : Int) : Option (((List (List UInt8)) × Int) ⊕ ((List (List UInt8)) ⊕ Bool)) := cond (decide (v443 < (x2.length : Int))) ((idxL x2 v443).bind fun y518 => cond (decide ((y518.length : Int) > (1000 : Int))) (some (.inr (Sum.inr true))) ((idxL x2 v443).bind fun y525 => roomM 16 (v439.length + 1) (some (.inl ((v439 ++ [y525]), (IntKind.i64.wrap (v443 + (1 : Int)))))))) (some (.inr (Sum.inl v439)))
noncomputable def gemotlaw11_CutBack.k2 (v616 : Bool) : Option (Bool) := some v616
noncomputable def gemotlaw11_CutBack.k3 (x2 : List (List UInt8)) (v407 : List (List UInt8)) : Option (Bool) := (cut_Take.f v407).bind fun y543 => (cut_Put.f y543.1).bind fun y555 => (cut_Unpart.f v407).bind fun y567 => (cut_Parts.f y567.1).bind fun y579 => cond (cond (y543.2 != (0 : Int)) ((y543.1.length : Int) == (0 : Int)) false) (cond (cond (y567.2 != (0 : Int)) ((y567.1.length : Int) == (0 : Int)) false) (gemotlaw11_CutBack.k2 (cond (cond (cond (y543.2 != (0 : Int)) ((y543.1.length : Int) == (0 : Int)) false) true (cond (y555.2 == (0 : Int)) false false)) (cond (cond (y567.2 != (0 : Int)) ((y567.1.length : Int) == (0 : Int)) false) true (cond (y579.2 == (0 : Int)) false false)) false)) (cond (y579.2 == (0 : Int)) ((gemotlaw11_same.f y579.1 x2).bind fun y622 => gemotlaw11_CutBack.k2 (cond (cond (cond (y543.2 != (0 : Int)) ((y543.1.length : Int) == (0 : Int)) false) true (cond (y555.2 == (0 : Int)) false false)) (cond (cond (y567.2 != (0 : Int)) ((y567.1.length : Int) == (0 : Int)) false) true (cond (y579.2 == (0 : Int)) y622 false)) false)) (gemotlaw11_CutBack.k2 (cond (cond (cond (y543.2 != (0 : Int)) ((y543.1.length : Int) == (0 : Int)) false) true (cond (y555.2 == (0 : Int)) false false)) (cond (cond (y567.2 != (0 : Int)) ((y567.1.length : Int) == (0 : Int)) false) true (cond (y579.2 == (0 : Int)) false false)) false)))) (cond (y555.2 == (0 : Int)) ((gemotlaw11_same.f y555.1 x2).bind fun y629 => cond y629 (cond (cond (y567.2 != (0 : Int)) ((y567.1.length : Int) == (0 : Int)) false) (gemotlaw11_CutBack.k2 (cond (cond (cond (y543.2 != (0 : Int)) ((y543.1.length : Int) == (0 : Int)) false) true (cond (y555.2 == (0 : Int)) y629 false)) (cond (cond (y567.2 != (0 : Int)) ((y567.1.length : Int) == (0 : Int)) false) true (cond (y579.2 == (0 : Int)) false false)) false)) (cond (y579.2 == (0 : Int)) ((gemotlaw11_same.f y579.1 x2).bind fun y638 => gemotlaw11_CutBack.k2 (cond (cond (cond (y543.2 != (0 : Int)) ((y543.1.length : Int) == (0 : Int)) false) true (cond (y555.2 == (0 : Int)) y629 false)) (cond (cond (y567.2 != (0 : Int)) ((y567.1.length : Int) == (0 : Int)) false) true (cond (y579.2 == (0 : Int)) y638 false)) false)) (gemotlaw11_CutBack.k2 (cond (cond (cond (y543.2 != (0 : Int)) ((y543.1.length : Int) == (0 : Int)) false) true (cond (y555.2 == (0 : Int)) y629 false)) (cond (cond (y567.2 != (0 : Int)) ((y567.1.length : Int) == (0 : Int)) false) true (cond (y579.2 == (0 : Int)) false false)) false)))) (gemotlaw11_CutBack.k2 (cond (cond (cond (y543.2 != (0 : Int)) ((y543.1.length : Int) == (0 : Int)) false) true (cond (y555.2 == (0 : Int)) y629 false)) (cond (cond (y567.2 != (0 : Int)) ((y567.1.length : Int) == (0 : Int)) false) true (cond (y579.2 == (0 : Int)) false false)) false))) (gemotlaw11_CutBack.k2 (cond (cond (cond (y543.2 != (0 : Int)) ((y543.1.length : Int) == (0 : Int)) false) true (cond (y555.2 == (0 : Int)) false false)) (cond (cond (y567.2 != (0 : Int)) ((y567.1.length : Int) == (0 : Int)) false) true (cond (y579.2 == (0 : Int)) false false)) false)))
noncomputable def gemotlaw11_CutBack.k4 (x2 : List (List UInt8)) : Option (Bool) := (loopM (fun s514 : (List (List UInt8)) × Int => gemotlaw11_CutBack.b1 x2 s514.1 s514.2) (([] : List (List UInt8)), (0 : Int))).bind (Sum.elim (fun (o511 : (List (List UInt8))) => gemotlaw11_CutBack.k3 x2 o511) (fun (o512 : Bool) => some o512))
noncomputable def gemotlaw11_CutBack.k5 (x2 : List (List UInt8)) (v265 : Bool) : Option (Bool) := cond v265 (some false) (gemotlaw11_CutBack.k4 x2)
noncomputable def gemotlaw11_CutBack.k6 (x1 : List D_cut_Part) (x2 : List (List UInt8)) (y22 : (List D_gemotref11_Part) × Bool) : Option (Bool) := (cut_Parts.f x1).bind fun y199 => cond (y199.2 == (0 : Int)) ((cut_Unpart.f y199.1).bind fun y246 => cond (y246.2 != (0 : Int)) (gemotlaw11_CutBack.k5 x2 (cond (y246.2 != (0 : Int)) true (!false))) ((gemotlaw11_sameParts.f y246.1 y22.1).bind fun y269 => gemotlaw11_CutBack.k5 x2 (cond (y246.2 != (0 : Int)) true (!y269)))) (gemotlaw11_CutBack.k4 x2)
noncomputable def gemotlaw11_CutBack.k7 (x1 : List D_cut_Part) (x2 : List (List UInt8)) (y22 : (List D_gemotref11_Part) × Bool) (v174 : Bool) : Option (Bool) := cond v174 (some false) (gemotlaw11_CutBack.k6 x1 x2 y22)
noncomputable def gemotlaw11_CutBack.k8 (x0 : List D_cut_Log) (x1 : List D_cut_Part) (x2 : List (List UInt8)) (y16 : Bool) (y22 : (List D_gemotref11_Part) × Bool) (v60 : Bool) : Option (Bool) := cond v60 (some y16) ((cut_Put.f x0).bind fun y72 => cond (y72.2 == (0 : Int)) ((cut_Take.f y72.1).bind fun y143 => cond (y143.2 != (0 : Int)) (gemotlaw11_CutBack.k7 x1 x2 y22 (cond (y143.2 != (0 : Int)) true (!false))) ((gemotlaw11_asLogs.f x0).bind fun y178 => (gemotlaw11_sameLogs.f y143.1 y178).bind fun y190 => gemotlaw11_CutBack.k7 x1 x2 y22 (cond (y143.2 != (0 : Int)) true (!y190)))) (gemotlaw11_CutBack.k6 x1 x2 y22))
noncomputable def gemotlaw11_CutBack.f (x0 : List D_cut_Log) (x1 : List D_cut_Part) (x2 : List (List UInt8)) : Option (Bool) := (gemotlaw11_shown.f).bind fun y16 => (gemotlaw11_asParts.f x1).bind fun y22 => cond (!y16) (gemotlaw11_CutBack.k8 x0 x1 x2 y16 y22 (cond (cond (cond (!y16) true (!false)) true (!y22.2)) true (decide ((x2.length : Int) > (20 : Int))))) ((gemotlaw11_shortLogs.f x0).bind fun y64 => gemotlaw11_CutBack.k8 x0 x1 x2 y16 y22 (cond (cond (cond (!y16) true (!y64)) true (!y22.2)) true (decide ((x2.length : Int) > (20 : Int)))))
set_option maxHeartbeats 4000000 in
theorem gemotlaw11_CutBack_ok {ok : Nat → Prop} {w : World} {u1 u6 u11 : Value} {x0 : List D_cut_Log} {x1 : List D_cut_Part} {x2 : List (List UInt8)} {r : Bool} (hu2 : slR t_cut_Log w ok u1 x0) (hu7 : slR t_cut_Part w ok u6 x1) (hu12 : slR tStr w ok u11 x2) (h : gemotlaw11_CutBack.f x0 x1 x2 = some r) :
    Calls Try.prog 10 #[u1, u6, u11] w fun e w' => ∃ v, e = .returned v ∧ (v = .bool r ∧ Bel w.heap.size w w') := by
  have H : Eng.Own ok w w [] := Eng.Own.nil ok w
  obtain ⟨A3, c4, rfl, H⟩ := H.arg rfl hu2
  obtain ⟨A8, c9, rfl, H⟩ := H.arg rfl hu7
  obtain ⟨A13, c14, rfl, H⟩ := H.arg rfl hu12
  unfold gemotlaw11_CutBack.f at h
  refine enterN (args := [.slice A3 x0.length c4, .slice A8 x1.length c9, .slice A13 x2.length c14]) Try.func10 rfl Try.ntmps10 rfl rfl ?_
  refine nc_seq ?_
  refine nc ?_
  refine nc_seq ?_
  refine nc ?_
  obtain ⟨y16, hy17, h⟩ := bindS h
  refine call_rule (by kernel_rfl) (gemotlaw11_shown_ok (ok := fun _ => False) hy17) fun v19 w18 ⟨hv20, hb21⟩ => ?_
  subst hv20
  replace H := H.call hb21
  refine nc_seq ?_
  refine nc ?_
  obtain ⟨y22, hy23, h⟩ := bindS h
  refine call_rule (by kernel_rfl) (gemotlaw11_asParts_ok (H.dat 1 rfl) hy23) fun v25 w24 ⟨u28, hv26, hu29, hb27⟩ => ?_
  subst hv26
  replace H := H.callDats hb27 [dSl t_gemotref11_Part u28 y22.1] ⟨hu29, trivial⟩
  obtain ⟨A30, c31, hA32, _⟩ := H.sl 0 rfl
  subst hA32
  refine nc_seq ?_
  refine nc_cut (fun e w61 => ∃ (v60 : Bool), gemotlaw11_CutBack.k8 x0 x1 x2 y16 y22 v60 = some r ∧ e = [(0, .slice A3 x0.length c4), (1, .slice A8 x1.length c9), (2, .slice A13 x2.length c14), (7, .bool y16), (8, .slice A30 y22.1.length c31), (49, .bool v60)] ∧ Eng.Own ok w w61 [.dat (dSl t_cut_Log (.slice A3 x0.length c4) x0), .dat (dSl t_cut_Part (.slice A8 x1.length c9) x1), .dat (dSl tStr (.slice A13 x2.length c14) x2), .dat (dSl t_gemotref11_Part (.slice A30 y22.1.length c31) y22.1)]) ?_ ?_
  · skip
    refine nc ?_
    rcases Bool.eq_false_or_eq_true (!y16) with hg63 | hg63
    · replace h := condT hg63 h
      refine call_skip (.bool false) (gF0 hg63) ?_
      exact cut_inA ⟨_, h, rfl, H.pickL [3, 2, 1, 0] rfl⟩
    · replace h := condF hg63 h
      obtain ⟨y64, hy65, h⟩ := bindS h
      refine call_yes (gT0 hg63 rfl) (by kernel_rfl) (gemotlaw11_shortLogs_ok (H.dat 3 rfl) hy65) fun v67 w66 ⟨hv68, hb69⟩ => ?_
      subst hv68
      replace H := H.call hb69
      exact cut_inA ⟨_, h, rfl, H.pickL [3, 2, 1, 0] rfl⟩
  · rintro _ w70 ⟨v60, h, rfl, H⟩
    unfold gemotlaw11_CutBack.k8 at h
    refine nc_cond rfl (fun hc71 => ?_) (fun hc71 => ?_)
    · replace h := condT hc71 h
      refine nc_seq ?_
      refine nc ?_
      refine nc ?_
      replace h := Option.some.inj h
      subst h
      exact ret_inA [.bool y16] ⟨_, rfl, ⟨rfl, H.frame⟩⟩
    · replace h := condF hc71 h
      refine nc ?_
      refine nc_seq ?_
      refine nc ?_
      obtain ⟨y72, hy73, h⟩ := bindS h
      refine call_rule (by kernel_rfl) (cut_Put_ok (H.dat 0 rfl) hy73) fun v75 w74 ⟨u78, hv76, hu79, hb77⟩ => ?_
      subst hv76
      replace H := H.callDats hb77 [dSl tStr u78 y72.1] ⟨hu79, trivial⟩
      obtain ⟨A80, c81, hA82, _⟩ := H.sl 0 rfl
      subst hA82
      refine nc_cut (fun e w140 => gemotlaw11_CutBack.k6 x1 x2 y22 = some r ∧ e = [(1, .slice A8 x1.length c9), (2, .slice A13 x2.length c14), (8, .slice A30 y22.1.length c31)] ∧ Eng.Own ok w w140 [.dat (dSl t_cut_Part (.slice A8 x1.length c9) x1), .dat (dSl tStr (.slice A13 x2.length c14) x2), .dat (dSl t_gemotref11_Part (.slice A30 y22.1.length c31) y22.1)]) ?_ ?_
      · skip
        refine nc_seq ?_
        refine nc ?_
        refine nc_cond rfl (fun hc142 => ?_) (fun hc142 => ?_)
        · replace h := condT hc142 h
          refine nc_seq ?_
          refine nc ?_
          obtain ⟨y143, hy144, h⟩ := bindS h
          refine call_rule (by kernel_rfl) (cut_Take_ok (H.dat 0 rfl) hy144) fun v146 w145 ⟨u149, hv147, hu150, hb148⟩ => ?_
          subst hv147
          replace H := H.callDats hb148 [dSl t_cut_Log u149 y143.1] ⟨hu150, trivial⟩
          obtain ⟨A151, c152, hA153, _⟩ := H.sl 0 rfl
          subst hA153
          refine nc_cut (fun e w175 => ∃ (v174 : Bool), gemotlaw11_CutBack.k7 x1 x2 y22 v174 = some r ∧ e = [(1, .slice A8 x1.length c9), (2, .slice A13 x2.length c14), (8, .slice A30 y22.1.length c31), (71, .bool v174)] ∧ Eng.Own ok w w175 [.dat (dSl t_cut_Part (.slice A8 x1.length c9) x1), .dat (dSl tStr (.slice A13 x2.length c14) x2), .dat (dSl t_gemotref11_Part (.slice A30 y22.1.length c31) y22.1)]) ?_ ?_
          · skip
            refine nc ?_
            rcases Bool.eq_false_or_eq_true (y143.2 != (0 : Int)) with hg177 | hg177
            · replace h := condT hg177 h
              refine call_skip (.slice none 0 0) (gF0 hg177) ?_
              refine call_skip (.bool false) (gF0 hg177) ?_
              exact cut_inA ⟨_, h, rfl, H.pickL [3, 4, 5] rfl⟩
            · replace h := condF hg177 h
              obtain ⟨y178, hy179, h⟩ := bindS h
              refine call_yes (gT0 hg177 rfl) (by kernel_rfl) (gemotlaw11_asLogs_ok (H.dat 2 rfl) hy179) fun u184 w180 ⟨hu185, hb183⟩ => ?_
              replace H := H.callDats hb183 [dSl t_gemotref11_Log u184 y178] ⟨(rowOut_sl hu185 hb183), trivial⟩
              obtain ⟨A186, c187, hA188, _⟩ := H.sl 0 rfl
              subst hA188
              obtain ⟨y190, hy191, h⟩ := bindS h
              refine call_yes (gT0 hg177 rfl) (by kernel_rfl) (gemotlaw11_sameLogs_ok (H.dat 1 rfl) (H.dat 0 rfl) hy191) fun v193 w192 ⟨hv194, hb195⟩ => ?_
              subst hv194
              replace H := H.call hb195
              exact cut_inA ⟨_, h, rfl, H.pickL [4, 5, 6] rfl⟩
          · rintro _ w196 ⟨v174, h, rfl, H⟩
            unfold gemotlaw11_CutBack.k7 at h
            refine nc_cond rfl (fun hc197 => ?_) (fun hc197 => ?_)
            · replace h := condT hc197 h
              refine nc_seq ?_
              refine nc ?_
              refine nc ?_
              replace h := Option.some.inj h
              subst h
              exact ret_inA [.bool false] ⟨_, rfl, ⟨rfl, H.frame⟩⟩
            · replace h := condF hc197 h
              refine nc ?_
              exact cut_inA ⟨h, rfl, H.pickL [0, 1, 2] rfl⟩
        · replace h := condF hc142 h
          refine nc ?_
          exact cut_inA ⟨h, rfl, H.pickL [2, 3, 4] rfl⟩
      · rintro _ w198 ⟨h, rfl, H⟩
        unfold gemotlaw11_CutBack.k6 at h
        refine nc_seq ?_
        refine nc ?_
        obtain ⟨y199, hy200, h⟩ := bindS h
        refine call_rule (by kernel_rfl) (cut_Parts_ok (H.dat 0 rfl) hy200) fun v202 w201 ⟨u205, hv203, hu206, hb204⟩ => ?_
        subst hv203
        replace H := H.callDats hb204 [dSl tStr u205 y199.1] ⟨hu206, trivial⟩
        obtain ⟨A207, c208, hA209, _⟩ := H.sl 0 rfl
        subst hA209
        refine nc_cut (fun e w243 => gemotlaw11_CutBack.k4 x2 = some r ∧ e = [(2, .slice A13 x2.length c14)] ∧ Eng.Own ok w w243 [.dat (dSl tStr (.slice A13 x2.length c14) x2)]) ?_ ?_
        · skip
          refine nc_seq ?_
          refine nc ?_
          refine nc_cond rfl (fun hc245 => ?_) (fun hc245 => ?_)
          · replace h := condT hc245 h
            refine nc_seq ?_
            refine nc ?_
            obtain ⟨y246, hy247, h⟩ := bindS h
            refine call_rule (by kernel_rfl) (cut_Unpart_ok (H.dat 0 rfl) hy247) fun v249 w248 ⟨u252, hv250, hu253, hb251⟩ => ?_
            subst hv250
            replace H := H.callDats hb251 [dSl t_cut_Part u252 y246.1] ⟨hu253, trivial⟩
            obtain ⟨A254, c255, hA256, _⟩ := H.sl 0 rfl
            subst hA256
            refine nc_cut (fun e w266 => ∃ (v265 : Bool), gemotlaw11_CutBack.k5 x2 v265 = some r ∧ e = [(2, .slice A13 x2.length c14), (91, .bool v265)] ∧ Eng.Own ok w w266 [.dat (dSl tStr (.slice A13 x2.length c14) x2)]) ?_ ?_
            · skip
              refine nc ?_
              rcases Bool.eq_false_or_eq_true (y246.2 != (0 : Int)) with hg268 | hg268
              · replace h := condT hg268 h
                refine call_skip (.bool false) (gF0 hg268) ?_
                exact cut_inA ⟨_, h, rfl, H.pickL [3] rfl⟩
              · replace h := condF hg268 h
                obtain ⟨y269, hy270, h⟩ := bindS h
                refine call_yes (gT0 hg268 rfl) (by kernel_rfl) (gemotlaw11_sameParts_ok (H.dat 0 rfl) (H.dat 4 rfl) hy270) fun v272 w271 ⟨hv273, hb274⟩ => ?_
                subst hv273
                replace H := H.call hb274
                exact cut_inA ⟨_, h, rfl, H.pickL [3] rfl⟩
            · rintro _ w275 ⟨v265, h, rfl, H⟩
              unfold gemotlaw11_CutBack.k5 at h
              refine nc_cond rfl (fun hc276 => ?_) (fun hc276 => ?_)
              · replace h := condT hc276 h
                refine nc_seq ?_
                refine nc ?_
                refine nc ?_
                replace h := Option.some.inj h
                subst h
                exact ret_inA [.bool false] ⟨_, rfl, ⟨rfl, H.frame⟩⟩
              · replace h := condF hc276 h
                refine nc ?_
                exact cut_inA ⟨h, rfl, H.pickL [0] rfl⟩
          · replace h := condF hc245 h
            refine nc ?_
            exact cut_inA ⟨h, rfl, H.pickL [2] rfl⟩
        · rintro _ w277 ⟨h, rfl, H⟩
          unfold gemotlaw11_CutBack.k4 at h
          refine nc_seq ?_
          refine nc ?_
          refine nc_cut (fun e w411 => ∃ (A408 : Option Addr) (c409 : Nat) (cs410 : List Value) (v407 : List (List UInt8)), gemotlaw11_CutBack.k3 x2 v407 = some r ∧ e = [(2, .slice A13 x2.length c14), (18, .slice A408 v407.length c409)] ∧ Eng.Own ok w w411 [.dat (dSl tStr (.slice A13 x2.length c14) x2), .dat (dRows tStr v407 cs410), .row (.slice A408 v407.length c409) 62 1 v407.length cs410]) ?_ ?_
          · skip
            refine nc_seq ?_
            refine nc ?_
            refine nc_block ?_
            replace H := H.nilRowD tStr 62
            obtain ⟨o503, hL504, hO505⟩ := bindS h
            obtain ⟨n506, hL504⟩ := loopS hL504
            refine nc ?_
            refine loop_ruleA (fun k e w510 => ∃ (A440 : Option Addr) (c441 : Nat) (cs442 : List Value) (v439 : List (List UInt8)) (v443 : Int), iterM (fun s514 : (List (List UInt8)) × Int => gemotlaw11_CutBack.b1 x2 s514.1 s514.2) k (v439, v443) = some o503 ∧ e = [(2, .slice A13 x2.length c14), (18, .slice A440 v439.length c441), (19, .int .i64 v443)] ∧ Eng.Own ok w w510 [.dat (dSl tStr (.slice A13 x2.length c14) x2), .dat (dRows tStr v439 cs442), .row (.slice A440 v439.length c441) 62 1 v439.length cs442]) ⟨none, 0, [], _, _, hL504, rfl, H.pickL [2, 0, 1] rfl⟩ ?_
            rintro k516 _ w515 ⟨A440, c441, cs442, v439, v443, hL504, rfl, H⟩
            obtain ⟨k509, rfl, q507, h, hq508⟩ := iterS hL504
            replace h : gemotlaw11_CutBack.b1 x2 v439 v443 = some q507 := h
            unfold gemotlaw11_CutBack.b1 at h
            refine nc_seq ?_
            refine nc_seq ?_
            refine nc ?_
            refine nc_cond rfl (fun hc517 => ?_) (fun hc517 => ?_)
            · replace h := condT hc517 h
              refine nc ?_
              refine nc_seq ?_
              refine nc_block ?_
              refine nc_seq ?_
              refine nc_seq ?_
              refine nc ?_
              obtain ⟨y518, hx519, h⟩ := bindS h
              obtain ⟨a520, cs521, rfl, hR522, H⟩ := H.elemI 0 rfl hx519
              obtain rfl : cs521 = [.string (bs y518)] := hR522
              refine idxA_rule (e := 9) 1 _ (by kernel_rfl) (by kernel_rfl) (idxL_some hx519).1 (idxL_some hx519).2.1 ?_
              refine own_loadD H 0 rfl 0 (by kernel_rfl) rfl ?_
              refine nc_cond rfl (fun hc524 => ?_) (fun hc524 => ?_)
              · replace h := condT hc524 h
                refine nc_seq ?_
                refine nc ?_
                refine nc ?_
                cases h
                replace hq508 : (Sum.inr true) = o503 := hq508
                subst hq508
                have h := hO505
                try dsimp only [Sum.elim_inl, Sum.elim_inr] at h
                replace h := Option.some.inj h
                subst h
                exact ret_inA [.bool true] ⟨_, rfl, ⟨rfl, H.frame⟩⟩
              · replace h := condF hc524 h
                refine nc ?_
                refine nc ?_
                obtain ⟨y525, hx526, h⟩ := bindS h
                obtain ⟨cs528, hR529, H⟩ := H.elemJ 1 rfl hx526
                obtain rfl : cs528 = [.string (bs y525)] := hR529
                refine idxA_rule (e := 9) 1 _ (by kernel_rfl) (by kernel_rfl) (idxL_some hx526).1 (idxL_some hx526).2.1 ?_
                refine own_loadD H 0 rfl 0 (by kernel_rfl) rfl ?_
                refine own_buildSlice (e := 62) (sz := 1) (z := .string ⟨#[]⟩) (cs := [.string (bs y525)]) H (by kernel_rfl) (by kernel_rfl) (by kernel_rfl) rfl rfl rfl rfl fun g532 w533 H => ?_
                obtain ⟨hr534, h⟩ := roomS h
                refine own_append1 (k := tStr) (z := .string ⟨#[]⟩) (x := y525) 16 H 4 3 rfl rfl rfl rfl (by kernel_rfl) (by kernel_rfl) rfl rfl hr534 rfl fun z535 cs536 w537 H => ?_
                obtain ⟨A538, c539, rfl, _, _⟩ := H.rowSl 4 rfl
                refine nc ?_
                cases h
                exact again_inA ⟨A538, c539, cs536, _, _, hq508, rfl, H.pickL [2, 3, 4] rfl⟩
            · replace h := condF hc517 h
              refine nc ?_
              cases h
              replace hq508 : (Sum.inl v439) = o503 := hq508
              subst hq508
              have h := hO505
              try dsimp only [Sum.elim_inl, Sum.elim_inr] at h
              exact cut_inA ⟨A440, c441, cs442, _, h, rfl, H.pickL [0, 1, 2] rfl⟩
          · rintro _ w541 ⟨A408, c409, cs410, v407, h, rfl, H⟩
            unfold gemotlaw11_CutBack.k3 at h
            refine nc_seq ?_
            refine nc ?_
            replace H := H.freeze (k := tStr) 2 1 rfl rfl
            obtain ⟨y543, hy544, h⟩ := bindS h
            refine call_rule (by kernel_rfl) (cut_Take_ok (H.dat 2 rfl) hy544) fun v546 w545 ⟨u549, hv547, hu550, hb548⟩ => ?_
            subst hv547
            replace H := H.callDats hb548 [dSl t_cut_Log u549 y543.1] ⟨hu550, trivial⟩
            obtain ⟨A551, c552, hA553, _⟩ := H.sl 0 rfl
            subst hA553
            refine nc_seq ?_
            refine nc ?_
            obtain ⟨y555, hy556, h⟩ := bindS h
            refine call_rule (by kernel_rfl) (cut_Put_ok (H.dat 0 rfl) hy556) fun v558 w557 ⟨u561, hv559, hu562, hb560⟩ => ?_
            subst hv559
            replace H := H.callDats hb560 [dSl tStr u561 y555.1] ⟨hu562, trivial⟩
            obtain ⟨A563, c564, hA565, _⟩ := H.sl 0 rfl
            subst hA565
            refine nc_seq ?_
            refine nc ?_
            obtain ⟨y567, hy568, h⟩ := bindS h
            refine call_rule (by kernel_rfl) (cut_Unpart_ok (H.dat 4 rfl) hy568) fun v570 w569 ⟨u573, hv571, hu574, hb572⟩ => ?_
            subst hv571
            replace H := H.callDats hb572 [dSl t_cut_Part u573 y567.1] ⟨hu574, trivial⟩
            obtain ⟨A575, c576, hA577, _⟩ := H.sl 0 rfl
            subst hA577
            refine nc_seq ?_
            refine nc ?_
            obtain ⟨y579, hy580, h⟩ := bindS h
            refine call_rule (by kernel_rfl) (cut_Parts_ok (H.dat 0 rfl) hy580) fun v582 w581 ⟨u585, hv583, hu586, hb584⟩ => ?_
            subst hv583
            replace H := H.callDats hb584 [dSl tStr u585 y579.1] ⟨hu586, trivial⟩
            obtain ⟨A587, c588, hA589, _⟩ := H.sl 0 rfl
            subst hA589
            refine nc_cut (fun e w617 => ∃ (v616 : Bool), gemotlaw11_CutBack.k2 v616 = some r ∧ e = [(6, .bool v616)] ∧ Eng.Own ok w w617 []) ?_ ?_
            · skip
              refine nc ?_
              rcases Bool.eq_false_or_eq_true (cond (y543.2 != (0 : Int)) ((y543.1.length : Int) == (0 : Int)) false) with hg619 | hg619
              · replace h := condT hg619 h
                refine call_skip (.bool false) (by first | exact gFr (gF0 hg619) | exact (gF0 hg619) | rfl) ?_
                rcases Bool.eq_false_or_eq_true (cond (y567.2 != (0 : Int)) ((y567.1.length : Int) == (0 : Int)) false) with hg620 | hg620
                · replace h := condT hg620 h
                  refine call_skip (.bool false) (by first | exact gFr (gF0 hg620) | exact (gF0 hg620) | rfl) ?_
                  exact cut_inA ⟨_, h, rfl, H.pickL [] rfl⟩
                · replace h := condF hg620 h
                  rcases Bool.eq_false_or_eq_true (y579.2 == (0 : Int)) with hg621 | hg621
                  · replace h := condT hg621 h
                    obtain ⟨y622, hy623, h⟩ := bindS h
                    refine call_yes (gT1 hg621 (gT0 hg620 (gT1 (pickT hg619) rfl))) (by kernel_rfl) (gemotlaw11_same_ok (H.dat 0 rfl) (H.dat 4 rfl) hy623) fun v625 w624 ⟨hv626, hb627⟩ => ?_
                    subst hv626
                    replace H := H.call hb627
                    exact cut_inA ⟨_, h, rfl, H.pickL [] rfl⟩
                  · replace h := condF hg621 h
                    refine call_skip (.bool false) (gF1 hg621) ?_
                    exact cut_inA ⟨_, h, rfl, H.pickL [] rfl⟩
              · replace h := condF hg619 h
                rcases Bool.eq_false_or_eq_true (y555.2 == (0 : Int)) with hg628 | hg628
                · replace h := condT hg628 h
                  obtain ⟨y629, hy630, h⟩ := bindS h
                  refine call_yes (gT1 hg628 (gT0 hg619 rfl)) (by kernel_rfl) (gemotlaw11_same_ok (H.dat 2 rfl) (H.dat 4 rfl) hy630) fun v632 w631 ⟨hv633, hb634⟩ => ?_
                  subst hv633
                  replace H := H.call hb634
                  rcases Bool.eq_false_or_eq_true y629 with hg635 | hg635
                  · replace h := condT hg635 h
                    rcases Bool.eq_false_or_eq_true (cond (y567.2 != (0 : Int)) ((y567.1.length : Int) == (0 : Int)) false) with hg636 | hg636
                    · replace h := condT hg636 h
                      refine call_skip (.bool false) (by first | exact gFr (gF0 hg636) | exact (gF0 hg636) | rfl) ?_
                      exact cut_inA ⟨_, h, rfl, H.pickL [] rfl⟩
                    · replace h := condF hg636 h
                      rcases Bool.eq_false_or_eq_true (y579.2 == (0 : Int)) with hg637 | hg637
                      · replace h := condT hg637 h
                        obtain ⟨y638, hy639, h⟩ := bindS h
                        refine call_yes (gT1 hg637 (gT0 hg636 (gT1 (((pickF hg619).trans (pickT hg628)).trans hg635) rfl))) (by kernel_rfl) (gemotlaw11_same_ok (H.dat 0 rfl) (H.dat 4 rfl) hy639) fun v641 w640 ⟨hv642, hb643⟩ => ?_
                        subst hv642
                        replace H := H.call hb643
                        exact cut_inA ⟨_, h, rfl, H.pickL [] rfl⟩
                      · replace h := condF hg637 h
                        refine call_skip (.bool false) (gF1 hg637) ?_
                        exact cut_inA ⟨_, h, rfl, H.pickL [] rfl⟩
                  · replace h := condF hg635 h
                    refine call_skip (.bool false) (by first | exact gFr (by first | exact gFr (gF1 (((pickF hg619).trans (pickT hg628)).trans hg635)) | exact (gF1 (((pickF hg619).trans (pickT hg628)).trans hg635)) | rfl) | exact (by first | exact gFr (gF1 (((pickF hg619).trans (pickT hg628)).trans hg635)) | exact (gF1 (((pickF hg619).trans (pickT hg628)).trans hg635)) | rfl) | rfl) ?_
                    exact cut_inA ⟨_, h, rfl, H.pickL [] rfl⟩
                · replace h := condF hg628 h
                  refine call_skip (.bool false) (gF1 hg628) ?_
                  refine call_skip (.bool false) (by first | exact gFr (by first | exact gFr (gF1 ((pickF hg619).trans (pickF hg628))) | exact (gF1 ((pickF hg619).trans (pickF hg628))) | rfl) | exact (by first | exact gFr (gF1 ((pickF hg619).trans (pickF hg628))) | exact (gF1 ((pickF hg619).trans (pickF hg628))) | rfl) | rfl) ?_
                  exact cut_inA ⟨_, h, rfl, H.pickL [] rfl⟩
            · rintro _ w644 ⟨v616, h, rfl, H⟩
              unfold gemotlaw11_CutBack.k2 at h
              refine nc ?_
              replace h := Option.some.inj h
              subst h
              exact ret_inA [.bool v616] ⟨_, rfl, ⟨rfl, H.frame⟩⟩
end Go.Proofs.Ytgomlcfoifkdiaa.G
