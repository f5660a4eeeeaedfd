/- Walks, printed by a program of this proof's own. -/
import Derived.Test.YtfapphlhkfddoaaGreatDoorHK
import Derived.KernelRfl
namespace Go.Proofs.YtfapphlhkfddoaaGreatDoor.G
open Go.RowKit Go.Eng Go.Proofs
set_option linter.unusedVariables false
set_option maxRecDepth 20000
/-! gemot/gemotlaw15.BlindApart -/
noncomputable def gemotlaw15_BlindApart.f (x0 : List Int) (x1 : Int) (x2 : Int) (x3 : Int) (x4 : Int) : Option (Bool) := (gemotlaw15_shown.f).bind fun y6 => cond (!y6) (some false) ((gemotlaw15_made.f x0).bind fun y13 => (tree_Members.f y13).bind fun y19 => (gemotlaw15_secrets.f (y19.length : Int) x1).bind fun y31 => (blind_Root.f y13 y31).bind fun y43 => (gemotlaw15_secrets.f (y19.length : Int) x2).bind fun y49 => (blind_Root.f y13 y49).bind fun y61 => (gemotlaw15_pick.f x3 (100 : Int)).bind fun y67 => (idxL y19 (0 : Int)).bind fun y73 => (gemotlaw15_pick.f x4 (100 : Int)).bind fun y88 => (blind_Group.f ((y67, y73), y19) y43.1).bind fun y95 => (blind_Group.f ((y88, y73), y19) y43.1).bind fun y101 => (blind_Group.f ((y67, y73), y19) y61.1).bind fun y107 => some (cond (cond (cond (cond (cond (cond (cond (cond (y43.2 == (0 : Int)) (y61.2 == (0 : Int)) false) (y95.2 == (0 : Int)) false) (y101.2 == (0 : Int)) false) (y107.2 == (0 : Int)) false) ((strEq y43.1 y61.1) == (x1 == x2)) false) ((strEq y95.1 y101.1) == ((y67 == y88) && (y73 == y73))) false) ((strEq y95.1 y107.1) == (strEq y43.1 y61.1)) false) (!(strEq y95.1 y43.1)) false))
set_option maxHeartbeats 4000000 in
theorem gemotlaw15_BlindApart_ok {ok : Nat → Prop} {w : World} {u1 : Value} {x0 : List Int} {x1 : Int} {x2 : Int} {x3 : Int} {x4 : Int} {r : Bool} (hu2 : slR (tInt .i64) w ok u1 x0) (h : gemotlaw15_BlindApart.f x0 x1 x2 x3 x4 = some r) :
    Calls Tryz.prog 3 #[u1, .int .u64 x1, .int .u64 x2, .int .i64 x3, .int .i64 x4] w fun e w' => ∃ v, e = .returned v ∧ (v = .bool r ∧ Bel w.heap.size w w') := by
  have H : Eng.Own ok w w [] := Eng.Own.nil ok w
  obtain ⟨A3, c4, rfl, H⟩ := H.arg rfl hu2
  unfold gemotlaw15_BlindApart.f at h
  refine enterN (args := [.slice A3 x0.length c4, .int .u64 x1, .int .u64 x2, .int .i64 x3, .int .i64 x4]) Tryz.func3 rfl Tryz.ntmps3 rfl rfl ?_
  refine nc_seq ?_
  refine nc ?_
  refine nc_seq ?_
  refine nc ?_
  obtain ⟨y6, hy7, h⟩ := bindS h
  refine call_rule (by kernel_rfl) (gemotlaw15_shown_ok (ok := fun _ => False) hy7) fun v9 w8 ⟨hv10, hb11⟩ => ?_
  subst hv10
  replace H := H.call hb11
  refine nc_seq ?_
  refine nc_seq ?_
  refine nc ?_
  refine nc_cond rfl (fun hc12 => ?_) (fun hc12 => ?_)
  · replace h := condT hc12 h
    refine nc_seq ?_
    refine nc ?_
    refine nc ?_
    replace h := Option.some.inj h
    subst h
    exact ret_inA [.bool false] ⟨_, rfl, ⟨rfl, H.frame⟩⟩
  · replace h := condF hc12 h
    refine nc ?_
    refine nc_seq ?_
    refine nc ?_
    obtain ⟨y13, hy14, h⟩ := bindS h
    refine call_rule (by kernel_rfl) (gemotlaw15_made_ok (H.dat 0 rfl) hy14) fun v16 w15 ⟨hv17, hb18⟩ => ?_
    subst hv17
    replace H := H.call hb18
    refine nc_seq ?_
    refine nc ?_
    obtain ⟨y19, hy20, h⟩ := bindS h
    refine call_rule (by kernel_rfl) (tree_Members_ok (ok := fun _ => False) hy20) fun u25 w21 ⟨hu26, hb24⟩ => ?_
    replace H := H.callDats hb24 [dSl (tInt .i64) u25 y19] ⟨(slR_any hu26), trivial⟩
    obtain ⟨A27, c28, hA29, _⟩ := H.sl 0 rfl
    subst hA29
    refine nc_seq ?_
    refine nc ?_
    obtain ⟨y31, hy32, h⟩ := bindS h
    refine call_rule (by kernel_rfl) (gemotlaw15_secrets_ok (ok := fun _ => False) hy32) fun u37 w33 ⟨hu38, hb36⟩ => ?_
    replace H := H.callDats hb36 [dSl tStr u37 y31] ⟨(rowOut_sl (rowOut_any hu38) hb36), trivial⟩
    obtain ⟨A39, c40, hA41, _⟩ := H.sl 0 rfl
    subst hA41
    obtain ⟨y43, hy44, h⟩ := bindS h
    refine call_rule (by kernel_rfl) (blind_Root_ok (H.dat 0 rfl) hy44) fun v46 w45 ⟨hv47, hb48⟩ => ?_
    subst hv47
    replace H := H.call hb48
    refine nc_seq ?_
    refine nc ?_
    obtain ⟨y49, hy50, h⟩ := bindS h
    refine call_rule (by kernel_rfl) (gemotlaw15_secrets_ok (ok := fun _ => False) hy50) fun u55 w51 ⟨hu56, hb54⟩ => ?_
    replace H := H.callDats hb54 [dSl tStr u55 y49] ⟨(rowOut_sl (rowOut_any hu56) hb54), trivial⟩
    obtain ⟨A57, c58, hA59, _⟩ := H.sl 0 rfl
    subst hA59
    obtain ⟨y61, hy62, h⟩ := bindS h
    refine call_rule (by kernel_rfl) (blind_Root_ok (H.dat 0 rfl) hy62) fun v64 w63 ⟨hv65, hb66⟩ => ?_
    subst hv65
    replace H := H.call hb66
    refine nc_seq ?_
    obtain ⟨y67, hy68, h⟩ := bindS h
    obtain ⟨y73, hx74, h⟩ := bindS h
    obtain ⟨a75, cs76, rfl, hR77, H⟩ := H.elemI 2 rfl hx74
    obtain rfl : cs76 = [.int .i64 y73] := hR77
    refine nc ?_
    refine draw_ruleB [.dat (dCells (a75.add (((0 : Int)).toNat * ((tInt .i64)).sz)) [.int .i64 y73])] [17] (fun j => if j = 1 then .int .i64 y67 else undef) [1000, 1000, 1000, 1000, 1000, 1000, 1000, 1000, 1000, 1000] (by kernel_rfl) (by kernel_rfl) H (by repeat first | exact List.nil_sublist _ | apply List.Sublist.cons_cons | apply List.Sublist.cons) ?_
    refine c_quiet (by kernel_rfl) (fun _ _ H => gemotlaw15_pick_ok (ok := fun _ => False) hy68) ?_
    refine c_idxA (e := 3) 1 _ (by kernel_rfl) (by kernel_rfl) (idxL_some hx74).1 (idxL_some hx74).2.1 ?_
    refine c_loadD 0 rfl 0 (by kernel_rfl) rfl ?_
    refine c_alloc (z := .agg #[.int .i64 0, .int .i64 0, .slice none 0 0]) [.int .i64 0, .int .i64 0, .slice none 0 0] (by kernel_rfl) rfl ?_
    intro g80
    refine ⟨(by repeat first | exact List.nil_sublist _ | apply List.Sublist.cons_cons | apply List.Sublist.cons), ?_⟩
    refine c_storeB (m := 3) 0 rfl (by kernel_rfl) [.int .i64 y67, .int .i64 y73, .slice (some a75) y19.length c28] rfl rfl rfl rfl ?_
    refine ⟨(by repeat first | exact List.nil_sublist _ | apply List.Sublist.cons_cons | apply List.Sublist.cons), ?_⟩
    intro w83 H
    refine nc_seq ?_
    refine nc ?_
    refine own_loadA (m := 3) H 0 rfl (by kernel_rfl) (by kernel_rfl) [.int .i64 y67, .int .i64 y73, .slice (some a75) y19.length c28] rfl rfl ?_
    refine own_alloc (z := .agg #[.int .i64 0, .int .i64 0, .slice none 0 0]) H (by kernel_rfl) [.int .i64 0, .int .i64 0, .slice none 0 0] rfl fun g85 w86 H => ?_
    refine own_storeB (m := 3) H 0 rfl (by kernel_rfl) [.int .i64 y67, .int .i64 y73, .slice (some a75) y19.length c28] rfl rfl rfl rfl fun w87 H => ?_
    refine nc_seq ?_
    refine nc ?_
    obtain ⟨y88, hy89, h⟩ := bindS h
    refine call_rule (by kernel_rfl) (gemotlaw15_pick_ok (ok := fun _ => False) hy89) fun v91 w90 ⟨hv92, hb93⟩ => ?_
    subst hv92
    replace H := H.call hb93
    refine own_storeB (m := 1) H 0 rfl (by kernel_rfl) [.int .i64 y88] rfl rfl rfl rfl fun w94 H => ?_
    refine nc_seq ?_
    refine nc ?_
    refine own_loadA (m := 3) H 1 rfl (by kernel_rfl) (by kernel_rfl) [.int .i64 y67, .int .i64 y73, .slice (some a75) y19.length c28] rfl rfl ?_
    obtain ⟨y95, hy96, h⟩ := bindS h
    refine call_rule (by kernel_rfl) (blind_Group_ok (x0 := ((y67, y73), y19)) (H.dat 5 rfl) hy96) fun v98 w97 ⟨hv99, hb100⟩ => ?_
    subst hv99
    replace H := H.call hb100
    refine nc_seq ?_
    refine nc ?_
    refine own_loadA (m := 3) H 0 rfl (by kernel_rfl) (by kernel_rfl) [.int .i64 y88, .int .i64 y73, .slice (some a75) y19.length c28] rfl rfl ?_
    obtain ⟨y101, hy102, h⟩ := bindS h
    refine call_rule (by kernel_rfl) (blind_Group_ok (x0 := ((y88, y73), y19)) (H.dat 5 rfl) hy102) fun v104 w103 ⟨hv105, hb106⟩ => ?_
    subst hv105
    replace H := H.call hb106
    refine nc_seq ?_
    refine nc ?_
    refine own_loadA (m := 3) H 1 rfl (by kernel_rfl) (by kernel_rfl) [.int .i64 y67, .int .i64 y73, .slice (some a75) y19.length c28] rfl rfl ?_
    obtain ⟨y107, hy108, h⟩ := bindS h
    refine call_rule (by kernel_rfl) (blind_Group_ok (x0 := ((y67, y73), y19)) (H.dat 5 rfl) hy108) fun v110 w109 ⟨hv111, hb112⟩ => ?_
    subst hv111
    replace H := H.call hb112
    refine nc_seq ?_
    refine nc ?_
    refine own_loadA (m := 2) H 1 rfl (by kernel_rfl) (by kernel_rfl) [.int .i64 y67, .int .i64 y73] rfl rfl ?_
    refine own_loadA (m := 2) H 0 rfl (by kernel_rfl) (by kernel_rfl) [.int .i64 y88, .int .i64 y73] rfl rfl ?_
    refine eql_rule ((y67 == y88) && (y73 == y73)) (fun _ => (by kernel_rfl)) (fun _ => (by kernel_rfl)) ?_
    refine nc ?_
    replace h := Option.some.inj h
    subst h
    exact ret_inA [.bool (cond (cond (cond (cond (cond (cond (cond (cond (y43.2 == (0 : Int)) (y61.2 == (0 : Int)) false) (y95.2 == (0 : Int)) false) (y101.2 == (0 : Int)) false) (y107.2 == (0 : Int)) false) ((strEq y43.1 y61.1) == (x1 == x2)) false) ((strEq y95.1 y101.1) == ((y67 == y88) && (y73 == y73))) false) ((strEq y95.1 y107.1) == (strEq y43.1 y61.1)) false) (!(strEq y95.1 y43.1)) false)] ⟨_, rfl, ⟨rfl, H.frame⟩⟩
/-! gemot/gemotlaw15.BlindPartly -/
noncomputable def gemotlaw15_BlindPartly.k1 (x1 : Int) (x2 : Int) (y13 : (List UInt8)) (y19 : (List Int)) (y31 : (List (List UInt8))) (y43 : (List D_blind_Blind)) (v338 : Int) (v478 : List D_blind_Blind) : Option (((List D_blind_Blind) × Int) ⊕ (List D_blind_Blind)) := some (.inl (v478, (IntKind.i64.wrap (v338 + (1 : Int)))))
noncomputable def gemotlaw15_BlindPartly.b2 (x1 : Int) (x2 : Int) (y13 : (List UInt8)) (y19 : (List Int)) (y31 : (List (List UInt8))) (y43 : (List D_blind_Blind)) (v334 : List D_blind_Blind) (v338 : Int) : Option (((List D_blind_Blind) × Int) ⊕ (List D_blind_Blind)) := cond (decide (v338 < (y43.length : Int))) ((shrM .i64 x2 v338).bind fun _ => cond ((andI .i64 (x2.fdiv (2 ^ min (v338).toNat IntKind.i64.bits)) (1 : Int)) == (1 : Int)) ((idxL y43 v338).bind fun y487 => roomM 32 (v334.length + 1) (gemotlaw15_BlindPartly.k1 x1 x2 y13 y19 y31 y43 v338 (v334 ++ [(y487.1, y487.2)]))) (gemotlaw15_BlindPartly.k1 x1 x2 y13 y19 y31 y43 v338 v334)) (some (.inr v334))
noncomputable def gemotlaw15_BlindPartly.k3 (v277 : List D_blind_Blind) (y523 : (List (List UInt8))) (y546 : (List (List UInt8))) (y562 : (List (List UInt8))) (v902 : Int) (v1085 : Bool) : Option (Int ⊕ Int) := cond v1085 (some (.inl (IntKind.i64.wrap (v902 + (1 : Int))))) (some (.inr v902))
noncomputable def gemotlaw15_BlindPartly.b4 (v277 : List D_blind_Blind) (y523 : (List (List UInt8))) (y546 : (List (List UInt8))) (y562 : (List (List UInt8))) (v902 : Int) : Option (Int ⊕ Int) := cond (decide (v902 < (y562.length : Int))) ((idxL y562 v902).bind fun y1089 => (gemotlaw15_has.f v277 y1089).bind fun y1095 => gemotlaw15_BlindPartly.k3 v277 y523 y546 y562 v902 (cond (decide (v902 < (y562.length : Int))) y1095 false)) (gemotlaw15_BlindPartly.k3 v277 y523 y546 y562 v902 (cond (decide (v902 < (y562.length : Int))) false false))
noncomputable def gemotlaw15_BlindPartly.k5 (v1130 : Bool) : Option (Bool) := some v1130
noncomputable def gemotlaw15_BlindPartly.k6 (y523 : (List (List UInt8))) (y546 : (List (List UInt8))) (y562 : (List (List UInt8))) (v837 : Int) : Option (Bool) := cond (cond ((y546.length : Int) == (IntKind.i64.wrap (v837 + (1 : Int)))) ((y523.length : Int) == (IntKind.i64.wrap ((y562.length : Int) + (1 : Int)))) false) ((slcM y523 (0 : Int) (IntKind.i64.wrap (v837 + (1 : Int)))).bind fun y1134 => (gemotlaw15_texts.f y1134).bind fun y1141 => (gemotlaw15_same.f y546 y1141).bind fun y1153 => gemotlaw15_BlindPartly.k5 (cond (cond ((y546.length : Int) == (IntKind.i64.wrap (v837 + (1 : Int)))) ((y523.length : Int) == (IntKind.i64.wrap ((y562.length : Int) + (1 : Int)))) false) y1153 false)) (gemotlaw15_BlindPartly.k5 (cond (cond ((y546.length : Int) == (IntKind.i64.wrap (v837 + (1 : Int)))) ((y523.length : Int) == (IntKind.i64.wrap ((y562.length : Int) + (1 : Int)))) false) false false))
noncomputable def gemotlaw15_BlindPartly.k7 (x1 : Int) (y13 : (List UInt8)) (y19 : (List Int)) (y31 : (List (List UInt8))) (y43 : (List D_blind_Blind)) (v277 : List D_blind_Blind) : Option (Bool) := (gemotlaw15_pick.f x1 (y19.length : Int)).bind fun y505 => (idxL y19 y505).bind fun y511 => (idxL y31 y505).bind fun y517 => (blind_Climb.f y13 y511 y517 y43).bind fun y523 => (idxL y19 y505).bind fun y533 => (idxL y31 y505).bind fun y539 => (blind_Climb.f y13 y533 y539 v277).bind fun y546 => (idxL y19 y505).bind fun y556 => (place_Co.f y13 y556).bind fun y562 => (loopM (fun s1038 : Int => gemotlaw15_BlindPartly.b4 v277 y523 y546 y562 s1038) (0 : Int)).bind (fun (o1037 : Int) => gemotlaw15_BlindPartly.k6 y523 y546 y562 o1037)
noncomputable def gemotlaw15_BlindPartly.f (x0 : List Int) (x1 : Int) (x2 : Int) : Option (Bool) := (gemotlaw15_shown.f).bind fun y6 => cond (!y6) (some false) ((gemotlaw15_made.f x0).bind fun y13 => (tree_Members.f y13).bind fun y19 => (gemotlaw15_secrets.f (y19.length : Int) (1 : Int)).bind fun y31 => (gemotlaw15_blinds.f y13 y31).bind fun y43 => (loopM (fun s454 : (List D_blind_Blind) × Int => gemotlaw15_BlindPartly.b2 x1 x2 y13 y19 y31 y43 s454.1 s454.2) (([] : List D_blind_Blind), (0 : Int))).bind (fun (o452 : (List D_blind_Blind)) => gemotlaw15_BlindPartly.k7 x1 y13 y19 y31 y43 o452))
set_option maxHeartbeats 4000000 in
theorem gemotlaw15_BlindPartly_ok {ok : Nat → Prop} {w : World} {u1 : Value} {x0 : List Int} {x1 : Int} {x2 : Int} {r : Bool} (hu2 : slR (tInt .i64) w ok u1 x0) (h : gemotlaw15_BlindPartly.f x0 x1 x2 = some r) :
    Calls Tryz.prog 10 #[u1, .int .i64 x1, .int .i64 x2] w fun e w' => ∃ v, e = .returned v ∧ (v = .bool r ∧ Bel w.heap.size w w') := by
  have H : Eng.Own ok w w [] := Eng.Own.nil ok w
  obtain ⟨A3, c4, rfl, H⟩ := H.arg rfl hu2
  unfold gemotlaw15_BlindPartly.f at h
  refine enterN (args := [.slice A3 x0.length c4, .int .i64 x1, .int .i64 x2]) Tryz.func10 rfl Tryz.ntmps10 rfl rfl ?_
  refine nc_seq ?_
  refine nc ?_
  refine nc_seq ?_
  refine nc ?_
  obtain ⟨y6, hy7, h⟩ := bindS h
  refine call_rule (by kernel_rfl) (gemotlaw15_shown_ok (ok := fun _ => False) hy7) fun v9 w8 ⟨hv10, hb11⟩ => ?_
  subst hv10
  replace H := H.call hb11
  refine nc_seq ?_
  refine nc_seq ?_
  refine nc ?_
  refine nc_cond rfl (fun hc12 => ?_) (fun hc12 => ?_)
  · replace h := condT hc12 h
    refine nc_seq ?_
    refine nc ?_
    refine nc ?_
    replace h := Option.some.inj h
    subst h
    exact ret_inA [.bool false] ⟨_, rfl, ⟨rfl, H.frame⟩⟩
  · replace h := condF hc12 h
    refine nc ?_
    refine nc_seq ?_
    refine nc ?_
    obtain ⟨y13, hy14, h⟩ := bindS h
    refine call_rule (by kernel_rfl) (gemotlaw15_made_ok (H.dat 0 rfl) hy14) fun v16 w15 ⟨hv17, hb18⟩ => ?_
    subst hv17
    replace H := H.call hb18
    refine nc_seq ?_
    refine nc ?_
    obtain ⟨y19, hy20, h⟩ := bindS h
    refine call_rule (by kernel_rfl) (tree_Members_ok (ok := fun _ => False) hy20) fun u25 w21 ⟨hu26, hb24⟩ => ?_
    replace H := H.callDats hb24 [dSl (tInt .i64) u25 y19] ⟨(slR_any hu26), trivial⟩
    obtain ⟨A27, c28, hA29, _⟩ := H.sl 0 rfl
    subst hA29
    refine nc_seq ?_
    refine nc ?_
    obtain ⟨y31, hy32, h⟩ := bindS h
    refine call_rule (by kernel_rfl) (gemotlaw15_secrets_ok (ok := fun _ => False) hy32) fun u37 w33 ⟨hu38, hb36⟩ => ?_
    replace H := H.callDats hb36 [dSl tStr u37 y31] ⟨(rowOut_sl (rowOut_any hu38) hb36), trivial⟩
    obtain ⟨A39, c40, hA41, _⟩ := H.sl 0 rfl
    subst hA41
    refine nc_seq ?_
    refine nc ?_
    obtain ⟨y43, hy44, h⟩ := bindS h
    refine call_rule (by kernel_rfl) (gemotlaw15_blinds_ok (H.dat 0 rfl) hy44) fun u49 w45 ⟨hu50, hb48⟩ => ?_
    replace H := H.callDats hb48 [dSl t_blind_Blind u49 y43] ⟨(rowOut_sl hu50 hb48), trivial⟩
    obtain ⟨A51, c52, hA53, _⟩ := H.sl 0 rfl
    subst hA53
    refine nc_seq ?_
    refine nc ?_
    refine nc_cut (fun e w281 => ∃ (A278 : Option Addr) (c279 : Nat) (cs280 : List Value) (v277 : List D_blind_Blind), gemotlaw15_BlindPartly.k7 x1 y13 y19 y31 y43 v277 = some r ∧ e = [(1, .int .i64 x1), (8, .string (bs y13)), (9, .slice A27 y19.length c28), (10, .slice A39 y31.length c40), (11, .slice A51 y43.length c52), (12, .slice A278 v277.length c279)] ∧ Eng.Own ok w w281 [.dat (dSl (tInt .i64) (.slice A27 y19.length c28) y19), .dat (dSl tStr (.slice A39 y31.length c40) y31), .dat (dSl t_blind_Blind (.slice A51 y43.length c52) y43), .dat (dRows t_blind_Blind v277 cs280), .row (.slice A278 v277.length c279) 76 2 v277.length cs280]) ?_ ?_
    · skip
      refine nc_seq ?_
      refine nc ?_
      refine nc_block ?_
      replace H := H.nilRowD t_blind_Blind 76
      obtain ⟨o444, hL445, hO446⟩ := bindS h
      obtain ⟨n447, hL445⟩ := loopS hL445
      refine nc ?_
      refine loop_ruleA (fun k e w451 => ∃ (A335 : Option Addr) (c336 : Nat) (cs337 : List Value) (v334 : List D_blind_Blind) (v338 : Int), iterM (fun s454 : (List D_blind_Blind) × Int => gemotlaw15_BlindPartly.b2 x1 x2 y13 y19 y31 y43 s454.1 s454.2) k (v334, v338) = some o444 ∧ e = [(1, .int .i64 x1), (2, .int .i64 x2), (8, .string (bs y13)), (9, .slice A27 y19.length c28), (10, .slice A39 y31.length c40), (11, .slice A51 y43.length c52), (12, .slice A335 v334.length c336), (13, .int .i64 v338)] ∧ Eng.Own ok w w451 [.dat (dSl (tInt .i64) (.slice A27 y19.length c28) y19), .dat (dSl tStr (.slice A39 y31.length c40) y31), .dat (dSl t_blind_Blind (.slice A51 y43.length c52) y43), .dat (dRows t_blind_Blind v334 cs337), .row (.slice A335 v334.length c336) 76 2 v334.length cs337]) ⟨none, 0, [], _, _, hL445, rfl, H.pickL [4, 3, 2, 0, 1] rfl⟩ ?_
      rintro k456 _ w455 ⟨A335, c336, cs337, v334, v338, hL445, rfl, H⟩
      obtain ⟨k450, rfl, q448, h, hq449⟩ := iterS hL445
      replace h : gemotlaw15_BlindPartly.b2 x1 x2 y13 y19 y31 y43 v334 v338 = some q448 := h
      unfold gemotlaw15_BlindPartly.b2 at h
      refine nc_seq ?_
      refine nc_seq ?_
      refine nc ?_
      refine nc_cond rfl (fun hc457 => ?_) (fun hc457 => ?_)
      · replace h := condT hc457 h
        refine nc ?_
        refine nc_cut (fun e w482 => ∃ (A479 : Option Addr) (c480 : Nat) (cs481 : List Value) (v478 : List D_blind_Blind), gemotlaw15_BlindPartly.k1 x1 x2 y13 y19 y31 y43 v338 v478 = some q448 ∧ e = [(1, .int .i64 x1), (2, .int .i64 x2), (8, .string (bs y13)), (9, .slice A27 y19.length c28), (10, .slice A39 y31.length c40), (11, .slice A51 y43.length c52), (12, .slice A479 v478.length c480), (13, .int .i64 v338)] ∧ Eng.Own ok w w482 [.dat (dSl (tInt .i64) (.slice A27 y19.length c28) y19), .dat (dSl tStr (.slice A39 y31.length c40) y31), .dat (dSl t_blind_Blind (.slice A51 y43.length c52) y43), .dat (dRows t_blind_Blind v478 cs481), .row (.slice A479 v478.length c480) 76 2 v478.length cs481]) ?_ ?_
        · skip
          refine nc_block ?_
          refine nc_seq ?_
          refine nc ?_
          obtain ⟨y484, hy485, h⟩ := bindS h
          obtain ⟨hy485b, rfl⟩ := shrS hy485
          refine shr_rule (fun _ => hy485b) ?_
          refine nc_cond rfl (fun hc486 => ?_) (fun hc486 => ?_)
          · replace h := condT hc486 h
            refine nc ?_
            obtain ⟨y487, hx488, h⟩ := bindS h
            obtain ⟨a489, cs490, rfl, hR491, H⟩ := H.elemI 2 rfl hx488
            obtain rfl := blind_Blind_cells hR491
            refine idxA_rule (e := 76) 2 _ (by kernel_rfl) (by kernel_rfl) (idxL_some hx488).1 (idxL_some hx488).2.1 ?_
            refine own_loadDA (m := 2) H 0 rfl 0 (by kernel_rfl) (by kernel_rfl) [.string (bs y487.1), .string (bs y487.2)] rfl rfl ?_
            refine own_buildSlice (e := 76) (sz := 2) (z := .agg #[.string ⟨#[]⟩, .string ⟨#[]⟩]) (cs := [.string (bs y487.1), .string (bs y487.2)]) H (by kernel_rfl) (by kernel_rfl) (by kernel_rfl) rfl rfl rfl rfl fun g494 w495 H => ?_
            obtain ⟨hr496, h⟩ := roomS h
            refine own_append1 (k := t_blind_Blind) (z := .agg #[.string ⟨#[]⟩, .string ⟨#[]⟩]) (x := (y487.1, y487.2)) 32 H 5 4 rfl rfl rfl (blind_Blind_in (x := (y487.1, y487.2))) (by kernel_rfl) (by kernel_rfl) rfl rfl hr496 rfl fun z497 cs498 w499 H => ?_
            obtain ⟨A500, c501, rfl, _, _⟩ := H.rowSl 5 rfl
            exact cut_inA ⟨A500, c501, cs498, _, h, rfl, H.pickL [1, 2, 3, 4, 5] rfl⟩
          · replace h := condF hc486 h
            refine nc ?_
            exact cut_inA ⟨A335, c336, cs337, _, h, rfl, H.pickL [0, 1, 2, 3, 4] rfl⟩
        · rintro _ w503 ⟨A479, c480, cs481, v478, h, rfl, H⟩
          unfold gemotlaw15_BlindPartly.k1 at h
          refine nc ?_
          cases h
          exact again_inA ⟨A479, c480, cs481, _, _, hq449, rfl, H.pickL [0, 1, 2, 3, 4] rfl⟩
      · replace h := condF hc457 h
        refine nc ?_
        cases h
        replace hq449 : v334 = o444 := hq449
        subst hq449
        have h := hO446
        try dsimp only [Sum.elim_inl, Sum.elim_inr] at h
        exact cut_inA ⟨A335, c336, cs337, _, h, rfl, H.pickL [0, 1, 2, 3, 4] rfl⟩
    · rintro _ w504 ⟨A278, c279, cs280, v277, h, rfl, H⟩
      unfold gemotlaw15_BlindPartly.k7 at h
      refine nc_seq ?_
      refine nc ?_
      obtain ⟨y505, hy506, h⟩ := bindS h
      refine call_rule (by kernel_rfl) (gemotlaw15_pick_ok (ok := fun _ => False) hy506) fun v508 w507 ⟨hv509, hb510⟩ => ?_
      subst hv509
      replace H := H.call hb510
      refine nc_seq ?_
      obtain ⟨y511, hx512, h⟩ := bindS h
      obtain ⟨a513, cs514, rfl, hR515, H⟩ := H.elemI 0 rfl hx512
      obtain rfl : cs514 = [.int .i64 y511] := hR515
      obtain ⟨y517, hx518, h⟩ := bindS h
      obtain ⟨a519, cs520, rfl, hR521, H⟩ := H.elemI 2 rfl hx518
      obtain rfl : cs520 = [.string (bs y517)] := hR521
      obtain ⟨y523, hy524, h⟩ := bindS h
      refine nc ?_
      refine draw_rule [] (by kernel_rfl) (by kernel_rfl) H ?_
      refine c_idxA (e := 3) 1 _ (by kernel_rfl) (by kernel_rfl) (idxL_some hx512).1 (idxL_some hx512).2.1 ?_
      refine c_loadD 1 rfl 0 (by kernel_rfl) rfl ?_
      refine c_idxA (e := 28) 1 _ (by kernel_rfl) (by kernel_rfl) (idxL_some hx518).1 (idxL_some hx518).2.1 ?_
      refine c_loadD 0 rfl 0 (by kernel_rfl) rfl ?_
      refine c_callS rfl (by kernel_rfl) (fun _ H => blind_Climb_ok (H.dat 4 rfl) hy524) ?_
      intro A529 c530
      intro w532 H
      refine nc_seq ?_
      obtain ⟨y533, hx534, h⟩ := bindS h
      obtain ⟨cs536, hR537, H⟩ := H.elemJ 3 rfl hx534
      obtain rfl : cs536 = [.int .i64 y533] := hR537
      obtain ⟨y539, hx540, h⟩ := bindS h
      obtain ⟨cs542, hR543, H⟩ := H.elemJ 5 rfl hx540
      obtain rfl : cs542 = [.string (bs y539)] := hR543
      replace H := H.freeze (k := t_blind_Blind) 9 8 rfl rfl
      obtain ⟨y546, hy547, h⟩ := bindS h
      refine nc ?_
      refine draw_rule [] (by kernel_rfl) (by kernel_rfl) H ?_
      refine c_idxA (e := 3) 1 _ (by kernel_rfl) (by kernel_rfl) (idxL_some hx534).1 (idxL_some hx534).2.1 ?_
      refine c_loadD 1 rfl 0 (by kernel_rfl) rfl ?_
      refine c_idxA (e := 28) 1 _ (by kernel_rfl) (by kernel_rfl) (idxL_some hx540).1 (idxL_some hx540).2.1 ?_
      refine c_loadD 0 rfl 0 (by kernel_rfl) rfl ?_
      refine c_callS rfl (by kernel_rfl) (fun _ H => blind_Climb_ok (H.dat 9 rfl) hy547) ?_
      intro A552 c553
      intro w555 H
      refine nc_seq ?_
      refine nc ?_
      obtain ⟨y556, hx557, h⟩ := bindS h
      obtain ⟨cs559, hR560, H⟩ := H.elemJ 6 rfl hx557
      obtain rfl : cs559 = [.int .i64 y556] := hR560
      refine idxA_rule (e := 3) 1 _ (by kernel_rfl) (by kernel_rfl) (idxL_some hx557).1 (idxL_some hx557).2.1 ?_
      refine own_loadD H 0 rfl 0 (by kernel_rfl) rfl ?_
      obtain ⟨y562, hy563, h⟩ := bindS h
      refine call_rule (by kernel_rfl) (place_Co_ok (ok := fun _ => False) hy563) fun u568 w564 ⟨hu569, hb567⟩ => ?_
      replace H := H.callDats hb567 [dSl tStr u568 y562] ⟨(rowOut_sl (rowOut_any hu569) hb567), trivial⟩
      obtain ⟨A570, c571, hA572, _⟩ := H.sl 0 rfl
      subst hA572
      refine nc_seq ?_
      refine nc ?_
      refine nc_cut (fun e w838 => ∃ (v837 : Int), gemotlaw15_BlindPartly.k6 y523 y546 y562 v837 = some r ∧ e = [(15, .slice A529 y523.length c530), (16, .slice A552 y546.length c553), (17, .slice A570 y562.length c571), (18, .int .i64 v837)] ∧ Eng.Own ok w w838 [.dat (dSl tStr (.slice A529 y523.length c530) y523), .dat (dSl tStr (.slice A552 y546.length c553) y546), .dat (dSl tStr (.slice A570 y562.length c571) y562)]) ?_ ?_
      · skip
        refine nc_block ?_
        obtain ⟨o1029, hL1030, hO1031⟩ := bindS h
        obtain ⟨n1032, hL1030⟩ := loopS hL1030
        refine nc ?_
        refine loop_ruleA (fun k e w1036 => ∃ (v902 : Int), iterM (fun s1038 : Int => gemotlaw15_BlindPartly.b4 v277 y523 y546 y562 s1038) k v902 = some o1029 ∧ e = [(12, .slice A278 v277.length c279), (15, .slice A529 y523.length c530), (16, .slice A552 y546.length c553), (17, .slice A570 y562.length c571), (18, .int .i64 v902)] ∧ Eng.Own ok w w1036 [.dat (dSl t_blind_Blind (.slice A278 v277.length c279) v277), .dat (dSl tStr (.slice A529 y523.length c530) y523), .dat (dSl tStr (.slice A552 y546.length c553) y546), .dat (dSl tStr (.slice A570 y562.length c571) y562)]) ⟨_, hL1030, rfl, H.pickL [12, 5, 2, 0] rfl⟩ ?_
        rintro k1040 _ w1039 ⟨v902, hL1030, rfl, H⟩
        obtain ⟨k1035, rfl, q1033, h, hq1034⟩ := iterS hL1030
        replace h : gemotlaw15_BlindPartly.b4 v277 y523 y546 y562 v902 = some q1033 := h
        unfold gemotlaw15_BlindPartly.b4 at h
        refine nc_seq ?_
        refine nc_cut (fun e w1086 => ∃ (v1085 : Bool), gemotlaw15_BlindPartly.k3 v277 y523 y546 y562 v902 v1085 = some q1033 ∧ e = [(12, .slice A278 v277.length c279), (15, .slice A529 y523.length c530), (16, .slice A552 y546.length c553), (17, .slice A570 y562.length c571), (18, .int .i64 v902), (93, .bool v1085)] ∧ Eng.Own ok w w1086 [.dat (dSl t_blind_Blind (.slice A278 v277.length c279) v277), .dat (dSl tStr (.slice A529 y523.length c530) y523), .dat (dSl tStr (.slice A552 y546.length c553) y546), .dat (dSl tStr (.slice A570 y562.length c571) y562)]) ?_ ?_
        · skip
          refine nc ?_
          rcases Bool.eq_false_or_eq_true (decide (v902 < (y562.length : Int))) with hg1088 | hg1088
          · replace h := condT hg1088 h
            obtain ⟨y1089, hx1090, h⟩ := bindS h
            obtain ⟨a1091, cs1092, rfl, hR1093, H⟩ := H.elemI 3 rfl hx1090
            obtain rfl : cs1092 = [.string (bs y1089)] := hR1093
            refine idxA_rule (e := 9) 1 _ (by kernel_rfl) (by kernel_rfl) (idxL_some hx1090).1 (idxL_some hx1090).2.1 ?_
            refine own_loadD H 0 rfl 0 (by kernel_rfl) rfl ?_
            obtain ⟨y1095, hy1096, h⟩ := bindS h
            refine call_yes (gT1 hg1088 rfl) (by kernel_rfl) (gemotlaw15_has_ok (H.dat 1 rfl) hy1096) fun v1098 w1097 ⟨hv1099, hb1100⟩ => ?_
            subst hv1099
            replace H := H.call hb1100
            exact cut_inA ⟨_, h, rfl, H.pickL [1, 2, 3, 4] rfl⟩
          · replace h := condF hg1088 h
            refine skipIA (.pointer (some ⟨0, 0, none⟩)) (gF1 hg1088) ?_
            refine skipLD (.string (bs ([] : List UInt8))) (gF1 hg1088) ?_
            refine call_skip (.bool false) (gF1 hg1088) ?_
            exact cut_inA ⟨_, h, rfl, H.pickL [0, 1, 2, 3] rfl⟩
        · rintro _ w1101 ⟨v1085, h, rfl, H⟩
          unfold gemotlaw15_BlindPartly.k3 at h
          refine nc_cond rfl (fun hc1102 => ?_) (fun hc1102 => ?_)
          · replace h := condT hc1102 h
            refine nc ?_
            refine nc_block ?_
            refine nc ?_
            cases h
            exact again_inA ⟨_, hq1034, rfl, H.pickL [0, 1, 2, 3] rfl⟩
          · replace h := condF hc1102 h
            refine nc ?_
            cases h
            replace hq1034 : v902 = o1029 := hq1034
            subst hq1034
            have h := hO1031
            try dsimp only [Sum.elim_inl, Sum.elim_inr] at h
            exact cut_inA ⟨_, h, rfl, H.pickL [1, 2, 3] rfl⟩
      · rintro _ w1103 ⟨v837, h, rfl, H⟩
        unfold gemotlaw15_BlindPartly.k6 at h
        refine nc_cut (fun e w1131 => ∃ (v1130 : Bool), gemotlaw15_BlindPartly.k5 v1130 = some r ∧ e = [(6, .bool v1130)] ∧ Eng.Own ok w w1131 []) ?_ ?_
        · skip
          refine nc ?_
          rcases Bool.eq_false_or_eq_true (cond ((y546.length : Int) == (IntKind.i64.wrap (v837 + (1 : Int)))) ((y523.length : Int) == (IntKind.i64.wrap ((y562.length : Int) + (1 : Int)))) false) with hg1133 | hg1133
          · replace h := condT hg1133 h
            obtain ⟨y1134, hx1135, h⟩ := bindS h
            obtain ⟨A1136, c1137, hp1138, H⟩ := H.pieceD 0 rfl hx1135
            have hn1140 := H.slLen 1 rfl
            refine pieceI_rule (e := 28) 1 (0 : Int) (IntKind.i64.wrap (v837 + (1 : Int))) (by kernel_rfl) (by kernel_rfl) rfl ⟨_, rfl⟩ hx1135 hn1140 hp1138 ?_
            obtain ⟨y1141, hy1142, h⟩ := bindS h
            refine call_yes (gT1 hg1133 rfl) (by kernel_rfl) (gemotlaw15_texts_ok (H.dat 0 rfl) hy1142) fun u1147 w1143 ⟨hu1148, hb1146⟩ => ?_
            replace H := H.callDats hb1146 [dSl tStr u1147 y1141] ⟨(rowOut_sl hu1148 hb1146), trivial⟩
            obtain ⟨A1149, c1150, hA1151, _⟩ := H.sl 0 rfl
            subst hA1151
            obtain ⟨y1153, hy1154, h⟩ := bindS h
            refine call_yes (gT1 hg1133 rfl) (by kernel_rfl) (gemotlaw15_same_ok (H.dat 3 rfl) (H.dat 0 rfl) hy1154) fun v1156 w1155 ⟨hv1157, hb1158⟩ => ?_
            subst hv1157
            replace H := H.call hb1158
            exact cut_inA ⟨_, h, rfl, H.pickL [] rfl⟩
          · replace h := condF hg1133 h
            refine skipSL (.slice none 0 0) (gF1 hg1133) ?_
            refine call_skip (.slice none 0 0) (gF1 hg1133) ?_
            refine call_skip (.bool false) (gF1 hg1133) ?_
            exact cut_inA ⟨_, h, rfl, H.pickL [] rfl⟩
        · rintro _ w1159 ⟨v1130, h, rfl, H⟩
          unfold gemotlaw15_BlindPartly.k5 at h
          refine nc ?_
          replace h := Option.some.inj h
          subst h
          exact ret_inA [.bool v1130] ⟨_, rfl, ⟨rfl, H.frame⟩⟩
end Go.Proofs.YtfapphlhkfddoaaGreatDoor.G
