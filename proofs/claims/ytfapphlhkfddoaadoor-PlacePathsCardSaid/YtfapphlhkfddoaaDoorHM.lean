/- Walks, printed by a program of this proof's own. -/
import Derived.Test.YtfapphlhkfddoaaDoorNodesP
import Derived.Test.YtfapphlhkfddoaaDoorManTree
import Derived.KernelRfl
namespace Go.Proofs.YtfapphlhkfddoaaDoor.G
open Go.RowKit Go.Eng Go.Proofs
set_option linter.unusedVariables false
set_option maxRecDepth 20000
/-! gemot/place.Beside -/
noncomputable def place_Beside.f (x0 : List UInt8) : Option ((List UInt8)) := cond (strEq x0 ([] : List UInt8)) (some ([] : List UInt8)) ((slcM x0 (0 : Int) (IntKind.i64.wrap ((x0.length : Int) - (1 : Int)))).bind fun y2 => (idxS x0 (IntKind.i64.wrap ((x0.length : Int) - (1 : Int)))).bind fun y4 => cond (y4 == (108 : Int)) (roomM 1 (y2.length + [114].length) (some (y2 ++ [114]))) (roomM 1 (y2.length + [108].length) (some (y2 ++ [108]))))
set_option maxHeartbeats 4000000 in
theorem place_Beside_ok {ok : Nat → Prop} {w : World} {x0 : List UInt8} {r : (List UInt8)} (h : place_Beside.f x0 = some r) :
    Calls Tryd.prog 15 #[.string (bs x0)] w fun e w' => ∃ v, e = .returned v ∧ (v = .string (bs r) ∧ Bel w.heap.size w w') := by
  have H : Eng.Own ok w w [] := Eng.Own.nil ok w
  unfold place_Beside.f at h
  refine enterN (args := [.string (bs x0)]) Tryd.func15 rfl Tryd.ntmps15 rfl rfl ?_
  refine nc_seq ?_
  refine nc ?_
  refine nc_seq ?_
  refine nc_seq ?_
  refine nc ?_
  refine nc_cond rfl (fun hc1 => ?_) (fun hc1 => ?_)
  · replace h := condT hc1 h
    refine nc_seq ?_
    refine nc ?_
    refine nc ?_
    replace h := Option.some.inj h
    subst h
    exact ret_inA [.string (bs ([] : List UInt8))] ⟨_, rfl, ⟨rfl, H.frame⟩⟩
  · replace h := condF hc1 h
    refine nc ?_
    refine nc_seq ?_
    obtain ⟨y2, hx3, h⟩ := bindS h
    obtain ⟨y4, hx5, h⟩ := bindS h
    refine nc ?_
    refine draw_rule [] (by kernel_rfl) (by kernel_rfl) H ?_
    refine c_txtI (0 : Int) (IntKind.i64.wrap ((x0.length : Int) - (1 : Int))) (by kernel_rfl) rfl ⟨_, rfl⟩ hx3 ?_
    refine c_idxS (by kernel_rfl) hx5 ?_
    intro w6 H
    refine nc_seq ?_
    refine nc_seq ?_
    refine nc ?_
    refine nc_cond rfl (fun hc7 => ?_) (fun hc7 => ?_)
    · replace h := condT hc7 h
      refine nc_seq ?_
      refine nc ?_
      obtain ⟨hr8, h⟩ := roomS h
      refine catM_rule hr8 ?_
      refine nc ?_
      replace h := Option.some.inj h
      subst h
      exact ret_inA [.string (bs (y2 ++ [114]))] ⟨_, rfl, ⟨rfl, H.frame⟩⟩
    · replace h := condF hc7 h
      refine nc ?_
      refine nc_seq ?_
      refine nc ?_
      obtain ⟨hr9, h⟩ := roomS h
      refine catM_rule hr9 ?_
      refine nc ?_
      replace h := Option.some.inj h
      subst h
      exact ret_inA [.string (bs (y2 ++ [108]))] ⟨_, rfl, ⟨rfl, H.frame⟩⟩
/-! gemot/place.Co -/
noncomputable def place_Co.k1 (y273 : (List (List UInt8))) (v348 : Int) (v508 : List (List UInt8)) : Option (((List (List UInt8)) × Int) ⊕ (List (List UInt8))) := some (.inl (v508, (IntKind.i64.wrap (v348 + (1 : Int)))))
noncomputable def place_Co.b2 (y273 : (List (List UInt8))) (v344 : List (List UInt8)) (v348 : Int) : Option (((List (List UInt8)) × Int) ⊕ (List (List UInt8))) := cond (decide (v348 < (y273.length : Int))) ((idxL y273 v348).bind fun y514 => cond (!(strEq y514 ([] : List UInt8))) ((place_Beside.f y514).bind fun y521 => roomM 16 (v344.length + 1) (place_Co.k1 y273 v348 (v344 ++ [y521]))) (place_Co.k1 y273 v348 v344)) (some (.inr v344))
noncomputable def place_Co.k3 (v267 : List (List UInt8)) : Option ((List (List UInt8))) := some v267
noncomputable def place_Co.f (x0 : List UInt8) (x1 : Int) : Option ((List (List UInt8))) := (place_Path.f x0 x1).bind fun y273 => (loopM (fun s480 : (List (List UInt8)) × Int => place_Co.b2 y273 s480.1 s480.2) (([] : List (List UInt8)), (0 : Int))).bind (fun (o478 : (List (List UInt8))) => place_Co.k3 o478)
set_option maxHeartbeats 4000000 in
theorem place_Co_ok {ok : Nat → Prop} {w : World} {x0 : List UInt8} {x1 : Int} {r : (List (List UInt8))} (h : place_Co.f x0 x1 = some r) :
    Calls Tryd.prog 11 #[.string (bs x0), .int .i64 x1] w fun e w' => ∃ v, e = .returned v ∧ (rowOut w w' ok tStr 9 v r ∧ Bel w.heap.size w w') := by
  have H : Eng.Own ok w w [] := Eng.Own.nil ok w
  unfold place_Co.f at h
  refine enterN (args := [.string (bs x0), .int .i64 x1]) Tryd.func11 rfl Tryd.ntmps11 rfl rfl ?_
  refine nc_seq ?_
  refine nc ?_
  refine nc_seq ?_
  refine nc ?_
  refine nc_cut (fun e w271 => ∃ (A268 : Option Addr) (c269 : Nat) (cs270 : List Value) (v267 : List (List UInt8)), place_Co.k3 v267 = some r ∧ e = [(5, .slice A268 v267.length c269)] ∧ Eng.Own ok w w271 [.dat (dRows tStr v267 cs270), .row (.slice A268 v267.length c269) 9 1 v267.length cs270]) ?_ ?_
  · skip
    refine nc_seq ?_
    refine nc ?_
    obtain ⟨y273, hy274, h⟩ := bindS h
    refine call_rule (by kernel_rfl) (place_Path_ok (ok := fun _ => False) hy274) fun u279 w275 ⟨hu280, hb278⟩ => ?_
    replace H := H.callDats hb278 [dSl tStr u279 y273] ⟨(slR_any hu280), trivial⟩
    obtain ⟨A281, c282, hA283, _⟩ := H.sl 0 rfl
    subst hA283
    refine nc_block ?_
    replace H := H.nilRowD tStr 9
    obtain ⟨o470, hL471, hO472⟩ := bindS h
    obtain ⟨n473, hL471⟩ := loopS hL471
    refine nc ?_
    refine loop_ruleA (fun k e w477 => ∃ (A345 : Option Addr) (c346 : Nat) (cs347 : List Value) (v344 : List (List UInt8)) (v348 : Int), iterM (fun s480 : (List (List UInt8)) × Int => place_Co.b2 y273 s480.1 s480.2) k (v344, v348) = some o470 ∧ e = [(5, .slice A345 v344.length c346), (10, .slice A281 y273.length c282), (11, .int .i64 (y273.length : Int)), (12, .int .i64 v348)] ∧ Eng.Own ok w w477 [.dat (dRows tStr v344 cs347), .row (.slice A345 v344.length c346) 9 1 v344.length cs347, .dat (dSl tStr (.slice A281 y273.length c282) y273)]) ⟨none, 0, [], _, _, hL471, rfl, H.pickL [0, 1, 2] rfl⟩ ?_
    rintro k482 _ w481 ⟨A345, c346, cs347, v344, v348, hL471, rfl, H⟩
    obtain ⟨k476, rfl, q474, h, hq475⟩ := iterS hL471
    replace h : place_Co.b2 y273 v344 v348 = some q474 := h
    unfold place_Co.b2 at h
    refine nc_seq ?_
    refine nc ?_
    refine nc_seq ?_
    refine nc_cond rfl (fun hc483 => ?_) (fun hc483 => ?_)
    · replace h := condT hc483 h
      refine nc ?_
      refine nc_cut (fun e w512 => ∃ (A509 : Option Addr) (c510 : Nat) (cs511 : List Value) (v508 : List (List UInt8)), place_Co.k1 y273 v348 v508 = some q474 ∧ e = [(5, .slice A509 v508.length c510), (10, .slice A281 y273.length c282), (11, .int .i64 (y273.length : Int)), (12, .int .i64 v348)] ∧ Eng.Own ok w w512 [.dat (dRows tStr v508 cs511), .row (.slice A509 v508.length c510) 9 1 v508.length cs511, .dat (dSl tStr (.slice A281 y273.length c282) y273)]) ?_ ?_
      · skip
        refine nc_block ?_
        refine nc_seq ?_
        refine nc ?_
        obtain ⟨y514, hx515, h⟩ := bindS h
        obtain ⟨a516, cs517, rfl, hR518, H⟩ := H.elemI 2 rfl hx515
        obtain rfl : cs517 = [.string (bs y514)] := hR518
        refine idxA_rule (e := 9) 1 _ (by kernel_rfl) (by kernel_rfl) (idxL_some hx515).1 (idxL_some hx515).2.1 ?_
        refine own_loadD H 0 rfl 0 (by kernel_rfl) rfl ?_
        refine nc_seq ?_
        refine nc ?_
        refine nc_cond rfl (fun hc520 => ?_) (fun hc520 => ?_)
        · replace h := condT hc520 h
          refine nc ?_
          obtain ⟨y521, hy522, h⟩ := bindS h
          refine call_rule (by kernel_rfl) (place_Beside_ok (ok := fun _ => False) hy522) fun v524 w523 ⟨hv525, hb526⟩ => ?_
          subst hv525
          replace H := H.call hb526
          refine own_buildSlice (e := 9) (sz := 1) (z := .string ⟨#[]⟩) (cs := [.string (bs y521)]) H (by kernel_rfl) (by kernel_rfl) (by kernel_rfl) rfl rfl rfl rfl fun g528 w529 H => ?_
          obtain ⟨hr530, h⟩ := roomS h
          refine own_append1 (k := tStr) (z := .string ⟨#[]⟩) (x := y521) 16 H 2 1 rfl rfl rfl rfl (by kernel_rfl) (by kernel_rfl) rfl rfl hr530 rfl fun z531 cs532 w533 H => ?_
          obtain ⟨A534, c535, rfl, _, _⟩ := H.rowSl 2 rfl
          exact cut_inA ⟨A534, c535, cs532, _, h, rfl, H.pickL [1, 2, 3] rfl⟩
        · replace h := condF hc520 h
          refine nc ?_
          exact cut_inA ⟨A345, c346, cs347, _, h, rfl, H.pickL [1, 2, 3] rfl⟩
      · rintro _ w537 ⟨A509, c510, cs511, v508, h, rfl, H⟩
        unfold place_Co.k1 at h
        refine nc ?_
        cases h
        exact again_inA ⟨A509, c510, cs511, _, _, hq475, rfl, H.pickL [0, 1, 2] rfl⟩
    · replace h := condF hc483 h
      refine nc ?_
      cases h
      replace hq475 : v344 = o470 := hq475
      subst hq475
      have h := hO472
      try dsimp only [Sum.elim_inl, Sum.elim_inr] at h
      exact cut_inA ⟨A345, c346, cs347, _, h, rfl, H.pickL [0, 1] rfl⟩
  · rintro _ w538 ⟨A268, c269, cs270, v267, h, rfl, H⟩
    unfold place_Co.k3 at h
    refine nc_seq ?_
    refine nc ?_
    refine nc ?_
    replace h := Option.some.inj h
    subst h
    exact ret_inA [.slice A268 v267.length c269] ⟨_, rfl, ⟨H.outR 1 0 rfl rfl rfl, H.frame⟩⟩
/-! gemot/place.Sponsor -/
noncomputable def place_Sponsor.f (x0 : List UInt8) (x1 : List UInt8) : Option (Int) := (place_At.f x0 x1).bind fun y1 => cond (y1.2 != (0 : Int)) (some (0 : Int)) ((tree_Members.f y1.1).bind fun y8 => (idxL y8 (0 : Int)).bind fun y20 => some y20)
set_option maxHeartbeats 4000000 in
theorem place_Sponsor_ok {ok : Nat → Prop} {w : World} {x0 : List UInt8} {x1 : List UInt8} {r : Int} (h : place_Sponsor.f x0 x1 = some r) :
    Calls Tryd.prog 21 #[.string (bs x0), .string (bs x1)] w fun e w' => ∃ v, e = .returned v ∧ (v = .int .i64 r ∧ Bel w.heap.size w w') := by
  have H : Eng.Own ok w w [] := Eng.Own.nil ok w
  unfold place_Sponsor.f at h
  refine enterN (args := [.string (bs x0), .string (bs x1)]) Tryd.func21 rfl Tryd.ntmps21 rfl rfl ?_
  refine nc_seq ?_
  refine nc ?_
  refine nc_seq ?_
  refine nc ?_
  obtain ⟨y1, hy2, h⟩ := bindS h
  refine call_rule (by kernel_rfl) (place_At_ok hy2) fun v4 w3 ⟨hv5, hb6⟩ => ?_
  subst hv5
  replace H := H.call hb6
  refine nc_seq ?_
  refine nc_seq ?_
  refine nc ?_
  refine nc_cond rfl (fun hc7 => ?_) (fun hc7 => ?_)
  · replace h := condT hc7 h
    refine nc_seq ?_
    refine nc ?_
    refine nc ?_
    replace h := Option.some.inj h
    subst h
    exact ret_inA [.int .i64 0] ⟨_, rfl, ⟨rfl, H.frame⟩⟩
  · replace h := condF hc7 h
    refine nc ?_
    refine nc_seq ?_
    refine nc ?_
    obtain ⟨y8, hy9, h⟩ := bindS h
    refine call_rule (by kernel_rfl) (tree_Members_ok (ok := fun _ => False) hy9) fun u14 w10 ⟨hu15, hb13⟩ => ?_
    replace H := H.callDats hb13 [dSl (tInt .i64) u14 y8] ⟨(slR_any hu15), trivial⟩
    obtain ⟨A16, c17, hA18, _⟩ := H.sl 0 rfl
    subst hA18
    obtain ⟨y20, hx21, h⟩ := bindS h
    obtain ⟨a22, cs23, rfl, hR24, H⟩ := H.elemI 0 rfl hx21
    obtain rfl : cs23 = [.int .i64 y20] := hR24
    refine idxA_rule (e := 3) 1 _ (by kernel_rfl) (by kernel_rfl) (idxL_some hx21).1 (idxL_some hx21).2.1 ?_
    refine own_loadD H 0 rfl 0 (by kernel_rfl) rfl ?_
    refine nc ?_
    replace h := Option.some.inj h
    subst h
    exact ret_inA [.int .i64 y20] ⟨_, rfl, ⟨rfl, H.frame⟩⟩
/-! gemot/place.Duties -/
noncomputable def place_Duties.k1 (x0 : List UInt8) (x1 : Int) (y369 : (List (List UInt8))) (v468 : Int) (v688 : List (List UInt8)) : Option (((List (List UInt8)) × Int) ⊕ (List (List UInt8))) := some (.inl (v688, (IntKind.i64.wrap (v468 + (1 : Int)))))
noncomputable def place_Duties.k2 (x0 : List UInt8) (x1 : Int) (y369 : (List (List UInt8))) (v464 : List (List UInt8)) (v468 : Int) (y694 : List UInt8) (v707 : Bool) : Option (((List (List UInt8)) × Int) ⊕ (List (List UInt8))) := cond v707 (roomM 16 (v464.length + 1) (place_Duties.k1 x0 x1 y369 v468 (v464 ++ [y694]))) (place_Duties.k1 x0 x1 y369 v468 v464)
noncomputable def place_Duties.b3 (x0 : List UInt8) (x1 : Int) (y369 : (List (List UInt8))) (v464 : List (List UInt8)) (v468 : Int) : Option (((List (List UInt8)) × Int) ⊕ (List (List UInt8))) := cond (decide (v468 < (y369.length : Int))) ((idxL y369 v468).bind fun y694 => cond (!(strEq y694 ([] : List UInt8))) ((place_Sponsor.f x0 y694).bind fun y711 => place_Duties.k2 x0 x1 y369 v464 v468 y694 (cond (!(strEq y694 ([] : List UInt8))) (y711 == x1) false)) (place_Duties.k2 x0 x1 y369 v464 v468 y694 (cond (!(strEq y694 ([] : List UInt8))) ((0 : Int) == x1) false))) (some (.inr v464))
noncomputable def place_Duties.k4 (v363 : List (List UInt8)) : Option ((List (List UInt8))) := some v363
noncomputable def place_Duties.f (x0 : List UInt8) (x1 : Int) : Option ((List (List UInt8))) := (place_Path.f x0 x1).bind fun y369 => (loopM (fun s648 : (List (List UInt8)) × Int => place_Duties.b3 x0 x1 y369 s648.1 s648.2) (([] : List (List UInt8)), (0 : Int))).bind (fun (o646 : (List (List UInt8))) => place_Duties.k4 o646)
set_option maxHeartbeats 4000000 in
theorem place_Duties_ok {ok : Nat → Prop} {w : World} {x0 : List UInt8} {x1 : Int} {r : (List (List UInt8))} (h : place_Duties.f x0 x1 = some r) :
    Calls Tryd.prog 20 #[.string (bs x0), .int .i64 x1] w fun e w' => ∃ v, e = .returned v ∧ (rowOut w w' ok tStr 9 v r ∧ Bel w.heap.size w w') := by
  have H : Eng.Own ok w w [] := Eng.Own.nil ok w
  unfold place_Duties.f at h
  refine enterN (args := [.string (bs x0), .int .i64 x1]) Tryd.func20 rfl Tryd.ntmps20 rfl rfl ?_
  refine nc_seq ?_
  refine nc ?_
  refine nc_seq ?_
  refine nc ?_
  refine nc_cut (fun e w367 => ∃ (A364 : Option Addr) (c365 : Nat) (cs366 : List Value) (v363 : List (List UInt8)), place_Duties.k4 v363 = some r ∧ e = [(5, .slice A364 v363.length c365)] ∧ Eng.Own ok w w367 [.dat (dRows tStr v363 cs366), .row (.slice A364 v363.length c365) 9 1 v363.length cs366]) ?_ ?_
  · skip
    refine nc_seq ?_
    refine nc ?_
    obtain ⟨y369, hy370, h⟩ := bindS h
    refine call_rule (by kernel_rfl) (place_Path_ok (ok := fun _ => False) hy370) fun u375 w371 ⟨hu376, hb374⟩ => ?_
    replace H := H.callDats hb374 [dSl tStr u375 y369] ⟨(slR_any hu376), trivial⟩
    obtain ⟨A377, c378, hA379, _⟩ := H.sl 0 rfl
    subst hA379
    refine nc_block ?_
    replace H := H.nilRowD tStr 9
    obtain ⟨o638, hL639, hO640⟩ := bindS h
    obtain ⟨n641, hL639⟩ := loopS hL639
    refine nc ?_
    refine loop_ruleA (fun k e w645 => ∃ (A465 : Option Addr) (c466 : Nat) (cs467 : List Value) (v464 : List (List UInt8)) (v468 : Int), iterM (fun s648 : (List (List UInt8)) × Int => place_Duties.b3 x0 x1 y369 s648.1 s648.2) k (v464, v468) = some o638 ∧ e = [(0, .string (bs x0)), (1, .int .i64 x1), (5, .slice A465 v464.length c466), (10, .slice A377 y369.length c378), (11, .int .i64 (y369.length : Int)), (12, .int .i64 v468)] ∧ Eng.Own ok w w645 [.dat (dRows tStr v464 cs467), .row (.slice A465 v464.length c466) 9 1 v464.length cs467, .dat (dSl tStr (.slice A377 y369.length c378) y369)]) ⟨none, 0, [], _, _, hL639, rfl, H.pickL [0, 1, 2] rfl⟩ ?_
    rintro k650 _ w649 ⟨A465, c466, cs467, v464, v468, hL639, rfl, H⟩
    obtain ⟨k644, rfl, q642, h, hq643⟩ := iterS hL639
    replace h : place_Duties.b3 x0 x1 y369 v464 v468 = some q642 := h
    unfold place_Duties.b3 at h
    refine nc_seq ?_
    refine nc ?_
    refine nc_seq ?_
    refine nc_cond rfl (fun hc651 => ?_) (fun hc651 => ?_)
    · replace h := condT hc651 h
      refine nc ?_
      refine nc_cut (fun e w692 => ∃ (A689 : Option Addr) (c690 : Nat) (cs691 : List Value) (v688 : List (List UInt8)), place_Duties.k1 x0 x1 y369 v468 v688 = some q642 ∧ e = [(0, .string (bs x0)), (1, .int .i64 x1), (5, .slice A689 v688.length c690), (10, .slice A377 y369.length c378), (11, .int .i64 (y369.length : Int)), (12, .int .i64 v468)] ∧ Eng.Own ok w w692 [.dat (dRows tStr v688 cs691), .row (.slice A689 v688.length c690) 9 1 v688.length cs691, .dat (dSl tStr (.slice A377 y369.length c378) y369)]) ?_ ?_
      · skip
        refine nc_block ?_
        refine nc_seq ?_
        refine nc ?_
        obtain ⟨y694, hx695, h⟩ := bindS h
        obtain ⟨a696, cs697, rfl, hR698, H⟩ := H.elemI 2 rfl hx695
        obtain rfl : cs697 = [.string (bs y694)] := hR698
        refine idxA_rule (e := 9) 1 _ (by kernel_rfl) (by kernel_rfl) (idxL_some hx695).1 (idxL_some hx695).2.1 ?_
        refine own_loadD H 0 rfl 0 (by kernel_rfl) rfl ?_
        refine nc_cut (fun e w708 => ∃ (v707 : Bool), place_Duties.k2 x0 x1 y369 v464 v468 y694 v707 = some q642 ∧ e = [(0, .string (bs x0)), (1, .int .i64 x1), (5, .slice A465 v464.length c466), (7, .string (bs y694)), (10, .slice (some a696) y369.length c378), (11, .int .i64 (y369.length : Int)), (12, .int .i64 v468), (24, .bool v707)] ∧ Eng.Own ok w w708 [.dat (dRows tStr v464 cs467), .row (.slice A465 v464.length c466) 9 1 v464.length cs467, .dat (dSl tStr (.slice (some a696) y369.length c378) y369)]) ?_ ?_
        · skip
          refine nc ?_
          rcases Bool.eq_false_or_eq_true (!(strEq y694 ([] : List UInt8))) with hg710 | hg710
          · replace h := condT hg710 h
            obtain ⟨y711, hy712, h⟩ := bindS h
            refine call_yes (gT1 hg710 rfl) (by kernel_rfl) (place_Sponsor_ok (ok := fun _ => False) hy712) fun v714 w713 ⟨hv715, hb716⟩ => ?_
            subst hv715
            replace H := H.call hb716
            exact cut_inA ⟨_, h, rfl, H.pickL [1, 2, 3] rfl⟩
          · replace h := condF hg710 h
            refine call_skip (.int .i64 0) (gF1 hg710) ?_
            exact cut_inA ⟨_, h, rfl, H.pickL [1, 2, 3] rfl⟩
        · rintro _ w717 ⟨v707, h, rfl, H⟩
          unfold place_Duties.k2 at h
          refine nc_cond rfl (fun hc718 => ?_) (fun hc718 => ?_)
          · replace h := condT hc718 h
            refine nc ?_
            refine own_buildSlice (e := 9) (sz := 1) (z := .string ⟨#[]⟩) (cs := [.string (bs y694)]) H (by kernel_rfl) (by kernel_rfl) (by kernel_rfl) rfl rfl rfl rfl fun g720 w721 H => ?_
            obtain ⟨hr722, h⟩ := roomS h
            refine own_append1 (k := tStr) (z := .string ⟨#[]⟩) (x := y694) 16 H 1 0 rfl rfl rfl rfl (by kernel_rfl) (by kernel_rfl) rfl rfl hr722 rfl fun z723 cs724 w725 H => ?_
            obtain ⟨A726, c727, rfl, _, _⟩ := H.rowSl 1 rfl
            exact cut_inA ⟨A726, c727, cs724, _, h, rfl, H.pickL [0, 1, 2] rfl⟩
          · replace h := condF hc718 h
            refine nc ?_
            exact cut_inA ⟨A465, c466, cs467, _, h, rfl, H.pickL [0, 1, 2] rfl⟩
      · rintro _ w729 ⟨A689, c690, cs691, v688, h, rfl, H⟩
        unfold place_Duties.k1 at h
        refine nc ?_
        cases h
        exact again_inA ⟨A689, c690, cs691, _, _, hq643, rfl, H.pickL [0, 1, 2] rfl⟩
    · replace h := condF hc651 h
      refine nc ?_
      cases h
      replace hq643 : v464 = o638 := hq643
      subst hq643
      have h := hO640
      try dsimp only [Sum.elim_inl, Sum.elim_inr] at h
      exact cut_inA ⟨A465, c466, cs467, _, h, rfl, H.pickL [0, 1] rfl⟩
  · rintro _ w730 ⟨A364, c365, cs366, v363, h, rfl, H⟩
    unfold place_Duties.k4 at h
    refine nc_seq ?_
    refine nc ?_
    refine nc ?_
    replace h := Option.some.inj h
    subst h
    exact ret_inA [.slice A364 v363.length c365] ⟨_, rfl, ⟨H.outR 1 0 rfl rfl rfl, H.frame⟩⟩
/-! gemot/gemotref10.Has -/
noncomputable def gemotref10_Has.b1 (x0 : List Int) (x1 : Int) (v63 : Int) : Option (Int ⊕ (Unit ⊕ Bool)) := cond (decide (v63 < (x0.length : Int))) ((idxL x0 v63).bind fun y95 => cond (y95 == x1) (some (.inr (Sum.inr true))) (some (.inl (IntKind.i64.wrap (v63 + (1 : Int)))))) (some (.inr (Sum.inl ())))
noncomputable def gemotref10_Has.k2 : Option (Bool) := some false
noncomputable def gemotref10_Has.f (x0 : List Int) (x1 : Int) : Option (Bool) := (loopM (fun s91 : Int => gemotref10_Has.b1 x0 x1 s91) (0 : Int)).bind (Sum.elim (fun (o89 : Unit) => gemotref10_Has.k2) (fun (o90 : Bool) => some o90))
set_option maxHeartbeats 4000000 in
theorem gemotref10_Has_ok {ok : Nat → Prop} {w : World} {u1 : Value} {x0 : List Int} {x1 : Int} {r : Bool} (hu2 : slR (tInt .i64) w ok u1 x0) (h : gemotref10_Has.f x0 x1 = some r) :
    Calls Tryd.prog 14 #[u1, .int .i64 x1] w fun e w' => ∃ v, e = .returned v ∧ (v = .bool r ∧ Bel w.heap.size w w') := by
  have H : Eng.Own ok w w [] := Eng.Own.nil ok w
  obtain ⟨A3, c4, rfl, H⟩ := H.arg rfl hu2
  unfold gemotref10_Has.f at h
  refine enterN (args := [.slice A3 x0.length c4, .int .i64 x1]) Tryd.func14 rfl Tryd.ntmps14 rfl rfl ?_
  refine nc_seq ?_
  refine nc ?_
  refine nc_cut (fun e w53 => gemotref10_Has.k2 = some r ∧ e = [] ∧ Eng.Own ok w w53 []) ?_ ?_
  · skip
    refine nc_seq ?_
    refine nc ?_
    refine nc_block ?_
    obtain ⟨o81, hL82, hO83⟩ := bindS h
    obtain ⟨n84, hL82⟩ := loopS hL82
    refine nc ?_
    refine loop_ruleA (fun k e w88 => ∃ (v63 : Int), iterM (fun s91 : Int => gemotref10_Has.b1 x0 x1 s91) k v63 = some o81 ∧ e = [(0, .slice A3 x0.length c4), (1, .int .i64 x1), (5, .int .i64 v63)] ∧ Eng.Own ok w w88 [.dat (dSl (tInt .i64) (.slice A3 x0.length c4) x0)]) ⟨_, hL82, rfl, H.pickL [0] rfl⟩ ?_
    rintro k93 _ w92 ⟨v63, hL82, rfl, H⟩
    obtain ⟨k87, rfl, q85, h, hq86⟩ := iterS hL82
    replace h : gemotref10_Has.b1 x0 x1 v63 = some q85 := h
    unfold gemotref10_Has.b1 at h
    refine nc_seq ?_
    refine nc_seq ?_
    refine nc ?_
    refine nc_cond rfl (fun hc94 => ?_) (fun hc94 => ?_)
    · replace h := condT hc94 h
      refine nc ?_
      refine nc_seq ?_
      refine nc_block ?_
      refine nc_seq ?_
      refine nc ?_
      obtain ⟨y95, hx96, h⟩ := bindS h
      obtain ⟨a97, cs98, rfl, hR99, H⟩ := H.elemI 0 rfl hx96
      obtain rfl : cs98 = [.int .i64 y95] := hR99
      refine idxA_rule (e := 3) 1 _ (by kernel_rfl) (by kernel_rfl) (idxL_some hx96).1 (idxL_some hx96).2.1 ?_
      refine own_loadD H 0 rfl 0 (by kernel_rfl) rfl ?_
      refine nc_cond rfl (fun hc101 => ?_) (fun hc101 => ?_)
      · replace h := condT hc101 h
        refine nc_seq ?_
        refine nc ?_
        refine nc ?_
        cases h
        replace hq86 : (Sum.inr true) = o81 := hq86
        subst hq86
        have h := hO83
        try dsimp only [Sum.elim_inl, Sum.elim_inr] at h
        replace h := Option.some.inj h
        subst h
        exact ret_inA [.bool true] ⟨_, rfl, ⟨rfl, H.frame⟩⟩
      · replace h := condF hc101 h
        refine nc ?_
        refine nc ?_
        cases h
        exact again_inA ⟨_, hq86, rfl, H.pickL [1] rfl⟩
    · replace h := condF hc94 h
      refine nc ?_
      cases h
      replace hq86 : (Sum.inl ()) = o81 := hq86
      subst hq86
      have h := hO83
      try dsimp only [Sum.elim_inl, Sum.elim_inr] at h
      exact cut_inA ⟨h, rfl, H.pickL [] rfl⟩
  · rintro _ w102 ⟨h, rfl, H⟩
    unfold gemotref10_Has.k2 at h
    refine nc_seq ?_
    refine nc ?_
    refine nc ?_
    replace h := Option.some.inj h
    subst h
    exact ret_inA [.bool false] ⟨_, rfl, ⟨rfl, H.frame⟩⟩
/-! gemot/gemotref10.Same -/
noncomputable def gemotref10_Same.b1 (x0 : List Int) (x1 : List Int) (v104 : Int) : Option (Int ⊕ (Unit ⊕ Bool)) := cond (decide (v104 < (x0.length : Int))) ((idxL x0 v104).bind fun y150 => (idxL x1 v104).bind fun y156 => cond (y150 != y156) (some (.inr (Sum.inr false))) (some (.inl (IntKind.i64.wrap (v104 + (1 : Int)))))) (some (.inr (Sum.inl ())))
noncomputable def gemotref10_Same.k2 : Option (Bool) := some true
noncomputable def gemotref10_Same.f (x0 : List Int) (x1 : List Int) : Option (Bool) := cond ((x0.length : Int) != (x1.length : Int)) (some false) ((loopM (fun s146 : Int => gemotref10_Same.b1 x0 x1 s146) (0 : Int)).bind (Sum.elim (fun (o144 : Unit) => gemotref10_Same.k2) (fun (o145 : Bool) => some o145)))
set_option maxHeartbeats 4000000 in
theorem gemotref10_Same_ok {ok : Nat → Prop} {w : World} {u1 u6 : Value} {x0 : List Int} {x1 : List Int} {r : Bool} (hu2 : slR (tInt .i64) w ok u1 x0) (hu7 : slR (tInt .i64) w ok u6 x1) (h : gemotref10_Same.f x0 x1 = some r) :
    Calls Tryd.prog 13 #[u1, u6] w fun e w' => ∃ v, e = .returned v ∧ (v = .bool r ∧ Bel w.heap.size w w') := by
  have H : Eng.Own ok w w [] := Eng.Own.nil ok w
  obtain ⟨A3, c4, rfl, H⟩ := H.arg rfl hu2
  obtain ⟨A8, c9, rfl, H⟩ := H.arg rfl hu7
  unfold gemotref10_Same.f at h
  refine enterN (args := [.slice A3 x0.length c4, .slice A8 x1.length c9]) Tryd.func13 rfl Tryd.ntmps13 rfl rfl ?_
  refine nc_seq ?_
  refine nc ?_
  refine nc_seq ?_
  refine nc_seq ?_
  refine nc ?_
  refine nc_cond rfl (fun hc11 => ?_) (fun hc11 => ?_)
  · replace h := condT hc11 h
    refine nc_seq ?_
    refine nc ?_
    refine nc ?_
    replace h := Option.some.inj h
    subst h
    exact ret_inA [.bool false] ⟨_, rfl, ⟨rfl, H.frame⟩⟩
  · replace h := condF hc11 h
    refine nc ?_
    refine nc_cut (fun e w87 => gemotref10_Same.k2 = some r ∧ e = [] ∧ Eng.Own ok w w87 []) ?_ ?_
    · skip
      refine nc_seq ?_
      refine nc ?_
      refine nc_block ?_
      obtain ⟨o136, hL137, hO138⟩ := bindS h
      obtain ⟨n139, hL137⟩ := loopS hL137
      refine nc ?_
      refine loop_ruleA (fun k e w143 => ∃ (v104 : Int), iterM (fun s146 : Int => gemotref10_Same.b1 x0 x1 s146) k v104 = some o136 ∧ e = [(0, .slice A3 x0.length c4), (1, .slice A8 x1.length c9), (5, .int .i64 v104)] ∧ Eng.Own ok w w143 [.dat (dSl (tInt .i64) (.slice A3 x0.length c4) x0), .dat (dSl (tInt .i64) (.slice A8 x1.length c9) x1)]) ⟨_, hL137, rfl, H.pickL [1, 0] rfl⟩ ?_
      rintro k148 _ w147 ⟨v104, hL137, rfl, H⟩
      obtain ⟨k142, rfl, q140, h, hq141⟩ := iterS hL137
      replace h : gemotref10_Same.b1 x0 x1 v104 = some q140 := h
      unfold gemotref10_Same.b1 at h
      refine nc_seq ?_
      refine nc_seq ?_
      refine nc ?_
      refine nc_cond rfl (fun hc149 => ?_) (fun hc149 => ?_)
      · replace h := condT hc149 h
        refine nc ?_
        refine nc_seq ?_
        refine nc_block ?_
        refine nc_seq ?_
        obtain ⟨y150, hx151, h⟩ := bindS h
        obtain ⟨a152, cs153, rfl, hR154, H⟩ := H.elemI 0 rfl hx151
        obtain rfl : cs153 = [.int .i64 y150] := hR154
        obtain ⟨y156, hx157, h⟩ := bindS h
        obtain ⟨a158, cs159, rfl, hR160, H⟩ := H.elemI 2 rfl hx157
        obtain rfl : cs159 = [.int .i64 y156] := hR160
        refine nc ?_
        refine draw_rule [] (by kernel_rfl) (by kernel_rfl) H ?_
        refine c_idxA (e := 3) 1 _ (by kernel_rfl) (by kernel_rfl) (idxL_some hx151).1 (idxL_some hx151).2.1 ?_
        refine c_loadD 1 rfl 0 (by kernel_rfl) rfl ?_
        refine c_idxA (e := 3) 1 _ (by kernel_rfl) (by kernel_rfl) (idxL_some hx157).1 (idxL_some hx157).2.1 ?_
        refine c_loadD 0 rfl 0 (by kernel_rfl) rfl ?_
        intro w162 H
        refine nc_cond rfl (fun hc163 => ?_) (fun hc163 => ?_)
        · replace h := condT hc163 h
          refine nc_seq ?_
          refine nc ?_
          refine nc ?_
          cases h
          replace hq141 : (Sum.inr false) = o136 := hq141
          subst hq141
          have h := hO138
          try dsimp only [Sum.elim_inl, Sum.elim_inr] at h
          replace h := Option.some.inj h
          subst h
          exact ret_inA [.bool false] ⟨_, rfl, ⟨rfl, H.frame⟩⟩
        · replace h := condF hc163 h
          refine nc ?_
          refine nc ?_
          cases h
          exact again_inA ⟨_, hq141, rfl, H.pickL [2, 3] rfl⟩
      · replace h := condF hc149 h
        refine nc ?_
        cases h
        replace hq141 : (Sum.inl ()) = o136 := hq141
        subst hq141
        have h := hO138
        try dsimp only [Sum.elim_inl, Sum.elim_inr] at h
        exact cut_inA ⟨h, rfl, H.pickL [] rfl⟩
    · rintro _ w164 ⟨h, rfl, H⟩
      unfold gemotref10_Same.k2 at h
      refine nc_seq ?_
      refine nc ?_
      refine nc ?_
      replace h := Option.some.inj h
      subst h
      exact ret_inA [.bool true] ⟨_, rfl, ⟨rfl, H.frame⟩⟩
/-! gemot/gemotlaw14.same -/
noncomputable def gemotlaw14_same.b1 (x0 : List (List UInt8)) (x1 : List (List UInt8)) (v104 : Int) : Option (Int ⊕ (Unit ⊕ Bool)) := cond (decide (v104 < (x0.length : Int))) ((idxL x0 v104).bind fun y150 => (idxL x1 v104).bind fun y156 => cond (!(strEq y150 y156)) (some (.inr (Sum.inr false))) (some (.inl (IntKind.i64.wrap (v104 + (1 : Int)))))) (some (.inr (Sum.inl ())))
noncomputable def gemotlaw14_same.k2 : Option (Bool) := some true
noncomputable def gemotlaw14_same.f (x0 : List (List UInt8)) (x1 : List (List UInt8)) : Option (Bool) := cond ((x0.length : Int) != (x1.length : Int)) (some false) ((loopM (fun s146 : Int => gemotlaw14_same.b1 x0 x1 s146) (0 : Int)).bind (Sum.elim (fun (o144 : Unit) => gemotlaw14_same.k2) (fun (o145 : Bool) => some o145)))
set_option maxHeartbeats 4000000 in
theorem gemotlaw14_same_ok {ok : Nat → Prop} {w : World} {u1 u6 : Value} {x0 : List (List UInt8)} {x1 : List (List UInt8)} {r : Bool} (hu2 : slR tStr w ok u1 x0) (hu7 : slR tStr w ok u6 x1) (h : gemotlaw14_same.f x0 x1 = some r) :
    Calls Tryd.prog 18 #[u1, u6] w fun e w' => ∃ v, e = .returned v ∧ (v = .bool r ∧ Bel w.heap.size w w') := by
  have H : Eng.Own ok w w [] := Eng.Own.nil ok w
  obtain ⟨A3, c4, rfl, H⟩ := H.arg rfl hu2
  obtain ⟨A8, c9, rfl, H⟩ := H.arg rfl hu7
  unfold gemotlaw14_same.f at h
  refine enterN (args := [.slice A3 x0.length c4, .slice A8 x1.length c9]) Tryd.func18 rfl Tryd.ntmps18 rfl rfl ?_
  refine nc_seq ?_
  refine nc ?_
  refine nc_seq ?_
  refine nc_seq ?_
  refine nc ?_
  refine nc_cond rfl (fun hc11 => ?_) (fun hc11 => ?_)
  · replace h := condT hc11 h
    refine nc_seq ?_
    refine nc ?_
    refine nc ?_
    replace h := Option.some.inj h
    subst h
    exact ret_inA [.bool false] ⟨_, rfl, ⟨rfl, H.frame⟩⟩
  · replace h := condF hc11 h
    refine nc ?_
    refine nc_cut (fun e w87 => gemotlaw14_same.k2 = some r ∧ e = [] ∧ Eng.Own ok w w87 []) ?_ ?_
    · skip
      refine nc_seq ?_
      refine nc ?_
      refine nc_block ?_
      obtain ⟨o136, hL137, hO138⟩ := bindS h
      obtain ⟨n139, hL137⟩ := loopS hL137
      refine nc ?_
      refine loop_ruleA (fun k e w143 => ∃ (v104 : Int), iterM (fun s146 : Int => gemotlaw14_same.b1 x0 x1 s146) k v104 = some o136 ∧ e = [(0, .slice A3 x0.length c4), (1, .slice A8 x1.length c9), (5, .int .i64 v104)] ∧ Eng.Own ok w w143 [.dat (dSl tStr (.slice A3 x0.length c4) x0), .dat (dSl tStr (.slice A8 x1.length c9) x1)]) ⟨_, hL137, rfl, H.pickL [1, 0] rfl⟩ ?_
      rintro k148 _ w147 ⟨v104, hL137, rfl, H⟩
      obtain ⟨k142, rfl, q140, h, hq141⟩ := iterS hL137
      replace h : gemotlaw14_same.b1 x0 x1 v104 = some q140 := h
      unfold gemotlaw14_same.b1 at h
      refine nc_seq ?_
      refine nc_seq ?_
      refine nc ?_
      refine nc_cond rfl (fun hc149 => ?_) (fun hc149 => ?_)
      · replace h := condT hc149 h
        refine nc ?_
        refine nc_seq ?_
        refine nc_block ?_
        refine nc_seq ?_
        obtain ⟨y150, hx151, h⟩ := bindS h
        obtain ⟨a152, cs153, rfl, hR154, H⟩ := H.elemI 0 rfl hx151
        obtain rfl : cs153 = [.string (bs y150)] := hR154
        obtain ⟨y156, hx157, h⟩ := bindS h
        obtain ⟨a158, cs159, rfl, hR160, H⟩ := H.elemI 2 rfl hx157
        obtain rfl : cs159 = [.string (bs y156)] := hR160
        refine nc ?_
        refine draw_rule [] (by kernel_rfl) (by kernel_rfl) H ?_
        refine c_idxA (e := 9) 1 _ (by kernel_rfl) (by kernel_rfl) (idxL_some hx151).1 (idxL_some hx151).2.1 ?_
        refine c_loadD 1 rfl 0 (by kernel_rfl) rfl ?_
        refine c_idxA (e := 9) 1 _ (by kernel_rfl) (by kernel_rfl) (idxL_some hx157).1 (idxL_some hx157).2.1 ?_
        refine c_loadD 0 rfl 0 (by kernel_rfl) rfl ?_
        intro w162 H
        refine nc_cond rfl (fun hc163 => ?_) (fun hc163 => ?_)
        · replace h := condT hc163 h
          refine nc_seq ?_
          refine nc ?_
          refine nc ?_
          cases h
          replace hq141 : (Sum.inr false) = o136 := hq141
          subst hq141
          have h := hO138
          try dsimp only [Sum.elim_inl, Sum.elim_inr] at h
          replace h := Option.some.inj h
          subst h
          exact ret_inA [.bool false] ⟨_, rfl, ⟨rfl, H.frame⟩⟩
        · replace h := condF hc163 h
          refine nc ?_
          refine nc ?_
          cases h
          exact again_inA ⟨_, hq141, rfl, H.pickL [2, 3] rfl⟩
      · replace h := condF hc149 h
        refine nc ?_
        cases h
        replace hq141 : (Sum.inl ()) = o136 := hq141
        subst hq141
        have h := hO138
        try dsimp only [Sum.elim_inl, Sum.elim_inr] at h
        exact cut_inA ⟨h, rfl, H.pickL [] rfl⟩
    · rintro _ w164 ⟨h, rfl, H⟩
      unfold gemotlaw14_same.k2 at h
      refine nc_seq ?_
      refine nc ?_
      refine nc ?_
      replace h := Option.some.inj h
      subst h
      exact ret_inA [.bool true] ⟨_, rfl, ⟨rfl, H.frame⟩⟩
/-! gemot/gemotlaw14.shown -/
noncomputable def gemotlaw14_shown.k1 (v69 : Bool) : Option (Bool) := some v69
noncomputable def gemotlaw14_shown.f : Option (Bool) := (place_Path.f [40, 40, 49, 50, 41, 51, 41] (2 : Int)).bind fun y72 => (gemotlaw14_same.f y72 ([[108, 114], [108], ([] : List UInt8)] : List (List UInt8))).bind fun y88 => cond y88 ((place_Co.f [40, 40, 49, 50, 41, 51, 41] (2 : Int)).bind fun y95 => (gemotlaw14_same.f y95 ([[108, 108], [114]] : List (List UInt8))).bind fun y111 => cond y111 ((place_Duties.f [40, 40, 49, 50, 41, 51, 41] (1 : Int)).bind fun y118 => (gemotlaw14_same.f y118 ([[108, 108], [108]] : List (List UInt8))).bind fun y134 => gemotlaw14_shown.k1 (cond (cond y88 y111 false) y134 false)) (gemotlaw14_shown.k1 (cond (cond y88 y111 false) false false))) (gemotlaw14_shown.k1 (cond (cond y88 false false) false false))
set_option maxHeartbeats 4000000 in
theorem gemotlaw14_shown_ok {ok : Nat → Prop} {w : World} {r : Bool} (h : gemotlaw14_shown.f = some r) :
    Calls Tryd.prog 7 #[] w fun e w' => ∃ v, e = .returned v ∧ (v = .bool r ∧ Bel w.heap.size w w') := by
  have H : Eng.Own ok w w [] := Eng.Own.nil ok w
  unfold gemotlaw14_shown.f at h
  refine enterN (args := []) Tryd.func7 rfl Tryd.ntmps7 rfl rfl ?_
  refine nc_seq ?_
  refine nc ?_
  refine nc_cut (fun e w70 => ∃ (v69 : Bool), gemotlaw14_shown.k1 v69 = some r ∧ e = [(0, .bool v69)] ∧ Eng.Own ok w w70 []) ?_ ?_
  · skip
    refine nc ?_
    obtain ⟨y72, hy73, h⟩ := bindS h
    refine call_rule (by kernel_rfl) (place_Path_ok (ok := fun _ => False) hy73) fun u78 w74 ⟨hu79, hb77⟩ => ?_
    replace H := H.callDats hb77 [dSl tStr u78 y72] ⟨(slR_any hu79), trivial⟩
    obtain ⟨A80, c81, hA82, _⟩ := H.sl 0 rfl
    subst hA82
    refine own_buildSlice (e := 9) (sz := 1) (z := .string ⟨#[]⟩) (cs := [.string (bs [108, 114]), .string (bs [108]), .string (bs ([] : List UInt8))]) H (by kernel_rfl) (by kernel_rfl) (by kernel_rfl) rfl rfl rfl rfl fun g85 w86 H => ?_
    replace H := H.blkSl (k := tStr) [[108, 114], [108], ([] : List UInt8)] 3 rfl rfl (by decide) ⟨_, _, rfl, rfl, ⟨_, _, rfl, rfl, ⟨_, _, rfl, rfl, rfl⟩⟩⟩
    obtain ⟨y88, hy89, h⟩ := bindS h
    refine call_rule (by kernel_rfl) (gemotlaw14_same_ok (H.dat 1 rfl) (H.dat 0 rfl) hy89) fun v91 w90 ⟨hv92, hb93⟩ => ?_
    subst hv92
    replace H := H.call hb93
    rcases Bool.eq_false_or_eq_true y88 with hg94 | hg94
    · replace h := condT hg94 h
      obtain ⟨y95, hy96, h⟩ := bindS h
      refine call_yes (gT1 hg94 rfl) (by kernel_rfl) (place_Co_ok (ok := fun _ => False) hy96) fun u101 w97 ⟨hu102, hb100⟩ => ?_
      replace H := H.callDats hb100 [dSl tStr u101 y95] ⟨(rowOut_sl (rowOut_any hu102) hb100), trivial⟩
      obtain ⟨A103, c104, hA105, _⟩ := H.sl 0 rfl
      subst hA105
      refine gBS (gT1 hg94 rfl) ?_
      refine own_buildSlice (e := 9) (sz := 1) (z := .string ⟨#[]⟩) (cs := [.string (bs [108, 108]), .string (bs [114])]) H (by kernel_rfl) (by kernel_rfl) (by kernel_rfl) rfl rfl rfl rfl fun g108 w109 H => ?_
      replace H := H.blkSl (k := tStr) [[108, 108], [114]] 2 rfl rfl (by decide) ⟨_, _, rfl, rfl, ⟨_, _, rfl, rfl, rfl⟩⟩
      obtain ⟨y111, hy112, h⟩ := bindS h
      refine call_yes (gT1 hg94 rfl) (by kernel_rfl) (gemotlaw14_same_ok (H.dat 1 rfl) (H.dat 0 rfl) hy112) fun v114 w113 ⟨hv115, hb116⟩ => ?_
      subst hv115
      replace H := H.call hb116
      rcases Bool.eq_false_or_eq_true y111 with hg117 | hg117
      · replace h := condT hg117 h
        obtain ⟨y118, hy119, h⟩ := bindS h
        refine call_yes (gT1 ((pickT hg94).trans hg117) rfl) (by kernel_rfl) (place_Duties_ok (ok := fun _ => False) hy119) fun u124 w120 ⟨hu125, hb123⟩ => ?_
        replace H := H.callDats hb123 [dSl tStr u124 y118] ⟨(rowOut_sl (rowOut_any hu125) hb123), trivial⟩
        obtain ⟨A126, c127, hA128, _⟩ := H.sl 0 rfl
        subst hA128
        refine gBS (gT1 ((pickT hg94).trans hg117) rfl) ?_
        refine own_buildSlice (e := 9) (sz := 1) (z := .string ⟨#[]⟩) (cs := [.string (bs [108, 108]), .string (bs [108])]) H (by kernel_rfl) (by kernel_rfl) (by kernel_rfl) rfl rfl rfl rfl fun g131 w132 H => ?_
        replace H := H.blkSl (k := tStr) [[108, 108], [108]] 2 rfl rfl (by decide) ⟨_, _, rfl, rfl, ⟨_, _, rfl, rfl, rfl⟩⟩
        obtain ⟨y134, hy135, h⟩ := bindS h
        refine call_yes (gT1 ((pickT hg94).trans hg117) rfl) (by kernel_rfl) (gemotlaw14_same_ok (H.dat 1 rfl) (H.dat 0 rfl) hy135) fun v137 w136 ⟨hv138, hb139⟩ => ?_
        subst hv138
        replace H := H.call hb139
        exact cut_inA ⟨_, h, rfl, H.pickL [] rfl⟩
      · replace h := condF hg117 h
        refine call_skip (.slice none 0 0) (gF1 ((pickT hg94).trans hg117)) ?_
        refine skipBS (.slice none 0 0) (gF1 ((pickT hg94).trans hg117)) ?_
        refine call_skip (.bool false) (gF1 ((pickT hg94).trans hg117)) ?_
        exact cut_inA ⟨_, h, rfl, H.pickL [] rfl⟩
    · replace h := condF hg94 h
      refine call_skip (.slice none 0 0) (gF1 hg94) ?_
      refine skipBS (.slice none 0 0) (gF1 hg94) ?_
      refine call_skip (.bool false) (gF1 hg94) ?_
      refine call_skip (.slice none 0 0) (gF1 (pickF hg94)) ?_
      refine skipBS (.slice none 0 0) (gF1 (pickF hg94)) ?_
      refine call_skip (.bool false) (gF1 (pickF hg94)) ?_
      exact cut_inA ⟨_, h, rfl, H.pickL [] rfl⟩
  · rintro _ w140 ⟨v69, h, rfl, H⟩
    unfold gemotlaw14_shown.k1 at h
    refine nc ?_
    replace h := Option.some.inj h
    subst h
    exact ret_inA [.bool v69] ⟨_, rfl, ⟨rfl, H.frame⟩⟩
/-! gemot/gemotlaw14.pick -/
noncomputable def gemotlaw14_pick.k1 (x1 : Int) (v2 : Int) : Option (Int) := (remM v2 x1).bind fun _ => some (v2.tmod x1)
noncomputable def gemotlaw14_pick.f (x0 : Int) (x1 : Int) : Option (Int) := cond (decide (x0 < (0 : Int))) (gemotlaw14_pick.k1 x1 (IntKind.i64.wrap (0 - (IntKind.i64.wrap (x0 + (1 : Int)))))) (gemotlaw14_pick.k1 x1 x0)
set_option maxHeartbeats 4000000 in
theorem gemotlaw14_pick_ok {ok : Nat → Prop} {w : World} {x0 : Int} {x1 : Int} {r : Int} (h : gemotlaw14_pick.f x0 x1 = some r) :
    Calls Tryd.prog 16 #[.int .i64 x0, .int .i64 x1] w fun e w' => ∃ v, e = .returned v ∧ (v = .int .i64 r ∧ Bel w.heap.size w w') := by
  have H : Eng.Own ok w w [] := Eng.Own.nil ok w
  unfold gemotlaw14_pick.f at h
  refine enterN (args := [.int .i64 x0, .int .i64 x1]) Tryd.func16 rfl Tryd.ntmps16 rfl rfl ?_
  refine nc_seq ?_
  refine nc ?_
  refine nc_cut (fun e w3 => ∃ (v2 : Int), gemotlaw14_pick.k1 x1 v2 = some r ∧ e = [(0, .int .i64 v2), (1, .int .i64 x1)] ∧ Eng.Own ok w w3 []) ?_ ?_
  · skip
    refine nc_seq ?_
    refine nc ?_
    refine nc_cond rfl (fun hc5 => ?_) (fun hc5 => ?_)
    · replace h := condT hc5 h
      refine nc ?_
      exact cut_inA ⟨_, h, rfl, H.pickL [] rfl⟩
    · replace h := condF hc5 h
      refine nc ?_
      exact cut_inA ⟨_, h, rfl, H.pickL [] rfl⟩
  · rintro _ w6 ⟨v2, h, rfl, H⟩
    unfold gemotlaw14_pick.k1 at h
    refine nc_seq ?_
    refine nc ?_
    obtain ⟨y7, hy8, h⟩ := bindS h
    obtain ⟨hy8b, rfl⟩ := remS hy8
    refine rem_rule (fun _ => hy8b) ?_
    refine nc ?_
    replace h := Option.some.inj h
    subst h
    exact ret_inA [.int .i64 (v2.tmod x1)] ⟨_, rfl, ⟨rfl, H.frame⟩⟩
/-! gemot/gemotlaw14.made -/
noncomputable def gemotlaw14_made.k1 (x0 : List Int) (v1182 : Int) (v1774 : List UInt8) : Option (((List UInt8) × Int) ⊕ (List UInt8)) := some (.inl (v1774, (IntKind.i64.wrap (v1182 + (1 : Int)))))
noncomputable def gemotlaw14_made.k2 (x0 : List Int) (v1181 : List UInt8) (v1182 : Int) (v1865 : List UInt8) (v1866 : Int) : Option (((List UInt8) × Int) ⊕ (List UInt8)) := cond (v1866 == (0 : Int)) (gemotlaw14_made.k1 x0 v1182 v1865) (gemotlaw14_made.k1 x0 v1182 v1181)
noncomputable def gemotlaw14_made.k3 (x0 : List Int) (v1181 : List UInt8) (v1182 : Int) (y1791 : (List UInt8) × Int) (v1822 : List UInt8) (v1823 : Int) : Option (((List UInt8) × Int) ⊕ (List UInt8)) := (idxL x0 v1182).bind fun y1869 => (gemotlaw14_pick.f y1869 (3 : Int)).bind fun y1875 => cond (y1875 == (2 : Int)) ((tree_Merge.f v1181 y1791.1).bind fun y1882 => gemotlaw14_made.k2 x0 v1181 v1182 y1882.1 y1882.2) (gemotlaw14_made.k2 x0 v1181 v1182 v1822 v1823)
noncomputable def gemotlaw14_made.b4 (x0 : List Int) (v1181 : List UInt8) (v1182 : Int) : Option (((List UInt8) × Int) ⊕ (List UInt8)) := cond (cond (decide (v1182 < (x0.length : Int))) (decide (v1182 < (40 : Int))) false) ((idxL x0 v1182).bind fun y1777 => (divM .i64 y1777 (3 : Int)).bind fun _ => (gemotlaw14_pick.f (IntKind.i64.wrap (y1777.tdiv (3 : Int))) (8 : Int)).bind fun y1785 => (tree_Leaf.f (IntKind.i64.wrap ((1 : Int) + y1785))).bind fun y1791 => (tree_Join.f v1181 (IntKind.i64.wrap ((1 : Int) + y1785))).bind fun y1797 => (idxL x0 v1182).bind fun y1826 => (gemotlaw14_pick.f y1826 (3 : Int)).bind fun y1832 => cond (y1832 == (1 : Int)) ((tree_Leave.f v1181 (IntKind.i64.wrap ((1 : Int) + y1785))).bind fun y1839 => gemotlaw14_made.k3 x0 v1181 v1182 y1791 y1839.1 y1839.2) (gemotlaw14_made.k3 x0 v1181 v1182 y1791 y1797.1 y1797.2)) (some (.inr v1181))
noncomputable def gemotlaw14_made.k5 (v947 : List UInt8) : Option ((List UInt8)) := some v947
noncomputable def gemotlaw14_made.f (x0 : List Int) : Option ((List UInt8)) := (loopM (fun s1657 : (List UInt8) × Int => gemotlaw14_made.b4 x0 s1657.1 s1657.2) ([49], (0 : Int))).bind (fun (o1656 : (List UInt8)) => gemotlaw14_made.k5 o1656)
set_option maxHeartbeats 4000000 in
theorem gemotlaw14_made_ok {ok : Nat → Prop} {w : World} {u1 : Value} {x0 : List Int} {r : (List UInt8)} (hu2 : slR (tInt .i64) w ok u1 x0) (h : gemotlaw14_made.f x0 = some r) :
    Calls Tryd.prog 8 #[u1] w fun e w' => ∃ v, e = .returned v ∧ (v = .string (bs r) ∧ Bel w.heap.size w w') := by
  have H : Eng.Own ok w w [] := Eng.Own.nil ok w
  obtain ⟨A3, c4, rfl, H⟩ := H.arg rfl hu2
  unfold gemotlaw14_made.f at h
  refine enterN (args := [.slice A3 x0.length c4]) Tryd.func8 rfl Tryd.ntmps8 rfl rfl ?_
  refine nc_seq ?_
  refine nc ?_
  refine nc_seq ?_
  refine nc ?_
  refine nc_cut (fun e w948 => ∃ (v947 : List UInt8), gemotlaw14_made.k5 v947 = some r ∧ e = [(3, .string (bs v947))] ∧ Eng.Own ok w w948 []) ?_ ?_
  · skip
    refine nc_seq ?_
    refine nc ?_
    refine nc_block ?_
    obtain ⟨o1648, hL1649, hO1650⟩ := bindS h
    obtain ⟨n1651, hL1649⟩ := loopS hL1649
    refine nc ?_
    refine loop_ruleA (fun k e w1655 => ∃ (v1181 : List UInt8) (v1182 : Int), iterM (fun s1657 : (List UInt8) × Int => gemotlaw14_made.b4 x0 s1657.1 s1657.2) k (v1181, v1182) = some o1648 ∧ e = [(0, .slice A3 x0.length c4), (3, .string (bs v1181)), (4, .int .i64 v1182)] ∧ Eng.Own ok w w1655 [.dat (dSl (tInt .i64) (.slice A3 x0.length c4) x0)]) ⟨_, _, hL1649, rfl, H.pickL [0] rfl⟩ ?_
    rintro k1659 _ w1658 ⟨v1181, v1182, hL1649, rfl, H⟩
    obtain ⟨k1654, rfl, q1652, h, hq1653⟩ := iterS hL1649
    replace h : gemotlaw14_made.b4 x0 v1181 v1182 = some q1652 := h
    unfold gemotlaw14_made.b4 at h
    refine nc_seq ?_
    refine nc_seq ?_
    refine nc ?_
    refine nc_cond rfl (fun hc1660 => ?_) (fun hc1660 => ?_)
    · replace h := condT hc1660 h
      refine nc ?_
      refine nc_cut (fun e w1775 => ∃ (v1774 : List UInt8), gemotlaw14_made.k1 x0 v1182 v1774 = some q1652 ∧ e = [(0, .slice A3 x0.length c4), (3, .string (bs v1774)), (4, .int .i64 v1182)] ∧ Eng.Own ok w w1775 [.dat (dSl (tInt .i64) (.slice A3 x0.length c4) x0)]) ?_ ?_
      · skip
        refine nc_block ?_
        refine nc_seq ?_
        refine nc ?_
        obtain ⟨y1777, hx1778, h⟩ := bindS h
        obtain ⟨a1779, cs1780, rfl, hR1781, H⟩ := H.elemI 0 rfl hx1778
        obtain rfl : cs1780 = [.int .i64 y1777] := hR1781
        refine idxA_rule (e := 3) 1 _ (by kernel_rfl) (by kernel_rfl) (idxL_some hx1778).1 (idxL_some hx1778).2.1 ?_
        refine own_loadD H 0 rfl 0 (by kernel_rfl) rfl ?_
        obtain ⟨y1783, hy1784, h⟩ := bindS h
        obtain ⟨hy1784b, rfl⟩ := divS hy1784
        refine quo_rule (fun _ => hy1784b) ?_
        obtain ⟨y1785, hy1786, h⟩ := bindS h
        refine call_rule (by kernel_rfl) (gemotlaw14_pick_ok (ok := fun _ => False) hy1786) fun v1788 w1787 ⟨hv1789, hb1790⟩ => ?_
        subst hv1789
        replace H := H.call hb1790
        refine nc_seq ?_
        refine nc ?_
        obtain ⟨y1791, hy1792, h⟩ := bindS h
        refine call_rule (by kernel_rfl) (tree_Leaf_ok hy1792) fun v1794 w1793 ⟨hv1795, hb1796⟩ => ?_
        subst hv1795
        replace H := H.call hb1796
        refine nc_seq ?_
        refine nc ?_
        obtain ⟨y1797, hy1798, h⟩ := bindS h
        refine call_rule (by kernel_rfl) (tree_Join_ok hy1798) fun v1800 w1799 ⟨hv1801, hb1802⟩ => ?_
        subst hv1801
        replace H := H.call hb1802
        refine nc_cut (fun e w1824 => ∃ (v1822 : List UInt8) (v1823 : Int), gemotlaw14_made.k3 x0 v1181 v1182 y1791 v1822 v1823 = some q1652 ∧ e = [(0, .slice (some a1779) x0.length c4), (3, .string (bs v1181)), (4, .int .i64 v1182), (6, .string (bs y1791.1)), (8, .string (bs v1822)), (9, .int .i64 v1823)] ∧ Eng.Own ok w w1824 [.dat (dSl (tInt .i64) (.slice (some a1779) x0.length c4) x0)]) ?_ ?_
        · skip
          refine nc_seq ?_
          refine nc ?_
          obtain ⟨y1826, hx1827, h⟩ := bindS h
          obtain ⟨cs1829, hR1830, H⟩ := H.elemJ 1 rfl hx1827
          obtain rfl : cs1829 = [.int .i64 y1826] := hR1830
          refine idxA_rule (e := 3) 1 _ (by kernel_rfl) (by kernel_rfl) (idxL_some hx1827).1 (idxL_some hx1827).2.1 ?_
          refine own_loadD H 0 rfl 0 (by kernel_rfl) rfl ?_
          obtain ⟨y1832, hy1833, h⟩ := bindS h
          refine call_rule (by kernel_rfl) (gemotlaw14_pick_ok (ok := fun _ => False) hy1833) fun v1835 w1834 ⟨hv1836, hb1837⟩ => ?_
          subst hv1836
          replace H := H.call hb1837
          refine nc_cond rfl (fun hc1838 => ?_) (fun hc1838 => ?_)
          · replace h := condT hc1838 h
            refine nc ?_
            obtain ⟨y1839, hy1840, h⟩ := bindS h
            refine call_rule (by kernel_rfl) (tree_Leave_ok hy1840) fun v1842 w1841 ⟨hv1843, hb1844⟩ => ?_
            subst hv1843
            replace H := H.call hb1844
            exact cut_inA ⟨_, _, h, rfl, H.pickL [2] rfl⟩
          · replace h := condF hc1838 h
            refine nc ?_
            exact cut_inA ⟨_, _, h, rfl, H.pickL [2] rfl⟩
        · rintro _ w1845 ⟨v1822, v1823, h, rfl, H⟩
          unfold gemotlaw14_made.k3 at h
          refine nc_cut (fun e w1867 => ∃ (v1865 : List UInt8) (v1866 : Int), gemotlaw14_made.k2 x0 v1181 v1182 v1865 v1866 = some q1652 ∧ e = [(0, .slice (some a1779) x0.length c4), (3, .string (bs v1181)), (4, .int .i64 v1182), (8, .string (bs v1865)), (9, .int .i64 v1866)] ∧ Eng.Own ok w w1867 [.dat (dSl (tInt .i64) (.slice (some a1779) x0.length c4) x0)]) ?_ ?_
          · skip
            refine nc_seq ?_
            refine nc ?_
            obtain ⟨y1869, hx1870, h⟩ := bindS h
            obtain ⟨cs1872, hR1873, H⟩ := H.elemJ 0 rfl hx1870
            obtain rfl : cs1872 = [.int .i64 y1869] := hR1873
            refine idxA_rule (e := 3) 1 _ (by kernel_rfl) (by kernel_rfl) (idxL_some hx1870).1 (idxL_some hx1870).2.1 ?_
            refine own_loadD H 0 rfl 0 (by kernel_rfl) rfl ?_
            obtain ⟨y1875, hy1876, h⟩ := bindS h
            refine call_rule (by kernel_rfl) (gemotlaw14_pick_ok (ok := fun _ => False) hy1876) fun v1878 w1877 ⟨hv1879, hb1880⟩ => ?_
            subst hv1879
            replace H := H.call hb1880
            refine nc_cond rfl (fun hc1881 => ?_) (fun hc1881 => ?_)
            · replace h := condT hc1881 h
              refine nc ?_
              obtain ⟨y1882, hy1883, h⟩ := bindS h
              refine call_rule (by kernel_rfl) (tree_Merge_ok hy1883) fun v1885 w1884 ⟨hv1886, hb1887⟩ => ?_
              subst hv1886
              replace H := H.call hb1887
              exact cut_inA ⟨_, _, h, rfl, H.pickL [1] rfl⟩
            · replace h := condF hc1881 h
              refine nc ?_
              exact cut_inA ⟨_, _, h, rfl, H.pickL [1] rfl⟩
          · rintro _ w1888 ⟨v1865, v1866, h, rfl, H⟩
            unfold gemotlaw14_made.k2 at h
            refine nc_seq ?_
            refine nc ?_
            refine nc_cond rfl (fun hc1889 => ?_) (fun hc1889 => ?_)
            · replace h := condT hc1889 h
              refine nc ?_
              exact cut_inA ⟨_, h, rfl, H.pickL [0] rfl⟩
            · replace h := condF hc1889 h
              refine nc ?_
              exact cut_inA ⟨_, h, rfl, H.pickL [0] rfl⟩
      · rintro _ w1890 ⟨v1774, h, rfl, H⟩
        unfold gemotlaw14_made.k1 at h
        refine nc ?_
        cases h
        exact again_inA ⟨_, _, hq1653, rfl, H.pickL [0] rfl⟩
    · replace h := condF hc1660 h
      refine nc ?_
      cases h
      replace hq1653 : v1181 = o1648 := hq1653
      subst hq1653
      have h := hO1650
      try dsimp only [Sum.elim_inl, Sum.elim_inr] at h
      exact cut_inA ⟨_, h, rfl, H.pickL [] rfl⟩
  · rintro _ w1891 ⟨v947, h, rfl, H⟩
    unfold gemotlaw14_made.k5 at h
    refine nc_seq ?_
    refine nc ?_
    refine nc ?_
    replace h := Option.some.inj h
    subst h
    exact ret_inA [.string (bs v947)] ⟨_, rfl, ⟨rfl, H.frame⟩⟩
/-! gemot/gemotlaw14.PlaceOne -/
noncomputable def gemotlaw14_PlaceOne.k1 (v476 : Bool) : Option (Bool) := some v476
noncomputable def gemotlaw14_PlaceOne.k2 (y7 : Int) (y13 : Int) (y19 : (List UInt8) × Int) (v228 : Bool) : Option (Bool) := cond v228 (some false) (cond ((IntKind.i64.wrap ((1 : Int) + y7)) == (IntKind.i64.wrap ((1 : Int) + y13))) ((place_Path.f y19.1 (IntKind.i64.wrap ((1 : Int) + y13))).bind fun y300 => some ((y300.length : Int) == (1 : Int))) ((tree_Join.f y19.1 (IntKind.i64.wrap ((1 : Int) + y13))).bind fun y312 => cond (y312.2 == (0 : Int)) ((place_Path.f y19.1 (IntKind.i64.wrap ((1 : Int) + y13))).bind fun y480 => cond ((y480.length : Int) == (0 : Int)) ((place_Nodes.f y312.1).bind fun y493 => (gemotlaw14_same.f y493 ([([] : List UInt8), [108], [114]] : List (List UInt8))).bind fun y509 => cond y509 ((place_Path.f y312.1 (IntKind.i64.wrap ((1 : Int) + y7))).bind fun y516 => (gemotlaw14_same.f y516 ([[108], ([] : List UInt8)] : List (List UInt8))).bind fun y532 => cond y532 ((place_Path.f y312.1 (IntKind.i64.wrap ((1 : Int) + y13))).bind fun y539 => (gemotlaw14_same.f y539 ([[114], ([] : List UInt8)] : List (List UInt8))).bind fun y555 => cond y555 ((place_Duties.f y312.1 (IntKind.i64.wrap ((1 : Int) + y7))).bind fun y562 => (gemotlaw14_same.f y562 ([[108]] : List (List UInt8))).bind fun y578 => cond y578 ((place_Duties.f y312.1 (IntKind.i64.wrap ((1 : Int) + y13))).bind fun y585 => (gemotlaw14_same.f y585 ([[114]] : List (List UInt8))).bind fun y601 => cond y601 ((place_Co.f y312.1 (IntKind.i64.wrap ((1 : Int) + y7))).bind fun y608 => (gemotlaw14_same.f y608 ([[114]] : List (List UInt8))).bind fun y624 => cond y624 ((place_Sponsor.f y312.1 ([] : List UInt8)).bind fun y631 => gemotlaw14_PlaceOne.k1 (cond (cond (cond (cond (cond (cond (cond (cond (y312.2 == (0 : Int)) ((y480.length : Int) == (0 : Int)) false) y509 false) y532 false) y555 false) y578 false) y601 false) y624 false) (y631 == (minI (IntKind.i64.wrap ((1 : Int) + y7)) (IntKind.i64.wrap ((1 : Int) + y13)))) false)) (gemotlaw14_PlaceOne.k1 (cond (cond (cond (cond (cond (cond (cond (cond (y312.2 == (0 : Int)) ((y480.length : Int) == (0 : Int)) false) y509 false) y532 false) y555 false) y578 false) y601 false) y624 false) ((0 : Int) == (minI (IntKind.i64.wrap ((1 : Int) + y7)) (IntKind.i64.wrap ((1 : Int) + y13)))) false))) (gemotlaw14_PlaceOne.k1 (cond (cond (cond (cond (cond (cond (cond (cond (y312.2 == (0 : Int)) ((y480.length : Int) == (0 : Int)) false) y509 false) y532 false) y555 false) y578 false) y601 false) false false) ((0 : Int) == (minI (IntKind.i64.wrap ((1 : Int) + y7)) (IntKind.i64.wrap ((1 : Int) + y13)))) false))) (gemotlaw14_PlaceOne.k1 (cond (cond (cond (cond (cond (cond (cond (cond (y312.2 == (0 : Int)) ((y480.length : Int) == (0 : Int)) false) y509 false) y532 false) y555 false) y578 false) false false) false false) ((0 : Int) == (minI (IntKind.i64.wrap ((1 : Int) + y7)) (IntKind.i64.wrap ((1 : Int) + y13)))) false))) (gemotlaw14_PlaceOne.k1 (cond (cond (cond (cond (cond (cond (cond (cond (y312.2 == (0 : Int)) ((y480.length : Int) == (0 : Int)) false) y509 false) y532 false) y555 false) false false) false false) false false) ((0 : Int) == (minI (IntKind.i64.wrap ((1 : Int) + y7)) (IntKind.i64.wrap ((1 : Int) + y13)))) false))) (gemotlaw14_PlaceOne.k1 (cond (cond (cond (cond (cond (cond (cond (cond (y312.2 == (0 : Int)) ((y480.length : Int) == (0 : Int)) false) y509 false) y532 false) false false) false false) false false) false false) ((0 : Int) == (minI (IntKind.i64.wrap ((1 : Int) + y7)) (IntKind.i64.wrap ((1 : Int) + y13)))) false))) (gemotlaw14_PlaceOne.k1 (cond (cond (cond (cond (cond (cond (cond (cond (y312.2 == (0 : Int)) ((y480.length : Int) == (0 : Int)) false) y509 false) false false) false false) false false) false false) false false) ((0 : Int) == (minI (IntKind.i64.wrap ((1 : Int) + y7)) (IntKind.i64.wrap ((1 : Int) + y13)))) false))) (gemotlaw14_PlaceOne.k1 (cond (cond (cond (cond (cond (cond (cond (cond (y312.2 == (0 : Int)) ((y480.length : Int) == (0 : Int)) false) false false) false false) false false) false false) false false) false false) ((0 : Int) == (minI (IntKind.i64.wrap ((1 : Int) + y7)) (IntKind.i64.wrap ((1 : Int) + y13)))) false))) (gemotlaw14_PlaceOne.k1 (cond (cond (cond (cond (cond (cond (cond (cond (y312.2 == (0 : Int)) ((0 : Int) == (0 : Int)) false) false false) false false) false false) false false) false false) false false) ((0 : Int) == (minI (IntKind.i64.wrap ((1 : Int) + y7)) (IntKind.i64.wrap ((1 : Int) + y13)))) false))))
noncomputable def gemotlaw14_PlaceOne.f (x0 : Int) (x1 : Int) : Option (Bool) := (gemotlaw14_shown.f).bind fun y1 => (gemotlaw14_pick.f x0 (8 : Int)).bind fun y7 => (gemotlaw14_pick.f x1 (8 : Int)).bind fun y13 => (tree_Leaf.f (IntKind.i64.wrap ((1 : Int) + y7))).bind fun y19 => cond (!y1) (gemotlaw14_PlaceOne.k2 y7 y13 y19 (cond (cond (cond (cond (!y1) true (!false)) true (!false)) true ((0 : Int) != (0 : Int))) true ((0 : Int) != (IntKind.i64.wrap ((1 : Int) + y7))))) ((place_Nodes.f y19.1).bind fun y232 => (gemotlaw14_same.f y232 ([([] : List UInt8)] : List (List UInt8))).bind fun y248 => cond (!y248) (gemotlaw14_PlaceOne.k2 y7 y13 y19 (cond (cond (cond (cond (!y1) true (!y248)) true (!false)) true ((0 : Int) != (0 : Int))) true ((0 : Int) != (IntKind.i64.wrap ((1 : Int) + y7))))) ((place_Path.f y19.1 (IntKind.i64.wrap ((1 : Int) + y7))).bind fun y255 => (gemotlaw14_same.f y255 ([([] : List UInt8)] : List (List UInt8))).bind fun y271 => cond (!y271) (gemotlaw14_PlaceOne.k2 y7 y13 y19 (cond (cond (cond (cond (!y1) true (!y248)) true (!y271)) true ((0 : Int) != (0 : Int))) true ((0 : Int) != (IntKind.i64.wrap ((1 : Int) + y7))))) ((place_Duties.f y19.1 (IntKind.i64.wrap ((1 : Int) + y7))).bind fun y278 => cond ((y278.length : Int) != (0 : Int)) (gemotlaw14_PlaceOne.k2 y7 y13 y19 (cond (cond (cond (cond (!y1) true (!y248)) true (!y271)) true ((y278.length : Int) != (0 : Int))) true ((0 : Int) != (IntKind.i64.wrap ((1 : Int) + y7))))) ((place_Sponsor.f y19.1 ([] : List UInt8)).bind fun y291 => gemotlaw14_PlaceOne.k2 y7 y13 y19 (cond (cond (cond (cond (!y1) true (!y248)) true (!y271)) true ((y278.length : Int) != (0 : Int))) true (y291 != (IntKind.i64.wrap ((1 : Int) + y7))))))))
set_option maxHeartbeats 4000000 in
theorem gemotlaw14_PlaceOne_ok {ok : Nat → Prop} {w : World} {x0 : Int} {x1 : Int} {r : Bool} (h : gemotlaw14_PlaceOne.f x0 x1 = some r) :
    Calls Tryd.prog 4 #[.int .i64 x0, .int .i64 x1] w fun e w' => ∃ v, e = .returned v ∧ (v = .bool r ∧ Bel w.heap.size w w') := by
  have H : Eng.Own ok w w [] := Eng.Own.nil ok w
  unfold gemotlaw14_PlaceOne.f at h
  refine enterN (args := [.int .i64 x0, .int .i64 x1]) Tryd.func4 rfl Tryd.ntmps4 rfl rfl ?_
  refine nc_seq ?_
  refine nc ?_
  refine nc_seq ?_
  refine nc ?_
  obtain ⟨y1, hy2, h⟩ := bindS h
  refine call_rule (by kernel_rfl) (gemotlaw14_shown_ok (ok := fun _ => False) hy2) fun v4 w3 ⟨hv5, hb6⟩ => ?_
  subst hv5
  replace H := H.call hb6
  refine nc_seq ?_
  refine nc ?_
  obtain ⟨y7, hy8, h⟩ := bindS h
  refine call_rule (by kernel_rfl) (gemotlaw14_pick_ok (ok := fun _ => False) hy8) fun v10 w9 ⟨hv11, hb12⟩ => ?_
  subst hv11
  replace H := H.call hb12
  refine nc_seq ?_
  refine nc ?_
  obtain ⟨y13, hy14, h⟩ := bindS h
  refine call_rule (by kernel_rfl) (gemotlaw14_pick_ok (ok := fun _ => False) hy14) fun v16 w15 ⟨hv17, hb18⟩ => ?_
  subst hv17
  replace H := H.call hb18
  refine nc_seq ?_
  refine nc ?_
  obtain ⟨y19, hy20, h⟩ := bindS h
  refine call_rule (by kernel_rfl) (tree_Leaf_ok hy20) fun v22 w21 ⟨hv23, hb24⟩ => ?_
  subst hv23
  replace H := H.call hb24
  refine nc_seq ?_
  refine nc_cut (fun e w229 => ∃ (v228 : Bool), gemotlaw14_PlaceOne.k2 y7 y13 y19 v228 = some r ∧ e = [(0, .int .i64 (IntKind.i64.wrap ((1 : Int) + y7))), (1, .int .i64 (IntKind.i64.wrap ((1 : Int) + y13))), (6, .string (bs y19.1)), (51, .bool v228)] ∧ Eng.Own ok w w229 []) ?_ ?_
  · skip
    refine nc ?_
    rcases Bool.eq_false_or_eq_true (!y1) with hg231 | hg231
    · replace h := condT hg231 h
      refine call_skip (.slice none 0 0) (gF0 hg231) ?_
      refine skipBS (.slice none 0 0) (gF0 hg231) ?_
      refine call_skip (.bool false) (gF0 hg231) ?_
      refine call_skip (.slice none 0 0) (gF0 (pickT hg231)) ?_
      refine skipBS (.slice none 0 0) (gF0 (pickT hg231)) ?_
      refine call_skip (.bool false) (gF0 (pickT hg231)) ?_
      refine call_skip (.slice none 0 0) (gF0 (pickT (pickT hg231))) ?_
      refine call_skip (.int .i64 0) (gF0 (pickT (pickT (pickT hg231)))) ?_
      exact cut_inA ⟨_, h, rfl, H.pickL [] rfl⟩
    · replace h := condF hg231 h
      obtain ⟨y232, hy233, h⟩ := bindS h
      refine call_yes (gT0 hg231 rfl) (by kernel_rfl) (place_Nodes_ok (ok := fun _ => False) hy233) fun u238 w234 ⟨hu239, hb237⟩ => ?_
      replace H := H.callDats hb237 [dSl tStr u238 y232] ⟨(slR_any hu239), trivial⟩
      obtain ⟨A240, c241, hA242, _⟩ := H.sl 0 rfl
      subst hA242
      refine gBS (gT0 hg231 rfl) ?_
      refine own_buildSlice (e := 9) (sz := 1) (z := .string ⟨#[]⟩) (cs := [.string (bs ([] : List UInt8))]) H (by kernel_rfl) (by kernel_rfl) (by kernel_rfl) rfl rfl rfl rfl fun g245 w246 H => ?_
      replace H := H.blkSl (k := tStr) [([] : List UInt8)] 1 rfl rfl (by decide) ⟨_, _, rfl, rfl, rfl⟩
      obtain ⟨y248, hy249, h⟩ := bindS h
      refine call_yes (gT0 hg231 rfl) (by kernel_rfl) (gemotlaw14_same_ok (H.dat 1 rfl) (H.dat 0 rfl) hy249) fun v251 w250 ⟨hv252, hb253⟩ => ?_
      subst hv252
      replace H := H.call hb253
      rcases Bool.eq_false_or_eq_true (!y248) with hg254 | hg254
      · replace h := condT hg254 h
        refine call_skip (.slice none 0 0) (gF0 ((pickF hg231).trans hg254)) ?_
        refine skipBS (.slice none 0 0) (gF0 ((pickF hg231).trans hg254)) ?_
        refine call_skip (.bool false) (gF0 ((pickF hg231).trans hg254)) ?_
        refine call_skip (.slice none 0 0) (gF0 (pickT ((pickF hg231).trans hg254))) ?_
        refine call_skip (.int .i64 0) (gF0 (pickT (pickT ((pickF hg231).trans hg254)))) ?_
        exact cut_inA ⟨_, h, rfl, H.pickL [] rfl⟩
      · replace h := condF hg254 h
        obtain ⟨y255, hy256, h⟩ := bindS h
        refine call_yes (gT0 ((pickF hg231).trans hg254) rfl) (by kernel_rfl) (place_Path_ok (ok := fun _ => False) hy256) fun u261 w257 ⟨hu262, hb260⟩ => ?_
        replace H := H.callDats hb260 [dSl tStr u261 y255] ⟨(slR_any hu262), trivial⟩
        obtain ⟨A263, c264, hA265, _⟩ := H.sl 0 rfl
        subst hA265
        refine gBS (gT0 ((pickF hg231).trans hg254) rfl) ?_
        refine own_buildSlice (e := 9) (sz := 1) (z := .string ⟨#[]⟩) (cs := [.string (bs ([] : List UInt8))]) H (by kernel_rfl) (by kernel_rfl) (by kernel_rfl) rfl rfl rfl rfl fun g268 w269 H => ?_
        replace H := H.blkSl (k := tStr) [([] : List UInt8)] 1 rfl rfl (by decide) ⟨_, _, rfl, rfl, rfl⟩
        obtain ⟨y271, hy272, h⟩ := bindS h
        refine call_yes (gT0 ((pickF hg231).trans hg254) rfl) (by kernel_rfl) (gemotlaw14_same_ok (H.dat 1 rfl) (H.dat 0 rfl) hy272) fun v274 w273 ⟨hv275, hb276⟩ => ?_
        subst hv275
        replace H := H.call hb276
        rcases Bool.eq_false_or_eq_true (!y271) with hg277 | hg277
        · replace h := condT hg277 h
          refine call_skip (.slice none 0 0) (gF0 ((pickF ((pickF hg231).trans hg254)).trans hg277)) ?_
          refine call_skip (.int .i64 0) (gF0 (pickT ((pickF ((pickF hg231).trans hg254)).trans hg277))) ?_
          exact cut_inA ⟨_, h, rfl, H.pickL [] rfl⟩
        · replace h := condF hg277 h
          obtain ⟨y278, hy279, h⟩ := bindS h
          refine call_yes (gT0 ((pickF ((pickF hg231).trans hg254)).trans hg277) rfl) (by kernel_rfl) (place_Duties_ok (ok := fun _ => False) hy279) fun u284 w280 ⟨hu285, hb283⟩ => ?_
          replace H := H.callDats hb283 [dSl tStr u284 y278] ⟨(rowOut_sl (rowOut_any hu285) hb283), trivial⟩
          obtain ⟨A286, c287, hA288, _⟩ := H.sl 0 rfl
          subst hA288
          rcases Bool.eq_false_or_eq_true ((y278.length : Int) != (0 : Int)) with hg290 | hg290
          · replace h := condT hg290 h
            refine call_skip (.int .i64 0) (gF0 ((pickF ((pickF ((pickF hg231).trans hg254)).trans hg277)).trans hg290)) ?_
            exact cut_inA ⟨_, h, rfl, H.pickL [] rfl⟩
          · replace h := condF hg290 h
            obtain ⟨y291, hy292, h⟩ := bindS h
            refine call_yes (gT0 ((pickF ((pickF ((pickF hg231).trans hg254)).trans hg277)).trans hg290) rfl) (by kernel_rfl) (place_Sponsor_ok (ok := fun _ => False) hy292) fun v294 w293 ⟨hv295, hb296⟩ => ?_
            subst hv295
            replace H := H.call hb296
            exact cut_inA ⟨_, h, rfl, H.pickL [] rfl⟩
  · rintro _ w297 ⟨v228, h, rfl, H⟩
    unfold gemotlaw14_PlaceOne.k2 at h
    refine nc_cond rfl (fun hc298 => ?_) (fun hc298 => ?_)
    · replace h := condT hc298 h
      refine nc_seq ?_
      refine nc ?_
      refine nc ?_
      replace h := Option.some.inj h
      subst h
      exact ret_inA [.bool false] ⟨_, rfl, ⟨rfl, H.frame⟩⟩
    · replace h := condF hc298 h
      refine nc ?_
      refine nc_seq ?_
      refine nc_seq ?_
      refine nc ?_
      refine nc_cond rfl (fun hc299 => ?_) (fun hc299 => ?_)
      · replace h := condT hc299 h
        refine nc_seq ?_
        refine nc ?_
        obtain ⟨y300, hy301, h⟩ := bindS h
        refine call_rule (by kernel_rfl) (place_Path_ok (ok := fun _ => False) hy301) fun u306 w302 ⟨hu307, hb305⟩ => ?_
        replace H := H.callDats hb305 [dSl tStr u306 y300] ⟨(slR_any hu307), trivial⟩
        obtain ⟨A308, c309, hA310, _⟩ := H.sl 0 rfl
        subst hA310
        refine nc ?_
        replace h := Option.some.inj h
        subst h
        exact ret_inA [.bool ((y300.length : Int) == (1 : Int))] ⟨_, rfl, ⟨rfl, H.frame⟩⟩
      · replace h := condF hc299 h
        refine nc ?_
        refine nc_seq ?_
        refine nc ?_
        obtain ⟨y312, hy313, h⟩ := bindS h
        refine call_rule (by kernel_rfl) (tree_Join_ok hy313) fun v315 w314 ⟨hv316, hb317⟩ => ?_
        subst hv316
        replace H := H.call hb317
        refine nc_cut (fun e w477 => ∃ (v476 : Bool), gemotlaw14_PlaceOne.k1 v476 = some r ∧ e = [(4, .bool v476)] ∧ Eng.Own ok w w477 []) ?_ ?_
        · skip
          refine nc ?_
          rcases Bool.eq_false_or_eq_true (y312.2 == (0 : Int)) with hg479 | hg479
          · replace h := condT hg479 h
            obtain ⟨y480, hy481, h⟩ := bindS h
            refine call_yes (gT1 hg479 rfl) (by kernel_rfl) (place_Path_ok (ok := fun _ => False) hy481) fun u486 w482 ⟨hu487, hb485⟩ => ?_
            replace H := H.callDats hb485 [dSl tStr u486 y480] ⟨(slR_any hu487), trivial⟩
            obtain ⟨A488, c489, hA490, _⟩ := H.sl 0 rfl
            subst hA490
            rcases Bool.eq_false_or_eq_true ((y480.length : Int) == (0 : Int)) with hg492 | hg492
            · replace h := condT hg492 h
              obtain ⟨y493, hy494, h⟩ := bindS h
              refine call_yes (gT1 ((pickT hg479).trans hg492) rfl) (by kernel_rfl) (place_Nodes_ok (ok := fun _ => False) hy494) fun u499 w495 ⟨hu500, hb498⟩ => ?_
              replace H := H.callDats hb498 [dSl tStr u499 y493] ⟨(slR_any hu500), trivial⟩
              obtain ⟨A501, c502, hA503, _⟩ := H.sl 0 rfl
              subst hA503
              refine gBS (gT1 ((pickT hg479).trans hg492) rfl) ?_
              refine own_buildSlice (e := 9) (sz := 1) (z := .string ⟨#[]⟩) (cs := [.string (bs ([] : List UInt8)), .string (bs [108]), .string (bs [114])]) H (by kernel_rfl) (by kernel_rfl) (by kernel_rfl) rfl rfl rfl rfl fun g506 w507 H => ?_
              replace H := H.blkSl (k := tStr) [([] : List UInt8), [108], [114]] 3 rfl rfl (by decide) ⟨_, _, rfl, rfl, ⟨_, _, rfl, rfl, ⟨_, _, rfl, rfl, rfl⟩⟩⟩
              obtain ⟨y509, hy510, h⟩ := bindS h
              refine call_yes (gT1 ((pickT hg479).trans hg492) rfl) (by kernel_rfl) (gemotlaw14_same_ok (H.dat 1 rfl) (H.dat 0 rfl) hy510) fun v512 w511 ⟨hv513, hb514⟩ => ?_
              subst hv513
              replace H := H.call hb514
              rcases Bool.eq_false_or_eq_true y509 with hg515 | hg515
              · replace h := condT hg515 h
                obtain ⟨y516, hy517, h⟩ := bindS h
                refine call_yes (gT1 ((pickT ((pickT hg479).trans hg492)).trans hg515) rfl) (by kernel_rfl) (place_Path_ok (ok := fun _ => False) hy517) fun u522 w518 ⟨hu523, hb521⟩ => ?_
                replace H := H.callDats hb521 [dSl tStr u522 y516] ⟨(slR_any hu523), trivial⟩
                obtain ⟨A524, c525, hA526, _⟩ := H.sl 0 rfl
                subst hA526
                refine gBS (gT1 ((pickT ((pickT hg479).trans hg492)).trans hg515) rfl) ?_
                refine own_buildSlice (e := 9) (sz := 1) (z := .string ⟨#[]⟩) (cs := [.string (bs [108]), .string (bs ([] : List UInt8))]) H (by kernel_rfl) (by kernel_rfl) (by kernel_rfl) rfl rfl rfl rfl fun g529 w530 H => ?_
                replace H := H.blkSl (k := tStr) [[108], ([] : List UInt8)] 2 rfl rfl (by decide) ⟨_, _, rfl, rfl, ⟨_, _, rfl, rfl, rfl⟩⟩
                obtain ⟨y532, hy533, h⟩ := bindS h
                refine call_yes (gT1 ((pickT ((pickT hg479).trans hg492)).trans hg515) rfl) (by kernel_rfl) (gemotlaw14_same_ok (H.dat 1 rfl) (H.dat 0 rfl) hy533) fun v535 w534 ⟨hv536, hb537⟩ => ?_
                subst hv536
                replace H := H.call hb537
                rcases Bool.eq_false_or_eq_true y532 with hg538 | hg538
                · replace h := condT hg538 h
                  obtain ⟨y539, hy540, h⟩ := bindS h
                  refine call_yes (gT1 ((pickT ((pickT ((pickT hg479).trans hg492)).trans hg515)).trans hg538) rfl) (by kernel_rfl) (place_Path_ok (ok := fun _ => False) hy540) fun u545 w541 ⟨hu546, hb544⟩ => ?_
                  replace H := H.callDats hb544 [dSl tStr u545 y539] ⟨(slR_any hu546), trivial⟩
                  obtain ⟨A547, c548, hA549, _⟩ := H.sl 0 rfl
                  subst hA549
                  refine gBS (gT1 ((pickT ((pickT ((pickT hg479).trans hg492)).trans hg515)).trans hg538) rfl) ?_
                  refine own_buildSlice (e := 9) (sz := 1) (z := .string ⟨#[]⟩) (cs := [.string (bs [114]), .string (bs ([] : List UInt8))]) H (by kernel_rfl) (by kernel_rfl) (by kernel_rfl) rfl rfl rfl rfl fun g552 w553 H => ?_
                  replace H := H.blkSl (k := tStr) [[114], ([] : List UInt8)] 2 rfl rfl (by decide) ⟨_, _, rfl, rfl, ⟨_, _, rfl, rfl, rfl⟩⟩
                  obtain ⟨y555, hy556, h⟩ := bindS h
                  refine call_yes (gT1 ((pickT ((pickT ((pickT hg479).trans hg492)).trans hg515)).trans hg538) rfl) (by kernel_rfl) (gemotlaw14_same_ok (H.dat 1 rfl) (H.dat 0 rfl) hy556) fun v558 w557 ⟨hv559, hb560⟩ => ?_
                  subst hv559
                  replace H := H.call hb560
                  rcases Bool.eq_false_or_eq_true y555 with hg561 | hg561
                  · replace h := condT hg561 h
                    obtain ⟨y562, hy563, h⟩ := bindS h
                    refine call_yes (gT1 ((pickT ((pickT ((pickT ((pickT hg479).trans hg492)).trans hg515)).trans hg538)).trans hg561) rfl) (by kernel_rfl) (place_Duties_ok (ok := fun _ => False) hy563) fun u568 w564 ⟨hu569, hb567⟩ => ?_
                    replace H := H.callDats hb567 [dSl tStr u568 y562] ⟨(rowOut_sl (rowOut_any hu569) hb567), trivial⟩
                    obtain ⟨A570, c571, hA572, _⟩ := H.sl 0 rfl
                    subst hA572
                    refine gBS (gT1 ((pickT ((pickT ((pickT ((pickT hg479).trans hg492)).trans hg515)).trans hg538)).trans hg561) rfl) ?_
                    refine own_buildSlice (e := 9) (sz := 1) (z := .string ⟨#[]⟩) (cs := [.string (bs [108])]) H (by kernel_rfl) (by kernel_rfl) (by kernel_rfl) rfl rfl rfl rfl fun g575 w576 H => ?_
                    replace H := H.blkSl (k := tStr) [[108]] 1 rfl rfl (by decide) ⟨_, _, rfl, rfl, rfl⟩
                    obtain ⟨y578, hy579, h⟩ := bindS h
                    refine call_yes (gT1 ((pickT ((pickT ((pickT ((pickT hg479).trans hg492)).trans hg515)).trans hg538)).trans hg561) rfl) (by kernel_rfl) (gemotlaw14_same_ok (H.dat 1 rfl) (H.dat 0 rfl) hy579) fun v581 w580 ⟨hv582, hb583⟩ => ?_
                    subst hv582
                    replace H := H.call hb583
                    rcases Bool.eq_false_or_eq_true y578 with hg584 | hg584
                    · replace h := condT hg584 h
                      obtain ⟨y585, hy586, h⟩ := bindS h
                      refine call_yes (gT1 ((pickT ((pickT ((pickT ((pickT ((pickT hg479).trans hg492)).trans hg515)).trans hg538)).trans hg561)).trans hg584) rfl) (by kernel_rfl) (place_Duties_ok (ok := fun _ => False) hy586) fun u591 w587 ⟨hu592, hb590⟩ => ?_
                      replace H := H.callDats hb590 [dSl tStr u591 y585] ⟨(rowOut_sl (rowOut_any hu592) hb590), trivial⟩
                      obtain ⟨A593, c594, hA595, _⟩ := H.sl 0 rfl
                      subst hA595
                      refine gBS (gT1 ((pickT ((pickT ((pickT ((pickT ((pickT hg479).trans hg492)).trans hg515)).trans hg538)).trans hg561)).trans hg584) rfl) ?_
                      refine own_buildSlice (e := 9) (sz := 1) (z := .string ⟨#[]⟩) (cs := [.string (bs [114])]) H (by kernel_rfl) (by kernel_rfl) (by kernel_rfl) rfl rfl rfl rfl fun g598 w599 H => ?_
                      replace H := H.blkSl (k := tStr) [[114]] 1 rfl rfl (by decide) ⟨_, _, rfl, rfl, rfl⟩
                      obtain ⟨y601, hy602, h⟩ := bindS h
                      refine call_yes (gT1 ((pickT ((pickT ((pickT ((pickT ((pickT hg479).trans hg492)).trans hg515)).trans hg538)).trans hg561)).trans hg584) rfl) (by kernel_rfl) (gemotlaw14_same_ok (H.dat 1 rfl) (H.dat 0 rfl) hy602) fun v604 w603 ⟨hv605, hb606⟩ => ?_
                      subst hv605
                      replace H := H.call hb606
                      rcases Bool.eq_false_or_eq_true y601 with hg607 | hg607
                      · replace h := condT hg607 h
                        obtain ⟨y608, hy609, h⟩ := bindS h
                        refine call_yes (gT1 ((pickT ((pickT ((pickT ((pickT ((pickT ((pickT hg479).trans hg492)).trans hg515)).trans hg538)).trans hg561)).trans hg584)).trans hg607) rfl) (by kernel_rfl) (place_Co_ok (ok := fun _ => False) hy609) fun u614 w610 ⟨hu615, hb613⟩ => ?_
                        replace H := H.callDats hb613 [dSl tStr u614 y608] ⟨(rowOut_sl (rowOut_any hu615) hb613), trivial⟩
                        obtain ⟨A616, c617, hA618, _⟩ := H.sl 0 rfl
                        subst hA618
                        refine gBS (gT1 ((pickT ((pickT ((pickT ((pickT ((pickT ((pickT hg479).trans hg492)).trans hg515)).trans hg538)).trans hg561)).trans hg584)).trans hg607) rfl) ?_
                        refine own_buildSlice (e := 9) (sz := 1) (z := .string ⟨#[]⟩) (cs := [.string (bs [114])]) H (by kernel_rfl) (by kernel_rfl) (by kernel_rfl) rfl rfl rfl rfl fun g621 w622 H => ?_
                        replace H := H.blkSl (k := tStr) [[114]] 1 rfl rfl (by decide) ⟨_, _, rfl, rfl, rfl⟩
                        obtain ⟨y624, hy625, h⟩ := bindS h
                        refine call_yes (gT1 ((pickT ((pickT ((pickT ((pickT ((pickT ((pickT hg479).trans hg492)).trans hg515)).trans hg538)).trans hg561)).trans hg584)).trans hg607) rfl) (by kernel_rfl) (gemotlaw14_same_ok (H.dat 1 rfl) (H.dat 0 rfl) hy625) fun v627 w626 ⟨hv628, hb629⟩ => ?_
                        subst hv628
                        replace H := H.call hb629
                        rcases Bool.eq_false_or_eq_true y624 with hg630 | hg630
                        · replace h := condT hg630 h
                          obtain ⟨y631, hy632, h⟩ := bindS h
                          refine call_yes (gT1 ((pickT ((pickT ((pickT ((pickT ((pickT ((pickT ((pickT hg479).trans hg492)).trans hg515)).trans hg538)).trans hg561)).trans hg584)).trans hg607)).trans hg630) rfl) (by kernel_rfl) (place_Sponsor_ok (ok := fun _ => False) hy632) fun v634 w633 ⟨hv635, hb636⟩ => ?_
                          subst hv635
                          replace H := H.call hb636
                          exact cut_inA ⟨_, h, rfl, H.pickL [] rfl⟩
                        · replace h := condF hg630 h
                          refine call_skip (.int .i64 0) (gF1 ((pickT ((pickT ((pickT ((pickT ((pickT ((pickT ((pickT hg479).trans hg492)).trans hg515)).trans hg538)).trans hg561)).trans hg584)).trans hg607)).trans hg630)) ?_
                          exact cut_inA ⟨_, h, rfl, H.pickL [] rfl⟩
                      · replace h := condF hg607 h
                        refine call_skip (.slice none 0 0) (gF1 ((pickT ((pickT ((pickT ((pickT ((pickT ((pickT hg479).trans hg492)).trans hg515)).trans hg538)).trans hg561)).trans hg584)).trans hg607)) ?_
                        refine skipBS (.slice none 0 0) (gF1 ((pickT ((pickT ((pickT ((pickT ((pickT ((pickT hg479).trans hg492)).trans hg515)).trans hg538)).trans hg561)).trans hg584)).trans hg607)) ?_
                        refine call_skip (.bool false) (gF1 ((pickT ((pickT ((pickT ((pickT ((pickT ((pickT hg479).trans hg492)).trans hg515)).trans hg538)).trans hg561)).trans hg584)).trans hg607)) ?_
                        refine call_skip (.int .i64 0) (gF1 (pickF ((pickT ((pickT ((pickT ((pickT ((pickT ((pickT hg479).trans hg492)).trans hg515)).trans hg538)).trans hg561)).trans hg584)).trans hg607))) ?_
                        exact cut_inA ⟨_, h, rfl, H.pickL [] rfl⟩
                    · replace h := condF hg584 h
                      refine call_skip (.slice none 0 0) (gF1 ((pickT ((pickT ((pickT ((pickT ((pickT hg479).trans hg492)).trans hg515)).trans hg538)).trans hg561)).trans hg584)) ?_
                      refine skipBS (.slice none 0 0) (gF1 ((pickT ((pickT ((pickT ((pickT ((pickT hg479).trans hg492)).trans hg515)).trans hg538)).trans hg561)).trans hg584)) ?_
                      refine call_skip (.bool false) (gF1 ((pickT ((pickT ((pickT ((pickT ((pickT hg479).trans hg492)).trans hg515)).trans hg538)).trans hg561)).trans hg584)) ?_
                      refine call_skip (.slice none 0 0) (gF1 (pickF ((pickT ((pickT ((pickT ((pickT ((pickT hg479).trans hg492)).trans hg515)).trans hg538)).trans hg561)).trans hg584))) ?_
                      refine skipBS (.slice none 0 0) (gF1 (pickF ((pickT ((pickT ((pickT ((pickT ((pickT hg479).trans hg492)).trans hg515)).trans hg538)).trans hg561)).trans hg584))) ?_
                      refine call_skip (.bool false) (gF1 (pickF ((pickT ((pickT ((pickT ((pickT ((pickT hg479).trans hg492)).trans hg515)).trans hg538)).trans hg561)).trans hg584))) ?_
                      refine call_skip (.int .i64 0) (gF1 (pickF (pickF ((pickT ((pickT ((pickT ((pickT ((pickT hg479).trans hg492)).trans hg515)).trans hg538)).trans hg561)).trans hg584)))) ?_
                      exact cut_inA ⟨_, h, rfl, H.pickL [] rfl⟩
                  · replace h := condF hg561 h
                    refine call_skip (.slice none 0 0) (gF1 ((pickT ((pickT ((pickT ((pickT hg479).trans hg492)).trans hg515)).trans hg538)).trans hg561)) ?_
                    refine skipBS (.slice none 0 0) (gF1 ((pickT ((pickT ((pickT ((pickT hg479).trans hg492)).trans hg515)).trans hg538)).trans hg561)) ?_
                    refine call_skip (.bool false) (gF1 ((pickT ((pickT ((pickT ((pickT hg479).trans hg492)).trans hg515)).trans hg538)).trans hg561)) ?_
                    refine call_skip (.slice none 0 0) (gF1 (pickF ((pickT ((pickT ((pickT ((pickT hg479).trans hg492)).trans hg515)).trans hg538)).trans hg561))) ?_
                    refine skipBS (.slice none 0 0) (gF1 (pickF ((pickT ((pickT ((pickT ((pickT hg479).trans hg492)).trans hg515)).trans hg538)).trans hg561))) ?_
                    refine call_skip (.bool false) (gF1 (pickF ((pickT ((pickT ((pickT ((pickT hg479).trans hg492)).trans hg515)).trans hg538)).trans hg561))) ?_
                    refine call_skip (.slice none 0 0) (gF1 (pickF (pickF ((pickT ((pickT ((pickT ((pickT hg479).trans hg492)).trans hg515)).trans hg538)).trans hg561)))) ?_
                    refine skipBS (.slice none 0 0) (gF1 (pickF (pickF ((pickT ((pickT ((pickT ((pickT hg479).trans hg492)).trans hg515)).trans hg538)).trans hg561)))) ?_
                    refine call_skip (.bool false) (gF1 (pickF (pickF ((pickT ((pickT ((pickT ((pickT hg479).trans hg492)).trans hg515)).trans hg538)).trans hg561)))) ?_
                    refine call_skip (.int .i64 0) (gF1 (pickF (pickF (pickF ((pickT ((pickT ((pickT ((pickT hg479).trans hg492)).trans hg515)).trans hg538)).trans hg561))))) ?_
                    exact cut_inA ⟨_, h, rfl, H.pickL [] rfl⟩
                · replace h := condF hg538 h
                  refine call_skip (.slice none 0 0) (gF1 ((pickT ((pickT ((pickT hg479).trans hg492)).trans hg515)).trans hg538)) ?_
                  refine skipBS (.slice none 0 0) (gF1 ((pickT ((pickT ((pickT hg479).trans hg492)).trans hg515)).trans hg538)) ?_
                  refine call_skip (.bool false) (gF1 ((pickT ((pickT ((pickT hg479).trans hg492)).trans hg515)).trans hg538)) ?_
                  refine call_skip (.slice none 0 0) (gF1 (pickF ((pickT ((pickT ((pickT hg479).trans hg492)).trans hg515)).trans hg538))) ?_
                  refine skipBS (.slice none 0 0) (gF1 (pickF ((pickT ((pickT ((pickT hg479).trans hg492)).trans hg515)).trans hg538))) ?_
                  refine call_skip (.bool false) (gF1 (pickF ((pickT ((pickT ((pickT hg479).trans hg492)).trans hg515)).trans hg538))) ?_
                  refine call_skip (.slice none 0 0) (gF1 (pickF (pickF ((pickT ((pickT ((pickT hg479).trans hg492)).trans hg515)).trans hg538)))) ?_
                  refine skipBS (.slice none 0 0) (gF1 (pickF (pickF ((pickT ((pickT ((pickT hg479).trans hg492)).trans hg515)).trans hg538)))) ?_
                  refine call_skip (.bool false) (gF1 (pickF (pickF ((pickT ((pickT ((pickT hg479).trans hg492)).trans hg515)).trans hg538)))) ?_
                  refine call_skip (.slice none 0 0) (gF1 (pickF (pickF (pickF ((pickT ((pickT ((pickT hg479).trans hg492)).trans hg515)).trans hg538))))) ?_
                  refine skipBS (.slice none 0 0) (gF1 (pickF (pickF (pickF ((pickT ((pickT ((pickT hg479).trans hg492)).trans hg515)).trans hg538))))) ?_
                  refine call_skip (.bool false) (gF1 (pickF (pickF (pickF ((pickT ((pickT ((pickT hg479).trans hg492)).trans hg515)).trans hg538))))) ?_
                  refine call_skip (.int .i64 0) (gF1 (pickF (pickF (pickF (pickF ((pickT ((pickT ((pickT hg479).trans hg492)).trans hg515)).trans hg538)))))) ?_
                  exact cut_inA ⟨_, h, rfl, H.pickL [] rfl⟩
              · replace h := condF hg515 h
                refine call_skip (.slice none 0 0) (gF1 ((pickT ((pickT hg479).trans hg492)).trans hg515)) ?_
                refine skipBS (.slice none 0 0) (gF1 ((pickT ((pickT hg479).trans hg492)).trans hg515)) ?_
                refine call_skip (.bool false) (gF1 ((pickT ((pickT hg479).trans hg492)).trans hg515)) ?_
                refine call_skip (.slice none 0 0) (gF1 (pickF ((pickT ((pickT hg479).trans hg492)).trans hg515))) ?_
                refine skipBS (.slice none 0 0) (gF1 (pickF ((pickT ((pickT hg479).trans hg492)).trans hg515))) ?_
                refine call_skip (.bool false) (gF1 (pickF ((pickT ((pickT hg479).trans hg492)).trans hg515))) ?_
                refine call_skip (.slice none 0 0) (gF1 (pickF (pickF ((pickT ((pickT hg479).trans hg492)).trans hg515)))) ?_
                refine skipBS (.slice none 0 0) (gF1 (pickF (pickF ((pickT ((pickT hg479).trans hg492)).trans hg515)))) ?_
                refine call_skip (.bool false) (gF1 (pickF (pickF ((pickT ((pickT hg479).trans hg492)).trans hg515)))) ?_
                refine call_skip (.slice none 0 0) (gF1 (pickF (pickF (pickF ((pickT ((pickT hg479).trans hg492)).trans hg515))))) ?_
                refine skipBS (.slice none 0 0) (gF1 (pickF (pickF (pickF ((pickT ((pickT hg479).trans hg492)).trans hg515))))) ?_
                refine call_skip (.bool false) (gF1 (pickF (pickF (pickF ((pickT ((pickT hg479).trans hg492)).trans hg515))))) ?_
                refine call_skip (.slice none 0 0) (gF1 (pickF (pickF (pickF (pickF ((pickT ((pickT hg479).trans hg492)).trans hg515)))))) ?_
                refine skipBS (.slice none 0 0) (gF1 (pickF (pickF (pickF (pickF ((pickT ((pickT hg479).trans hg492)).trans hg515)))))) ?_
                refine call_skip (.bool false) (gF1 (pickF (pickF (pickF (pickF ((pickT ((pickT hg479).trans hg492)).trans hg515)))))) ?_
                refine call_skip (.int .i64 0) (gF1 (pickF (pickF (pickF (pickF (pickF ((pickT ((pickT hg479).trans hg492)).trans hg515))))))) ?_
                exact cut_inA ⟨_, h, rfl, H.pickL [] rfl⟩
            · replace h := condF hg492 h
              refine call_skip (.slice none 0 0) (gF1 ((pickT hg479).trans hg492)) ?_
              refine skipBS (.slice none 0 0) (gF1 ((pickT hg479).trans hg492)) ?_
              refine call_skip (.bool false) (gF1 ((pickT hg479).trans hg492)) ?_
              refine call_skip (.slice none 0 0) (gF1 (pickF ((pickT hg479).trans hg492))) ?_
              refine skipBS (.slice none 0 0) (gF1 (pickF ((pickT hg479).trans hg492))) ?_
              refine call_skip (.bool false) (gF1 (pickF ((pickT hg479).trans hg492))) ?_
              refine call_skip (.slice none 0 0) (gF1 (pickF (pickF ((pickT hg479).trans hg492)))) ?_
              refine skipBS (.slice none 0 0) (gF1 (pickF (pickF ((pickT hg479).trans hg492)))) ?_
              refine call_skip (.bool false) (gF1 (pickF (pickF ((pickT hg479).trans hg492)))) ?_
              refine call_skip (.slice none 0 0) (gF1 (pickF (pickF (pickF ((pickT hg479).trans hg492))))) ?_
              refine skipBS (.slice none 0 0) (gF1 (pickF (pickF (pickF ((pickT hg479).trans hg492))))) ?_
              refine call_skip (.bool false) (gF1 (pickF (pickF (pickF ((pickT hg479).trans hg492))))) ?_
              refine call_skip (.slice none 0 0) (gF1 (pickF (pickF (pickF (pickF ((pickT hg479).trans hg492)))))) ?_
              refine skipBS (.slice none 0 0) (gF1 (pickF (pickF (pickF (pickF ((pickT hg479).trans hg492)))))) ?_
              refine call_skip (.bool false) (gF1 (pickF (pickF (pickF (pickF ((pickT hg479).trans hg492)))))) ?_
              refine call_skip (.slice none 0 0) (gF1 (pickF (pickF (pickF (pickF (pickF ((pickT hg479).trans hg492))))))) ?_
              refine skipBS (.slice none 0 0) (gF1 (pickF (pickF (pickF (pickF (pickF ((pickT hg479).trans hg492))))))) ?_
              refine call_skip (.bool false) (gF1 (pickF (pickF (pickF (pickF (pickF ((pickT hg479).trans hg492))))))) ?_
              refine call_skip (.int .i64 0) (gF1 (pickF (pickF (pickF (pickF (pickF (pickF ((pickT hg479).trans hg492)))))))) ?_
              exact cut_inA ⟨_, h, rfl, H.pickL [] rfl⟩
          · replace h := condF hg479 h
            refine call_skip (.slice none 0 0) (gF1 hg479) ?_
            refine call_skip (.slice none 0 0) (gF1 (pickF hg479)) ?_
            refine skipBS (.slice none 0 0) (gF1 (pickF hg479)) ?_
            refine call_skip (.bool false) (gF1 (pickF hg479)) ?_
            refine call_skip (.slice none 0 0) (gF1 (pickF (pickF hg479))) ?_
            refine skipBS (.slice none 0 0) (gF1 (pickF (pickF hg479))) ?_
            refine call_skip (.bool false) (gF1 (pickF (pickF hg479))) ?_
            refine call_skip (.slice none 0 0) (gF1 (pickF (pickF (pickF hg479)))) ?_
            refine skipBS (.slice none 0 0) (gF1 (pickF (pickF (pickF hg479)))) ?_
            refine call_skip (.bool false) (gF1 (pickF (pickF (pickF hg479)))) ?_
            refine call_skip (.slice none 0 0) (gF1 (pickF (pickF (pickF (pickF hg479))))) ?_
            refine skipBS (.slice none 0 0) (gF1 (pickF (pickF (pickF (pickF hg479))))) ?_
            refine call_skip (.bool false) (gF1 (pickF (pickF (pickF (pickF hg479))))) ?_
            refine call_skip (.slice none 0 0) (gF1 (pickF (pickF (pickF (pickF (pickF hg479)))))) ?_
            refine skipBS (.slice none 0 0) (gF1 (pickF (pickF (pickF (pickF (pickF hg479)))))) ?_
            refine call_skip (.bool false) (gF1 (pickF (pickF (pickF (pickF (pickF hg479)))))) ?_
            refine call_skip (.slice none 0 0) (gF1 (pickF (pickF (pickF (pickF (pickF (pickF hg479))))))) ?_
            refine skipBS (.slice none 0 0) (gF1 (pickF (pickF (pickF (pickF (pickF (pickF hg479))))))) ?_
            refine call_skip (.bool false) (gF1 (pickF (pickF (pickF (pickF (pickF (pickF hg479))))))) ?_
            refine call_skip (.int .i64 0) (gF1 (pickF (pickF (pickF (pickF (pickF (pickF (pickF hg479)))))))) ?_
            exact cut_inA ⟨_, h, rfl, H.pickL [] rfl⟩
        · rintro _ w637 ⟨v476, h, rfl, H⟩
          unfold gemotlaw14_PlaceOne.k1 at h
          refine nc ?_
          replace h := Option.some.inj h
          subst h
          exact ret_inA [.bool v476] ⟨_, rfl, ⟨rfl, H.frame⟩⟩
/-! gemot/gemotlaw14.PlaceDuties -/
noncomputable def gemotlaw14_PlaceDuties.k1 (y13 : (List UInt8)) (y19 : (List (List UInt8))) (y31 : (List Int)) (v60430 : Int) (v94388 : Int) (y96280 : (List (List UInt8))) (v96478 : Int) (v96575 : Int) : Option ((Int × Int) ⊕ Int) := some (.inl (v96575, (IntKind.i64.wrap (v96478 + (1 : Int)))))
noncomputable def gemotlaw14_PlaceDuties.b2 (y13 : (List UInt8)) (y19 : (List (List UInt8))) (y31 : (List Int)) (v60430 : Int) (v94388 : Int) (y96280 : (List (List UInt8))) (v96477 : Int) (v96478 : Int) : Option ((Int × Int) ⊕ Int) := cond (decide (v96478 < (y96280.length : Int))) ((idxL y96280 v96478).bind fun y96578 => (idxL y19 v60430).bind fun y96584 => cond (strEq y96578 y96584) (gemotlaw14_PlaceDuties.k1 y13 y19 y31 v60430 v94388 y96280 v96478 (IntKind.i64.wrap (v96477 + (1 : Int)))) (gemotlaw14_PlaceDuties.k1 y13 y19 y31 v60430 v94388 y96280 v96478 v96477)) (some (.inr v96477))
noncomputable def gemotlaw14_PlaceDuties.k3 (y13 : (List UInt8)) (y19 : (List (List UInt8))) (y31 : (List Int)) (v60430 : Int) (v94388 : Int) (v96271 : Int) : Option ((Int × Int) ⊕ (Int ⊕ Bool)) := some (.inl (v96271, (IntKind.i64.wrap (v94388 + (1 : Int)))))
noncomputable def gemotlaw14_PlaceDuties.k4 (y13 : (List UInt8)) (y19 : (List (List UInt8))) (y31 : (List Int)) (v60430 : Int) (v94388 : Int) (v96441 : Int) (v96626 : Bool) : Option ((Int × Int) ⊕ (Int ⊕ Bool)) := cond v96626 (some (.inr (Sum.inr false))) (gemotlaw14_PlaceDuties.k3 y13 y19 y31 v60430 v94388 v96441)
noncomputable def gemotlaw14_PlaceDuties.k5 (y13 : (List UInt8)) (y19 : (List (List UInt8))) (y31 : (List Int)) (v60430 : Int) (v94388 : Int) (y96280 : (List (List UInt8))) (v96441 : Int) : Option ((Int × Int) ⊕ (Int ⊕ Bool)) := (idxL y31 v94388).bind fun y96594 => (place_Path.f y13 y96594).bind fun y96600 => cond (decide ((y96280.length : Int) ≥ (y96600.length : Int))) (gemotlaw14_PlaceDuties.k4 y13 y19 y31 v60430 v94388 v96441 (cond (cond (decide ((y96280.length : Int) ≥ (y96600.length : Int))) true (!false)) true (cond (decide ((y31.length : Int) > (1 : Int))) ((y96280.length : Int) == (0 : Int)) false))) ((slcM y96600 (0 : Int) (y96280.length : Int)).bind fun y96630 => (gemotlaw14_same.f y96280 y96630).bind fun y96637 => gemotlaw14_PlaceDuties.k4 y13 y19 y31 v60430 v94388 v96441 (cond (cond (decide ((y96280.length : Int) ≥ (y96600.length : Int))) true (!y96637)) true (cond (decide ((y31.length : Int) > (1 : Int))) ((y96280.length : Int) == (0 : Int)) false)))
noncomputable def gemotlaw14_PlaceDuties.b6 (y13 : (List UInt8)) (y19 : (List (List UInt8))) (y31 : (List Int)) (v60430 : Int) (v94387 : Int) (v94388 : Int) : Option ((Int × Int) ⊕ (Int ⊕ Bool)) := cond (decide (v94388 < (y31.length : Int))) ((idxL y31 v94388).bind fun y96274 => (place_Duties.f y13 y96274).bind fun y96280 => (loopM (fun s96557 : Int × Int => gemotlaw14_PlaceDuties.b2 y13 y19 y31 v60430 v94388 y96280 s96557.1 s96557.2) (v94387, (0 : Int))).bind (fun (o96556 : Int) => gemotlaw14_PlaceDuties.k5 y13 y19 y31 v60430 v94388 y96280 o96556)) (some (.inr (Sum.inl v94387)))
noncomputable def gemotlaw14_PlaceDuties.k7 (y13 : (List UInt8)) (y19 : (List (List UInt8))) (y31 : (List Int)) (v60430 : Int) : Option (Int ⊕ (Unit ⊕ Bool)) := some (.inl (IntKind.i64.wrap (v60430 + (1 : Int))))
noncomputable def gemotlaw14_PlaceDuties.k8 (y13 : (List UInt8)) (y19 : (List (List UInt8))) (y31 : (List Int)) (v60430 : Int) (v93637 : Int) (v96654 : Int) : Option (Int ⊕ (Unit ⊕ Bool)) := cond (v93637 != v96654) (some (.inr (Sum.inr false))) (gemotlaw14_PlaceDuties.k7 y13 y19 y31 v60430)
noncomputable def gemotlaw14_PlaceDuties.k9 (y13 : (List UInt8)) (y19 : (List (List UInt8))) (y31 : (List Int)) (v60430 : Int) (v93637 : Int) : Option (Int ⊕ (Unit ⊕ Bool)) := (idxL y19 v60430).bind fun y96657 => cond (strEq y96657 ([] : List UInt8)) (gemotlaw14_PlaceDuties.k8 y13 y19 y31 v60430 v93637 (0 : Int)) (gemotlaw14_PlaceDuties.k8 y13 y19 y31 v60430 v93637 (1 : Int))
noncomputable def gemotlaw14_PlaceDuties.b10 (y13 : (List UInt8)) (y19 : (List (List UInt8))) (y31 : (List Int)) (v60430 : Int) : Option (Int ⊕ (Unit ⊕ Bool)) := cond (decide (v60430 < (y19.length : Int))) ((loopM (fun s95896 : Int × Int => gemotlaw14_PlaceDuties.b6 y13 y19 y31 v60430 s95896.1 s95896.2) ((0 : Int), (0 : Int))).bind (Sum.elim (fun (o95894 : Int) => gemotlaw14_PlaceDuties.k9 y13 y19 y31 v60430 o95894) (fun (o95895 : Bool) => some (.inr (Sum.inr o95895))))) (some (.inr (Sum.inl ())))
noncomputable def gemotlaw14_PlaceDuties.k11 (y19 : (List (List UInt8))) (y31 : (List Int)) : Option (Bool) := some ((y19.length : Int) == (IntKind.i64.wrap ((IntKind.i64.wrap ((2 : Int) * (y31.length : Int))) - (1 : Int))))
noncomputable def gemotlaw14_PlaceDuties.f (x0 : List Int) : Option (Bool) := (gemotlaw14_shown.f).bind fun y6 => cond (!y6) (some false) ((gemotlaw14_made.f x0).bind fun y13 => (place_Nodes.f y13).bind fun y19 => (tree_Members.f y13).bind fun y31 => (loopM (fun s84590 : Int => gemotlaw14_PlaceDuties.b10 y13 y19 y31 s84590) (0 : Int)).bind (Sum.elim (fun (o84588 : Unit) => gemotlaw14_PlaceDuties.k11 y19 y31) (fun (o84589 : Bool) => some o84589)))
set_option maxHeartbeats 4000000 in
theorem gemotlaw14_PlaceDuties_ok {ok : Nat → Prop} {w : World} {u1 : Value} {x0 : List Int} {r : Bool} (hu2 : slR (tInt .i64) w ok u1 x0) (h : gemotlaw14_PlaceDuties.f x0 = some r) :
    Calls Tryd.prog 5 #[u1] w fun e w' => ∃ v, e = .returned v ∧ (v = .bool r ∧ Bel w.heap.size w w') := by
  have H : Eng.Own ok w w [] := Eng.Own.nil ok w
  obtain ⟨A3, c4, rfl, H⟩ := H.arg rfl hu2
  unfold gemotlaw14_PlaceDuties.f at h
  refine enterN (args := [.slice A3 x0.length c4]) Tryd.func5 rfl Tryd.ntmps5 rfl rfl ?_
  refine nc_seq ?_
  refine nc ?_
  refine nc_seq ?_
  refine nc ?_
  obtain ⟨y6, hy7, h⟩ := bindS h
  refine call_rule (by kernel_rfl) (gemotlaw14_shown_ok (ok := fun _ => False) hy7) fun v9 w8 ⟨hv10, hb11⟩ => ?_
  subst hv10
  replace H := H.call hb11
  refine nc_seq ?_
  refine nc_seq ?_
  refine nc ?_
  refine nc_cond rfl (fun hc12 => ?_) (fun hc12 => ?_)
  · replace h := condT hc12 h
    refine nc_seq ?_
    refine nc ?_
    refine nc ?_
    replace h := Option.some.inj h
    subst h
    exact ret_inA [.bool false] ⟨_, rfl, ⟨rfl, H.frame⟩⟩
  · replace h := condF hc12 h
    refine nc ?_
    refine nc_seq ?_
    refine nc ?_
    obtain ⟨y13, hy14, h⟩ := bindS h
    refine call_rule (by kernel_rfl) (gemotlaw14_made_ok (H.dat 0 rfl) hy14) fun v16 w15 ⟨hv17, hb18⟩ => ?_
    subst hv17
    replace H := H.call hb18
    refine nc_seq ?_
    refine nc ?_
    obtain ⟨y19, hy20, h⟩ := bindS h
    refine call_rule (by kernel_rfl) (place_Nodes_ok (ok := fun _ => False) hy20) fun u25 w21 ⟨hu26, hb24⟩ => ?_
    replace H := H.callDats hb24 [dSl tStr u25 y19] ⟨(slR_any hu26), trivial⟩
    obtain ⟨A27, c28, hA29, _⟩ := H.sl 0 rfl
    subst hA29
    refine nc_seq ?_
    refine nc ?_
    obtain ⟨y31, hy32, h⟩ := bindS h
    refine call_rule (by kernel_rfl) (tree_Members_ok (ok := fun _ => False) hy32) fun u37 w33 ⟨hu38, hb36⟩ => ?_
    replace H := H.callDats hb36 [dSl (tInt .i64) u37 y31] ⟨(slR_any hu38), trivial⟩
    obtain ⟨A39, c40, hA41, _⟩ := H.sl 0 rfl
    subst hA41
    refine nc_cut (fun e w48354 => gemotlaw14_PlaceDuties.k11 y19 y31 = some r ∧ e = [(5, .slice A27 y19.length c28), (6, .slice A39 y31.length c40)] ∧ Eng.Own ok w w48354 [.dat (dSl tStr (.slice A27 y19.length c28) y19), .dat (dSl (tInt .i64) (.slice A39 y31.length c40) y31)]) ?_ ?_
    · skip
      refine nc_seq ?_
      refine nc ?_
      refine nc_block ?_
      obtain ⟨o84580, hL84581, hO84582⟩ := bindS h
      obtain ⟨n84583, hL84581⟩ := loopS hL84581
      refine nc ?_
      refine loop_ruleA (fun k e w84587 => ∃ (v60430 : Int), iterM (fun s84590 : Int => gemotlaw14_PlaceDuties.b10 y13 y19 y31 s84590) k v60430 = some o84580 ∧ e = [(4, .string (bs y13)), (5, .slice A27 y19.length c28), (6, .slice A39 y31.length c40), (7, .int .i64 v60430)] ∧ Eng.Own ok w w84587 [.dat (dSl tStr (.slice A27 y19.length c28) y19), .dat (dSl (tInt .i64) (.slice A39 y31.length c40) y31)]) ⟨_, hL84581, rfl, H.pickL [1, 0] rfl⟩ ?_
      rintro k84592 _ w84591 ⟨v60430, hL84581, rfl, H⟩
      obtain ⟨k84586, rfl, q84584, h, hq84585⟩ := iterS hL84581
      replace h : gemotlaw14_PlaceDuties.b10 y13 y19 y31 v60430 = some q84584 := h
      unfold gemotlaw14_PlaceDuties.b10 at h
      refine nc_seq ?_
      refine nc_seq ?_
      refine nc ?_
      refine nc_cond rfl (fun hc84593 => ?_) (fun hc84593 => ?_)
      · replace h := condT hc84593 h
        refine nc ?_
        refine nc_cut (fun e w90629 => gemotlaw14_PlaceDuties.k7 y13 y19 y31 v60430 = some q84584 ∧ e = [(4, .string (bs y13)), (5, .slice A27 y19.length c28), (6, .slice A39 y31.length c40), (7, .int .i64 v60430)] ∧ Eng.Own ok w w90629 [.dat (dSl tStr (.slice A27 y19.length c28) y19), .dat (dSl (tInt .i64) (.slice A39 y31.length c40) y31)]) ?_ ?_
        · skip
          refine nc_block ?_
          refine nc_seq ?_
          refine nc ?_
          refine nc_cut (fun e w93638 => ∃ (v93637 : Int), gemotlaw14_PlaceDuties.k9 y13 y19 y31 v60430 v93637 = some q84584 ∧ e = [(4, .string (bs y13)), (5, .slice A27 y19.length c28), (6, .slice A39 y31.length c40), (7, .int .i64 v60430), (8, .int .i64 v93637)] ∧ Eng.Own ok w w93638 [.dat (dSl tStr (.slice A27 y19.length c28) y19), .dat (dSl (tInt .i64) (.slice A39 y31.length c40) y31)]) ?_ ?_
          · skip
            refine nc_seq ?_
            refine nc ?_
            refine nc_block ?_
            obtain ⟨o95886, hL95887, hO95888⟩ := bindS h
            obtain ⟨n95889, hL95887⟩ := loopS hL95887
            refine nc ?_
            refine loop_ruleA (fun k e w95893 => ∃ (v94387 : Int) (v94388 : Int), iterM (fun s95896 : Int × Int => gemotlaw14_PlaceDuties.b6 y13 y19 y31 v60430 s95896.1 s95896.2) k (v94387, v94388) = some o95886 ∧ e = [(4, .string (bs y13)), (5, .slice A27 y19.length c28), (6, .slice A39 y31.length c40), (7, .int .i64 v60430), (8, .int .i64 v94387), (9, .int .i64 v94388)] ∧ Eng.Own ok w w95893 [.dat (dSl tStr (.slice A27 y19.length c28) y19), .dat (dSl (tInt .i64) (.slice A39 y31.length c40) y31)]) ⟨_, _, hL95887, rfl, H.pickL [0, 1] rfl⟩ ?_
            rintro k95898 _ w95897 ⟨v94387, v94388, hL95887, rfl, H⟩
            obtain ⟨k95892, rfl, q95890, h, hq95891⟩ := iterS hL95887
            replace h : gemotlaw14_PlaceDuties.b6 y13 y19 y31 v60430 v94387 v94388 = some q95890 := h
            unfold gemotlaw14_PlaceDuties.b6 at h
            refine nc_seq ?_
            refine nc_seq ?_
            refine nc ?_
            refine nc_cond rfl (fun hc95899 => ?_) (fun hc95899 => ?_)
            · replace h := condT hc95899 h
              refine nc ?_
              refine nc_cut (fun e w96272 => ∃ (v96271 : Int), gemotlaw14_PlaceDuties.k3 y13 y19 y31 v60430 v94388 v96271 = some q95890 ∧ e = [(4, .string (bs y13)), (5, .slice A27 y19.length c28), (6, .slice A39 y31.length c40), (7, .int .i64 v60430), (8, .int .i64 v96271), (9, .int .i64 v94388)] ∧ Eng.Own ok w w96272 [.dat (dSl tStr (.slice A27 y19.length c28) y19), .dat (dSl (tInt .i64) (.slice A39 y31.length c40) y31)]) ?_ ?_
              · skip
                refine nc_block ?_
                refine nc_seq ?_
                refine nc ?_
                obtain ⟨y96274, hx96275, h⟩ := bindS h
                obtain ⟨a96276, cs96277, rfl, hR96278, H⟩ := H.elemI 1 rfl hx96275
                obtain rfl : cs96277 = [.int .i64 y96274] := hR96278
                refine idxA_rule (e := 3) 1 _ (by kernel_rfl) (by kernel_rfl) (idxL_some hx96275).1 (idxL_some hx96275).2.1 ?_
                refine own_loadD H 0 rfl 0 (by kernel_rfl) rfl ?_
                obtain ⟨y96280, hy96281, h⟩ := bindS h
                refine call_rule (by kernel_rfl) (place_Duties_ok (ok := fun _ => False) hy96281) fun u96286 w96282 ⟨hu96287, hb96285⟩ => ?_
                replace H := H.callDats hb96285 [dSl tStr u96286 y96280] ⟨(rowOut_sl (rowOut_any hu96287) hb96285), trivial⟩
                obtain ⟨A96288, c96289, hA96290, _⟩ := H.sl 0 rfl
                subst hA96290
                refine nc_cut (fun e w96442 => ∃ (v96441 : Int), gemotlaw14_PlaceDuties.k5 y13 y19 y31 v60430 v94388 y96280 v96441 = some q95890 ∧ e = [(4, .string (bs y13)), (5, .slice A27 y19.length c28), (6, .slice (some a96276) y31.length c40), (7, .int .i64 v60430), (8, .int .i64 v96441), (9, .int .i64 v94388), (10, .slice A96288 y96280.length c96289)] ∧ Eng.Own ok w w96442 [.dat (dSl tStr (.slice A27 y19.length c28) y19), .dat (dSl (tInt .i64) (.slice (some a96276) y31.length c40) y31), .dat (dSl tStr (.slice A96288 y96280.length c96289) y96280)]) ?_ ?_
                · skip
                  refine nc_seq ?_
                  refine nc ?_
                  refine nc_block ?_
                  obtain ⟨o96548, hL96549, hO96550⟩ := bindS h
                  obtain ⟨n96551, hL96549⟩ := loopS hL96549
                  refine nc ?_
                  refine loop_ruleA (fun k e w96555 => ∃ (v96477 : Int) (v96478 : Int), iterM (fun s96557 : Int × Int => gemotlaw14_PlaceDuties.b2 y13 y19 y31 v60430 v94388 y96280 s96557.1 s96557.2) k (v96477, v96478) = some o96548 ∧ e = [(4, .string (bs y13)), (5, .slice A27 y19.length c28), (6, .slice (some a96276) y31.length c40), (7, .int .i64 v60430), (8, .int .i64 v96477), (9, .int .i64 v94388), (10, .slice A96288 y96280.length c96289), (11, .int .i64 v96478)] ∧ Eng.Own ok w w96555 [.dat (dSl tStr (.slice A27 y19.length c28) y19), .dat (dSl (tInt .i64) (.slice (some a96276) y31.length c40) y31), .dat (dSl tStr (.slice A96288 y96280.length c96289) y96280)]) ⟨_, _, hL96549, rfl, H.pickL [2, 3, 0] rfl⟩ ?_
                  rintro k96559 _ w96558 ⟨v96477, v96478, hL96549, rfl, H⟩
                  obtain ⟨k96554, rfl, q96552, h, hq96553⟩ := iterS hL96549
                  replace h : gemotlaw14_PlaceDuties.b2 y13 y19 y31 v60430 v94388 y96280 v96477 v96478 = some q96552 := h
                  unfold gemotlaw14_PlaceDuties.b2 at h
                  refine nc_seq ?_
                  refine nc_seq ?_
                  refine nc ?_
                  refine nc_cond rfl (fun hc96560 => ?_) (fun hc96560 => ?_)
                  · replace h := condT hc96560 h
                    refine nc ?_
                    refine nc_cut (fun e w96576 => ∃ (v96575 : Int), gemotlaw14_PlaceDuties.k1 y13 y19 y31 v60430 v94388 y96280 v96478 v96575 = some q96552 ∧ e = [(4, .string (bs y13)), (5, .slice A27 y19.length c28), (6, .slice (some a96276) y31.length c40), (7, .int .i64 v60430), (8, .int .i64 v96575), (9, .int .i64 v94388), (10, .slice A96288 y96280.length c96289), (11, .int .i64 v96478)] ∧ Eng.Own ok w w96576 [.dat (dSl tStr (.slice A27 y19.length c28) y19), .dat (dSl (tInt .i64) (.slice (some a96276) y31.length c40) y31), .dat (dSl tStr (.slice A96288 y96280.length c96289) y96280)]) ?_ ?_
                    · skip
                      refine nc_block ?_
                      refine nc_seq ?_
                      obtain ⟨y96578, hx96579, h⟩ := bindS h
                      obtain ⟨a96580, cs96581, rfl, hR96582, H⟩ := H.elemI 2 rfl hx96579
                      obtain rfl : cs96581 = [.string (bs y96578)] := hR96582
                      obtain ⟨y96584, hx96585, h⟩ := bindS h
                      obtain ⟨a96586, cs96587, rfl, hR96588, H⟩ := H.elemI 1 rfl hx96585
                      obtain rfl : cs96587 = [.string (bs y96584)] := hR96588
                      refine nc ?_
                      refine draw_rule [] (by kernel_rfl) (by kernel_rfl) H ?_
                      refine c_idxA (e := 9) 1 _ (by kernel_rfl) (by kernel_rfl) (idxL_some hx96579).1 (idxL_some hx96579).2.1 ?_
                      refine c_loadD 1 rfl 0 (by kernel_rfl) rfl ?_
                      refine c_idxA (e := 9) 1 _ (by kernel_rfl) (by kernel_rfl) (idxL_some hx96585).1 (idxL_some hx96585).2.1 ?_
                      refine c_loadD 0 rfl 0 (by kernel_rfl) rfl ?_
                      intro w96590 H
                      refine nc_cond rfl (fun hc96591 => ?_) (fun hc96591 => ?_)
                      · replace h := condT hc96591 h
                        refine nc ?_
                        exact cut_inA ⟨_, h, rfl, H.pickL [2, 3, 4] rfl⟩
                      · replace h := condF hc96591 h
                        refine nc ?_
                        exact cut_inA ⟨_, h, rfl, H.pickL [2, 3, 4] rfl⟩
                    · rintro _ w96592 ⟨v96575, h, rfl, H⟩
                      unfold gemotlaw14_PlaceDuties.k1 at h
                      refine nc ?_
                      cases h
                      exact again_inA ⟨_, _, hq96553, rfl, H.pickL [0, 1, 2] rfl⟩
                  · replace h := condF hc96560 h
                    refine nc ?_
                    cases h
                    replace hq96553 : v96477 = o96548 := hq96553
                    subst hq96553
                    have h := hO96550
                    try dsimp only [Sum.elim_inl, Sum.elim_inr] at h
                    exact cut_inA ⟨_, h, rfl, H.pickL [0, 1, 2] rfl⟩
                · rintro _ w96593 ⟨v96441, h, rfl, H⟩
                  unfold gemotlaw14_PlaceDuties.k5 at h
                  refine nc_seq ?_
                  refine nc ?_
                  obtain ⟨y96594, hx96595, h⟩ := bindS h
                  obtain ⟨cs96597, hR96598, H⟩ := H.elemJ 1 rfl hx96595
                  obtain rfl : cs96597 = [.int .i64 y96594] := hR96598
                  refine idxA_rule (e := 3) 1 _ (by kernel_rfl) (by kernel_rfl) (idxL_some hx96595).1 (idxL_some hx96595).2.1 ?_
                  refine own_loadD H 0 rfl 0 (by kernel_rfl) rfl ?_
                  obtain ⟨y96600, hy96601, h⟩ := bindS h
                  refine call_rule (by kernel_rfl) (place_Path_ok (ok := fun _ => False) hy96601) fun u96606 w96602 ⟨hu96607, hb96605⟩ => ?_
                  replace H := H.callDats hb96605 [dSl tStr u96606 y96600] ⟨(slR_any hu96607), trivial⟩
                  obtain ⟨A96608, c96609, hA96610, _⟩ := H.sl 0 rfl
                  subst hA96610
                  refine nc_cut (fun e w96627 => ∃ (v96626 : Bool), gemotlaw14_PlaceDuties.k4 y13 y19 y31 v60430 v94388 v96441 v96626 = some q95890 ∧ e = [(4, .string (bs y13)), (5, .slice A27 y19.length c28), (6, .slice (some a96276) y31.length c40), (7, .int .i64 v60430), (8, .int .i64 v96441), (9, .int .i64 v94388), (87, .bool v96626)] ∧ Eng.Own ok w w96627 [.dat (dSl tStr (.slice A27 y19.length c28) y19), .dat (dSl (tInt .i64) (.slice (some a96276) y31.length c40) y31)]) ?_ ?_
                  · skip
                    refine nc ?_
                    rcases Bool.eq_false_or_eq_true (decide ((y96280.length : Int) ≥ (y96600.length : Int))) with hg96629 | hg96629
                    · replace h := condT hg96629 h
                      refine skipSL (.slice none 0 0) (gF0 hg96629) ?_
                      refine call_skip (.bool false) (gF0 hg96629) ?_
                      exact cut_inA ⟨_, h, rfl, H.pickL [2, 3] rfl⟩
                    · replace h := condF hg96629 h
                      obtain ⟨y96630, hx96631, h⟩ := bindS h
                      obtain ⟨A96632, c96633, hp96634, H⟩ := H.pieceD 0 rfl hx96631
                      have hn96636 := H.slLen 1 rfl
                      refine pieceI_rule (e := 9) 1 (0 : Int) (y96280.length : Int) (by kernel_rfl) (by kernel_rfl) rfl ⟨_, rfl⟩ hx96631 hn96636 hp96634 ?_
                      obtain ⟨y96637, hy96638, h⟩ := bindS h
                      refine call_yes (gT0 hg96629 rfl) (by kernel_rfl) (gemotlaw14_same_ok (H.dat 5 rfl) (H.dat 0 rfl) hy96638) fun v96640 w96639 ⟨hv96641, hb96642⟩ => ?_
                      subst hv96641
                      replace H := H.call hb96642
                      exact cut_inA ⟨_, h, rfl, H.pickL [3, 4] rfl⟩
                  · rintro _ w96643 ⟨v96626, h, rfl, H⟩
                    unfold gemotlaw14_PlaceDuties.k4 at h
                    refine nc_cond rfl (fun hc96644 => ?_) (fun hc96644 => ?_)
                    · replace h := condT hc96644 h
                      refine nc_seq ?_
                      refine nc ?_
                      refine nc ?_
                      cases h
                      replace hq95891 : (Sum.inr false) = o95886 := hq95891
                      subst hq95891
                      have h := hO95888
                      try dsimp only [Sum.elim_inl, Sum.elim_inr] at h
                      cases h
                      replace hq84585 : (Sum.inr false) = o84580 := hq84585
                      subst hq84585
                      have h := hO84582
                      try dsimp only [Sum.elim_inl, Sum.elim_inr] at h
                      replace h := Option.some.inj h
                      subst h
                      exact ret_inA [.bool false] ⟨_, rfl, ⟨rfl, H.frame⟩⟩
                    · replace h := condF hc96644 h
                      refine nc ?_
                      exact cut_inA ⟨_, h, rfl, H.pickL [0, 1] rfl⟩
              · rintro _ w96645 ⟨v96271, h, rfl, H⟩
                unfold gemotlaw14_PlaceDuties.k3 at h
                refine nc ?_
                cases h
                exact again_inA ⟨_, _, hq95891, rfl, H.pickL [0, 1] rfl⟩
            · replace h := condF hc95899 h
              refine nc ?_
              cases h
              replace hq95891 : (Sum.inl v94387) = o95886 := hq95891
              subst hq95891
              have h := hO95888
              try dsimp only [Sum.elim_inl, Sum.elim_inr] at h
              exact cut_inA ⟨_, h, rfl, H.pickL [0, 1] rfl⟩
          · rintro _ w96646 ⟨v93637, h, rfl, H⟩
            unfold gemotlaw14_PlaceDuties.k9 at h
            refine nc_seq ?_
            refine nc ?_
            refine nc_cut (fun e w96655 => ∃ (v96654 : Int), gemotlaw14_PlaceDuties.k8 y13 y19 y31 v60430 v93637 v96654 = some q84584 ∧ e = [(4, .string (bs y13)), (5, .slice A27 y19.length c28), (6, .slice A39 y31.length c40), (7, .int .i64 v60430), (8, .int .i64 v93637), (13, .int .i64 v96654)] ∧ Eng.Own ok w w96655 [.dat (dSl tStr (.slice A27 y19.length c28) y19), .dat (dSl (tInt .i64) (.slice A39 y31.length c40) y31)]) ?_ ?_
            · skip
              refine nc_seq ?_
              refine nc ?_
              obtain ⟨y96657, hx96658, h⟩ := bindS h
              obtain ⟨a96659, cs96660, rfl, hR96661, H⟩ := H.elemI 0 rfl hx96658
              obtain rfl : cs96660 = [.string (bs y96657)] := hR96661
              refine idxA_rule (e := 9) 1 _ (by kernel_rfl) (by kernel_rfl) (idxL_some hx96658).1 (idxL_some hx96658).2.1 ?_
              refine own_loadD H 0 rfl 0 (by kernel_rfl) rfl ?_
              refine nc_cond rfl (fun hc96663 => ?_) (fun hc96663 => ?_)
              · replace h := condT hc96663 h
                refine nc ?_
                exact cut_inA ⟨_, h, rfl, H.pickL [1, 2] rfl⟩
              · replace h := condF hc96663 h
                refine nc ?_
                exact cut_inA ⟨_, h, rfl, H.pickL [1, 2] rfl⟩
            · rintro _ w96664 ⟨v96654, h, rfl, H⟩
              unfold gemotlaw14_PlaceDuties.k8 at h
              refine nc_seq ?_
              refine nc ?_
              refine nc_cond rfl (fun hc96665 => ?_) (fun hc96665 => ?_)
              · replace h := condT hc96665 h
                refine nc_seq ?_
                refine nc ?_
                refine nc ?_
                cases h
                replace hq84585 : (Sum.inr false) = o84580 := hq84585
                subst hq84585
                have h := hO84582
                try dsimp only [Sum.elim_inl, Sum.elim_inr] at h
                replace h := Option.some.inj h
                subst h
                exact ret_inA [.bool false] ⟨_, rfl, ⟨rfl, H.frame⟩⟩
              · replace h := condF hc96665 h
                refine nc ?_
                exact cut_inA ⟨h, rfl, H.pickL [0, 1] rfl⟩
        · rintro _ w96666 ⟨h, rfl, H⟩
          unfold gemotlaw14_PlaceDuties.k7 at h
          refine nc ?_
          cases h
          exact again_inA ⟨_, hq84585, rfl, H.pickL [0, 1] rfl⟩
      · replace h := condF hc84593 h
        refine nc ?_
        cases h
        replace hq84585 : (Sum.inl ()) = o84580 := hq84585
        subst hq84585
        have h := hO84582
        try dsimp only [Sum.elim_inl, Sum.elim_inr] at h
        exact cut_inA ⟨h, rfl, H.pickL [0, 1] rfl⟩
    · rintro _ w96667 ⟨h, rfl, H⟩
      unfold gemotlaw14_PlaceDuties.k11 at h
      refine nc_seq ?_
      refine nc ?_
      refine nc ?_
      replace h := Option.some.inj h
      subst h
      exact ret_inA [.bool ((y19.length : Int) == (IntKind.i64.wrap ((IntKind.i64.wrap ((2 : Int) * (y31.length : Int))) - (1 : Int))))] ⟨_, rfl, ⟨rfl, H.frame⟩⟩
/-! gemot/gemotlaw14.PlaceMeet -/
noncomputable def gemotlaw14_PlaceMeet.k1 (y13 : (List UInt8)) (y19 : (List Int)) (y43 : (List (List UInt8))) (y67 : (List (List UInt8))) (v451 : Int) (v452 : Int) (v659 : Bool) : Option ((Int × Int) ⊕ (Int × Int)) := cond v659 (some (.inl ((IntKind.i64.wrap (v451 - (1 : Int))), (IntKind.i64.wrap (v452 - (1 : Int)))))) (some (.inr (v451, v452)))
noncomputable def gemotlaw14_PlaceMeet.b2 (y13 : (List UInt8)) (y19 : (List Int)) (y43 : (List (List UInt8))) (y67 : (List (List UInt8))) (v451 : Int) (v452 : Int) : Option ((Int × Int) ⊕ (Int × Int)) := cond (cond (decide (v451 ≥ (0 : Int))) (decide (v452 ≥ (0 : Int))) false) ((idxL y43 v451).bind fun y663 => (idxL y67 v452).bind fun y669 => gemotlaw14_PlaceMeet.k1 y13 y19 y43 y67 v451 v452 (cond (cond (decide (v451 ≥ (0 : Int))) (decide (v452 ≥ (0 : Int))) false) (strEq y663 y669) false)) (gemotlaw14_PlaceMeet.k1 y13 y19 y43 y67 v451 v452 (cond (cond (decide (v451 ≥ (0 : Int))) (decide (v452 ≥ (0 : Int))) false) (strEq ([] : List UInt8) ([] : List UInt8)) false))
noncomputable def gemotlaw14_PlaceMeet.b3 (y13 : (List UInt8)) (y19 : (List Int)) (y43 : (List (List UInt8))) (y67 : (List (List UInt8))) (v377 : Int) (v378 : Int) (v1467 : Int) (v1883 : Int) : Option (Int ⊕ (Unit ⊕ Bool)) := cond (decide (v1883 ≤ v378)) ((idxL y43 v1467).bind fun y1929 => (idxL y67 v1883).bind fun y1935 => cond (strEq y1929 y1935) (some (.inr (Sum.inr false))) (some (.inl (IntKind.i64.wrap (v1883 + (1 : Int)))))) (some (.inr (Sum.inl ())))
noncomputable def gemotlaw14_PlaceMeet.k4 (y13 : (List UInt8)) (y19 : (List Int)) (y43 : (List (List UInt8))) (y67 : (List (List UInt8))) (v377 : Int) (v378 : Int) (v1467 : Int) : Option (Int ⊕ (Unit ⊕ Bool)) := some (.inl (IntKind.i64.wrap (v1467 + (1 : Int))))
noncomputable def gemotlaw14_PlaceMeet.b5 (y13 : (List UInt8)) (y19 : (List Int)) (y43 : (List (List UInt8))) (y67 : (List (List UInt8))) (v377 : Int) (v378 : Int) (v1467 : Int) : Option (Int ⊕ (Unit ⊕ Bool)) := cond (decide (v1467 ≤ v377)) ((loopM (fun s1925 : Int => gemotlaw14_PlaceMeet.b3 y13 y19 y43 y67 v377 v378 v1467 s1925) (0 : Int)).bind (Sum.elim (fun (o1923 : Unit) => gemotlaw14_PlaceMeet.k4 y13 y19 y43 y67 v377 v378 v1467) (fun (o1924 : Bool) => some (.inr (Sum.inr o1924))))) (some (.inr (Sum.inl ())))
noncomputable def gemotlaw14_PlaceMeet.k6 (y13 : (List UInt8)) (y19 : (List Int)) (y2039 : (List (List UInt8))) (v3063 : Int) (v3635 : Bool) : Option (Int ⊕ (Unit ⊕ Bool)) := cond v3635 (some (.inr (Sum.inr false))) (some (.inl (IntKind.i64.wrap (v3063 + (1 : Int)))))
noncomputable def gemotlaw14_PlaceMeet.b7 (y13 : (List UInt8)) (y19 : (List Int)) (y2039 : (List (List UInt8))) (v3063 : Int) : Option (Int ⊕ (Unit ⊕ Bool)) := cond (decide (v3063 < (y2039.length : Int))) ((idxL y2039 v3063).bind fun y3576 => (place_At.f y13 y3576).bind fun y3582 => (tree_Members.f y3582.1).bind fun y3588 => cond ((y3588.length : Int) == (0 : Int)) (gemotlaw14_PlaceMeet.k6 y13 y19 y2039 v3063 (cond (cond ((y3588.length : Int) == (0 : Int)) true ((0 : Int) != (0 : Int))) true (!false))) ((idxL y2039 v3063).bind fun y3640 => (place_Sponsor.f y13 y3640).bind fun y3646 => (idxL y3588 (0 : Int)).bind fun y3652 => cond (y3646 != y3652) (gemotlaw14_PlaceMeet.k6 y13 y19 y2039 v3063 (cond (cond ((y3588.length : Int) == (0 : Int)) true (y3646 != y3652)) true (!false))) ((idxL y3588 (0 : Int)).bind fun y3660 => (gemotref10_Has.f y19 y3660).bind fun y3666 => gemotlaw14_PlaceMeet.k6 y13 y19 y2039 v3063 (cond (cond ((y3588.length : Int) == (0 : Int)) true (y3646 != y3652)) true (!y3666))))) (some (.inr (Sum.inl ())))
noncomputable def gemotlaw14_PlaceMeet.k8 : Option (Bool) := some true
noncomputable def gemotlaw14_PlaceMeet.k9 (y13 : (List UInt8)) (y19 : (List Int)) (v2013 : Bool) : Option (Bool) := cond v2013 (some false) ((place_Nodes.f y13).bind fun y2039 => (loopM (fun s3473 : Int => gemotlaw14_PlaceMeet.b7 y13 y19 y2039 s3473) (0 : Int)).bind (Sum.elim (fun (o3471 : Unit) => gemotlaw14_PlaceMeet.k8) (fun (o3472 : Bool) => some o3472)))
noncomputable def gemotlaw14_PlaceMeet.k10 (y13 : (List UInt8)) (y19 : (List Int)) (y43 : (List (List UInt8))) (y67 : (List (List UInt8))) (v377 : Int) (v378 : Int) : Option (Bool) := cond (cond (decide (v377 ≥ (0 : Int))) (decide (v378 ≥ (0 : Int))) false) ((idxL y43 v377).bind fun y2017 => (place_Beside.f y2017).bind fun y2023 => (idxL y67 v378).bind fun y2029 => gemotlaw14_PlaceMeet.k9 y13 y19 (cond (cond (cond (decide (v377 ≥ (0 : Int))) (decide (v378 ≥ (0 : Int))) false) (!(strEq y2023 y2029)) false) true ((decide (v377 < (0 : Int))) != (decide (v378 < (0 : Int)))))) (gemotlaw14_PlaceMeet.k9 y13 y19 (cond (cond (cond (decide (v377 ≥ (0 : Int))) (decide (v378 ≥ (0 : Int))) false) (!(strEq ([] : List UInt8) ([] : List UInt8))) false) true ((decide (v377 < (0 : Int))) != (decide (v378 < (0 : Int))))))
noncomputable def gemotlaw14_PlaceMeet.k11 (y13 : (List UInt8)) (y19 : (List Int)) (y43 : (List (List UInt8))) (y67 : (List (List UInt8))) (v377 : Int) (v378 : Int) : Option (Bool) := (loopM (fun s1787 : Int => gemotlaw14_PlaceMeet.b5 y13 y19 y43 y67 v377 v378 s1787) (0 : Int)).bind (Sum.elim (fun (o1785 : Unit) => gemotlaw14_PlaceMeet.k10 y13 y19 y43 y67 v377 v378) (fun (o1786 : Bool) => some o1786))
noncomputable def gemotlaw14_PlaceMeet.f (x0 : List Int) (x1 : Int) (x2 : Int) : Option (Bool) := (gemotlaw14_shown.f).bind fun y6 => cond (!y6) (some false) ((gemotlaw14_made.f x0).bind fun y13 => (tree_Members.f y13).bind fun y19 => (gemotlaw14_pick.f x1 (y19.length : Int)).bind fun y31 => (idxL y19 y31).bind fun y37 => (place_Path.f y13 y37).bind fun y43 => (gemotlaw14_pick.f x2 (y19.length : Int)).bind fun y55 => (idxL y19 y55).bind fun y61 => (place_Path.f y13 y61).bind fun y67 => (loopM (fun s606 : Int × Int => gemotlaw14_PlaceMeet.b2 y13 y19 y43 y67 s606.1 s606.2) ((IntKind.i64.wrap ((y43.length : Int) - (1 : Int))), (IntKind.i64.wrap ((y67.length : Int) - (1 : Int))))).bind (fun (o605 : Int × Int) => gemotlaw14_PlaceMeet.k11 y13 y19 y43 y67 o605.1 o605.2))
set_option maxHeartbeats 4000000 in
theorem gemotlaw14_PlaceMeet_ok {ok : Nat → Prop} {w : World} {u1 : Value} {x0 : List Int} {x1 : Int} {x2 : Int} {r : Bool} (hu2 : slR (tInt .i64) w ok u1 x0) (h : gemotlaw14_PlaceMeet.f x0 x1 x2 = some r) :
    Calls Tryd.prog 6 #[u1, .int .i64 x1, .int .i64 x2] w fun e w' => ∃ v, e = .returned v ∧ (v = .bool r ∧ Bel w.heap.size w w') := by
  have H : Eng.Own ok w w [] := Eng.Own.nil ok w
  obtain ⟨A3, c4, rfl, H⟩ := H.arg rfl hu2
  unfold gemotlaw14_PlaceMeet.f at h
  refine enterN (args := [.slice A3 x0.length c4, .int .i64 x1, .int .i64 x2]) Tryd.func6 rfl Tryd.ntmps6 rfl rfl ?_
  refine nc_seq ?_
  refine nc ?_
  refine nc_seq ?_
  refine nc ?_
  obtain ⟨y6, hy7, h⟩ := bindS h
  refine call_rule (by kernel_rfl) (gemotlaw14_shown_ok (ok := fun _ => False) hy7) fun v9 w8 ⟨hv10, hb11⟩ => ?_
  subst hv10
  replace H := H.call hb11
  refine nc_seq ?_
  refine nc_seq ?_
  refine nc ?_
  refine nc_cond rfl (fun hc12 => ?_) (fun hc12 => ?_)
  · replace h := condT hc12 h
    refine nc_seq ?_
    refine nc ?_
    refine nc ?_
    replace h := Option.some.inj h
    subst h
    exact ret_inA [.bool false] ⟨_, rfl, ⟨rfl, H.frame⟩⟩
  · replace h := condF hc12 h
    refine nc ?_
    refine nc_seq ?_
    refine nc ?_
    obtain ⟨y13, hy14, h⟩ := bindS h
    refine call_rule (by kernel_rfl) (gemotlaw14_made_ok (H.dat 0 rfl) hy14) fun v16 w15 ⟨hv17, hb18⟩ => ?_
    subst hv17
    replace H := H.call hb18
    refine nc_seq ?_
    refine nc ?_
    obtain ⟨y19, hy20, h⟩ := bindS h
    refine call_rule (by kernel_rfl) (tree_Members_ok (ok := fun _ => False) hy20) fun u25 w21 ⟨hu26, hb24⟩ => ?_
    replace H := H.callDats hb24 [dSl (tInt .i64) u25 y19] ⟨(slR_any hu26), trivial⟩
    obtain ⟨A27, c28, hA29, _⟩ := H.sl 0 rfl
    subst hA29
    refine nc_seq ?_
    refine nc ?_
    obtain ⟨y31, hy32, h⟩ := bindS h
    refine call_rule (by kernel_rfl) (gemotlaw14_pick_ok (ok := fun _ => False) hy32) fun v34 w33 ⟨hv35, hb36⟩ => ?_
    subst hv35
    replace H := H.call hb36
    obtain ⟨y37, hx38, h⟩ := bindS h
    obtain ⟨a39, cs40, rfl, hR41, H⟩ := H.elemI 0 rfl hx38
    obtain rfl : cs40 = [.int .i64 y37] := hR41
    refine idxA_rule (e := 3) 1 _ (by kernel_rfl) (by kernel_rfl) (idxL_some hx38).1 (idxL_some hx38).2.1 ?_
    refine own_loadD H 0 rfl 0 (by kernel_rfl) rfl ?_
    obtain ⟨y43, hy44, h⟩ := bindS h
    refine call_rule (by kernel_rfl) (place_Path_ok (ok := fun _ => False) hy44) fun u49 w45 ⟨hu50, hb48⟩ => ?_
    replace H := H.callDats hb48 [dSl tStr u49 y43] ⟨(slR_any hu50), trivial⟩
    obtain ⟨A51, c52, hA53, _⟩ := H.sl 0 rfl
    subst hA53
    refine nc_seq ?_
    refine nc ?_
    obtain ⟨y55, hy56, h⟩ := bindS h
    refine call_rule (by kernel_rfl) (gemotlaw14_pick_ok (ok := fun _ => False) hy56) fun v58 w57 ⟨hv59, hb60⟩ => ?_
    subst hv59
    replace H := H.call hb60
    obtain ⟨y61, hx62, h⟩ := bindS h
    obtain ⟨cs64, hR65, H⟩ := H.elemJ 2 rfl hx62
    obtain rfl : cs64 = [.int .i64 y61] := hR65
    refine idxA_rule (e := 3) 1 _ (by kernel_rfl) (by kernel_rfl) (idxL_some hx62).1 (idxL_some hx62).2.1 ?_
    refine own_loadD H 0 rfl 0 (by kernel_rfl) rfl ?_
    obtain ⟨y67, hy68, h⟩ := bindS h
    refine call_rule (by kernel_rfl) (place_Path_ok (ok := fun _ => False) hy68) fun u73 w69 ⟨hu74, hb72⟩ => ?_
    replace H := H.callDats hb72 [dSl tStr u73 y67] ⟨(slR_any hu74), trivial⟩
    obtain ⟨A75, c76, hA77, _⟩ := H.sl 0 rfl
    subst hA77
    refine nc_seq ?_
    refine nc ?_
    refine nc_seq ?_
    refine nc ?_
    refine nc_cut (fun e w379 => ∃ (v377 : Int) (v378 : Int), gemotlaw14_PlaceMeet.k11 y13 y19 y43 y67 v377 v378 = some r ∧ e = [(8, .string (bs y13)), (9, .slice (some a39) y19.length c28), (10, .slice A51 y43.length c52), (11, .slice A75 y67.length c76), (12, .int .i64 v377), (13, .int .i64 v378)] ∧ Eng.Own ok w w379 [.dat (dSl (tInt .i64) (.slice (some a39) y19.length c28) y19), .dat (dSl tStr (.slice A51 y43.length c52) y43), .dat (dSl tStr (.slice A75 y67.length c76) y67)]) ?_ ?_
    · skip
      refine nc_block ?_
      obtain ⟨o597, hL598, hO599⟩ := bindS h
      obtain ⟨n600, hL598⟩ := loopS hL598
      refine nc ?_
      refine loop_ruleA (fun k e w604 => ∃ (v451 : Int) (v452 : Int), iterM (fun s606 : Int × Int => gemotlaw14_PlaceMeet.b2 y13 y19 y43 y67 s606.1 s606.2) k (v451, v452) = some o597 ∧ e = [(8, .string (bs y13)), (9, .slice (some a39) y19.length c28), (10, .slice A51 y43.length c52), (11, .slice A75 y67.length c76), (12, .int .i64 v451), (13, .int .i64 v452)] ∧ Eng.Own ok w w604 [.dat (dSl (tInt .i64) (.slice (some a39) y19.length c28) y19), .dat (dSl tStr (.slice A51 y43.length c52) y43), .dat (dSl tStr (.slice A75 y67.length c76) y67)]) ⟨_, _, hL598, rfl, H.pickL [4, 2, 0] rfl⟩ ?_
      rintro k608 _ w607 ⟨v451, v452, hL598, rfl, H⟩
      obtain ⟨k603, rfl, q601, h, hq602⟩ := iterS hL598
      replace h : gemotlaw14_PlaceMeet.b2 y13 y19 y43 y67 v451 v452 = some q601 := h
      unfold gemotlaw14_PlaceMeet.b2 at h
      refine nc_seq ?_
      refine nc_cut (fun e w660 => ∃ (v659 : Bool), gemotlaw14_PlaceMeet.k1 y13 y19 y43 y67 v451 v452 v659 = some q601 ∧ e = [(8, .string (bs y13)), (9, .slice (some a39) y19.length c28), (10, .slice A51 y43.length c52), (11, .slice A75 y67.length c76), (12, .int .i64 v451), (13, .int .i64 v452), (68, .bool v659)] ∧ Eng.Own ok w w660 [.dat (dSl (tInt .i64) (.slice (some a39) y19.length c28) y19), .dat (dSl tStr (.slice A51 y43.length c52) y43), .dat (dSl tStr (.slice A75 y67.length c76) y67)]) ?_ ?_
      · skip
        rcases Bool.eq_false_or_eq_true (cond (decide (v451 ≥ (0 : Int))) (decide (v452 ≥ (0 : Int))) false) with hg662 | hg662
        · replace h := condT hg662 h
          obtain ⟨y663, hx664, h⟩ := bindS h
          obtain ⟨a665, cs666, rfl, hR667, H⟩ := H.elemI 1 rfl hx664
          obtain rfl : cs666 = [.string (bs y663)] := hR667
          obtain ⟨y669, hx670, h⟩ := bindS h
          obtain ⟨a671, cs672, rfl, hR673, H⟩ := H.elemI 3 rfl hx670
          obtain rfl : cs672 = [.string (bs y669)] := hR673
          refine nc ?_
          refine draw_rule [] (by kernel_rfl) (by kernel_rfl) H ?_
          refine c_idxA (e := 9) 1 _ (by kernel_rfl) (by kernel_rfl) (idxL_some hx664).1 (idxL_some hx664).2.1 ?_
          refine c_loadD 1 rfl 0 (by kernel_rfl) rfl ?_
          refine c_idxA (e := 9) 1 _ (by kernel_rfl) (by kernel_rfl) (idxL_some hx670).1 (idxL_some hx670).2.1 ?_
          refine c_loadD 0 rfl 0 (by kernel_rfl) rfl ?_
          intro w675 H
          exact cut_inA ⟨_, h, rfl, H.pickL [2, 3, 4] rfl⟩
        · replace h := condF hg662 h
          refine nc ?_
          refine draw_rule [] (by kernel_rfl) (by kernel_rfl) H ?_
          refine c_skipIA (.pointer (some ⟨0, 0, none⟩)) (gF1 hg662) ?_
          refine c_skipLD (.string (bs ([] : List UInt8))) (gF1 hg662) ?_
          refine c_skipIA (.pointer (some ⟨0, 0, none⟩)) (gF1 hg662) ?_
          refine c_skipLD (.string (bs ([] : List UInt8))) (gF1 hg662) ?_
          intro w676 H
          exact cut_inA ⟨_, h, rfl, H.pickL [0, 1, 2] rfl⟩
      · rintro _ w677 ⟨v659, h, rfl, H⟩
        unfold gemotlaw14_PlaceMeet.k1 at h
        refine nc_cond rfl (fun hc678 => ?_) (fun hc678 => ?_)
        · replace h := condT hc678 h
          refine nc ?_
          refine nc_block ?_
          refine nc_seq ?_
          refine nc ?_
          refine nc ?_
          cases h
          exact again_inA ⟨_, _, hq602, rfl, H.pickL [0, 1, 2] rfl⟩
        · replace h := condF hc678 h
          refine nc ?_
          cases h
          replace hq602 : (v451, v452) = o597 := hq602
          subst hq602
          have h := hO599
          try dsimp only [Sum.elim_inl, Sum.elim_inr] at h
          exact cut_inA ⟨_, _, h, rfl, H.pickL [0, 1, 2] rfl⟩
    · rintro _ w679 ⟨v377, v378, h, rfl, H⟩
      unfold gemotlaw14_PlaceMeet.k11 at h
      refine nc_cut (fun e w1311 => gemotlaw14_PlaceMeet.k10 y13 y19 y43 y67 v377 v378 = some r ∧ e = [(8, .string (bs y13)), (9, .slice (some a39) y19.length c28), (10, .slice A51 y43.length c52), (11, .slice A75 y67.length c76), (12, .int .i64 v377), (13, .int .i64 v378)] ∧ Eng.Own ok w w1311 [.dat (dSl (tInt .i64) (.slice (some a39) y19.length c28) y19), .dat (dSl tStr (.slice A51 y43.length c52) y43), .dat (dSl tStr (.slice A75 y67.length c76) y67)]) ?_ ?_
      · skip
        refine nc_seq ?_
        refine nc ?_
        refine nc_block ?_
        obtain ⟨o1777, hL1778, hO1779⟩ := bindS h
        obtain ⟨n1780, hL1778⟩ := loopS hL1778
        refine nc ?_
        refine loop_ruleA (fun k e w1784 => ∃ (v1467 : Int), iterM (fun s1787 : Int => gemotlaw14_PlaceMeet.b5 y13 y19 y43 y67 v377 v378 s1787) k v1467 = some o1777 ∧ e = [(8, .string (bs y13)), (9, .slice (some a39) y19.length c28), (10, .slice A51 y43.length c52), (11, .slice A75 y67.length c76), (12, .int .i64 v377), (13, .int .i64 v378), (14, .int .i64 v1467)] ∧ Eng.Own ok w w1784 [.dat (dSl (tInt .i64) (.slice (some a39) y19.length c28) y19), .dat (dSl tStr (.slice A51 y43.length c52) y43), .dat (dSl tStr (.slice A75 y67.length c76) y67)]) ⟨_, hL1778, rfl, H.pickL [0, 1, 2] rfl⟩ ?_
        rintro k1789 _ w1788 ⟨v1467, hL1778, rfl, H⟩
        obtain ⟨k1783, rfl, q1781, h, hq1782⟩ := iterS hL1778
        replace h : gemotlaw14_PlaceMeet.b5 y13 y19 y43 y67 v377 v378 v1467 = some q1781 := h
        unfold gemotlaw14_PlaceMeet.b5 at h
        refine nc_seq ?_
        refine nc_seq ?_
        refine nc ?_
        refine nc_cond rfl (fun hc1790 => ?_) (fun hc1790 => ?_)
        · replace h := condT hc1790 h
          refine nc ?_
          refine nc_cut (fun e w1866 => gemotlaw14_PlaceMeet.k4 y13 y19 y43 y67 v377 v378 v1467 = some q1781 ∧ e = [(8, .string (bs y13)), (9, .slice (some a39) y19.length c28), (10, .slice A51 y43.length c52), (11, .slice A75 y67.length c76), (12, .int .i64 v377), (13, .int .i64 v378), (14, .int .i64 v1467)] ∧ Eng.Own ok w w1866 [.dat (dSl (tInt .i64) (.slice (some a39) y19.length c28) y19), .dat (dSl tStr (.slice A51 y43.length c52) y43), .dat (dSl tStr (.slice A75 y67.length c76) y67)]) ?_ ?_
          · skip
            refine nc_block ?_
            refine nc_seq ?_
            refine nc ?_
            refine nc_block ?_
            obtain ⟨o1915, hL1916, hO1917⟩ := bindS h
            obtain ⟨n1918, hL1916⟩ := loopS hL1916
            refine nc ?_
            refine loop_ruleA (fun k e w1922 => ∃ (v1883 : Int), iterM (fun s1925 : Int => gemotlaw14_PlaceMeet.b3 y13 y19 y43 y67 v377 v378 v1467 s1925) k v1883 = some o1915 ∧ e = [(8, .string (bs y13)), (9, .slice (some a39) y19.length c28), (10, .slice A51 y43.length c52), (11, .slice A75 y67.length c76), (12, .int .i64 v377), (13, .int .i64 v378), (14, .int .i64 v1467), (15, .int .i64 v1883)] ∧ Eng.Own ok w w1922 [.dat (dSl (tInt .i64) (.slice (some a39) y19.length c28) y19), .dat (dSl tStr (.slice A51 y43.length c52) y43), .dat (dSl tStr (.slice A75 y67.length c76) y67)]) ⟨_, hL1916, rfl, H.pickL [0, 1, 2] rfl⟩ ?_
            rintro k1927 _ w1926 ⟨v1883, hL1916, rfl, H⟩
            obtain ⟨k1921, rfl, q1919, h, hq1920⟩ := iterS hL1916
            replace h : gemotlaw14_PlaceMeet.b3 y13 y19 y43 y67 v377 v378 v1467 v1883 = some q1919 := h
            unfold gemotlaw14_PlaceMeet.b3 at h
            refine nc_seq ?_
            refine nc_seq ?_
            refine nc ?_
            refine nc_cond rfl (fun hc1928 => ?_) (fun hc1928 => ?_)
            · replace h := condT hc1928 h
              refine nc ?_
              refine nc_seq ?_
              refine nc_block ?_
              refine nc_seq ?_
              obtain ⟨y1929, hx1930, h⟩ := bindS h
              obtain ⟨a1931, cs1932, rfl, hR1933, H⟩ := H.elemI 1 rfl hx1930
              obtain rfl : cs1932 = [.string (bs y1929)] := hR1933
              obtain ⟨y1935, hx1936, h⟩ := bindS h
              obtain ⟨a1937, cs1938, rfl, hR1939, H⟩ := H.elemI 3 rfl hx1936
              obtain rfl : cs1938 = [.string (bs y1935)] := hR1939
              refine nc ?_
              refine draw_rule [] (by kernel_rfl) (by kernel_rfl) H ?_
              refine c_idxA (e := 9) 1 _ (by kernel_rfl) (by kernel_rfl) (idxL_some hx1930).1 (idxL_some hx1930).2.1 ?_
              refine c_loadD 1 rfl 0 (by kernel_rfl) rfl ?_
              refine c_idxA (e := 9) 1 _ (by kernel_rfl) (by kernel_rfl) (idxL_some hx1936).1 (idxL_some hx1936).2.1 ?_
              refine c_loadD 0 rfl 0 (by kernel_rfl) rfl ?_
              intro w1941 H
              refine nc_cond rfl (fun hc1942 => ?_) (fun hc1942 => ?_)
              · replace h := condT hc1942 h
                refine nc_seq ?_
                refine nc ?_
                refine nc ?_
                cases h
                replace hq1920 : (Sum.inr false) = o1915 := hq1920
                subst hq1920
                have h := hO1917
                try dsimp only [Sum.elim_inl, Sum.elim_inr] at h
                cases h
                replace hq1782 : (Sum.inr false) = o1777 := hq1782
                subst hq1782
                have h := hO1779
                try dsimp only [Sum.elim_inl, Sum.elim_inr] at h
                replace h := Option.some.inj h
                subst h
                exact ret_inA [.bool false] ⟨_, rfl, ⟨rfl, H.frame⟩⟩
              · replace h := condF hc1942 h
                refine nc ?_
                refine nc ?_
                cases h
                exact again_inA ⟨_, hq1920, rfl, H.pickL [2, 3, 4] rfl⟩
            · replace h := condF hc1928 h
              refine nc ?_
              cases h
              replace hq1920 : (Sum.inl ()) = o1915 := hq1920
              subst hq1920
              have h := hO1917
              try dsimp only [Sum.elim_inl, Sum.elim_inr] at h
              exact cut_inA ⟨h, rfl, H.pickL [0, 1, 2] rfl⟩
          · rintro _ w1943 ⟨h, rfl, H⟩
            unfold gemotlaw14_PlaceMeet.k4 at h
            refine nc ?_
            cases h
            exact again_inA ⟨_, hq1782, rfl, H.pickL [0, 1, 2] rfl⟩
        · replace h := condF hc1790 h
          refine nc ?_
          cases h
          replace hq1782 : (Sum.inl ()) = o1777 := hq1782
          subst hq1782
          have h := hO1779
          try dsimp only [Sum.elim_inl, Sum.elim_inr] at h
          exact cut_inA ⟨h, rfl, H.pickL [0, 1, 2] rfl⟩
      · rintro _ w1944 ⟨h, rfl, H⟩
        unfold gemotlaw14_PlaceMeet.k10 at h
        refine nc_seq ?_
        refine nc_cut (fun e w2014 => ∃ (v2013 : Bool), gemotlaw14_PlaceMeet.k9 y13 y19 v2013 = some r ∧ e = [(8, .string (bs y13)), (9, .slice (some a39) y19.length c28), (116, .bool v2013)] ∧ Eng.Own ok w w2014 [.dat (dSl (tInt .i64) (.slice (some a39) y19.length c28) y19)]) ?_ ?_
        · skip
          rcases Bool.eq_false_or_eq_true (cond (decide (v377 ≥ (0 : Int))) (decide (v378 ≥ (0 : Int))) false) with hg2016 | hg2016
          · replace h := condT hg2016 h
            obtain ⟨y2017, hx2018, h⟩ := bindS h
            obtain ⟨a2019, cs2020, rfl, hR2021, H⟩ := H.elemI 1 rfl hx2018
            obtain rfl : cs2020 = [.string (bs y2017)] := hR2021
            obtain ⟨y2023, hy2024, h⟩ := bindS h
            obtain ⟨y2029, hx2030, h⟩ := bindS h
            obtain ⟨a2031, cs2032, rfl, hR2033, H⟩ := H.elemI 3 rfl hx2030
            obtain rfl : cs2032 = [.string (bs y2029)] := hR2033
            refine nc ?_
            refine draw_rule [] (by kernel_rfl) (by kernel_rfl) H ?_
            refine c_idxA (e := 9) 1 _ (by kernel_rfl) (by kernel_rfl) (idxL_some hx2018).1 (idxL_some hx2018).2.1 ?_
            refine c_loadD 1 rfl 0 (by kernel_rfl) rfl ?_
            refine c_call (.string (bs y2023)) (by kernel_rfl) (fun _ _ H => place_Beside_ok (ok := fun _ => False) hy2024) ?_
            refine c_idxA (e := 9) 1 _ (by kernel_rfl) (by kernel_rfl) (idxL_some hx2030).1 (idxL_some hx2030).2.1 ?_
            refine c_loadD 0 rfl 0 (by kernel_rfl) rfl ?_
            intro w2035 H
            exact cut_inA ⟨_, h, rfl, H.pickL [2] rfl⟩
          · replace h := condF hg2016 h
            refine nc ?_
            refine draw_rule [] (by kernel_rfl) (by kernel_rfl) H ?_
            refine c_skipIA (.pointer (some ⟨0, 0, none⟩)) (gF1 hg2016) ?_
            refine c_skipLD (.string (bs ([] : List UInt8))) (gF1 hg2016) ?_
            refine c_skipCL (.string (bs ([] : List UInt8))) (gF1 hg2016) ?_
            refine c_skipIA (.pointer (some ⟨0, 0, none⟩)) (gF1 hg2016) ?_
            refine c_skipLD (.string (bs ([] : List UInt8))) (gF1 hg2016) ?_
            intro w2036 H
            exact cut_inA ⟨_, h, rfl, H.pickL [0] rfl⟩
        · rintro _ w2037 ⟨v2013, h, rfl, H⟩
          unfold gemotlaw14_PlaceMeet.k9 at h
          refine nc_cond rfl (fun hc2038 => ?_) (fun hc2038 => ?_)
          · replace h := condT hc2038 h
            refine nc_seq ?_
            refine nc ?_
            refine nc ?_
            replace h := Option.some.inj h
            subst h
            exact ret_inA [.bool false] ⟨_, rfl, ⟨rfl, H.frame⟩⟩
          · replace h := condF hc2038 h
            refine nc ?_
            refine nc_seq ?_
            refine nc ?_
            obtain ⟨y2039, hy2040, h⟩ := bindS h
            refine call_rule (by kernel_rfl) (place_Nodes_ok (ok := fun _ => False) hy2040) fun u2045 w2041 ⟨hu2046, hb2044⟩ => ?_
            replace H := H.callDats hb2044 [dSl tStr u2045 y2039] ⟨(slR_any hu2046), trivial⟩
            obtain ⟨A2047, c2048, hA2049, _⟩ := H.sl 0 rfl
            subst hA2049
            refine nc_cut (fun e w2862 => gemotlaw14_PlaceMeet.k8 = some r ∧ e = [] ∧ Eng.Own ok w w2862 []) ?_ ?_
            · skip
              refine nc_seq ?_
              refine nc ?_
              refine nc_block ?_
              obtain ⟨o3463, hL3464, hO3465⟩ := bindS h
              obtain ⟨n3466, hL3464⟩ := loopS hL3464
              refine nc ?_
              refine loop_ruleA (fun k e w3470 => ∃ (v3063 : Int), iterM (fun s3473 : Int => gemotlaw14_PlaceMeet.b7 y13 y19 y2039 s3473) k v3063 = some o3463 ∧ e = [(8, .string (bs y13)), (9, .slice (some a39) y19.length c28), (16, .slice A2047 y2039.length c2048), (17, .int .i64 v3063)] ∧ Eng.Own ok w w3470 [.dat (dSl (tInt .i64) (.slice (some a39) y19.length c28) y19), .dat (dSl tStr (.slice A2047 y2039.length c2048) y2039)]) ⟨_, hL3464, rfl, H.pickL [1, 0] rfl⟩ ?_
              rintro k3475 _ w3474 ⟨v3063, hL3464, rfl, H⟩
              obtain ⟨k3469, rfl, q3467, h, hq3468⟩ := iterS hL3464
              replace h : gemotlaw14_PlaceMeet.b7 y13 y19 y2039 v3063 = some q3467 := h
              unfold gemotlaw14_PlaceMeet.b7 at h
              refine nc_seq ?_
              refine nc_seq ?_
              refine nc ?_
              refine nc_cond rfl (fun hc3476 => ?_) (fun hc3476 => ?_)
              · replace h := condT hc3476 h
                refine nc ?_
                refine nc_seq ?_
                refine nc_block ?_
                refine nc_seq ?_
                refine nc ?_
                obtain ⟨y3576, hx3577, h⟩ := bindS h
                obtain ⟨a3578, cs3579, rfl, hR3580, H⟩ := H.elemI 1 rfl hx3577
                obtain rfl : cs3579 = [.string (bs y3576)] := hR3580
                refine idxA_rule (e := 9) 1 _ (by kernel_rfl) (by kernel_rfl) (idxL_some hx3577).1 (idxL_some hx3577).2.1 ?_
                refine own_loadD H 0 rfl 0 (by kernel_rfl) rfl ?_
                obtain ⟨y3582, hy3583, h⟩ := bindS h
                refine call_rule (by kernel_rfl) (place_At_ok hy3583) fun v3585 w3584 ⟨hv3586, hb3587⟩ => ?_
                subst hv3586
                replace H := H.call hb3587
                refine nc_seq ?_
                refine nc ?_
                obtain ⟨y3588, hy3589, h⟩ := bindS h
                refine call_rule (by kernel_rfl) (tree_Members_ok (ok := fun _ => False) hy3589) fun u3594 w3590 ⟨hu3595, hb3593⟩ => ?_
                replace H := H.callDats hb3593 [dSl (tInt .i64) u3594 y3588] ⟨(slR_any hu3595), trivial⟩
                obtain ⟨A3596, c3597, hA3598, _⟩ := H.sl 0 rfl
                subst hA3598
                refine nc_cut (fun e w3636 => ∃ (v3635 : Bool), gemotlaw14_PlaceMeet.k6 y13 y19 y2039 v3063 v3635 = some q3467 ∧ e = [(8, .string (bs y13)), (9, .slice (some a39) y19.length c28), (16, .slice (some a3578) y2039.length c2048), (17, .int .i64 v3063), (158, .bool v3635)] ∧ Eng.Own ok w w3636 [.dat (dSl (tInt .i64) (.slice (some a39) y19.length c28) y19), .dat (dSl tStr (.slice (some a3578) y2039.length c2048) y2039)]) ?_ ?_
                · skip
                  rcases Bool.eq_false_or_eq_true ((y3588.length : Int) == (0 : Int)) with hg3638 | hg3638
                  · replace h := condT hg3638 h
                    refine nc ?_
                    refine draw_rule [] (by kernel_rfl) (by kernel_rfl) H ?_
                    refine c_skipIA (.pointer (some ⟨0, 0, none⟩)) (gF0 hg3638) ?_
                    refine c_skipLD (.string (bs ([] : List UInt8))) (gF0 hg3638) ?_
                    refine c_skipCL (.int .i64 0) (gF0 hg3638) ?_
                    refine c_skipIA (.pointer (some ⟨0, 0, none⟩)) (gF0 hg3638) ?_
                    refine c_skipLD (.int .i64 0) (gF0 hg3638) ?_
                    refine c_skipIA (.pointer (some ⟨0, 0, none⟩)) (gF0 (pickT hg3638)) ?_
                    refine c_skipLD (.int .i64 0) (gF0 (pickT hg3638)) ?_
                    refine c_skipCL (.bool false) (gF0 (pickT hg3638)) ?_
                    intro w3639 H
                    exact cut_inA ⟨_, h, rfl, H.pickL [2, 3] rfl⟩
                  · replace h := condF hg3638 h
                    obtain ⟨y3640, hx3641, h⟩ := bindS h
                    obtain ⟨cs3643, hR3644, H⟩ := H.elemJ 3 rfl hx3641
                    obtain rfl : cs3643 = [.string (bs y3640)] := hR3644
                    obtain ⟨y3646, hy3647, h⟩ := bindS h
                    obtain ⟨y3652, hx3653, h⟩ := bindS h
                    obtain ⟨a3654, cs3655, rfl, hR3656, H⟩ := H.elemI 1 rfl hx3653
                    obtain rfl : cs3655 = [.int .i64 y3652] := hR3656
                    rcases Bool.eq_false_or_eq_true (y3646 != y3652) with hg3658 | hg3658
                    · replace h := condT hg3658 h
                      refine nc ?_
                      refine draw_rule [] (by kernel_rfl) (by kernel_rfl) H ?_
                      refine c_idxA (e := 9) 1 _ (by kernel_rfl) (by kernel_rfl) (idxL_some hx3641).1 (idxL_some hx3641).2.1 ?_
                      refine c_loadD 1 rfl 0 (by kernel_rfl) rfl ?_
                      refine c_call (.int .i64 y3646) (by kernel_rfl) (fun _ _ H => place_Sponsor_ok (ok := fun _ => False) hy3647) ?_
                      refine c_idxA (e := 3) 1 _ (by kernel_rfl) (by kernel_rfl) (idxL_some hx3653).1 (idxL_some hx3653).2.1 ?_
                      refine c_loadD 0 rfl 0 (by kernel_rfl) rfl ?_
                      refine c_skipIA (.pointer (some ⟨0, 0, none⟩)) (gF0 ((pickF hg3638).trans hg3658)) ?_
                      refine c_skipLD (.int .i64 0) (gF0 ((pickF hg3638).trans hg3658)) ?_
                      refine c_skipCL (.bool false) (gF0 ((pickF hg3638).trans hg3658)) ?_
                      intro w3659 H
                      exact cut_inA ⟨_, h, rfl, H.pickL [4, 5] rfl⟩
                    · replace h := condF hg3658 h
                      obtain ⟨y3660, hx3661, h⟩ := bindS h
                      obtain ⟨cs3663, hR3664, H⟩ := H.elemJ 2 rfl hx3661
                      obtain rfl : cs3663 = [.int .i64 y3660] := hR3664
                      obtain ⟨y3666, hy3667, h⟩ := bindS h
                      refine nc ?_
                      refine draw_rule [] (by kernel_rfl) (by kernel_rfl) H ?_
                      refine c_idxA (e := 9) 1 _ (by kernel_rfl) (by kernel_rfl) (idxL_some hx3641).1 (idxL_some hx3641).2.1 ?_
                      refine c_loadD 2 rfl 0 (by kernel_rfl) rfl ?_
                      refine c_call (.int .i64 y3646) (by kernel_rfl) (fun _ _ H => place_Sponsor_ok (ok := fun _ => False) hy3647) ?_
                      refine c_idxA (e := 3) 1 _ (by kernel_rfl) (by kernel_rfl) (idxL_some hx3653).1 (idxL_some hx3653).2.1 ?_
                      refine c_loadD 1 rfl 0 (by kernel_rfl) rfl ?_
                      refine c_idxA (e := 3) 1 _ (by kernel_rfl) (by kernel_rfl) (idxL_some hx3661).1 (idxL_some hx3661).2.1 ?_
                      refine c_loadD 0 rfl 0 (by kernel_rfl) rfl ?_
                      refine c_call (.bool y3666) (by kernel_rfl) (fun _ _ H => gemotref10_Has_ok (H.dat 5 rfl) hy3667) ?_
                      intro w3672 H
                      exact cut_inA ⟨_, h, rfl, H.pickL [5, 6] rfl⟩
                · rintro _ w3673 ⟨v3635, h, rfl, H⟩
                  unfold gemotlaw14_PlaceMeet.k6 at h
                  refine nc_cond rfl (fun hc3674 => ?_) (fun hc3674 => ?_)
                  · replace h := condT hc3674 h
                    refine nc_seq ?_
                    refine nc ?_
                    refine nc ?_
                    cases h
                    replace hq3468 : (Sum.inr false) = o3463 := hq3468
                    subst hq3468
                    have h := hO3465
                    try dsimp only [Sum.elim_inl, Sum.elim_inr] at h
                    replace h := Option.some.inj h
                    subst h
                    exact ret_inA [.bool false] ⟨_, rfl, ⟨rfl, H.frame⟩⟩
                  · replace h := condF hc3674 h
                    refine nc ?_
                    refine nc ?_
                    cases h
                    exact again_inA ⟨_, hq3468, rfl, H.pickL [0, 1] rfl⟩
              · replace h := condF hc3476 h
                refine nc ?_
                cases h
                replace hq3468 : (Sum.inl ()) = o3463 := hq3468
                subst hq3468
                have h := hO3465
                try dsimp only [Sum.elim_inl, Sum.elim_inr] at h
                exact cut_inA ⟨h, rfl, H.pickL [] rfl⟩
            · rintro _ w3675 ⟨h, rfl, H⟩
              unfold gemotlaw14_PlaceMeet.k8 at h
              refine nc_seq ?_
              refine nc ?_
              refine nc ?_
              replace h := Option.some.inj h
              subst h
              exact ret_inA [.bool true] ⟨_, rfl, ⟨rfl, H.frame⟩⟩
end Go.Proofs.YtfapphlhkfddoaaDoor.G
