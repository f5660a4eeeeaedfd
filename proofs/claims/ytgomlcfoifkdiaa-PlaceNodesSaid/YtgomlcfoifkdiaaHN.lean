/- Walks, printed by a program of this proof's own. -/
import Derived.Test.YtgomlcfoifkdiaaNodesP
import Derived.KernelRfl
namespace Go.Proofs.Ytgomlcfoifkdiaa.G
open Go.RowKit Go.Eng Go.Proofs
set_option linter.unusedVariables false
set_option maxRecDepth 20000
/-! gemot/place.Beside -/
noncomputable def place_Beside.f (x0 : List UInt8) : Option ((List UInt8)) := cond (strEq x0 ([] : List UInt8)) (some ([] : List UInt8)) ((slcM x0 (0 : Int) (IntKind.i64.wrap ((x0.length : Int) - (1 : Int)))).bind fun y2 => (idxS x0 (IntKind.i64.wrap ((x0.length : Int) - (1 : Int)))).bind fun y4 => cond (y4 == (108 : Int)) (roomM 1 (y2.length + [114].length) (some (y2 ++ [114]))) (roomM 1 (y2.length + [108].length) (some (y2 ++ [108]))))
set_option maxHeartbeats 4000000 in
theorem place_Beside_ok {ok : Nat → Prop} {w : World} {x0 : List UInt8} {r : (List UInt8)} (h : place_Beside.f x0 = some r) :
    Calls Try.prog 50 #[.string (bs x0)] w fun e w' => ∃ v, e = .returned v ∧ (v = .string (bs r) ∧ Bel w.heap.size w w') := by
  have H : Eng.Own ok w w [] := Eng.Own.nil ok w
  unfold place_Beside.f at h
  refine enterN (args := [.string (bs x0)]) Try.func50 rfl Try.ntmps50 rfl rfl ?_
  refine nc_seq ?_
  refine nc ?_
  refine nc_seq ?_
  refine nc_seq ?_
  refine nc ?_
  refine nc_cond rfl (fun hc1 => ?_) (fun hc1 => ?_)
  · replace h := condT hc1 h
    refine nc_seq ?_
    refine nc ?_
    refine nc ?_
    replace h := Option.some.inj h
    subst h
    exact ret_inA [.string (bs ([] : List UInt8))] ⟨_, rfl, ⟨rfl, H.frame⟩⟩
  · replace h := condF hc1 h
    refine nc ?_
    refine nc_seq ?_
    obtain ⟨y2, hx3, h⟩ := bindS h
    obtain ⟨y4, hx5, h⟩ := bindS h
    refine nc ?_
    refine draw_rule [] (by kernel_rfl) (by kernel_rfl) H ?_
    refine c_txtI (0 : Int) (IntKind.i64.wrap ((x0.length : Int) - (1 : Int))) (by kernel_rfl) rfl ⟨_, rfl⟩ hx3 ?_
    refine c_idxS (by kernel_rfl) hx5 ?_
    intro w6 H
    refine nc_seq ?_
    refine nc_seq ?_
    refine nc ?_
    refine nc_cond rfl (fun hc7 => ?_) (fun hc7 => ?_)
    · replace h := condT hc7 h
      refine nc_seq ?_
      refine nc ?_
      obtain ⟨hr8, h⟩ := roomS h
      refine catM_rule hr8 ?_
      refine nc ?_
      replace h := Option.some.inj h
      subst h
      exact ret_inA [.string (bs (y2 ++ [114]))] ⟨_, rfl, ⟨rfl, H.frame⟩⟩
    · replace h := condF hc7 h
      refine nc ?_
      refine nc_seq ?_
      refine nc ?_
      obtain ⟨hr9, h⟩ := roomS h
      refine catM_rule hr9 ?_
      refine nc ?_
      replace h := Option.some.inj h
      subst h
      exact ret_inA [.string (bs (y2 ++ [108]))] ⟨_, rfl, ⟨rfl, H.frame⟩⟩
/-! gemot/place.Co -/
noncomputable def place_Co.k1 (y273 : (List (List UInt8))) (v348 : Int) (v508 : List (List UInt8)) : Option (((List (List UInt8)) × Int) ⊕ (List (List UInt8))) := some (.inl (v508, (IntKind.i64.wrap (v348 + (1 : Int)))))
noncomputable def place_Co.b2 (y273 : (List (List UInt8))) (v344 : List (List UInt8)) (v348 : Int) : Option (((List (List UInt8)) × Int) ⊕ (List (List UInt8))) := cond (decide (v348 < (y273.length : Int))) ((idxL y273 v348).bind fun y514 => cond (!(strEq y514 ([] : List UInt8))) ((place_Beside.f y514).bind fun y521 => roomM 16 (v344.length + 1) (place_Co.k1 y273 v348 (v344 ++ [y521]))) (place_Co.k1 y273 v348 v344)) (some (.inr v344))
noncomputable def place_Co.k3 (v267 : List (List UInt8)) : Option ((List (List UInt8))) := some v267
noncomputable def place_Co.f (x0 : List UInt8) (x1 : Int) : Option ((List (List UInt8))) := (place_Path.f x0 x1).bind fun y273 => (loopM (fun s480 : (List (List UInt8)) × Int => place_Co.b2 y273 s480.1 s480.2) (([] : List (List UInt8)), (0 : Int))).bind (fun (o478 : (List (List UInt8))) => place_Co.k3 o478)
set_option maxHeartbeats 4000000 in
theorem place_Co_ok {ok : Nat → Prop} {w : World} {x0 : List UInt8} {x1 : Int} {r : (List (List UInt8))} (h : place_Co.f x0 x1 = some r) :
    Calls Try.prog 52 #[.string (bs x0), .int .i64 x1] w fun e w' => ∃ v, e = .returned v ∧ (rowOut w w' ok tStr 9 v r ∧ Bel w.heap.size w w') := by
  have H : Eng.Own ok w w [] := Eng.Own.nil ok w
  unfold place_Co.f at h
  refine enterN (args := [.string (bs x0), .int .i64 x1]) Try.func52 rfl Try.ntmps52 rfl rfl ?_
  refine nc_seq ?_
  refine nc ?_
  refine nc_seq ?_
  refine nc ?_
  refine nc_cut (fun e w271 => ∃ (A268 : Option Addr) (c269 : Nat) (cs270 : List Value) (v267 : List (List UInt8)), place_Co.k3 v267 = some r ∧ e = [(5, .slice A268 v267.length c269)] ∧ Eng.Own ok w w271 [.dat (dRows tStr v267 cs270), .row (.slice A268 v267.length c269) 9 1 v267.length cs270]) ?_ ?_
  · skip
    refine nc_seq ?_
    refine nc ?_
    obtain ⟨y273, hy274, h⟩ := bindS h
    refine call_rule (by kernel_rfl) (place_Path_ok (ok := fun _ => False) hy274) fun u279 w275 ⟨hu280, hb278⟩ => ?_
    replace H := H.callDats hb278 [dSl tStr u279 y273] ⟨(slR_any hu280), trivial⟩
    obtain ⟨A281, c282, hA283, _⟩ := H.sl 0 rfl
    subst hA283
    refine nc_block ?_
    replace H := H.nilRowD tStr 9
    obtain ⟨o470, hL471, hO472⟩ := bindS h
    obtain ⟨n473, hL471⟩ := loopS hL471
    refine nc ?_
    refine loop_ruleA (fun k e w477 => ∃ (A345 : Option Addr) (c346 : Nat) (cs347 : List Value) (v344 : List (List UInt8)) (v348 : Int), iterM (fun s480 : (List (List UInt8)) × Int => place_Co.b2 y273 s480.1 s480.2) k (v344, v348) = some o470 ∧ e = [(5, .slice A345 v344.length c346), (10, .slice A281 y273.length c282), (11, .int .i64 (y273.length : Int)), (12, .int .i64 v348)] ∧ Eng.Own ok w w477 [.dat (dRows tStr v344 cs347), .row (.slice A345 v344.length c346) 9 1 v344.length cs347, .dat (dSl tStr (.slice A281 y273.length c282) y273)]) ⟨none, 0, [], _, _, hL471, rfl, H.pickL [0, 1, 2] rfl⟩ ?_
    rintro k482 _ w481 ⟨A345, c346, cs347, v344, v348, hL471, rfl, H⟩
    obtain ⟨k476, rfl, q474, h, hq475⟩ := iterS hL471
    replace h : place_Co.b2 y273 v344 v348 = some q474 := h
    unfold place_Co.b2 at h
    refine nc_seq ?_
    refine nc ?_
    refine nc_seq ?_
    refine nc_cond rfl (fun hc483 => ?_) (fun hc483 => ?_)
    · replace h := condT hc483 h
      refine nc ?_
      refine nc_cut (fun e w512 => ∃ (A509 : Option Addr) (c510 : Nat) (cs511 : List Value) (v508 : List (List UInt8)), place_Co.k1 y273 v348 v508 = some q474 ∧ e = [(5, .slice A509 v508.length c510), (10, .slice A281 y273.length c282), (11, .int .i64 (y273.length : Int)), (12, .int .i64 v348)] ∧ Eng.Own ok w w512 [.dat (dRows tStr v508 cs511), .row (.slice A509 v508.length c510) 9 1 v508.length cs511, .dat (dSl tStr (.slice A281 y273.length c282) y273)]) ?_ ?_
      · skip
        refine nc_block ?_
        refine nc_seq ?_
        refine nc ?_
        obtain ⟨y514, hx515, h⟩ := bindS h
        obtain ⟨a516, cs517, rfl, hR518, H⟩ := H.elemI 2 rfl hx515
        obtain rfl : cs517 = [.string (bs y514)] := hR518
        refine idxA_rule (e := 9) 1 _ (by kernel_rfl) (by kernel_rfl) (idxL_some hx515).1 (idxL_some hx515).2.1 ?_
        refine own_loadD H 0 rfl 0 (by kernel_rfl) rfl ?_
        refine nc_seq ?_
        refine nc ?_
        refine nc_cond rfl (fun hc520 => ?_) (fun hc520 => ?_)
        · replace h := condT hc520 h
          refine nc ?_
          obtain ⟨y521, hy522, h⟩ := bindS h
          refine call_rule (by kernel_rfl) (place_Beside_ok (ok := fun _ => False) hy522) fun v524 w523 ⟨hv525, hb526⟩ => ?_
          subst hv525
          replace H := H.call hb526
          refine own_buildSlice (e := 9) (sz := 1) (z := .string ⟨#[]⟩) (cs := [.string (bs y521)]) H (by kernel_rfl) (by kernel_rfl) (by kernel_rfl) rfl rfl rfl rfl fun g528 w529 H => ?_
          obtain ⟨hr530, h⟩ := roomS h
          refine own_append1 (k := tStr) (z := .string ⟨#[]⟩) (x := y521) 16 H 2 1 rfl rfl rfl rfl (by kernel_rfl) (by kernel_rfl) rfl rfl hr530 rfl fun z531 cs532 w533 H => ?_
          obtain ⟨A534, c535, rfl, _, _⟩ := H.rowSl 2 rfl
          exact cut_inA ⟨A534, c535, cs532, _, h, rfl, H.pickL [1, 2, 3] rfl⟩
        · replace h := condF hc520 h
          refine nc ?_
          exact cut_inA ⟨A345, c346, cs347, _, h, rfl, H.pickL [1, 2, 3] rfl⟩
      · rintro _ w537 ⟨A509, c510, cs511, v508, h, rfl, H⟩
        unfold place_Co.k1 at h
        refine nc ?_
        cases h
        exact again_inA ⟨A509, c510, cs511, _, _, hq475, rfl, H.pickL [0, 1, 2] rfl⟩
    · replace h := condF hc483 h
      refine nc ?_
      cases h
      replace hq475 : v344 = o470 := hq475
      subst hq475
      have h := hO472
      try dsimp only [Sum.elim_inl, Sum.elim_inr] at h
      exact cut_inA ⟨A345, c346, cs347, _, h, rfl, H.pickL [0, 1] rfl⟩
  · rintro _ w538 ⟨A268, c269, cs270, v267, h, rfl, H⟩
    unfold place_Co.k3 at h
    refine nc_seq ?_
    refine nc ?_
    refine nc ?_
    replace h := Option.some.inj h
    subst h
    exact ret_inA [.slice A268 v267.length c269] ⟨_, rfl, ⟨H.outR 1 0 rfl rfl rfl, H.frame⟩⟩
/-! gemot/place.Sponsor -/
noncomputable def place_Sponsor.f (x0 : List UInt8) (x1 : List UInt8) : Option (Int) := (place_At.f x0 x1).bind fun y1 => cond (y1.2 != (0 : Int)) (some (0 : Int)) ((tree_Members.f y1.1).bind fun y8 => (idxL y8 (0 : Int)).bind fun y20 => some y20)
set_option maxHeartbeats 4000000 in
theorem place_Sponsor_ok {ok : Nat → Prop} {w : World} {x0 : List UInt8} {x1 : List UInt8} {r : Int} (h : place_Sponsor.f x0 x1 = some r) :
    Calls Try.prog 54 #[.string (bs x0), .string (bs x1)] w fun e w' => ∃ v, e = .returned v ∧ (v = .int .i64 r ∧ Bel w.heap.size w w') := by
  have H : Eng.Own ok w w [] := Eng.Own.nil ok w
  unfold place_Sponsor.f at h
  refine enterN (args := [.string (bs x0), .string (bs x1)]) Try.func54 rfl Try.ntmps54 rfl rfl ?_
  refine nc_seq ?_
  refine nc ?_
  refine nc_seq ?_
  refine nc ?_
  obtain ⟨y1, hy2, h⟩ := bindS h
  refine call_rule (by kernel_rfl) (place_At_ok hy2) fun v4 w3 ⟨hv5, hb6⟩ => ?_
  subst hv5
  replace H := H.call hb6
  refine nc_seq ?_
  refine nc_seq ?_
  refine nc ?_
  refine nc_cond rfl (fun hc7 => ?_) (fun hc7 => ?_)
  · replace h := condT hc7 h
    refine nc_seq ?_
    refine nc ?_
    refine nc ?_
    replace h := Option.some.inj h
    subst h
    exact ret_inA [.int .i64 0] ⟨_, rfl, ⟨rfl, H.frame⟩⟩
  · replace h := condF hc7 h
    refine nc ?_
    refine nc_seq ?_
    refine nc ?_
    obtain ⟨y8, hy9, h⟩ := bindS h
    refine call_rule (by kernel_rfl) (tree_Members_ok (ok := fun _ => False) hy9) fun u14 w10 ⟨hu15, hb13⟩ => ?_
    replace H := H.callDats hb13 [dSl (tInt .i64) u14 y8] ⟨(slR_any hu15), trivial⟩
    obtain ⟨A16, c17, hA18, _⟩ := H.sl 0 rfl
    subst hA18
    obtain ⟨y20, hx21, h⟩ := bindS h
    obtain ⟨a22, cs23, rfl, hR24, H⟩ := H.elemI 0 rfl hx21
    obtain rfl : cs23 = [.int .i64 y20] := hR24
    refine idxA_rule (e := 3) 1 _ (by kernel_rfl) (by kernel_rfl) (idxL_some hx21).1 (idxL_some hx21).2.1 ?_
    refine own_loadD H 0 rfl 0 (by kernel_rfl) rfl ?_
    refine nc ?_
    replace h := Option.some.inj h
    subst h
    exact ret_inA [.int .i64 y20] ⟨_, rfl, ⟨rfl, H.frame⟩⟩
/-! gemot/place.Duties -/
noncomputable def place_Duties.k1 (x0 : List UInt8) (x1 : Int) (y369 : (List (List UInt8))) (v468 : Int) (v688 : List (List UInt8)) : Option (((List (List UInt8)) × Int) ⊕ (List (List UInt8))) := some (.inl (v688, (IntKind.i64.wrap (v468 + (1 : Int)))))
noncomputable def place_Duties.k2 (x0 : List UInt8) (x1 : Int) (y369 : (List (List UInt8))) (v464 : List (List UInt8)) (v468 : Int) (y694 : List UInt8) (v707 : Bool) : Option (((List (List UInt8)) × Int) ⊕ (List (List UInt8))) := cond v707 (roomM 16 (v464.length + 1) (place_Duties.k1 x0 x1 y369 v468 (v464 ++ [y694]))) (place_Duties.k1 x0 x1 y369 v468 v464)
noncomputable def place_Duties.b3 (x0 : List UInt8) (x1 : Int) (y369 : (List (List UInt8))) (v464 : List (List UInt8)) (v468 : Int) : Option (((List (List UInt8)) × Int) ⊕ (List (List UInt8))) := cond (decide (v468 < (y369.length : Int))) ((idxL y369 v468).bind fun y694 => cond (!(strEq y694 ([] : List UInt8))) ((place_Sponsor.f x0 y694).bind fun y711 => place_Duties.k2 x0 x1 y369 v464 v468 y694 (cond (!(strEq y694 ([] : List UInt8))) (y711 == x1) false)) (place_Duties.k2 x0 x1 y369 v464 v468 y694 (cond (!(strEq y694 ([] : List UInt8))) ((0 : Int) == x1) false))) (some (.inr v464))
noncomputable def place_Duties.k4 (v363 : List (List UInt8)) : Option ((List (List UInt8))) := some v363
noncomputable def place_Duties.f (x0 : List UInt8) (x1 : Int) : Option ((List (List UInt8))) := (place_Path.f x0 x1).bind fun y369 => (loopM (fun s648 : (List (List UInt8)) × Int => place_Duties.b3 x0 x1 y369 s648.1 s648.2) (([] : List (List UInt8)), (0 : Int))).bind (fun (o646 : (List (List UInt8))) => place_Duties.k4 o646)
set_option maxHeartbeats 4000000 in
theorem place_Duties_ok {ok : Nat → Prop} {w : World} {x0 : List UInt8} {x1 : Int} {r : (List (List UInt8))} (h : place_Duties.f x0 x1 = some r) :
    Calls Try.prog 56 #[.string (bs x0), .int .i64 x1] w fun e w' => ∃ v, e = .returned v ∧ (rowOut w w' ok tStr 9 v r ∧ Bel w.heap.size w w') := by
  have H : Eng.Own ok w w [] := Eng.Own.nil ok w
  unfold place_Duties.f at h
  refine enterN (args := [.string (bs x0), .int .i64 x1]) Try.func56 rfl Try.ntmps56 rfl rfl ?_
  refine nc_seq ?_
  refine nc ?_
  refine nc_seq ?_
  refine nc ?_
  refine nc_cut (fun e w367 => ∃ (A364 : Option Addr) (c365 : Nat) (cs366 : List Value) (v363 : List (List UInt8)), place_Duties.k4 v363 = some r ∧ e = [(5, .slice A364 v363.length c365)] ∧ Eng.Own ok w w367 [.dat (dRows tStr v363 cs366), .row (.slice A364 v363.length c365) 9 1 v363.length cs366]) ?_ ?_
  · skip
    refine nc_seq ?_
    refine nc ?_
    obtain ⟨y369, hy370, h⟩ := bindS h
    refine call_rule (by kernel_rfl) (place_Path_ok (ok := fun _ => False) hy370) fun u375 w371 ⟨hu376, hb374⟩ => ?_
    replace H := H.callDats hb374 [dSl tStr u375 y369] ⟨(slR_any hu376), trivial⟩
    obtain ⟨A377, c378, hA379, _⟩ := H.sl 0 rfl
    subst hA379
    refine nc_block ?_
    replace H := H.nilRowD tStr 9
    obtain ⟨o638, hL639, hO640⟩ := bindS h
    obtain ⟨n641, hL639⟩ := loopS hL639
    refine nc ?_
    refine loop_ruleA (fun k e w645 => ∃ (A465 : Option Addr) (c466 : Nat) (cs467 : List Value) (v464 : List (List UInt8)) (v468 : Int), iterM (fun s648 : (List (List UInt8)) × Int => place_Duties.b3 x0 x1 y369 s648.1 s648.2) k (v464, v468) = some o638 ∧ e = [(0, .string (bs x0)), (1, .int .i64 x1), (5, .slice A465 v464.length c466), (10, .slice A377 y369.length c378), (11, .int .i64 (y369.length : Int)), (12, .int .i64 v468)] ∧ Eng.Own ok w w645 [.dat (dRows tStr v464 cs467), .row (.slice A465 v464.length c466) 9 1 v464.length cs467, .dat (dSl tStr (.slice A377 y369.length c378) y369)]) ⟨none, 0, [], _, _, hL639, rfl, H.pickL [0, 1, 2] rfl⟩ ?_
    rintro k650 _ w649 ⟨A465, c466, cs467, v464, v468, hL639, rfl, H⟩
    obtain ⟨k644, rfl, q642, h, hq643⟩ := iterS hL639
    replace h : place_Duties.b3 x0 x1 y369 v464 v468 = some q642 := h
    unfold place_Duties.b3 at h
    refine nc_seq ?_
    refine nc ?_
    refine nc_seq ?_
    refine nc_cond rfl (fun hc651 => ?_) (fun hc651 => ?_)
    · replace h := condT hc651 h
      refine nc ?_
      refine nc_cut (fun e w692 => ∃ (A689 : Option Addr) (c690 : Nat) (cs691 : List Value) (v688 : List (List UInt8)), place_Duties.k1 x0 x1 y369 v468 v688 = some q642 ∧ e = [(0, .string (bs x0)), (1, .int .i64 x1), (5, .slice A689 v688.length c690), (10, .slice A377 y369.length c378), (11, .int .i64 (y369.length : Int)), (12, .int .i64 v468)] ∧ Eng.Own ok w w692 [.dat (dRows tStr v688 cs691), .row (.slice A689 v688.length c690) 9 1 v688.length cs691, .dat (dSl tStr (.slice A377 y369.length c378) y369)]) ?_ ?_
      · skip
        refine nc_block ?_
        refine nc_seq ?_
        refine nc ?_
        obtain ⟨y694, hx695, h⟩ := bindS h
        obtain ⟨a696, cs697, rfl, hR698, H⟩ := H.elemI 2 rfl hx695
        obtain rfl : cs697 = [.string (bs y694)] := hR698
        refine idxA_rule (e := 9) 1 _ (by kernel_rfl) (by kernel_rfl) (idxL_some hx695).1 (idxL_some hx695).2.1 ?_
        refine own_loadD H 0 rfl 0 (by kernel_rfl) rfl ?_
        refine nc_cut (fun e w708 => ∃ (v707 : Bool), place_Duties.k2 x0 x1 y369 v464 v468 y694 v707 = some q642 ∧ e = [(0, .string (bs x0)), (1, .int .i64 x1), (5, .slice A465 v464.length c466), (7, .string (bs y694)), (10, .slice (some a696) y369.length c378), (11, .int .i64 (y369.length : Int)), (12, .int .i64 v468), (24, .bool v707)] ∧ Eng.Own ok w w708 [.dat (dRows tStr v464 cs467), .row (.slice A465 v464.length c466) 9 1 v464.length cs467, .dat (dSl tStr (.slice (some a696) y369.length c378) y369)]) ?_ ?_
        · skip
          refine nc ?_
          rcases Bool.eq_false_or_eq_true (!(strEq y694 ([] : List UInt8))) with hg710 | hg710
          · replace h := condT hg710 h
            obtain ⟨y711, hy712, h⟩ := bindS h
            refine call_yes (gT1 hg710 rfl) (by kernel_rfl) (place_Sponsor_ok (ok := fun _ => False) hy712) fun v714 w713 ⟨hv715, hb716⟩ => ?_
            subst hv715
            replace H := H.call hb716
            exact cut_inA ⟨_, h, rfl, H.pickL [1, 2, 3] rfl⟩
          · replace h := condF hg710 h
            refine call_skip (.int .i64 0) (gF1 hg710) ?_
            exact cut_inA ⟨_, h, rfl, H.pickL [1, 2, 3] rfl⟩
        · rintro _ w717 ⟨v707, h, rfl, H⟩
          unfold place_Duties.k2 at h
          refine nc_cond rfl (fun hc718 => ?_) (fun hc718 => ?_)
          · replace h := condT hc718 h
            refine nc ?_
            refine own_buildSlice (e := 9) (sz := 1) (z := .string ⟨#[]⟩) (cs := [.string (bs y694)]) H (by kernel_rfl) (by kernel_rfl) (by kernel_rfl) rfl rfl rfl rfl fun g720 w721 H => ?_
            obtain ⟨hr722, h⟩ := roomS h
            refine own_append1 (k := tStr) (z := .string ⟨#[]⟩) (x := y694) 16 H 1 0 rfl rfl rfl rfl (by kernel_rfl) (by kernel_rfl) rfl rfl hr722 rfl fun z723 cs724 w725 H => ?_
            obtain ⟨A726, c727, rfl, _, _⟩ := H.rowSl 1 rfl
            exact cut_inA ⟨A726, c727, cs724, _, h, rfl, H.pickL [0, 1, 2] rfl⟩
          · replace h := condF hc718 h
            refine nc ?_
            exact cut_inA ⟨A465, c466, cs467, _, h, rfl, H.pickL [0, 1, 2] rfl⟩
      · rintro _ w729 ⟨A689, c690, cs691, v688, h, rfl, H⟩
        unfold place_Duties.k1 at h
        refine nc ?_
        cases h
        exact again_inA ⟨A689, c690, cs691, _, _, hq643, rfl, H.pickL [0, 1, 2] rfl⟩
    · replace h := condF hc651 h
      refine nc ?_
      cases h
      replace hq643 : v464 = o638 := hq643
      subst hq643
      have h := hO640
      try dsimp only [Sum.elim_inl, Sum.elim_inr] at h
      exact cut_inA ⟨A465, c466, cs467, _, h, rfl, H.pickL [0, 1] rfl⟩
  · rintro _ w730 ⟨A364, c365, cs366, v363, h, rfl, H⟩
    unfold place_Duties.k4 at h
    refine nc_seq ?_
    refine nc ?_
    refine nc ?_
    replace h := Option.some.inj h
    subst h
    exact ret_inA [.slice A364 v363.length c365] ⟨_, rfl, ⟨H.outR 1 0 rfl rfl rfl, H.frame⟩⟩
/-! gemot/gemotref10.Has -/
noncomputable def gemotref10_Has.b1 (x0 : List Int) (x1 : Int) (v63 : Int) : Option (Int ⊕ (Unit ⊕ Bool)) := cond (decide (v63 < (x0.length : Int))) ((idxL x0 v63).bind fun y95 => cond (y95 == x1) (some (.inr (Sum.inr true))) (some (.inl (IntKind.i64.wrap (v63 + (1 : Int)))))) (some (.inr (Sum.inl ())))
noncomputable def gemotref10_Has.k2 : Option (Bool) := some false
noncomputable def gemotref10_Has.f (x0 : List Int) (x1 : Int) : Option (Bool) := (loopM (fun s91 : Int => gemotref10_Has.b1 x0 x1 s91) (0 : Int)).bind (Sum.elim (fun (o89 : Unit) => gemotref10_Has.k2) (fun (o90 : Bool) => some o90))
set_option maxHeartbeats 4000000 in
theorem gemotref10_Has_ok {ok : Nat → Prop} {w : World} {u1 : Value} {x0 : List Int} {x1 : Int} {r : Bool} (hu2 : slR (tInt .i64) w ok u1 x0) (h : gemotref10_Has.f x0 x1 = some r) :
    Calls Try.prog 84 #[u1, .int .i64 x1] w fun e w' => ∃ v, e = .returned v ∧ (v = .bool r ∧ Bel w.heap.size w w') := by
  have H : Eng.Own ok w w [] := Eng.Own.nil ok w
  obtain ⟨A3, c4, rfl, H⟩ := H.arg rfl hu2
  unfold gemotref10_Has.f at h
  refine enterN (args := [.slice A3 x0.length c4, .int .i64 x1]) Try.func84 rfl Try.ntmps84 rfl rfl ?_
  refine nc_seq ?_
  refine nc ?_
  refine nc_cut (fun e w53 => gemotref10_Has.k2 = some r ∧ e = [] ∧ Eng.Own ok w w53 []) ?_ ?_
  · skip
    refine nc_seq ?_
    refine nc ?_
    refine nc_block ?_
    obtain ⟨o81, hL82, hO83⟩ := bindS h
    obtain ⟨n84, hL82⟩ := loopS hL82
    refine nc ?_
    refine loop_ruleA (fun k e w88 => ∃ (v63 : Int), iterM (fun s91 : Int => gemotref10_Has.b1 x0 x1 s91) k v63 = some o81 ∧ e = [(0, .slice A3 x0.length c4), (1, .int .i64 x1), (5, .int .i64 v63)] ∧ Eng.Own ok w w88 [.dat (dSl (tInt .i64) (.slice A3 x0.length c4) x0)]) ⟨_, hL82, rfl, H.pickL [0] rfl⟩ ?_
    rintro k93 _ w92 ⟨v63, hL82, rfl, H⟩
    obtain ⟨k87, rfl, q85, h, hq86⟩ := iterS hL82
    replace h : gemotref10_Has.b1 x0 x1 v63 = some q85 := h
    unfold gemotref10_Has.b1 at h
    refine nc_seq ?_
    refine nc_seq ?_
    refine nc ?_
    refine nc_cond rfl (fun hc94 => ?_) (fun hc94 => ?_)
    · replace h := condT hc94 h
      refine nc ?_
      refine nc_seq ?_
      refine nc_block ?_
      refine nc_seq ?_
      refine nc ?_
      obtain ⟨y95, hx96, h⟩ := bindS h
      obtain ⟨a97, cs98, rfl, hR99, H⟩ := H.elemI 0 rfl hx96
      obtain rfl : cs98 = [.int .i64 y95] := hR99
      refine idxA_rule (e := 3) 1 _ (by kernel_rfl) (by kernel_rfl) (idxL_some hx96).1 (idxL_some hx96).2.1 ?_
      refine own_loadD H 0 rfl 0 (by kernel_rfl) rfl ?_
      refine nc_cond rfl (fun hc101 => ?_) (fun hc101 => ?_)
      · replace h := condT hc101 h
        refine nc_seq ?_
        refine nc ?_
        refine nc ?_
        cases h
        replace hq86 : (Sum.inr true) = o81 := hq86
        subst hq86
        have h := hO83
        try dsimp only [Sum.elim_inl, Sum.elim_inr] at h
        replace h := Option.some.inj h
        subst h
        exact ret_inA [.bool true] ⟨_, rfl, ⟨rfl, H.frame⟩⟩
      · replace h := condF hc101 h
        refine nc ?_
        refine nc ?_
        cases h
        exact again_inA ⟨_, hq86, rfl, H.pickL [1] rfl⟩
    · replace h := condF hc94 h
      refine nc ?_
      cases h
      replace hq86 : (Sum.inl ()) = o81 := hq86
      subst hq86
      have h := hO83
      try dsimp only [Sum.elim_inl, Sum.elim_inr] at h
      exact cut_inA ⟨h, rfl, H.pickL [] rfl⟩
  · rintro _ w102 ⟨h, rfl, H⟩
    unfold gemotref10_Has.k2 at h
    refine nc_seq ?_
    refine nc ?_
    refine nc ?_
    replace h := Option.some.inj h
    subst h
    exact ret_inA [.bool false] ⟨_, rfl, ⟨rfl, H.frame⟩⟩
/-! gemot/gemotref13.digits -/
noncomputable def gemotref13_digits.k1 (x0 : List UInt8) (v364 : Int) (v544 : List Int) : Option (((List Int) × Int) ⊕ (List Int)) := some (.inl (v544, (IntKind.i64.wrap (v364 + (1 : Int)))))
noncomputable def gemotref13_digits.k2 (x0 : List UInt8) (v360 : List Int) (v364 : Int) (v555 : Bool) : Option (((List Int) × Int) ⊕ (List Int)) := cond v555 ((idxS x0 v364).bind fun y565 => roomM 8 (v360.length + 1) (gemotref13_digits.k1 x0 v364 (v360 ++ [(IntKind.i64.wrap (IntKind.u8.wrap (y565 - (48 : Int))))]))) (gemotref13_digits.k1 x0 v364 v360)
noncomputable def gemotref13_digits.b3 (x0 : List UInt8) (v360 : List Int) (v364 : Int) : Option (((List Int) × Int) ⊕ (List Int)) := cond (decide (v364 < (x0.length : Int))) ((idxS x0 v364).bind fun y558 => cond (decide (y558 ≥ (49 : Int))) ((idxS x0 v364).bind fun y561 => gemotref13_digits.k2 x0 v360 v364 (cond (decide (y558 ≥ (49 : Int))) (decide (y561 ≤ (56 : Int))) false)) (gemotref13_digits.k2 x0 v360 v364 (cond (decide (y558 ≥ (49 : Int))) (decide ((0 : Int) ≤ (56 : Int))) false))) (some (.inr v360))
noncomputable def gemotref13_digits.k4 (v287 : List Int) : Option ((List Int)) := some v287
noncomputable def gemotref13_digits.f (x0 : List UInt8) : Option ((List Int)) := (loopM (fun s512 : (List Int) × Int => gemotref13_digits.b3 x0 s512.1 s512.2) (([] : List Int), (0 : Int))).bind (fun (o510 : (List Int)) => gemotref13_digits.k4 o510)
set_option maxHeartbeats 4000000 in
theorem gemotref13_digits_ok {ok : Nat → Prop} {w : World} {x0 : List UInt8} {r : (List Int)} (h : gemotref13_digits.f x0 = some r) :
    Calls Try.prog 112 #[.string (bs x0)] w fun e w' => ∃ v, e = .returned v ∧ (rowOut w w' ok (tInt .i64) 3 v r ∧ Bel w.heap.size w w') := by
  have H : Eng.Own ok w w [] := Eng.Own.nil ok w
  unfold gemotref13_digits.f at h
  refine enterN (args := [.string (bs x0)]) Try.func112 rfl Try.ntmps112 rfl rfl ?_
  refine nc_seq ?_
  refine nc ?_
  refine nc_seq ?_
  refine nc ?_
  refine nc_cut (fun e w291 => ∃ (A288 : Option Addr) (c289 : Nat) (cs290 : List Value) (v287 : List Int), gemotref13_digits.k4 v287 = some r ∧ e = [(3, .slice A288 v287.length c289)] ∧ Eng.Own ok w w291 [.dat (dRows (tInt .i64) v287 cs290), .row (.slice A288 v287.length c289) 3 1 v287.length cs290]) ?_ ?_
  · skip
    refine nc_seq ?_
    refine nc ?_
    refine nc_block ?_
    replace H := H.nilRowD (tInt .i64) 3
    obtain ⟨o502, hL503, hO504⟩ := bindS h
    obtain ⟨n505, hL503⟩ := loopS hL503
    refine nc ?_
    refine loop_ruleA (fun k e w509 => ∃ (A361 : Option Addr) (c362 : Nat) (cs363 : List Value) (v360 : List Int) (v364 : Int), iterM (fun s512 : (List Int) × Int => gemotref13_digits.b3 x0 s512.1 s512.2) k (v360, v364) = some o502 ∧ e = [(0, .string (bs x0)), (3, .slice A361 v360.length c362), (4, .int .i64 v364)] ∧ Eng.Own ok w w509 [.dat (dRows (tInt .i64) v360 cs363), .row (.slice A361 v360.length c362) 3 1 v360.length cs363]) ⟨none, 0, [], _, _, hL503, rfl, H.pickL [0, 1] rfl⟩ ?_
    rintro k514 _ w513 ⟨A361, c362, cs363, v360, v364, hL503, rfl, H⟩
    obtain ⟨k508, rfl, q506, h, hq507⟩ := iterS hL503
    replace h : gemotref13_digits.b3 x0 v360 v364 = some q506 := h
    unfold gemotref13_digits.b3 at h
    refine nc_seq ?_
    refine nc_seq ?_
    refine nc ?_
    refine nc_cond rfl (fun hc515 => ?_) (fun hc515 => ?_)
    · replace h := condT hc515 h
      refine nc ?_
      refine nc_cut (fun e w548 => ∃ (A545 : Option Addr) (c546 : Nat) (cs547 : List Value) (v544 : List Int), gemotref13_digits.k1 x0 v364 v544 = some q506 ∧ e = [(0, .string (bs x0)), (3, .slice A545 v544.length c546), (4, .int .i64 v364)] ∧ Eng.Own ok w w548 [.dat (dRows (tInt .i64) v544 cs547), .row (.slice A545 v544.length c546) 3 1 v544.length cs547]) ?_ ?_
      · skip
        refine nc_block ?_
        refine nc_cut (fun e w556 => ∃ (v555 : Bool), gemotref13_digits.k2 x0 v360 v364 v555 = some q506 ∧ e = [(0, .string (bs x0)), (3, .slice A361 v360.length c362), (4, .int .i64 v364), (20, .bool v555)] ∧ Eng.Own ok w w556 [.dat (dRows (tInt .i64) v360 cs363), .row (.slice A361 v360.length c362) 3 1 v360.length cs363]) ?_ ?_
        · skip
          refine nc ?_
          obtain ⟨y558, hx559, h⟩ := bindS h
          refine idxS_rule (by kernel_rfl) hx559 ?_
          rcases Bool.eq_false_or_eq_true (decide (y558 ≥ (49 : Int))) with hg560 | hg560
          · replace h := condT hg560 h
            obtain ⟨y561, hx562, h⟩ := bindS h
            refine idxS_rule (by kernel_rfl) hx562 ?_
            exact cut_inA ⟨_, h, rfl, H.pickL [0, 1] rfl⟩
          · replace h := condF hg560 h
            refine skipIX (.int .u8 0) (gF1 hg560) ?_
            exact cut_inA ⟨_, h, rfl, H.pickL [0, 1] rfl⟩
        · rintro _ w563 ⟨v555, h, rfl, H⟩
          unfold gemotref13_digits.k2 at h
          refine nc_cond rfl (fun hc564 => ?_) (fun hc564 => ?_)
          · replace h := condT hc564 h
            refine nc ?_
            obtain ⟨y565, hx566, h⟩ := bindS h
            refine idxS_rule (by kernel_rfl) hx566 ?_
            refine own_buildSlice (e := 3) (sz := 1) (z := .int .i64 0) (cs := [.int .i64 (IntKind.i64.wrap (IntKind.u8.wrap (y565 - (48 : Int))))]) H (by kernel_rfl) (by kernel_rfl) (by kernel_rfl) rfl rfl rfl rfl fun g568 w569 H => ?_
            obtain ⟨hr570, h⟩ := roomS h
            refine own_append1 (k := (tInt .i64)) (z := .int .i64 0) (x := (IntKind.i64.wrap (IntKind.u8.wrap (y565 - (48 : Int))))) 8 H 1 0 rfl rfl rfl rfl (by kernel_rfl) (by kernel_rfl) rfl rfl hr570 rfl fun z571 cs572 w573 H => ?_
            obtain ⟨A574, c575, rfl, _, _⟩ := H.rowSl 1 rfl
            exact cut_inA ⟨A574, c575, cs572, _, h, rfl, H.pickL [0, 1] rfl⟩
          · replace h := condF hc564 h
            refine nc ?_
            exact cut_inA ⟨A361, c362, cs363, _, h, rfl, H.pickL [0, 1] rfl⟩
      · rintro _ w577 ⟨A545, c546, cs547, v544, h, rfl, H⟩
        unfold gemotref13_digits.k1 at h
        refine nc ?_
        cases h
        exact again_inA ⟨A545, c546, cs547, _, _, hq507, rfl, H.pickL [0, 1] rfl⟩
    · replace h := condF hc515 h
      refine nc ?_
      cases h
      replace hq507 : v360 = o502 := hq507
      subst hq507
      have h := hO504
      try dsimp only [Sum.elim_inl, Sum.elim_inr] at h
      exact cut_inA ⟨A361, c362, cs363, _, h, rfl, H.pickL [0, 1] rfl⟩
  · rintro _ w578 ⟨A288, c289, cs290, v287, h, rfl, H⟩
    unfold gemotref13_digits.k4 at h
    refine nc_seq ?_
    refine nc ?_
    refine nc ?_
    replace h := Option.some.inj h
    subst h
    exact ret_inA [.slice A288 v287.length c289] ⟨_, rfl, ⟨H.outR 1 0 rfl rfl rfl, H.frame⟩⟩
/-! gemot/gemotref13.End -/
noncomputable def gemotref13_End.k1 (self : (List UInt8) → Int → Option (Int)) (y42 : Int) (v62 : Bool) : Option (Int) := cond v62 (some (-1)) (some (IntKind.i64.wrap (y42 + (1 : Int))))
noncomputable def gemotref13_End.k2 (self : (List UInt8) → Int → Option (Int)) (x0 : List UInt8) (x1 : Int) (v22 : Bool) : Option (Int) := cond v22 (some (IntKind.i64.wrap (x1 + (1 : Int)))) ((idxS x0 x1).bind fun y32 => cond (y32 != (40 : Int)) (some (-1)) ((self x0 (IntKind.i64.wrap (x1 + (1 : Int)))).bind fun y35 => cond (decide (y35 < (0 : Int))) (some (-1)) ((self x0 y35).bind fun y42 => cond (cond (decide (y42 < (0 : Int))) true (decide (y42 ≥ (x0.length : Int)))) (gemotref13_End.k1 self y42 (cond (cond (decide (y42 < (0 : Int))) true (decide (y42 ≥ (x0.length : Int)))) true ((0 : Int) != (41 : Int)))) ((idxS x0 y42).bind fun y66 => gemotref13_End.k1 self y42 (cond (cond (decide (y42 < (0 : Int))) true (decide (y42 ≥ (x0.length : Int)))) true (y66 != (41 : Int)))))))
noncomputable def gemotref13_End.step (self : (List UInt8) → Int → Option (Int)) (x0 : List UInt8) (x1 : Int) : Option (Int) := cond (decide (x1 ≥ (x0.length : Int))) (some (-1)) ((idxS x0 x1).bind fun y25 => cond (decide (y25 ≥ (49 : Int))) ((idxS x0 x1).bind fun y28 => gemotref13_End.k2 self x0 x1 (cond (decide (y25 ≥ (49 : Int))) (decide (y28 ≤ (56 : Int))) false)) (gemotref13_End.k2 self x0 x1 (cond (decide (y25 ≥ (49 : Int))) (decide ((0 : Int) ≤ (56 : Int))) false)))
noncomputable def gemotref13_End.g (m : Nat) : (List UInt8) → Int → Option (Int) := Nat.rec (motive := fun _ => (List UInt8) → Int → Option (Int)) (fun _ _ => none) (fun _ self => gemotref13_End.step self) m
noncomputable def gemotref13_End.f (x0 : List UInt8) (x1 : Int) : Option (Int) := recM (fun m (a : (List UInt8) × Int) => gemotref13_End.g m a.1 a.2) (x0, x1)
set_option maxHeartbeats 4000000 in
theorem gemotref13_End_ok_g (m : Nat) : ∀ {ok : Nat → Prop} {w : World} {x0 : List UInt8} {x1 : Int} {r : Int} (h : gemotref13_End.g m x0 x1 = some r), Calls Try.prog 113 #[.string (bs x0), .int .i64 x1] w fun e w' => ∃ v, e = .returned v ∧ (v = .int .i64 r ∧ Bel w.heap.size w w') := by
  induction m with
  | zero => intro ok w x0 x1 r h; exact absurd (show (none : Option (Int)) = some r from h) (fun q => by cases q)
  | succ m ih =>
    intro ok w x0 x1 r h
    have H : Eng.Own ok w w [] := Eng.Own.nil ok w
    replace h : gemotref13_End.step (gemotref13_End.g m) x0 x1 = some r := h
    unfold gemotref13_End.step at h
    refine enterN (args := [.string (bs x0), .int .i64 x1]) Try.func113 rfl Try.ntmps113 rfl rfl ?_
    refine nc_seq ?_
    refine nc ?_
    refine nc_seq ?_
    refine nc_seq ?_
    refine nc ?_
    refine nc_cond rfl (fun hc1 => ?_) (fun hc1 => ?_)
    · replace h := condT hc1 h
      refine nc_seq ?_
      refine nc ?_
      refine nc ?_
      replace h := Option.some.inj h
      subst h
      exact ret_inA [.int .i64 (-1)] ⟨_, rfl, ⟨rfl, H.frame⟩⟩
    · replace h := condF hc1 h
      refine nc ?_
      refine nc_seq ?_
      refine nc_cut (fun e w23 => ∃ (v22 : Bool), gemotref13_End.k2 (gemotref13_End.g m) x0 x1 v22 = some r ∧ e = [(0, .string (bs x0)), (1, .int .i64 x1), (19, .bool v22)] ∧ Eng.Own ok w w23 []) ?_ ?_
      · skip
        refine nc ?_
        obtain ⟨y25, hx26, h⟩ := bindS h
        refine idxS_rule (by kernel_rfl) hx26 ?_
        rcases Bool.eq_false_or_eq_true (decide (y25 ≥ (49 : Int))) with hg27 | hg27
        · replace h := condT hg27 h
          obtain ⟨y28, hx29, h⟩ := bindS h
          refine idxS_rule (by kernel_rfl) hx29 ?_
          exact cut_inA ⟨_, h, rfl, H.pickL [] rfl⟩
        · replace h := condF hg27 h
          refine skipIX (.int .u8 0) (gF1 hg27) ?_
          exact cut_inA ⟨_, h, rfl, H.pickL [] rfl⟩
      · rintro _ w30 ⟨v22, h, rfl, H⟩
        unfold gemotref13_End.k2 at h
        refine nc_cond rfl (fun hc31 => ?_) (fun hc31 => ?_)
        · replace h := condT hc31 h
          refine nc_seq ?_
          refine nc ?_
          refine nc ?_
          replace h := Option.some.inj h
          subst h
          exact ret_inA [.int .i64 (IntKind.i64.wrap (x1 + (1 : Int)))] ⟨_, rfl, ⟨rfl, H.frame⟩⟩
        · replace h := condF hc31 h
          refine nc ?_
          refine nc_seq ?_
          refine nc_seq ?_
          refine nc ?_
          obtain ⟨y32, hx33, h⟩ := bindS h
          refine idxS_rule (by kernel_rfl) hx33 ?_
          refine nc_cond rfl (fun hc34 => ?_) (fun hc34 => ?_)
          · replace h := condT hc34 h
            refine nc_seq ?_
            refine nc ?_
            refine nc ?_
            replace h := Option.some.inj h
            subst h
            exact ret_inA [.int .i64 (-1)] ⟨_, rfl, ⟨rfl, H.frame⟩⟩
          · replace h := condF hc34 h
            refine nc ?_
            refine nc_seq ?_
            refine nc ?_
            obtain ⟨y35, hy36, h⟩ := bindS h
            refine call_rule (by kernel_rfl) (ih (ok := fun _ => False) hy36) fun v38 w37 ⟨hv39, hb40⟩ => ?_
            subst hv39
            replace H := H.call hb40
            refine nc_seq ?_
            refine nc_seq ?_
            refine nc ?_
            refine nc_cond rfl (fun hc41 => ?_) (fun hc41 => ?_)
            · replace h := condT hc41 h
              refine nc_seq ?_
              refine nc ?_
              refine nc ?_
              replace h := Option.some.inj h
              subst h
              exact ret_inA [.int .i64 (-1)] ⟨_, rfl, ⟨rfl, H.frame⟩⟩
            · replace h := condF hc41 h
              refine nc ?_
              refine nc_seq ?_
              refine nc ?_
              obtain ⟨y42, hy43, h⟩ := bindS h
              refine call_rule (by kernel_rfl) (ih (ok := fun _ => False) hy43) fun v45 w44 ⟨hv46, hb47⟩ => ?_
              subst hv46
              replace H := H.call hb47
              refine nc_seq ?_
              refine nc_cut (fun e w63 => ∃ (v62 : Bool), gemotref13_End.k1 (gemotref13_End.g m) y42 v62 = some r ∧ e = [(5, .int .i64 y42), (48, .bool v62)] ∧ Eng.Own ok w w63 []) ?_ ?_
              · skip
                refine nc ?_
                rcases Bool.eq_false_or_eq_true (cond (decide (y42 < (0 : Int))) true (decide (y42 ≥ (x0.length : Int)))) with hg65 | hg65
                · replace h := condT hg65 h
                  refine skipIX (.int .u8 0) (gF0 hg65) ?_
                  exact cut_inA ⟨_, h, rfl, H.pickL [] rfl⟩
                · replace h := condF hg65 h
                  obtain ⟨y66, hx67, h⟩ := bindS h
                  refine idxS_rule (by kernel_rfl) hx67 ?_
                  exact cut_inA ⟨_, h, rfl, H.pickL [] rfl⟩
              · rintro _ w68 ⟨v62, h, rfl, H⟩
                unfold gemotref13_End.k1 at h
                refine nc_cond rfl (fun hc69 => ?_) (fun hc69 => ?_)
                · replace h := condT hc69 h
                  refine nc_seq ?_
                  refine nc ?_
                  refine nc ?_
                  replace h := Option.some.inj h
                  subst h
                  exact ret_inA [.int .i64 (-1)] ⟨_, rfl, ⟨rfl, H.frame⟩⟩
                · replace h := condF hc69 h
                  refine nc ?_
                  refine nc_seq ?_
                  refine nc ?_
                  refine nc ?_
                  replace h := Option.some.inj h
                  subst h
                  exact ret_inA [.int .i64 (IntKind.i64.wrap (y42 + (1 : Int)))] ⟨_, rfl, ⟨rfl, H.frame⟩⟩
theorem gemotref13_End_ok {ok : Nat → Prop} {w : World} {x0 : List UInt8} {x1 : Int} {r : Int} (h : gemotref13_End.f x0 x1 = some r) : Calls Try.prog 113 #[.string (bs x0), .int .i64 x1] w fun e w' => ∃ v, e = .returned v ∧ (v = .int .i64 r ∧ Bel w.heap.size w w') := by
  obtain ⟨m, hm⟩ := recS h
  exact gemotref13_End_ok_g m (ok := ok) hm
/-! gemot/gemotref13.Parts -/
noncomputable def gemotref13_Parts.f (x0 : List UInt8) : Option ((List UInt8) × (List UInt8)) := (gemotref13_End.f x0 (1 : Int)).bind fun y1 => (slcM x0 (1 : Int) y1).bind fun y7 => (slcM x0 y1 (IntKind.i64.wrap ((x0.length : Int) - (1 : Int)))).bind fun y9 => some (y7, y9)
set_option maxHeartbeats 4000000 in
theorem gemotref13_Parts_ok {ok : Nat → Prop} {w : World} {x0 : List UInt8} {r : (List UInt8) × (List UInt8)} (h : gemotref13_Parts.f x0 = some r) :
    Calls Try.prog 80 #[.string (bs x0)] w fun e w' => ∃ v, e = .returned v ∧ (v = .tuple #[.string (bs r.1), .string (bs r.2)] ∧ Bel w.heap.size w w') := by
  have H : Eng.Own ok w w [] := Eng.Own.nil ok w
  unfold gemotref13_Parts.f at h
  refine enterN (args := [.string (bs x0)]) Try.func80 rfl Try.ntmps80 rfl rfl ?_
  refine nc_seq ?_
  refine nc ?_
  refine nc_seq ?_
  refine nc ?_
  obtain ⟨y1, hy2, h⟩ := bindS h
  refine call_rule (by kernel_rfl) (gemotref13_End_ok (ok := fun _ => False) hy2) fun v4 w3 ⟨hv5, hb6⟩ => ?_
  subst hv5
  replace H := H.call hb6
  refine nc_seq ?_
  obtain ⟨y7, hx8, h⟩ := bindS h
  obtain ⟨y9, hx10, h⟩ := bindS h
  refine nc ?_
  refine draw_rule [] (by kernel_rfl) (by kernel_rfl) H ?_
  refine c_txtI (1 : Int) y1 (by kernel_rfl) ⟨_, rfl⟩ ⟨_, rfl⟩ hx8 ?_
  refine c_txtI y1 (IntKind.i64.wrap ((x0.length : Int) - (1 : Int))) (by kernel_rfl) ⟨_, rfl⟩ ⟨_, rfl⟩ hx10 ?_
  intro w11 H
  refine nc ?_
  replace h := Option.some.inj h
  subst h
  exact ret_inA [.string (bs y7), .string (bs y9)] ⟨_, rfl, ⟨rfl, H.frame⟩⟩
/-! gemot/gemotref13.Right -/
noncomputable def gemotref13_Right.b1 (x0 : List UInt8) (y1 : (List Int)) (v140 : Int) : Option (Int ⊕ (Unit ⊕ Bool)) := cond (decide (v140 < (y1.length : Int))) ((slcM y1 (0 : Int) v140).bind fun y200 => (idxL y1 v140).bind fun y207 => (gemotref10_Has.f y200 y207).bind fun y213 => cond y213 (some (.inr (Sum.inr false))) (some (.inl (IntKind.i64.wrap (v140 + (1 : Int)))))) (some (.inr (Sum.inl ())))
noncomputable def gemotref13_Right.k2 (v229 : Bool) : Option (Bool) := some v229
noncomputable def gemotref13_Right.k3 (x0 : List UInt8) : Option (Bool) := cond (decide ((x0.length : Int) < (100 : Int))) ((gemotref13_End.f x0 (0 : Int)).bind fun y233 => gemotref13_Right.k2 (cond (cond (decide ((x0.length : Int) < (100 : Int))) (y233 == (x0.length : Int)) false) (decide ((x0.length : Int) > (0 : Int))) false)) (gemotref13_Right.k2 (cond (cond (decide ((x0.length : Int) < (100 : Int))) ((0 : Int) == (x0.length : Int)) false) (decide ((x0.length : Int) > (0 : Int))) false))
noncomputable def gemotref13_Right.f (x0 : List UInt8) : Option (Bool) := (gemotref13_digits.f x0).bind fun y1 => (loopM (fun s196 : Int => gemotref13_Right.b1 x0 y1 s196) (0 : Int)).bind (Sum.elim (fun (o194 : Unit) => gemotref13_Right.k3 x0) (fun (o195 : Bool) => some o195))
set_option maxHeartbeats 4000000 in
theorem gemotref13_Right_ok {ok : Nat → Prop} {w : World} {x0 : List UInt8} {r : Bool} (h : gemotref13_Right.f x0 = some r) :
    Calls Try.prog 79 #[.string (bs x0)] w fun e w' => ∃ v, e = .returned v ∧ (v = .bool r ∧ Bel w.heap.size w w') := by
  have H : Eng.Own ok w w [] := Eng.Own.nil ok w
  unfold gemotref13_Right.f at h
  refine enterN (args := [.string (bs x0)]) Try.func79 rfl Try.ntmps79 rfl rfl ?_
  refine nc_seq ?_
  refine nc ?_
  refine nc_seq ?_
  refine nc ?_
  obtain ⟨y1, hy2, h⟩ := bindS h
  refine call_rule (by kernel_rfl) (gemotref13_digits_ok (ok := fun _ => False) hy2) fun u7 w3 ⟨hu8, hb6⟩ => ?_
  replace H := H.callDats hb6 [dSl (tInt .i64) u7 y1] ⟨(rowOut_sl (rowOut_any hu8) hb6), trivial⟩
  obtain ⟨A9, c10, hA11, _⟩ := H.sl 0 rfl
  subst hA11
  refine nc_cut (fun e w116 => gemotref13_Right.k3 x0 = some r ∧ e = [(0, .string (bs x0))] ∧ Eng.Own ok w w116 []) ?_ ?_
  · skip
    refine nc_seq ?_
    refine nc ?_
    refine nc_block ?_
    obtain ⟨o186, hL187, hO188⟩ := bindS h
    obtain ⟨n189, hL187⟩ := loopS hL187
    refine nc ?_
    refine loop_ruleA (fun k e w193 => ∃ (v140 : Int), iterM (fun s196 : Int => gemotref13_Right.b1 x0 y1 s196) k v140 = some o186 ∧ e = [(0, .string (bs x0)), (3, .slice A9 y1.length c10), (4, .int .i64 v140)] ∧ Eng.Own ok w w193 [.dat (dSl (tInt .i64) (.slice A9 y1.length c10) y1)]) ⟨_, hL187, rfl, H.pickL [0] rfl⟩ ?_
    rintro k198 _ w197 ⟨v140, hL187, rfl, H⟩
    obtain ⟨k192, rfl, q190, h, hq191⟩ := iterS hL187
    replace h : gemotref13_Right.b1 x0 y1 v140 = some q190 := h
    unfold gemotref13_Right.b1 at h
    refine nc_seq ?_
    refine nc_seq ?_
    refine nc ?_
    refine nc_cond rfl (fun hc199 => ?_) (fun hc199 => ?_)
    · replace h := condT hc199 h
      refine nc ?_
      refine nc_seq ?_
      refine nc_block ?_
      refine nc_seq ?_
      obtain ⟨y200, hx201, h⟩ := bindS h
      obtain ⟨A202, c203, hp204, H⟩ := H.pieceD 0 rfl hx201
      have hn206 := H.slLen 1 rfl
      obtain ⟨y207, hx208, h⟩ := bindS h
      obtain ⟨a209, cs210, rfl, hR211, H⟩ := H.elemI 1 rfl hx208
      obtain rfl : cs210 = [.int .i64 y207] := hR211
      obtain ⟨y213, hy214, h⟩ := bindS h
      refine nc ?_
      refine draw_rule [] (by kernel_rfl) (by kernel_rfl) H ?_
      refine c_pieceI (e := 3) 1 (0 : Int) v140 (by kernel_rfl) (by kernel_rfl) rfl ⟨_, rfl⟩ hx201 hn206 hp204 ?_
      refine c_idxA (e := 3) 1 _ (by kernel_rfl) (by kernel_rfl) (idxL_some hx208).1 (idxL_some hx208).2.1 ?_
      refine c_loadD 0 rfl 0 (by kernel_rfl) rfl ?_
      refine c_call (.bool y213) (by kernel_rfl) (fun _ _ H => gemotref10_Has_ok (H.dat 1 rfl) hy214) ?_
      intro w219 H
      refine nc_cond rfl (fun hc220 => ?_) (fun hc220 => ?_)
      · replace h := condT hc220 h
        refine nc_seq ?_
        refine nc ?_
        refine nc ?_
        cases h
        replace hq191 : (Sum.inr false) = o186 := hq191
        subst hq191
        have h := hO188
        try dsimp only [Sum.elim_inl, Sum.elim_inr] at h
        replace h := Option.some.inj h
        subst h
        exact ret_inA [.bool false] ⟨_, rfl, ⟨rfl, H.frame⟩⟩
      · replace h := condF hc220 h
        refine nc ?_
        refine nc ?_
        cases h
        exact again_inA ⟨_, hq191, rfl, H.pickL [2] rfl⟩
    · replace h := condF hc199 h
      refine nc ?_
      cases h
      replace hq191 : (Sum.inl ()) = o186 := hq191
      subst hq191
      have h := hO188
      try dsimp only [Sum.elim_inl, Sum.elim_inr] at h
      exact cut_inA ⟨h, rfl, H.pickL [] rfl⟩
  · rintro _ w221 ⟨h, rfl, H⟩
    unfold gemotref13_Right.k3 at h
    refine nc_cut (fun e w230 => ∃ (v229 : Bool), gemotref13_Right.k2 v229 = some r ∧ e = [(2, .bool v229)] ∧ Eng.Own ok w w230 []) ?_ ?_
    · skip
      refine nc ?_
      rcases Bool.eq_false_or_eq_true (decide ((x0.length : Int) < (100 : Int))) with hg232 | hg232
      · replace h := condT hg232 h
        obtain ⟨y233, hy234, h⟩ := bindS h
        refine call_yes (gT1 hg232 rfl) (by kernel_rfl) (gemotref13_End_ok (ok := fun _ => False) hy234) fun v236 w235 ⟨hv237, hb238⟩ => ?_
        subst hv237
        replace H := H.call hb238
        exact cut_inA ⟨_, h, rfl, H.pickL [] rfl⟩
      · replace h := condF hg232 h
        refine call_skip (.int .i64 0) (gF1 hg232) ?_
        exact cut_inA ⟨_, h, rfl, H.pickL [] rfl⟩
    · rintro _ w239 ⟨v229, h, rfl, H⟩
      unfold gemotref13_Right.k2 at h
      refine nc ?_
      replace h := Option.some.inj h
      subst h
      exact ret_inA [.bool v229] ⟨_, rfl, ⟨rfl, H.frame⟩⟩
/-! gemot/gemotref13.Members -/
noncomputable def gemotref13_Members.k1 (x0 : List UInt8) (v391 : Int) (v581 : List Int) : Option (((List Int) × Int) ⊕ (List Int)) := some (.inl (v581, (IntKind.i64.wrap (v391 + (1 : Int)))))
noncomputable def gemotref13_Members.b2 (x0 : List UInt8) (v387 : List Int) (v391 : Int) : Option (((List Int) × Int) ⊕ (List Int)) := cond (decide (v391 ≤ (8 : Int))) ((gemotref13_digits.f x0).bind fun y587 => (gemotref10_Has.f y587 v391).bind fun y599 => cond y599 (roomM 8 (v387.length + 1) (gemotref13_Members.k1 x0 v391 (v387 ++ [v391]))) (gemotref13_Members.k1 x0 v391 v387)) (some (.inr v387))
noncomputable def gemotref13_Members.k3 (v310 : List Int) : Option ((List Int)) := some v310
noncomputable def gemotref13_Members.f (x0 : List UInt8) : Option ((List Int)) := (gemotref13_Right.f x0).bind fun y1 => cond (!y1) (some ([] : List Int)) ((loopM (fun s547 : (List Int) × Int => gemotref13_Members.b2 x0 s547.1 s547.2) (([] : List Int), (1 : Int))).bind (fun (o545 : (List Int)) => gemotref13_Members.k3 o545))
set_option maxHeartbeats 4000000 in
theorem gemotref13_Members_ok {ok : Nat → Prop} {w : World} {x0 : List UInt8} {r : (List Int)} (h : gemotref13_Members.f x0 = some r) :
    Calls Try.prog 85 #[.string (bs x0)] w fun e w' => ∃ v, e = .returned v ∧ (rowOut w w' ok (tInt .i64) 3 v r ∧ Bel w.heap.size w w') := by
  have H : Eng.Own ok w w [] := Eng.Own.nil ok w
  unfold gemotref13_Members.f at h
  refine enterN (args := [.string (bs x0)]) Try.func85 rfl Try.ntmps85 rfl rfl ?_
  refine nc_seq ?_
  refine nc ?_
  refine nc_seq ?_
  refine nc_seq ?_
  refine nc ?_
  obtain ⟨y1, hy2, h⟩ := bindS h
  refine call_rule (by kernel_rfl) (gemotref13_Right_ok (ok := fun _ => False) hy2) fun v4 w3 ⟨hv5, hb6⟩ => ?_
  subst hv5
  replace H := H.call hb6
  refine nc_cond rfl (fun hc7 => ?_) (fun hc7 => ?_)
  · replace h := condT hc7 h
    refine nc_seq ?_
    refine nc ?_
    refine nc ?_
    replace h := Option.some.inj h
    subst h
    exact ret_inA [.slice none 0 0] ⟨_, rfl, ⟨rowNil, H.frame⟩⟩
  · replace h := condF hc7 h
    refine nc ?_
    refine nc_seq ?_
    refine nc ?_
    refine nc_cut (fun e w314 => ∃ (A311 : Option Addr) (c312 : Nat) (cs313 : List Value) (v310 : List Int), gemotref13_Members.k3 v310 = some r ∧ e = [(3, .slice A311 v310.length c312)] ∧ Eng.Own ok w w314 [.dat (dRows (tInt .i64) v310 cs313), .row (.slice A311 v310.length c312) 3 1 v310.length cs313]) ?_ ?_
    · skip
      refine nc_seq ?_
      refine nc ?_
      refine nc_block ?_
      replace H := H.nilRowD (tInt .i64) 3
      obtain ⟨o537, hL538, hO539⟩ := bindS h
      obtain ⟨n540, hL538⟩ := loopS hL538
      refine nc ?_
      refine loop_ruleA (fun k e w544 => ∃ (A388 : Option Addr) (c389 : Nat) (cs390 : List Value) (v387 : List Int) (v391 : Int), iterM (fun s547 : (List Int) × Int => gemotref13_Members.b2 x0 s547.1 s547.2) k (v387, v391) = some o537 ∧ e = [(0, .string (bs x0)), (3, .slice A388 v387.length c389), (4, .int .i64 v391)] ∧ Eng.Own ok w w544 [.dat (dRows (tInt .i64) v387 cs390), .row (.slice A388 v387.length c389) 3 1 v387.length cs390]) ⟨none, 0, [], _, _, hL538, rfl, H.pickL [0, 1] rfl⟩ ?_
      rintro k549 _ w548 ⟨A388, c389, cs390, v387, v391, hL538, rfl, H⟩
      obtain ⟨k543, rfl, q541, h, hq542⟩ := iterS hL538
      replace h : gemotref13_Members.b2 x0 v387 v391 = some q541 := h
      unfold gemotref13_Members.b2 at h
      refine nc_seq ?_
      refine nc_seq ?_
      refine nc ?_
      refine nc_cond rfl (fun hc550 => ?_) (fun hc550 => ?_)
      · replace h := condT hc550 h
        refine nc ?_
        refine nc_cut (fun e w585 => ∃ (A582 : Option Addr) (c583 : Nat) (cs584 : List Value) (v581 : List Int), gemotref13_Members.k1 x0 v391 v581 = some q541 ∧ e = [(0, .string (bs x0)), (3, .slice A582 v581.length c583), (4, .int .i64 v391)] ∧ Eng.Own ok w w585 [.dat (dRows (tInt .i64) v581 cs584), .row (.slice A582 v581.length c583) 3 1 v581.length cs584]) ?_ ?_
        · skip
          refine nc_block ?_
          refine nc_seq ?_
          refine nc ?_
          obtain ⟨y587, hy588, h⟩ := bindS h
          refine call_rule (by kernel_rfl) (gemotref13_digits_ok (ok := fun _ => False) hy588) fun u593 w589 ⟨hu594, hb592⟩ => ?_
          replace H := H.callDats hb592 [dSl (tInt .i64) u593 y587] ⟨(rowOut_sl (rowOut_any hu594) hb592), trivial⟩
          obtain ⟨A595, c596, hA597, _⟩ := H.sl 0 rfl
          subst hA597
          obtain ⟨y599, hy600, h⟩ := bindS h
          refine call_rule (by kernel_rfl) (gemotref10_Has_ok (H.dat 0 rfl) hy600) fun v602 w601 ⟨hv603, hb604⟩ => ?_
          subst hv603
          replace H := H.call hb604
          refine nc_cond rfl (fun hc605 => ?_) (fun hc605 => ?_)
          · replace h := condT hc605 h
            refine nc ?_
            refine own_buildSlice (e := 3) (sz := 1) (z := .int .i64 0) (cs := [.int .i64 v391]) H (by kernel_rfl) (by kernel_rfl) (by kernel_rfl) rfl rfl rfl rfl fun g607 w608 H => ?_
            obtain ⟨hr609, h⟩ := roomS h
            refine own_append1 (k := (tInt .i64)) (z := .int .i64 0) (x := v391) 8 H 2 1 rfl rfl rfl rfl (by kernel_rfl) (by kernel_rfl) rfl rfl hr609 rfl fun z610 cs611 w612 H => ?_
            obtain ⟨A613, c614, rfl, _, _⟩ := H.rowSl 2 rfl
            exact cut_inA ⟨A613, c614, cs611, _, h, rfl, H.pickL [1, 2] rfl⟩
          · replace h := condF hc605 h
            refine nc ?_
            exact cut_inA ⟨A388, c389, cs390, _, h, rfl, H.pickL [1, 2] rfl⟩
        · rintro _ w616 ⟨A582, c583, cs584, v581, h, rfl, H⟩
          unfold gemotref13_Members.k1 at h
          refine nc ?_
          cases h
          exact again_inA ⟨A582, c583, cs584, _, _, hq542, rfl, H.pickL [0, 1] rfl⟩
      · replace h := condF hc550 h
        refine nc ?_
        cases h
        replace hq542 : v387 = o537 := hq542
        subst hq542
        have h := hO539
        try dsimp only [Sum.elim_inl, Sum.elim_inr] at h
        exact cut_inA ⟨A388, c389, cs390, _, h, rfl, H.pickL [0, 1] rfl⟩
    · rintro _ w617 ⟨A311, c312, cs313, v310, h, rfl, H⟩
      unfold gemotref13_Members.k3 at h
      refine nc_seq ?_
      refine nc ?_
      refine nc ?_
      replace h := Option.some.inj h
      subst h
      exact ret_inA [.slice A311 v310.length c312] ⟨_, rfl, ⟨H.outR 1 0 rfl rfl rfl, H.frame⟩⟩
/-! gemot/gemotref14.At -/
noncomputable def gemotref14_At.k1 (x1 : List UInt8) (v485 : Int) (v728 : List UInt8) : Option (((List UInt8) × Int) ⊕ ((List UInt8) ⊕ ((List UInt8) × Int))) := some (.inl (v728, (IntKind.i64.wrap (v485 + (1 : Int)))))
noncomputable def gemotref14_At.k2 (x1 : List UInt8) (v484 : List UInt8) (v485 : Int) (v754 : Bool) : Option (((List UInt8) × Int) ⊕ ((List UInt8) ⊕ ((List UInt8) × Int))) := cond v754 (some (.inr (Sum.inr (([] : List UInt8), (8 : Int))))) ((gemotref13_Parts.f v484).bind fun y765 => (idxS x1 v485).bind fun y771 => cond (y771 == (114 : Int)) (gemotref14_At.k1 x1 v485 y765.2) (gemotref14_At.k1 x1 v485 y765.1))
noncomputable def gemotref14_At.b3 (x1 : List UInt8) (v484 : List UInt8) (v485 : Int) : Option (((List UInt8) × Int) ⊕ ((List UInt8) ⊕ ((List UInt8) × Int))) := cond (decide (v485 < (x1.length : Int))) (cond ((v484.length : Int) == (1 : Int)) (gemotref14_At.k2 x1 v484 v485 (cond ((v484.length : Int) == (1 : Int)) true (cond ((0 : Int) != (108 : Int)) ((0 : Int) != (114 : Int)) false))) ((idxS x1 v485).bind fun y758 => cond (y758 != (108 : Int)) ((idxS x1 v485).bind fun y761 => gemotref14_At.k2 x1 v484 v485 (cond ((v484.length : Int) == (1 : Int)) true (cond (y758 != (108 : Int)) (y761 != (114 : Int)) false))) (gemotref14_At.k2 x1 v484 v485 (cond ((v484.length : Int) == (1 : Int)) true (cond (y758 != (108 : Int)) ((0 : Int) != (114 : Int)) false))))) (some (.inr (Sum.inl v484)))
noncomputable def gemotref14_At.k4 (v390 : List UInt8) : Option ((List UInt8) × Int) := some (v390, (0 : Int))
noncomputable def gemotref14_At.f (x0 : List UInt8) (x1 : List UInt8) : Option ((List UInt8) × Int) := (gemotref13_Right.f x0).bind fun y1 => cond (!y1) (some (([] : List UInt8), (1 : Int))) ((loopM (fun s681 : (List UInt8) × Int => gemotref14_At.b3 x1 s681.1 s681.2) (x0, (0 : Int))).bind (Sum.elim (fun (o679 : (List UInt8)) => gemotref14_At.k4 o679) (fun (o680 : (List UInt8) × Int) => some o680)))
set_option maxHeartbeats 4000000 in
theorem gemotref14_At_ok {ok : Nat → Prop} {w : World} {x0 : List UInt8} {x1 : List UInt8} {r : (List UInt8) × Int} (h : gemotref14_At.f x0 x1 = some r) :
    Calls Try.prog 44 #[.string (bs x0), .string (bs x1)] w fun e w' => ∃ v, e = .returned v ∧ (v = .tuple #[.string (bs r.1), .int .i64 r.2] ∧ Bel w.heap.size w w') := by
  have H : Eng.Own ok w w [] := Eng.Own.nil ok w
  unfold gemotref14_At.f at h
  refine enterN (args := [.string (bs x0), .string (bs x1)]) Try.func44 rfl Try.ntmps44 rfl rfl ?_
  refine nc_seq ?_
  refine nc ?_
  refine nc_seq ?_
  refine nc_seq ?_
  refine nc ?_
  obtain ⟨y1, hy2, h⟩ := bindS h
  refine call_rule (by kernel_rfl) (gemotref13_Right_ok (ok := fun _ => False) hy2) fun v4 w3 ⟨hv5, hb6⟩ => ?_
  subst hv5
  replace H := H.call hb6
  refine nc_cond rfl (fun hc7 => ?_) (fun hc7 => ?_)
  · replace h := condT hc7 h
    refine nc_seq ?_
    refine nc ?_
    refine nc ?_
    replace h := Option.some.inj h
    subst h
    exact ret_inA [.string (bs ([] : List UInt8)), .int .i64 1] ⟨_, rfl, ⟨rfl, H.frame⟩⟩
  · replace h := condF hc7 h
    refine nc ?_
    refine nc_cut (fun e w391 => ∃ (v390 : List UInt8), gemotref14_At.k4 v390 = some r ∧ e = [(0, .string (bs v390))] ∧ Eng.Own ok w w391 []) ?_ ?_
    · skip
      refine nc_seq ?_
      refine nc ?_
      refine nc_block ?_
      obtain ⟨o671, hL672, hO673⟩ := bindS h
      obtain ⟨n674, hL672⟩ := loopS hL672
      refine nc ?_
      refine loop_ruleA (fun k e w678 => ∃ (v484 : List UInt8) (v485 : Int), iterM (fun s681 : (List UInt8) × Int => gemotref14_At.b3 x1 s681.1 s681.2) k (v484, v485) = some o671 ∧ e = [(0, .string (bs v484)), (1, .string (bs x1)), (6, .int .i64 v485)] ∧ Eng.Own ok w w678 []) ⟨_, _, hL672, rfl, H.pickL [] rfl⟩ ?_
      rintro k683 _ w682 ⟨v484, v485, hL672, rfl, H⟩
      obtain ⟨k677, rfl, q675, h, hq676⟩ := iterS hL672
      replace h : gemotref14_At.b3 x1 v484 v485 = some q675 := h
      unfold gemotref14_At.b3 at h
      refine nc_seq ?_
      refine nc_seq ?_
      refine nc ?_
      refine nc_cond rfl (fun hc684 => ?_) (fun hc684 => ?_)
      · replace h := condT hc684 h
        refine nc ?_
        refine nc_cut (fun e w729 => ∃ (v728 : List UInt8), gemotref14_At.k1 x1 v485 v728 = some q675 ∧ e = [(0, .string (bs v728)), (1, .string (bs x1)), (6, .int .i64 v485)] ∧ Eng.Own ok w w729 []) ?_ ?_
        · skip
          refine nc_block ?_
          refine nc_seq ?_
          refine nc_cut (fun e w755 => ∃ (v754 : Bool), gemotref14_At.k2 x1 v484 v485 v754 = some q675 ∧ e = [(0, .string (bs v484)), (1, .string (bs x1)), (6, .int .i64 v485), (32, .bool v754)] ∧ Eng.Own ok w w755 []) ?_ ?_
          · skip
            refine nc ?_
            rcases Bool.eq_false_or_eq_true ((v484.length : Int) == (1 : Int)) with hg757 | hg757
            · replace h := condT hg757 h
              refine skipIX (.int .u8 0) (gF0 hg757) ?_
              refine skipIX (.int .u8 0) (by first | exact gFr (gF0 hg757) | exact (gF0 hg757) | rfl) ?_
              exact cut_inA ⟨_, h, rfl, H.pickL [] rfl⟩
            · replace h := condF hg757 h
              obtain ⟨y758, hx759, h⟩ := bindS h
              refine idxS_rule (by kernel_rfl) hx759 ?_
              rcases Bool.eq_false_or_eq_true (y758 != (108 : Int)) with hg760 | hg760
              · replace h := condT hg760 h
                obtain ⟨y761, hx762, h⟩ := bindS h
                refine idxS_rule (by kernel_rfl) hx762 ?_
                exact cut_inA ⟨_, h, rfl, H.pickL [] rfl⟩
              · replace h := condF hg760 h
                refine skipIX (.int .u8 0) (gF1 hg760) ?_
                exact cut_inA ⟨_, h, rfl, H.pickL [] rfl⟩
          · rintro _ w763 ⟨v754, h, rfl, H⟩
            unfold gemotref14_At.k2 at h
            refine nc_cond rfl (fun hc764 => ?_) (fun hc764 => ?_)
            · replace h := condT hc764 h
              refine nc_seq ?_
              refine nc ?_
              refine nc ?_
              cases h
              replace hq676 : (Sum.inr (([] : List UInt8), (8 : Int))) = o671 := hq676
              subst hq676
              have h := hO673
              try dsimp only [Sum.elim_inl, Sum.elim_inr] at h
              replace h := Option.some.inj h
              subst h
              exact ret_inA [.string (bs ([] : List UInt8)), .int .i64 8] ⟨_, rfl, ⟨rfl, H.frame⟩⟩
            · replace h := condF hc764 h
              refine nc ?_
              refine nc_seq ?_
              refine nc ?_
              obtain ⟨y765, hy766, h⟩ := bindS h
              refine call_rule (by kernel_rfl) (gemotref13_Parts_ok (ok := fun _ => False) hy766) fun v768 w767 ⟨hv769, hb770⟩ => ?_
              subst hv769
              replace H := H.call hb770
              refine nc_seq ?_
              refine nc ?_
              refine nc_seq ?_
              refine nc ?_
              obtain ⟨y771, hx772, h⟩ := bindS h
              refine idxS_rule (by kernel_rfl) hx772 ?_
              refine nc_cond rfl (fun hc773 => ?_) (fun hc773 => ?_)
              · replace h := condT hc773 h
                refine nc ?_
                exact cut_inA ⟨_, h, rfl, H.pickL [] rfl⟩
              · replace h := condF hc773 h
                refine nc ?_
                exact cut_inA ⟨_, h, rfl, H.pickL [] rfl⟩
        · rintro _ w774 ⟨v728, h, rfl, H⟩
          unfold gemotref14_At.k1 at h
          refine nc ?_
          cases h
          exact again_inA ⟨_, _, hq676, rfl, H.pickL [] rfl⟩
      · replace h := condF hc684 h
        refine nc ?_
        cases h
        replace hq676 : (Sum.inl v484) = o671 := hq676
        subst hq676
        have h := hO673
        try dsimp only [Sum.elim_inl, Sum.elim_inr] at h
        exact cut_inA ⟨_, h, rfl, H.pickL [] rfl⟩
    · rintro _ w775 ⟨v390, h, rfl, H⟩
      unfold gemotref14_At.k4 at h
      refine nc_seq ?_
      refine nc ?_
      refine nc ?_
      replace h := Option.some.inj h
      subst h
      exact ret_inA [.string (bs v390), .int .i64 0] ⟨_, rfl, ⟨rfl, H.frame⟩⟩
/-! gemot/gemotref14.Nodes -/
noncomputable def gemotref14_Nodes.k1 (x0 : List UInt8) (v410 : Int) (v609 : List (List UInt8)) : Option (((List (List UInt8)) × Int) ⊕ (List (List UInt8))) := some (.inl (v609, (IntKind.i64.wrap (v410 + (1 : Int)))))
noncomputable def gemotref14_Nodes.b2 (x0 : List UInt8) (v406 : List (List UInt8)) (v410 : Int) : Option (((List (List UInt8)) × Int) ⊕ (List (List UInt8))) := cond (decide (v410 < (v406.length : Int))) ((idxL v406 v410).bind fun y615 => (gemotref14_At.f x0 y615).bind fun y621 => cond (decide ((y621.1.length : Int) > (1 : Int))) ((idxL v406 v410).bind fun y628 => roomM 1 (y628.length + [108].length) ((idxL v406 v410).bind fun y631 => roomM 1 (y631.length + [114].length) (roomM 16 (v406.length + ([(y628 ++ [108]), (y631 ++ [114])] : List (List UInt8)).length) (gemotref14_Nodes.k1 x0 v410 (v406 ++ ([(y628 ++ [108]), (y631 ++ [114])] : List (List UInt8))))))) (gemotref14_Nodes.k1 x0 v410 v406)) (some (.inr v406))
noncomputable def gemotref14_Nodes.k3 (v328 : List (List UInt8)) : Option ((List (List UInt8))) := some v328
noncomputable def gemotref14_Nodes.f (x0 : List UInt8) : Option ((List (List UInt8))) := (gemotref13_Right.f x0).bind fun y1 => cond (!y1) (some ([] : List (List UInt8))) ((loopM (fun s573 : (List (List UInt8)) × Int => gemotref14_Nodes.b2 x0 s573.1 s573.2) (([([] : List UInt8)] : List (List UInt8)), (0 : Int))).bind (fun (o572 : (List (List UInt8))) => gemotref14_Nodes.k3 o572))
set_option maxHeartbeats 4000000 in
theorem gemotref14_Nodes_ok {ok : Nat → Prop} {w : World} {x0 : List UInt8} {r : (List (List UInt8))} (h : gemotref14_Nodes.f x0 = some r) :
    Calls Try.prog 47 #[.string (bs x0)] w fun e w' => ∃ v, e = .returned v ∧ (rowOut w w' ok tStr 9 v r ∧ Bel w.heap.size w w') := by
  have H : Eng.Own ok w w [] := Eng.Own.nil ok w
  unfold gemotref14_Nodes.f at h
  refine enterN (args := [.string (bs x0)]) Try.func47 rfl Try.ntmps47 rfl rfl ?_
  refine nc_seq ?_
  refine nc ?_
  refine nc_seq ?_
  refine nc_seq ?_
  refine nc ?_
  obtain ⟨y1, hy2, h⟩ := bindS h
  refine call_rule (by kernel_rfl) (gemotref13_Right_ok (ok := fun _ => False) hy2) fun v4 w3 ⟨hv5, hb6⟩ => ?_
  subst hv5
  replace H := H.call hb6
  refine nc_cond rfl (fun hc7 => ?_) (fun hc7 => ?_)
  · replace h := condT hc7 h
    refine nc_seq ?_
    refine nc ?_
    refine nc ?_
    replace h := Option.some.inj h
    subst h
    exact ret_inA [.slice none 0 0] ⟨_, rfl, ⟨rowNil, H.frame⟩⟩
  · replace h := condF hc7 h
    refine nc ?_
    refine nc_seq ?_
    refine nc ?_
    refine own_buildSlice (e := 9) (sz := 1) (z := .string ⟨#[]⟩) (cs := [.string (bs ([] : List UInt8))]) H (by kernel_rfl) (by kernel_rfl) (by kernel_rfl) rfl rfl rfl rfl fun g9 w10 H => ?_
    have hr := H.addDat (dRows tStr ([([] : List UInt8)] : List (List UInt8)) [.string (bs ([] : List UInt8))]) ⟨_, _, rfl, rfl, rfl⟩
    replace H := (hr.pickL (1 :: 0 :: (List.range 0).map (· + 2)) rfl).blkRow (n := 1) (sz := 1) rfl (by decide)
    refine nc_cut (fun e w332 => ∃ (A329 : Option Addr) (c330 : Nat) (cs331 : List Value) (v328 : List (List UInt8)), gemotref14_Nodes.k3 v328 = some r ∧ e = [(3, .slice A329 v328.length c330)] ∧ Eng.Own ok w w332 [.dat (dRows tStr v328 cs331), .row (.slice A329 v328.length c330) 9 1 v328.length cs331]) ?_ ?_
    · skip
      refine nc_seq ?_
      refine nc ?_
      refine nc_block ?_
      obtain ⟨o564, hL565, hO566⟩ := bindS h
      obtain ⟨n567, hL565⟩ := loopS hL565
      refine nc ?_
      refine loop_ruleA (fun k e w571 => ∃ (A407 : Option Addr) (c408 : Nat) (cs409 : List Value) (v406 : List (List UInt8)) (v410 : Int), iterM (fun s573 : (List (List UInt8)) × Int => gemotref14_Nodes.b2 x0 s573.1 s573.2) k (v406, v410) = some o564 ∧ e = [(0, .string (bs x0)), (3, .slice A407 v406.length c408), (4, .int .i64 v410)] ∧ Eng.Own ok w w571 [.dat (dRows tStr v406 cs409), .row (.slice A407 v406.length c408) 9 1 v406.length cs409]) ⟨some ⟨g9, 0, none⟩, 1, [.string (bs ([] : List UInt8))], _, _, hL565, rfl, H.pickL [1, 0] rfl⟩ ?_
      rintro k575 _ w574 ⟨A407, c408, cs409, v406, v410, hL565, rfl, H⟩
      obtain ⟨k570, rfl, q568, h, hq569⟩ := iterS hL565
      replace h : gemotref14_Nodes.b2 x0 v406 v410 = some q568 := h
      unfold gemotref14_Nodes.b2 at h
      refine nc_seq ?_
      refine nc_seq ?_
      refine nc ?_
      refine nc_cond rfl (fun hc576 => ?_) (fun hc576 => ?_)
      · replace h := condT hc576 h
        refine nc ?_
        refine nc_cut (fun e w613 => ∃ (A610 : Option Addr) (c611 : Nat) (cs612 : List Value) (v609 : List (List UInt8)), gemotref14_Nodes.k1 x0 v410 v609 = some q568 ∧ e = [(0, .string (bs x0)), (3, .slice A610 v609.length c611), (4, .int .i64 v410)] ∧ Eng.Own ok w w613 [.dat (dRows tStr v609 cs612), .row (.slice A610 v609.length c611) 9 1 v609.length cs612]) ?_ ?_
        · skip
          refine nc_block ?_
          refine nc_seq ?_
          refine nc ?_
          obtain ⟨y615, hx616, h⟩ := bindS h
          obtain ⟨a617, _, rfl, _, _⟩ := H.rowElem (k := tStr) 1 0 rfl rfl rfl hx616
          refine idxA_rule (e := 9) 1 _ (by kernel_rfl) (by kernel_rfl) (idxL_some hx616).1 (idxL_some hx616).2.1 ?_
          obtain ⟨cs618, hR619, hC620⟩ := H.rowElemJ (k := tStr) 1 0 rfl rfl rfl hx616
          replace hR619 : cs618 = [.string (bs y615)] := by exact hR619
          subst hR619
          refine load_at hC620 0 (by kernel_rfl) rfl ?_
          obtain ⟨y621, hy622, h⟩ := bindS h
          refine call_rule (by kernel_rfl) (gemotref14_At_ok (ok := fun _ => False) hy622) fun v624 w623 ⟨hv625, hb626⟩ => ?_
          subst hv625
          replace H := H.call hb626
          refine nc_seq ?_
          refine nc ?_
          refine nc_cond rfl (fun hc627 => ?_) (fun hc627 => ?_)
          · replace h := condT hc627 h
            obtain ⟨y628, hx629, h⟩ := bindS h
            obtain ⟨hr630, h⟩ := roomS h
            obtain ⟨y631, hx632, h⟩ := bindS h
            obtain ⟨hr633, h⟩ := roomS h
            obtain ⟨hr638, h⟩ := roomS h
            refine nc ?_
            refine draw_rule [] (by kernel_rfl) (by kernel_rfl) H ?_
            refine c_idxA (e := 9) 1 _ (by kernel_rfl) (by kernel_rfl) (idxL_some hx629).1 (idxL_some hx629).2.1 ?_
            refine c_rowLoad (k := tStr) v410 1 0 0 rfl rfl rfl hx629 (by kernel_rfl) (fun _ _ cs hR => (show cs = [.string (bs y628)] → cs[0]? = some (.string (bs y628)) from fun h => by subst h; rfl) (by exact hR)) ?_
            refine c_catM hr630 ?_
            refine c_idxA (e := 9) 1 _ (by kernel_rfl) (by kernel_rfl) (idxL_some hx632).1 (idxL_some hx632).2.1 ?_
            refine c_rowLoad (k := tStr) v410 1 0 0 rfl rfl rfl hx632 (by kernel_rfl) (fun _ _ cs hR => (show cs = [.string (bs y631)] → cs[0]? = some (.string (bs y631)) from fun h => by subst h; rfl) (by exact hR)) ?_
            refine c_catM hr633 ?_
            refine c_buildData (k := tStr) (e := 9) (z := .string ⟨#[]⟩) [.string (bs (y628 ++ [108])), .string (bs (y631 ++ [114]))] [(y628 ++ [108]), (y631 ++ [114])] (by kernel_rfl) (by kernel_rfl) (by kernel_rfl) rfl rfl rfl rfl rfl rfl (by decide) (fun _ _ H => ⟨_, _, rfl, rfl, ⟨_, _, rfl, rfl, rfl⟩⟩) ?_
            intro g635
            refine c_appendD (k := tStr) (z := .string ⟨#[]⟩) 16 2 1 0 rfl rfl rfl rfl (by kernel_rfl) (by kernel_rfl) rfl rfl hr638 rfl ?_
            intro A642 c643 cs640
            intro w645 H
            exact cut_inA ⟨A642, c643, cs640, _, h, rfl, H.pickL [1, 2] rfl⟩
          · replace h := condF hc627 h
            refine nc ?_
            exact cut_inA ⟨some a617, c408, cs409, _, h, rfl, H.pickL [0, 1] rfl⟩
        · rintro _ w646 ⟨A610, c611, cs612, v609, h, rfl, H⟩
          unfold gemotref14_Nodes.k1 at h
          refine nc ?_
          cases h
          exact again_inA ⟨A610, c611, cs612, _, _, hq569, rfl, H.pickL [0, 1] rfl⟩
      · replace h := condF hc576 h
        refine nc ?_
        cases h
        replace hq569 : v406 = o564 := hq569
        subst hq569
        have h := hO566
        try dsimp only [Sum.elim_inl, Sum.elim_inr] at h
        exact cut_inA ⟨A407, c408, cs409, _, h, rfl, H.pickL [0, 1] rfl⟩
    · rintro _ w647 ⟨A329, c330, cs331, v328, h, rfl, H⟩
      unfold gemotref14_Nodes.k3 at h
      refine nc_seq ?_
      refine nc ?_
      refine nc ?_
      replace h := Option.some.inj h
      subst h
      exact ret_inA [.slice A329 v328.length c330] ⟨_, rfl, ⟨H.outR 1 0 rfl rfl rfl, H.frame⟩⟩
/-! gemot/gemotref14.Path -/
noncomputable def gemotref14_Path.k1 (x0 : List UInt8) (x1 : Int) (y1 : (List (List UInt8))) (v576 : Int) (v856 : List (List UInt8)) : Option (((List (List UInt8)) × Int) ⊕ (List (List UInt8))) := some (.inl (v856, (IntKind.i64.wrap (v576 - (1 : Int)))))
noncomputable def gemotref14_Path.b2 (x0 : List UInt8) (x1 : Int) (y1 : (List (List UInt8))) (v572 : List (List UInt8)) (v576 : Int) : Option (((List (List UInt8)) × Int) ⊕ (List (List UInt8))) := cond (decide (v576 ≥ (0 : Int))) ((idxL y1 v576).bind fun y862 => (gemotref14_At.f x0 y862).bind fun y868 => (gemotref13_Members.f y868.1).bind fun y874 => (gemotref10_Has.f y874 x1).bind fun y886 => cond y886 ((idxL y1 v576).bind fun y893 => roomM 16 (v572.length + 1) (gemotref14_Path.k1 x0 x1 y1 v576 (v572 ++ [y893]))) (gemotref14_Path.k1 x0 x1 y1 v576 v572)) (some (.inr v572))
noncomputable def gemotref14_Path.k3 (v459 : List (List UInt8)) : Option ((List (List UInt8))) := some v459
noncomputable def gemotref14_Path.f (x0 : List UInt8) (x1 : Int) : Option ((List (List UInt8))) := (gemotref14_Nodes.f x0).bind fun y1 => (loopM (fun s804 : (List (List UInt8)) × Int => gemotref14_Path.b2 x0 x1 y1 s804.1 s804.2) (([] : List (List UInt8)), (IntKind.i64.wrap ((y1.length : Int) - (1 : Int))))).bind (fun (o802 : (List (List UInt8))) => gemotref14_Path.k3 o802)
set_option maxHeartbeats 4000000 in
theorem gemotref14_Path_ok {ok : Nat → Prop} {w : World} {x0 : List UInt8} {x1 : Int} {r : (List (List UInt8))} (h : gemotref14_Path.f x0 x1 = some r) :
    Calls Try.prog 49 #[.string (bs x0), .int .i64 x1] w fun e w' => ∃ v, e = .returned v ∧ (rowOut w w' ok tStr 9 v r ∧ Bel w.heap.size w w') := by
  have H : Eng.Own ok w w [] := Eng.Own.nil ok w
  unfold gemotref14_Path.f at h
  refine enterN (args := [.string (bs x0), .int .i64 x1]) Try.func49 rfl Try.ntmps49 rfl rfl ?_
  refine nc_seq ?_
  refine nc ?_
  refine nc_seq ?_
  refine nc ?_
  refine nc_seq ?_
  refine nc ?_
  obtain ⟨y1, hy2, h⟩ := bindS h
  refine call_rule (by kernel_rfl) (gemotref14_Nodes_ok (ok := fun _ => False) hy2) fun u7 w3 ⟨hu8, hb6⟩ => ?_
  replace H := H.callDats hb6 [dSl tStr u7 y1] ⟨(rowOut_sl (rowOut_any hu8) hb6), trivial⟩
  obtain ⟨A9, c10, hA11, _⟩ := H.sl 0 rfl
  subst hA11
  refine nc_cut (fun e w463 => ∃ (A460 : Option Addr) (c461 : Nat) (cs462 : List Value) (v459 : List (List UInt8)), gemotref14_Path.k3 v459 = some r ∧ e = [(5, .slice A460 v459.length c461)] ∧ Eng.Own ok w w463 [.dat (dRows tStr v459 cs462), .row (.slice A460 v459.length c461) 9 1 v459.length cs462]) ?_ ?_
  · skip
    refine nc_seq ?_
    refine nc ?_
    refine nc_block ?_
    replace H := H.nilRowD tStr 9
    obtain ⟨o794, hL795, hO796⟩ := bindS h
    obtain ⟨n797, hL795⟩ := loopS hL795
    refine nc ?_
    refine loop_ruleA (fun k e w801 => ∃ (A573 : Option Addr) (c574 : Nat) (cs575 : List Value) (v572 : List (List UInt8)) (v576 : Int), iterM (fun s804 : (List (List UInt8)) × Int => gemotref14_Path.b2 x0 x1 y1 s804.1 s804.2) k (v572, v576) = some o794 ∧ e = [(0, .string (bs x0)), (1, .int .i64 x1), (5, .slice A573 v572.length c574), (6, .slice A9 y1.length c10), (7, .int .i64 v576)] ∧ Eng.Own ok w w801 [.dat (dRows tStr v572 cs575), .row (.slice A573 v572.length c574) 9 1 v572.length cs575, .dat (dSl tStr (.slice A9 y1.length c10) y1)]) ⟨none, 0, [], _, _, hL795, rfl, H.pickL [0, 1, 2] rfl⟩ ?_
    rintro k806 _ w805 ⟨A573, c574, cs575, v572, v576, hL795, rfl, H⟩
    obtain ⟨k800, rfl, q798, h, hq799⟩ := iterS hL795
    replace h : gemotref14_Path.b2 x0 x1 y1 v572 v576 = some q798 := h
    unfold gemotref14_Path.b2 at h
    refine nc_seq ?_
    refine nc_seq ?_
    refine nc ?_
    refine nc_cond rfl (fun hc807 => ?_) (fun hc807 => ?_)
    · replace h := condT hc807 h
      refine nc ?_
      refine nc_cut (fun e w860 => ∃ (A857 : Option Addr) (c858 : Nat) (cs859 : List Value) (v856 : List (List UInt8)), gemotref14_Path.k1 x0 x1 y1 v576 v856 = some q798 ∧ e = [(0, .string (bs x0)), (1, .int .i64 x1), (5, .slice A857 v856.length c858), (6, .slice A9 y1.length c10), (7, .int .i64 v576)] ∧ Eng.Own ok w w860 [.dat (dRows tStr v856 cs859), .row (.slice A857 v856.length c858) 9 1 v856.length cs859, .dat (dSl tStr (.slice A9 y1.length c10) y1)]) ?_ ?_
      · skip
        refine nc_block ?_
        refine nc_seq ?_
        refine nc ?_
        obtain ⟨y862, hx863, h⟩ := bindS h
        obtain ⟨a864, cs865, rfl, hR866, H⟩ := H.elemI 2 rfl hx863
        obtain rfl : cs865 = [.string (bs y862)] := hR866
        refine idxA_rule (e := 9) 1 _ (by kernel_rfl) (by kernel_rfl) (idxL_some hx863).1 (idxL_some hx863).2.1 ?_
        refine own_loadD H 0 rfl 0 (by kernel_rfl) rfl ?_
        obtain ⟨y868, hy869, h⟩ := bindS h
        refine call_rule (by kernel_rfl) (gemotref14_At_ok (ok := fun _ => False) hy869) fun v871 w870 ⟨hv872, hb873⟩ => ?_
        subst hv872
        replace H := H.call hb873
        refine nc_seq ?_
        refine nc ?_
        obtain ⟨y874, hy875, h⟩ := bindS h
        refine call_rule (by kernel_rfl) (gemotref13_Members_ok (ok := fun _ => False) hy875) fun u880 w876 ⟨hu881, hb879⟩ => ?_
        replace H := H.callDats hb879 [dSl (tInt .i64) u880 y874] ⟨(rowOut_sl (rowOut_any hu881) hb879), trivial⟩
        obtain ⟨A882, c883, hA884, _⟩ := H.sl 0 rfl
        subst hA884
        obtain ⟨y886, hy887, h⟩ := bindS h
        refine call_rule (by kernel_rfl) (gemotref10_Has_ok (H.dat 0 rfl) hy887) fun v889 w888 ⟨hv890, hb891⟩ => ?_
        subst hv890
        replace H := H.call hb891
        refine nc_cond rfl (fun hc892 => ?_) (fun hc892 => ?_)
        · replace h := condT hc892 h
          refine nc ?_
          obtain ⟨y893, hx894, h⟩ := bindS h
          obtain ⟨cs896, hR897, H⟩ := H.elemJ 4 rfl hx894
          obtain rfl : cs896 = [.string (bs y893)] := hR897
          refine idxA_rule (e := 9) 1 _ (by kernel_rfl) (by kernel_rfl) (idxL_some hx894).1 (idxL_some hx894).2.1 ?_
          refine own_loadD H 0 rfl 0 (by kernel_rfl) rfl ?_
          refine own_buildSlice (e := 9) (sz := 1) (z := .string ⟨#[]⟩) (cs := [.string (bs y893)]) H (by kernel_rfl) (by kernel_rfl) (by kernel_rfl) rfl rfl rfl rfl fun g900 w901 H => ?_
          obtain ⟨hr902, h⟩ := roomS h
          refine own_append1 (k := tStr) (z := .string ⟨#[]⟩) (x := y893) 16 H 4 3 rfl rfl rfl rfl (by kernel_rfl) (by kernel_rfl) rfl rfl hr902 rfl fun z903 cs904 w905 H => ?_
          obtain ⟨A906, c907, rfl, _, _⟩ := H.rowSl 4 rfl
          exact cut_inA ⟨A906, c907, cs904, _, h, rfl, H.pickL [3, 4, 5] rfl⟩
        · replace h := condF hc892 h
          refine nc ?_
          exact cut_inA ⟨A573, c574, cs575, _, h, rfl, H.pickL [2, 3, 4] rfl⟩
      · rintro _ w909 ⟨A857, c858, cs859, v856, h, rfl, H⟩
        unfold gemotref14_Path.k1 at h
        refine nc ?_
        cases h
        exact again_inA ⟨A857, c858, cs859, _, _, hq799, rfl, H.pickL [0, 1, 2] rfl⟩
    · replace h := condF hc807 h
      refine nc ?_
      cases h
      replace hq799 : v572 = o794 := hq799
      subst hq799
      have h := hO796
      try dsimp only [Sum.elim_inl, Sum.elim_inr] at h
      exact cut_inA ⟨A573, c574, cs575, _, h, rfl, H.pickL [0, 1] rfl⟩
  · rintro _ w910 ⟨A460, c461, cs462, v459, h, rfl, H⟩
    unfold gemotref14_Path.k3 at h
    refine nc_seq ?_
    refine nc ?_
    refine nc ?_
    replace h := Option.some.inj h
    subst h
    exact ret_inA [.slice A460 v459.length c461] ⟨_, rfl, ⟨H.outR 1 0 rfl rfl rfl, H.frame⟩⟩
/-! gemot/gemotref14.Beside -/
noncomputable def gemotref14_Beside.f (x0 : List UInt8) : Option ((List UInt8)) := cond (strEq x0 ([] : List UInt8)) (some ([] : List UInt8)) ((idxS x0 (IntKind.i64.wrap ((x0.length : Int) - (1 : Int)))).bind fun y2 => cond (y2 == (108 : Int)) ((slcM x0 (0 : Int) (IntKind.i64.wrap ((x0.length : Int) - (1 : Int)))).bind fun y5 => roomM 1 (y5.length + [114].length) (some (y5 ++ [114]))) ((slcM x0 (0 : Int) (IntKind.i64.wrap ((x0.length : Int) - (1 : Int)))).bind fun y8 => roomM 1 (y8.length + [108].length) (some (y8 ++ [108]))))
set_option maxHeartbeats 4000000 in
theorem gemotref14_Beside_ok {ok : Nat → Prop} {w : World} {x0 : List UInt8} {r : (List UInt8)} (h : gemotref14_Beside.f x0 = some r) :
    Calls Try.prog 51 #[.string (bs x0)] w fun e w' => ∃ v, e = .returned v ∧ (v = .string (bs r) ∧ Bel w.heap.size w w') := by
  have H : Eng.Own ok w w [] := Eng.Own.nil ok w
  unfold gemotref14_Beside.f at h
  refine enterN (args := [.string (bs x0)]) Try.func51 rfl Try.ntmps51 rfl rfl ?_
  refine nc_seq ?_
  refine nc ?_
  refine nc_seq ?_
  refine nc_seq ?_
  refine nc ?_
  refine nc_cond rfl (fun hc1 => ?_) (fun hc1 => ?_)
  · replace h := condT hc1 h
    refine nc_seq ?_
    refine nc ?_
    refine nc ?_
    replace h := Option.some.inj h
    subst h
    exact ret_inA [.string (bs ([] : List UInt8))] ⟨_, rfl, ⟨rfl, H.frame⟩⟩
  · replace h := condF hc1 h
    refine nc ?_
    refine nc_seq ?_
    refine nc ?_
    refine nc_seq ?_
    refine nc_seq ?_
    refine nc ?_
    obtain ⟨y2, hx3, h⟩ := bindS h
    refine idxS_rule (by kernel_rfl) hx3 ?_
    refine nc_cond rfl (fun hc4 => ?_) (fun hc4 => ?_)
    · replace h := condT hc4 h
      refine nc_seq ?_
      refine nc ?_
      obtain ⟨y5, hx6, h⟩ := bindS h
      refine txtI_rule (0 : Int) (IntKind.i64.wrap ((x0.length : Int) - (1 : Int))) (by kernel_rfl) rfl ⟨_, rfl⟩ hx6 ?_
      obtain ⟨hr7, h⟩ := roomS h
      refine catM_rule hr7 ?_
      refine nc ?_
      replace h := Option.some.inj h
      subst h
      exact ret_inA [.string (bs (y5 ++ [114]))] ⟨_, rfl, ⟨rfl, H.frame⟩⟩
    · replace h := condF hc4 h
      refine nc ?_
      refine nc_seq ?_
      refine nc ?_
      obtain ⟨y8, hx9, h⟩ := bindS h
      refine txtI_rule (0 : Int) (IntKind.i64.wrap ((x0.length : Int) - (1 : Int))) (by kernel_rfl) rfl ⟨_, rfl⟩ hx9 ?_
      obtain ⟨hr10, h⟩ := roomS h
      refine catM_rule hr10 ?_
      refine nc ?_
      replace h := Option.some.inj h
      subst h
      exact ret_inA [.string (bs (y8 ++ [108]))] ⟨_, rfl, ⟨rfl, H.frame⟩⟩
/-! gemot/gemotref14.Co -/
noncomputable def gemotref14_Co.b1 (y1 : (List (List UInt8))) (v168 : List (List UInt8)) (v172 : Int) : Option (((List (List UInt8)) × Int) ⊕ (List (List UInt8))) := cond (decide ((IntKind.i64.wrap (v172 + (1 : Int))) < (y1.length : Int))) ((idxL y1 v172).bind fun y244 => (gemotref14_Beside.f y244).bind fun y250 => roomM 16 (v168.length + 1) (some (.inl ((v168 ++ [y250]), (IntKind.i64.wrap (v172 + (1 : Int))))))) (some (.inr v168))
noncomputable def gemotref14_Co.k2 (v137 : List (List UInt8)) : Option ((List (List UInt8))) := some v137
noncomputable def gemotref14_Co.f (x0 : List UInt8) (x1 : Int) : Option ((List (List UInt8))) := (gemotref14_Path.f x0 x1).bind fun y1 => (loopM (fun s240 : (List (List UInt8)) × Int => gemotref14_Co.b1 y1 s240.1 s240.2) (([] : List (List UInt8)), (0 : Int))).bind (fun (o238 : (List (List UInt8))) => gemotref14_Co.k2 o238)
set_option maxHeartbeats 4000000 in
theorem gemotref14_Co_ok {ok : Nat → Prop} {w : World} {x0 : List UInt8} {x1 : Int} {r : (List (List UInt8))} (h : gemotref14_Co.f x0 x1 = some r) :
    Calls Try.prog 53 #[.string (bs x0), .int .i64 x1] w fun e w' => ∃ v, e = .returned v ∧ (rowOut w w' ok tStr 9 v r ∧ Bel w.heap.size w w') := by
  have H : Eng.Own ok w w [] := Eng.Own.nil ok w
  unfold gemotref14_Co.f at h
  refine enterN (args := [.string (bs x0), .int .i64 x1]) Try.func53 rfl Try.ntmps53 rfl rfl ?_
  refine nc_seq ?_
  refine nc ?_
  refine nc_seq ?_
  refine nc ?_
  refine nc_seq ?_
  refine nc ?_
  obtain ⟨y1, hy2, h⟩ := bindS h
  refine call_rule (by kernel_rfl) (gemotref14_Path_ok (ok := fun _ => False) hy2) fun u7 w3 ⟨hu8, hb6⟩ => ?_
  replace H := H.callDats hb6 [dSl tStr u7 y1] ⟨(rowOut_sl (rowOut_any hu8) hb6), trivial⟩
  obtain ⟨A9, c10, hA11, _⟩ := H.sl 0 rfl
  subst hA11
  refine nc_cut (fun e w141 => ∃ (A138 : Option Addr) (c139 : Nat) (cs140 : List Value) (v137 : List (List UInt8)), gemotref14_Co.k2 v137 = some r ∧ e = [(5, .slice A138 v137.length c139)] ∧ Eng.Own ok w w141 [.dat (dRows tStr v137 cs140), .row (.slice A138 v137.length c139) 9 1 v137.length cs140]) ?_ ?_
  · skip
    refine nc_seq ?_
    refine nc ?_
    refine nc_block ?_
    replace H := H.nilRowD tStr 9
    obtain ⟨o230, hL231, hO232⟩ := bindS h
    obtain ⟨n233, hL231⟩ := loopS hL231
    refine nc ?_
    refine loop_ruleA (fun k e w237 => ∃ (A169 : Option Addr) (c170 : Nat) (cs171 : List Value) (v168 : List (List UInt8)) (v172 : Int), iterM (fun s240 : (List (List UInt8)) × Int => gemotref14_Co.b1 y1 s240.1 s240.2) k (v168, v172) = some o230 ∧ e = [(5, .slice A169 v168.length c170), (6, .slice A9 y1.length c10), (7, .int .i64 v172)] ∧ Eng.Own ok w w237 [.dat (dRows tStr v168 cs171), .row (.slice A169 v168.length c170) 9 1 v168.length cs171, .dat (dSl tStr (.slice A9 y1.length c10) y1)]) ⟨none, 0, [], _, _, hL231, rfl, H.pickL [0, 1, 2] rfl⟩ ?_
    rintro k242 _ w241 ⟨A169, c170, cs171, v168, v172, hL231, rfl, H⟩
    obtain ⟨k236, rfl, q234, h, hq235⟩ := iterS hL231
    replace h : gemotref14_Co.b1 y1 v168 v172 = some q234 := h
    unfold gemotref14_Co.b1 at h
    refine nc_seq ?_
    refine nc_seq ?_
    refine nc ?_
    refine nc_cond rfl (fun hc243 => ?_) (fun hc243 => ?_)
    · replace h := condT hc243 h
      refine nc ?_
      refine nc_seq ?_
      refine nc_block ?_
      refine nc ?_
      obtain ⟨y244, hx245, h⟩ := bindS h
      obtain ⟨a246, cs247, rfl, hR248, H⟩ := H.elemI 2 rfl hx245
      obtain rfl : cs247 = [.string (bs y244)] := hR248
      refine idxA_rule (e := 9) 1 _ (by kernel_rfl) (by kernel_rfl) (idxL_some hx245).1 (idxL_some hx245).2.1 ?_
      refine own_loadD H 0 rfl 0 (by kernel_rfl) rfl ?_
      obtain ⟨y250, hy251, h⟩ := bindS h
      refine call_rule (by kernel_rfl) (gemotref14_Beside_ok (ok := fun _ => False) hy251) fun v253 w252 ⟨hv254, hb255⟩ => ?_
      subst hv254
      replace H := H.call hb255
      refine own_buildSlice (e := 9) (sz := 1) (z := .string ⟨#[]⟩) (cs := [.string (bs y250)]) H (by kernel_rfl) (by kernel_rfl) (by kernel_rfl) rfl rfl rfl rfl fun g257 w258 H => ?_
      obtain ⟨hr259, h⟩ := roomS h
      refine own_append1 (k := tStr) (z := .string ⟨#[]⟩) (x := y250) 16 H 2 1 rfl rfl rfl rfl (by kernel_rfl) (by kernel_rfl) rfl rfl hr259 rfl fun z260 cs261 w262 H => ?_
      obtain ⟨A263, c264, rfl, _, _⟩ := H.rowSl 2 rfl
      refine nc ?_
      cases h
      exact again_inA ⟨A263, c264, cs261, _, _, hq235, rfl, H.pickL [1, 2, 3] rfl⟩
    · replace h := condF hc243 h
      refine nc ?_
      cases h
      replace hq235 : v168 = o230 := hq235
      subst hq235
      have h := hO232
      try dsimp only [Sum.elim_inl, Sum.elim_inr] at h
      exact cut_inA ⟨A169, c170, cs171, _, h, rfl, H.pickL [0, 1] rfl⟩
  · rintro _ w266 ⟨A138, c139, cs140, v137, h, rfl, H⟩
    unfold gemotref14_Co.k2 at h
    refine nc_seq ?_
    refine nc ?_
    refine nc ?_
    replace h := Option.some.inj h
    subst h
    exact ret_inA [.slice A138 v137.length c139] ⟨_, rfl, ⟨H.outR 1 0 rfl rfl rfl, H.frame⟩⟩
/-! gemot/gemotref14.Sponsor -/
noncomputable def gemotref14_Sponsor.f (x0 : List UInt8) (x1 : List UInt8) : Option (Int) := (gemotref14_At.f x0 x1).bind fun y1 => cond (y1.2 != (0 : Int)) (some (0 : Int)) ((gemotref13_Members.f y1.1).bind fun y8 => (idxL y8 (0 : Int)).bind fun y20 => some y20)
set_option maxHeartbeats 4000000 in
theorem gemotref14_Sponsor_ok {ok : Nat → Prop} {w : World} {x0 : List UInt8} {x1 : List UInt8} {r : Int} (h : gemotref14_Sponsor.f x0 x1 = some r) :
    Calls Try.prog 55 #[.string (bs x0), .string (bs x1)] w fun e w' => ∃ v, e = .returned v ∧ (v = .int .i64 r ∧ Bel w.heap.size w w') := by
  have H : Eng.Own ok w w [] := Eng.Own.nil ok w
  unfold gemotref14_Sponsor.f at h
  refine enterN (args := [.string (bs x0), .string (bs x1)]) Try.func55 rfl Try.ntmps55 rfl rfl ?_
  refine nc_seq ?_
  refine nc ?_
  refine nc_seq ?_
  refine nc ?_
  obtain ⟨y1, hy2, h⟩ := bindS h
  refine call_rule (by kernel_rfl) (gemotref14_At_ok (ok := fun _ => False) hy2) fun v4 w3 ⟨hv5, hb6⟩ => ?_
  subst hv5
  replace H := H.call hb6
  refine nc_seq ?_
  refine nc_seq ?_
  refine nc ?_
  refine nc_cond rfl (fun hc7 => ?_) (fun hc7 => ?_)
  · replace h := condT hc7 h
    refine nc_seq ?_
    refine nc ?_
    refine nc ?_
    replace h := Option.some.inj h
    subst h
    exact ret_inA [.int .i64 0] ⟨_, rfl, ⟨rfl, H.frame⟩⟩
  · replace h := condF hc7 h
    refine nc ?_
    refine nc_seq ?_
    refine nc ?_
    obtain ⟨y8, hy9, h⟩ := bindS h
    refine call_rule (by kernel_rfl) (gemotref13_Members_ok (ok := fun _ => False) hy9) fun u14 w10 ⟨hu15, hb13⟩ => ?_
    replace H := H.callDats hb13 [dSl (tInt .i64) u14 y8] ⟨(rowOut_sl (rowOut_any hu15) hb13), trivial⟩
    obtain ⟨A16, c17, hA18, _⟩ := H.sl 0 rfl
    subst hA18
    obtain ⟨y20, hx21, h⟩ := bindS h
    obtain ⟨a22, cs23, rfl, hR24, H⟩ := H.elemI 0 rfl hx21
    obtain rfl : cs23 = [.int .i64 y20] := hR24
    refine idxA_rule (e := 3) 1 _ (by kernel_rfl) (by kernel_rfl) (idxL_some hx21).1 (idxL_some hx21).2.1 ?_
    refine own_loadD H 0 rfl 0 (by kernel_rfl) rfl ?_
    refine nc ?_
    replace h := Option.some.inj h
    subst h
    exact ret_inA [.int .i64 y20] ⟨_, rfl, ⟨rfl, H.frame⟩⟩
/-! gemot/gemotref14.Duties -/
noncomputable def gemotref14_Duties.k1 (x0 : List UInt8) (x1 : Int) (y1 : (List (List UInt8))) (v396 : Int) (v586 : List (List UInt8)) : Option (((List (List UInt8)) × Int) ⊕ (List (List UInt8))) := some (.inl (v586, (IntKind.i64.wrap (v396 + (1 : Int)))))
noncomputable def gemotref14_Duties.b2 (x0 : List UInt8) (x1 : Int) (y1 : (List (List UInt8))) (v392 : List (List UInt8)) (v396 : Int) : Option (((List (List UInt8)) × Int) ⊕ (List (List UInt8))) := cond (decide ((IntKind.i64.wrap (v396 + (1 : Int))) < (y1.length : Int))) ((idxL y1 v396).bind fun y592 => (gemotref14_Sponsor.f x0 y592).bind fun y598 => cond (y598 == x1) ((idxL y1 v396).bind fun y605 => roomM 16 (v392.length + 1) (gemotref14_Duties.k1 x0 x1 y1 v396 (v392 ++ [y605]))) (gemotref14_Duties.k1 x0 x1 y1 v396 v392)) (some (.inr v392))
noncomputable def gemotref14_Duties.k3 (v315 : List (List UInt8)) : Option ((List (List UInt8))) := some v315
noncomputable def gemotref14_Duties.f (x0 : List UInt8) (x1 : Int) : Option ((List (List UInt8))) := (gemotref14_Path.f x0 x1).bind fun y1 => (loopM (fun s552 : (List (List UInt8)) × Int => gemotref14_Duties.b2 x0 x1 y1 s552.1 s552.2) (([] : List (List UInt8)), (0 : Int))).bind (fun (o550 : (List (List UInt8))) => gemotref14_Duties.k3 o550)
set_option maxHeartbeats 4000000 in
theorem gemotref14_Duties_ok {ok : Nat → Prop} {w : World} {x0 : List UInt8} {x1 : Int} {r : (List (List UInt8))} (h : gemotref14_Duties.f x0 x1 = some r) :
    Calls Try.prog 57 #[.string (bs x0), .int .i64 x1] w fun e w' => ∃ v, e = .returned v ∧ (rowOut w w' ok tStr 9 v r ∧ Bel w.heap.size w w') := by
  have H : Eng.Own ok w w [] := Eng.Own.nil ok w
  unfold gemotref14_Duties.f at h
  refine enterN (args := [.string (bs x0), .int .i64 x1]) Try.func57 rfl Try.ntmps57 rfl rfl ?_
  refine nc_seq ?_
  refine nc ?_
  refine nc_seq ?_
  refine nc ?_
  refine nc_seq ?_
  refine nc ?_
  obtain ⟨y1, hy2, h⟩ := bindS h
  refine call_rule (by kernel_rfl) (gemotref14_Path_ok (ok := fun _ => False) hy2) fun u7 w3 ⟨hu8, hb6⟩ => ?_
  replace H := H.callDats hb6 [dSl tStr u7 y1] ⟨(rowOut_sl (rowOut_any hu8) hb6), trivial⟩
  obtain ⟨A9, c10, hA11, _⟩ := H.sl 0 rfl
  subst hA11
  refine nc_cut (fun e w319 => ∃ (A316 : Option Addr) (c317 : Nat) (cs318 : List Value) (v315 : List (List UInt8)), gemotref14_Duties.k3 v315 = some r ∧ e = [(5, .slice A316 v315.length c317)] ∧ Eng.Own ok w w319 [.dat (dRows tStr v315 cs318), .row (.slice A316 v315.length c317) 9 1 v315.length cs318]) ?_ ?_
  · skip
    refine nc_seq ?_
    refine nc ?_
    refine nc_block ?_
    replace H := H.nilRowD tStr 9
    obtain ⟨o542, hL543, hO544⟩ := bindS h
    obtain ⟨n545, hL543⟩ := loopS hL543
    refine nc ?_
    refine loop_ruleA (fun k e w549 => ∃ (A393 : Option Addr) (c394 : Nat) (cs395 : List Value) (v392 : List (List UInt8)) (v396 : Int), iterM (fun s552 : (List (List UInt8)) × Int => gemotref14_Duties.b2 x0 x1 y1 s552.1 s552.2) k (v392, v396) = some o542 ∧ e = [(0, .string (bs x0)), (1, .int .i64 x1), (5, .slice A393 v392.length c394), (6, .slice A9 y1.length c10), (7, .int .i64 v396)] ∧ Eng.Own ok w w549 [.dat (dRows tStr v392 cs395), .row (.slice A393 v392.length c394) 9 1 v392.length cs395, .dat (dSl tStr (.slice A9 y1.length c10) y1)]) ⟨none, 0, [], _, _, hL543, rfl, H.pickL [0, 1, 2] rfl⟩ ?_
    rintro k554 _ w553 ⟨A393, c394, cs395, v392, v396, hL543, rfl, H⟩
    obtain ⟨k548, rfl, q546, h, hq547⟩ := iterS hL543
    replace h : gemotref14_Duties.b2 x0 x1 y1 v392 v396 = some q546 := h
    unfold gemotref14_Duties.b2 at h
    refine nc_seq ?_
    refine nc_seq ?_
    refine nc ?_
    refine nc_cond rfl (fun hc555 => ?_) (fun hc555 => ?_)
    · replace h := condT hc555 h
      refine nc ?_
      refine nc_cut (fun e w590 => ∃ (A587 : Option Addr) (c588 : Nat) (cs589 : List Value) (v586 : List (List UInt8)), gemotref14_Duties.k1 x0 x1 y1 v396 v586 = some q546 ∧ e = [(0, .string (bs x0)), (1, .int .i64 x1), (5, .slice A587 v586.length c588), (6, .slice A9 y1.length c10), (7, .int .i64 v396)] ∧ Eng.Own ok w w590 [.dat (dRows tStr v586 cs589), .row (.slice A587 v586.length c588) 9 1 v586.length cs589, .dat (dSl tStr (.slice A9 y1.length c10) y1)]) ?_ ?_
      · skip
        refine nc_block ?_
        refine nc_seq ?_
        refine nc ?_
        obtain ⟨y592, hx593, h⟩ := bindS h
        obtain ⟨a594, cs595, rfl, hR596, H⟩ := H.elemI 2 rfl hx593
        obtain rfl : cs595 = [.string (bs y592)] := hR596
        refine idxA_rule (e := 9) 1 _ (by kernel_rfl) (by kernel_rfl) (idxL_some hx593).1 (idxL_some hx593).2.1 ?_
        refine own_loadD H 0 rfl 0 (by kernel_rfl) rfl ?_
        obtain ⟨y598, hy599, h⟩ := bindS h
        refine call_rule (by kernel_rfl) (gemotref14_Sponsor_ok (ok := fun _ => False) hy599) fun v601 w600 ⟨hv602, hb603⟩ => ?_
        subst hv602
        replace H := H.call hb603
        refine nc_cond rfl (fun hc604 => ?_) (fun hc604 => ?_)
        · replace h := condT hc604 h
          refine nc ?_
          obtain ⟨y605, hx606, h⟩ := bindS h
          obtain ⟨cs608, hR609, H⟩ := H.elemJ 3 rfl hx606
          obtain rfl : cs608 = [.string (bs y605)] := hR609
          refine idxA_rule (e := 9) 1 _ (by kernel_rfl) (by kernel_rfl) (idxL_some hx606).1 (idxL_some hx606).2.1 ?_
          refine own_loadD H 0 rfl 0 (by kernel_rfl) rfl ?_
          refine own_buildSlice (e := 9) (sz := 1) (z := .string ⟨#[]⟩) (cs := [.string (bs y605)]) H (by kernel_rfl) (by kernel_rfl) (by kernel_rfl) rfl rfl rfl rfl fun g612 w613 H => ?_
          obtain ⟨hr614, h⟩ := roomS h
          refine own_append1 (k := tStr) (z := .string ⟨#[]⟩) (x := y605) 16 H 3 2 rfl rfl rfl rfl (by kernel_rfl) (by kernel_rfl) rfl rfl hr614 rfl fun z615 cs616 w617 H => ?_
          obtain ⟨A618, c619, rfl, _, _⟩ := H.rowSl 3 rfl
          exact cut_inA ⟨A618, c619, cs616, _, h, rfl, H.pickL [2, 3, 4] rfl⟩
        · replace h := condF hc604 h
          refine nc ?_
          exact cut_inA ⟨A393, c394, cs395, _, h, rfl, H.pickL [1, 2, 3] rfl⟩
      · rintro _ w621 ⟨A587, c588, cs589, v586, h, rfl, H⟩
        unfold gemotref14_Duties.k1 at h
        refine nc ?_
        cases h
        exact again_inA ⟨A587, c588, cs589, _, _, hq547, rfl, H.pickL [0, 1, 2] rfl⟩
    · replace h := condF hc555 h
      refine nc ?_
      cases h
      replace hq547 : v392 = o542 := hq547
      subst hq547
      have h := hO544
      try dsimp only [Sum.elim_inl, Sum.elim_inr] at h
      exact cut_inA ⟨A393, c394, cs395, _, h, rfl, H.pickL [0, 1] rfl⟩
  · rintro _ w622 ⟨A316, c317, cs318, v315, h, rfl, H⟩
    unfold gemotref14_Duties.k3 at h
    refine nc_seq ?_
    refine nc ?_
    refine nc ?_
    replace h := Option.some.inj h
    subst h
    exact ret_inA [.slice A316 v315.length c317] ⟨_, rfl, ⟨H.outR 1 0 rfl rfl rfl, H.frame⟩⟩
/-! gemot/gemotlaw14.same -/
noncomputable def gemotlaw14_same.b1 (x0 : List (List UInt8)) (x1 : List (List UInt8)) (v104 : Int) : Option (Int ⊕ (Unit ⊕ Bool)) := cond (decide (v104 < (x0.length : Int))) ((idxL x0 v104).bind fun y150 => (idxL x1 v104).bind fun y156 => cond (!(strEq y150 y156)) (some (.inr (Sum.inr false))) (some (.inl (IntKind.i64.wrap (v104 + (1 : Int)))))) (some (.inr (Sum.inl ())))
noncomputable def gemotlaw14_same.k2 : Option (Bool) := some true
noncomputable def gemotlaw14_same.f (x0 : List (List UInt8)) (x1 : List (List UInt8)) : Option (Bool) := cond ((x0.length : Int) != (x1.length : Int)) (some false) ((loopM (fun s146 : Int => gemotlaw14_same.b1 x0 x1 s146) (0 : Int)).bind (Sum.elim (fun (o144 : Unit) => gemotlaw14_same.k2) (fun (o145 : Bool) => some o145)))
set_option maxHeartbeats 4000000 in
theorem gemotlaw14_same_ok {ok : Nat → Prop} {w : World} {u1 u6 : Value} {x0 : List (List UInt8)} {x1 : List (List UInt8)} {r : Bool} (hu2 : slR tStr w ok u1 x0) (hu7 : slR tStr w ok u6 x1) (h : gemotlaw14_same.f x0 x1 = some r) :
    Calls Try.prog 45 #[u1, u6] w fun e w' => ∃ v, e = .returned v ∧ (v = .bool r ∧ Bel w.heap.size w w') := by
  have H : Eng.Own ok w w [] := Eng.Own.nil ok w
  obtain ⟨A3, c4, rfl, H⟩ := H.arg rfl hu2
  obtain ⟨A8, c9, rfl, H⟩ := H.arg rfl hu7
  unfold gemotlaw14_same.f at h
  refine enterN (args := [.slice A3 x0.length c4, .slice A8 x1.length c9]) Try.func45 rfl Try.ntmps45 rfl rfl ?_
  refine nc_seq ?_
  refine nc ?_
  refine nc_seq ?_
  refine nc_seq ?_
  refine nc ?_
  refine nc_cond rfl (fun hc11 => ?_) (fun hc11 => ?_)
  · replace h := condT hc11 h
    refine nc_seq ?_
    refine nc ?_
    refine nc ?_
    replace h := Option.some.inj h
    subst h
    exact ret_inA [.bool false] ⟨_, rfl, ⟨rfl, H.frame⟩⟩
  · replace h := condF hc11 h
    refine nc ?_
    refine nc_cut (fun e w87 => gemotlaw14_same.k2 = some r ∧ e = [] ∧ Eng.Own ok w w87 []) ?_ ?_
    · skip
      refine nc_seq ?_
      refine nc ?_
      refine nc_block ?_
      obtain ⟨o136, hL137, hO138⟩ := bindS h
      obtain ⟨n139, hL137⟩ := loopS hL137
      refine nc ?_
      refine loop_ruleA (fun k e w143 => ∃ (v104 : Int), iterM (fun s146 : Int => gemotlaw14_same.b1 x0 x1 s146) k v104 = some o136 ∧ e = [(0, .slice A3 x0.length c4), (1, .slice A8 x1.length c9), (5, .int .i64 v104)] ∧ Eng.Own ok w w143 [.dat (dSl tStr (.slice A3 x0.length c4) x0), .dat (dSl tStr (.slice A8 x1.length c9) x1)]) ⟨_, hL137, rfl, H.pickL [1, 0] rfl⟩ ?_
      rintro k148 _ w147 ⟨v104, hL137, rfl, H⟩
      obtain ⟨k142, rfl, q140, h, hq141⟩ := iterS hL137
      replace h : gemotlaw14_same.b1 x0 x1 v104 = some q140 := h
      unfold gemotlaw14_same.b1 at h
      refine nc_seq ?_
      refine nc_seq ?_
      refine nc ?_
      refine nc_cond rfl (fun hc149 => ?_) (fun hc149 => ?_)
      · replace h := condT hc149 h
        refine nc ?_
        refine nc_seq ?_
        refine nc_block ?_
        refine nc_seq ?_
        obtain ⟨y150, hx151, h⟩ := bindS h
        obtain ⟨a152, cs153, rfl, hR154, H⟩ := H.elemI 0 rfl hx151
        obtain rfl : cs153 = [.string (bs y150)] := hR154
        obtain ⟨y156, hx157, h⟩ := bindS h
        obtain ⟨a158, cs159, rfl, hR160, H⟩ := H.elemI 2 rfl hx157
        obtain rfl : cs159 = [.string (bs y156)] := hR160
        refine nc ?_
        refine draw_rule [] (by kernel_rfl) (by kernel_rfl) H ?_
        refine c_idxA (e := 9) 1 _ (by kernel_rfl) (by kernel_rfl) (idxL_some hx151).1 (idxL_some hx151).2.1 ?_
        refine c_loadD 1 rfl 0 (by kernel_rfl) rfl ?_
        refine c_idxA (e := 9) 1 _ (by kernel_rfl) (by kernel_rfl) (idxL_some hx157).1 (idxL_some hx157).2.1 ?_
        refine c_loadD 0 rfl 0 (by kernel_rfl) rfl ?_
        intro w162 H
        refine nc_cond rfl (fun hc163 => ?_) (fun hc163 => ?_)
        · replace h := condT hc163 h
          refine nc_seq ?_
          refine nc ?_
          refine nc ?_
          cases h
          replace hq141 : (Sum.inr false) = o136 := hq141
          subst hq141
          have h := hO138
          try dsimp only [Sum.elim_inl, Sum.elim_inr] at h
          replace h := Option.some.inj h
          subst h
          exact ret_inA [.bool false] ⟨_, rfl, ⟨rfl, H.frame⟩⟩
        · replace h := condF hc163 h
          refine nc ?_
          refine nc ?_
          cases h
          exact again_inA ⟨_, hq141, rfl, H.pickL [2, 3] rfl⟩
      · replace h := condF hc149 h
        refine nc ?_
        cases h
        replace hq141 : (Sum.inl ()) = o136 := hq141
        subst hq141
        have h := hO138
        try dsimp only [Sum.elim_inl, Sum.elim_inr] at h
        exact cut_inA ⟨h, rfl, H.pickL [] rfl⟩
    · rintro _ w164 ⟨h, rfl, H⟩
      unfold gemotlaw14_same.k2 at h
      refine nc_seq ?_
      refine nc ?_
      refine nc ?_
      replace h := Option.some.inj h
      subst h
      exact ret_inA [.bool true] ⟨_, rfl, ⟨rfl, H.frame⟩⟩
/-! gemot/gemotlaw14.shown -/
noncomputable def gemotlaw14_shown.k1 (v69 : Bool) : Option (Bool) := some v69
noncomputable def gemotlaw14_shown.f : Option (Bool) := (place_Path.f [40, 40, 49, 50, 41, 51, 41] (2 : Int)).bind fun y72 => (gemotlaw14_same.f y72 ([[108, 114], [108], ([] : List UInt8)] : List (List UInt8))).bind fun y88 => cond y88 ((place_Co.f [40, 40, 49, 50, 41, 51, 41] (2 : Int)).bind fun y95 => (gemotlaw14_same.f y95 ([[108, 108], [114]] : List (List UInt8))).bind fun y111 => cond y111 ((place_Duties.f [40, 40, 49, 50, 41, 51, 41] (1 : Int)).bind fun y118 => (gemotlaw14_same.f y118 ([[108, 108], [108]] : List (List UInt8))).bind fun y134 => gemotlaw14_shown.k1 (cond (cond y88 y111 false) y134 false)) (gemotlaw14_shown.k1 (cond (cond y88 y111 false) false false))) (gemotlaw14_shown.k1 (cond (cond y88 false false) false false))
set_option maxHeartbeats 4000000 in
theorem gemotlaw14_shown_ok {ok : Nat → Prop} {w : World} {r : Bool} (h : gemotlaw14_shown.f = some r) :
    Calls Try.prog 42 #[] w fun e w' => ∃ v, e = .returned v ∧ (v = .bool r ∧ Bel w.heap.size w w') := by
  have H : Eng.Own ok w w [] := Eng.Own.nil ok w
  unfold gemotlaw14_shown.f at h
  refine enterN (args := []) Try.func42 rfl Try.ntmps42 rfl rfl ?_
  refine nc_seq ?_
  refine nc ?_
  refine nc_cut (fun e w70 => ∃ (v69 : Bool), gemotlaw14_shown.k1 v69 = some r ∧ e = [(0, .bool v69)] ∧ Eng.Own ok w w70 []) ?_ ?_
  · skip
    refine nc ?_
    obtain ⟨y72, hy73, h⟩ := bindS h
    refine call_rule (by kernel_rfl) (place_Path_ok (ok := fun _ => False) hy73) fun u78 w74 ⟨hu79, hb77⟩ => ?_
    replace H := H.callDats hb77 [dSl tStr u78 y72] ⟨(slR_any hu79), trivial⟩
    obtain ⟨A80, c81, hA82, _⟩ := H.sl 0 rfl
    subst hA82
    refine own_buildSlice (e := 9) (sz := 1) (z := .string ⟨#[]⟩) (cs := [.string (bs [108, 114]), .string (bs [108]), .string (bs ([] : List UInt8))]) H (by kernel_rfl) (by kernel_rfl) (by kernel_rfl) rfl rfl rfl rfl fun g85 w86 H => ?_
    replace H := H.blkSl (k := tStr) [[108, 114], [108], ([] : List UInt8)] 3 rfl rfl (by decide) ⟨_, _, rfl, rfl, ⟨_, _, rfl, rfl, ⟨_, _, rfl, rfl, rfl⟩⟩⟩
    obtain ⟨y88, hy89, h⟩ := bindS h
    refine call_rule (by kernel_rfl) (gemotlaw14_same_ok (H.dat 1 rfl) (H.dat 0 rfl) hy89) fun v91 w90 ⟨hv92, hb93⟩ => ?_
    subst hv92
    replace H := H.call hb93
    rcases Bool.eq_false_or_eq_true y88 with hg94 | hg94
    · replace h := condT hg94 h
      obtain ⟨y95, hy96, h⟩ := bindS h
      refine call_yes (gT1 hg94 rfl) (by kernel_rfl) (place_Co_ok (ok := fun _ => False) hy96) fun u101 w97 ⟨hu102, hb100⟩ => ?_
      replace H := H.callDats hb100 [dSl tStr u101 y95] ⟨(rowOut_sl (rowOut_any hu102) hb100), trivial⟩
      obtain ⟨A103, c104, hA105, _⟩ := H.sl 0 rfl
      subst hA105
      refine gBS (gT1 hg94 rfl) ?_
      refine own_buildSlice (e := 9) (sz := 1) (z := .string ⟨#[]⟩) (cs := [.string (bs [108, 108]), .string (bs [114])]) H (by kernel_rfl) (by kernel_rfl) (by kernel_rfl) rfl rfl rfl rfl fun g108 w109 H => ?_
      replace H := H.blkSl (k := tStr) [[108, 108], [114]] 2 rfl rfl (by decide) ⟨_, _, rfl, rfl, ⟨_, _, rfl, rfl, rfl⟩⟩
      obtain ⟨y111, hy112, h⟩ := bindS h
      refine call_yes (gT1 hg94 rfl) (by kernel_rfl) (gemotlaw14_same_ok (H.dat 1 rfl) (H.dat 0 rfl) hy112) fun v114 w113 ⟨hv115, hb116⟩ => ?_
      subst hv115
      replace H := H.call hb116
      rcases Bool.eq_false_or_eq_true y111 with hg117 | hg117
      · replace h := condT hg117 h
        obtain ⟨y118, hy119, h⟩ := bindS h
        refine call_yes (gT1 ((pickT hg94).trans hg117) rfl) (by kernel_rfl) (place_Duties_ok (ok := fun _ => False) hy119) fun u124 w120 ⟨hu125, hb123⟩ => ?_
        replace H := H.callDats hb123 [dSl tStr u124 y118] ⟨(rowOut_sl (rowOut_any hu125) hb123), trivial⟩
        obtain ⟨A126, c127, hA128, _⟩ := H.sl 0 rfl
        subst hA128
        refine gBS (gT1 ((pickT hg94).trans hg117) rfl) ?_
        refine own_buildSlice (e := 9) (sz := 1) (z := .string ⟨#[]⟩) (cs := [.string (bs [108, 108]), .string (bs [108])]) H (by kernel_rfl) (by kernel_rfl) (by kernel_rfl) rfl rfl rfl rfl fun g131 w132 H => ?_
        replace H := H.blkSl (k := tStr) [[108, 108], [108]] 2 rfl rfl (by decide) ⟨_, _, rfl, rfl, ⟨_, _, rfl, rfl, rfl⟩⟩
        obtain ⟨y134, hy135, h⟩ := bindS h
        refine call_yes (gT1 ((pickT hg94).trans hg117) rfl) (by kernel_rfl) (gemotlaw14_same_ok (H.dat 1 rfl) (H.dat 0 rfl) hy135) fun v137 w136 ⟨hv138, hb139⟩ => ?_
        subst hv138
        replace H := H.call hb139
        exact cut_inA ⟨_, h, rfl, H.pickL [] rfl⟩
      · replace h := condF hg117 h
        refine call_skip (.slice none 0 0) (gF1 ((pickT hg94).trans hg117)) ?_
        refine skipBS (.slice none 0 0) (gF1 ((pickT hg94).trans hg117)) ?_
        refine call_skip (.bool false) (gF1 ((pickT hg94).trans hg117)) ?_
        exact cut_inA ⟨_, h, rfl, H.pickL [] rfl⟩
    · replace h := condF hg94 h
      refine call_skip (.slice none 0 0) (gF1 hg94) ?_
      refine skipBS (.slice none 0 0) (gF1 hg94) ?_
      refine call_skip (.bool false) (gF1 hg94) ?_
      refine call_skip (.slice none 0 0) (gF1 (pickF hg94)) ?_
      refine skipBS (.slice none 0 0) (gF1 (pickF hg94)) ?_
      refine call_skip (.bool false) (gF1 (pickF hg94)) ?_
      exact cut_inA ⟨_, h, rfl, H.pickL [] rfl⟩
  · rintro _ w140 ⟨v69, h, rfl, H⟩
    unfold gemotlaw14_shown.k1 at h
    refine nc ?_
    replace h := Option.some.inj h
    subst h
    exact ret_inA [.bool v69] ⟨_, rfl, ⟨rfl, H.frame⟩⟩
/-! gemot/gemotlaw14.PlaceNodes -/
noncomputable def gemotlaw14_PlaceNodes.k1 (v169 : Bool) : Option (Bool) := some v169
noncomputable def gemotlaw14_PlaceNodes.f (x0 : List UInt8) (x1 : List UInt8) (x2 : Int) : Option (Bool) := (gemotlaw14_shown.f).bind fun y1 => cond (cond (cond (!y1) true (decide ((x0.length : Int) > (90 : Int)))) true (decide ((x1.length : Int) > (90 : Int)))) (some y1) ((place_At.f x0 x1).bind fun y8 => (gemotref14_At.f x0 x1).bind fun y14 => (place_Nodes.f x0).bind fun y172 => (gemotref14_Nodes.f x0).bind fun y184 => (gemotlaw14_same.f y172 y184).bind fun y196 => cond (cond (cond y196 (strEq y8.1 y14.1) false) (y8.2 == y14.2) false) ((place_Path.f x0 x2).bind fun y203 => (gemotref14_Path.f x0 x2).bind fun y215 => (gemotlaw14_same.f y203 y215).bind fun y227 => cond y227 ((place_Beside.f x1).bind fun y234 => (gemotref14_Beside.f x1).bind fun y240 => cond (strEq y234 y240) ((place_Co.f x0 x2).bind fun y247 => (gemotref14_Co.f x0 x2).bind fun y259 => (gemotlaw14_same.f y247 y259).bind fun y271 => cond y271 ((place_Sponsor.f x0 x1).bind fun y278 => (gemotref14_Sponsor.f x0 x1).bind fun y284 => cond (y278 == y284) ((place_Duties.f x0 x2).bind fun y291 => (gemotref14_Duties.f x0 x2).bind fun y303 => (gemotlaw14_same.f y291 y303).bind fun y315 => gemotlaw14_PlaceNodes.k1 (cond (cond (cond (cond (cond (cond (cond y196 (strEq y8.1 y14.1) false) (y8.2 == y14.2) false) y227 false) (strEq y234 y240) false) y271 false) (y278 == y284) false) y315 false)) (gemotlaw14_PlaceNodes.k1 (cond (cond (cond (cond (cond (cond (cond y196 (strEq y8.1 y14.1) false) (y8.2 == y14.2) false) y227 false) (strEq y234 y240) false) y271 false) (y278 == y284) false) false false))) (gemotlaw14_PlaceNodes.k1 (cond (cond (cond (cond (cond (cond (cond y196 (strEq y8.1 y14.1) false) (y8.2 == y14.2) false) y227 false) (strEq y234 y240) false) y271 false) ((0 : Int) == (0 : Int)) false) false false))) (gemotlaw14_PlaceNodes.k1 (cond (cond (cond (cond (cond (cond (cond y196 (strEq y8.1 y14.1) false) (y8.2 == y14.2) false) y227 false) (strEq y234 y240) false) false false) ((0 : Int) == (0 : Int)) false) false false))) (gemotlaw14_PlaceNodes.k1 (cond (cond (cond (cond (cond (cond (cond y196 (strEq y8.1 y14.1) false) (y8.2 == y14.2) false) y227 false) (strEq ([] : List UInt8) ([] : List UInt8)) false) false false) ((0 : Int) == (0 : Int)) false) false false))) (gemotlaw14_PlaceNodes.k1 (cond (cond (cond (cond (cond (cond (cond y196 (strEq y8.1 y14.1) false) (y8.2 == y14.2) false) false false) (strEq ([] : List UInt8) ([] : List UInt8)) false) false false) ((0 : Int) == (0 : Int)) false) false false)))
set_option maxHeartbeats 4000000 in
theorem gemotlaw14_PlaceNodes_ok {ok : Nat → Prop} {w : World} {x0 : List UInt8} {x1 : List UInt8} {x2 : Int} {r : Bool} (h : gemotlaw14_PlaceNodes.f x0 x1 x2 = some r) :
    Calls Try.prog 11 #[.string (bs x0), .string (bs x1), .int .i64 x2] w fun e w' => ∃ v, e = .returned v ∧ (v = .bool r ∧ Bel w.heap.size w w') := by
  have H : Eng.Own ok w w [] := Eng.Own.nil ok w
  unfold gemotlaw14_PlaceNodes.f at h
  refine enterN (args := [.string (bs x0), .string (bs x1), .int .i64 x2]) Try.func11 rfl Try.ntmps11 rfl rfl ?_
  refine nc_seq ?_
  refine nc ?_
  refine nc_seq ?_
  refine nc ?_
  obtain ⟨y1, hy2, h⟩ := bindS h
  refine call_rule (by kernel_rfl) (gemotlaw14_shown_ok (ok := fun _ => False) hy2) fun v4 w3 ⟨hv5, hb6⟩ => ?_
  subst hv5
  replace H := H.call hb6
  refine nc_seq ?_
  refine nc_seq ?_
  refine nc ?_
  refine nc_cond rfl (fun hc7 => ?_) (fun hc7 => ?_)
  · replace h := condT hc7 h
    refine nc_seq ?_
    refine nc ?_
    refine nc ?_
    replace h := Option.some.inj h
    subst h
    exact ret_inA [.bool y1] ⟨_, rfl, ⟨rfl, H.frame⟩⟩
  · replace h := condF hc7 h
    refine nc ?_
    refine nc_seq ?_
    refine nc ?_
    refine nc_seq ?_
    refine nc ?_
    obtain ⟨y8, hy9, h⟩ := bindS h
    refine call_rule (by kernel_rfl) (place_At_ok hy9) fun v11 w10 ⟨hv12, hb13⟩ => ?_
    subst hv12
    replace H := H.call hb13
    refine nc_seq ?_
    refine nc ?_
    obtain ⟨y14, hy15, h⟩ := bindS h
    refine call_rule (by kernel_rfl) (gemotref14_At_ok (ok := fun _ => False) hy15) fun v17 w16 ⟨hv18, hb19⟩ => ?_
    subst hv18
    replace H := H.call hb19
    refine nc_cut (fun e w170 => ∃ (v169 : Bool), gemotlaw14_PlaceNodes.k1 v169 = some r ∧ e = [(6, .bool v169)] ∧ Eng.Own ok w w170 []) ?_ ?_
    · skip
      refine nc ?_
      obtain ⟨y172, hy173, h⟩ := bindS h
      refine call_rule (by kernel_rfl) (place_Nodes_ok (ok := fun _ => False) hy173) fun u178 w174 ⟨hu179, hb177⟩ => ?_
      replace H := H.callDats hb177 [dSl tStr u178 y172] ⟨(slR_any hu179), trivial⟩
      obtain ⟨A180, c181, hA182, _⟩ := H.sl 0 rfl
      subst hA182
      obtain ⟨y184, hy185, h⟩ := bindS h
      refine call_rule (by kernel_rfl) (gemotref14_Nodes_ok (ok := fun _ => False) hy185) fun u190 w186 ⟨hu191, hb189⟩ => ?_
      replace H := H.callDats hb189 [dSl tStr u190 y184] ⟨(rowOut_sl (rowOut_any hu191) hb189), trivial⟩
      obtain ⟨A192, c193, hA194, _⟩ := H.sl 0 rfl
      subst hA194
      obtain ⟨y196, hy197, h⟩ := bindS h
      refine call_rule (by kernel_rfl) (gemotlaw14_same_ok (H.dat 1 rfl) (H.dat 0 rfl) hy197) fun v199 w198 ⟨hv200, hb201⟩ => ?_
      subst hv200
      replace H := H.call hb201
      rcases Bool.eq_false_or_eq_true (cond (cond y196 (strEq y8.1 y14.1) false) (y8.2 == y14.2) false) with hg202 | hg202
      · replace h := condT hg202 h
        obtain ⟨y203, hy204, h⟩ := bindS h
        refine call_yes (gT1 hg202 rfl) (by kernel_rfl) (place_Path_ok (ok := fun _ => False) hy204) fun u209 w205 ⟨hu210, hb208⟩ => ?_
        replace H := H.callDats hb208 [dSl tStr u209 y203] ⟨(slR_any hu210), trivial⟩
        obtain ⟨A211, c212, hA213, _⟩ := H.sl 0 rfl
        subst hA213
        obtain ⟨y215, hy216, h⟩ := bindS h
        refine call_yes (gT1 hg202 rfl) (by kernel_rfl) (gemotref14_Path_ok (ok := fun _ => False) hy216) fun u221 w217 ⟨hu222, hb220⟩ => ?_
        replace H := H.callDats hb220 [dSl tStr u221 y215] ⟨(rowOut_sl (rowOut_any hu222) hb220), trivial⟩
        obtain ⟨A223, c224, hA225, _⟩ := H.sl 0 rfl
        subst hA225
        obtain ⟨y227, hy228, h⟩ := bindS h
        refine call_yes (gT1 hg202 rfl) (by kernel_rfl) (gemotlaw14_same_ok (H.dat 1 rfl) (H.dat 0 rfl) hy228) fun v230 w229 ⟨hv231, hb232⟩ => ?_
        subst hv231
        replace H := H.call hb232
        rcases Bool.eq_false_or_eq_true y227 with hg233 | hg233
        · replace h := condT hg233 h
          obtain ⟨y234, hy235, h⟩ := bindS h
          refine call_yes (gT1 ((pickT hg202).trans hg233) rfl) (by kernel_rfl) (place_Beside_ok (ok := fun _ => False) hy235) fun v237 w236 ⟨hv238, hb239⟩ => ?_
          subst hv238
          replace H := H.call hb239
          obtain ⟨y240, hy241, h⟩ := bindS h
          refine call_yes (gT1 ((pickT hg202).trans hg233) rfl) (by kernel_rfl) (gemotref14_Beside_ok (ok := fun _ => False) hy241) fun v243 w242 ⟨hv244, hb245⟩ => ?_
          subst hv244
          replace H := H.call hb245
          rcases Bool.eq_false_or_eq_true (strEq y234 y240) with hg246 | hg246
          · replace h := condT hg246 h
            obtain ⟨y247, hy248, h⟩ := bindS h
            refine call_yes (gT1 ((pickT ((pickT hg202).trans hg233)).trans hg246) rfl) (by kernel_rfl) (place_Co_ok (ok := fun _ => False) hy248) fun u253 w249 ⟨hu254, hb252⟩ => ?_
            replace H := H.callDats hb252 [dSl tStr u253 y247] ⟨(rowOut_sl (rowOut_any hu254) hb252), trivial⟩
            obtain ⟨A255, c256, hA257, _⟩ := H.sl 0 rfl
            subst hA257
            obtain ⟨y259, hy260, h⟩ := bindS h
            refine call_yes (gT1 ((pickT ((pickT hg202).trans hg233)).trans hg246) rfl) (by kernel_rfl) (gemotref14_Co_ok (ok := fun _ => False) hy260) fun u265 w261 ⟨hu266, hb264⟩ => ?_
            replace H := H.callDats hb264 [dSl tStr u265 y259] ⟨(rowOut_sl (rowOut_any hu266) hb264), trivial⟩
            obtain ⟨A267, c268, hA269, _⟩ := H.sl 0 rfl
            subst hA269
            obtain ⟨y271, hy272, h⟩ := bindS h
            refine call_yes (gT1 ((pickT ((pickT hg202).trans hg233)).trans hg246) rfl) (by kernel_rfl) (gemotlaw14_same_ok (H.dat 1 rfl) (H.dat 0 rfl) hy272) fun v274 w273 ⟨hv275, hb276⟩ => ?_
            subst hv275
            replace H := H.call hb276
            rcases Bool.eq_false_or_eq_true y271 with hg277 | hg277
            · replace h := condT hg277 h
              obtain ⟨y278, hy279, h⟩ := bindS h
              refine call_yes (gT1 ((pickT ((pickT ((pickT hg202).trans hg233)).trans hg246)).trans hg277) rfl) (by kernel_rfl) (place_Sponsor_ok (ok := fun _ => False) hy279) fun v281 w280 ⟨hv282, hb283⟩ => ?_
              subst hv282
              replace H := H.call hb283
              obtain ⟨y284, hy285, h⟩ := bindS h
              refine call_yes (gT1 ((pickT ((pickT ((pickT hg202).trans hg233)).trans hg246)).trans hg277) rfl) (by kernel_rfl) (gemotref14_Sponsor_ok (ok := fun _ => False) hy285) fun v287 w286 ⟨hv288, hb289⟩ => ?_
              subst hv288
              replace H := H.call hb289
              rcases Bool.eq_false_or_eq_true (y278 == y284) with hg290 | hg290
              · replace h := condT hg290 h
                obtain ⟨y291, hy292, h⟩ := bindS h
                refine call_yes (gT1 ((pickT ((pickT ((pickT ((pickT hg202).trans hg233)).trans hg246)).trans hg277)).trans hg290) rfl) (by kernel_rfl) (place_Duties_ok (ok := fun _ => False) hy292) fun u297 w293 ⟨hu298, hb296⟩ => ?_
                replace H := H.callDats hb296 [dSl tStr u297 y291] ⟨(rowOut_sl (rowOut_any hu298) hb296), trivial⟩
                obtain ⟨A299, c300, hA301, _⟩ := H.sl 0 rfl
                subst hA301
                obtain ⟨y303, hy304, h⟩ := bindS h
                refine call_yes (gT1 ((pickT ((pickT ((pickT ((pickT hg202).trans hg233)).trans hg246)).trans hg277)).trans hg290) rfl) (by kernel_rfl) (gemotref14_Duties_ok (ok := fun _ => False) hy304) fun u309 w305 ⟨hu310, hb308⟩ => ?_
                replace H := H.callDats hb308 [dSl tStr u309 y303] ⟨(rowOut_sl (rowOut_any hu310) hb308), trivial⟩
                obtain ⟨A311, c312, hA313, _⟩ := H.sl 0 rfl
                subst hA313
                obtain ⟨y315, hy316, h⟩ := bindS h
                refine call_yes (gT1 ((pickT ((pickT ((pickT ((pickT hg202).trans hg233)).trans hg246)).trans hg277)).trans hg290) rfl) (by kernel_rfl) (gemotlaw14_same_ok (H.dat 1 rfl) (H.dat 0 rfl) hy316) fun v318 w317 ⟨hv319, hb320⟩ => ?_
                subst hv319
                replace H := H.call hb320
                exact cut_inA ⟨_, h, rfl, H.pickL [] rfl⟩
              · replace h := condF hg290 h
                refine call_skip (.slice none 0 0) (gF1 ((pickT ((pickT ((pickT ((pickT hg202).trans hg233)).trans hg246)).trans hg277)).trans hg290)) ?_
                refine call_skip (.slice none 0 0) (gF1 ((pickT ((pickT ((pickT ((pickT hg202).trans hg233)).trans hg246)).trans hg277)).trans hg290)) ?_
                refine call_skip (.bool false) (gF1 ((pickT ((pickT ((pickT ((pickT hg202).trans hg233)).trans hg246)).trans hg277)).trans hg290)) ?_
                exact cut_inA ⟨_, h, rfl, H.pickL [] rfl⟩
            · replace h := condF hg277 h
              refine call_skip (.int .i64 0) (gF1 ((pickT ((pickT ((pickT hg202).trans hg233)).trans hg246)).trans hg277)) ?_
              refine call_skip (.int .i64 0) (gF1 ((pickT ((pickT ((pickT hg202).trans hg233)).trans hg246)).trans hg277)) ?_
              refine call_skip (.slice none 0 0) (gF1 (pickF ((pickT ((pickT ((pickT hg202).trans hg233)).trans hg246)).trans hg277))) ?_
              refine call_skip (.slice none 0 0) (gF1 (pickF ((pickT ((pickT ((pickT hg202).trans hg233)).trans hg246)).trans hg277))) ?_
              refine call_skip (.bool false) (gF1 (pickF ((pickT ((pickT ((pickT hg202).trans hg233)).trans hg246)).trans hg277))) ?_
              exact cut_inA ⟨_, h, rfl, H.pickL [] rfl⟩
          · replace h := condF hg246 h
            refine call_skip (.slice none 0 0) (gF1 ((pickT ((pickT hg202).trans hg233)).trans hg246)) ?_
            refine call_skip (.slice none 0 0) (gF1 ((pickT ((pickT hg202).trans hg233)).trans hg246)) ?_
            refine call_skip (.bool false) (gF1 ((pickT ((pickT hg202).trans hg233)).trans hg246)) ?_
            refine call_skip (.int .i64 0) (gF1 (pickF ((pickT ((pickT hg202).trans hg233)).trans hg246))) ?_
            refine call_skip (.int .i64 0) (gF1 (pickF ((pickT ((pickT hg202).trans hg233)).trans hg246))) ?_
            refine call_skip (.slice none 0 0) (gF1 (pickF (pickF ((pickT ((pickT hg202).trans hg233)).trans hg246)))) ?_
            refine call_skip (.slice none 0 0) (gF1 (pickF (pickF ((pickT ((pickT hg202).trans hg233)).trans hg246)))) ?_
            refine call_skip (.bool false) (gF1 (pickF (pickF ((pickT ((pickT hg202).trans hg233)).trans hg246)))) ?_
            exact cut_inA ⟨_, h, rfl, H.pickL [] rfl⟩
        · replace h := condF hg233 h
          refine call_skip (.string (bs ([] : List UInt8))) (gF1 ((pickT hg202).trans hg233)) ?_
          refine call_skip (.string (bs ([] : List UInt8))) (gF1 ((pickT hg202).trans hg233)) ?_
          refine call_skip (.slice none 0 0) (gF1 (pickF ((pickT hg202).trans hg233))) ?_
          refine call_skip (.slice none 0 0) (gF1 (pickF ((pickT hg202).trans hg233))) ?_
          refine call_skip (.bool false) (gF1 (pickF ((pickT hg202).trans hg233))) ?_
          refine call_skip (.int .i64 0) (gF1 (pickF (pickF ((pickT hg202).trans hg233)))) ?_
          refine call_skip (.int .i64 0) (gF1 (pickF (pickF ((pickT hg202).trans hg233)))) ?_
          refine call_skip (.slice none 0 0) (gF1 (pickF (pickF (pickF ((pickT hg202).trans hg233))))) ?_
          refine call_skip (.slice none 0 0) (gF1 (pickF (pickF (pickF ((pickT hg202).trans hg233))))) ?_
          refine call_skip (.bool false) (gF1 (pickF (pickF (pickF ((pickT hg202).trans hg233))))) ?_
          exact cut_inA ⟨_, h, rfl, H.pickL [] rfl⟩
      · replace h := condF hg202 h
        refine call_skip (.slice none 0 0) (gF1 hg202) ?_
        refine call_skip (.slice none 0 0) (gF1 hg202) ?_
        refine call_skip (.bool false) (gF1 hg202) ?_
        refine call_skip (.string (bs ([] : List UInt8))) (gF1 (pickF hg202)) ?_
        refine call_skip (.string (bs ([] : List UInt8))) (gF1 (pickF hg202)) ?_
        refine call_skip (.slice none 0 0) (gF1 (pickF (pickF hg202))) ?_
        refine call_skip (.slice none 0 0) (gF1 (pickF (pickF hg202))) ?_
        refine call_skip (.bool false) (gF1 (pickF (pickF hg202))) ?_
        refine call_skip (.int .i64 0) (gF1 (pickF (pickF (pickF hg202)))) ?_
        refine call_skip (.int .i64 0) (gF1 (pickF (pickF (pickF hg202)))) ?_
        refine call_skip (.slice none 0 0) (gF1 (pickF (pickF (pickF (pickF hg202))))) ?_
        refine call_skip (.slice none 0 0) (gF1 (pickF (pickF (pickF (pickF hg202))))) ?_
        refine call_skip (.bool false) (gF1 (pickF (pickF (pickF (pickF hg202))))) ?_
        exact cut_inA ⟨_, h, rfl, H.pickL [] rfl⟩
    · rintro _ w321 ⟨v169, h, rfl, H⟩
      unfold gemotlaw14_PlaceNodes.k1 at h
      refine nc ?_
      replace h := Option.some.inj h
      subst h
      exact ret_inA [.bool v169] ⟨_, rfl, ⟨rfl, H.frame⟩⟩
end Go.Proofs.Ytgomlcfoifkdiaa.G
