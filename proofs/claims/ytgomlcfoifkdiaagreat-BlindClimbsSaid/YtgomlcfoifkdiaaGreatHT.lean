/- Walks, printed by a program of this proof's own. -/
import Derived.Test.YtgomlcfoifkdiaaGreatHQ
import Derived.Test.YtgomlcfoifkdiaaGreatPathP
import Derived.KernelRfl
namespace Go.Proofs.YtgomlcfoifkdiaaGreat.G
open Go.RowKit Go.Eng Go.Proofs
set_option linter.unusedVariables false
set_option maxRecDepth 20000
/-! gemot/place.Beside -/
noncomputable def place_Beside.f (x0 : List UInt8) : Option ((List UInt8)) := cond (strEq x0 ([] : List UInt8)) (some ([] : List UInt8)) ((slcM x0 (0 : Int) (IntKind.i64.wrap ((x0.length : Int) - (1 : Int)))).bind fun y2 => (idxS x0 (IntKind.i64.wrap ((x0.length : Int) - (1 : Int)))).bind fun y4 => cond (y4 == (108 : Int)) (roomM 1 (y2.length + [114].length) (some (y2 ++ [114]))) (roomM 1 (y2.length + [108].length) (some (y2 ++ [108]))))
set_option maxHeartbeats 4000000 in
theorem place_Beside_ok {ok : Nat → Prop} {w : World} {x0 : List UInt8} {r : (List UInt8)} (h : place_Beside.f x0 = some r) :
    Calls Tryz.prog 56 #[.string (bs x0)] w fun e w' => ∃ v, e = .returned v ∧ (v = .string (bs r) ∧ Bel w.heap.size w w') := by
  have H : Eng.Own ok w w [] := Eng.Own.nil ok w
  unfold place_Beside.f at h
  refine enterN (args := [.string (bs x0)]) Tryz.func56 rfl Tryz.ntmps56 rfl rfl ?_
  refine nc_seq ?_
  refine nc ?_
  refine nc_seq ?_
  refine nc_seq ?_
  refine nc ?_
  refine nc_cond rfl (fun hc1 => ?_) (fun hc1 => ?_)
  · replace h := condT hc1 h
    refine nc_seq ?_
    refine nc ?_
    refine nc ?_
    replace h := Option.some.inj h
    subst h
    exact ret_inA [.string (bs ([] : List UInt8))] ⟨_, rfl, ⟨rfl, H.frame⟩⟩
  · replace h := condF hc1 h
    refine nc ?_
    refine nc_seq ?_
    obtain ⟨y2, hx3, h⟩ := bindS h
    obtain ⟨y4, hx5, h⟩ := bindS h
    refine nc ?_
    refine draw_rule [] (by kernel_rfl) (by kernel_rfl) H ?_
    refine c_txtI (0 : Int) (IntKind.i64.wrap ((x0.length : Int) - (1 : Int))) (by kernel_rfl) rfl ⟨_, rfl⟩ hx3 ?_
    refine c_idxS (by kernel_rfl) hx5 ?_
    intro w6 H
    refine nc_seq ?_
    refine nc_seq ?_
    refine nc ?_
    refine nc_cond rfl (fun hc7 => ?_) (fun hc7 => ?_)
    · replace h := condT hc7 h
      refine nc_seq ?_
      refine nc ?_
      obtain ⟨hr8, h⟩ := roomS h
      refine catM_rule hr8 ?_
      refine nc ?_
      replace h := Option.some.inj h
      subst h
      exact ret_inA [.string (bs (y2 ++ [114]))] ⟨_, rfl, ⟨rfl, H.frame⟩⟩
    · replace h := condF hc7 h
      refine nc ?_
      refine nc_seq ?_
      refine nc ?_
      obtain ⟨hr9, h⟩ := roomS h
      refine catM_rule hr9 ?_
      refine nc ?_
      replace h := Option.some.inj h
      subst h
      exact ret_inA [.string (bs (y2 ++ [108]))] ⟨_, rfl, ⟨rfl, H.frame⟩⟩
/-! gemot/place.Co -/
noncomputable def place_Co.k1 (y273 : (List (List UInt8))) (v348 : Int) (v508 : List (List UInt8)) : Option (((List (List UInt8)) × Int) ⊕ (List (List UInt8))) := some (.inl (v508, (IntKind.i64.wrap (v348 + (1 : Int)))))
noncomputable def place_Co.b2 (y273 : (List (List UInt8))) (v344 : List (List UInt8)) (v348 : Int) : Option (((List (List UInt8)) × Int) ⊕ (List (List UInt8))) := cond (decide (v348 < (y273.length : Int))) ((idxL y273 v348).bind fun y514 => cond (!(strEq y514 ([] : List UInt8))) ((place_Beside.f y514).bind fun y521 => roomM 16 (v344.length + 1) (place_Co.k1 y273 v348 (v344 ++ [y521]))) (place_Co.k1 y273 v348 v344)) (some (.inr v344))
noncomputable def place_Co.k3 (v267 : List (List UInt8)) : Option ((List (List UInt8))) := some v267
noncomputable def place_Co.f (x0 : List UInt8) (x1 : Int) : Option ((List (List UInt8))) := (place_Path.f x0 x1).bind fun y273 => (loopM (fun s480 : (List (List UInt8)) × Int => place_Co.b2 y273 s480.1 s480.2) (([] : List (List UInt8)), (0 : Int))).bind (fun (o478 : (List (List UInt8))) => place_Co.k3 o478)
set_option maxHeartbeats 4000000 in
theorem place_Co_ok {ok : Nat → Prop} {w : World} {x0 : List UInt8} {x1 : Int} {r : (List (List UInt8))} (h : place_Co.f x0 x1 = some r) :
    Calls Tryz.prog 28 #[.string (bs x0), .int .i64 x1] w fun e w' => ∃ v, e = .returned v ∧ (rowOut w w' ok tStr 9 v r ∧ Bel w.heap.size w w') := by
  have H : Eng.Own ok w w [] := Eng.Own.nil ok w
  unfold place_Co.f at h
  refine enterN (args := [.string (bs x0), .int .i64 x1]) Tryz.func28 rfl Tryz.ntmps28 rfl rfl ?_
  refine nc_seq ?_
  refine nc ?_
  refine nc_seq ?_
  refine nc ?_
  refine nc_cut (fun e w271 => ∃ (A268 : Option Addr) (c269 : Nat) (cs270 : List Value) (v267 : List (List UInt8)), place_Co.k3 v267 = some r ∧ e = [(5, .slice A268 v267.length c269)] ∧ Eng.Own ok w w271 [.dat (dRows tStr v267 cs270), .row (.slice A268 v267.length c269) 9 1 v267.length cs270]) ?_ ?_
  · skip
    refine nc_seq ?_
    refine nc ?_
    obtain ⟨y273, hy274, h⟩ := bindS h
    refine call_rule (by kernel_rfl) (place_Path_ok (ok := fun _ => False) hy274) fun u279 w275 ⟨hu280, hb278⟩ => ?_
    replace H := H.callDats hb278 [dSl tStr u279 y273] ⟨(slR_any hu280), trivial⟩
    obtain ⟨A281, c282, hA283, _⟩ := H.sl 0 rfl
    subst hA283
    refine nc_block ?_
    replace H := H.nilRowD tStr 9
    obtain ⟨o470, hL471, hO472⟩ := bindS h
    obtain ⟨n473, hL471⟩ := loopS hL471
    refine nc ?_
    refine loop_ruleA (fun k e w477 => ∃ (A345 : Option Addr) (c346 : Nat) (cs347 : List Value) (v344 : List (List UInt8)) (v348 : Int), iterM (fun s480 : (List (List UInt8)) × Int => place_Co.b2 y273 s480.1 s480.2) k (v344, v348) = some o470 ∧ e = [(5, .slice A345 v344.length c346), (10, .slice A281 y273.length c282), (11, .int .i64 (y273.length : Int)), (12, .int .i64 v348)] ∧ Eng.Own ok w w477 [.dat (dRows tStr v344 cs347), .row (.slice A345 v344.length c346) 9 1 v344.length cs347, .dat (dSl tStr (.slice A281 y273.length c282) y273)]) ⟨none, 0, [], _, _, hL471, rfl, H.pickL [0, 1, 2] rfl⟩ ?_
    rintro k482 _ w481 ⟨A345, c346, cs347, v344, v348, hL471, rfl, H⟩
    obtain ⟨k476, rfl, q474, h, hq475⟩ := iterS hL471
    replace h : place_Co.b2 y273 v344 v348 = some q474 := h
    unfold place_Co.b2 at h
    refine nc_seq ?_
    refine nc ?_
    refine nc_seq ?_
    refine nc_cond rfl (fun hc483 => ?_) (fun hc483 => ?_)
    · replace h := condT hc483 h
      refine nc ?_
      refine nc_cut (fun e w512 => ∃ (A509 : Option Addr) (c510 : Nat) (cs511 : List Value) (v508 : List (List UInt8)), place_Co.k1 y273 v348 v508 = some q474 ∧ e = [(5, .slice A509 v508.length c510), (10, .slice A281 y273.length c282), (11, .int .i64 (y273.length : Int)), (12, .int .i64 v348)] ∧ Eng.Own ok w w512 [.dat (dRows tStr v508 cs511), .row (.slice A509 v508.length c510) 9 1 v508.length cs511, .dat (dSl tStr (.slice A281 y273.length c282) y273)]) ?_ ?_
      · skip
        refine nc_block ?_
        refine nc_seq ?_
        refine nc ?_
        obtain ⟨y514, hx515, h⟩ := bindS h
        obtain ⟨a516, cs517, rfl, hR518, H⟩ := H.elemI 2 rfl hx515
        obtain rfl : cs517 = [.string (bs y514)] := hR518
        refine idxA_rule (e := 9) 1 _ (by kernel_rfl) (by kernel_rfl) (idxL_some hx515).1 (idxL_some hx515).2.1 ?_
        refine own_loadD H 0 rfl 0 (by kernel_rfl) rfl ?_
        refine nc_seq ?_
        refine nc ?_
        refine nc_cond rfl (fun hc520 => ?_) (fun hc520 => ?_)
        · replace h := condT hc520 h
          refine nc ?_
          obtain ⟨y521, hy522, h⟩ := bindS h
          refine call_rule (by kernel_rfl) (place_Beside_ok (ok := fun _ => False) hy522) fun v524 w523 ⟨hv525, hb526⟩ => ?_
          subst hv525
          replace H := H.call hb526
          refine own_buildSlice (e := 9) (sz := 1) (z := .string ⟨#[]⟩) (cs := [.string (bs y521)]) H (by kernel_rfl) (by kernel_rfl) (by kernel_rfl) rfl rfl rfl rfl fun g528 w529 H => ?_
          obtain ⟨hr530, h⟩ := roomS h
          refine own_append1 (k := tStr) (z := .string ⟨#[]⟩) (x := y521) 16 H 2 1 rfl rfl rfl rfl (by kernel_rfl) (by kernel_rfl) rfl rfl hr530 rfl fun z531 cs532 w533 H => ?_
          obtain ⟨A534, c535, rfl, _, _⟩ := H.rowSl 2 rfl
          exact cut_inA ⟨A534, c535, cs532, _, h, rfl, H.pickL [1, 2, 3] rfl⟩
        · replace h := condF hc520 h
          refine nc ?_
          exact cut_inA ⟨A345, c346, cs347, _, h, rfl, H.pickL [1, 2, 3] rfl⟩
      · rintro _ w537 ⟨A509, c510, cs511, v508, h, rfl, H⟩
        unfold place_Co.k1 at h
        refine nc ?_
        cases h
        exact again_inA ⟨A509, c510, cs511, _, _, hq475, rfl, H.pickL [0, 1, 2] rfl⟩
    · replace h := condF hc483 h
      refine nc ?_
      cases h
      replace hq475 : v344 = o470 := hq475
      subst hq475
      have h := hO472
      try dsimp only [Sum.elim_inl, Sum.elim_inr] at h
      exact cut_inA ⟨A345, c346, cs347, _, h, rfl, H.pickL [0, 1] rfl⟩
  · rintro _ w538 ⟨A268, c269, cs270, v267, h, rfl, H⟩
    unfold place_Co.k3 at h
    refine nc_seq ?_
    refine nc ?_
    refine nc ?_
    replace h := Option.some.inj h
    subst h
    exact ret_inA [.slice A268 v267.length c269] ⟨_, rfl, ⟨H.outR 1 0 rfl rfl rfl, H.frame⟩⟩
end Go.Proofs.YtgomlcfoifkdiaaGreat.G
