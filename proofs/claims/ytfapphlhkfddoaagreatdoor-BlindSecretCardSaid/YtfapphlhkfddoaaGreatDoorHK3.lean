/- Walks, printed by a program of this proof's own. -/
import Derived.Test.YtfapphlhkfddoaaGreatDoorHK2
import Derived.Test.YtfapphlhkfddoaaGreatDoorManKnow
import Derived.KernelRfl
namespace Go.Proofs.YtfapphlhkfddoaaGreatDoor.G
open Go.RowKit Go.Eng Go.Proofs
set_option linter.unusedVariables false
set_option maxRecDepth 20000
/-! gemot/gemotlaw15.BlindSecret -/
noncomputable def gemotlaw15_BlindSecret.b1 (x2 : Int) (y31 : (List (List UInt8))) (y43 : (List UInt8) × Int) (y55 : (List UInt8) × Int) (y62 : (List D_blind_Blind)) (v199 : List (List UInt8)) (v203 : Int) : Option (((List (List UInt8)) × Int) ⊕ (List (List UInt8))) := cond (decide (v203 < (y62.length : Int))) ((idxL y62 v203).bind fun y263 => roomM 16 (v199.length + 1) (some (.inl ((v199 ++ [y263.2]), (IntKind.i64.wrap (v203 + (1 : Int))))))) (some (.inr v199))
noncomputable def gemotlaw15_BlindSecret.k2 (v367 : Bool) : Option (Bool) := some v367
noncomputable def gemotlaw15_BlindSecret.k3 (x2 : Int) (y31 : (List (List UInt8))) (y43 : (List UInt8) × Int) (y55 : (List UInt8) × Int) (v174 : List (List UInt8)) : Option (Bool) := (know_Close.f v174).bind fun y281 => roomM 16 (([] : List (List UInt8)).length + v174.length) ((gemotlaw15_pick.f x2 (y31.length : Int)).bind fun y305 => (idxL y31 y305).bind fun y311 => roomM 16 ((([] : List (List UInt8)) ++ v174).length + 1) ((know_Close.f ((([] : List (List UInt8)) ++ v174) ++ [y311])).bind fun y328 => (know_Derives.f y281 y43.1).bind fun y370 => cond (!y370) ((know_Derives.f y281 y55.1).bind fun y377 => cond (!y377) ((know_Derives.f y328 y43.1).bind fun y384 => cond y384 ((know_Derives.f y328 y55.1).bind fun y391 => gemotlaw15_BlindSecret.k2 (cond (cond (cond (!y370) (!y377) false) y384 false) y391 false)) (gemotlaw15_BlindSecret.k2 (cond (cond (cond (!y370) (!y377) false) y384 false) false false))) (gemotlaw15_BlindSecret.k2 (cond (cond (cond (!y370) (!y377) false) false false) false false))) (gemotlaw15_BlindSecret.k2 (cond (cond (cond (!y370) (!false) false) false false) false false))))
noncomputable def gemotlaw15_BlindSecret.f (x0 : List Int) (x1 : Int) (x2 : Int) : Option (Bool) := (gemotlaw15_shown.f).bind fun y6 => cond (!y6) (some false) ((gemotlaw15_made.f x0).bind fun y13 => (tree_Members.f y13).bind fun y19 => (gemotlaw15_secrets.f (y19.length : Int) x1).bind fun y31 => (blind_Root.f y13 y31).bind fun y43 => (idxL y19 (0 : Int)).bind fun y49 => (blind_Group.f (((1 : Int), y49), y19) y43.1).bind fun y55 => cond (cond (y43.2 != (0 : Int)) true (y55.2 != (0 : Int))) (some false) ((gemotlaw15_blinds.f y13 y31).bind fun y62 => (loopM (fun s259 : (List (List UInt8)) × Int => gemotlaw15_BlindSecret.b1 x2 y31 y43 y55 y62 s259.1 s259.2) (([] : List (List UInt8)), (0 : Int))).bind (fun (o257 : (List (List UInt8))) => gemotlaw15_BlindSecret.k3 x2 y31 y43 y55 o257)))
set_option maxHeartbeats 4000000 in
theorem gemotlaw15_BlindSecret_ok {ok : Nat → Prop} {w : World} {u1 : Value} {x0 : List Int} {x1 : Int} {x2 : Int} {r : Bool} (hu2 : slR (tInt .i64) w ok u1 x0) (h : gemotlaw15_BlindSecret.f x0 x1 x2 = some r) :
    Calls Tryz.prog 11 #[u1, .int .u64 x1, .int .i64 x2] w fun e w' => ∃ v, e = .returned v ∧ (v = .bool r ∧ Bel w.heap.size w w') := by
  have H : Eng.Own ok w w [] := Eng.Own.nil ok w
  obtain ⟨A3, c4, rfl, H⟩ := H.arg rfl hu2
  unfold gemotlaw15_BlindSecret.f at h
  refine enterN (args := [.slice A3 x0.length c4, .int .u64 x1, .int .i64 x2]) Tryz.func11 rfl Tryz.ntmps11 rfl rfl ?_
  refine nc_seq ?_
  refine nc ?_
  refine nc_seq ?_
  refine nc ?_
  obtain ⟨y6, hy7, h⟩ := bindS h
  refine call_rule (by kernel_rfl) (gemotlaw15_shown_ok (ok := fun _ => False) hy7) fun v9 w8 ⟨hv10, hb11⟩ => ?_
  subst hv10
  replace H := H.call hb11
  refine nc_seq ?_
  refine nc_seq ?_
  refine nc ?_
  refine nc_cond rfl (fun hc12 => ?_) (fun hc12 => ?_)
  · replace h := condT hc12 h
    refine nc_seq ?_
    refine nc ?_
    refine nc ?_
    replace h := Option.some.inj h
    subst h
    exact ret_inA [.bool false] ⟨_, rfl, ⟨rfl, H.frame⟩⟩
  · replace h := condF hc12 h
    refine nc ?_
    refine nc_seq ?_
    refine nc ?_
    obtain ⟨y13, hy14, h⟩ := bindS h
    refine call_rule (by kernel_rfl) (gemotlaw15_made_ok (H.dat 0 rfl) hy14) fun v16 w15 ⟨hv17, hb18⟩ => ?_
    subst hv17
    replace H := H.call hb18
    refine nc_seq ?_
    refine nc ?_
    obtain ⟨y19, hy20, h⟩ := bindS h
    refine call_rule (by kernel_rfl) (tree_Members_ok (ok := fun _ => False) hy20) fun u25 w21 ⟨hu26, hb24⟩ => ?_
    replace H := H.callDats hb24 [dSl (tInt .i64) u25 y19] ⟨(slR_any hu26), trivial⟩
    obtain ⟨A27, c28, hA29, _⟩ := H.sl 0 rfl
    subst hA29
    refine nc_seq ?_
    refine nc ?_
    obtain ⟨y31, hy32, h⟩ := bindS h
    refine call_rule (by kernel_rfl) (gemotlaw15_secrets_ok (ok := fun _ => False) hy32) fun u37 w33 ⟨hu38, hb36⟩ => ?_
    replace H := H.callDats hb36 [dSl tStr u37 y31] ⟨(rowOut_sl (rowOut_any hu38) hb36), trivial⟩
    obtain ⟨A39, c40, hA41, _⟩ := H.sl 0 rfl
    subst hA41
    refine nc_seq ?_
    refine nc ?_
    obtain ⟨y43, hy44, h⟩ := bindS h
    refine call_rule (by kernel_rfl) (blind_Root_ok (H.dat 0 rfl) hy44) fun v46 w45 ⟨hv47, hb48⟩ => ?_
    subst hv47
    replace H := H.call hb48
    refine nc_seq ?_
    refine nc ?_
    obtain ⟨y49, hx50, h⟩ := bindS h
    obtain ⟨a51, cs52, rfl, hR53, H⟩ := H.elemI 1 rfl hx50
    obtain rfl : cs52 = [.int .i64 y49] := hR53
    refine idxA_rule (e := 3) 1 _ (by kernel_rfl) (by kernel_rfl) (idxL_some hx50).1 (idxL_some hx50).2.1 ?_
    refine own_loadD H 0 rfl 0 (by kernel_rfl) rfl ?_
    obtain ⟨y55, hy56, h⟩ := bindS h
    refine call_rule (by kernel_rfl) (blind_Group_ok (x0 := (((1 : Int), y49), y19)) (H.dat 2 rfl) hy56) fun v58 w57 ⟨hv59, hb60⟩ => ?_
    subst hv59
    replace H := H.call hb60
    refine nc_seq ?_
    refine nc_seq ?_
    refine nc ?_
    refine nc_cond rfl (fun hc61 => ?_) (fun hc61 => ?_)
    · replace h := condT hc61 h
      refine nc_seq ?_
      refine nc ?_
      refine nc ?_
      replace h := Option.some.inj h
      subst h
      exact ret_inA [.bool false] ⟨_, rfl, ⟨rfl, H.frame⟩⟩
    · replace h := condF hc61 h
      refine nc ?_
      refine nc_seq ?_
      refine nc ?_
      refine nc_seq ?_
      refine nc ?_
      obtain ⟨y62, hy63, h⟩ := bindS h
      refine call_rule (by kernel_rfl) (gemotlaw15_blinds_ok (H.dat 1 rfl) hy63) fun u68 w64 ⟨hu69, hb67⟩ => ?_
      replace H := H.callDats hb67 [dSl t_blind_Blind u68 y62] ⟨(rowOut_sl hu69 hb67), trivial⟩
      obtain ⟨A70, c71, hA72, _⟩ := H.sl 0 rfl
      subst hA72
      refine nc_cut (fun e w178 => ∃ (A175 : Option Addr) (c176 : Nat) (cs177 : List Value) (v174 : List (List UInt8)), gemotlaw15_BlindSecret.k3 x2 y31 y43 y55 v174 = some r ∧ e = [(2, .int .i64 x2), (10, .slice A39 y31.length c40), (11, .string (bs y43.1)), (13, .string (bs y55.1)), (15, .slice A175 v174.length c176)] ∧ Eng.Own ok w w178 [.dat (dSl tStr (.slice A39 y31.length c40) y31), .dat (dRows tStr v174 cs177), .row (.slice A175 v174.length c176) 28 1 v174.length cs177]) ?_ ?_
      · skip
        refine nc_seq ?_
        refine nc ?_
        refine nc_block ?_
        replace H := H.nilRowD tStr 28
        obtain ⟨o249, hL250, hO251⟩ := bindS h
        obtain ⟨n252, hL250⟩ := loopS hL250
        refine nc ?_
        refine loop_ruleA (fun k e w256 => ∃ (A200 : Option Addr) (c201 : Nat) (cs202 : List Value) (v199 : List (List UInt8)) (v203 : Int), iterM (fun s259 : (List (List UInt8)) × Int => gemotlaw15_BlindSecret.b1 x2 y31 y43 y55 y62 s259.1 s259.2) k (v199, v203) = some o249 ∧ e = [(2, .int .i64 x2), (10, .slice A39 y31.length c40), (11, .string (bs y43.1)), (13, .string (bs y55.1)), (15, .slice A200 v199.length c201), (16, .slice A70 y62.length c71), (17, .int .i64 v203)] ∧ Eng.Own ok w w256 [.dat (dSl tStr (.slice A39 y31.length c40) y31), .dat (dRows tStr v199 cs202), .row (.slice A200 v199.length c201) 28 1 v199.length cs202, .dat (dSl t_blind_Blind (.slice A70 y62.length c71) y62)]) ⟨none, 0, [], _, _, hL250, rfl, H.pickL [4, 0, 1, 2] rfl⟩ ?_
        rintro k261 _ w260 ⟨A200, c201, cs202, v199, v203, hL250, rfl, H⟩
        obtain ⟨k255, rfl, q253, h, hq254⟩ := iterS hL250
        replace h : gemotlaw15_BlindSecret.b1 x2 y31 y43 y55 y62 v199 v203 = some q253 := h
        unfold gemotlaw15_BlindSecret.b1 at h
        refine nc_seq ?_
        refine nc_seq ?_
        refine nc ?_
        refine nc_cond rfl (fun hc262 => ?_) (fun hc262 => ?_)
        · replace h := condT hc262 h
          refine nc ?_
          refine nc_seq ?_
          refine nc_block ?_
          refine nc ?_
          obtain ⟨y263, hx264, h⟩ := bindS h
          obtain ⟨a265, cs266, rfl, hR267, H⟩ := H.elemI 3 rfl hx264
          obtain rfl := blind_Blind_cells hR267
          refine idxA_rule (e := 76) 2 _ (by kernel_rfl) (by kernel_rfl) (idxL_some hx264).1 (idxL_some hx264).2.1 ?_
          refine own_loadD H 0 rfl 1 (by kernel_rfl) rfl ?_
          refine own_buildSlice (e := 28) (sz := 1) (z := .string ⟨#[]⟩) (cs := [.string (bs y263.2)]) H (by kernel_rfl) (by kernel_rfl) (by kernel_rfl) rfl rfl rfl rfl fun g270 w271 H => ?_
          obtain ⟨hr272, h⟩ := roomS h
          refine own_append1 (k := tStr) (z := .string ⟨#[]⟩) (x := y263.2) 16 H 3 2 rfl rfl rfl rfl (by kernel_rfl) (by kernel_rfl) rfl rfl hr272 rfl fun z273 cs274 w275 H => ?_
          obtain ⟨A276, c277, rfl, _, _⟩ := H.rowSl 3 rfl
          refine nc ?_
          cases h
          exact again_inA ⟨A276, c277, cs274, _, _, hq254, rfl, H.pickL [1, 2, 3, 4] rfl⟩
        · replace h := condF hc262 h
          refine nc ?_
          cases h
          replace hq254 : v199 = o249 := hq254
          subst hq254
          have h := hO251
          try dsimp only [Sum.elim_inl, Sum.elim_inr] at h
          exact cut_inA ⟨A200, c201, cs202, _, h, rfl, H.pickL [0, 1, 2] rfl⟩
      · rintro _ w279 ⟨A175, c176, cs177, v174, h, rfl, H⟩
        unfold gemotlaw15_BlindSecret.k3 at h
        refine nc_seq ?_
        refine nc ?_
        replace H := H.freeze (k := tStr) 2 1 rfl rfl
        obtain ⟨y281, hy282, h⟩ := bindS h
        refine call_rule (by kernel_rfl) (know_Close_ok (H.dat 2 rfl) hy282) fun u287 w283 ⟨hu288, hb286⟩ => ?_
        replace H := H.callDats hb286 [dSl tStr u287 y281] ⟨hu288, trivial⟩
        obtain ⟨A289, c290, hA291, _⟩ := H.sl 0 rfl
        subst hA291
        refine nc_seq ?_
        refine nc ?_
        refine own_buildEmpty (e := 28) (sz := 1) H (by kernel_rfl) (by kernel_rfl) fun z294 w297 H => ?_
        obtain ⟨A295, c296, rfl, _, _⟩ := H.rowSl 0 rfl
        replace H := H.addDat (dRows tStr [] []) rfl
        obtain ⟨hr298, h⟩ := roomS h
        refine own_appendD (k := tStr) (z := .string ⟨#[]⟩) 16 H 1 0 5 rfl rfl rfl rfl (by kernel_rfl) (by kernel_rfl) rfl rfl hr298 rfl fun z299 cs300 w301 H => ?_
        obtain ⟨A302, c303, rfl, _, _⟩ := H.rowSl 1 rfl
        obtain ⟨y305, hy306, h⟩ := bindS h
        refine call_rule (by kernel_rfl) (gemotlaw15_pick_ok (ok := fun _ => False) hy306) fun v308 w307 ⟨hv309, hb310⟩ => ?_
        subst hv309
        replace H := H.call hb310
        obtain ⟨y311, hx312, h⟩ := bindS h
        obtain ⟨a313, cs314, rfl, hR315, H⟩ := H.elemI 3 rfl hx312
        obtain rfl : cs314 = [.string (bs y311)] := hR315
        refine idxA_rule (e := 28) 1 _ (by kernel_rfl) (by kernel_rfl) (idxL_some hx312).1 (idxL_some hx312).2.1 ?_
        refine own_loadD H 0 rfl 0 (by kernel_rfl) rfl ?_
        refine own_buildSlice (e := 28) (sz := 1) (z := .string ⟨#[]⟩) (cs := [.string (bs y311)]) H (by kernel_rfl) (by kernel_rfl) (by kernel_rfl) rfl rfl rfl rfl fun g318 w319 H => ?_
        obtain ⟨hr320, h⟩ := roomS h
        refine own_append1 (k := tStr) (z := .string ⟨#[]⟩) (x := y311) 16 H 2 1 rfl rfl rfl rfl (by kernel_rfl) (by kernel_rfl) rfl rfl hr320 rfl fun z321 cs322 w323 H => ?_
        obtain ⟨A324, c325, rfl, _, _⟩ := H.rowSl 2 rfl
        replace H := H.freeze (k := tStr) 2 1 rfl rfl
        obtain ⟨y328, hy329, h⟩ := bindS h
        refine call_rule (by kernel_rfl) (know_Close_ok (H.dat 2 rfl) hy329) fun u334 w330 ⟨hu335, hb333⟩ => ?_
        replace H := H.callDats hb333 [dSl tStr u334 y328] ⟨hu335, trivial⟩
        obtain ⟨A336, c337, hA338, _⟩ := H.sl 0 rfl
        subst hA338
        refine nc_cut (fun e w368 => ∃ (v367 : Bool), gemotlaw15_BlindSecret.k2 v367 = some r ∧ e = [(6, .bool v367)] ∧ Eng.Own ok w w368 []) ?_ ?_
        · skip
          refine nc ?_
          obtain ⟨y370, hy371, h⟩ := bindS h
          refine call_rule (by kernel_rfl) (know_Derives_ok (H.dat 4 rfl) hy371) fun v373 w372 ⟨hv374, hb375⟩ => ?_
          subst hv374
          replace H := H.call hb375
          rcases Bool.eq_false_or_eq_true (!y370) with hg376 | hg376
          · replace h := condT hg376 h
            obtain ⟨y377, hy378, h⟩ := bindS h
            refine call_yes (gT1 hg376 rfl) (by kernel_rfl) (know_Derives_ok (H.dat 4 rfl) hy378) fun v380 w379 ⟨hv381, hb382⟩ => ?_
            subst hv381
            replace H := H.call hb382
            rcases Bool.eq_false_or_eq_true (!y377) with hg383 | hg383
            · replace h := condT hg383 h
              obtain ⟨y384, hy385, h⟩ := bindS h
              refine call_yes (gT1 ((pickT hg376).trans hg383) rfl) (by kernel_rfl) (know_Derives_ok (H.dat 0 rfl) hy385) fun v387 w386 ⟨hv388, hb389⟩ => ?_
              subst hv388
              replace H := H.call hb389
              rcases Bool.eq_false_or_eq_true y384 with hg390 | hg390
              · replace h := condT hg390 h
                obtain ⟨y391, hy392, h⟩ := bindS h
                refine call_yes (gT1 ((pickT ((pickT hg376).trans hg383)).trans hg390) rfl) (by kernel_rfl) (know_Derives_ok (H.dat 0 rfl) hy392) fun v394 w393 ⟨hv395, hb396⟩ => ?_
                subst hv395
                replace H := H.call hb396
                exact cut_inA ⟨_, h, rfl, H.pickL [] rfl⟩
              · replace h := condF hg390 h
                refine call_skip (.bool false) (gF1 ((pickT ((pickT hg376).trans hg383)).trans hg390)) ?_
                exact cut_inA ⟨_, h, rfl, H.pickL [] rfl⟩
            · replace h := condF hg383 h
              refine call_skip (.bool false) (gF1 ((pickT hg376).trans hg383)) ?_
              refine call_skip (.bool false) (gF1 (pickF ((pickT hg376).trans hg383))) ?_
              exact cut_inA ⟨_, h, rfl, H.pickL [] rfl⟩
          · replace h := condF hg376 h
            refine call_skip (.bool false) (gF1 hg376) ?_
            refine call_skip (.bool false) (gF1 (pickF hg376)) ?_
            refine call_skip (.bool false) (gF1 (pickF (pickF hg376))) ?_
            exact cut_inA ⟨_, h, rfl, H.pickL [] rfl⟩
        · rintro _ w397 ⟨v367, h, rfl, H⟩
          unfold gemotlaw15_BlindSecret.k2 at h
          refine nc ?_
          replace h := Option.some.inj h
          subst h
          exact ret_inA [.bool v367] ⟨_, rfl, ⟨rfl, H.frame⟩⟩
end Go.Proofs.YtfapphlhkfddoaaGreatDoor.G
