/- Walks, printed by a program of this proof's own. -/
import Derived.Test.YtfapphlhkfddoaaGreatDoorGObjs
import Derived.KernelRfl
namespace Go.Proofs.YtfapphlhkfddoaaGreatDoor.G
open Go.RowKit Go.Eng Go.Proofs
set_option linter.unusedVariables false
set_option maxRecDepth 20000
/-! gemot/rekey.New -/
noncomputable def rekey_New.k1 (x0 : Int) (x1 : D_api_View) (x2 : List UInt8) (v74 : Bool) : Option ((Option O_rekey_Round) × Int) := cond v74 (some (none, (1 : Int))) ((tree_Build.f x1.2).bind fun y100 => cond (y100.2 != (0 : Int)) (some (none, (1 : Int))) ((tree_Members.f y100.1).bind fun y108 => some ((some ({ me_ := x0, v_ := ((x1.1.1, x1.1.2), y108), secret_ := x2, tree_ := y100.1, known_ := ([] : List ((List UInt8) × (List UInt8))), told_ := ([] : List ((List UInt8) × Int)), marked_ := false, marks_ := ([] : List (Int × (List UInt8))) : O_rekey_Round })), (0 : Int))))
noncomputable def rekey_New.f (x0 : Int) (x1 : D_api_View) (x2 : List UInt8) : Option ((Option O_rekey_Round) × Int) := (view_Right.f x1).bind fun y77 => cond (!y77) (rekey_New.k1 x0 x1 x2 (cond (cond (cond (!y77) true (!false)) true (!false)) true (decide ((x2.length : Int) > (1000 : Int))))) ((view_Has.f x1.2 x0).bind fun y84 => cond (!y84) (rekey_New.k1 x0 x1 x2 (cond (cond (cond (!y77) true (!y84)) true (!false)) true (decide ((x2.length : Int) > (1000 : Int))))) ((term_Right.f x2).bind fun y91 => rekey_New.k1 x0 x1 x2 (cond (cond (cond (!y77) true (!y84)) true (!y91)) true (decide ((x2.length : Int) > (1000 : Int))))))
set_option maxHeartbeats 8000000 in
theorem rekey_New_ok {ok : Nat → Prop} {w0 w : World} {R : List Eng.Item} {u1 : Value} {x0 : Int} {x1 : D_api_View} {x2 : List UInt8} {r : (Option O_rekey_Round) × Int} (H : Eng.Own ok w0 w (R)) (hu2 : slR (tInt .i64) w (okOf ok w0 (R)) u1 x1.2) (h : rekey_New.f x0 x1 x2 = some r) :
    Calls Tryz.prog 25 #[.int .i64 x0, .agg #[.int .i64 x1.1.1, .int .i64 x1.1.2, u1], .string (bs x2)] w fun e w' => ∃ v, e = .returned v ∧ ∃ (g1' : Nat) (a2' : A_rekey_Round), v = .tuple #[.pointer (optA g1' r.1), .int .i64 r.2] ∧ Eng.Own ok w0 w' (box (optL oL_rekey_Round g1' a2' r.1) :: R) := by
  obtain ⟨A3, c4, rfl, H⟩ := H.openD hu2
  replace H := H.tailBox 1
  unfold rekey_New.f at h
  refine enterN (args := [.int .i64 x0, .agg #[.int .i64 x1.1.1, .int .i64 x1.1.2, .slice A3 x1.2.length c4], .string (bs x2)]) Tryz.func25 rfl Tryz.ntmps25 rfl rfl ?_
  refine nc_seq ?_
  refine nc ?_
  refine own_box H [.int .i64 x1.1.1, .int .i64 x1.1.2, .slice A3 x1.2.length c4] rfl fun g7 w8 H => ?_
  refine nc_seq ?_
  refine nc_cut (fun e w75 => ∃ (v74 : Bool), rekey_New.k1 x0 x1 x2 v74 = some r ∧ e = [(0, .int .i64 x0), (2, .string (bs x2)), (4, .pointer (some ⟨g7, 0, none⟩)), (29, .bool v74)] ∧ Eng.Own ok w0 w75 [.blk g7 [.int .i64 x1.1.1, .int .i64 x1.1.2, .slice A3 x1.2.length c4] 38, .dat (dSl (tInt .i64) (.slice A3 x1.2.length c4) x1.2), box R]) ?_ ?_
  · skip
    refine nc ?_
    refine own_loadA (m := 3) H 0 rfl (by kernel_rfl) (by kernel_rfl) [.int .i64 x1.1.1, .int .i64 x1.1.2, .slice A3 x1.2.length c4] rfl rfl ?_
    obtain ⟨y77, hy78, h⟩ := bindS h
    refine call_rule (by kernel_rfl) (view_Right_ok (x0 := x1) (H.dat 1 rfl) hy78) fun v80 w79 ⟨hv81, hb82⟩ => ?_
    subst hv81
    replace H := H.call hb82
    refine own_load H 0 rfl (by kernel_rfl) (j := 2) rfl ?_
    rcases Bool.eq_false_or_eq_true (!y77) with hg83 | hg83
    · replace h := condT hg83 h
      refine call_skip (.bool false) (gF0 hg83) ?_
      refine call_skip (.bool false) (gF0 (pickT hg83)) ?_
      exact cut_inA ⟨_, h, rfl, H.pickL [0, 1, 2] rfl⟩
    · replace h := condF hg83 h
      obtain ⟨y84, hy85, h⟩ := bindS h
      refine call_yes (gT0 hg83 rfl) (by kernel_rfl) (view_Has_ok (H.dat 1 rfl) hy85) fun v87 w86 ⟨hv88, hb89⟩ => ?_
      subst hv88
      replace H := H.call hb89
      rcases Bool.eq_false_or_eq_true (!y84) with hg90 | hg90
      · replace h := condT hg90 h
        refine call_skip (.bool false) (gF0 ((pickF hg83).trans hg90)) ?_
        exact cut_inA ⟨_, h, rfl, H.pickL [0, 1, 2] rfl⟩
      · replace h := condF hg90 h
        obtain ⟨y91, hy92, h⟩ := bindS h
        refine call_yes (gT0 ((pickF hg83).trans hg90) rfl) (by kernel_rfl) (term_Right_ok (ok := fun _ => False) hy92) fun v94 w93 ⟨hv95, hb96⟩ => ?_
        subst hv95
        replace H := H.call hb96
        exact cut_inA ⟨_, h, rfl, H.pickL [0, 1, 2] rfl⟩
  · rintro _ w97 ⟨v74, h, rfl, H⟩
    unfold rekey_New.k1 at h
    refine nc_cond rfl (fun hc98 => ?_) (fun hc98 => ?_)
    · replace h := condT hc98 h
      refine nc_seq ?_
      refine nc ?_
      refine nc ?_
      replace H := H.box0
      replace h := Option.some.inj h
      subst h
      exact ret_inA [.pointer (optA 0 none), .int .i64 1] ⟨_, rfl, 0, default, rfl, (H.pickL [0, 3] rfl).tailOpen 1 rfl⟩
    · replace h := condF hc98 h
      refine nc ?_
      refine nc_seq ?_
      refine nc ?_
      refine own_load H 0 rfl (by kernel_rfl) (j := 2) rfl ?_
      obtain ⟨y100, hy101, h⟩ := bindS h
      refine call_rule (by kernel_rfl) (tree_Build_ok (H.dat 1 rfl) hy101) fun v103 w102 ⟨hv104, hb105⟩ => ?_
      subst hv104
      replace H := H.call hb105
      refine nc_seq ?_
      refine nc_seq ?_
      refine nc ?_
      refine nc_cond rfl (fun hc106 => ?_) (fun hc106 => ?_)
      · replace h := condT hc106 h
        refine nc_seq ?_
        refine nc ?_
        refine nc ?_
        replace H := H.box0
        replace h := Option.some.inj h
        subst h
        exact ret_inA [.pointer (optA 0 none), .int .i64 1] ⟨_, rfl, 0, default, rfl, (H.pickL [0, 3] rfl).tailOpen 1 rfl⟩
      · replace h := condF hc106 h
        refine nc ?_
        refine nc_seq ?_
        refine nc ?_
        obtain ⟨y108, hy109, h⟩ := bindS h
        refine call_rule (by kernel_rfl) (tree_Members_ok (ok := fun _ => False) hy109) fun u114 w110 ⟨hu115, hb113⟩ => ?_
        replace H := H.callDats hb113 [dSl (tInt .i64) u114 y108] ⟨(slR_any hu115), trivial⟩
        obtain ⟨A116, c117, hA118, _⟩ := H.sl 0 rfl
        subst hA118
        refine own_storeB (m := 1) H 1 rfl (by kernel_rfl) [.slice A116 y108.length c117] rfl rfl rfl rfl fun w120 H => ?_
        refine nc_seq ?_
        refine nc ?_
        refine own_loadA (m := 3) H 1 rfl (by kernel_rfl) (by kernel_rfl) [.int .i64 x1.1.1, .int .i64 x1.1.2, .slice A116 y108.length c117] rfl rfl ?_
        refine makeP_rule (enc := encS) (e := encS) H fun b122 w123 H => ?_
        refine makeP_rule (enc := encS) (e := (Value.int .i64)) H fun b125 w126 H => ?_
        refine makeP_rule (enc := (Value.int .i64)) (e := encS) H fun b128 w129 H => ?_
        refine own_box H [.int .i64 x0, .int .i64 x1.1.1, .int .i64 x1.1.2, .slice A116 y108.length c117, .string (bs x2), .string (bs y100.1), .map (some b122), .map (some b125), .bool false, .map (some b128)] rfl fun g131 w132 H => ?_
        refine nc ?_
        replace H := (H.pickL [0, 4, 3, 2, 1, 4, 5, 6, 7] rfl).shutAs 5 (oL_rekey_Round g131 (A116, c117, b122, b125, b128) ({ me_ := x0, v_ := ((x1.1.1, x1.1.2), y108), secret_ := x2, tree_ := y100.1, known_ := ([] : List ((List UInt8) × (List UInt8))), told_ := ([] : List ((List UInt8) × Int)), marked_ := false, marks_ := ([] : List (Int × (List UInt8))) : O_rekey_Round })) rfl
        replace h := Option.some.inj h
        subst h
        exact ret_inA [.pointer (some ⟨g131, 0, none⟩), .int .i64 0] ⟨_, rfl, g131, (A116, c117, b122, b125, b128), rfl, (H.pickL [0, 4] rfl).tailOpen 1 rfl⟩
/-! (*gemot/rekey.Round).Secrets -/
noncomputable def rekey_Round_Secrets.k1 (x0 : O_rekey_Round) (y294 : (List (List UInt8))) (v363 : Int) (v513 : List D_blind_Blind) : Option (((List D_blind_Blind) × Int) ⊕ (List D_blind_Blind)) := some (.inl (v513, (IntKind.i64.wrap (v363 + (1 : Int)))))
noncomputable def rekey_Round_Secrets.b2 (x0 : O_rekey_Round) (y294 : (List (List UInt8))) (v359 : List D_blind_Blind) (v363 : Int) : Option (((List D_blind_Blind) × Int) ⊕ (List D_blind_Blind)) := cond (decide (v363 < (y294.length : Int))) ((idxL y294 v363).bind fun y519 => cond ((getA y519 x0.known_).isSome) (roomM 32 (v359.length + 1) (rekey_Round_Secrets.k1 x0 y294 v363 (v359 ++ [(y519, ((getA y519 x0.known_).getD ([] : List UInt8)))]))) (rekey_Round_Secrets.k1 x0 y294 v363 v359)) (some (.inr v359))
noncomputable def rekey_Round_Secrets.k3 (x0 : O_rekey_Round) (v269 : List D_blind_Blind) : Option ((List (List UInt8))) := (blind_Climb.f x0.tree_ x0.me_ x0.secret_ v269).bind fun y563 => some y563
noncomputable def rekey_Round_Secrets.f (x0 : O_rekey_Round) : Option ((List (List UInt8))) := (place_Co.f x0.tree_ x0.me_).bind fun y294 => (loopM (fun s487 : (List D_blind_Blind) × Int => rekey_Round_Secrets.b2 x0 y294 s487.1 s487.2) (([] : List D_blind_Blind), (0 : Int))).bind (fun (o485 : (List D_blind_Blind)) => rekey_Round_Secrets.k3 x0 o485)
set_option maxHeartbeats 8000000 in
theorem rekey_Round_Secrets_ok {ok : Nat → Prop} {w0 w : World} {R : List Eng.Item} {g0_ : Nat} {a0_ : A_rekey_Round} {x0 : O_rekey_Round} {r : (List (List UInt8))} (H : Eng.Own ok w0 w (box (oL_rekey_Round g0_ a0_ x0) :: R)) (h : rekey_Round_Secrets.f x0 = some r) :
    Calls Tryz.prog 30 #[.pointer (some ⟨g0_, 0, none⟩)] w fun e w' => ∃ v, e = .returned v ∧ ∃ (A1' : Option Addr) (c2' : Nat), v = .slice A1' r.length c2' ∧ Eng.Own ok w0 w' (.dat (dSl tStr (.slice A1' r.length c2') r) :: box (oL_rekey_Round g0_ a0_ x0) :: R) := by
  replace H := H.tailBox 1
  unfold rekey_Round_Secrets.f at h
  refine enterN (args := [.pointer (some ⟨g0_, 0, none⟩)]) Tryz.func30 rfl Tryz.ntmps30 rfl rfl ?_
  refine nc_seq ?_
  refine nc ?_
  refine nc_seq ?_
  refine nc ?_
  refine nc_cut (fun e w273 => ∃ (A270 : Option Addr) (c271 : Nat) (cs272 : List Value) (v269 : List D_blind_Blind), rekey_Round_Secrets.k3 x0 v269 = some r ∧ e = [(0, .pointer (some ⟨g0_, 0, none⟩)), (3, .slice A270 v269.length c271)] ∧ Eng.Own ok w0 w273 [box (oL_rekey_Round g0_ a0_ x0), .dat (dRows t_blind_Blind v269 cs272), .row (.slice A270 v269.length c271) 76 2 v269.length cs272, box R]) ?_ ?_
  · skip
    refine nc_seq ?_
    obtain ⟨A275, c276, b277, b278, b279⟩ := a0_
    replace H := H.openAs 0 (oU_rekey_Round g0_ ⟨A275, c276, b277, b278, b279⟩ x0) rfl rfl
    obtain ⟨y294, hy295, h⟩ := bindS h
    refine nc ?_
    refine draw_rule [] (by kernel_rfl) (by kernel_rfl) H ?_
    refine c_load 0 rfl (by kernel_rfl) (j := 5) rfl ?_
    refine c_load 0 rfl (by kernel_rfl) (j := 0) rfl ?_
    refine c_callR0 rfl (by kernel_rfl) (fun _ H => place_Co_ok (ok := fun _ => False) hy295) ?_
    intro A300 c301
    intro w303 H
    refine nc_block ?_
    replace H := (H.pickL [1, 2, 3, 4, 5, 0, 6] rfl).shutAs 5 (oL_rekey_Round g0_ (A275, c276, b277, b278, b279) x0) rfl
    try dsimp only [oU_rekey_Round, lastL, pickI, List.drop, List.take, List.set, List.eraseIdx, List.getElem?_cons_zero, List.getElem?_cons_succ, List.cons_append, List.nil_append, List.map] at H
    replace H := H.nilRowD t_blind_Blind 76
    obtain ⟨o477, hL478, hO479⟩ := bindS h
    obtain ⟨n480, hL478⟩ := loopS hL478
    refine nc ?_
    refine loop_ruleA (fun k e w484 => ∃ (A360 : Option Addr) (c361 : Nat) (cs362 : List Value) (v359 : List D_blind_Blind) (v363 : Int), iterM (fun s487 : (List D_blind_Blind) × Int => rekey_Round_Secrets.b2 x0 y294 s487.1 s487.2) k (v359, v363) = some o477 ∧ e = [(0, .pointer (some ⟨g0_, 0, none⟩)), (3, .slice A360 v359.length c361), (16, .slice A300 y294.length c301), (17, .int .i64 (y294.length : Int)), (18, .int .i64 v363)] ∧ Eng.Own ok w0 w484 [box (oL_rekey_Round g0_ (A275, c276, b277, b278, b279) x0), .dat (dRows t_blind_Blind v359 cs362), .row (.slice A360 v359.length c361) 76 2 v359.length cs362, .dat (dSl tStr (.slice A300 y294.length c301) y294), box R]) ⟨none, 0, [], _, _, hL478, rfl, H.pickL [2, 0, 1, 3, 4] rfl⟩ ?_
    rintro k489 _ w488 ⟨A360, c361, cs362, v359, v363, hL478, rfl, H⟩
    obtain ⟨k483, rfl, q481, h, hq482⟩ := iterS hL478
    replace h : rekey_Round_Secrets.b2 x0 y294 v359 v363 = some q481 := h
    unfold rekey_Round_Secrets.b2 at h
    refine nc_seq ?_
    refine nc ?_
    refine nc_seq ?_
    refine nc_cond rfl (fun hc490 => ?_) (fun hc490 => ?_)
    · replace h := condT hc490 h
      refine nc ?_
      refine nc_cut (fun e w517 => ∃ (A514 : Option Addr) (c515 : Nat) (cs516 : List Value) (v513 : List D_blind_Blind), rekey_Round_Secrets.k1 x0 y294 v363 v513 = some q481 ∧ e = [(0, .pointer (some ⟨g0_, 0, none⟩)), (3, .slice A514 v513.length c515), (16, .slice A300 y294.length c301), (17, .int .i64 (y294.length : Int)), (18, .int .i64 v363)] ∧ Eng.Own ok w0 w517 [box (oL_rekey_Round g0_ (A275, c276, b277, b278, b279) x0), .dat (dRows t_blind_Blind v513 cs516), .row (.slice A514 v513.length c515) 76 2 v513.length cs516, .dat (dSl tStr (.slice A300 y294.length c301) y294), box R]) ?_ ?_
      · skip
        refine nc_block ?_
        refine nc_seq ?_
        refine nc ?_
        obtain ⟨y519, hx520, h⟩ := bindS h
        obtain ⟨a521, cs522, rfl, hR523, H⟩ := H.elemI 3 rfl hx520
        obtain rfl : cs522 = [.string (bs y519)] := hR523
        refine idxA_rule (e := 9) 1 _ (by kernel_rfl) (by kernel_rfl) (idxL_some hx520).1 (idxL_some hx520).2.1 ?_
        refine own_loadD H 0 rfl 0 (by kernel_rfl) rfl ?_
        refine nc_seq ?_
        refine nc ?_
        replace H := H.openAs 1 (oU_rekey_Round g0_ ⟨A275, c276, b277, b278, b279⟩ x0) rfl rfl
        refine own_load H 0 rfl (by kernel_rfl) (j := 6) rfl ?_
        refine lookP2_rule (kt := 9) (et := 28) ([] : List UInt8) (by kernel_rfl) (by kernel_rfl) key9 y519 H 2 rfl ?_
        refine nc_seq ?_
        refine nc ?_
        refine nc_cond rfl (fun hc529 => ?_) (fun hc529 => ?_)
        · replace h := condT hc529 h
          refine nc ?_
          refine own_buildSlice (e := 76) (sz := 2) (z := .agg #[.string ⟨#[]⟩, .string ⟨#[]⟩]) (cs := [.string (bs y519), .string (bs ((getA y519 x0.known_).getD ([] : List UInt8)))]) H (by kernel_rfl) (by kernel_rfl) (by kernel_rfl) rfl rfl rfl rfl fun g531 w532 H => ?_
          obtain ⟨hr533, h⟩ := roomS h
          refine own_append1 (k := t_blind_Blind) (z := .agg #[.string ⟨#[]⟩, .string ⟨#[]⟩]) (x := (y519, ((getA y519 x0.known_).getD ([] : List UInt8)))) 32 H 7 6 rfl rfl rfl (blind_Blind_in (x := (y519, ((getA y519 x0.known_).getD ([] : List UInt8))))) (by kernel_rfl) (by kernel_rfl) rfl rfl hr533 rfl fun z534 cs535 w536 H => ?_
          obtain ⟨A537, c538, rfl, _, _⟩ := H.rowSl 7 rfl
          replace H := (H.pickL [0, 1, 2, 3, 4, 5, 6, 7, 8, 9] rfl).shutAs 5 (oL_rekey_Round g0_ (A275, c276, b277, b278, b279) x0) rfl
          try dsimp only [oU_rekey_Round, lastL, pickI, List.drop, List.take, List.set, List.eraseIdx, List.getElem?_cons_zero, List.getElem?_cons_succ, List.cons_append, List.nil_append, List.map] at H
          exact cut_inA ⟨A537, c538, cs535, _, h, rfl, H.pickL [0, 2, 3, 4, 5] rfl⟩
        · replace h := condF hc529 h
          refine nc ?_
          replace H := (H.pickL [0, 1, 2, 3, 4, 5, 6, 7, 8, 9] rfl).shutAs 5 (oL_rekey_Round g0_ (A275, c276, b277, b278, b279) x0) rfl
          try dsimp only [oU_rekey_Round, lastL, pickI, List.drop, List.take, List.set, List.eraseIdx, List.getElem?_cons_zero, List.getElem?_cons_succ, List.cons_append, List.nil_append, List.map] at H
          exact cut_inA ⟨A360, c361, cs362, _, h, rfl, H.pickL [0, 2, 3, 4, 5] rfl⟩
      · rintro _ w540 ⟨A514, c515, cs516, v513, h, rfl, H⟩
        unfold rekey_Round_Secrets.k1 at h
        refine nc ?_
        cases h
        exact again_inA ⟨A514, c515, cs516, _, _, hq482, rfl, H.pickL [0, 1, 2, 3, 4] rfl⟩
    · replace h := condF hc490 h
      refine nc ?_
      cases h
      replace hq482 : v359 = o477 := hq482
      subst hq482
      have h := hO479
      try dsimp only [Sum.elim_inl, Sum.elim_inr] at h
      exact cut_inA ⟨A360, c361, cs362, _, h, rfl, H.pickL [0, 1, 2, 4] rfl⟩
  · rintro _ w541 ⟨A270, c271, cs272, v269, h, rfl, H⟩
    unfold rekey_Round_Secrets.k3 at h
    refine nc_seq ?_
    obtain ⟨A542, c543, b544, b545, b546⟩ := a0_
    replace H := H.openAs 0 (oU_rekey_Round g0_ ⟨A542, c543, b544, b545, b546⟩ x0) rfl rfl
    replace H := H.freeze (k := t_blind_Blind) 6 5 rfl rfl
    obtain ⟨y563, hy564, h⟩ := bindS h
    refine nc ?_
    refine draw_rule [] (by kernel_rfl) (by kernel_rfl) H ?_
    refine c_load 0 rfl (by kernel_rfl) (j := 5) rfl ?_
    refine c_load 0 rfl (by kernel_rfl) (j := 0) rfl ?_
    refine c_load 0 rfl (by kernel_rfl) (j := 4) rfl ?_
    refine c_callS rfl (by kernel_rfl) (fun _ H => blind_Climb_ok (H.dat 6 rfl) hy564) ?_
    intro A569 c570
    intro w572 H
    refine nc ?_
    replace H := (H.pickL [1, 2, 3, 4, 5, 0, 7, 8] rfl).shutAs 5 (oL_rekey_Round g0_ (A542, c543, b544, b545, b546) x0) rfl
    try dsimp only [oU_rekey_Round, lastL, pickI, List.drop, List.take, List.set, List.eraseIdx, List.getElem?_cons_zero, List.getElem?_cons_succ, List.cons_append, List.nil_append, List.map] at H
    replace h := Option.some.inj h
    subst h
    exact ret_inA [.slice A569 y563.length c570] ⟨_, rfl, A569, c570, rfl, (H.pickL [1, 0, 3] rfl).tailOpen 2 rfl⟩
/-! (*gemot/rekey.Round).Key -/
noncomputable def rekey_Round_Key.f (x0 : O_rekey_Round) : Option ((List UInt8) × Bool) := (rekey_Round_Secrets.f x0).bind fun y2 => (place_Path.f x0.tree_ x0.me_).bind fun y29 => cond (decide ((y2.length : Int) < (y29.length : Int))) (some (([] : List UInt8), false)) ((idxL y2 (IntKind.i64.wrap ((y2.length : Int) - (1 : Int)))).bind fun y53 => (blind_Group.f x0.v_ y53).bind fun y59 => some (y59.1, (y59.2 == (0 : Int))))
set_option maxHeartbeats 8000000 in
theorem rekey_Round_Key_ok {ok : Nat → Prop} {w0 w : World} {R : List Eng.Item} {g0_ : Nat} {a0_ : A_rekey_Round} {x0 : O_rekey_Round} {r : (List UInt8) × Bool} (H : Eng.Own ok w0 w (box (oL_rekey_Round g0_ a0_ x0) :: R)) (h : rekey_Round_Key.f x0 = some r) :
    Calls Tryz.prog 22 #[.pointer (some ⟨g0_, 0, none⟩)] w fun e w' => ∃ v, e = .returned v ∧ v = .tuple #[.string (bs r.1), .bool r.2] ∧ Eng.Own ok w0 w' (box (oL_rekey_Round g0_ a0_ x0) :: R) := by
  replace H := H.tailBox 1
  unfold rekey_Round_Key.f at h
  refine enterN (args := [.pointer (some ⟨g0_, 0, none⟩)]) Tryz.func22 rfl Tryz.ntmps22 rfl rfl ?_
  refine nc_seq ?_
  refine nc ?_
  refine nc_seq ?_
  refine nc ?_
  obtain ⟨y2, hy3, h⟩ := bindS h
  refine call_rule (by kernel_rfl) (rekey_Round_Secrets_ok (x0 := x0) H hy3) fun v8 w7 ⟨A4, c5, hv9, H⟩ => ?_
  subst hv9
  refine nc_seq ?_
  refine nc_seq ?_
  obtain ⟨A10, c11, b12, b13, b14⟩ := a0_
  replace H := H.openAs 1 (oU_rekey_Round g0_ ⟨A10, c11, b12, b13, b14⟩ x0) rfl rfl
  obtain ⟨y29, hy30, h⟩ := bindS h
  refine nc ?_
  refine draw_rule [] (by kernel_rfl) (by kernel_rfl) H ?_
  refine c_load 0 rfl (by kernel_rfl) (j := 5) rfl ?_
  refine c_load 0 rfl (by kernel_rfl) (j := 0) rfl ?_
  refine c_callS0 rfl (by kernel_rfl) (fun _ H => place_Path_ok (ok := fun _ => False) hy30) ?_
  intro A35 c36
  intro w38 H
  refine nc_cond rfl (fun hc39 => ?_) (fun hc39 => ?_)
  · replace h := condT hc39 h
    refine nc_seq ?_
    refine nc ?_
    refine nc ?_
    replace H := (H.pickL [1, 2, 3, 4, 5, 0, 6, 7] rfl).shutAs 5 (oL_rekey_Round g0_ (A10, c11, b12, b13, b14) x0) rfl
    try dsimp only [oU_rekey_Round, lastL, pickI, List.drop, List.take, List.set, List.eraseIdx, List.getElem?_cons_zero, List.getElem?_cons_succ, List.cons_append, List.nil_append, List.map] at H
    replace h := Option.some.inj h
    subst h
    exact ret_inA [.string (bs ([] : List UInt8)), .bool false] ⟨_, rfl, rfl, (H.pickL [0, 3] rfl).tailOpen 1 rfl⟩
  · replace h := condF hc39 h
    refine nc ?_
    refine nc_seq ?_
    obtain ⟨y53, hx54, h⟩ := bindS h
    obtain ⟨a55, cs56, rfl, hR57, H⟩ := H.elemI 6 rfl hx54
    obtain rfl : cs56 = [.string (bs y53)] := hR57
    obtain ⟨y59, hy60, h⟩ := bindS h
    refine nc ?_
    refine draw_rule [] (by kernel_rfl) (by kernel_rfl) H ?_
    refine c_loadA (m := 3) 2 rfl (by kernel_rfl) (by kernel_rfl) [.int .i64 x0.v_.1.1, .int .i64 x0.v_.1.2, .slice A10 x0.v_.2.length c11] rfl rfl ?_
    refine c_idxA (e := 28) 1 _ (by kernel_rfl) (by kernel_rfl) (idxL_some hx54).1 (idxL_some hx54).2.1 ?_
    refine c_loadD 0 rfl 0 (by kernel_rfl) rfl ?_
    refine c_call (.tuple #[.string (bs y59.1), .int .i64 y59.2]) (by kernel_rfl) (fun _ _ H => blind_Group_ok (x0 := x0.v_) (H.dat 3 rfl) hy60) ?_
    intro w65 H
    refine nc_seq ?_
    refine nc ?_
    refine nc ?_
    replace H := (H.pickL [2, 3, 4, 5, 6, 0, 1, 3, 7, 8] rfl).shutAs 5 (oL_rekey_Round g0_ (A10, c11, b12, b13, b14) x0) rfl
    try dsimp only [oU_rekey_Round, lastL, pickI, List.drop, List.take, List.set, List.eraseIdx, List.getElem?_cons_zero, List.getElem?_cons_succ, List.cons_append, List.nil_append, List.map] at H
    replace h := Option.some.inj h
    subst h
    exact ret_inA [.string (bs y59.1), .bool (y59.2 == (0 : Int))] ⟨_, rfl, rfl, (H.pickL [0, 5] rfl).tailOpen 1 rfl⟩
/-! (*gemot/rekey.Round).Confirmed -/
noncomputable def rekey_Round_Confirmed.k1 (x0 : O_rekey_Round) (y2 : (List UInt8) × Bool) (v433 : Int) : Option (Int ⊕ (Unit ⊕ Bool)) := some (.inl (IntKind.i64.wrap (v433 + (1 : Int))))
noncomputable def rekey_Round_Confirmed.k2 (x0 : O_rekey_Round) (y2 : (List UInt8) × Bool) (v433 : Int) (v669 : Bool) : Option (Int ⊕ (Unit ⊕ Bool)) := cond v669 (some (.inr (Sum.inr false))) (rekey_Round_Confirmed.k1 x0 y2 v433)
noncomputable def rekey_Round_Confirmed.b3 (x0 : O_rekey_Round) (y2 : (List UInt8) × Bool) (v433 : Int) : Option (Int ⊕ (Unit ⊕ Bool)) := cond (decide (v433 < (x0.v_.2.length : Int))) ((idxL x0.v_.2 v433).bind fun y644 => cond (y644 == x0.me_) (rekey_Round_Confirmed.k1 x0 y2 v433) (cond (!((getA y644 x0.marks_).isSome)) (rekey_Round_Confirmed.k2 x0 y2 v433 (cond (!((getA y644 x0.marks_).isSome)) true (!(strEq ((getA y644 x0.marks_).getD ([] : List UInt8)) ([] : List UInt8))))) ((rekey_mark.f y2.1 y644).bind fun y673 => rekey_Round_Confirmed.k2 x0 y2 v433 (cond (!((getA y644 x0.marks_).isSome)) true (!(strEq ((getA y644 x0.marks_).getD ([] : List UInt8)) y673)))))) (some (.inr (Sum.inl ())))
noncomputable def rekey_Round_Confirmed.k4 (x0 : O_rekey_Round) : Option (Bool) := some true
noncomputable def rekey_Round_Confirmed.f (x0 : O_rekey_Round) : Option (Bool) := (rekey_Round_Key.f x0).bind fun y2 => cond (!y2.2) (some false) ((loopM (fun s601 : Int => rekey_Round_Confirmed.b3 x0 y2 s601) (0 : Int)).bind (Sum.elim (fun (o599 : Unit) => rekey_Round_Confirmed.k4 x0) (fun (o600 : Bool) => some o600)))
set_option maxHeartbeats 8000000 in
theorem rekey_Round_Confirmed_ok {ok : Nat → Prop} {w0 w : World} {R : List Eng.Item} {g0_ : Nat} {a0_ : A_rekey_Round} {x0 : O_rekey_Round} {r : Bool} (H : Eng.Own ok w0 w (box (oL_rekey_Round g0_ a0_ x0) :: R)) (h : rekey_Round_Confirmed.f x0 = some r) :
    Calls Tryz.prog 23 #[.pointer (some ⟨g0_, 0, none⟩)] w fun e w' => ∃ v, e = .returned v ∧ v = .bool r ∧ Eng.Own ok w0 w' (box (oL_rekey_Round g0_ a0_ x0) :: R) := by
  replace H := H.tailBox 1
  unfold rekey_Round_Confirmed.f at h
  refine enterN (args := [.pointer (some ⟨g0_, 0, none⟩)]) Tryz.func23 rfl Tryz.ntmps23 rfl rfl ?_
  refine nc_seq ?_
  refine nc ?_
  refine nc_seq ?_
  refine nc ?_
  obtain ⟨y2, hy3, h⟩ := bindS h
  refine call_rule (by kernel_rfl) (rekey_Round_Key_ok (x0 := x0) H hy3) fun v5 w4 ⟨hv6, H⟩ => ?_
  subst hv6
  refine nc_seq ?_
  refine nc_seq ?_
  refine nc ?_
  refine nc_cond rfl (fun hc7 => ?_) (fun hc7 => ?_)
  · replace h := condT hc7 h
    refine nc_seq ?_
    refine nc ?_
    refine nc ?_
    replace h := Option.some.inj h
    subst h
    exact ret_inA [.bool false] ⟨_, rfl, rfl, (H.pickL [0, 1] rfl).tailOpen 1 rfl⟩
  · replace h := condF hc7 h
    refine nc ?_
    refine nc_cut (fun e w344 => rekey_Round_Confirmed.k4 x0 = some r ∧ e = [] ∧ Eng.Own ok w0 w344 [box (oL_rekey_Round g0_ a0_ x0), box R]) ?_ ?_
    · skip
      refine nc_seq ?_
      refine nc ?_
      obtain ⟨A346, c347, b348, b349, b350⟩ := a0_
      replace H := H.openAs 0 (oU_rekey_Round g0_ ⟨A346, c347, b348, b349, b350⟩ x0) rfl rfl
      refine own_load H 0 rfl (by kernel_rfl) (j := 3) rfl ?_
      refine nc_block ?_
      replace H := (H.pickL [0, 1, 2, 3, 4, 1, 5] rfl).shutAs 5 (oL_rekey_Round g0_ (A346, c347, b348, b349, b350) x0) rfl
      try dsimp only [oU_rekey_Round, lastL, pickI, List.drop, List.take, List.set, List.eraseIdx, List.getElem?_cons_zero, List.getElem?_cons_succ, List.cons_append, List.nil_append, List.map] at H
      obtain ⟨o591, hL592, hO593⟩ := bindS h
      obtain ⟨n594, hL592⟩ := loopS hL592
      refine nc ?_
      refine loop_ruleA (fun k e w598 => ∃ (v433 : Int), iterM (fun s601 : Int => rekey_Round_Confirmed.b3 x0 y2 s601) k v433 = some o591 ∧ e = [(0, .pointer (some ⟨g0_, 0, none⟩)), (3, .string (bs y2.1)), (20, .slice A346 x0.v_.2.length c347), (21, .int .i64 (x0.v_.2.length : Int)), (22, .int .i64 v433)] ∧ Eng.Own ok w0 w598 [box (oL_rekey_Round g0_ (A346, c347, b348, b349, b350) x0), .dat (dSl (tInt .i64) (.slice A346 x0.v_.2.length c347) x0.v_.2), box R]) ⟨_, hL592, rfl, H.pickL [0, 1, 2] rfl⟩ ?_
      rintro k603 _ w602 ⟨v433, hL592, rfl, H⟩
      obtain ⟨k597, rfl, q595, h, hq596⟩ := iterS hL592
      replace h : rekey_Round_Confirmed.b3 x0 y2 v433 = some q595 := h
      unfold rekey_Round_Confirmed.b3 at h
      refine nc_seq ?_
      refine nc ?_
      refine nc_seq ?_
      refine nc_cond rfl (fun hc604 => ?_) (fun hc604 => ?_)
      · replace h := condT hc604 h
        refine nc ?_
        refine nc_cut (fun e w642 => rekey_Round_Confirmed.k1 x0 y2 v433 = some q595 ∧ e = [(0, .pointer (some ⟨g0_, 0, none⟩)), (3, .string (bs y2.1)), (20, .slice A346 x0.v_.2.length c347), (21, .int .i64 (x0.v_.2.length : Int)), (22, .int .i64 v433)] ∧ Eng.Own ok w0 w642 [box (oL_rekey_Round g0_ (A346, c347, b348, b349, b350) x0), .dat (dSl (tInt .i64) (.slice A346 x0.v_.2.length c347) x0.v_.2), box R]) ?_ ?_
        · skip
          refine nc_block ?_
          refine nc_seq ?_
          refine nc ?_
          obtain ⟨y644, hx645, h⟩ := bindS h
          obtain ⟨a646, cs647, rfl, hR648, H⟩ := H.elemI 1 rfl hx645
          obtain rfl : cs647 = [.int .i64 y644] := hR648
          refine idxA_rule (e := 3) 1 _ (by kernel_rfl) (by kernel_rfl) (idxL_some hx645).1 (idxL_some hx645).2.1 ?_
          refine own_loadD H 0 rfl 0 (by kernel_rfl) rfl ?_
          refine nc_seq ?_
          refine nc_seq ?_
          refine nc ?_
          replace H := H.openAs 1 (oU_rekey_Round g0_ ⟨(some a646), c347, b348, b349, b350⟩ x0) rfl rfl
          refine own_load H 0 rfl (by kernel_rfl) (j := 0) rfl ?_
          refine nc_cond rfl (fun hc654 => ?_) (fun hc654 => ?_)
          · replace h := condT hc654 h
            refine nc ?_
            replace H := (H.pickL [0, 1, 2, 3, 4, 5, 6, 7] rfl).shutAs 5 (oL_rekey_Round g0_ ((some a646), c347, b348, b349, b350) x0) rfl
            try dsimp only [oU_rekey_Round, lastL, pickI, List.drop, List.take, List.set, List.eraseIdx, List.getElem?_cons_zero, List.getElem?_cons_succ, List.cons_append, List.nil_append, List.map] at H
            exact cut_inA ⟨h, rfl, H.pickL [0, 2, 3] rfl⟩
          · replace h := condF hc654 h
            refine nc ?_
            refine nc_seq ?_
            refine nc ?_
            refine own_load H 0 rfl (by kernel_rfl) (j := 9) rfl ?_
            refine lookP2_rule (kt := 3) (et := 28) ([] : List UInt8) (by kernel_rfl) (by kernel_rfl) key3 y644 H 4 rfl ?_
            replace H := (H.pickL [0, 1, 2, 3, 4, 5, 6, 7] rfl).shutAs 5 (oL_rekey_Round g0_ ((some a646), c347, b348, b349, b350) x0) rfl
            try dsimp only [oU_rekey_Round, lastL, pickI, List.drop, List.take, List.set, List.eraseIdx, List.getElem?_cons_zero, List.getElem?_cons_succ, List.cons_append, List.nil_append, List.map] at H
            refine nc_cut (fun e w670 => ∃ (v669 : Bool), rekey_Round_Confirmed.k2 x0 y2 v433 v669 = some q595 ∧ e = [(0, .pointer (some ⟨g0_, 0, none⟩)), (3, .string (bs y2.1)), (20, .slice (some a646) x0.v_.2.length c347), (21, .int .i64 (x0.v_.2.length : Int)), (22, .int .i64 v433), (49, .bool v669)] ∧ Eng.Own ok w0 w670 [box (oL_rekey_Round g0_ ((some a646), c347, b348, b349, b350) x0), .dat (dSl (tInt .i64) (.slice (some a646) x0.v_.2.length c347) x0.v_.2), box R]) ?_ ?_
            · skip
              refine nc ?_
              rcases Bool.eq_false_or_eq_true (!((getA y644 x0.marks_).isSome)) with hg672 | hg672
              · replace h := condT hg672 h
                refine call_skip (.string (bs ([] : List UInt8))) (gF0 hg672) ?_
                exact cut_inA ⟨_, h, rfl, H.pickL [0, 2, 3] rfl⟩
              · replace h := condF hg672 h
                obtain ⟨y673, hy674, h⟩ := bindS h
                refine call_yes (gT0 hg672 rfl) (by kernel_rfl) (rekey_mark_ok (ok := fun _ => False) hy674) fun v676 w675 ⟨hv677, hb678⟩ => ?_
                subst hv677
                replace H := H.call hb678
                exact cut_inA ⟨_, h, rfl, H.pickL [0, 2, 3] rfl⟩
            · rintro _ w679 ⟨v669, h, rfl, H⟩
              unfold rekey_Round_Confirmed.k2 at h
              refine nc_cond rfl (fun hc680 => ?_) (fun hc680 => ?_)
              · replace h := condT hc680 h
                refine nc_seq ?_
                refine nc ?_
                refine nc ?_
                cases h
                replace hq596 : (Sum.inr false) = o591 := hq596
                subst hq596
                have h := hO593
                try dsimp only [Sum.elim_inl, Sum.elim_inr] at h
                replace h := Option.some.inj h
                subst h
                exact ret_inA [.bool false] ⟨_, rfl, rfl, (H.pickL [0, 2] rfl).tailOpen 1 rfl⟩
              · replace h := condF hc680 h
                refine nc ?_
                exact cut_inA ⟨h, rfl, H.pickL [0, 1, 2] rfl⟩
        · rintro _ w681 ⟨h, rfl, H⟩
          unfold rekey_Round_Confirmed.k1 at h
          refine nc ?_
          cases h
          exact again_inA ⟨_, hq596, rfl, H.pickL [0, 1, 2] rfl⟩
      · replace h := condF hc604 h
        refine nc ?_
        cases h
        replace hq596 : (Sum.inl ()) = o591 := hq596
        subst hq596
        have h := hO593
        try dsimp only [Sum.elim_inl, Sum.elim_inr] at h
        exact cut_inA ⟨h, rfl, H.pickL [0, 2] rfl⟩
    · rintro _ w682 ⟨h, rfl, H⟩
      unfold rekey_Round_Confirmed.k4 at h
      refine nc_seq ?_
      refine nc ?_
      refine nc ?_
      replace h := Option.some.inj h
      subst h
      exact ret_inA [.bool true] ⟨_, rfl, rfl, (H.pickL [0, 1] rfl).tailOpen 1 rfl⟩
/-! (*gemot/rekey.Round).message -/
noncomputable def rekey_Round_message.f (x0 : O_rekey_Round) (x1 : Int) (x2 : List (List UInt8)) : Option (D_list_Message) := some (x1, x0.v_.1, ((0 : Int), (0 : Int)), (0 : Int), ([] : List Int), x2)
set_option maxHeartbeats 8000000 in
theorem rekey_Round_message_ok {ok : Nat → Prop} {w0 w : World} {R : List Eng.Item} {g0_ : Nat} {a0_ : A_rekey_Round} {u2 : Value} {x0 : O_rekey_Round} {x1 : Int} {x2 : List (List UInt8)} {r : D_list_Message} (H : Eng.Own ok w0 w (box (oL_rekey_Round g0_ a0_ x0) :: R)) (hu3 : slR tStr w (okOf ok w0 (box (oL_rekey_Round g0_ a0_ x0) :: R)) u2 x2) (h : rekey_Round_message.f x0 x1 x2 = some r) :
    Calls Tryz.prog 66 #[.pointer (some ⟨g0_, 0, none⟩), .int .i64 x1, u2] w fun e w' => ∃ v, e = .returned v ∧ ∃ (A1' : Option Addr) (c2' : Nat) (A3' : Option Addr) (c4' : Nat), v = .agg #[.int .i64 r.1, .int .i64 r.2.1.1, .int .i64 r.2.1.2, .int .i64 r.2.2.1.1, .int .i64 r.2.2.1.2, .int .i64 r.2.2.2.1, .slice A1' r.2.2.2.2.1.length c2', .slice A3' r.2.2.2.2.2.length c4'] ∧ Eng.Own ok w0 w' (.dat (dSl (tInt .i64) (.slice A1' r.2.2.2.2.1.length c2') r.2.2.2.2.1) :: .dat (dSl tStr (.slice A3' r.2.2.2.2.2.length c4') r.2.2.2.2.2) :: box (oL_rekey_Round g0_ a0_ x0) :: R) := by
  obtain ⟨A4, c5, rfl, H⟩ := H.openD hu3
  replace H := H.tailBox 2
  unfold rekey_Round_message.f at h
  refine enterN (args := [.pointer (some ⟨g0_, 0, none⟩), .int .i64 x1, .slice A4 x2.length c5]) Tryz.func66 rfl Tryz.ntmps66 rfl rfl ?_
  refine nc_seq ?_
  refine nc ?_
  refine own_alloc (z := .agg #[.int .i64 0, .int .i64 0, .int .i64 0, .int .i64 0, .int .i64 0, .int .i64 0, .slice none 0 0, .slice none 0 0]) H (by kernel_rfl) [.int .i64 0, .int .i64 0, .int .i64 0, .int .i64 0, .int .i64 0, .int .i64 0, .slice none 0 0, .slice none 0 0] rfl fun g8 w9 H => ?_
  refine nc_seq ?_
  refine nc ?_
  obtain ⟨A10, c11, b12, b13, b14⟩ := a0_
  replace H := H.openAs 2 (oU_rekey_Round g0_ ⟨A10, c11, b12, b13, b14⟩ x0) rfl rfl
  refine own_loadA (m := 2) H 0 rfl (by kernel_rfl) (by kernel_rfl) [.int .i64 x0.v_.1.1, .int .i64 x0.v_.1.2] rfl rfl ?_
  refine own_storeB (m := 8) H 5 rfl (by kernel_rfl) [.int .i64 x1, .int .i64 x0.v_.1.1, .int .i64 x0.v_.1.2, .int .i64 0, .int .i64 0, .int .i64 0, .slice none 0 0, .slice A4 x2.length c5] rfl rfl rfl rfl fun w19 H => ?_
  refine nc ?_
  replace H := (H.pickL [0, 1, 2, 3, 4, 5, 6, 7] rfl).shutAs 5 (oL_rekey_Round g0_ (A10, c11, b12, b13, b14) x0) rfl
  try dsimp only [oU_rekey_Round, lastL, pickI, List.drop, List.take, List.set, List.eraseIdx, List.getElem?_cons_zero, List.getElem?_cons_succ, List.cons_append, List.nil_append, List.map] at H
  replace H := H.addDat (dSl (tInt .i64) (.slice none 0 0) []) nilR
  replace h := Option.some.inj h
  subst h
  exact ret_inA [.agg #[.int .i64 x1, .int .i64 x0.v_.1.1, .int .i64 x0.v_.1.2, .int .i64 0, .int .i64 0, .int .i64 0, .slice none 0 0, .slice A4 x2.length c5]] ⟨_, rfl, none, 0, A4, c5, rfl, (H.pickL [0, 3, 1, 4] rfl).tailOpen 3 rfl⟩ (And.intro (Exists.intro _ (And.intro rfl (H.resA (m := 8) 2 rfl (by kernel_rfl) (by kernel_rfl) rfl))) trivial)
/-! (*gemot/rekey.Round).Start -/
noncomputable def rekey_Round_Start.k1 (y2 : (List (List UInt8))) (y831 : (List (List UInt8))) (v1003 : Int) (v1505 : O_rekey_Round) (v1508 : List D_list_Message) : Option ((O_rekey_Round × (List D_list_Message) × Int) ⊕ (O_rekey_Round × (List D_list_Message))) := some (.inl (v1505, v1508, (IntKind.i64.wrap (v1003 + (1 : Int)))))
noncomputable def rekey_Round_Start.b2 (y2 : (List (List UInt8))) (y831 : (List (List UInt8))) (v996 : O_rekey_Round) (v999 : List D_list_Message) (v1003 : Int) : Option ((O_rekey_Round × (List D_list_Message) × Int) ⊕ (O_rekey_Round × (List D_list_Message))) := cond (decide (v1003 < (y831.length : Int))) ((idxL y831 v1003).bind fun y1514 => cond (cond (decide (v1003 ≥ (y2.length : Int))) true (decide (((getA y1514 v996.told_).getD (0 : Int)) > (0 : Int)))) (rekey_Round_Start.k1 y2 y831 v1003 v996 v999) ((idxL y2 v1003).bind fun y1558 => (blind_Element.f y1558).bind fun y1564 => cond (y1564.2 != (0 : Int)) (rekey_Round_Start.k1 y2 y831 v1003 v996 v999) ((term_Text.f y1514).bind fun y1571 => (rekey_Round_message.f ({ v996 with known_ := (putA y1514 y1564.1 v996.known_), told_ := (putA y1514 (1 : Int) v996.told_) }) (7 : Int) ([y1571.1, y1564.1] : List (List UInt8))).bind fun y1583 => roomM 96 (v999.length + 1) (rekey_Round_Start.k1 y2 y831 v1003 ({ v996 with known_ := (putA y1514 y1564.1 v996.known_), told_ := (putA y1514 (1 : Int) v996.told_) }) (v999 ++ [y1583]))))) (some (.inr (v996, v999)))
noncomputable def rekey_Round_Start.k3 (v1653 : O_rekey_Round) (v1656 : List D_list_Message) : Option ((List D_list_Message) × O_rekey_Round) := some (v1656, v1653)
noncomputable def rekey_Round_Start.k4 (v803 : O_rekey_Round) (v806 : List D_list_Message) : Option ((List D_list_Message) × O_rekey_Round) := (rekey_Round_Key.f v803).bind fun y1662 => cond (cond y1662.2 (!v803.marked_) false) ((rekey_mark.f y1662.1 v803.me_).bind fun y1678 => (rekey_Round_message.f ({ v803 with marked_ := true }) (8 : Int) ([y1678] : List (List UInt8))).bind fun y1688 => roomM 96 (v806.length + 1) (rekey_Round_Start.k3 ({ v803 with marked_ := true }) (v806 ++ [y1688]))) (rekey_Round_Start.k3 v803 v806)
noncomputable def rekey_Round_Start.f (x0 : O_rekey_Round) : Option ((List D_list_Message) × O_rekey_Round) := (rekey_Round_Secrets.f x0).bind fun y2 => (place_Duties.f x0.tree_ x0.me_).bind fun y831 => (loopM (fun s1411 : O_rekey_Round × (List D_list_Message) × Int => rekey_Round_Start.b2 y2 y831 s1411.1 s1411.2.1 s1411.2.2) (x0, ([] : List D_list_Message), (0 : Int))).bind (fun (o1409 : O_rekey_Round × (List D_list_Message)) => rekey_Round_Start.k4 o1409.1 o1409.2)
set_option maxHeartbeats 8000000 in
theorem rekey_Round_Start_ok {ok : Nat → Prop} {w0 w : World} {R : List Eng.Item} {g0_ : Nat} {a0_ : A_rekey_Round} {x0 : O_rekey_Round} {r : (List D_list_Message) × O_rekey_Round} (H : Eng.Own ok w0 w (box (oL_rekey_Round g0_ a0_ x0) :: R)) (h : rekey_Round_Start.f x0 = some r) :
    Calls Tryz.prog 28 #[.pointer (some ⟨g0_, 0, none⟩)] w fun e w' => ∃ v, e = .returned v ∧ ∃ (A1' : Option Addr) (c2' : Nat) (cs3' : List Value) (a4' : A_rekey_Round), v = .slice A1' r.1.length c2' ∧ Eng.Own ok w0 w' (.dat (dRows t_list_Message r.1 cs3') :: .row (.slice A1' r.1.length c2') 58 8 r.1.length cs3' :: box (oL_rekey_Round g0_ a4' r.2) :: R) := by
  replace H := H.tailBox 1
  unfold rekey_Round_Start.f at h
  refine enterN (args := [.pointer (some ⟨g0_, 0, none⟩)]) Tryz.func28 rfl Tryz.ntmps28 rfl rfl ?_
  refine nc_seq ?_
  refine nc ?_
  refine nc_seq ?_
  refine nc ?_
  refine nc_seq ?_
  refine nc ?_
  obtain ⟨y2, hy3, h⟩ := bindS h
  refine call_rule (by kernel_rfl) (rekey_Round_Secrets_ok (x0 := x0) H hy3) fun v8 w7 ⟨A4, c5, hv9, H⟩ => ?_
  subst hv9
  refine nc_cut (fun e w810 => ∃ (a804 : A_rekey_Round) (A807 : Option Addr) (c808 : Nat) (cs809 : List Value) (v803 : O_rekey_Round) (v806 : List D_list_Message), rekey_Round_Start.k4 v803 v806 = some r ∧ e = [(0, .pointer (some ⟨g0_, 0, none⟩)), (3, .slice A807 v806.length c808)] ∧ Eng.Own ok w0 w810 [box (oL_rekey_Round g0_ a804 v803), .dat (dRows t_list_Message v806 cs809), .row (.slice A807 v806.length c808) 58 8 v806.length cs809, box R]) ?_ ?_
  · skip
    refine nc_seq ?_
    obtain ⟨A812, c813, b814, b815, b816⟩ := a0_
    replace H := H.openAs 1 (oU_rekey_Round g0_ ⟨A812, c813, b814, b815, b816⟩ x0) rfl rfl
    obtain ⟨y831, hy832, h⟩ := bindS h
    refine nc ?_
    refine draw_rule [] (by kernel_rfl) (by kernel_rfl) H ?_
    refine c_load 0 rfl (by kernel_rfl) (j := 5) rfl ?_
    refine c_load 0 rfl (by kernel_rfl) (j := 0) rfl ?_
    refine c_callR0 rfl (by kernel_rfl) (fun _ H => place_Duties_ok (ok := fun _ => False) hy832) ?_
    intro A837 c838
    intro w840 H
    refine nc_block ?_
    replace H := (H.pickL [1, 2, 3, 4, 5, 0, 6, 7] rfl).shutAs 5 (oL_rekey_Round g0_ (A812, c813, b814, b815, b816) x0) rfl
    try dsimp only [oU_rekey_Round, lastL, pickI, List.drop, List.take, List.set, List.eraseIdx, List.getElem?_cons_zero, List.getElem?_cons_succ, List.cons_append, List.nil_append, List.map] at H
    replace H := H.nilRowD t_list_Message 58
    obtain ⟨o1401, hL1402, hO1403⟩ := bindS h
    obtain ⟨n1404, hL1402⟩ := loopS hL1402
    refine nc ?_
    refine loop_ruleA (fun k e w1408 => ∃ (a997 : A_rekey_Round) (A1000 : Option Addr) (c1001 : Nat) (cs1002 : List Value) (v996 : O_rekey_Round) (v999 : List D_list_Message) (v1003 : Int), iterM (fun s1411 : O_rekey_Round × (List D_list_Message) × Int => rekey_Round_Start.b2 y2 y831 s1411.1 s1411.2.1 s1411.2.2) k (v996, v999, v1003) = some o1401 ∧ e = [(0, .pointer (some ⟨g0_, 0, none⟩)), (3, .slice A1000 v999.length c1001), (4, .slice A4 y2.length c5), (23, .slice A837 y831.length c838), (24, .int .i64 (y831.length : Int)), (25, .int .i64 v1003)] ∧ Eng.Own ok w0 w1408 [box (oL_rekey_Round g0_ a997 v996), .dat (dRows t_list_Message v999 cs1002), .row (.slice A1000 v999.length c1001) 58 8 v999.length cs1002, .dat (dSl tStr (.slice A4 y2.length c5) y2), .dat (dSl tStr (.slice A837 y831.length c838) y831), box R]) ⟨(A812, c813, b814, b815, b816), none, 0, [], _, _, _, hL1402, rfl, H.pickL [2, 0, 1, 4, 3, 5] rfl⟩ ?_
    rintro k1413 _ w1412 ⟨a997, A1000, c1001, cs1002, v996, v999, v1003, hL1402, rfl, H⟩
    obtain ⟨k1407, rfl, q1405, h, hq1406⟩ := iterS hL1402
    replace h : rekey_Round_Start.b2 y2 y831 v996 v999 v1003 = some q1405 := h
    unfold rekey_Round_Start.b2 at h
    refine nc_seq ?_
    refine nc ?_
    refine nc_seq ?_
    refine nc_cond rfl (fun hc1414 => ?_) (fun hc1414 => ?_)
    · replace h := condT hc1414 h
      refine nc ?_
      refine nc_cut (fun e w1512 => ∃ (a1506 : A_rekey_Round) (A1509 : Option Addr) (c1510 : Nat) (cs1511 : List Value) (v1505 : O_rekey_Round) (v1508 : List D_list_Message), rekey_Round_Start.k1 y2 y831 v1003 v1505 v1508 = some q1405 ∧ e = [(0, .pointer (some ⟨g0_, 0, none⟩)), (3, .slice A1509 v1508.length c1510), (4, .slice A4 y2.length c5), (23, .slice A837 y831.length c838), (24, .int .i64 (y831.length : Int)), (25, .int .i64 v1003)] ∧ Eng.Own ok w0 w1512 [box (oL_rekey_Round g0_ a1506 v1505), .dat (dRows t_list_Message v1508 cs1511), .row (.slice A1509 v1508.length c1510) 58 8 v1508.length cs1511, .dat (dSl tStr (.slice A4 y2.length c5) y2), .dat (dSl tStr (.slice A837 y831.length c838) y831), box R]) ?_ ?_
      · skip
        refine nc_block ?_
        refine nc_seq ?_
        refine nc ?_
        obtain ⟨y1514, hx1515, h⟩ := bindS h
        obtain ⟨a1516, cs1517, rfl, hR1518, H⟩ := H.elemI 4 rfl hx1515
        obtain rfl : cs1517 = [.string (bs y1514)] := hR1518
        refine idxA_rule (e := 9) 1 _ (by kernel_rfl) (by kernel_rfl) (idxL_some hx1515).1 (idxL_some hx1515).2.1 ?_
        refine own_loadD H 0 rfl 0 (by kernel_rfl) rfl ?_
        refine nc_seq ?_
        refine nc_seq ?_
        refine nc ?_
        obtain ⟨A1548, c1549, b1550, b1551, b1552⟩ := a997
        replace H := H.openAs 1 (oU_rekey_Round g0_ ⟨A1548, c1549, b1550, b1551, b1552⟩ v996) rfl rfl
        refine own_load H 0 rfl (by kernel_rfl) (j := 7) rfl ?_
        refine lookP_rule (kt := 9) (et := 3) (0 : Int) (by kernel_rfl) (by kernel_rfl) key9 y1514 H 3 rfl ?_
        refine nc_cond rfl (fun hc1557 => ?_) (fun hc1557 => ?_)
        · replace h := condT hc1557 h
          refine nc ?_
          replace H := (H.pickL [0, 1, 2, 3, 4, 5, 6, 7, 8, 9, 10] rfl).shutAs 5 (oL_rekey_Round g0_ (A1548, c1549, b1550, b1551, b1552) v996) rfl
          try dsimp only [oU_rekey_Round, lastL, pickI, List.drop, List.take, List.set, List.eraseIdx, List.getElem?_cons_zero, List.getElem?_cons_succ, List.cons_append, List.nil_append, List.map] at H
          exact cut_inA ⟨(A1548, c1549, b1550, b1551, b1552), A1000, c1001, cs1002, _, _, h, rfl, H.pickL [0, 2, 3, 4, 5, 6] rfl⟩
        · replace h := condF hc1557 h
          refine nc ?_
          refine nc_seq ?_
          refine nc ?_
          obtain ⟨y1558, hx1559, h⟩ := bindS h
          obtain ⟨a1560, cs1561, rfl, hR1562, H⟩ := H.elemI 8 rfl hx1559
          obtain rfl : cs1561 = [.string (bs y1558)] := hR1562
          refine idxA_rule (e := 28) 1 _ (by kernel_rfl) (by kernel_rfl) (idxL_some hx1559).1 (idxL_some hx1559).2.1 ?_
          refine own_loadD H 0 rfl 0 (by kernel_rfl) rfl ?_
          obtain ⟨y1564, hy1565, h⟩ := bindS h
          refine call_rule (by kernel_rfl) (blind_Element_ok (ok := fun _ => False) hy1565) fun v1567 w1566 ⟨hv1568, hb1569⟩ => ?_
          subst hv1568
          replace H := H.call hb1569
          refine nc_seq ?_
          refine nc_seq ?_
          refine nc ?_
          refine nc_cond rfl (fun hc1570 => ?_) (fun hc1570 => ?_)
          · replace h := condT hc1570 h
            refine nc ?_
            replace H := (H.pickL [1, 2, 3, 4, 5, 0, 6, 7, 8, 9, 10, 11] rfl).shutAs 5 (oL_rekey_Round g0_ (A1548, c1549, b1550, b1551, b1552) v996) rfl
            try dsimp only [oU_rekey_Round, lastL, pickI, List.drop, List.take, List.set, List.eraseIdx, List.getElem?_cons_zero, List.getElem?_cons_succ, List.cons_append, List.nil_append, List.map] at H
            exact cut_inA ⟨(A1548, c1549, b1550, b1551, b1552), A1000, c1001, cs1002, _, _, h, rfl, H.pickL [0, 3, 4, 5, 6, 7] rfl⟩
          · replace h := condF hc1570 h
            refine nc ?_
            refine nc_seq ?_
            refine nc ?_
            obtain ⟨y1571, hy1572, h⟩ := bindS h
            refine call_rule (by kernel_rfl) (term_Text_ok (ok := fun _ => False) hy1572) fun v1574 w1573 ⟨hv1575, hb1576⟩ => ?_
            subst hv1575
            replace H := H.call hb1576
            refine nc_seq ?_
            refine nc ?_
            refine own_load H 1 rfl (by kernel_rfl) (j := 7) rfl ?_
            refine updP_rule (e := (Value.int .i64)) (kt := 9) (et := 3) (by kernel_rfl) key9 y1514 (1 : Int) H 4 rfl fun w1577 H => ?_
            refine nc_seq ?_
            refine nc ?_
            refine own_load H 1 rfl (by kernel_rfl) (j := 6) rfl ?_
            refine updP_rule (e := encS) (kt := 9) (et := 28) (by kernel_rfl) key9 y1514 y1564.1 H 3 rfl fun w1578 H => ?_
            refine nc ?_
            refine own_buildSlice (e := 28) (sz := 1) (z := .string ⟨#[]⟩) (cs := [.string (bs y1571.1), .string (bs y1564.1)]) H (by kernel_rfl) (by kernel_rfl) (by kernel_rfl) rfl rfl rfl rfl fun g1580 w1581 H => ?_
            replace H := H.blkSl (k := tStr) [y1571.1, y1564.1] 2 rfl rfl (by decide) ⟨_, _, rfl, rfl, ⟨_, _, rfl, rfl, rfl⟩⟩
            replace H := (H.pickL [2, 3, 4, 5, 6, 0, 1, 7, 8, 9, 10, 11, 12] rfl).shutAs 5 (oL_rekey_Round g0_ (A1548, c1549, b1550, b1551, b1552) ({ v996 with known_ := (putA y1514 y1564.1 v996.known_), told_ := (putA y1514 (1 : Int) v996.told_) })) rfl
            try dsimp only [oU_rekey_Round, lastL, pickI, List.drop, List.take, List.set, List.eraseIdx, List.getElem?_cons_zero, List.getElem?_cons_succ, List.cons_append, List.nil_append, List.map] at H
            obtain ⟨y1583, hy1584, h⟩ := bindS h
            refine call_rule (by kernel_rfl) (rekey_Round_message_ok (x0 := ({ v996 with known_ := (putA y1514 y1564.1 v996.known_), told_ := (putA y1514 (1 : Int) v996.told_) })) H (H.dat 1 rfl) hy1584) fun v1592 w1591 ⟨A1585, c1586, A1588, c1589, hv1593, H⟩ => ?_
            subst hv1593
            refine own_buildSlice (e := 58) (sz := 8) (z := .agg #[.int .i64 0, .int .i64 0, .int .i64 0, .int .i64 0, .int .i64 0, .int .i64 0, .slice none 0 0, .slice none 0 0]) (cs := [.int .i64 y1583.1, .int .i64 y1583.2.1.1, .int .i64 y1583.2.1.2, .int .i64 y1583.2.2.1.1, .int .i64 y1583.2.2.1.2, .int .i64 y1583.2.2.2.1, .slice A1585 y1583.2.2.2.2.1.length c1586, .slice A1588 y1583.2.2.2.2.2.length c1589]) H (by kernel_rfl) (by kernel_rfl) (by kernel_rfl) rfl rfl rfl rfl fun g1595 w1596 H => ?_
            obtain ⟨hr1597, h⟩ := roomS h
            refine own_append1 (k := t_list_Message) (z := .agg #[.int .i64 0, .int .i64 0, .int .i64 0, .int .i64 0, .int .i64 0, .int .i64 0, .slice none 0 0, .slice none 0 0]) (x := y1583) 96 H 7 6 rfl rfl rfl (list_Message_in (x := y1583) (H.dat 1 rfl) (H.dat 2 rfl)) (by kernel_rfl) (by kernel_rfl) rfl rfl hr1597 rfl fun z1598 cs1599 w1600 H => ?_
            obtain ⟨A1601, c1602, rfl, _, _⟩ := H.rowSl 7 rfl
            exact cut_inA ⟨(A1548, c1549, b1550, b1551, b1552), A1601, c1602, cs1599, _, _, h, rfl, H.pickL [2, 6, 7, 8, 9, 10] rfl⟩
      · rintro _ w1604 ⟨a1506, A1509, c1510, cs1511, v1505, v1508, h, rfl, H⟩
        unfold rekey_Round_Start.k1 at h
        refine nc ?_
        cases h
        exact again_inA ⟨a1506, A1509, c1510, cs1511, _, _, _, hq1406, rfl, H.pickL [0, 1, 2, 3, 4, 5] rfl⟩
    · replace h := condF hc1414 h
      refine nc ?_
      cases h
      replace hq1406 : (v996, v999) = o1401 := hq1406
      subst hq1406
      have h := hO1403
      try dsimp only [Sum.elim_inl, Sum.elim_inr] at h
      exact cut_inA ⟨a997, A1000, c1001, cs1002, _, _, h, rfl, H.pickL [0, 1, 2, 5] rfl⟩
  · rintro _ w1605 ⟨a804, A807, c808, cs809, v803, v806, h, rfl, H⟩
    unfold rekey_Round_Start.k4 at h
    refine nc_cut (fun e w1660 => ∃ (a1654 : A_rekey_Round) (A1657 : Option Addr) (c1658 : Nat) (cs1659 : List Value) (v1653 : O_rekey_Round) (v1656 : List D_list_Message), rekey_Round_Start.k3 v1653 v1656 = some r ∧ e = [(3, .slice A1657 v1656.length c1658)] ∧ Eng.Own ok w0 w1660 [box (oL_rekey_Round g0_ a1654 v1653), .dat (dRows t_list_Message v1656 cs1659), .row (.slice A1657 v1656.length c1658) 58 8 v1656.length cs1659, box R]) ?_ ?_
    · skip
      refine nc_seq ?_
      refine nc ?_
      obtain ⟨y1662, hy1663, h⟩ := bindS h
      refine call_rule (by kernel_rfl) (rekey_Round_Key_ok (x0 := v803) H hy1663) fun v1665 w1664 ⟨hv1666, H⟩ => ?_
      subst hv1666
      refine nc_seq ?_
      refine nc ?_
      obtain ⟨A1667, c1668, b1669, b1670, b1671⟩ := a804
      replace H := H.openAs 0 (oU_rekey_Round g0_ ⟨A1667, c1668, b1669, b1670, b1671⟩ v803) rfl rfl
      refine own_load H 0 rfl (by kernel_rfl) (j := 8) rfl ?_
      refine nc_cond rfl (fun hc1676 => ?_) (fun hc1676 => ?_)
      · replace h := condT hc1676 h
        refine nc_seq ?_
        refine nc ?_
        refine own_storeB (m := 1) H 0 rfl (by kernel_rfl) [.bool true] rfl rfl rfl rfl fun w1677 H => ?_
        refine nc ?_
        refine own_load H 0 rfl (by kernel_rfl) (j := 0) rfl ?_
        obtain ⟨y1678, hy1679, h⟩ := bindS h
        refine call_rule (by kernel_rfl) (rekey_mark_ok (ok := fun _ => False) hy1679) fun v1681 w1680 ⟨hv1682, hb1683⟩ => ?_
        subst hv1682
        replace H := H.call hb1683
        refine own_buildSlice (e := 28) (sz := 1) (z := .string ⟨#[]⟩) (cs := [.string (bs y1678)]) H (by kernel_rfl) (by kernel_rfl) (by kernel_rfl) rfl rfl rfl rfl fun g1685 w1686 H => ?_
        replace H := H.blkSl (k := tStr) [y1678] 1 rfl rfl (by decide) ⟨_, _, rfl, rfl, rfl⟩
        replace H := (H.pickL [1, 2, 3, 4, 5, 0, 6, 7, 8] rfl).shutAs 5 (oL_rekey_Round g0_ (A1667, c1668, b1669, b1670, b1671) ({ v803 with marked_ := true })) rfl
        try dsimp only [oU_rekey_Round, lastL, pickI, List.drop, List.take, List.set, List.eraseIdx, List.getElem?_cons_zero, List.getElem?_cons_succ, List.cons_append, List.nil_append, List.map] at H
        obtain ⟨y1688, hy1689, h⟩ := bindS h
        refine call_rule (by kernel_rfl) (rekey_Round_message_ok (x0 := ({ v803 with marked_ := true })) H (H.dat 1 rfl) hy1689) fun v1697 w1696 ⟨A1690, c1691, A1693, c1694, hv1698, H⟩ => ?_
        subst hv1698
        refine own_buildSlice (e := 58) (sz := 8) (z := .agg #[.int .i64 0, .int .i64 0, .int .i64 0, .int .i64 0, .int .i64 0, .int .i64 0, .slice none 0 0, .slice none 0 0]) (cs := [.int .i64 y1688.1, .int .i64 y1688.2.1.1, .int .i64 y1688.2.1.2, .int .i64 y1688.2.2.1.1, .int .i64 y1688.2.2.1.2, .int .i64 y1688.2.2.2.1, .slice A1690 y1688.2.2.2.2.1.length c1691, .slice A1693 y1688.2.2.2.2.2.length c1694]) H (by kernel_rfl) (by kernel_rfl) (by kernel_rfl) rfl rfl rfl rfl fun g1700 w1701 H => ?_
        obtain ⟨hr1702, h⟩ := roomS h
        refine own_append1 (k := t_list_Message) (z := .agg #[.int .i64 0, .int .i64 0, .int .i64 0, .int .i64 0, .int .i64 0, .int .i64 0, .slice none 0 0, .slice none 0 0]) (x := y1688) 96 H 5 4 rfl rfl rfl (list_Message_in (x := y1688) (H.dat 1 rfl) (H.dat 2 rfl)) (by kernel_rfl) (by kernel_rfl) rfl rfl hr1702 rfl fun z1703 cs1704 w1705 H => ?_
        obtain ⟨A1706, c1707, rfl, _, _⟩ := H.rowSl 5 rfl
        exact cut_inA ⟨(A1667, c1668, b1669, b1670, b1671), A1706, c1707, cs1704, _, _, h, rfl, H.pickL [2, 4, 5, 6] rfl⟩
      · replace h := condF hc1676 h
        refine nc ?_
        replace H := (H.pickL [0, 1, 2, 3, 4, 5, 6, 7] rfl).shutAs 5 (oL_rekey_Round g0_ (A1667, c1668, b1669, b1670, b1671) v803) rfl
        try dsimp only [oU_rekey_Round, lastL, pickI, List.drop, List.take, List.set, List.eraseIdx, List.getElem?_cons_zero, List.getElem?_cons_succ, List.cons_append, List.nil_append, List.map] at H
        exact cut_inA ⟨(A1667, c1668, b1669, b1670, b1671), A807, c808, cs809, _, _, h, rfl, H.pickL [0, 1, 2, 3] rfl⟩
    · rintro _ w1709 ⟨a1654, A1657, c1658, cs1659, v1653, v1656, h, rfl, H⟩
      unfold rekey_Round_Start.k3 at h
      refine nc_seq ?_
      refine nc ?_
      refine nc ?_
      replace h := Option.some.inj h
      subst h
      exact ret_inA [.slice A1657 v1656.length c1658] ⟨_, rfl, A1657, c1658, cs1659, a1654, rfl, (H.pickL [1, 2, 0, 3] rfl).tailOpen 3 rfl⟩
/-! (*gemot/rekey.Round).blinded -/
noncomputable def rekey_Round_blinded.k1 (x0 : O_rekey_Round) (x2 : D_list_Message) (y22 : (List UInt8) × Bool) (v93 : Bool) : Option (Bool × O_rekey_Round) := cond v93 (some (false, x0)) (cond ((getA y22.1 x0.known_).isSome) (some (false, x0)) ((idxL x2.2.2.2.2.2 (1 : Int)).bind fun y132 => some (true, { x0 with known_ := (putA y22.1 y132 x0.known_) })))
noncomputable def rekey_Round_blinded.f (x0 : O_rekey_Round) (x1 : Int) (x2 : D_list_Message) : Option (Bool × O_rekey_Round) := cond ((x2.2.2.2.2.2.length : Int) != (2 : Int)) (some (false, x0)) ((idxL x2.2.2.2.2.2 (0 : Int)).bind fun y16 => (parts_Said.f y16).bind fun y22 => (idxL x2.2.2.2.2.2 (1 : Int)).bind fun y28 => (parts_Kind.f y28).bind fun y34 => cond (cond (cond (!y22.2) true (strEq y22.1 ([] : List UInt8))) true (cond (y34 != (103 : Int)) (y34 != (101 : Int)) false)) (rekey_Round_blinded.k1 x0 x2 y22 (cond (cond (cond (!y22.2) true (strEq y22.1 ([] : List UInt8))) true (cond (y34 != (103 : Int)) (y34 != (101 : Int)) false)) true ((0 : Int) != x1))) ((place_Sponsor.f x0.tree_ y22.1).bind fun y106 => rekey_Round_blinded.k1 x0 x2 y22 (cond (cond (cond (!y22.2) true (strEq y22.1 ([] : List UInt8))) true (cond (y34 != (103 : Int)) (y34 != (101 : Int)) false)) true (y106 != x1))))
set_option maxHeartbeats 8000000 in
theorem rekey_Round_blinded_ok {ok : Nat → Prop} {w0 w : World} {R : List Eng.Item} {g0_ : Nat} {a0_ : A_rekey_Round} {u2 : Value} {u4 : Value} {x0 : O_rekey_Round} {x1 : Int} {x2 : D_list_Message} {r : Bool × O_rekey_Round} (H : Eng.Own ok w0 w (box (oL_rekey_Round g0_ a0_ x0) :: R)) (hu3 : slR (tInt .i64) w (okOf ok w0 (box (oL_rekey_Round g0_ a0_ x0) :: R)) u2 x2.2.2.2.2.1) (hu5 : slR tStr w (okOf ok w0 (box (oL_rekey_Round g0_ a0_ x0) :: R)) u4 x2.2.2.2.2.2) (h : rekey_Round_blinded.f x0 x1 x2 = some r) :
    Calls Tryz.prog 67 #[.pointer (some ⟨g0_, 0, none⟩), .int .i64 x1, .agg #[.int .i64 x2.1, .int .i64 x2.2.1.1, .int .i64 x2.2.1.2, .int .i64 x2.2.2.1.1, .int .i64 x2.2.2.1.2, .int .i64 x2.2.2.2.1, u2, u4]] w fun e w' => ∃ v, e = .returned v ∧ ∃ (a1' : A_rekey_Round), v = .bool r.1 ∧ Eng.Own ok w0 w' (box (oL_rekey_Round g0_ a1' r.2) :: R) := by
  obtain ⟨A6, c7, rfl, H⟩ := H.openD hu3
  obtain ⟨A9, c10, rfl, H⟩ := H.openD hu5
  replace H := H.tailBox 3
  unfold rekey_Round_blinded.f at h
  refine enterN (args := [.pointer (some ⟨g0_, 0, none⟩), .int .i64 x1, .agg #[.int .i64 x2.1, .int .i64 x2.2.1.1, .int .i64 x2.2.1.2, .int .i64 x2.2.2.1.1, .int .i64 x2.2.2.1.2, .int .i64 x2.2.2.2.1, .slice A6 x2.2.2.2.2.1.length c7, .slice A9 x2.2.2.2.2.2.length c10]]) Tryz.func67 rfl Tryz.ntmps67 rfl rfl ?_
  refine nc_seq ?_
  refine nc ?_
  refine own_box H [.int .i64 x2.1, .int .i64 x2.2.1.1, .int .i64 x2.2.1.2, .int .i64 x2.2.2.1.1, .int .i64 x2.2.2.1.2, .int .i64 x2.2.2.2.1, .slice A6 x2.2.2.2.2.1.length c7, .slice A9 x2.2.2.2.2.2.length c10] rfl fun g13 w14 H => ?_
  refine nc_seq ?_
  refine nc_seq ?_
  refine nc ?_
  refine own_load H 0 rfl (by kernel_rfl) (j := 7) rfl ?_
  refine nc_cond rfl (fun hc15 => ?_) (fun hc15 => ?_)
  · replace h := condT hc15 h
    refine nc_seq ?_
    refine nc ?_
    refine nc ?_
    replace h := Option.some.inj h
    subst h
    exact ret_inA [.bool false] ⟨_, rfl, a0_, rfl, (H.pickL [3, 4] rfl).tailOpen 1 rfl⟩
  · replace h := condF hc15 h
    refine nc ?_
    refine nc_seq ?_
    refine nc ?_
    refine own_load H 0 rfl (by kernel_rfl) (j := 7) rfl ?_
    obtain ⟨y16, hx17, h⟩ := bindS h
    obtain ⟨a18, cs19, rfl, hR20, H⟩ := H.elemI 1 rfl hx17
    obtain rfl : cs19 = [.string (bs y16)] := hR20
    refine idxA_rule (e := 28) 1 _ (by kernel_rfl) (by kernel_rfl) (idxL_some hx17).1 (idxL_some hx17).2.1 ?_
    refine own_loadD H 0 rfl 0 (by kernel_rfl) rfl ?_
    obtain ⟨y22, hy23, h⟩ := bindS h
    refine call_rule (by kernel_rfl) (parts_Said_ok (ok := fun _ => False) hy23) fun v25 w24 ⟨hv26, hb27⟩ => ?_
    subst hv26
    replace H := H.call hb27
    refine nc_seq ?_
    refine nc ?_
    refine own_load H 1 rfl (by kernel_rfl) (j := 7) rfl ?_
    obtain ⟨y28, hx29, h⟩ := bindS h
    obtain ⟨cs31, hR32, H⟩ := H.elemJ 2 rfl hx29
    obtain rfl : cs31 = [.string (bs y28)] := hR32
    refine idxA_rule (e := 28) 1 _ (by kernel_rfl) (by kernel_rfl) (idxL_some hx29).1 (idxL_some hx29).2.1 ?_
    refine own_loadD H 0 rfl 0 (by kernel_rfl) rfl ?_
    obtain ⟨y34, hy35, h⟩ := bindS h
    refine call_rule (by kernel_rfl) (parts_Kind_ok (ok := fun _ => False) hy35) fun v37 w36 ⟨hv38, hb39⟩ => ?_
    subst hv38
    replace H := H.call hb39
    refine nc_seq ?_
    refine nc_cut (fun e w94 => ∃ (v93 : Bool), rekey_Round_blinded.k1 x0 x2 y22 v93 = some r ∧ e = [(0, .pointer (some ⟨g0_, 0, none⟩)), (5, .pointer (some ⟨g13, 0, none⟩)), (7, .string (bs y22.1)), (52, .bool v93)] ∧ Eng.Own ok w0 w94 [box (oL_rekey_Round g0_ a0_ x0), .blk g13 [.int .i64 x2.1, .int .i64 x2.2.1.1, .int .i64 x2.2.1.2, .int .i64 x2.2.2.1.1, .int .i64 x2.2.2.1.2, .int .i64 x2.2.2.2.1, .slice A6 x2.2.2.2.2.1.length c7, .slice (some a18) x2.2.2.2.2.2.length c10] 58, .dat (dSl (tInt .i64) (.slice A6 x2.2.2.2.2.1.length c7) x2.2.2.2.2.1), .dat (dSl tStr (.slice (some a18) x2.2.2.2.2.2.length c10) x2.2.2.2.2.2), box R]) ?_ ?_
    · skip
      refine nc ?_
      obtain ⟨A96, c97, b98, b99, b100⟩ := a0_
      replace H := H.openAs 5 (oU_rekey_Round g0_ ⟨A96, c97, b98, b99, b100⟩ x0) rfl rfl
      refine own_load H 0 rfl (by kernel_rfl) (j := 5) rfl ?_
      rcases Bool.eq_false_or_eq_true (cond (cond (!y22.2) true (strEq y22.1 ([] : List UInt8))) true (cond (y34 != (103 : Int)) (y34 != (101 : Int)) false)) with hg105 | hg105
      · replace h := condT hg105 h
        refine call_skip (.int .i64 0) (gF0 hg105) ?_
        replace H := (H.pickL [0, 1, 2, 3, 4, 5, 6, 7, 8, 9, 10] rfl).shutAs 5 (oL_rekey_Round g0_ (A96, c97, b98, b99, b100) x0) rfl
        try dsimp only [oU_rekey_Round, lastL, pickI, List.drop, List.take, List.set, List.eraseIdx, List.getElem?_cons_zero, List.getElem?_cons_succ, List.cons_append, List.nil_append, List.map] at H
        exact cut_inA ⟨_, h, rfl, H.pickL [0, 3, 5, 4, 6] rfl⟩
      · replace h := condF hg105 h
        obtain ⟨y106, hy107, h⟩ := bindS h
        refine call_yes (gT0 hg105 rfl) (by kernel_rfl) (place_Sponsor_ok (ok := fun _ => False) hy107) fun v109 w108 ⟨hv110, hb111⟩ => ?_
        subst hv110
        replace H := H.call hb111
        replace H := (H.pickL [0, 1, 2, 3, 4, 5, 6, 7, 8, 9, 10] rfl).shutAs 5 (oL_rekey_Round g0_ (A96, c97, b98, b99, b100) x0) rfl
        try dsimp only [oU_rekey_Round, lastL, pickI, List.drop, List.take, List.set, List.eraseIdx, List.getElem?_cons_zero, List.getElem?_cons_succ, List.cons_append, List.nil_append, List.map] at H
        exact cut_inA ⟨_, h, rfl, H.pickL [0, 3, 5, 4, 6] rfl⟩
    · rintro _ w112 ⟨v93, h, rfl, H⟩
      unfold rekey_Round_blinded.k1 at h
      refine nc_cond rfl (fun hc113 => ?_) (fun hc113 => ?_)
      · replace h := condT hc113 h
        refine nc_seq ?_
        refine nc ?_
        refine nc ?_
        replace h := Option.some.inj h
        subst h
        exact ret_inA [.bool false] ⟨_, rfl, a0_, rfl, (H.pickL [0, 4] rfl).tailOpen 1 rfl⟩
      · replace h := condF hc113 h
        refine nc ?_
        refine nc_seq ?_
        refine nc_seq ?_
        refine nc ?_
        obtain ⟨A114, c115, b116, b117, b118⟩ := a0_
        replace H := H.openAs 0 (oU_rekey_Round g0_ ⟨A114, c115, b116, b117, b118⟩ x0) rfl rfl
        refine own_load H 0 rfl (by kernel_rfl) (j := 6) rfl ?_
        refine lookP2_rule (kt := 9) (et := 28) ([] : List UInt8) (by kernel_rfl) (by kernel_rfl) key9 y22.1 H 2 rfl ?_
        refine nc_seq ?_
        refine nc ?_
        refine nc_cond rfl (fun hc123 => ?_) (fun hc123 => ?_)
        · replace h := condT hc123 h
          refine nc_seq ?_
          refine nc ?_
          refine nc ?_
          replace H := (H.pickL [0, 1, 2, 3, 4, 5, 6, 7, 8] rfl).shutAs 5 (oL_rekey_Round g0_ (A114, c115, b116, b117, b118) x0) rfl
          try dsimp only [oU_rekey_Round, lastL, pickI, List.drop, List.take, List.set, List.eraseIdx, List.getElem?_cons_zero, List.getElem?_cons_succ, List.cons_append, List.nil_append, List.map] at H
          replace h := Option.some.inj h
          subst h
          exact ret_inA [.bool false] ⟨_, rfl, (A114, c115, b116, b117, b118), rfl, (H.pickL [0, 4] rfl).tailOpen 1 rfl⟩
        · replace h := condF hc123 h
          refine nc ?_
          refine nc_seq ?_
          obtain ⟨y132, hx133, h⟩ := bindS h
          obtain ⟨cs135, hR136, H⟩ := H.elemJ 7 rfl hx133
          obtain rfl : cs135 = [.string (bs y132)] := hR136
          refine nc ?_
          refine draw_ruleB [.dat (dCells (a18.add (((1 : Int)).toNat * (tStr).sz)) [.string (bs y132)]), .blk g0_ [.int .i64 x0.me_, .int .i64 x0.v_.1.1, .int .i64 x0.v_.1.2, .slice A114 x0.v_.2.length c115, .string (bs x0.secret_), .string (bs x0.tree_), .map (some b116), .map (some b117), .bool x0.marked_, .map (some b118)] 100, .blk g13 [.int .i64 x2.1, .int .i64 x2.2.1.1, .int .i64 x2.2.1.2, .int .i64 x2.2.2.1.1, .int .i64 x2.2.2.1.2, .int .i64 x2.2.2.2.1, .slice A6 x2.2.2.2.2.1.length c7, .slice (some a18) x2.2.2.2.2.2.length c10] 58] [] (fun j => undef) [1000, 1000, 1000, 1000, 1000, 1000, 1000, 1000, 1000, 1000] (by kernel_rfl) (by kernel_rfl) H (by repeat first | exact List.nil_sublist _ | apply List.Sublist.cons_cons | apply List.Sublist.cons) ?_
          refine c_load 1 rfl (by kernel_rfl) (j := 6) rfl ?_
          refine c_load 2 rfl (by kernel_rfl) (j := 7) rfl ?_
          refine c_idxA (e := 28) 1 _ (by kernel_rfl) (by kernel_rfl) (idxL_some hx133).1 (idxL_some hx133).2.1 ?_
          refine c_loadD 0 rfl 0 (by kernel_rfl) rfl ?_
          refine c_updP (e := encS) (kt := 9) (et := 28) (by kernel_rfl) key9 y22.1 y132 3 rfl ?_
          refine ⟨(by repeat first | exact List.nil_sublist _ | apply List.Sublist.cons_cons | apply List.Sublist.cons), ?_⟩
          intro w139 H
          refine nc_seq ?_
          refine nc ?_
          refine nc ?_
          replace H := (H.pickL [1, 2, 3, 4, 5, 0, 6, 7, 8, 9] rfl).shutAs 5 (oL_rekey_Round g0_ (A114, c115, b116, b117, b118) ({ x0 with known_ := (putA y22.1 y132 x0.known_) })) rfl
          try dsimp only [oU_rekey_Round, lastL, pickI, List.drop, List.take, List.set, List.eraseIdx, List.getElem?_cons_zero, List.getElem?_cons_succ, List.cons_append, List.nil_append, List.map] at H
          replace h := Option.some.inj h
          subst h
          exact ret_inA [.bool true] ⟨_, rfl, (A114, c115, b116, b117, b118), rfl, (H.pickL [0, 5] rfl).tailOpen 1 rfl⟩
/-! (*gemot/rekey.Round).Take -/
noncomputable def rekey_Round_Take.k1 (v179 : O_rekey_Round) : Option ((List D_list_Message) × O_rekey_Round) := some (([] : List D_list_Message), v179)
noncomputable def rekey_Round_Take.k2 (x0 : O_rekey_Round) (x1 : Int) (x2 : D_list_Message) (v101 : Bool) : Option ((List D_list_Message) × O_rekey_Round) := cond v101 (some (([] : List D_list_Message), x0)) (cond (x2.1 == (8 : Int)) (cond (cond (!((getA x1 x0.marks_).isSome)) ((x2.2.2.2.2.2.length : Int) == (1 : Int)) false) ((idxL x2.2.2.2.2.2 (0 : Int)).bind fun y202 => rekey_Round_Take.k1 ({ x0 with marks_ := (putA x1 y202 x0.marks_) })) (rekey_Round_Take.k1 x0)) (cond (x2.1 == (7 : Int)) ((rekey_Round_blinded.f x0 x1 x2).bind fun y211 => cond y211.1 ((rekey_Round_Start.f y211.2).bind fun y218 => some (y218.1, y218.2)) (rekey_Round_Take.k1 y211.2)) (rekey_Round_Take.k1 x0)))
noncomputable def rekey_Round_Take.f (x0 : O_rekey_Round) (x1 : Int) (x2 : D_list_Message) : Option ((List D_list_Message) × O_rekey_Round) := cond (x1 == x0.me_) (rekey_Round_Take.k2 x0 x1 x2 (cond (cond (x1 == x0.me_) true (!false)) true false)) ((view_Has.f x0.v_.2 x1).bind fun y124 => rekey_Round_Take.k2 x0 x1 x2 (cond (cond (x1 == x0.me_) true (!y124)) true (!((x2.2.1.1 == x0.v_.1.1) && (x2.2.1.2 == x0.v_.1.2)))))
set_option maxHeartbeats 8000000 in
theorem rekey_Round_Take_ok {ok : Nat → Prop} {w0 w : World} {R : List Eng.Item} {g0_ : Nat} {a0_ : A_rekey_Round} {u2 : Value} {u4 : Value} {x0 : O_rekey_Round} {x1 : Int} {x2 : D_list_Message} {r : (List D_list_Message) × O_rekey_Round} (H : Eng.Own ok w0 w (box (oL_rekey_Round g0_ a0_ x0) :: R)) (hu3 : slR (tInt .i64) w (okOf ok w0 (box (oL_rekey_Round g0_ a0_ x0) :: R)) u2 x2.2.2.2.2.1) (hu5 : slR tStr w (okOf ok w0 (box (oL_rekey_Round g0_ a0_ x0) :: R)) u4 x2.2.2.2.2.2) (h : rekey_Round_Take.f x0 x1 x2 = some r) :
    Calls Tryz.prog 29 #[.pointer (some ⟨g0_, 0, none⟩), .int .i64 x1, .agg #[.int .i64 x2.1, .int .i64 x2.2.1.1, .int .i64 x2.2.1.2, .int .i64 x2.2.2.1.1, .int .i64 x2.2.2.1.2, .int .i64 x2.2.2.2.1, u2, u4]] w fun e w' => ∃ v, e = .returned v ∧ ∃ (A1' : Option Addr) (c2' : Nat) (cs3' : List Value) (a4' : A_rekey_Round), v = .slice A1' r.1.length c2' ∧ Eng.Own ok w0 w' (.dat (dRows t_list_Message r.1 cs3') :: .row (.slice A1' r.1.length c2') 58 8 r.1.length cs3' :: box (oL_rekey_Round g0_ a4' r.2) :: R) := by
  obtain ⟨A6, c7, rfl, H⟩ := H.openD hu3
  obtain ⟨A9, c10, rfl, H⟩ := H.openD hu5
  replace H := H.tailBox 3
  unfold rekey_Round_Take.f at h
  refine enterN (args := [.pointer (some ⟨g0_, 0, none⟩), .int .i64 x1, .agg #[.int .i64 x2.1, .int .i64 x2.2.1.1, .int .i64 x2.2.1.2, .int .i64 x2.2.2.1.1, .int .i64 x2.2.2.1.2, .int .i64 x2.2.2.2.1, .slice A6 x2.2.2.2.2.1.length c7, .slice A9 x2.2.2.2.2.2.length c10]]) Tryz.func29 rfl Tryz.ntmps29 rfl rfl ?_
  refine nc_seq ?_
  refine nc ?_
  refine own_box H [.int .i64 x2.1, .int .i64 x2.2.1.1, .int .i64 x2.2.1.2, .int .i64 x2.2.2.1.1, .int .i64 x2.2.2.1.2, .int .i64 x2.2.2.2.1, .slice A6 x2.2.2.2.2.1.length c7, .slice A9 x2.2.2.2.2.2.length c10] rfl fun g13 w14 H => ?_
  refine nc_seq ?_
  refine nc_cut (fun e w102 => ∃ (v101 : Bool), rekey_Round_Take.k2 x0 x1 x2 v101 = some r ∧ e = [(0, .pointer (some ⟨g0_, 0, none⟩)), (1, .int .i64 x1), (5, .pointer (some ⟨g13, 0, none⟩)), (34, .bool v101)] ∧ Eng.Own ok w0 w102 [box (oL_rekey_Round g0_ a0_ x0), .blk g13 [.int .i64 x2.1, .int .i64 x2.2.1.1, .int .i64 x2.2.1.2, .int .i64 x2.2.2.1.1, .int .i64 x2.2.2.1.2, .int .i64 x2.2.2.2.1, .slice A6 x2.2.2.2.2.1.length c7, .slice A9 x2.2.2.2.2.2.length c10] 58, .dat (dSl (tInt .i64) (.slice A6 x2.2.2.2.2.1.length c7) x2.2.2.2.2.1), .dat (dSl tStr (.slice A9 x2.2.2.2.2.2.length c10) x2.2.2.2.2.2), box R]) ?_ ?_
  · skip
    obtain ⟨A104, c105, b106, b107, b108⟩ := a0_
    replace H := H.openAs 3 (oU_rekey_Round g0_ ⟨A104, c105, b106, b107, b108⟩ x0) rfl rfl
    rcases Bool.eq_false_or_eq_true (x1 == x0.me_) with hg122 | hg122
    · replace h := condT hg122 h
      refine nc ?_
      refine draw_rule [] (by kernel_rfl) (by kernel_rfl) H ?_
      refine c_load 0 rfl (by kernel_rfl) (j := 0) rfl ?_
      refine c_load 0 rfl (by kernel_rfl) (j := 3) rfl ?_
      refine c_skipCL (.bool false) (gF0 hg122) ?_
      refine c_skipLD (.agg #[.int .i64 0, .int .i64 0]) (gF0 (pickT hg122)) ?_
      refine c_skipLD (.agg #[.int .i64 0, .int .i64 0]) (gF0 (pickT hg122)) ?_
      refine c_skipBN (.bool false) (gF0 (pickT hg122)) ?_
      intro w123 H
      replace H := (H.pickL [0, 1, 2, 3, 4, 1, 5, 6, 7, 8] rfl).shutAs 5 (oL_rekey_Round g0_ (A104, c105, b106, b107, b108) x0) rfl
      try dsimp only [oU_rekey_Round, lastL, pickI, List.drop, List.take, List.set, List.eraseIdx, List.getElem?_cons_zero, List.getElem?_cons_succ, List.cons_append, List.nil_append, List.map] at H
      exact cut_inA ⟨_, h, rfl, H.pickL [0, 2, 4, 3, 5] rfl⟩
    · replace h := condF hg122 h
      obtain ⟨y124, hy125, h⟩ := bindS h
      refine nc ?_
      refine draw_rule [] (by kernel_rfl) (by kernel_rfl) H ?_
      refine c_load 0 rfl (by kernel_rfl) (j := 0) rfl ?_
      refine c_load 0 rfl (by kernel_rfl) (j := 3) rfl ?_
      refine c_call (.bool y124) (by kernel_rfl) (fun _ _ H => view_Has_ok (H.dat 1 rfl) hy125) ?_
      refine c_loadA (m := 2) 5 rfl (by kernel_rfl) (by kernel_rfl) [.int .i64 x2.2.1.1, .int .i64 x2.2.1.2] rfl rfl ?_
      refine c_loadA (m := 2) 0 rfl (by kernel_rfl) (by kernel_rfl) [.int .i64 x0.v_.1.1, .int .i64 x0.v_.1.2] rfl rfl ?_
      refine c_neq ((x2.2.1.1 == x0.v_.1.1) && (x2.2.1.2 == x0.v_.1.2)) (fun _ => (by kernel_rfl)) (fun _ => (by kernel_rfl)) ?_
      intro w130 H
      replace H := (H.pickL [0, 1, 2, 3, 4, 1, 5, 6, 7, 8] rfl).shutAs 5 (oL_rekey_Round g0_ (A104, c105, b106, b107, b108) x0) rfl
      try dsimp only [oU_rekey_Round, lastL, pickI, List.drop, List.take, List.set, List.eraseIdx, List.getElem?_cons_zero, List.getElem?_cons_succ, List.cons_append, List.nil_append, List.map] at H
      exact cut_inA ⟨_, h, rfl, H.pickL [0, 2, 4, 3, 5] rfl⟩
  · rintro _ w131 ⟨v101, h, rfl, H⟩
    unfold rekey_Round_Take.k2 at h
    refine nc_cond rfl (fun hc132 => ?_) (fun hc132 => ?_)
    · replace h := condT hc132 h
      refine nc_seq ?_
      refine nc ?_
      refine nc ?_
      replace H := H.nilRowD t_list_Message 58
      replace h := Option.some.inj h
      subst h
      exact ret_inA [.slice none 0 0] ⟨_, rfl, none, 0, [], a0_, rfl, (H.pickL [0, 1, 2, 6] rfl).tailOpen 3 rfl⟩
    · replace h := condF hc132 h
      refine nc ?_
      refine nc_cut (fun e w181 => ∃ (a180 : A_rekey_Round) (v179 : O_rekey_Round), rekey_Round_Take.k1 v179 = some r ∧ e = [] ∧ Eng.Own ok w0 w181 [box (oL_rekey_Round g0_ a180 v179), box R]) ?_ ?_
      · skip
        refine nc_seq ?_
        refine nc ?_
        refine own_load H 1 rfl (by kernel_rfl) (j := 0) rfl ?_
        refine nc_block ?_
        refine nc_seq ?_
        refine nc ?_
        refine nc_cond rfl (fun hc183 => ?_) (fun hc183 => ?_)
        · replace h := condT hc183 h
          refine nc_seq ?_
          refine nc ?_
          obtain ⟨A184, c185, b186, b187, b188⟩ := a0_
          replace H := H.openAs 0 (oU_rekey_Round g0_ ⟨A184, c185, b186, b187, b188⟩ x0) rfl rfl
          refine own_load H 0 rfl (by kernel_rfl) (j := 9) rfl ?_
          refine lookP2_rule (kt := 3) (et := 28) ([] : List UInt8) (by kernel_rfl) (by kernel_rfl) key3 x1 H 4 rfl ?_
          refine nc_seq ?_
          refine nc ?_
          refine own_load H 5 rfl (by kernel_rfl) (j := 7) rfl ?_
          refine nc_cond rfl (fun hc193 => ?_) (fun hc193 => ?_)
          · replace h := condT hc193 h
            obtain ⟨y202, hx203, h⟩ := bindS h
            obtain ⟨a204, cs205, rfl, hR206, H⟩ := H.elemI 7 rfl hx203
            obtain rfl : cs205 = [.string (bs y202)] := hR206
            refine nc ?_
            refine draw_ruleB [.dat (dCells (a204.add (((0 : Int)).toNat * (tStr).sz)) [.string (bs y202)]), .blk g0_ [.int .i64 x0.me_, .int .i64 x0.v_.1.1, .int .i64 x0.v_.1.2, .slice A184 x0.v_.2.length c185, .string (bs x0.secret_), .string (bs x0.tree_), .map (some b186), .map (some b187), .bool x0.marked_, .map (some b188)] 100, .blk g13 [.int .i64 x2.1, .int .i64 x2.2.1.1, .int .i64 x2.2.1.2, .int .i64 x2.2.2.1.1, .int .i64 x2.2.2.1.2, .int .i64 x2.2.2.2.1, .slice A6 x2.2.2.2.2.1.length c7, .slice (some a204) x2.2.2.2.2.2.length c10] 58] [] (fun j => undef) [1000, 1000, 1000, 1000, 1000, 1000, 1000, 1000, 1000, 1000] (by kernel_rfl) (by kernel_rfl) H (by repeat first | exact List.nil_sublist _ | apply List.Sublist.cons_cons | apply List.Sublist.cons) ?_
            refine c_load 1 rfl (by kernel_rfl) (j := 9) rfl ?_
            refine c_load 2 rfl (by kernel_rfl) (j := 7) rfl ?_
            refine c_idxA (e := 28) 1 _ (by kernel_rfl) (by kernel_rfl) (idxL_some hx203).1 (idxL_some hx203).2.1 ?_
            refine c_loadD 0 rfl 0 (by kernel_rfl) rfl ?_
            refine c_updP (e := encS) (kt := 3) (et := 28) (by kernel_rfl) key3 x1 y202 5 rfl ?_
            refine ⟨(by repeat first | exact List.nil_sublist _ | apply List.Sublist.cons_cons | apply List.Sublist.cons), ?_⟩
            intro w209 H
            replace H := (H.pickL [1, 2, 3, 4, 5, 0, 6, 7, 8, 9] rfl).shutAs 5 (oL_rekey_Round g0_ (A184, c185, b186, b187, b188) ({ x0 with marks_ := (putA x1 y202 x0.marks_) })) rfl
            try dsimp only [oU_rekey_Round, lastL, pickI, List.drop, List.take, List.set, List.eraseIdx, List.getElem?_cons_zero, List.getElem?_cons_succ, List.cons_append, List.nil_append, List.map] at H
            exact cut_inA ⟨(A184, c185, b186, b187, b188), _, h, rfl, H.pickL [0, 5] rfl⟩
          · replace h := condF hc193 h
            refine nc ?_
            replace H := (H.pickL [0, 1, 2, 3, 4, 5, 6, 7, 8] rfl).shutAs 5 (oL_rekey_Round g0_ (A184, c185, b186, b187, b188) x0) rfl
            try dsimp only [oU_rekey_Round, lastL, pickI, List.drop, List.take, List.set, List.eraseIdx, List.getElem?_cons_zero, List.getElem?_cons_succ, List.cons_append, List.nil_append, List.map] at H
            exact cut_inA ⟨(A184, c185, b186, b187, b188), _, h, rfl, H.pickL [0, 4] rfl⟩
        · replace h := condF hc183 h
          refine nc_seq ?_
          refine nc ?_
          refine nc_cond rfl (fun hc210 => ?_) (fun hc210 => ?_)
          · replace h := condT hc210 h
            refine nc_seq ?_
            refine nc ?_
            refine own_loadA (m := 8) H 1 rfl (by kernel_rfl) (by kernel_rfl) [.int .i64 x2.1, .int .i64 x2.2.1.1, .int .i64 x2.2.1.2, .int .i64 x2.2.2.1.1, .int .i64 x2.2.2.1.2, .int .i64 x2.2.2.2.1, .slice A6 x2.2.2.2.2.1.length c7, .slice A9 x2.2.2.2.2.2.length c10] rfl rfl ?_
            obtain ⟨y211, hy212, h⟩ := bindS h
            refine call_rule (by kernel_rfl) (rekey_Round_blinded_ok (x0 := x0) (x2 := x2) H (H.dat 2 rfl) (H.dat 3 rfl) hy212) fun v215 w214 ⟨a213, hv216, H⟩ => ?_
            subst hv216
            refine nc_cond rfl (fun hc217 => ?_) (fun hc217 => ?_)
            · replace h := condT hc217 h
              refine nc_seq ?_
              refine nc ?_
              obtain ⟨y218, hy219, h⟩ := bindS h
              refine call_rule (by kernel_rfl) (rekey_Round_Start_ok (x0 := y211.2) H hy219) fun v226 w225 ⟨A220, c221, cs222, a224, hv227, H⟩ => ?_
              subst hv227
              refine nc ?_
              replace h := Option.some.inj h
              subst h
              exact ret_inA [.slice A220 y218.1.length c221] ⟨_, rfl, A220, c221, cs222, a224, rfl, (H.pickL [0, 1, 2, 6] rfl).tailOpen 3 rfl⟩
            · replace h := condF hc217 h
              refine nc ?_
              exact cut_inA ⟨a213, _, h, rfl, H.pickL [0, 4] rfl⟩
          · replace h := condF hc210 h
            refine nc ?_
            exact cut_inA ⟨a0_, _, h, rfl, H.pickL [0, 4] rfl⟩
      · rintro _ w228 ⟨a180, v179, h, rfl, H⟩
        unfold rekey_Round_Take.k1 at h
        refine nc_seq ?_
        refine nc ?_
        refine nc ?_
        replace H := H.nilRowD t_list_Message 58
        replace h := Option.some.inj h
        subst h
        exact ret_inA [.slice none 0 0] ⟨_, rfl, none, 0, [], a180, rfl, (H.pickL [0, 1, 2, 3] rfl).tailOpen 3 rfl⟩
/-! gemot/gemotlaw16.send -/
noncomputable def gemotlaw16_send.k1 (x1 : List Int) (x2 : Int) (x3 : List D_list_Message) (v6108 : Int) (v9311 : Int) (v9690 : List D_gemotlaw16_letter) : Option (((List D_gemotlaw16_letter) × Int) ⊕ (List D_gemotlaw16_letter)) := some (.inl (v9690, (IntKind.i64.wrap (v9311 + (1 : Int)))))
noncomputable def gemotlaw16_send.b2 (x1 : List Int) (x2 : Int) (x3 : List D_list_Message) (v6108 : Int) (v9307 : List D_gemotlaw16_letter) (v9311 : Int) : Option (((List D_gemotlaw16_letter) × Int) ⊕ (List D_gemotlaw16_letter)) := cond (decide (v9311 < (x1.length : Int))) (cond (v9311 != x2) ((idxL x1 x2).bind fun y9730 => (idxL x3 v6108).bind fun y9736 => roomM 112 (v9307.length + 1) (gemotlaw16_send.k1 x1 x2 x3 v6108 v9311 (v9307 ++ [(y9730, v9311, y9736)]))) (gemotlaw16_send.k1 x1 x2 x3 v6108 v9311 v9307)) (some (.inr v9307))
noncomputable def gemotlaw16_send.k3 (x1 : List Int) (x2 : Int) (x3 : List D_list_Message) (v6108 : Int) (v9157 : List D_gemotlaw16_letter) : Option (((List D_gemotlaw16_letter) × Int) ⊕ (List D_gemotlaw16_letter)) := some (.inl (v9157, (IntKind.i64.wrap (v6108 + (1 : Int)))))
noncomputable def gemotlaw16_send.b4 (x1 : List Int) (x2 : Int) (x3 : List D_list_Message) (v6104 : List D_gemotlaw16_letter) (v6108 : Int) : Option (((List D_gemotlaw16_letter) × Int) ⊕ (List D_gemotlaw16_letter)) := cond (decide (v6108 < (x3.length : Int))) ((loopM (fun s9618 : (List D_gemotlaw16_letter) × Int => gemotlaw16_send.b2 x1 x2 x3 v6108 s9618.1 s9618.2) (v6104, (0 : Int))).bind (fun (o9617 : (List D_gemotlaw16_letter)) => gemotlaw16_send.k3 x1 x2 x3 v6108 o9617)) (some (.inr v6104))
noncomputable def gemotlaw16_send.k5 (v4886 : List D_gemotlaw16_letter) : Option ((List D_gemotlaw16_letter)) := some v4886
noncomputable def gemotlaw16_send.f (x0 : List D_gemotlaw16_letter) (x1 : List Int) (x2 : Int) (x3 : List D_list_Message) : Option ((List D_gemotlaw16_letter)) := (loopM (fun s8551 : (List D_gemotlaw16_letter) × Int => gemotlaw16_send.b4 x1 x2 x3 s8551.1 s8551.2) (x0, (0 : Int))).bind (fun (o8550 : (List D_gemotlaw16_letter)) => gemotlaw16_send.k5 o8550)
set_option maxHeartbeats 8000000 in
theorem gemotlaw16_send_ok {ok : Nat → Prop} {w0 w : World} {R : List Eng.Item} {A0_ : Option Addr} {c0_ : Nat} {cs0_ : List Value} {u2 : Value} {u4 : Value} {x0 : List D_gemotlaw16_letter} {x1 : List Int} {x2 : Int} {x3 : List D_list_Message} {r : (List D_gemotlaw16_letter)} (H : Eng.Own ok w0 w (.dat (dRows t_gemotlaw16_letter x0 cs0_) :: .row (.slice A0_ x0.length c0_) 60 10 x0.length cs0_ :: R)) (hu3 : slR (tInt .i64) w (okOf ok w0 (.dat (dRows t_gemotlaw16_letter x0 cs0_) :: .row (.slice A0_ x0.length c0_) 60 10 x0.length cs0_ :: R)) u2 x1) (hu5 : slR t_list_Message w (okOf ok w0 (.dat (dRows t_gemotlaw16_letter x0 cs0_) :: .row (.slice A0_ x0.length c0_) 60 10 x0.length cs0_ :: R)) u4 x3) (h : gemotlaw16_send.f x0 x1 x2 x3 = some r) :
    Calls Tryz.prog 27 #[.slice A0_ x0.length c0_, u2, .int .i64 x2, u4] w fun e w' => ∃ v, e = .returned v ∧ ∃ (A1' : Option Addr) (c2' : Nat) (cs3' : List Value), v = .slice A1' r.length c2' ∧ Eng.Own ok w0 w' (.dat (dRows t_gemotlaw16_letter r cs3') :: .row (.slice A1' r.length c2') 60 10 r.length cs3' :: R) := by
  obtain ⟨A6, c7, rfl, H⟩ := H.openD hu3
  obtain ⟨A9, c10, rfl, H⟩ := H.openD hu5
  replace H := H.tailBox 4
  unfold gemotlaw16_send.f at h
  refine enterN (args := [.slice A0_ x0.length c0_, .slice A6 x1.length c7, .int .i64 x2, .slice A9 x3.length c10]) Tryz.func27 rfl Tryz.ntmps27 rfl rfl ?_
  refine nc_seq ?_
  refine nc ?_
  refine nc_cut (fun e w4890 => ∃ (A4887 : Option Addr) (c4888 : Nat) (cs4889 : List Value) (v4886 : List D_gemotlaw16_letter), gemotlaw16_send.k5 v4886 = some r ∧ e = [(0, .slice A4887 v4886.length c4888)] ∧ Eng.Own ok w0 w4890 [.dat (dRows t_gemotlaw16_letter v4886 cs4889), .row (.slice A4887 v4886.length c4888) 60 10 v4886.length cs4889, box R]) ?_ ?_
  · skip
    refine nc_seq ?_
    refine nc ?_
    refine nc_block ?_
    obtain ⟨o8542, hL8543, hO8544⟩ := bindS h
    obtain ⟨n8545, hL8543⟩ := loopS hL8543
    refine nc ?_
    refine loop_ruleA (fun k e w8549 => ∃ (A6105 : Option Addr) (c6106 : Nat) (cs6107 : List Value) (v6104 : List D_gemotlaw16_letter) (v6108 : Int), iterM (fun s8551 : (List D_gemotlaw16_letter) × Int => gemotlaw16_send.b4 x1 x2 x3 s8551.1 s8551.2) k (v6104, v6108) = some o8542 ∧ e = [(0, .slice A6105 v6104.length c6106), (1, .slice A6 x1.length c7), (2, .int .i64 x2), (3, .slice A9 x3.length c10), (9, .int .i64 v6108)] ∧ Eng.Own ok w0 w8549 [.dat (dRows t_gemotlaw16_letter v6104 cs6107), .row (.slice A6105 v6104.length c6106) 60 10 v6104.length cs6107, .dat (dSl (tInt .i64) (.slice A6 x1.length c7) x1), .dat (dSl t_list_Message (.slice A9 x3.length c10) x3), box R]) ⟨A0_, c0_, cs0_, _, _, hL8543, rfl, H.pickL [2, 3, 1, 0, 4] rfl⟩ ?_
    rintro k8553 _ w8552 ⟨A6105, c6106, cs6107, v6104, v6108, hL8543, rfl, H⟩
    obtain ⟨k8548, rfl, q8546, h, hq8547⟩ := iterS hL8543
    replace h : gemotlaw16_send.b4 x1 x2 x3 v6104 v6108 = some q8546 := h
    unfold gemotlaw16_send.b4 at h
    refine nc_seq ?_
    refine nc_seq ?_
    refine nc ?_
    refine nc_cond rfl (fun hc8554 => ?_) (fun hc8554 => ?_)
    · replace h := condT hc8554 h
      refine nc ?_
      refine nc_cut (fun e w9161 => ∃ (A9158 : Option Addr) (c9159 : Nat) (cs9160 : List Value) (v9157 : List D_gemotlaw16_letter), gemotlaw16_send.k3 x1 x2 x3 v6108 v9157 = some q8546 ∧ e = [(0, .slice A9158 v9157.length c9159), (1, .slice A6 x1.length c7), (2, .int .i64 x2), (3, .slice A9 x3.length c10), (9, .int .i64 v6108)] ∧ Eng.Own ok w0 w9161 [.dat (dRows t_gemotlaw16_letter v9157 cs9160), .row (.slice A9158 v9157.length c9159) 60 10 v9157.length cs9160, .dat (dSl (tInt .i64) (.slice A6 x1.length c7) x1), .dat (dSl t_list_Message (.slice A9 x3.length c10) x3), box R]) ?_ ?_
      · skip
        refine nc_block ?_
        refine nc_seq ?_
        refine nc ?_
        refine nc_block ?_
        obtain ⟨o9609, hL9610, hO9611⟩ := bindS h
        obtain ⟨n9612, hL9610⟩ := loopS hL9610
        refine nc ?_
        refine loop_ruleA (fun k e w9616 => ∃ (A9308 : Option Addr) (c9309 : Nat) (cs9310 : List Value) (v9307 : List D_gemotlaw16_letter) (v9311 : Int), iterM (fun s9618 : (List D_gemotlaw16_letter) × Int => gemotlaw16_send.b2 x1 x2 x3 v6108 s9618.1 s9618.2) k (v9307, v9311) = some o9609 ∧ e = [(0, .slice A9308 v9307.length c9309), (1, .slice A6 x1.length c7), (2, .int .i64 x2), (3, .slice A9 x3.length c10), (9, .int .i64 v6108), (10, .int .i64 v9311)] ∧ Eng.Own ok w0 w9616 [.dat (dRows t_gemotlaw16_letter v9307 cs9310), .row (.slice A9308 v9307.length c9309) 60 10 v9307.length cs9310, .dat (dSl (tInt .i64) (.slice A6 x1.length c7) x1), .dat (dSl t_list_Message (.slice A9 x3.length c10) x3), box R]) ⟨A6105, c6106, cs6107, _, _, hL9610, rfl, H.pickL [0, 1, 2, 3, 4] rfl⟩ ?_
        rintro k9620 _ w9619 ⟨A9308, c9309, cs9310, v9307, v9311, hL9610, rfl, H⟩
        obtain ⟨k9615, rfl, q9613, h, hq9614⟩ := iterS hL9610
        replace h : gemotlaw16_send.b2 x1 x2 x3 v6108 v9307 v9311 = some q9613 := h
        unfold gemotlaw16_send.b2 at h
        refine nc_seq ?_
        refine nc_seq ?_
        refine nc ?_
        refine nc_cond rfl (fun hc9621 => ?_) (fun hc9621 => ?_)
        · replace h := condT hc9621 h
          refine nc ?_
          refine nc_cut (fun e w9694 => ∃ (A9691 : Option Addr) (c9692 : Nat) (cs9693 : List Value) (v9690 : List D_gemotlaw16_letter), gemotlaw16_send.k1 x1 x2 x3 v6108 v9311 v9690 = some q9613 ∧ e = [(0, .slice A9691 v9690.length c9692), (1, .slice A6 x1.length c7), (2, .int .i64 x2), (3, .slice A9 x3.length c10), (9, .int .i64 v6108), (10, .int .i64 v9311)] ∧ Eng.Own ok w0 w9694 [.dat (dRows t_gemotlaw16_letter v9690 cs9693), .row (.slice A9691 v9690.length c9692) 60 10 v9690.length cs9693, .dat (dSl (tInt .i64) (.slice A6 x1.length c7) x1), .dat (dSl t_list_Message (.slice A9 x3.length c10) x3), box R]) ?_ ?_
          · skip
            refine nc_block ?_
            refine nc_seq ?_
            refine nc ?_
            refine nc_cond rfl (fun hc9696 => ?_) (fun hc9696 => ?_)
            · replace h := condT hc9696 h
              obtain ⟨y9730, hx9731, h⟩ := bindS h
              obtain ⟨a9732, cs9733, rfl, hR9734, H⟩ := H.elemI 2 rfl hx9731
              obtain rfl : cs9733 = [.int .i64 y9730] := hR9734
              obtain ⟨y9736, hx9737, h⟩ := bindS h
              obtain ⟨a9738, cs9739, rfl, hR9740, H⟩ := H.elemI 4 rfl hx9737
              obtain ⟨u9742, u9743, rfl, hu9744, hu9745⟩ := list_Message_cells hR9740
              obtain ⟨A9746, c9747, rfl, H⟩ := H.openD hu9744
              obtain ⟨A9749, c9750, rfl, H⟩ := H.openD hu9745
              obtain ⟨hr9755, h⟩ := roomS h
              refine nc ?_
              refine draw_rule [] (by kernel_rfl) (by kernel_rfl) H ?_
              refine c_idxA (e := 3) 1 _ (by kernel_rfl) (by kernel_rfl) (idxL_some hx9731).1 (idxL_some hx9731).2.1 ?_
              refine c_loadD 3 rfl 0 (by kernel_rfl) rfl ?_
              refine c_idxA (e := 58) 8 _ (by kernel_rfl) (by kernel_rfl) (idxL_some hx9737).1 (idxL_some hx9737).2.1 ?_
              refine c_loadDA (m := 8) 2 rfl 0 (by kernel_rfl) (by kernel_rfl) [.int .i64 y9736.1, .int .i64 y9736.2.1.1, .int .i64 y9736.2.1.2, .int .i64 y9736.2.2.1.1, .int .i64 y9736.2.2.1.2, .int .i64 y9736.2.2.2.1, .slice A9746 y9736.2.2.2.2.1.length c9747, .slice A9749 y9736.2.2.2.2.2.length c9750] rfl rfl ?_
              refine c_buildSlice (e := 60) (sz := 10) (z := .agg #[.int .i64 0, .int .i64 0, .int .i64 0, .int .i64 0, .int .i64 0, .int .i64 0, .int .i64 0, .int .i64 0, .slice none 0 0, .slice none 0 0]) (cs := [.int .i64 y9730, .int .i64 v9311, .int .i64 y9736.1, .int .i64 y9736.2.1.1, .int .i64 y9736.2.1.2, .int .i64 y9736.2.2.1.1, .int .i64 y9736.2.2.1.2, .int .i64 y9736.2.2.2.1, .slice A9746 y9736.2.2.2.2.1.length c9747, .slice A9749 y9736.2.2.2.2.2.length c9750]) (by kernel_rfl) (by kernel_rfl) (by kernel_rfl) rfl rfl rfl rfl ?_
              intro g9753
              refine c_append1 (k := t_gemotlaw16_letter) (z := .agg #[.int .i64 0, .int .i64 0, .int .i64 0, .int .i64 0, .int .i64 0, .int .i64 0, .int .i64 0, .int .i64 0, .slice none 0 0, .slice none 0 0]) (x := (y9730, v9311, y9736)) 112 5 4 rfl rfl rfl (fun _ H => (gemotlaw16_letter_in (x := (y9730, v9311, y9736)) (H.dat 2 rfl) (H.dat 1 rfl))) (by kernel_rfl) (by kernel_rfl) rfl rfl hr9755 rfl ?_
              intro z9756 cs9757
              intro w9762 H
              obtain ⟨A9759, c9760, rfl, _, _⟩ := H.rowSl 5 rfl
              exact cut_inA ⟨A9759, c9760, cs9757, _, h, rfl, H.pickL [4, 5, 6, 7, 8] rfl⟩
            · replace h := condF hc9696 h
              refine nc ?_
              exact cut_inA ⟨A9308, c9309, cs9310, _, h, rfl, H.pickL [0, 1, 2, 3, 4] rfl⟩
          · rintro _ w9763 ⟨A9691, c9692, cs9693, v9690, h, rfl, H⟩
            unfold gemotlaw16_send.k1 at h
            refine nc ?_
            cases h
            exact again_inA ⟨A9691, c9692, cs9693, _, _, hq9614, rfl, H.pickL [0, 1, 2, 3, 4] rfl⟩
        · replace h := condF hc9621 h
          refine nc ?_
          cases h
          replace hq9614 : v9307 = o9609 := hq9614
          subst hq9614
          have h := hO9611
          try dsimp only [Sum.elim_inl, Sum.elim_inr] at h
          exact cut_inA ⟨A9308, c9309, cs9310, _, h, rfl, H.pickL [0, 1, 2, 3, 4] rfl⟩
      · rintro _ w9764 ⟨A9158, c9159, cs9160, v9157, h, rfl, H⟩
        unfold gemotlaw16_send.k3 at h
        refine nc ?_
        cases h
        exact again_inA ⟨A9158, c9159, cs9160, _, _, hq8547, rfl, H.pickL [0, 1, 2, 3, 4] rfl⟩
    · replace h := condF hc8554 h
      refine nc ?_
      cases h
      replace hq8547 : v6104 = o8542 := hq8547
      subst hq8547
      have h := hO8544
      try dsimp only [Sum.elim_inl, Sum.elim_inr] at h
      exact cut_inA ⟨A6105, c6106, cs6107, _, h, rfl, H.pickL [0, 1, 4] rfl⟩
  · rintro _ w9765 ⟨A4887, c4888, cs4889, v4886, h, rfl, H⟩
    unfold gemotlaw16_send.k5 at h
    refine nc_seq ?_
    refine nc ?_
    refine nc ?_
    replace h := Option.some.inj h
    subst h
    exact ret_inA [.slice A4887 v4886.length c4888] ⟨_, rfl, A4887, c4888, cs4889, rfl, (H.pickL [0, 1, 2] rfl).tailOpen 2 rfl⟩
/-! gemot/gemotlaw16.all -/
noncomputable def gemotlaw16_all.b1 (x0 : D_api_View) (x1 : Int) (x2 : List Int) (v562 : List (Option O_rekey_Round)) (v568 : List D_gemotlaw16_letter) (v572 : Int) : Option (((List (Option O_rekey_Round)) × (List D_gemotlaw16_letter) × Int) ⊕ (((List (Option O_rekey_Round)) × (List D_gemotlaw16_letter)) ⊕ ((List (Option O_rekey_Round)) × (List (List UInt8))))) := cond (decide (v572 < (x0.2.length : Int))) ((idxL x0.2 v572).bind fun y823 => (term_Name.f (IntKind.u64.wrap (x1 + (IntKind.u64.wrap v572)))).bind fun y829 => (rekey_New.f y823 x0 y829).bind fun y835 => cond (y835.1.isNone) (some (.inr (Sum.inr (([] : List (Option O_rekey_Round)), ([] : List (List UInt8)))))) ((y835.1).bind fun y847 => roomM 8 (v562.length + 1) ((rekey_Round_Start.f y847).bind fun y878 => (gemotlaw16_send.f v568 x0.2 v572 y878.1).bind fun y888 => some (.inl ((v562 ++ [some y878.2]), y888, (IntKind.i64.wrap (v572 + (1 : Int)))))))) (some (.inr (Sum.inl (v562, v568))))
noncomputable def gemotlaw16_all.k2 (x0 : D_api_View) (x2 : List Int) (v3052 : List D_gemotlaw16_letter) (v3057 : List (List UInt8)) (v3061 : Int) (v4147 : List (Option O_rekey_Round)) (v4152 : Int) : Option (((List (Option O_rekey_Round)) × (List D_gemotlaw16_letter) × (List (List UInt8)) × Int) ⊕ (((List (Option O_rekey_Round)) × (List (List UInt8))) ⊕ ((List (Option O_rekey_Round)) × (List (List UInt8))))) := (idxL v3052 v4152).bind fun y4172 => (slcM v3052 (0 : Int) v4152).bind fun y4231 => roomM 112 (([] : List D_gemotlaw16_letter).length + y4231.length) ((slcM v3052 (IntKind.i64.wrap (v4152 + (1 : Int))) (v3052.length : Int)).bind fun y4245 => roomM 112 ((([] : List D_gemotlaw16_letter) ++ y4231).length + y4245.length) (roomM 16 (v3057.length + y4172.2.2.2.2.2.2.2.length) ((idxL v4147 y4172.2.1).bind fun y4298 => (y4298).bind fun y4308 => (rekey_Round_Take.f y4308 y4172.1 y4172.2.2).bind fun y4310 => (gemotlaw16_send.f ((([] : List D_gemotlaw16_letter) ++ y4231) ++ y4245) x0.2 y4172.2.1 y4310.1).bind fun y4320 => cond (decide (v3061 > (2000 : Int))) (some (.inr (Sum.inr (([] : List (Option O_rekey_Round)), ([] : List (List UInt8)))))) (some (.inl ((v4147.set (y4172.2.1).toNat (some y4310.2)), y4320, (v3057 ++ y4172.2.2.2.2.2.2.2), (IntKind.i64.wrap (v3061 + (1 : Int)))))))))
noncomputable def gemotlaw16_all.b3 (x0 : D_api_View) (x2 : List Int) (v3046 : List (Option O_rekey_Round)) (v3052 : List D_gemotlaw16_letter) (v3057 : List (List UInt8)) (v3061 : Int) : Option (((List (Option O_rekey_Round)) × (List D_gemotlaw16_letter) × (List (List UInt8)) × Int) ⊕ (((List (Option O_rekey_Round)) × (List (List UInt8))) ⊕ ((List (Option O_rekey_Round)) × (List (List UInt8))))) := cond (decide ((v3052.length : Int) > (0 : Int))) (cond (decide ((x2.length : Int) > (0 : Int))) ((remM v3061 (x2.length : Int)).bind fun _ => (idxL x2 (v3061.tmod (x2.length : Int))).bind fun y4158 => (gemotlaw16_pick.f y4158 (v3052.length : Int)).bind fun y4164 => gemotlaw16_all.k2 x0 x2 v3052 v3057 v3061 v3046 y4164) (gemotlaw16_all.k2 x0 x2 v3052 v3057 v3061 v3046 (0 : Int))) (some (.inr (Sum.inl (v3046, v3057))))
noncomputable def gemotlaw16_all.k4 (v2613 : List (Option O_rekey_Round)) (v2619 : List (List UInt8)) : Option ((List (Option O_rekey_Round)) × (List (List UInt8))) := some (v2613, v2619)
noncomputable def gemotlaw16_all.k5 (x0 : D_api_View) (x2 : List Int) (v450 : List (Option O_rekey_Round)) (v456 : List D_gemotlaw16_letter) : Option ((List (Option O_rekey_Round)) × (List (List UInt8))) := (loopM (fun s3923 : (List (Option O_rekey_Round)) × (List D_gemotlaw16_letter) × (List (List UInt8)) × Int => gemotlaw16_all.b3 x0 x2 s3923.1 s3923.2.1 s3923.2.2.1 s3923.2.2.2) (v450, v456, ([] : List (List UInt8)), (0 : Int))).bind (Sum.elim (fun (o3920 : (List (Option O_rekey_Round)) × (List (List UInt8))) => gemotlaw16_all.k4 o3920.1 o3920.2) (fun (o3921 : (List (Option O_rekey_Round)) × (List (List UInt8))) => some o3921))
noncomputable def gemotlaw16_all.f (x0 : D_api_View) (x1 : Int) (x2 : List Int) : Option ((List (Option O_rekey_Round)) × (List (List UInt8))) := (loopM (fun s799 : (List (Option O_rekey_Round)) × (List D_gemotlaw16_letter) × Int => gemotlaw16_all.b1 x0 x1 x2 s799.1 s799.2.1 s799.2.2) (([] : List (Option O_rekey_Round)), ([] : List D_gemotlaw16_letter), (0 : Int))).bind (Sum.elim (fun (o794 : (List (Option O_rekey_Round)) × (List D_gemotlaw16_letter)) => gemotlaw16_all.k5 x0 x2 o794.1 o794.2) (fun (o795 : (List (Option O_rekey_Round)) × (List (List UInt8))) => some o795))
set_option maxHeartbeats 8000000 in
theorem gemotlaw16_all_ok {ok : Nat → Prop} {w0 w : World} {R : List Eng.Item} {u1 : Value} {u3 : Value} {x0 : D_api_View} {x1 : Int} {x2 : List Int} {r : (List (Option O_rekey_Round)) × (List (List UInt8))} (H : Eng.Own ok w0 w (R)) (hu2 : slR (tInt .i64) w (okOf ok w0 (R)) u1 x0.2) (hu4 : slR (tInt .i64) w (okOf ok w0 (R)) u3 x2) (h : gemotlaw16_all.f x0 x1 x2 = some r) :
    Calls Tryz.prog 21 #[.agg #[.int .i64 x0.1.1, .int .i64 x0.1.2, u1], .int .u64 x1, u3] w fun e w' => ∃ v, e = .returned v ∧ ∃ (A1' : Option Addr) (c2' : Nat) (cs3' : List Value) (al4' : List (Nat × A_rekey_Round)) (A5' : Option Addr) (c6' : Nat) (cs7' : List Value), v = .tuple #[.slice A1' r.1.length c2', .slice A5' r.2.length c6'] ∧ Eng.Own ok w0 w' (.dat (dRows tPtr (ptrA al4' r.1) cs3') :: .row (.slice A1' r.1.length c2') 46 1 r.1.length cs3' :: box (shelfL (objO oL_rekey_Round) al4' r.1) :: .dat (dRows tStr r.2 cs7') :: .row (.slice A5' r.2.length c6') 28 1 r.2.length cs7' :: R) := by
  obtain ⟨A5, c6, rfl, H⟩ := H.openD hu2
  obtain ⟨A8, c9, rfl, H⟩ := H.openD hu4
  replace H := H.tailBox 2
  unfold gemotlaw16_all.f at h
  refine enterN (args := [.agg #[.int .i64 x0.1.1, .int .i64 x0.1.2, .slice A5 x0.2.length c6], .int .u64 x1, .slice A8 x2.length c9]) Tryz.func21 rfl Tryz.ntmps21 rfl rfl ?_
  refine nc_seq ?_
  refine nc ?_
  refine own_box H [.int .i64 x0.1.1, .int .i64 x0.1.2, .slice A5 x0.2.length c6] rfl fun g12 w13 H => ?_
  refine nc_seq ?_
  refine nc ?_
  refine nc_seq ?_
  refine nc ?_
  refine nc_seq ?_
  refine nc ?_
  refine nc_cut (fun e w460 => ∃ (A451 : Option Addr) (c452 : Nat) (cs453 : List Value) (al454 : List (Nat × A_rekey_Round)) (A457 : Option Addr) (c458 : Nat) (cs459 : List Value) (v450 : List (Option O_rekey_Round)) (v456 : List D_gemotlaw16_letter), gemotlaw16_all.k5 x0 x2 v450 v456 = some r ∧ e = [(2, .slice A8 x2.length c9), (3, .pointer (some ⟨g12, 0, none⟩)), (8, .slice A451 v450.length c452), (9, .slice A457 v456.length c458), (10, .slice none 0 0)] ∧ Eng.Own ok w0 w460 [.dat (dSl (tInt .i64) (.slice A8 x2.length c9) x2), .blk g12 [.int .i64 x0.1.1, .int .i64 x0.1.2, .slice A5 x0.2.length c6] 38, .dat (dSl (tInt .i64) (.slice A5 x0.2.length c6) x0.2), .dat (dRows tPtr (ptrA al454 v450) cs453), .row (.slice A451 v450.length c452) 46 1 v450.length cs453, box (shelfL (objO oL_rekey_Round) al454 v450), .dat (dRows t_gemotlaw16_letter v456 cs459), .row (.slice A457 v456.length c458) 60 10 v456.length cs459, box R]) ?_ ?_
  · skip
    refine nc_seq ?_
    refine nc ?_
    refine nc_block ?_
    replace H := H.nilObjs (f := oL_rekey_Round) 46
    replace H := H.nilRowD t_gemotlaw16_letter 60
    obtain ⟨o786, hL787, hO788⟩ := bindS h
    obtain ⟨n789, hL787⟩ := loopS hL787
    refine nc ?_
    refine loop_ruleA (fun k e w793 => ∃ (A563 : Option Addr) (c564 : Nat) (cs565 : List Value) (al566 : List (Nat × A_rekey_Round)) (A569 : Option Addr) (c570 : Nat) (cs571 : List Value) (v562 : List (Option O_rekey_Round)) (v568 : List D_gemotlaw16_letter) (v572 : Int), iterM (fun s799 : (List (Option O_rekey_Round)) × (List D_gemotlaw16_letter) × Int => gemotlaw16_all.b1 x0 x1 x2 s799.1 s799.2.1 s799.2.2) k (v562, v568, v572) = some o786 ∧ e = [(1, .int .u64 x1), (2, .slice A8 x2.length c9), (3, .pointer (some ⟨g12, 0, none⟩)), (8, .slice A563 v562.length c564), (9, .slice A569 v568.length c570), (10, .slice none 0 0), (11, .int .i64 v572)] ∧ Eng.Own ok w0 w793 [.dat (dSl (tInt .i64) (.slice A8 x2.length c9) x2), .blk g12 [.int .i64 x0.1.1, .int .i64 x0.1.2, .slice A5 x0.2.length c6] 38, .dat (dSl (tInt .i64) (.slice A5 x0.2.length c6) x0.2), .dat (dRows tPtr (ptrA al566 v562) cs565), .row (.slice A563 v562.length c564) 46 1 v562.length cs565, box (shelfL (objO oL_rekey_Round) al566 v562), .dat (dRows t_gemotlaw16_letter v568 cs571), .row (.slice A569 v568.length c570) 60 10 v568.length cs571, box R]) ⟨none, 0, [], [], none, 0, [], _, _, _, hL787, rfl, H.pickL [6, 5, 7, 3, 4, 2, 0, 1, 8] rfl⟩ ?_
    rintro k801 _ w800 ⟨A563, c564, cs565, al566, A569, c570, cs571, v562, v568, v572, hL787, rfl, H⟩
    obtain ⟨k792, rfl, q790, h, hq791⟩ := iterS hL787
    replace h : gemotlaw16_all.b1 x0 x1 x2 v562 v568 v572 = some q790 := h
    unfold gemotlaw16_all.b1 at h
    refine nc_seq ?_
    refine nc_seq ?_
    refine nc ?_
    refine own_load H 1 rfl (by kernel_rfl) (j := 2) rfl ?_
    refine nc_cond rfl (fun hc802 => ?_) (fun hc802 => ?_)
    · replace h := condT hc802 h
      refine nc ?_
      refine nc_seq ?_
      refine nc_block ?_
      refine nc_seq ?_
      obtain ⟨y823, hx824, h⟩ := bindS h
      obtain ⟨a825, cs826, rfl, hR827, H⟩ := H.elemI 2 rfl hx824
      obtain rfl : cs826 = [.int .i64 y823] := hR827
      obtain ⟨y829, hy830, h⟩ := bindS h
      obtain ⟨y835, hy836, h⟩ := bindS h
      try dsimp only [lastL, pickI, List.drop, List.take, List.set, List.eraseIdx, List.getElem?_cons_zero, List.getElem?_cons_succ, List.cons_append, List.nil_append, List.map] at H
      refine nc ?_
      refine draw_ruleB [.dat (dCells (a825.add ((v572).toNat * ((tInt .i64)).sz)) [.int .i64 y823]), .blk g12 [.int .i64 x0.1.1, .int .i64 x0.1.2, .slice (some a825) x0.2.length c6] 38] [] (fun j => undef) [1000, 1000, 1000, 1000, 1000, 1000, 1000, 1000, 1000, 1000, 1000, 1000, 1000, 1000, 1000, 1000, 1000] (by kernel_rfl) (by kernel_rfl) H (by repeat first | exact List.nil_sublist _ | apply List.Sublist.cons_cons | apply List.Sublist.cons) ?_
      refine c_load 1 rfl (by kernel_rfl) (j := 2) rfl ?_
      refine c_idxA (e := 3) 1 _ (by kernel_rfl) (by kernel_rfl) (idxL_some hx824).1 (idxL_some hx824).2.1 ?_
      refine c_loadD 0 rfl 0 (by kernel_rfl) rfl ?_
      refine c_loadA (m := 3) 1 rfl (by kernel_rfl) (by kernel_rfl) [.int .i64 x0.1.1, .int .i64 x0.1.2, .slice (some a825) x0.2.length c6] rfl rfl ?_
      refine c_call (.string (bs y829)) (by kernel_rfl) (fun _ _ H => term_Name_ok hy830) ?_
      refine ⟨(by repeat first | exact List.nil_sublist _ | apply List.Sublist.cons_cons | apply List.Sublist.cons), ?_⟩
      refine c_callM [0, 1, 2, 3, 4, 5, 6, 7, 8, 9] 0 (fun v X => ∃ g837, ∃ a838, v = .tuple #[.pointer (optA g837 y835.1), .int .i64 y835.2] ∧ X = [box (optL oL_rekey_Round g837 a838 y835.1)]) rfl (by kernel_rfl) (by kernel_rfl) rfl (fun _ H => Calls.mono (rekey_New_ok (x1 := x0) H (H.dat 3 rfl) hy836) fun e w' ⟨v, he, g837, a838, hv, H⟩ => ⟨v, he, _, ⟨g837, a838, hv, rfl⟩, H⟩) ?_
      rintro v840 X841 ⟨g837, a838, rfl, rfl⟩
      dsimp only [lastL, pickI, List.drop, List.take, List.set, List.eraseIdx, List.getElem?_cons_zero, List.getElem?_cons_succ, List.cons_append, List.nil_append, List.map]
      refine ⟨(by repeat first | exact List.nil_sublist _ | apply List.Sublist.cons_cons | apply List.Sublist.cons), ?_⟩
      intro w842 H
      dsimp only [lastL, pickI, List.drop, List.take, List.set, List.eraseIdx, List.getElem?_cons_zero, List.getElem?_cons_succ, List.cons_append, List.nil_append, List.map] at H
      refine nc_seq ?_
      refine nc_seq ?_
      refine nc ?_
      refine eqlO_rule (by kernel_rfl) ?_
      refine nc_cond rfl (fun hc843 => ?_) (fun hc843 => ?_)
      · replace h := condT hc843 h
        refine nc_seq ?_
        refine nc ?_
        refine nc ?_
        cases h
        replace hq791 : (Sum.inr (([] : List (Option O_rekey_Round)), ([] : List (List UInt8)))) = o786 := hq791
        subst hq791
        have h := hO788
        try dsimp only [Sum.elim_inl, Sum.elim_inr] at h
        replace H := H.nilObjs (f := oL_rekey_Round) 46
        replace H := H.nilRowD tStr 28
        replace h := Option.some.inj h
        subst h
        exact ret_inA [.slice none ([] : List (Option O_rekey_Round)).length 0, .slice none 0 0] ⟨_, rfl, none, 0, [], [], none, 0, [], rfl, (H.pickL [3, 4, 2, 0, 1, 15] rfl).tailOpen 5 rfl⟩
      · replace h := condF hc843 h
        refine nc ?_
        refine nc_seq ?_
        refine nc ?_
        obtain ⟨y847, hy848, h⟩ := bindS h
        replace H := H.someAt 0 rfl hy848
        try rw [hy848]
        refine own_buildSlice (e := 46) (sz := 1) (z := .pointer none) (cs := [.pointer (some ⟨g837, 0, none⟩)]) H (by kernel_rfl) (by kernel_rfl) (by kernel_rfl) rfl rfl rfl rfl fun g850 w851 H => ?_
        obtain ⟨hr852, h⟩ := roomS h
        replace H := H.pickL [0, 6, 7, 8, 1, 2, 3, 4, 5, 9, 10, 11] rfl
        refine pushK_rule (z := .pointer none) 8 H (by kernel_rfl) (by kernel_rfl) rfl hr852 rfl fun A853 c854 cs855 w856 H => ?_
        obtain ⟨y878, hy879, h⟩ := bindS h
        obtain ⟨y888, hy889, h⟩ := bindS h
        try dsimp only [lastL, pickI, List.drop, List.take, List.set, List.eraseIdx, List.getElem?_cons_zero, List.getElem?_cons_succ, List.cons_append, List.nil_append, List.map] at H
        refine nc ?_
        refine draw_ruleB [.blk g12 [.int .i64 x0.1.1, .int .i64 x0.1.2, .slice (some a825) x0.2.length c6] 38] [] (fun j => undef) [1000, 1000, 1000, 1000, 1000, 1000, 1000, 1000] (by kernel_rfl) (by kernel_rfl) H (by repeat first | exact List.nil_sublist _ | apply List.Sublist.cons_cons | apply List.Sublist.cons) ?_
        refine c_load 0 rfl (by kernel_rfl) (j := 2) rfl ?_
        refine c_callM [2, 0, 1, 3, 4, 5, 6, 7, 8, 9, 10] 1 (fun v X => ∃ A880, ∃ c881, ∃ cs882, ∃ a884, v = .slice A880 y878.1.length c881 ∧ X = [.dat (dRows t_list_Message y878.1 cs882), .dat (dSl t_list_Message (.slice A880 y878.1.length c881) y878.1), box (oL_rekey_Round g837 a884 y878.2)]) rfl (by kernel_rfl) (by kernel_rfl) rfl (fun _ H => Calls.mono (rekey_Round_Start_ok (x0 := y847) H hy879) fun e w' ⟨v, he, A880, c881, cs882, a884, hv, H⟩ => ⟨v, he, _, ⟨A880, c881, cs882, a884, hv, rfl⟩, (H.freeze (k := t_list_Message) 1 0 rfl rfl)⟩) ?_
        rintro v886 X887 ⟨A880, c881, cs882, a884, rfl, rfl⟩
        dsimp only [lastL, pickI, List.drop, List.take, List.set, List.eraseIdx, List.getElem?_cons_zero, List.getElem?_cons_succ, List.cons_append, List.nil_append, List.map]
        refine ⟨(by repeat first | exact List.nil_sublist _ | apply List.Sublist.cons_cons | apply List.Sublist.cons), ?_⟩
        refine c_callM [10, 11, 0, 1, 2, 3, 4, 5, 6, 7, 8, 9, 12] 2 (fun v X => ∃ A890, ∃ c891, ∃ cs892, v = .slice A890 y888.length c891 ∧ X = [.dat (dRows t_gemotlaw16_letter y888 cs892), .row (.slice A890 y888.length c891) 60 10 y888.length cs892]) rfl (by kernel_rfl) (by kernel_rfl) rfl (fun _ H => Calls.mono (gemotlaw16_send_ok (x0 := v568) H (H.dat 11 rfl) (H.dat 3 rfl) hy889) fun e w' ⟨v, he, A890, c891, cs892, hv, H⟩ => ⟨v, he, _, ⟨A890, c891, cs892, hv, rfl⟩, H⟩) ?_
        rintro v894 X895 ⟨A890, c891, cs892, rfl, rfl⟩
        dsimp only [lastL, pickI, List.drop, List.take, List.set, List.eraseIdx, List.getElem?_cons_zero, List.getElem?_cons_succ, List.cons_append, List.nil_append, List.map]
        refine ⟨(by repeat first | exact List.nil_sublist _ | apply List.Sublist.cons_cons | apply List.Sublist.cons), ?_⟩
        intro w896 H
        dsimp only [lastL, pickI, List.drop, List.take, List.set, List.eraseIdx, List.getElem?_cons_zero, List.getElem?_cons_succ, List.cons_append, List.nil_append, List.map] at H
        refine nc ?_
        obtain ⟨he898, H⟩ := Own.pushBack (a := a838) (s := y847) (H.pickL [4, 7, 0, 1, 2, 3, 5, 6, 8, 9, 10, 11, 12] rfl)
        replace H := H.datAs 5 rfl (congrArg (fun q => dRows tPtr q cs855) he898)
        have ho897 : (v562 ++ [some y847]).length = (v562 ++ [some y878.2]).length := by simp only [List.length_append, List.length_cons, List.length_nil]
        replace H := H.rowAs 6 rfl ho897
        try rw [ho897]
        cases h
        exact again_inA ⟨A853, c854, cs855, (al566 ++ [(g837, a884)]), A890, c891, cs892, _, _, _, hq791, rfl, H.pickL [8, 9, 10, 5, 6, 0, 1, 2, 11] rfl⟩
    · replace h := condF hc802 h
      refine nc ?_
      cases h
      replace hq791 : (Sum.inl (v562, v568)) = o786 := hq791
      subst hq791
      have h := hO788
      try dsimp only [Sum.elim_inl, Sum.elim_inr] at h
      exact cut_inA ⟨A563, c564, cs565, al566, A569, c570, cs571, _, _, h, rfl, H.pickL [0, 1, 2, 3, 4, 5, 6, 7, 8] rfl⟩
  · rintro _ w899 ⟨A451, c452, cs453, al454, A457, c458, cs459, v450, v456, h, rfl, H⟩
    unfold gemotlaw16_all.k5 at h
    refine nc_cut (fun e w2623 => ∃ (A2614 : Option Addr) (c2615 : Nat) (cs2616 : List Value) (al2617 : List (Nat × A_rekey_Round)) (A2620 : Option Addr) (c2621 : Nat) (cs2622 : List Value) (v2613 : List (Option O_rekey_Round)) (v2619 : List (List UInt8)), gemotlaw16_all.k4 v2613 v2619 = some r ∧ e = [(8, .slice A2614 v2613.length c2615), (10, .slice A2620 v2619.length c2621)] ∧ Eng.Own ok w0 w2623 [.dat (dRows tPtr (ptrA al2617 v2613) cs2616), .row (.slice A2614 v2613.length c2615) 46 1 v2613.length cs2616, box (shelfL (objO oL_rekey_Round) al2617 v2613), .dat (dRows tStr v2619 cs2622), .row (.slice A2620 v2619.length c2621) 28 1 v2619.length cs2622, box R]) ?_ ?_
    · skip
      refine nc_seq ?_
      refine nc ?_
      refine nc_block ?_
      replace H := H.nilRowD tStr 28
      obtain ⟨o3912, hL3913, hO3914⟩ := bindS h
      obtain ⟨n3915, hL3913⟩ := loopS hL3913
      refine nc ?_
      refine loop_ruleA (fun k e w3919 => ∃ (A3047 : Option Addr) (c3048 : Nat) (cs3049 : List Value) (al3050 : List (Nat × A_rekey_Round)) (A3053 : Option Addr) (c3054 : Nat) (cs3055 : List Value) (A3058 : Option Addr) (c3059 : Nat) (cs3060 : List Value) (v3046 : List (Option O_rekey_Round)) (v3052 : List D_gemotlaw16_letter) (v3057 : List (List UInt8)) (v3061 : Int), iterM (fun s3923 : (List (Option O_rekey_Round)) × (List D_gemotlaw16_letter) × (List (List UInt8)) × Int => gemotlaw16_all.b3 x0 x2 s3923.1 s3923.2.1 s3923.2.2.1 s3923.2.2.2) k (v3046, v3052, v3057, v3061) = some o3912 ∧ e = [(2, .slice A8 x2.length c9), (3, .pointer (some ⟨g12, 0, none⟩)), (8, .slice A3047 v3046.length c3048), (9, .slice A3053 v3052.length c3054), (10, .slice A3058 v3057.length c3059), (14, .int .i64 v3061)] ∧ Eng.Own ok w0 w3919 [.dat (dSl (tInt .i64) (.slice A8 x2.length c9) x2), .blk g12 [.int .i64 x0.1.1, .int .i64 x0.1.2, .slice A5 x0.2.length c6] 38, .dat (dSl (tInt .i64) (.slice A5 x0.2.length c6) x0.2), .dat (dRows tPtr (ptrA al3050 v3046) cs3049), .row (.slice A3047 v3046.length c3048) 46 1 v3046.length cs3049, box (shelfL (objO oL_rekey_Round) al3050 v3046), .dat (dRows t_gemotlaw16_letter v3052 cs3055), .row (.slice A3053 v3052.length c3054) 60 10 v3052.length cs3055, .dat (dRows tStr v3057 cs3060), .row (.slice A3058 v3057.length c3059) 28 1 v3057.length cs3060, box R]) ⟨A451, c452, cs453, al454, A457, c458, cs459, none, 0, [], _, _, _, _, hL3913, rfl, H.pickL [2, 3, 4, 5, 6, 7, 8, 9, 0, 1, 10] rfl⟩ ?_
      rintro k3925 _ w3924 ⟨A3047, c3048, cs3049, al3050, A3053, c3054, cs3055, A3058, c3059, cs3060, v3046, v3052, v3057, v3061, hL3913, rfl, H⟩
      obtain ⟨k3918, rfl, q3916, h, hq3917⟩ := iterS hL3913
      replace h : gemotlaw16_all.b3 x0 x2 v3046 v3052 v3057 v3061 = some q3916 := h
      unfold gemotlaw16_all.b3 at h
      refine nc_seq ?_
      refine nc_seq ?_
      refine nc ?_
      refine nc_cond rfl (fun hc3926 => ?_) (fun hc3926 => ?_)
      · replace h := condT hc3926 h
        refine nc ?_
        refine nc_seq ?_
        refine nc_block ?_
        refine nc_seq ?_
        refine nc ?_
        refine nc_cut (fun e w4153 => ∃ (A4148 : Option Addr) (c4149 : Nat) (cs4150 : List Value) (al4151 : List (Nat × A_rekey_Round)) (v4147 : List (Option O_rekey_Round)) (v4152 : Int), gemotlaw16_all.k2 x0 x2 v3052 v3057 v3061 v4147 v4152 = some q3916 ∧ e = [(2, .slice A8 x2.length c9), (3, .pointer (some ⟨g12, 0, none⟩)), (8, .slice A4148 v4147.length c4149), (9, .slice A3053 v3052.length c3054), (10, .slice A3058 v3057.length c3059), (14, .int .i64 v3061), (15, .int .i64 v4152)] ∧ Eng.Own ok w0 w4153 [.dat (dSl (tInt .i64) (.slice A8 x2.length c9) x2), .blk g12 [.int .i64 x0.1.1, .int .i64 x0.1.2, .slice A5 x0.2.length c6] 38, .dat (dSl (tInt .i64) (.slice A5 x0.2.length c6) x0.2), .dat (dRows tPtr (ptrA al4151 v4147) cs4150), .row (.slice A4148 v4147.length c4149) 46 1 v4147.length cs4150, box (shelfL (objO oL_rekey_Round) al4151 v4147), .dat (dRows t_gemotlaw16_letter v3052 cs3055), .row (.slice A3053 v3052.length c3054) 60 10 v3052.length cs3055, .dat (dRows tStr v3057 cs3060), .row (.slice A3058 v3057.length c3059) 28 1 v3057.length cs3060, box R]) ?_ ?_
        · skip
          refine nc_seq ?_
          refine nc ?_
          refine nc_cond rfl (fun hc4155 => ?_) (fun hc4155 => ?_)
          · replace h := condT hc4155 h
            refine nc ?_
            obtain ⟨y4156, hy4157, h⟩ := bindS h
            obtain ⟨hy4157b, rfl⟩ := remS hy4157
            refine rem_rule (fun _ => hy4157b) ?_
            obtain ⟨y4158, hx4159, h⟩ := bindS h
            obtain ⟨a4160, cs4161, rfl, hR4162, H⟩ := H.elemI 0 rfl hx4159
            obtain rfl : cs4161 = [.int .i64 y4158] := hR4162
            refine idxA_rule (e := 3) 1 _ (by kernel_rfl) (by kernel_rfl) (idxL_some hx4159).1 (idxL_some hx4159).2.1 ?_
            refine own_loadD H 0 rfl 0 (by kernel_rfl) rfl ?_
            obtain ⟨y4164, hy4165, h⟩ := bindS h
            refine call_rule (by kernel_rfl) (gemotlaw16_pick_ok (ok := fun _ => False) hy4165) fun v4167 w4166 ⟨hv4168, hb4169⟩ => ?_
            subst hv4168
            replace H := H.call hb4169
            exact cut_inA ⟨A3047, c3048, cs3049, al3050, _, _, h, rfl, H.pickL [1, 2, 3, 4, 5, 6, 7, 8, 9, 10, 11] rfl⟩
          · replace h := condF hc4155 h
            refine nc ?_
            exact cut_inA ⟨A3047, c3048, cs3049, al3050, _, _, h, rfl, H.pickL [0, 1, 2, 3, 4, 5, 6, 7, 8, 9, 10] rfl⟩
        · rintro _ w4170 ⟨A4148, c4149, cs4150, al4151, v4147, v4152, h, rfl, H⟩
          unfold gemotlaw16_all.k2 at h
          refine nc_seq ?_
          refine nc ?_
          replace H := H.freeze (k := t_gemotlaw16_letter) 7 6 rfl rfl
          obtain ⟨y4172, hx4173, h⟩ := bindS h
          obtain ⟨a4174, cs4175, rfl, hR4176, H⟩ := H.elemI 7 rfl hx4173
          obtain ⟨u4178, u4179, rfl, hu4180, hu4181⟩ := gemotlaw16_letter_cells hR4176
          obtain ⟨A4182, c4183, rfl, H⟩ := H.openD hu4180
          obtain ⟨A4185, c4186, rfl, H⟩ := H.openD hu4181
          refine idxA_rule (e := 60) 10 _ (by kernel_rfl) (by kernel_rfl) (idxL_some hx4173).1 (idxL_some hx4173).2.1 ?_
          refine own_loadDA (m := 10) H 2 rfl 0 (by kernel_rfl) (by kernel_rfl) [.int .i64 y4172.1, .int .i64 y4172.2.1, .int .i64 y4172.2.2.1, .int .i64 y4172.2.2.2.1.1, .int .i64 y4172.2.2.2.1.2, .int .i64 y4172.2.2.2.2.1.1, .int .i64 y4172.2.2.2.2.1.2, .int .i64 y4172.2.2.2.2.2.1, .slice A4182 y4172.2.2.2.2.2.2.1.length c4183, .slice A4185 y4172.2.2.2.2.2.2.2.length c4186] rfl rfl ?_
          refine own_alloc (z := .agg #[.int .i64 0, .int .i64 0, .int .i64 0, .int .i64 0, .int .i64 0, .int .i64 0, .int .i64 0, .int .i64 0, .slice none 0 0, .slice none 0 0]) H (by kernel_rfl) [.int .i64 0, .int .i64 0, .int .i64 0, .int .i64 0, .int .i64 0, .int .i64 0, .int .i64 0, .int .i64 0, .slice none 0 0, .slice none 0 0] rfl fun g4189 w4190 H => ?_
          refine own_storeB (m := 10) H 0 rfl (by kernel_rfl) [.int .i64 y4172.1, .int .i64 y4172.2.1, .int .i64 y4172.2.2.1, .int .i64 y4172.2.2.2.1.1, .int .i64 y4172.2.2.2.1.2, .int .i64 y4172.2.2.2.2.1.1, .int .i64 y4172.2.2.2.2.1.2, .int .i64 y4172.2.2.2.2.2.1, .slice A4182 y4172.2.2.2.2.2.2.1.length c4183, .slice A4185 y4172.2.2.2.2.2.2.2.length c4186] rfl rfl rfl rfl fun w4191 H => ?_
          refine nc_seq ?_
          obtain ⟨y4231, hx4232, h⟩ := bindS h
          obtain ⟨A4233, c4234, hp4235, H⟩ := H.pieceD 11 rfl hx4232
          have hn4237 := H.slLen 12 rfl
          obtain ⟨hr4238, h⟩ := roomS h
          obtain ⟨y4245, hx4246, h⟩ := bindS h
          obtain ⟨A4247, c4248, hp4249, H⟩ := H.pieceD 12 rfl hx4246
          have hn4251 := H.slLen 13 rfl
          obtain ⟨hr4252, h⟩ := roomS h
          refine nc ?_
          refine draw_rule [0, 0, 0, 0, 1000, 0, 0, 1000, 0, 1000, 0] (by kernel_rfl) (by kernel_rfl) H ?_
          refine c_buildEmpty (k := t_gemotlaw16_letter) (e := 60) (by kernel_rfl) (by kernel_rfl) ?_
          intro A4228 c4229
          refine c_pieceI (e := 60) 10 (0 : Int) v4152 (by kernel_rfl) (by kernel_rfl) rfl ⟨_, rfl⟩ hx4232 hn4237 hp4235 ?_
          refine c_appendD (k := t_gemotlaw16_letter) (z := .agg #[.int .i64 0, .int .i64 0, .int .i64 0, .int .i64 0, .int .i64 0, .int .i64 0, .int .i64 0, .int .i64 0, .slice none 0 0, .slice none 0 0]) 112 1 0 3 rfl rfl rfl rfl (by kernel_rfl) (by kernel_rfl) rfl rfl hr4238 rfl ?_
          intro A4242 c4243 cs4240
          refine c_pieceI (e := 60) 10 (IntKind.i64.wrap (v4152 + (1 : Int))) (v3052.length : Int) (by kernel_rfl) (by kernel_rfl) ⟨_, rfl⟩ rfl hx4246 hn4251 hp4249 ?_
          refine c_appendD (k := t_gemotlaw16_letter) (z := .agg #[.int .i64 0, .int .i64 0, .int .i64 0, .int .i64 0, .int .i64 0, .int .i64 0, .int .i64 0, .int .i64 0, .slice none 0 0, .slice none 0 0]) 112 1 0 2 rfl rfl rfl rfl (by kernel_rfl) (by kernel_rfl) rfl rfl hr4252 rfl ?_
          intro A4256 c4257 cs4254
          intro w4259 H
          refine nc_seq ?_
          refine nc ?_
          refine own_load H 4 rfl (by kernel_rfl) (j := 9) rfl ?_
          obtain ⟨hr4260, h⟩ := roomS h
          refine own_appendD (k := tStr) (z := .string ⟨#[]⟩) 16 H 17 16 5 rfl rfl rfl rfl (by kernel_rfl) (by kernel_rfl) rfl rfl hr4260 rfl fun z4261 cs4262 w4263 H => ?_
          obtain ⟨A4264, c4265, rfl, _, _⟩ := H.rowSl 17 rfl
          refine nc_seq ?_
          obtain ⟨y4298, hx4299, h⟩ := bindS h
          have ho4300 := H.objsLen 13 rfl
          obtain ⟨g4303, a4304, gp4305, hq4301, hput4302, H⟩ := idxOff (H.pickL [13, 0, 1, 2, 3, 4, 5, 6, 7, 8, 9, 10, 11, 12, 15, 16, 17, 18] rfl) hx4299
          obtain ⟨a4307, _, rfl, _, _⟩ := H.rowElem (k := tPtr) 14 13 rfl rfl ho4300 hq4301
          obtain ⟨y4308, hy4309, h⟩ := bindS h
          replace H := H.someAt 0 rfl hy4309
          try rw [hy4309]
          rw [hy4309] at hq4301
          obtain ⟨y4310, hy4311, h⟩ := bindS h
          obtain ⟨y4320, hy4321, h⟩ := bindS h
          try dsimp only [lastL, pickI, List.drop, List.take, List.set, List.eraseIdx, List.getElem?_cons_zero, List.getElem?_cons_succ, List.cons_append, List.nil_append, List.map] at H
          refine nc ?_
          refine draw_ruleB [.blk g4189 [.int .i64 y4172.1, .int .i64 y4172.2.1, .int .i64 y4172.2.2.1, .int .i64 y4172.2.2.2.1.1, .int .i64 y4172.2.2.2.1.2, .int .i64 y4172.2.2.2.2.1.1, .int .i64 y4172.2.2.2.2.1.2, .int .i64 y4172.2.2.2.2.2.1, .slice A4182 y4172.2.2.2.2.2.2.1.length c4183, .slice A4185 y4172.2.2.2.2.2.2.2.length c4186] 60, .blk g12 [.int .i64 x0.1.1, .int .i64 x0.1.2, .slice A5 x0.2.length c6] 38, .dat (dRows tPtr (ptrA al4151 v4147) cs4150), .row (.slice (some a4307) v4147.length c4149) 46 1 v4147.length cs4150] [] (fun j => undef) [1000, 1000, 1000, 1000, 1000, 1000, 1000, 1000, 1000, 1000, 1000, 1000, 1000, 1000, 1000, 1000, 1000] (by kernel_rfl) (by kernel_rfl) H (by repeat first | exact List.nil_sublist _ | apply List.Sublist.cons_cons | apply List.Sublist.cons) ?_
          refine c_load 1 rfl (by kernel_rfl) (j := 2) rfl ?_
          refine c_load 0 rfl (by kernel_rfl) (j := 1) rfl ?_
          refine c_load 0 rfl (by kernel_rfl) (j := 1) rfl ?_
          refine c_idxA (e := 46) 1 _ (by kernel_rfl) (by kernel_rfl) (idxL_some hx4299).1 (idxL_some hx4299).2.1 ?_
          refine c_rowLoad (k := tPtr) y4172.2.1 3 2 0 rfl rfl ho4300 hq4301 (by kernel_rfl) (fun _ _ cs hR => (show cs = [.pointer (some ⟨g4303, 0, none⟩)] → cs[0]? = some (.pointer (some ⟨g4303, 0, none⟩)) from fun h => by subst h; rfl) hR) ?_
          refine c_load 0 rfl (by kernel_rfl) (j := 0) rfl ?_
          refine c_loadA (m := 8) 0 rfl (by kernel_rfl) (by kernel_rfl) [.int .i64 y4172.2.2.1, .int .i64 y4172.2.2.2.1.1, .int .i64 y4172.2.2.2.1.2, .int .i64 y4172.2.2.2.2.1.1, .int .i64 y4172.2.2.2.2.1.2, .int .i64 y4172.2.2.2.2.2.1, .slice A4182 y4172.2.2.2.2.2.2.1.length c4183, .slice A4185 y4172.2.2.2.2.2.2.2.length c4186] rfl rfl ?_
          refine c_callM [0, 1, 2, 3, 4, 5, 6, 7, 8, 9, 10, 11, 12, 13, 14, 15, 16, 17, 18] 1 (fun v X => ∃ A4312, ∃ c4313, ∃ cs4314, ∃ a4316, v = .slice A4312 y4310.1.length c4313 ∧ X = [.dat (dRows t_list_Message y4310.1 cs4314), .dat (dSl t_list_Message (.slice A4312 y4310.1.length c4313) y4310.1), box (oL_rekey_Round g4303 a4316 y4310.2)]) rfl (by kernel_rfl) (by kernel_rfl) rfl (fun _ H => Calls.mono (rekey_Round_Take_ok (x0 := y4308) (x2 := y4172.2.2) H (H.dat 8 rfl) (H.dat 7 rfl) hy4311) fun e w' ⟨v, he, A4312, c4313, cs4314, a4316, hv, H⟩ => ⟨v, he, _, ⟨A4312, c4313, cs4314, a4316, hv, rfl⟩, (H.freeze (k := t_list_Message) 1 0 rfl rfl)⟩) ?_
          rintro v4318 X4319 ⟨A4312, c4313, cs4314, a4316, rfl, rfl⟩
          dsimp only [lastL, pickI, List.drop, List.take, List.set, List.eraseIdx, List.getElem?_cons_zero, List.getElem?_cons_succ, List.cons_append, List.nil_append, List.map]
          refine ⟨(by repeat first | exact List.nil_sublist _ | apply List.Sublist.cons_cons | apply List.Sublist.cons), ?_⟩
          refine c_callM [4, 5, 0, 1, 2, 3, 6, 7, 8, 9, 10, 11, 12, 13, 14, 15, 16, 17, 18, 19, 20] 2 (fun v X => ∃ A4322, ∃ c4323, ∃ cs4324, v = .slice A4322 y4320.length c4323 ∧ X = [.dat (dRows t_gemotlaw16_letter y4320 cs4324), .row (.slice A4322 y4320.length c4323) 60 10 y4320.length cs4324]) rfl (by kernel_rfl) (by kernel_rfl) rfl (fun _ H => Calls.mono (gemotlaw16_send_ok (x0 := ((([] : List D_gemotlaw16_letter) ++ y4231) ++ y4245)) H (H.dat 14 rfl) (H.dat 3 rfl) hy4321) fun e w' ⟨v, he, A4322, c4323, cs4324, hv, H⟩ => ⟨v, he, _, ⟨A4322, c4323, cs4324, hv, rfl⟩, H⟩) ?_
          rintro v4326 X4327 ⟨A4322, c4323, cs4324, rfl, rfl⟩
          dsimp only [lastL, pickI, List.drop, List.take, List.set, List.eraseIdx, List.getElem?_cons_zero, List.getElem?_cons_succ, List.cons_append, List.nil_append, List.map]
          refine ⟨(by repeat first | exact List.nil_sublist _ | apply List.Sublist.cons_cons | apply List.Sublist.cons), ?_⟩
          intro w4328 H
          dsimp only [lastL, pickI, List.drop, List.take, List.set, List.eraseIdx, List.getElem?_cons_zero, List.getElem?_cons_succ, List.cons_append, List.nil_append, List.map] at H
          refine nc_seq ?_
          refine nc ?_
          refine nc_cond rfl (fun hc4329 => ?_) (fun hc4329 => ?_)
          · replace h := condT hc4329 h
            refine nc_seq ?_
            refine nc ?_
            refine nc ?_
            obtain ⟨al4330, he4331, H⟩ := hput4302 (s' := (some y4310.2)) (by rw [hy4309]; rfl) (H.pickL [4, 5, 0, 1, 2, 3, 6, 7, 8, 9, 10, 11, 12, 13, 14, 15, 16, 17, 18, 19, 20] rfl)
            replace H := H.datAs 14 rfl (congrArg (fun q => dRows tPtr q cs4150) he4331)
            have ho4332 : v4147.length = (v4147.set (y4172.2.1).toNat (some y4310.2)).length := by simp only [List.length_set]
            replace H := H.rowAs 15 rfl ho4332
            try rw [ho4332]
            cases h
            replace hq3917 : (Sum.inr (([] : List (Option O_rekey_Round)), ([] : List (List UInt8)))) = o3912 := hq3917
            subst hq3917
            have h := hO3914
            try dsimp only [Sum.elim_inl, Sum.elim_inr] at h
            replace H := H.nilObjs (f := oL_rekey_Round) 46
            replace H := H.nilRowD tStr 28
            replace h := Option.some.inj h
            subst h
            exact ret_inA [.slice none ([] : List (Option O_rekey_Round)).length 0, .slice none 0 0] ⟨_, rfl, none, 0, [], [], none, 0, [], rfl, (H.pickL [3, 4, 2, 0, 1, 24] rfl).tailOpen 5 rfl⟩
          · replace h := condF hc4329 h
            refine nc ?_
            refine nc ?_
            obtain ⟨al4336, he4337, H⟩ := hput4302 (s' := (some y4310.2)) (by rw [hy4309]; rfl) (H.pickL [4, 5, 0, 1, 2, 3, 6, 7, 8, 9, 10, 11, 12, 13, 14, 15, 16, 17, 18, 19, 20] rfl)
            replace H := H.datAs 14 rfl (congrArg (fun q => dRows tPtr q cs4150) he4337)
            have ho4338 : v4147.length = (v4147.set (y4172.2.1).toNat (some y4310.2)).length := by simp only [List.length_set]
            replace H := H.rowAs 15 rfl ho4338
            try rw [ho4338]
            cases h
            exact again_inA ⟨some a4307, c4149, cs4150, al4336, A4322, c4323, cs4324, A4264, c4265, cs4262, _, _, _, _, hq3917, rfl, H.pickL [11, 12, 13, 14, 15, 0, 1, 2, 17, 18, 19] rfl⟩
      · replace h := condF hc3926 h
        refine nc ?_
        cases h
        replace hq3917 : (Sum.inl (v3046, v3057)) = o3912 := hq3917
        subst hq3917
        have h := hO3914
        try dsimp only [Sum.elim_inl, Sum.elim_inr] at h
        exact cut_inA ⟨A3047, c3048, cs3049, al3050, A3058, c3059, cs3060, _, _, h, rfl, H.pickL [3, 4, 5, 8, 9, 10] rfl⟩
    · rintro _ w4339 ⟨A2614, c2615, cs2616, al2617, A2620, c2621, cs2622, v2613, v2619, h, rfl, H⟩
      unfold gemotlaw16_all.k4 at h
      refine nc_seq ?_
      refine nc ?_
      refine nc ?_
      replace h := Option.some.inj h
      subst h
      exact ret_inA [.slice A2614 v2613.length c2615, .slice A2620 v2619.length c2621] ⟨_, rfl, A2614, c2615, cs2616, al2617, A2620, c2621, cs2622, rfl, (H.pickL [0, 1, 2, 3, 4, 5] rfl).tailOpen 5 rfl⟩
/-! gemot/gemotlaw16.shown -/
noncomputable def gemotlaw16_shown.k1 (v410 : Bool) : Option (Bool) := some v410
noncomputable def gemotlaw16_shown.k2 (y207 : (List D_list_Message) × O_rekey_Round) (y233 : (List D_list_Message) × O_rekey_Round) (v308 : List D_list_Message) (v311 : Bool) : Option (Bool) := cond v311 (some false) ((idxL y233.1 (0 : Int)).bind fun y336 => (rekey_Round_Take.f y207.2 (2 : Int) y336).bind fun y352 => (idxL v308 (0 : Int)).bind fun y362 => (rekey_Round_Take.f y233.2 (1 : Int) y362).bind fun y378 => (rekey_Round_Key.f y352.2).bind fun y388 => (rekey_Round_Key.f y378.2).bind fun y393 => cond (cond (cond y388.2 y393.2 false) (strEq y388.1 y393.1) false) ((rekey_Round_Confirmed.f y352.2).bind fun y414 => cond y414 ((rekey_Round_Confirmed.f y378.2).bind fun y420 => gemotlaw16_shown.k1 (cond (cond (cond (cond y388.2 y393.2 false) (strEq y388.1 y393.1) false) y414 false) y420 false)) (gemotlaw16_shown.k1 (cond (cond (cond (cond y388.2 y393.2 false) (strEq y388.1 y393.1) false) y414 false) false false))) (gemotlaw16_shown.k1 (cond (cond (cond (cond y388.2 y393.2 false) (strEq y388.1 y393.1) false) false false) false false)))
noncomputable def gemotlaw16_shown.k3 (y76 : (List D_list_Message) × O_rekey_Round) (y88 : (List D_list_Message) × O_rekey_Round) (v163 : List D_list_Message) (v166 : Bool) : Option (Bool) := cond v166 (some false) ((idxL y88.1 (0 : Int)).bind fun y191 => (rekey_Round_Take.f y76.2 (2 : Int) y191).bind fun y207 => (idxL v163 (0 : Int)).bind fun y217 => (rekey_Round_Take.f y88.2 (1 : Int) y217).bind fun y233 => cond (cond ((y207.1.length : Int) != (1 : Int)) true ((y233.1.length : Int) != (1 : Int))) (gemotlaw16_shown.k2 y207 y233 y207.1 (cond (cond ((y207.1.length : Int) != (1 : Int)) true ((y233.1.length : Int) != (1 : Int))) true ((0 : Int) != (8 : Int)))) ((idxL y207.1 (0 : Int)).bind fun y317 => gemotlaw16_shown.k2 y207 y233 y207.1 (cond (cond ((y207.1.length : Int) != (1 : Int)) true ((y233.1.length : Int) != (1 : Int))) true (y317.1 != (8 : Int)))))
noncomputable def gemotlaw16_shown.f : Option (Bool) := (gemotlaw16_of.f (3 : Int) (1 : Int)).bind fun y1 => (term_Name.f (1 : Int)).bind fun y31 => (rekey_New.f (1 : Int) y1 y31).bind fun y37 => (term_Name.f (2 : Int)).bind fun y59 => (rekey_New.f (2 : Int) y1 y59).bind fun y65 => cond (cond (y37.1.isNone) true (y65.1.isNone)) (some false) ((y37.1).bind fun y74 => (rekey_Round_Start.f y74).bind fun y76 => (y65.1).bind fun y86 => (rekey_Round_Start.f y86).bind fun y88 => cond (cond ((y76.1.length : Int) != (1 : Int)) true ((y88.1.length : Int) != (1 : Int))) (gemotlaw16_shown.k3 y76 y88 y76.1 (cond (cond ((y76.1.length : Int) != (1 : Int)) true ((y88.1.length : Int) != (1 : Int))) true ((0 : Int) != (7 : Int)))) ((idxL y76.1 (0 : Int)).bind fun y172 => gemotlaw16_shown.k3 y76 y88 y76.1 (cond (cond ((y76.1.length : Int) != (1 : Int)) true ((y88.1.length : Int) != (1 : Int))) true (y172.1 != (7 : Int)))))
set_option maxHeartbeats 4000000 in
theorem gemotlaw16_shown_ok {ok : Nat → Prop} {w : World} {r : Bool} (h : gemotlaw16_shown.f = some r) :
    Calls Tryz.prog 19 #[] w fun e w' => ∃ v, e = .returned v ∧ (v = .bool r ∧ Bel w.heap.size w w') := by
  have H : Eng.Own ok w w [] := Eng.Own.nil ok w
  unfold gemotlaw16_shown.f at h
  refine enterN (args := []) Tryz.func19 rfl Tryz.ntmps19 rfl rfl ?_
  refine nc_seq ?_
  refine nc ?_
  refine nc_seq ?_
  refine nc ?_
  obtain ⟨y1, hy2, h⟩ := bindS h
  refine call_rule (by kernel_rfl) (gemotlaw16_of_ok (ok := fun _ => False) hy2) fun v4 w3 ⟨u7, hv5, hu8, hb6⟩ => ?_
  subst hv5
  replace H := H.callDats hb6 [dSl (tInt .i64) u7 y1.2] ⟨(slR_any hu8), trivial⟩
  obtain ⟨A9, c10, hA11, _⟩ := H.sl 0 rfl
  subst hA11
  refine own_alloc (z := .agg #[.int .i64 0, .int .i64 0, .slice none 0 0]) H (by kernel_rfl) [.int .i64 0, .int .i64 0, .slice none 0 0] rfl fun g14 w15 H => ?_
  refine own_storeB (m := 3) H 0 rfl (by kernel_rfl) [.int .i64 y1.1.1, .int .i64 y1.1.2, .slice A9 y1.2.length c10] rfl rfl rfl rfl fun w16 H => ?_
  refine nc_seq ?_
  obtain ⟨y31, hy32, h⟩ := bindS h
  obtain ⟨y37, hy38, h⟩ := bindS h
  try dsimp only [lastL, pickI, List.drop, List.take, List.set, List.eraseIdx, List.getElem?_cons_zero, List.getElem?_cons_succ, List.cons_append, List.nil_append, List.map] at H
  refine nc ?_
  refine draw_ruleB [.blk g14 [.int .i64 y1.1.1, .int .i64 y1.1.2, .slice A9 y1.2.length c10] 38] [] (fun j => undef) [1000, 1000, 1000, 1000, 1000, 1000, 1000, 1000] (by kernel_rfl) (by kernel_rfl) H (by repeat first | exact List.nil_sublist _ | apply List.Sublist.cons_cons | apply List.Sublist.cons) ?_
  refine c_loadA (m := 3) 0 rfl (by kernel_rfl) (by kernel_rfl) [.int .i64 y1.1.1, .int .i64 y1.1.2, .slice A9 y1.2.length c10] rfl rfl ?_
  refine c_call (.string (bs y31)) (by kernel_rfl) (fun _ _ H => term_Name_ok hy32) ?_
  refine ⟨(by repeat first | exact List.nil_sublist _ | apply List.Sublist.cons_cons | apply List.Sublist.cons), ?_⟩
  refine c_callM [0, 1] 0 (fun v X => ∃ g39, ∃ a40, v = .tuple #[.pointer (optA g39 y37.1), .int .i64 y37.2] ∧ X = [box (optL oL_rekey_Round g39 a40 y37.1)]) rfl (by kernel_rfl) (by kernel_rfl) rfl (fun _ H => Calls.mono (rekey_New_ok (x1 := y1) H (H.dat 1 rfl) hy38) fun e w' ⟨v, he, g39, a40, hv, H⟩ => ⟨v, he, _, ⟨g39, a40, hv, rfl⟩, H⟩) ?_
  rintro v42 X43 ⟨g39, a40, rfl, rfl⟩
  dsimp only [lastL, pickI, List.drop, List.take, List.set, List.eraseIdx, List.getElem?_cons_zero, List.getElem?_cons_succ, List.cons_append, List.nil_append, List.map]
  refine ⟨(by repeat first | exact List.nil_sublist _ | apply List.Sublist.cons_cons | apply List.Sublist.cons), ?_⟩
  intro w44 H
  dsimp only [lastL, pickI, List.drop, List.take, List.set, List.eraseIdx, List.getElem?_cons_zero, List.getElem?_cons_succ, List.cons_append, List.nil_append, List.map] at H
  refine nc_seq ?_
  obtain ⟨y59, hy60, h⟩ := bindS h
  obtain ⟨y65, hy66, h⟩ := bindS h
  try dsimp only [lastL, pickI, List.drop, List.take, List.set, List.eraseIdx, List.getElem?_cons_zero, List.getElem?_cons_succ, List.cons_append, List.nil_append, List.map] at H
  refine nc ?_
  refine draw_ruleB [.blk g14 [.int .i64 y1.1.1, .int .i64 y1.1.2, .slice A9 y1.2.length c10] 38] [] (fun j => undef) [1000, 1000, 1000, 1000, 1000, 1000, 1000, 1000] (by kernel_rfl) (by kernel_rfl) H (by repeat first | exact List.nil_sublist _ | apply List.Sublist.cons_cons | apply List.Sublist.cons) ?_
  refine c_loadA (m := 3) 0 rfl (by kernel_rfl) (by kernel_rfl) [.int .i64 y1.1.1, .int .i64 y1.1.2, .slice A9 y1.2.length c10] rfl rfl ?_
  refine c_call (.string (bs y59)) (by kernel_rfl) (fun _ _ H => term_Name_ok hy60) ?_
  refine ⟨(by repeat first | exact List.nil_sublist _ | apply List.Sublist.cons_cons | apply List.Sublist.cons), ?_⟩
  refine c_callM [0, 1, 2] 0 (fun v X => ∃ g67, ∃ a68, v = .tuple #[.pointer (optA g67 y65.1), .int .i64 y65.2] ∧ X = [box (optL oL_rekey_Round g67 a68 y65.1)]) rfl (by kernel_rfl) (by kernel_rfl) rfl (fun _ H => Calls.mono (rekey_New_ok (x1 := y1) H (H.dat 2 rfl) hy66) fun e w' ⟨v, he, g67, a68, hv, H⟩ => ⟨v, he, _, ⟨g67, a68, hv, rfl⟩, H⟩) ?_
  rintro v70 X71 ⟨g67, a68, rfl, rfl⟩
  dsimp only [lastL, pickI, List.drop, List.take, List.set, List.eraseIdx, List.getElem?_cons_zero, List.getElem?_cons_succ, List.cons_append, List.nil_append, List.map]
  refine ⟨(by repeat first | exact List.nil_sublist _ | apply List.Sublist.cons_cons | apply List.Sublist.cons), ?_⟩
  intro w72 H
  dsimp only [lastL, pickI, List.drop, List.take, List.set, List.eraseIdx, List.getElem?_cons_zero, List.getElem?_cons_succ, List.cons_append, List.nil_append, List.map] at H
  refine nc_seq ?_
  refine nc_seq ?_
  refine nc ?_
  refine eqlO_rule (by kernel_rfl) ?_
  refine eqlO_rule (by kernel_rfl) ?_
  refine nc_cond rfl (fun hc73 => ?_) (fun hc73 => ?_)
  · replace h := condT hc73 h
    refine nc_seq ?_
    refine nc ?_
    refine nc ?_
    replace h := Option.some.inj h
    subst h
    exact ret_inA [.bool false] ⟨_, rfl, ⟨rfl, H.frame⟩⟩
  · replace h := condF hc73 h
    refine nc ?_
    refine nc_seq ?_
    refine nc ?_
    obtain ⟨y74, hy75, h⟩ := bindS h
    replace H := H.someAt 1 rfl hy75
    try rw [hy75]
    replace H := H.pickL [1, 0, 2, 3] rfl
    obtain ⟨y76, hy77, h⟩ := bindS h
    refine call_rule (by kernel_rfl) (rekey_Round_Start_ok (x0 := y74) H hy77) fun v84 w83 ⟨A78, c79, cs80, a82, hv85, H⟩ => ?_
    subst hv85
    refine nc_seq ?_
    refine nc ?_
    obtain ⟨y86, hy87, h⟩ := bindS h
    replace H := H.someAt 3 rfl hy87
    try rw [hy87]
    replace H := H.pickL [3, 0, 1, 2, 4, 5] rfl
    try dsimp only [lastL, pickI, List.drop, List.take, List.set, List.eraseIdx, List.getElem?_cons_zero, List.getElem?_cons_succ, List.cons_append, List.nil_append, List.map] at H
    obtain ⟨y88, hy89, h⟩ := bindS h
    refine call_rule (by kernel_rfl) (rekey_Round_Start_ok (x0 := y86) H hy89) fun v96 w95 ⟨A90, c91, cs92, a94, hv97, H⟩ => ?_
    subst hv97
    refine nc_seq ?_
    refine nc_cut (fun e w167 => ∃ (A164 : Option Addr) (c165 : Nat) (v163 : List D_list_Message) (v166 : Bool), gemotlaw16_shown.k3 y76 y88 v163 v166 = some r ∧ e = [(2, .pointer (some ⟨g39, 0, none⟩)), (4, .pointer (some ⟨g67, 0, none⟩)), (6, .slice A164 v163.length c165), (7, .slice A90 y88.1.length c91), (51, .bool v166)] ∧ Eng.Own ok w w167 [box (oL_rekey_Round g39 a82 y76.2), box (oL_rekey_Round g67 a94 y88.2), .dat (dSl t_list_Message (.slice A164 v163.length c165) v163), .dat (dRows t_list_Message y88.1 cs92), .row (.slice A90 y88.1.length c91) 58 8 y88.1.length cs92]) ?_ ?_
    · skip
      refine nc ?_
      rcases Bool.eq_false_or_eq_true (cond ((y76.1.length : Int) != (1 : Int)) true ((y88.1.length : Int) != (1 : Int))) with hg169 | hg169
      · replace h := condT hg169 h
        refine skipIA (.pointer (some ⟨0, 0, none⟩)) (gF0 hg169) ?_
        refine skipLD (.int .i64 0) (gF0 hg169) ?_
        replace H := H.freeze (k := t_list_Message) 4 3 rfl rfl
        exact cut_inA ⟨A78, c79, _, _, h, rfl, H.pickL [5, 2, 4, 0, 1] rfl⟩
      · replace h := condF hg169 h
        replace H := H.freeze (k := t_list_Message) 4 3 rfl rfl
        obtain ⟨y172, hx173, h⟩ := bindS h
        obtain ⟨a174, cs175, rfl, hR176, H⟩ := H.elemI 4 rfl hx173
        obtain ⟨u178, u179, rfl, hu180, hu181⟩ := list_Message_cells hR176
        obtain ⟨A182, c183, rfl, H⟩ := H.openD hu180
        obtain ⟨A185, c186, rfl, H⟩ := H.openD hu181
        refine idxA_rule (e := 58) 8 _ (by kernel_rfl) (by kernel_rfl) (idxL_some hx173).1 (idxL_some hx173).2.1 ?_
        refine own_loadD H 2 rfl 0 (by kernel_rfl) rfl ?_
        exact cut_inA ⟨some a174, c79, _, _, h, rfl, H.pickL [8, 5, 7, 3, 4] rfl⟩
    · rintro _ w188 ⟨A164, c165, v163, v166, h, rfl, H⟩
      unfold gemotlaw16_shown.k3 at h
      refine nc_cond rfl (fun hc189 => ?_) (fun hc189 => ?_)
      · replace h := condT hc189 h
        refine nc_seq ?_
        refine nc ?_
        refine nc ?_
        replace h := Option.some.inj h
        subst h
        exact ret_inA [.bool false] ⟨_, rfl, ⟨rfl, H.frame⟩⟩
      · replace h := condF hc189 h
        refine nc ?_
        refine nc_seq ?_
        refine nc ?_
        replace H := H.freeze (k := t_list_Message) 4 3 rfl rfl
        obtain ⟨y191, hx192, h⟩ := bindS h
        obtain ⟨a193, cs194, rfl, hR195, H⟩ := H.elemI 4 rfl hx192
        obtain ⟨u197, u198, rfl, hu199, hu200⟩ := list_Message_cells hR195
        obtain ⟨A201, c202, rfl, H⟩ := H.openD hu199
        obtain ⟨A204, c205, rfl, H⟩ := H.openD hu200
        refine idxA_rule (e := 58) 8 _ (by kernel_rfl) (by kernel_rfl) (idxL_some hx192).1 (idxL_some hx192).2.1 ?_
        refine own_loadDA (m := 8) H 2 rfl 0 (by kernel_rfl) (by kernel_rfl) [.int .i64 y191.1, .int .i64 y191.2.1.1, .int .i64 y191.2.1.2, .int .i64 y191.2.2.1.1, .int .i64 y191.2.2.1.2, .int .i64 y191.2.2.2.1, .slice A201 y191.2.2.2.2.1.length c202, .slice A204 y191.2.2.2.2.2.length c205] rfl rfl ?_
        replace H := H.pickL [3, 0, 1, 2, 4, 5, 7] rfl
        obtain ⟨y207, hy208, h⟩ := bindS h
        refine call_rule (by kernel_rfl) (rekey_Round_Take_ok (x0 := y76.2) (x2 := y191) H (H.dat 2 rfl) (H.dat 1 rfl) hy208) fun v215 w214 ⟨A209, c210, cs211, a213, hv216, H⟩ => ?_
        subst hv216
        refine nc_seq ?_
        refine nc ?_
        obtain ⟨y217, hx218, h⟩ := bindS h
        obtain ⟨a219, cs220, rfl, hR221, H⟩ := H.elemI 7 rfl hx218
        obtain ⟨u223, u224, rfl, hu225, hu226⟩ := list_Message_cells hR221
        obtain ⟨A227, c228, rfl, H⟩ := H.openD hu225
        obtain ⟨A230, c231, rfl, H⟩ := H.openD hu226
        refine idxA_rule (e := 58) 8 _ (by kernel_rfl) (by kernel_rfl) (idxL_some hx218).1 (idxL_some hx218).2.1 ?_
        refine own_loadDA (m := 8) H 2 rfl 0 (by kernel_rfl) (by kernel_rfl) [.int .i64 y217.1, .int .i64 y217.2.1.1, .int .i64 y217.2.1.2, .int .i64 y217.2.2.1.1, .int .i64 y217.2.2.1.2, .int .i64 y217.2.2.2.1, .slice A227 y217.2.2.2.2.1.length c228, .slice A230 y217.2.2.2.2.2.length c231] rfl rfl ?_
        replace H := H.pickL [9, 0, 1, 2, 3, 4, 5, 6, 7, 8, 10, 11] rfl
        try dsimp only [lastL, pickI, List.drop, List.take, List.set, List.eraseIdx, List.getElem?_cons_zero, List.getElem?_cons_succ, List.cons_append, List.nil_append, List.map] at H
        obtain ⟨y233, hy234, h⟩ := bindS h
        refine call_rule (by kernel_rfl) (rekey_Round_Take_ok (x0 := y88.2) (x2 := y217) H (H.dat 2 rfl) (H.dat 1 rfl) hy234) fun v241 w240 ⟨A235, c236, cs237, a239, hv242, H⟩ => ?_
        subst hv242
        refine nc_seq ?_
        refine nc_cut (fun e w312 => ∃ (A309 : Option Addr) (c310 : Nat) (v308 : List D_list_Message) (v311 : Bool), gemotlaw16_shown.k2 y207 y233 v308 v311 = some r ∧ e = [(2, .pointer (some ⟨g39, 0, none⟩)), (4, .pointer (some ⟨g67, 0, none⟩)), (8, .slice A309 v308.length c310), (9, .slice A235 y233.1.length c236), (76, .bool v311)] ∧ Eng.Own ok w w312 [box (oL_rekey_Round g39 a213 y207.2), box (oL_rekey_Round g67 a239 y233.2), .dat (dSl t_list_Message (.slice A309 v308.length c310) v308), .dat (dRows t_list_Message y233.1 cs237), .row (.slice A235 y233.1.length c236) 58 8 y233.1.length cs237]) ?_ ?_
        · skip
          refine nc ?_
          rcases Bool.eq_false_or_eq_true (cond ((y207.1.length : Int) != (1 : Int)) true ((y233.1.length : Int) != (1 : Int))) with hg314 | hg314
          · replace h := condT hg314 h
            refine skipIA (.pointer (some ⟨0, 0, none⟩)) (gF0 hg314) ?_
            refine skipLD (.int .i64 0) (gF0 hg314) ?_
            replace H := H.freeze (k := t_list_Message) 7 6 rfl rfl
            exact cut_inA ⟨A209, c210, _, _, h, rfl, H.pickL [8, 2, 7, 0, 1] rfl⟩
          · replace h := condF hg314 h
            replace H := H.freeze (k := t_list_Message) 7 6 rfl rfl
            obtain ⟨y317, hx318, h⟩ := bindS h
            obtain ⟨a319, cs320, rfl, hR321, H⟩ := H.elemI 7 rfl hx318
            obtain ⟨u323, u324, rfl, hu325, hu326⟩ := list_Message_cells hR321
            obtain ⟨A327, c328, rfl, H⟩ := H.openD hu325
            obtain ⟨A330, c331, rfl, H⟩ := H.openD hu326
            refine idxA_rule (e := 58) 8 _ (by kernel_rfl) (by kernel_rfl) (idxL_some hx318).1 (idxL_some hx318).2.1 ?_
            refine own_loadD H 2 rfl 0 (by kernel_rfl) rfl ?_
            exact cut_inA ⟨some a319, c210, _, _, h, rfl, H.pickL [11, 5, 10, 3, 4] rfl⟩
        · rintro _ w333 ⟨A309, c310, v308, v311, h, rfl, H⟩
          unfold gemotlaw16_shown.k2 at h
          refine nc_cond rfl (fun hc334 => ?_) (fun hc334 => ?_)
          · replace h := condT hc334 h
            refine nc_seq ?_
            refine nc ?_
            refine nc ?_
            replace h := Option.some.inj h
            subst h
            exact ret_inA [.bool false] ⟨_, rfl, ⟨rfl, H.frame⟩⟩
          · replace h := condF hc334 h
            refine nc ?_
            refine nc_seq ?_
            refine nc ?_
            replace H := H.freeze (k := t_list_Message) 4 3 rfl rfl
            obtain ⟨y336, hx337, h⟩ := bindS h
            obtain ⟨a338, cs339, rfl, hR340, H⟩ := H.elemI 4 rfl hx337
            obtain ⟨u342, u343, rfl, hu344, hu345⟩ := list_Message_cells hR340
            obtain ⟨A346, c347, rfl, H⟩ := H.openD hu344
            obtain ⟨A349, c350, rfl, H⟩ := H.openD hu345
            refine idxA_rule (e := 58) 8 _ (by kernel_rfl) (by kernel_rfl) (idxL_some hx337).1 (idxL_some hx337).2.1 ?_
            refine own_loadDA (m := 8) H 2 rfl 0 (by kernel_rfl) (by kernel_rfl) [.int .i64 y336.1, .int .i64 y336.2.1.1, .int .i64 y336.2.1.2, .int .i64 y336.2.2.1.1, .int .i64 y336.2.2.1.2, .int .i64 y336.2.2.2.1, .slice A346 y336.2.2.2.2.1.length c347, .slice A349 y336.2.2.2.2.2.length c350] rfl rfl ?_
            replace H := H.pickL [3, 0, 1, 2, 4, 5, 7] rfl
            obtain ⟨y352, hy353, h⟩ := bindS h
            refine call_rule (by kernel_rfl) (rekey_Round_Take_ok (x0 := y207.2) (x2 := y336) H (H.dat 2 rfl) (H.dat 1 rfl) hy353) fun v360 w359 ⟨A354, c355, cs356, a358, hv361, H⟩ => ?_
            subst hv361
            refine nc_seq ?_
            refine nc ?_
            obtain ⟨y362, hx363, h⟩ := bindS h
            obtain ⟨a364, cs365, rfl, hR366, H⟩ := H.elemI 7 rfl hx363
            obtain ⟨u368, u369, rfl, hu370, hu371⟩ := list_Message_cells hR366
            obtain ⟨A372, c373, rfl, H⟩ := H.openD hu370
            obtain ⟨A375, c376, rfl, H⟩ := H.openD hu371
            refine idxA_rule (e := 58) 8 _ (by kernel_rfl) (by kernel_rfl) (idxL_some hx363).1 (idxL_some hx363).2.1 ?_
            refine own_loadDA (m := 8) H 2 rfl 0 (by kernel_rfl) (by kernel_rfl) [.int .i64 y362.1, .int .i64 y362.2.1.1, .int .i64 y362.2.1.2, .int .i64 y362.2.2.1.1, .int .i64 y362.2.2.1.2, .int .i64 y362.2.2.2.1, .slice A372 y362.2.2.2.2.1.length c373, .slice A375 y362.2.2.2.2.2.length c376] rfl rfl ?_
            replace H := H.pickL [9, 0, 1, 2, 3, 4, 5, 6, 7, 8, 10, 11] rfl
            try dsimp only [lastL, pickI, List.drop, List.take, List.set, List.eraseIdx, List.getElem?_cons_zero, List.getElem?_cons_succ, List.cons_append, List.nil_append, List.map] at H
            obtain ⟨y378, hy379, h⟩ := bindS h
            refine call_rule (by kernel_rfl) (rekey_Round_Take_ok (x0 := y233.2) (x2 := y362) H (H.dat 2 rfl) (H.dat 1 rfl) hy379) fun v386 w385 ⟨A380, c381, cs382, a384, hv387, H⟩ => ?_
            subst hv387
            refine nc_seq ?_
            refine nc ?_
            replace H := H.pickL [8, 0, 1, 2, 3, 4, 5, 6, 7, 9, 10, 11, 12, 13] rfl
            obtain ⟨y388, hy389, h⟩ := bindS h
            refine call_rule (by kernel_rfl) (rekey_Round_Key_ok (x0 := y352.2) H hy389) fun v391 w390 ⟨hv392, H⟩ => ?_
            subst hv392
            refine nc_seq ?_
            refine nc ?_
            replace H := H.pickL [3, 0, 1, 2, 4, 5, 6, 7, 8, 9, 10, 11, 12, 13] rfl
            try dsimp only [lastL, pickI, List.drop, List.take, List.set, List.eraseIdx, List.getElem?_cons_zero, List.getElem?_cons_succ, List.cons_append, List.nil_append, List.map] at H
            obtain ⟨y393, hy394, h⟩ := bindS h
            refine call_rule (by kernel_rfl) (rekey_Round_Key_ok (x0 := y378.2) H hy394) fun v396 w395 ⟨hv397, H⟩ => ?_
            subst hv397
            refine nc_cut (fun e w411 => ∃ (v410 : Bool), gemotlaw16_shown.k1 v410 = some r ∧ e = [(0, .bool v410)] ∧ Eng.Own ok w w411 []) ?_ ?_
            · skip
              refine nc ?_
              rcases Bool.eq_false_or_eq_true (cond (cond y388.2 y393.2 false) (strEq y388.1 y393.1) false) with hg413 | hg413
              · replace h := condT hg413 h
                replace H := H.pickL [1, 0, 2, 3, 4, 5, 6, 7, 8, 9, 10, 11, 12, 13] rfl
                obtain ⟨y414, hy415, h⟩ := bindS h
                refine call_yes (gT1 hg413 rfl) (by kernel_rfl) (rekey_Round_Confirmed_ok (x0 := y352.2) H hy415) fun v417 w416 ⟨hv418, H⟩ => ?_
                subst hv418
                rcases Bool.eq_false_or_eq_true y414 with hg419 | hg419
                · replace h := condT hg419 h
                  replace H := H.pickL [1, 0, 2, 3, 4, 5, 6, 7, 8, 9, 10, 11, 12, 13] rfl
                  try dsimp only [lastL, pickI, List.drop, List.take, List.set, List.eraseIdx, List.getElem?_cons_zero, List.getElem?_cons_succ, List.cons_append, List.nil_append, List.map] at H
                  obtain ⟨y420, hy421, h⟩ := bindS h
                  refine call_yes (gT1 ((pickT hg413).trans hg419) rfl) (by kernel_rfl) (rekey_Round_Confirmed_ok (x0 := y378.2) H hy421) fun v423 w422 ⟨hv424, H⟩ => ?_
                  subst hv424
                  exact cut_inA ⟨_, h, rfl, H.pickL [] rfl⟩
                · replace h := condF hg419 h
                  refine call_skip (.bool false) (gF1 ((pickT hg413).trans hg419)) ?_
                  exact cut_inA ⟨_, h, rfl, H.pickL [] rfl⟩
              · replace h := condF hg413 h
                refine call_skip (.bool false) (gF1 hg413) ?_
                refine call_skip (.bool false) (gF1 (pickF hg413)) ?_
                exact cut_inA ⟨_, h, rfl, H.pickL [] rfl⟩
            · rintro _ w425 ⟨v410, h, rfl, H⟩
              unfold gemotlaw16_shown.k1 at h
              refine nc ?_
              replace h := Option.some.inj h
              subst h
              exact ret_inA [.bool v410] ⟨_, rfl, ⟨rfl, H.frame⟩⟩
end Go.Proofs.YtfapphlhkfddoaaGreatDoor.G
/- Chapter 16, one member: what it has, and what it tells, as it is reckoned. -/
namespace Go.Proofs.YtfapphlhkfddoaaGreatDoor.G
open Go.RowKit Go.Eng Go.Proofs Go.Proofs.YtfapphlhkfddoaaGreatDoor.Cut
set_option linter.unusedVariables false
set_option linter.unusedSimpArgs false

theorem getA_put {κ β : Type} [DecidableEq κ] (k a : κ) (v : β) : ∀ l : List (κ × β), getA k (putA a v l) = if k = a then some v else getA k l
  | [] => by simp only [putA, getA]
  | p :: l => by
    have ih := getA_put k a v l
    simp only [putA]
    by_cases h : a = p.1
    · rw [if_pos h]
      simp only [getA]
      by_cases h2 : k = a
      · rw [if_pos h2, if_pos h2]
      · rw [if_neg h2, if_neg h2, if_neg (by rw [← h]; exact h2)]
    · rw [if_neg h]
      simp only [getA]
      rw [ih]
      by_cases h2 : k = p.1
      · rw [if_pos h2, if_pos h2, if_neg (by rw [h2]; exact fun q => h q.symm)]
      · rw [if_neg h2, if_neg h2]

/-! Texts as terms -/
def textT (x : List UInt8) : List UInt8 := 116 :: 0 :: UInt8.ofNat x.length :: x
theorem text_eq {x : List UInt8} (h : x.length ≤ 100) : term_Text.f x = some (textT x, 0) := by
  unfold term_Text.f
  rw [cond_f (by omega)]
  have hw : IntKind.u8.wrap (x.length : Int) = (x.length : Int) := by
    simp [IntKind.wrap, IntKind.bits, IntKind.signed]; omega
  rw [hw]
  have hs : strM ([(116 : Int), (0 : Int), (x.length : Int)] : List Int) = some [116, 0, UInt8.ofNat x.length] := by
    unfold strM
    rw [if_pos ⟨by simp, fun y hy => by simp at hy; omega⟩]
    simp
  rw [hs, Option.bind_some, room_of (by simp; omega)]
  rfl
theorem full_text {x : List UInt8} (h : x.length ≤ 100) : full (textT x) 1 := by
  unfold full
  rw [specE_succ, List.drop_zero]
  show (if leafN 116 (0 :: UInt8.ofNat x.length :: x) ≠ 0 then _ else _ : Int × Int).1 = _
  have hn : (UInt8.ofNat x.length).toNat = x.length := by simp; omega
  have hl : leafN 116 (0 :: UInt8.ofNat x.length :: x) = 3 + x.length := by
    unfold leafN
    rw [if_neg (by decide), if_neg (by decide), if_neg (by decide), if_pos rfl, leafT_cons, hn, if_pos ⟨rfl, h, by simp⟩]
  rw [hl, if_pos (by omega)]
  simp [textT]; omega
theorem rightF {s : List UInt8} {l : Nat} (h : full s l) (hl : l ≤ 400) (hs : s.length ≤ 20000) : term_Right.f s = some true := by
  rw [right_spec (by omega), full_right (full_mono h hl) hs]
theorem kind_full {c : UInt8} {r : List UInt8} {l : Nat} (h : full (c :: r) l) (hl : l ≤ 400) (hs : (c :: r).length ≤ 20000) : parts_Kind.f (c :: r) = some (c.toNat : Int) := by
  unfold parts_Kind.f
  rw [rightF h hl hs]
  rfl
theorem said_text {x : List UInt8} (h : x.length ≤ 100) : parts_Said.f (textT x) = some (x, true) := by
  unfold parts_Said.f
  have hk : parts_Kind.f (textT x) = some (116 : Int) := kind_full (full_text h) (by omega) (by simp [textT]; omega)
  rw [hk, Option.bind_some]
  show (slcM (textT x) (3 : Int) ((textT x).length : Int)).bind _ = _
  have hs : slcM (textT x) (3 : Int) ((textT x).length : Int) = some x := by
    unfold slcM
    rw [if_pos ⟨by omega, by simp [textT]; omega, by omega⟩]
    show some ((x.take _) : List UInt8) = _
    rw [List.take_of_length_le (by simp [textT]; omega)]
  rw [hs]; rfl

/-! ### A member -/
section
variable {T : Tr} {V : D_api_View} {first : Int}
abbrev memS (T : Tr) : List Int := sortZ T.leavesR
abbrev nmS (T : Tr) (first : Int) : Int → List UInt8 := nmOf (memS T) first
/-- A node's blind. -/
abbrev blT (T : Tr) (first : Int) (n : List UInt8) : List UInt8 := 101 :: 1 :: secAt T (nmS T first) n
/-- The view's key. -/
def keyT (T : Tr) (V : D_api_View) (first : Int) : List UInt8 := 104 :: 112 :: (putT (viewL V) ++ secT (nmS T first) T)
/-- The view is the tree's. -/
structure ViewOk (T : Tr) (V : D_api_View) : Prop where
  ok : T.ok
  nd : T.leavesR.Nodup
  ms : V.2 = memS T
  right : rightV V = true
  ep : 0 ≤ V.1.1 ∧ V.1.1 ≤ 1000
/-- What it knows is right. -/
def rightK (T : Tr) (first : Int) (K : List (List UInt8 × List UInt8)) : Prop := ∀ n e, getA n K = some e → e = blT T first n ∧ ∃ S, subT T n = some S
structure RkOk (T : Tr) (V : D_api_View) (first : Int) (p : Int) (O : O_rekey_Round) : Prop where
  me : O.me_ = p
  v : O.v_ = V
  sec : O.secret_ = nmS T first p
  tree : O.tree_ = T.text
  known : rightK T first O.known_
/-- How many blinds beside its path it knows in a row, from a depth upward. -/
def preK (K : List (List UInt8 × List UInt8)) (π : List UInt8) : Nat → Nat
  | 0 => 0
  | d + 1 => if (getA (besideT (π.take (d + 1))) K).isSome = true then preK K π d + 1 else 0
theorem preK_succ (K : List (List UInt8 × List UInt8)) (π : List UInt8) (d : Nat) : preK K π (d + 1) = if (getA (besideT (π.take (d + 1))) K).isSome = true then preK K π d + 1 else 0 := rfl
theorem preK_le (K : List (List UInt8 × List UInt8)) (π : List UInt8) : ∀ d, preK K π d ≤ d
  | 0 => Nat.le_refl _
  | d + 1 => by
    have := preK_le K π d
    rw [preK_succ]; split <;> omega
def tellM (K : List (List UInt8 × List UInt8)) : List (List UInt8) → List D_blind_Blind
  | [] => []
  | n :: co => match getA n K with
    | some e => (n, e) :: tellM K co
    | none => tellM K co
theorem tellM_snoc (K : List (List UInt8 × List UInt8)) (n : List UInt8) : ∀ co, tellM K (co ++ [n]) = tellM K co ++ (match getA n K with | some e => [(n, e)] | none => [])
  | [] => by
    show tellM K [n] = _
    simp only [tellM, List.nil_append]
  | x :: co => by
    simp only [List.cons_append, tellM]
    cases getA x K with
    | none => exact tellM_snoc K n co
    | some e => show (x, e) :: _ = (x, e) :: _ ++ _; rw [tellM_snoc K n co]; rfl
theorem tellM_len (K : List (List UInt8 × List UInt8)) : ∀ co, (tellM K co).length ≤ co.length
  | [] => Nat.le_refl _
  | n :: co => by
    have := tellM_len K co
    simp only [tellM]
    cases getA n K <;> simp <;> omega
theorem tellM_mem (K : List (List UInt8 × List UInt8)) (x : List UInt8) : ∀ co, x ∈ (tellM K co).map (·.1) ↔ x ∈ co ∧ (getA x K).isSome = true
  | [] => by simp [tellM]
  | n :: co => by
    have ih := tellM_mem K x co
    simp only [tellM]
    cases hg : getA n K with
    | none =>
      simp only [ih, List.mem_cons]
      constructor
      · exact fun h => ⟨.inr h.1, h.2⟩
      · rintro ⟨h1 | h1, h2⟩
        · subst h1; rw [hg] at h2; cases h2
        · exact ⟨h1, h2⟩
    | some e =>
      simp only [List.map_cons, List.mem_cons, ih]
      constructor
      · rintro (h | h)
        · subst h; exact ⟨.inl rfl, by rw [hg]; rfl⟩
        · exact ⟨.inr h.1, h.2⟩
      · rintro ⟨h1 | h1, h2⟩
        · exact .inl h1
        · exact .inr ⟨h1, h2⟩
theorem tellM_right {K : List (List UInt8 × List UInt8)} (h : rightK T first K) : ∀ co, rightL T (nmS T first) (tellM K co)
  | [], b, hb => by cases hb
  | n :: co, b, hb => by
    simp only [tellM] at hb
    cases hg : getA n K with
    | none => rw [hg] at hb; exact tellM_right h co b hb
    | some e =>
      rw [hg] at hb
      rcases List.mem_cons.1 hb with k | k
      · subst k; exact (h n e hg).1
      · exact tellM_right h co b k
theorem preD_preK (K : List (List UInt8 × List UInt8)) (π : List UInt8) (co : List (List UInt8)) : ∀ d, (∀ j, j < d → besideT (π.take (j + 1)) ∈ co) → preD (tellM K co) π d = preK K π d
  | 0, _ => rfl
  | d + 1, h => by
    have ih := preD_preK K π co d fun j hj => h j (by omega)
    have hm := tellM_mem K (besideT (π.take (d + 1))) co
    rw [preD_succ, preK_succ, ih]
    by_cases hk : (getA (besideT (π.take (d + 1))) K).isSome = true
    · rw [if_pos hk, if_pos (hm.2 ⟨h d (by omega), hk⟩)]
    · rw [if_neg hk, if_neg fun q => hk (hm.1 q).2]
theorem co_mem (π : List UInt8) : ∀ D j, j < D → besideT (π.take (j + 1)) ∈ coD π D
  | D + 1, j, h => by
    show _ ∈ besideT (π.take (D + 1)) :: coD π D
    rcases Nat.lt_or_ge j D with k | k
    · exact List.mem_cons_of_mem _ (co_mem π D j k)
    · have : j = D := by omega
      subst this; exact List.mem_cons_self
theorem tell_loop (O : O_rekey_Round) {co : List (List UInt8)} (hc : co.length ≤ 1000) : loopM (fun s : (List D_blind_Blind) × Int => rekey_Round_Secrets.b2 O co s.1 s.2) (([] : List D_blind_Blind), (0 : Int)) = some (tellM O.known_ co) := by
  have key : ∀ k i, i + k = co.length → loopM (fun s : (List D_blind_Blind) × Int => rekey_Round_Secrets.b2 O co s.1 s.2) (tellM O.known_ (co.take i), (i : Int)) = some (tellM O.known_ co) := by
    intro k
    induction k with
    | zero =>
      intro i hi
      refine loop_end ?_
      show rekey_Round_Secrets.b2 O co (tellM O.known_ (co.take i)) (i : Int) = _
      unfold rekey_Round_Secrets.b2
      rw [cond_f (by omega), List.take_of_length_le (by omega)]
    | succ k ih =>
      intro i hi
      have hl : i < co.length := by omega
      have h2 := ih (i + 1) (by omega)
      refine loop_step ?_ h2
      show rekey_Round_Secrets.b2 O co (tellM O.known_ (co.take i)) (i : Int) = _
      have hlen := tellM_len O.known_ (co.take i)
      rw [List.length_take] at hlen
      unfold rekey_Round_Secrets.b2 rekey_Round_Secrets.k1
      rw [cond_t (by omega), idxL_lt hl, Option.bind_some, ← take_snoc hl, tellM_snoc]
      cases hg : getA co[i] O.known_ with
      | none => rw [Option.isSome_none, cond_false, wrap1 i (by omega), List.append_nil]
      | some e => rw [Option.isSome_some, cond_true, room_of (by omega), wrap1 i (by omega)]; rfl
  have := key co.length 0 (by omega)
  rw [List.take_zero] at this
  exact this
variable {p : Int} {π : List UInt8} {O : O_rekey_Round}
theorem secrets_is (hv : ViewOk T V) (h : RkOk T V first p O) (hπ : pathL T p = some π) : rekey_Round_Secrets.f O = some (((upT π).map (secAt T (nmS T first))).take (preK O.known_ π π.length + 1)) := by
  obtain ⟨h1, h2⟩ := path_of hv.ok hv.nd hπ
  have h8 := leaves_eight hv.ok hv.nd
  have hpl := pathL_len T p π hπ
  unfold rekey_Round_Secrets.f rekey_Round_Secrets.k3
  rw [h.tree, h.me, h2, Option.bind_some, tell_loop O (by rw [coD_len]; omega), Option.bind_some, h.sec]
  rw [climb_eq hv.ok hv.nd (tellM_right h.known _) (by have := tellM_len O.known_ (coD π π.length); rw [coD_len] at this; omega) hπ, Option.bind_some, res_pre, ← upT_upD, preD_preK _ _ _ _ fun j hj => co_mem π _ j hj]
theorem sec_len (K : List (List UInt8 × List UInt8)) (π : List UInt8) (f : List UInt8 → List UInt8) : (((upT π).map f).take (preK K π π.length + 1)).length = preK K π π.length + 1 := by
  have := preK_le K π π.length
  rw [List.length_take, List.length_map, up_len]; omega
theorem key_is (hv : ViewOk T V) (h : RkOk T V first p O) (hπ : pathL T p = some π) : rekey_Round_Key.f O = some (if preK O.known_ π π.length = π.length then (keyT T V first, true) else ([], false)) := by
  have h8 := leaves_eight hv.ok hv.nd
  have hpl := pathL_len T p π hπ
  have hle := preK_le O.known_ π π.length
  unfold rekey_Round_Key.f
  rw [secrets_is hv h hπ, Option.bind_some, h.tree, h.me, (path_of hv.ok hv.nd hπ).1, Option.bind_some, sec_len, up_len]
  by_cases he : preK O.known_ π π.length = π.length
  · rw [if_pos he, he, cond_f (by omega)]
    have hw : IntKind.i64.wrap (((π.length + 1 : Nat) : Int) - (1 : Int)) = (π.length : Int) := by rw [Eng.i64_id (by omega) (by omega)]; omega
    rw [hw]
    have hix : idxL (((upT π).map (secAt T (nmS T first))).take (π.length + 1)) (π.length : Int) = some (secT (nmS T first) T) := by
      rw [idxL_nat, List.getElem?_take_of_lt (by omega), List.getElem?_map]
      have := up_get (n := π) (j := π.length) (Nat.le_refl _)
      rw [idxL_nat] at this
      rw [this, Nat.sub_self, List.take_zero]
      show some (secAt T (nmS T first) []) = _
      rw [secAt_in (subT_nil T)]
    rw [hix, Option.bind_some]
    obtain ⟨s1, s2⟩ := sec_le (nm_small hv.ok hv.nd (memS T) first (subT_nil T))
    rw [h.v, group_of hv.right (by rw [hv.ms, sortZ_len]; omega) s1 (by omega)]
    rfl
  · rw [if_neg he, cond_t (by omega)]
end
end Go.Proofs.YtfapphlhkfddoaaGreatDoor.G
/- Chapter 16, one member: Start and Take, as they are reckoned. -/
namespace Go.Proofs.YtfapphlhkfddoaaGreatDoor.G
open Go.RowKit Go.Eng Go.Proofs Go.Proofs.YtfapphlhkfddoaaGreatDoor.Cut
set_option linter.unusedVariables false
set_option linter.unusedSimpArgs false

/-! ### Marks -/
def markT (key : List UInt8) (p : Int) : List UInt8 := 104 :: 112 :: (key ++ countedT 117 (IntKind.u64.wrap p))
theorem pair_of {t x : List UInt8} (ht : full t 398) (hx : full x 398) (hl : t.length + x.length ≤ 15000) : term_Pair.f t x = some (112 :: (t ++ x), 0) := by
  have fp := full_pairT ht hx
  have e1 : ofE [112] [t, x] = (112 :: (t ++ x), 0) := by
    unfold ofE
    rw [if_pos (by simp [full_right (full_mono ht (show 398 ≤ 400 by omega)) (show t.length ≤ 20000 by omega), full_right (full_mono hx (show 398 ≤ 400 by omega)) (show x.length ≤ 20000 by omega)])]
    rw [show [112] ++ [t, x].flatten = 112 :: (t ++ x) by simp, whole_of (full_mono fp (by omega)) (by simp; omega)]
  unfold term_Pair.f
  rw [of_spec (by
    intro y hy
    rcases List.mem_cons.1 hy with q | q
    · rw [q]; omega
    · rw [List.mem_singleton.1 q]; omega) (by simp), e1]; rfl
theorem hash_of {x : List UInt8} (hx : full x 399) (hl : x.length ≤ 16000) : term_Hash.f x = some (104 :: x, 0) := by
  have fh := full_hash hx
  have e2 : ofE [104] [x] = (104 :: x, 0) := by
    unfold ofE
    rw [if_pos (by simp [full_right (full_mono hx (show 399 ≤ 400 by omega)) (show x.length ≤ 20000 by omega)])]
    rw [show [104] ++ [x].flatten = 104 :: x by simp, whole_of (full_mono fh (by omega)) (by simp; omega)]
  unfold term_Hash.f
  rw [of_spec (by
    intro y hy
    rw [List.mem_singleton.1 hy]; omega) (by simp), e2]; rfl
theorem mark_eq {key : List UInt8} (hk : full key 398) (hl : key.length ≤ 10000) (p : Int) : rekey_mark.f key p = some (markT key p) := by
  have h9 : (countedT 117 (IntKind.u64.wrap p)).length = 9 := by simp [countedT, bytesOf_length]
  have hn : full (countedT 117 (IntKind.u64.wrap p)) 398 := full_mono (full_number _) (by omega)
  unfold rekey_mark.f term_Number.f
  rw [Option.bind_some, pair_of hk hn (by omega), Option.bind_some]
  show (term_Hash.f (112 :: (key ++ countedT 117 (IntKind.u64.wrap p)))).bind _ = _
  rw [hash_of (full_pairT hk hn) (by simp [h9]; omega)]
  rfl

section
variable {T : Tr} {V : D_api_View} {first : Int} {p : Int} {π : List UInt8} {O : O_rekey_Round}
theorem key_full (hv : ViewOk T V) : full (keyT T V first) 398 ∧ (keyT T V first).length ≤ 1000 := by
  have h8 := leaves_eight hv.ok hv.nd
  obtain ⟨s1, s2⟩ := sec_le (nm_small hv.ok hv.nd (memS T) first (subT_nil T))
  have hl : V.2.length ≤ 8 := by rw [hv.ms, sortZ_len]; omega
  obtain ⟨f, l⟩ := view_full V (by omega)
  have sf := (secT_full T (nm_small hv.ok hv.nd (memS T) first (subT_nil T)).1).1
  refine ⟨full_mono (full_hash (full_pairT (full_mono f (show V.2.length + 8 ≤ 30 by omega)) (full_mono sf (show 2 * T.leavesR.length ≤ 30 by omega)))) (by omega), ?_⟩
  have s3 : (secT (nmS T first) T).length ≤ 96 := s2
  unfold keyT
  simp only [List.length_cons, List.length_append]
  omega
/-- Nodes are told. -/
def addT (T : Tr) (first : Int) (O : O_rekey_Round) (l : List (List UInt8)) : O_rekey_Round := l.foldl (fun O n => { O with told_ := putA n 1 O.told_, known_ := putA n (blT T first n) O.known_ }) O
theorem addT_snoc (l : List (List UInt8)) (n : List UInt8) : addT T first O (l ++ [n]) = { addT T first O l with told_ := putA n 1 (addT T first O l).told_, known_ := putA n (blT T first n) (addT T first O l).known_ } := by
  unfold addT; rw [List.foldl_append]; rfl
theorem addT_same (l : List (List UInt8)) : ∀ O : O_rekey_Round, (addT T first O l).me_ = O.me_ ∧ (addT T first O l).v_ = O.v_ ∧ (addT T first O l).secret_ = O.secret_ ∧ (addT T first O l).tree_ = O.tree_ ∧ (addT T first O l).marked_ = O.marked_ ∧ (addT T first O l).marks_ = O.marks_ := by
  induction l with
  | nil => exact fun O => ⟨rfl, rfl, rfl, rfl, rfl, rfl⟩
  | cons n l ih => exact fun O => ih _
theorem addT_told (l : List (List UInt8)) (x : List UInt8) : ∀ O : O_rekey_Round, getA x (addT T first O l).told_ = if x ∈ l then some 1 else getA x O.told_ := by
  induction l with
  | nil => intro O; simp [addT]
  | cons n l ih =>
    intro O
    show getA x (addT T first _ l).told_ = _
    rw [ih]
    show (if x ∈ l then some 1 else getA x (putA n 1 O.told_)) = _
    rw [getA_put]
    by_cases h : x ∈ l
    · rw [if_pos h, if_pos (List.mem_cons_of_mem _ h)]
    · rw [if_neg h]
      by_cases h2 : x = n
      · rw [if_pos h2, if_pos (by rw [h2]; exact List.mem_cons_self)]
      · rw [if_neg h2, if_neg (by simp [h, h2])]
theorem addT_known (l : List (List UInt8)) (x : List UInt8) : ∀ O : O_rekey_Round, getA x (addT T first O l).known_ = if x ∈ l then some (blT T first x) else getA x O.known_ := by
  induction l with
  | nil => intro O; simp [addT]
  | cons n l ih =>
    intro O
    show getA x (addT T first _ l).known_ = _
    rw [ih]
    show (if x ∈ l then _ else getA x (putA n (blT T first n) O.known_)) = _
    rw [getA_put]
    by_cases h : x ∈ l
    · rw [if_pos h, if_pos (List.mem_cons_of_mem _ h)]
    · rw [if_neg h]
      by_cases h2 : x = n
      · rw [if_pos h2, if_pos (by rw [h2]; exact List.mem_cons_self), h2]
      · rw [if_neg h2, if_neg (by simp [h, h2])]
theorem addT_ok (h : RkOk T V first p O) {l : List (List UInt8)} (hl : ∀ n ∈ l, ∃ S, subT T n = some S) : RkOk T V first p (addT T first O l) := by
  obtain ⟨h1, h2, h3, h4, _, _⟩ := addT_same (T := T) (first := first) l O
  refine ⟨h1.trans h.me, h2.trans h.v, h3.trans h.sec, h4.trans h.tree, fun n e he => ?_⟩
  rw [addT_known] at he
  split at he
  · rename_i hm; cases he; exact ⟨rfl, hl n hm⟩
  · exact h.known n e he
theorem beside_off {π : List UInt8} (hc : ∀ c ∈ π, c = 108 ∨ c = 114) (j : Nat) (hj : j < π.length) : besideT (π.take (j + 1)) ∉ upT π := by
  intro h
  obtain ⟨i, hi, e⟩ := List.mem_map.1 (show besideT (π.take (j + 1)) ∈ (List.range (π.length + 1)).map fun j => π.take (π.length - j) from h)
  rw [← take_snoc hj, besideT_snoc] at e
  have hl := congrArg List.length e
  simp only [List.length_take, List.length_append, List.length_cons, List.length_nil] at hl
  have hij : π.length - i = j + 1 := by omega
  rw [hij, ← take_snoc hj] at e
  have e2 := List.append_cancel_left e
  have e3 : π[j] = if π[j] = 108 then 114 else 108 := by injection e2
  rcases hc π[j] (List.getElem_mem hj) with q | q
  · rw [q] at e3; exact absurd e3 (by decide)
  · rw [q] at e3; exact absurd e3 (by decide)
theorem preK_congr {K K' : List (List UInt8 × List UInt8)} {π : List UInt8} : ∀ d, (∀ j, j < d → (getA (besideT (π.take (j + 1))) K').isSome = (getA (besideT (π.take (j + 1))) K).isSome) → preK K' π d = preK K π d
  | 0, _ => rfl
  | d + 1, h => by rw [preK_succ, preK_succ, h d (by omega), preK_congr d fun j hj => h j (by omega)]
theorem preK_add (hπ : pathL T p = some π) {l : List (List UInt8)} (hl : ∀ n ∈ l, n ∈ upT π) : preK (addT T first O l).known_ π π.length = preK O.known_ π π.length :=
  preK_congr _ fun j hj => by
    rw [addT_known, if_neg fun h => beside_off (path_leafAt T p π hπ).2 j hj (hl _ h)]
abbrev msgB (T : Tr) (V : D_api_View) (first : Int) (n : List UInt8) : D_list_Message := (7, V.1, (0, 0), 0, [], [textT n, blT T first n])
abbrev msgC (T : Tr) (V : D_api_View) (first : Int) (p : Int) : D_list_Message := (8, V.1, (0, 0), 0, [], [markT (keyT T V first) p])
abbrev duT (T : Tr) (p : Int) : List (List UInt8) := dutM T.text p
/-- How many duties it can tell. -/
def canT (T : Tr) (p : Int) (π : List UInt8) (O : O_rekey_Round) : Nat := min (duT T p).length (preK O.known_ π π.length + 1)
/-- What is told. -/
def toldIs (T : Tr) (p : Int) (O : O_rekey_Round) (t : Nat) : Prop := ∀ n, (getA n O.told_).getD 0 > 0 ↔ n ∈ (duT T p).take t
theorem duty_nodes (hv : ViewOk T V) (hπ : pathL T p = some π) : ∃ c, c ≤ π.length ∧ duT T p = (upT π).take c ∧ (duT T p).length = c ∧ (duT T p).Nodup ∧ (∀ n ∈ duT T p, n ∈ upT π ∧ n ≠ [] ∧ n.length ≤ 8 ∧ ∃ S, subT T n = some S) := by
  obtain ⟨c, h1, h2, _⟩ := dut_front hv.ok hv.nd hπ
  have h8 := leaves_eight hv.ok hv.nd
  have hpl := pathL_len T p π hπ
  have ho : ofM T.text = some T := by rw [ofM_iff hv.ok, if_pos hv.nd]
  refine ⟨c, h1, h2, by show (dutM T.text p).length = c; rw [h2, List.length_take, up_len]; omega, ?_, fun n hn => ?_⟩
  · have hp : pathM T.text p = upT π := by rw [pathM_eq ho, hπ]
    exact dut_nodup _ _ (by rw [hp]; exact up_nodup π)
  · have hu : n ∈ upT π := List.mem_of_mem_take (by rw [← h2]; exact hn)
    obtain ⟨i, hi, e⟩ := List.mem_map.1 (show n ∈ (List.range (π.length + 1)).map fun j => π.take (π.length - j) from hu)
    obtain ⟨S, hs, _⟩ := path_node hπ (π.length - i)
    refine ⟨hu, ?_, ?_, S, by rw [← e]; exact hs⟩
    · have := (List.mem_filter.1 hn).2
      exact (of_decide_eq_true this).1
    · rw [← e, List.length_take]; omega
theorem take_drop_snoc {α : Type} {l : List α} {t i : Nat} (ht : t ≤ i) (hi : i < l.length) : (l.take i).drop t ++ [l[i]] = (l.take (i + 1)).drop t := by
  rw [← take_snoc hi, List.drop_append_of_le_length (by rw [List.length_take]; omega)]
theorem start_round (hv : ViewOk T V) (h : RkOk T V first p O) (hπ : pathL T p = some π) {t : Nat} (ht : toldIs T p O t) (htc : t ≤ canT T p π O) {i : Nat} (hi : i < (duT T p).length) :
    rekey_Round_Start.b2 (((upT π).map (secAt T (nmS T first))).take (preK O.known_ π π.length + 1)) (duT T p) (addT T first O (((duT T p).take (min i (canT T p π O))).drop t)) ((((duT T p).take (min i (canT T p π O))).drop t).map (msgB T V first)) (i : Int) = some (.inl (addT T first O (((duT T p).take (min (i + 1) (canT T p π O))).drop t), (((duT T p).take (min (i + 1) (canT T p π O))).drop t).map (msgB T V first), ((i + 1 : Nat) : Int))) := by
  obtain ⟨c, c1, c2, c3, c4, c5⟩ := duty_nodes hv hπ
  have hpl := pathL_len T p π hπ
  have h8 := leaves_eight hv.ok hv.nd
  have hsl := sec_len O.known_ π (secAt T (nmS T first))
  have hcan : canT T p π O = min (duT T p).length (preK O.known_ π π.length + 1) := rfl
  generalize hu : canT T p π O = u at *
  unfold rekey_Round_Start.b2 rekey_Round_Start.k1
  rw [cond_t (by omega), idxL_lt hi, Option.bind_some, hsl]
  have htold : (getA (duT T p)[i] (addT T first O (((duT T p).take (min i u)).drop t)).told_).getD 0 > 0 ↔ i < t := by
    rw [addT_told]
    have hnot : (duT T p)[i] ∉ ((duT T p).take (min i u)).drop t := fun hm => by
      have hm2 := List.mem_of_mem_drop hm
      obtain ⟨j, hj, e⟩ := List.mem_take_iff_getElem.1 hm2
      have := (List.getElem_inj (h₀ := by omega) (h₁ := hi) c4).1 e
      omega
    rw [if_neg hnot, ht]
    constructor
    · intro hm
      obtain ⟨j, hj, e⟩ := List.mem_take_iff_getElem.1 hm
      have := (List.getElem_inj (h₀ := by omega) (h₁ := hi) c4).1 e
      omega
    · intro hlt
      exact List.mem_take_iff_getElem.2 ⟨i, by omega, rfl⟩
  by_cases hs : preK O.known_ π π.length + 1 ≤ i
  · have e1 : min (i + 1) u = min i u := by omega
    rw [show decide ((i : Int) ≥ ((preK O.known_ π π.length + 1 : Nat) : Int)) = true from decide_eq_true (by omega), cond_true, cond_true, e1, wrap1 i (by omega)]
  · rw [show decide ((i : Int) ≥ ((preK O.known_ π π.length + 1 : Nat) : Int)) = false from decide_eq_false (by omega), cond_false]
    have hiu : i < u := by omega
    by_cases hti : i < t
    · rw [decide_eq_true (htold.2 hti), cond_true, wrap1 i (by omega)]
      have e1 : ((duT T p).take (min i u)).drop t = [] := List.drop_of_length_le (by rw [List.length_take]; omega)
      have e2 : ((duT T p).take (min (i + 1) u)).drop t = [] := List.drop_of_length_le (by rw [List.length_take]; omega)
      rw [e1, e2]
    · rw [decide_eq_false fun q => hti (htold.1 q), cond_false]
      have em : min i u = i := by omega
      have em2 : min (i + 1) u = i + 1 := by omega
      rw [em, em2]
      obtain ⟨n1, n2, n3, S, n4⟩ := c5 (duT T p)[i] (List.getElem_mem hi)
      have hix : idxL (((upT π).map (secAt T (nmS T first))).take (preK O.known_ π π.length + 1)) (i : Int) = some (secT (nmS T first) S) := by
        rw [idxL_nat, List.getElem?_take_of_lt (by omega), List.getElem?_map]
        have e3 : (upT π)[i]? = some (duT T p)[i] := by
          have : (duT T p)[i]? = (upT π)[i]? := by rw [c2, List.getElem?_take_of_lt (by omega)]
          rw [← this]; exact List.getElem?_eq_getElem hi
        rw [e3]
        show some (secAt T (nmS T first) _) = _
        rw [secAt_in n4]
      rw [hix, Option.bind_some, sec_elem (nm_small hv.ok hv.nd (memS T) first n4), Option.bind_some]
      show (cond ((0 : Int) != 0) _ _) = _
      rw [show ((0 : Int) != 0) = false from rfl, cond_false, text_eq (by omega), Option.bind_some]
      have hb : (101 :: 1 :: secT (nmS T first) S : List UInt8) = blT T first (duT T p)[i] := by
        show _ = 101 :: 1 :: secAt T (nmS T first) _
        rw [secAt_in n4]
      rw [hb]
      show (rekey_Round_message.f _ 7 [textT (duT T p)[i], blT T first (duT T p)[i]]).bind _ = _
      have hl1 : ((((duT T p).take i).drop t).map (msgB T V first)).length ≤ 10 := by
        rw [List.length_map, List.length_drop, List.length_take]; omega
      unfold rekey_Round_message.f
      rw [Option.bind_some, room_of (by omega), wrap1 i (by omega), ← take_drop_snoc (by omega) hi, addT_snoc, List.map_append]
      have hvv := (addT_same (T := T) (first := first) (((duT T p).take i).drop t) O).2.1
      rw [show (addT T first O (((duT T p).take i).drop t)).v_.1 = V.1 by rw [hvv, h.v]]
      rfl
end
section
variable {T : Tr} {V : D_api_View} {first : Int} {p : Int} {π : List UInt8} {O : O_rekey_Round}
theorem canT_add (hπ : pathL T p = some π) {l : List (List UInt8)} (hl : ∀ n ∈ l, n ∈ upT π) : canT T p π (addT T first O l) = canT T p π O := by
  unfold canT; rw [preK_add hπ hl]
/-- What one has told behind Start. -/
def startO (T : Tr) (first : Int) (p : Int) (π : List UInt8) (O : O_rekey_Round) (t : Nat) : O_rekey_Round :=
  let O1 := addT T first O (((duT T p).take (canT T p π O)).drop t)
  if preK O.known_ π π.length = π.length ∧ O.marked_ = false then { O1 with marked_ := true } else O1
def startM (T : Tr) (V : D_api_View) (first : Int) (p : Int) (π : List UInt8) (O : O_rekey_Round) (t : Nat) : List D_list_Message :=
  (((duT T p).take (canT T p π O)).drop t).map (msgB T V first) ++ (if preK O.known_ π π.length = π.length ∧ O.marked_ = false then [msgC T V first p] else [])
theorem start_is (hv : ViewOk T V) (h : RkOk T V first p O) (hπ : pathL T p = some π) {t : Nat} (ht : toldIs T p O t) (htc : t ≤ canT T p π O) : rekey_Round_Start.f O = some (startM T V first p π O t, startO T first p π O t) := by
  obtain ⟨c, c1, c2, c3, c4, c5⟩ := duty_nodes hv hπ
  have hpl := pathL_len T p π hπ
  have h8 := leaves_eight hv.ok hv.nd
  have hcan : canT T p π O ≤ (duT T p).length := Nat.min_le_left _ _
  have hd : place_Duties.f T.text p = some (duT T p) := dut_eq (by have := tree_len hv.ok hv.nd; omega)
  have hloop : loopM (fun s : O_rekey_Round × (List D_list_Message) × Int => rekey_Round_Start.b2 (((upT π).map (secAt T (nmS T first))).take (preK O.known_ π π.length + 1)) (duT T p) s.1 s.2.1 s.2.2) (O, ([] : List D_list_Message), (0 : Int)) = some (addT T first O (((duT T p).take (canT T p π O)).drop t), (((duT T p).take (canT T p π O)).drop t).map (msgB T V first)) := by
    have := loop_up (body := fun s : O_rekey_Round × (List D_list_Message) × Int => rekey_Round_Start.b2 (((upT π).map (secAt T (nmS T first))).take (preK O.known_ π π.length + 1)) (duT T p) s.1 s.2.1 s.2.2)
      (fun i => (addT T first O (((duT T p).take (min i (canT T p π O))).drop t), (((duT T p).take (min i (canT T p π O))).drop t).map (msgB T V first), (i : Int))) (duT T p).length
      (fun i hi => start_round hv h hπ ht htc hi)
      (o := (addT T first O (((duT T p).take (canT T p π O)).drop t), (((duT T p).take (canT T p π O)).drop t).map (msgB T V first)))
      (by
        show rekey_Round_Start.b2 _ _ _ _ _ = _
        unfold rekey_Round_Start.b2
        rw [cond_f (Int.lt_irrefl _), Nat.min_eq_right hcan])
      (duT T p).length 0 (by omega)
    simpa [addT] using this
  unfold rekey_Round_Start.f
  rw [secrets_is hv h hπ, Option.bind_some, h.tree, h.me, hd, Option.bind_some, hloop, Option.bind_some]
  have hsub : ∀ n ∈ ((duT T p).take (canT T p π O)).drop t, n ∈ duT T p := fun n hn => List.mem_of_mem_take (List.mem_of_mem_drop hn)
  have h1 : RkOk T V first p (addT T first O (((duT T p).take (canT T p π O)).drop t)) := addT_ok h fun n hn => (c5 n (hsub n hn)).2.2.2
  have hpre : preK (addT T first O (((duT T p).take (canT T p π O)).drop t)).known_ π π.length = preK O.known_ π π.length := preK_add hπ fun n hn => (c5 n (hsub n hn)).1
  have hmk : (addT T first O (((duT T p).take (canT T p π O)).drop t)).marked_ = O.marked_ := (addT_same _ O).2.2.2.2.1
  show rekey_Round_Start.k4 (addT T first O _) _ = _
  unfold rekey_Round_Start.k4 rekey_Round_Start.k3
  rw [key_is hv h1 hπ, Option.bind_some, hpre, hmk]
  unfold startM startO
  by_cases hk : preK O.known_ π π.length = π.length
  · rw [if_pos hk, cond_true]
    cases hm : O.marked_ with
    | true =>
      rw [if_neg (fun q => by cases q.2), if_neg (fun q => by cases q.2), List.append_nil]
      rfl
    | false =>
      rw [if_pos ⟨hk, rfl⟩, if_pos ⟨hk, rfl⟩]
      show ((rekey_mark.f (keyT T V first) (addT T first O _).me_).bind _) = _
      obtain ⟨kf, kl⟩ := key_full (first := first) hv
      rw [h1.me, mark_eq kf (by omega), Option.bind_some]
      unfold rekey_Round_message.f
      have hl10 : ((((duT T p).take (canT T p π O)).drop t).map (msgB T V first)).length ≤ 10 := by rw [List.length_map, List.length_drop, List.length_take]; omega
      rw [Option.bind_some, room_of (Nat.le_trans (Nat.mul_le_mul_right _ (Nat.succ_le_succ hl10)) (by decide))]
      show some ((_ ++ [_] : List D_list_Message), _) = _
      rw [show (({ addT T first O (((duT T p).take (canT T p π O)).drop t) with marked_ := true } : O_rekey_Round)).v_.1 = V.1 by show (addT T first O _).v_.1 = _; rw [h1.v]]
  · rw [if_neg hk, if_neg (fun q => hk q.1), if_neg (fun q => hk q.1), List.append_nil]
    rfl
theorem startO_ok (hv : ViewOk T V) (h : RkOk T V first p O) (hπ : pathL T p = some π) {t : Nat} (ht : toldIs T p O t) (htc : t ≤ canT T p π O) :
    RkOk T V first p (startO T first p π O t) ∧ toldIs T p (startO T first p π O t) (canT T p π O) ∧ canT T p π (startO T first p π O t) = canT T p π O ∧ preK (startO T first p π O t).known_ π π.length = preK O.known_ π π.length ∧
    (startO T first p π O t).marks_ = O.marks_ ∧ ((startO T first p π O t).marked_ = true ↔ O.marked_ = true ∨ preK O.known_ π π.length = π.length) ∧ (∀ x, (getA x O.known_).isSome = true → (getA x (startO T first p π O t).known_).isSome = true) := by
  obtain ⟨c, c1, c2, c3, c4, c5⟩ := duty_nodes hv hπ
  have hsub : ∀ n ∈ ((duT T p).take (canT T p π O)).drop t, n ∈ duT T p := fun n hn => List.mem_of_mem_take (List.mem_of_mem_drop hn)
  have h1 : RkOk T V first p (addT T first O (((duT T p).take (canT T p π O)).drop t)) := addT_ok h fun n hn => (c5 n (hsub n hn)).2.2.2
  have hpre : preK (addT T first O (((duT T p).take (canT T p π O)).drop t)).known_ π π.length = preK O.known_ π π.length := preK_add hπ fun n hn => (c5 n (hsub n hn)).1
  obtain ⟨s1, s2, s3, s4, s5, s6⟩ := addT_same (T := T) (first := first) (((duT T p).take (canT T p π O)).drop t) O
  have htold : toldIs T p (addT T first O (((duT T p).take (canT T p π O)).drop t)) (canT T p π O) := by
    intro n
    rw [addT_told]
    have e : (duT T p).take (canT T p π O) = (duT T p).take t ++ ((duT T p).take (canT T p π O)).drop t := by
      have := (List.take_append_drop t ((duT T p).take (canT T p π O))).symm
      rwa [List.take_take, Nat.min_eq_left htc] at this
    by_cases hm : n ∈ ((duT T p).take (canT T p π O)).drop t
    · rw [if_pos hm]
      exact ⟨fun _ => List.mem_of_mem_drop hm, fun _ => by decide⟩
    · rw [if_neg hm, ht n, e]
      simp only [List.mem_append, hm, or_false]
  have hmono : ∀ x, (getA x O.known_).isSome = true → (getA x (addT T first O (((duT T p).take (canT T p π O)).drop t)).known_).isSome = true := fun x hx => by
    rw [addT_known]; split
    · rfl
    · exact hx
  have hcanA : canT T p π (addT T first O (((duT T p).take (canT T p π O)).drop t)) = canT T p π O := canT_add hπ fun n hn => (c5 n (hsub n hn)).1
  unfold startO
  by_cases hk : preK O.known_ π π.length = π.length ∧ O.marked_ = false
  · rw [if_pos hk]
    exact ⟨⟨h1.me, h1.v, h1.sec, h1.tree, h1.known⟩, htold, hcanA, hpre, s6, ⟨fun _ => .inr hk.1, fun _ => rfl⟩, hmono⟩
  · rw [if_neg hk]
    refine ⟨h1, htold, hcanA, hpre, s6, ?_, hmono⟩
    show (addT T first O _).marked_ = true ↔ _
    rw [s5]
    constructor
    · exact .inl
    · rintro (q | q)
      · exact q
      · cases hm : O.marked_ with
        | true => rfl
        | false => exact absurd ⟨q, hm⟩ hk
end
end Go.Proofs.YtfapphlhkfddoaaGreatDoor.G
/- Chapter 16, one member: Take and Confirmed, as they are reckoned. -/
namespace Go.Proofs.YtfapphlhkfddoaaGreatDoor.G
open Go.RowKit Go.Eng Go.Proofs Go.Proofs.YtfapphlhkfddoaaGreatDoor.Cut
set_option linter.unusedVariables false
set_option linter.unusedSimpArgs false
section
variable {T : Tr} {V : D_api_View} {first : Int} {p q : Int} {π : List UInt8} {O : O_rekey_Round}
theorem blT_kind (hv : ViewOk T V) {x : List UInt8} {S : Tr} (hx : subT T x = some S) : parts_Kind.f (blT T first x) = some (101 : Int) := by
  obtain ⟨s1, s2⟩ := sec_le (nm_small hv.ok hv.nd (memS T) first hx)
  have sf := (secT_full S (nm_small hv.ok hv.nd (memS T) first hx).1).1
  have h8 := (sub_ok4 hv.ok hv.nd hx)
  have hS := leaves_eight h8.1 h8.2.1
  have s3 : (secT (nmS T first) S).length ≤ 96 := s2
  show parts_Kind.f (101 :: 1 :: secAt T (nmS T first) x) = _
  rw [secAt_in hx]
  exact kind_full (full_elem (full_mono sf (show 2 * S.leavesR.length ≤ 30 by omega))) (by omega) (by simp; omega)
theorem blinded_is (hv : ViewOk T V) (h : RkOk T V first p O) {x : List UInt8} {S : Tr} (hx : subT T x = some S) (hne : x ≠ []) (hl : x.length ≤ 100) (hs : sponM T.text x = q) :
    rekey_Round_blinded.f O q (msgB T V first x) = some (if (getA x O.known_).isSome = true then (false, O) else (true, { O with known_ := putA x (blT T first x) O.known_ })) := by
  have htl := tree_len hv.ok hv.nd
  unfold rekey_Round_blinded.f
  show (cond (((2 : Nat) : Int) != 2) _ _) = _
  rw [show ((((2 : Nat) : Int) != 2)) = false from rfl, cond_false]
  show ((some (textT x)).bind _) = _
  rw [Option.bind_some, said_text hl, Option.bind_some]
  show ((some (blT T first x)).bind _) = _
  rw [Option.bind_some, blT_kind hv hx, Option.bind_some]
  have hse : strEq x ([] : List UInt8) = false := by rw [strEq_eq, decide_eq_false hne]
  rw [show (cond (cond (!(x, true).2) true (strEq (x, true).1 [])) true (cond ((101 : Int) != 103) ((101 : Int) != 101) false)) = false by
    show (cond (strEq x []) true (cond ((101 : Int) != 103) ((101 : Int) != 101) false)) = false
    rw [hse]; rfl, cond_false]
  show ((place_Sponsor.f O.tree_ x).bind _) = _
  rw [show place_Sponsor.f O.tree_ x = some q by rw [h.tree, spon_eq (by omega), hs], Option.bind_some]
  unfold rekey_Round_blinded.k1
  rw [show (q != q) = false by simp]
  show (cond ((getA x O.known_).isSome) _ _) = _
  cases hg : (getA x O.known_).isSome with
  | true => rw [cond_true, if_pos rfl]
  | false =>
    rw [cond_false, if_neg (fun e => by cases e)]
    rfl
theorem has_mem (hv : ViewOk T V) (hq : q ∈ memS T) : view_Has.f V.2 q = some true := by
  have h8 := leaves_eight hv.ok hv.nd
  rw [has_eq _ _ (by rw [hv.ms, sortZ_len]; omega), hv.ms, decide_eq_true hq]
theorem take_blind (hv : ViewOk T V) (h : RkOk T V first p O) {x : List UInt8} {S : Tr} (hx : subT T x = some S) (hne : x ≠ []) (hl : x.length ≤ 100) (hs : sponM T.text x = q) (hq : q ∈ memS T) (hqp : q ≠ p) :
    rekey_Round_Take.f O q (msgB T V first x) = if (getA x O.known_).isSome = true then some ([], O) else rekey_Round_Start.f { O with known_ := putA x (blT T first x) O.known_ } := by
  unfold rekey_Round_Take.f
  rw [show (q == O.me_) = false by rw [h.me]; simpa using hqp, cond_false, show view_Has.f O.v_.2 q = some true by rw [h.v]; exact has_mem hv hq, Option.bind_some]
  unfold rekey_Round_Take.k2
  rw [show (cond (cond false true (!true)) true (!((V.1.1 == O.v_.1.1) && (V.1.2 == O.v_.1.2)))) = false by rw [h.v]; simp, cond_false]
  show (cond ((7 : Int) == 8) _ (cond ((7 : Int) == 7) _ _)) = _
  rw [show ((7 : Int) == 8) = false from rfl, cond_false, show ((7 : Int) == 7) = true from rfl, cond_true]
  rw [blinded_is hv h hx hne hl hs, Option.bind_some]
  unfold rekey_Round_Take.k1
  by_cases hg : (getA x O.known_).isSome = true
  · rw [if_pos hg, if_pos hg]; rfl
  · rw [if_neg hg, if_neg hg]
    show (rekey_Round_Start.f _).bind (fun y => some y) = _
    cases rekey_Round_Start.f { O with known_ := putA x (blT T first x) O.known_ } <;> rfl
theorem take_mark (hv : ViewOk T V) (h : RkOk T V first p O) (hq : q ∈ memS T) (hqp : q ≠ p) :
    rekey_Round_Take.f O q (msgC T V first q) = some ([], if (getA q O.marks_).isSome = true then O else { O with marks_ := putA q (markT (keyT T V first) q) O.marks_ }) := by
  unfold rekey_Round_Take.f
  rw [show (q == O.me_) = false by rw [h.me]; simpa using hqp, cond_false, show view_Has.f O.v_.2 q = some true by rw [h.v]; exact has_mem hv hq, Option.bind_some]
  unfold rekey_Round_Take.k2
  rw [show (cond (cond false true (!true)) true (!((V.1.1 == O.v_.1.1) && (V.1.2 == O.v_.1.2)))) = false by rw [h.v]; simp, cond_false]
  show (cond ((8 : Int) == 8) (cond (cond (!((getA q O.marks_).isSome)) (((1 : Nat) : Int) == 1) false) _ _) _) = _
  rw [show ((8 : Int) == 8) = true from rfl, cond_true]
  unfold rekey_Round_Take.k1
  cases hg : (getA q O.marks_).isSome with
  | true => rw [if_pos rfl]; rfl
  | false => rw [if_neg (fun e => by cases e)]; rfl
/-- Its marks are right. -/
def marksOk (T : Tr) (V : D_api_View) (first : Int) (O : O_rekey_Round) : Prop := ∀ q m, getA q O.marks_ = some m → m = markT (keyT T V first) q
theorem confirmed_is (hv : ViewOk T V) (h : RkOk T V first p O) (hπ : pathL T p = some π) (hm : marksOk T V first O) :
    rekey_Round_Confirmed.f O = some (decide (preK O.known_ π π.length = π.length ∧ ∀ q ∈ memS T, q ≠ p → (getA q O.marks_).isSome = true)) := by
  have h8 := leaves_eight hv.ok hv.nd
  have hml : V.2.length ≤ 8 := by rw [hv.ms, sortZ_len]; omega
  unfold rekey_Round_Confirmed.f
  rw [key_is hv h hπ, Option.bind_some]
  by_cases hk : preK O.known_ π π.length = π.length
  · rw [if_pos hk]
    show (loopM (fun s : Int => rekey_Round_Confirmed.b3 O (keyT T V first, true) s) (0 : Int)).bind _ = _
    have key : ∀ k i, i + k = V.2.length → loopM (fun s : Int => rekey_Round_Confirmed.b3 O (keyT T V first, true) s) (i : Int) = some (if ∀ q ∈ V.2.drop i, q ≠ p → (getA q O.marks_).isSome = true then Sum.inl () else Sum.inr false) := by
      intro k
      induction k with
      | zero =>
        intro i hi
        refine loop_end ?_
        show rekey_Round_Confirmed.b3 O (keyT T V first, true) (i : Int) = _
        unfold rekey_Round_Confirmed.b3
        rw [h.v, cond_f (by omega), List.drop_of_length_le (by omega), if_pos (by simp)]
      | succ k ih =>
        intro i hi
        have hl : i < V.2.length := by omega
        have h2 := ih (i + 1) (by omega)
        have hd : V.2.drop i = V.2[i] :: V.2.drop (i + 1) := List.drop_eq_getElem_cons hl
        have body : rekey_Round_Confirmed.b3 O (keyT T V first, true) (i : Int) = if V.2[i] = p ∨ (getA V.2[i] O.marks_).isSome = true then some (.inl ((i + 1 : Nat) : Int)) else some (.inr (.inr false)) := by
          unfold rekey_Round_Confirmed.b3 rekey_Round_Confirmed.k2 rekey_Round_Confirmed.k1
          rw [h.v, cond_t (by omega), idxL_lt hl, Option.bind_some, h.me]
          by_cases hp : V.2[i] = p
          · rw [if_pos (.inl hp), show (V.2[i] == p) = true by simpa using hp, cond_true, wrap1 i (by omega)]
          · rw [show (V.2[i] == p) = false by simpa using hp, cond_false]
            obtain ⟨kf, kl⟩ := key_full (first := first) hv
            cases hg : getA V.2[i] O.marks_ with
            | none => rw [if_neg (by rintro (e | e); exact hp e; cases e)]; rfl
            | some m =>
              rw [if_pos (.inr rfl)]
              show ((rekey_mark.f (keyT T V first) V.2[i]).bind _) = _
              rw [mark_eq kf (by omega), Option.bind_some]
              show (cond (cond false true (!(strEq m (markT (keyT T V first) V.2[i])))) _ _) = _
              rw [hm _ _ hg, strEq_eq, decide_eq_true rfl, wrap1 i (by omega)]
              rfl
        by_cases hc : V.2[i] = p ∨ (getA V.2[i] O.marks_).isSome = true
        · rw [if_pos hc] at body
          have e : (∀ q ∈ V.2.drop i, q ≠ p → (getA q O.marks_).isSome = true) ↔ ∀ q ∈ V.2.drop (i + 1), q ≠ p → (getA q O.marks_).isSome = true := by
            rw [hd]
            constructor
            · exact fun a q hq => a q (List.mem_cons_of_mem _ hq)
            · intro a q hq hne
              rcases List.mem_cons.1 hq with e | e
              · subst e
                exact hc.resolve_left hne
              · exact a q e hne
          by_cases hA : ∀ q ∈ V.2.drop i, q ≠ p → (getA q O.marks_).isSome = true
          · rw [if_pos hA]; rw [if_pos (e.1 hA)] at h2; exact loop_step body h2
          · rw [if_neg hA]; rw [if_neg (fun q => hA (e.2 q))] at h2; exact loop_step body h2
        · rw [if_neg hc] at body
          rw [if_neg (fun a => hc (by
            by_cases hp : V.2[i] = p
            · exact .inl hp
            · exact .inr (a _ (by rw [hd]; exact List.mem_cons_self) hp)))]
          exact loop_end body
    have := key V.2.length 0 (by omega)
    rw [List.drop_zero] at this
    rw [show loopM (fun s : Int => rekey_Round_Confirmed.b3 O (keyT T V first, true) s) (0 : Int) = _ from this, Option.bind_some]
    by_cases ha : ∀ q ∈ V.2, q ≠ p → (getA q O.marks_).isSome = true
    · rw [if_pos ha, decide_eq_true ⟨hk, by rw [← hv.ms]; exact ha⟩]; rfl
    · rw [if_neg ha, decide_eq_false (fun q => ha (by rw [hv.ms]; exact q.2))]; rfl
  · rw [if_neg hk, decide_eq_false (fun q => hk q.1)]; rfl
end
end Go.Proofs.YtfapphlhkfddoaaGreatDoor.G
/- Chapter 16: what is sent, a view of bits, and new members, as they are reckoned. -/
namespace Go.Proofs.YtfapphlhkfddoaaGreatDoor.G
open Go.RowKit Go.Eng Go.Proofs Go.Proofs.YtfapphlhkfddoaaGreatDoor.Cut
set_option linter.unusedVariables false
set_option linter.unusedSimpArgs false

/-- To all others. -/
def toAll (p : Int) (i : Nat) (m : D_list_Message) : Nat → List D_gemotlaw16_letter
  | 0 => []
  | n + 1 => toAll p i m n ++ (if n = i then [] else [(p, (n : Int), m)])
def sendL (p : Int) (i N : Nat) (l : List D_list_Message) : List D_gemotlaw16_letter := l.flatMap fun m => toAll p i m N
theorem toAll_mem (p : Int) (i : Nat) (m : D_list_Message) (x : D_gemotlaw16_letter) : ∀ n, x ∈ toAll p i m n ↔ ∃ j, j < n ∧ j ≠ i ∧ x = (p, (j : Int), m)
  | 0 => by simp [toAll]
  | n + 1 => by
    have ih := toAll_mem p i m x n
    simp only [toAll, List.mem_append, ih]
    constructor
    · rintro (⟨j, h1, h2⟩ | h)
      · exact ⟨j, by omega, h2⟩
      · by_cases hn : n = i
        · rw [if_pos hn] at h; cases h
        · rw [if_neg hn] at h; exact ⟨n, by omega, hn, List.mem_singleton.1 h⟩
    · rintro ⟨j, h1, h2, h3⟩
      rcases Nat.lt_or_ge j n with k | k
      · exact .inl ⟨j, k, h2, h3⟩
      · have : j = n := by omega
        subst this
        exact .inr (by rw [if_neg h2]; exact List.mem_singleton.2 h3)
theorem toAll_len (p : Int) (i : Nat) (m : D_list_Message) : ∀ n, (toAll p i m n).length + (if i < n then 1 else 0) = n
  | 0 => by simp [toAll]
  | n + 1 => by
    have ih := toAll_len p i m n
    simp only [toAll, List.length_append]
    by_cases hn : n = i
    · subst hn
      rw [if_neg (Nat.lt_irrefl _)] at ih
      rw [if_pos rfl, if_pos (by omega)]
      simp; omega
    · rw [if_neg hn]
      by_cases h : i < n
      · rw [if_pos h] at ih; rw [if_pos (by omega)]; simp; omega
      · rw [if_neg h] at ih; rw [if_neg (by omega)]; simp; omega
theorem sendL_len (p : Int) {i N : Nat} (hi : i < N) : ∀ l : List D_list_Message, (sendL p i N l).length = (N - 1) * l.length
  | [] => by simp [sendL]
  | m :: l => by
    have ih := sendL_len p hi l
    have h1 := toAll_len p i m N
    rw [if_pos hi] at h1
    simp only [sendL, List.flatMap_cons, List.length_append] at ih ⊢
    rw [ih, List.length_cons, Nat.mul_add]
    omega
theorem sendL_mem {p : Int} {i N : Nat} {l : List D_list_Message} {x : D_gemotlaw16_letter} : x ∈ sendL p i N l ↔ ∃ m ∈ l, ∃ j, j < N ∧ j ≠ i ∧ x = (p, (j : Int), m) := by
  unfold sendL
  rw [List.mem_flatMap]
  exact ⟨fun ⟨m, h1, h2⟩ => ⟨m, h1, (toAll_mem p i m x N).1 h2⟩, fun ⟨m, h1, h2⟩ => ⟨m, h1, (toAll_mem p i m x N).2 h2⟩⟩
theorem send_in {ms : List Int} {l : List D_list_Message} {k : Nat} (hk : k < l.length) {i : Nat} (hi : i < ms.length) (hm : ms.length ≤ 8) (row : List D_gemotlaw16_letter) (hr : row.length ≤ 100000) :
    loopM (fun s : (List D_gemotlaw16_letter) × Int => gemotlaw16_send.b2 ms (i : Int) l (k : Int) s.1 s.2) (row, (0 : Int)) = some (row ++ toAll ms[i] i l[k] ms.length) := by
  have key : ∀ q j, j + q = ms.length → loopM (fun s : (List D_gemotlaw16_letter) × Int => gemotlaw16_send.b2 ms (i : Int) l (k : Int) s.1 s.2) (row ++ toAll ms[i] i l[k] j, (j : Int)) = some (row ++ toAll ms[i] i l[k] ms.length) := by
    intro q
    induction q with
    | zero =>
      intro j hj
      have : j = ms.length := by omega
      subst this
      refine loop_end ?_
      show gemotlaw16_send.b2 _ _ _ _ _ _ = _
      unfold gemotlaw16_send.b2
      rw [cond_f (Int.lt_irrefl _)]
    | succ q ih =>
      intro j hj
      have h2 := ih (j + 1) (by omega)
      refine loop_step ?_ h2
      have hl := toAll_len ms[i] i l[k] j
      show gemotlaw16_send.b2 _ _ _ _ _ _ = _
      unfold gemotlaw16_send.b2 gemotlaw16_send.k1
      rw [cond_t (by omega), int_ne]
      simp only [toAll]
      by_cases hji : j = i
      · rw [decide_eq_false (fun q => q hji), cond_false, if_pos hji, List.append_nil, wrap1 j (by omega)]
      · rw [decide_eq_true hji, cond_true, if_neg hji, idxL_lt hi, Option.bind_some, idxL_lt hk, Option.bind_some, room_of (by rw [List.length_append]; split at hl <;> omega), wrap1 j (by omega), List.append_assoc]
  have := key ms.length 0 (by omega)
  simpa [toAll] using this
theorem send_eq {ms : List Int} {l : List D_list_Message} (hl : l.length ≤ 100) {i : Nat} (hi : i < ms.length) (hm : ms.length ≤ 8) (row : List D_gemotlaw16_letter) (hr : row.length ≤ 50000) :
    gemotlaw16_send.f row ms (i : Int) l = some (row ++ sendL ms[i] i ms.length l) := by
  have key : ∀ q k, k + q = l.length → loopM (fun s : (List D_gemotlaw16_letter) × Int => gemotlaw16_send.b4 ms (i : Int) l s.1 s.2) (row ++ sendL ms[i] i ms.length (l.take k), (k : Int)) = some (row ++ sendL ms[i] i ms.length l) := by
    intro q
    induction q with
    | zero =>
      intro k hk
      have : k = l.length := by omega
      subst this
      refine loop_end ?_
      show gemotlaw16_send.b4 _ _ _ _ _ = _
      unfold gemotlaw16_send.b4
      rw [cond_f (Int.lt_irrefl _), List.take_length]
    | succ q ih =>
      intro k hk
      have hkl : k < l.length := by omega
      have h2 := ih (k + 1) (by omega)
      refine loop_step ?_ h2
      have hs := sendL_len ms[i] hi (l.take k)
      rw [List.length_take, Nat.min_eq_left (by omega)] at hs
      have hb : (ms.length - 1) * k ≤ 7 * 100 := Nat.mul_le_mul (by omega) (by omega)
      show gemotlaw16_send.b4 _ _ _ _ _ = _
      unfold gemotlaw16_send.b4 gemotlaw16_send.k3
      rw [cond_t (by omega), send_in hkl hi hm _ (by rw [List.length_append, hs]; omega), Option.bind_some, wrap1 k (by omega), ← take_snoc hkl]
      simp only [sendL, List.flatMap_append, List.flatMap_cons, List.flatMap_nil, List.append_nil, List.append_assoc]
  unfold gemotlaw16_send.f gemotlaw16_send.k5
  have := key l.length 0 (by omega)
  rw [List.take_zero] at this
  rw [show loopM (fun s : (List D_gemotlaw16_letter) × Int => gemotlaw16_send.b4 ms (i : Int) l s.1 s.2) (row, (0 : Int)) = _ from by simpa [sendL] using this]
  rfl
/-! A view of bits -/
theorem pick16 {x n : Int} (hx : inI64 x) (hn : 0 < n) : ∃ y, gemotlaw16_pick.f x n = some y ∧ 0 ≤ y ∧ y < n := by
  have key : ∀ v : Int, 0 ≤ v → ∃ y, gemotlaw16_pick.k1 n v = some y ∧ 0 ≤ y ∧ y < n := fun v hv => by
    unfold gemotlaw16_pick.k1 remM
    rw [if_neg (by omega)]
    refine ⟨v.tmod n, rfl, ?_, ?_⟩
    · exact Int.tmod_nonneg _ hv
    · exact Int.tmod_lt_of_pos _ hn
  obtain ⟨h1, h2⟩ := hx
  unfold gemotlaw16_pick.f
  by_cases h : x < 0
  · have e : IntKind.i64.wrap (0 - IntKind.i64.wrap (x + 1)) = -(x + 1) := by
      rw [Eng.i64_id (x := x + 1) (by omega) (by omega), Eng.i64_id (by omega) (by omega)]; omega
    rw [decide_eq_true h, cond_true, e]
    exact key _ (by omega)
  · rw [decide_eq_false h, cond_false]
    exact key _ (by omega)
end Go.Proofs.YtfapphlhkfddoaaGreatDoor.G
