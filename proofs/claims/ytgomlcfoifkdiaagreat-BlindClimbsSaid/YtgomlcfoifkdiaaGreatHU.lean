/- Walks, printed by a program of this proof's own. -/
import Derived.Test.YtgomlcfoifkdiaaGreatHT
import Derived.Test.YtgomlcfoifkdiaaGreatClimbP
import Derived.KernelRfl
namespace Go.Proofs.YtgomlcfoifkdiaaGreat.G
open Go.RowKit Go.Eng Go.Proofs
set_option linter.unusedVariables false
set_option maxRecDepth 20000
/-! gemot/gemotref13.digits -/
noncomputable def gemotref13_digits.k1 (x0 : List UInt8) (v364 : Int) (v544 : List Int) : Option (((List Int) × Int) ⊕ (List Int)) := some (.inl (v544, (IntKind.i64.wrap (v364 + (1 : Int)))))
noncomputable def gemotref13_digits.k2 (x0 : List UInt8) (v360 : List Int) (v364 : Int) (v555 : Bool) : Option (((List Int) × Int) ⊕ (List Int)) := cond v555 ((idxS x0 v364).bind fun y565 => roomM 8 (v360.length + 1) (gemotref13_digits.k1 x0 v364 (v360 ++ [(IntKind.i64.wrap (IntKind.u8.wrap (y565 - (48 : Int))))]))) (gemotref13_digits.k1 x0 v364 v360)
noncomputable def gemotref13_digits.b3 (x0 : List UInt8) (v360 : List Int) (v364 : Int) : Option (((List Int) × Int) ⊕ (List Int)) := cond (decide (v364 < (x0.length : Int))) ((idxS x0 v364).bind fun y558 => cond (decide (y558 ≥ (49 : Int))) ((idxS x0 v364).bind fun y561 => gemotref13_digits.k2 x0 v360 v364 (cond (decide (y558 ≥ (49 : Int))) (decide (y561 ≤ (56 : Int))) false)) (gemotref13_digits.k2 x0 v360 v364 (cond (decide (y558 ≥ (49 : Int))) (decide ((0 : Int) ≤ (56 : Int))) false))) (some (.inr v360))
noncomputable def gemotref13_digits.k4 (v287 : List Int) : Option ((List Int)) := some v287
noncomputable def gemotref13_digits.f (x0 : List UInt8) : Option ((List Int)) := (loopM (fun s512 : (List Int) × Int => gemotref13_digits.b3 x0 s512.1 s512.2) (([] : List Int), (0 : Int))).bind (fun (o510 : (List Int)) => gemotref13_digits.k4 o510)
set_option maxHeartbeats 4000000 in
theorem gemotref13_digits_ok {ok : Nat → Prop} {w : World} {x0 : List UInt8} {r : (List Int)} (h : gemotref13_digits.f x0 = some r) :
    Calls Tryz.prog 54 #[.string (bs x0)] w fun e w' => ∃ v, e = .returned v ∧ (rowOut w w' ok (tInt .i64) 3 v r ∧ Bel w.heap.size w w') := by
  have H : Eng.Own ok w w [] := Eng.Own.nil ok w
  unfold gemotref13_digits.f at h
  refine enterN (args := [.string (bs x0)]) Tryz.func54 rfl Tryz.ntmps54 rfl rfl ?_
  refine nc_seq ?_
  refine nc ?_
  refine nc_seq ?_
  refine nc ?_
  refine nc_cut (fun e w291 => ∃ (A288 : Option Addr) (c289 : Nat) (cs290 : List Value) (v287 : List Int), gemotref13_digits.k4 v287 = some r ∧ e = [(3, .slice A288 v287.length c289)] ∧ Eng.Own ok w w291 [.dat (dRows (tInt .i64) v287 cs290), .row (.slice A288 v287.length c289) 3 1 v287.length cs290]) ?_ ?_
  · skip
    refine nc_seq ?_
    refine nc ?_
    refine nc_block ?_
    replace H := H.nilRowD (tInt .i64) 3
    obtain ⟨o502, hL503, hO504⟩ := bindS h
    obtain ⟨n505, hL503⟩ := loopS hL503
    refine nc ?_
    refine loop_ruleA (fun k e w509 => ∃ (A361 : Option Addr) (c362 : Nat) (cs363 : List Value) (v360 : List Int) (v364 : Int), iterM (fun s512 : (List Int) × Int => gemotref13_digits.b3 x0 s512.1 s512.2) k (v360, v364) = some o502 ∧ e = [(0, .string (bs x0)), (3, .slice A361 v360.length c362), (4, .int .i64 v364)] ∧ Eng.Own ok w w509 [.dat (dRows (tInt .i64) v360 cs363), .row (.slice A361 v360.length c362) 3 1 v360.length cs363]) ⟨none, 0, [], _, _, hL503, rfl, H.pickL [0, 1] rfl⟩ ?_
    rintro k514 _ w513 ⟨A361, c362, cs363, v360, v364, hL503, rfl, H⟩
    obtain ⟨k508, rfl, q506, h, hq507⟩ := iterS hL503
    replace h : gemotref13_digits.b3 x0 v360 v364 = some q506 := h
    unfold gemotref13_digits.b3 at h
    refine nc_seq ?_
    refine nc_seq ?_
    refine nc ?_
    refine nc_cond rfl (fun hc515 => ?_) (fun hc515 => ?_)
    · replace h := condT hc515 h
      refine nc ?_
      refine nc_cut (fun e w548 => ∃ (A545 : Option Addr) (c546 : Nat) (cs547 : List Value) (v544 : List Int), gemotref13_digits.k1 x0 v364 v544 = some q506 ∧ e = [(0, .string (bs x0)), (3, .slice A545 v544.length c546), (4, .int .i64 v364)] ∧ Eng.Own ok w w548 [.dat (dRows (tInt .i64) v544 cs547), .row (.slice A545 v544.length c546) 3 1 v544.length cs547]) ?_ ?_
      · skip
        refine nc_block ?_
        refine nc_cut (fun e w556 => ∃ (v555 : Bool), gemotref13_digits.k2 x0 v360 v364 v555 = some q506 ∧ e = [(0, .string (bs x0)), (3, .slice A361 v360.length c362), (4, .int .i64 v364), (20, .bool v555)] ∧ Eng.Own ok w w556 [.dat (dRows (tInt .i64) v360 cs363), .row (.slice A361 v360.length c362) 3 1 v360.length cs363]) ?_ ?_
        · skip
          refine nc ?_
          obtain ⟨y558, hx559, h⟩ := bindS h
          refine idxS_rule (by kernel_rfl) hx559 ?_
          rcases Bool.eq_false_or_eq_true (decide (y558 ≥ (49 : Int))) with hg560 | hg560
          · replace h := condT hg560 h
            obtain ⟨y561, hx562, h⟩ := bindS h
            refine idxS_rule (by kernel_rfl) hx562 ?_
            exact cut_inA ⟨_, h, rfl, H.pickL [0, 1] rfl⟩
          · replace h := condF hg560 h
            refine skipIX (.int .u8 0) (gF1 hg560) ?_
            exact cut_inA ⟨_, h, rfl, H.pickL [0, 1] rfl⟩
        · rintro _ w563 ⟨v555, h, rfl, H⟩
          unfold gemotref13_digits.k2 at h
          refine nc_cond rfl (fun hc564 => ?_) (fun hc564 => ?_)
          · replace h := condT hc564 h
            refine nc ?_
            obtain ⟨y565, hx566, h⟩ := bindS h
            refine idxS_rule (by kernel_rfl) hx566 ?_
            refine own_buildSlice (e := 3) (sz := 1) (z := .int .i64 0) (cs := [.int .i64 (IntKind.i64.wrap (IntKind.u8.wrap (y565 - (48 : Int))))]) H (by kernel_rfl) (by kernel_rfl) (by kernel_rfl) rfl rfl rfl rfl fun g568 w569 H => ?_
            obtain ⟨hr570, h⟩ := roomS h
            refine own_append1 (k := (tInt .i64)) (z := .int .i64 0) (x := (IntKind.i64.wrap (IntKind.u8.wrap (y565 - (48 : Int))))) 8 H 1 0 rfl rfl rfl rfl (by kernel_rfl) (by kernel_rfl) rfl rfl hr570 rfl fun z571 cs572 w573 H => ?_
            obtain ⟨A574, c575, rfl, _, _⟩ := H.rowSl 1 rfl
            exact cut_inA ⟨A574, c575, cs572, _, h, rfl, H.pickL [0, 1] rfl⟩
          · replace h := condF hc564 h
            refine nc ?_
            exact cut_inA ⟨A361, c362, cs363, _, h, rfl, H.pickL [0, 1] rfl⟩
      · rintro _ w577 ⟨A545, c546, cs547, v544, h, rfl, H⟩
        unfold gemotref13_digits.k1 at h
        refine nc ?_
        cases h
        exact again_inA ⟨A545, c546, cs547, _, _, hq507, rfl, H.pickL [0, 1] rfl⟩
    · replace h := condF hc515 h
      refine nc ?_
      cases h
      replace hq507 : v360 = o502 := hq507
      subst hq507
      have h := hO504
      try dsimp only [Sum.elim_inl, Sum.elim_inr] at h
      exact cut_inA ⟨A361, c362, cs363, _, h, rfl, H.pickL [0, 1] rfl⟩
  · rintro _ w578 ⟨A288, c289, cs290, v287, h, rfl, H⟩
    unfold gemotref13_digits.k4 at h
    refine nc_seq ?_
    refine nc ?_
    refine nc ?_
    replace h := Option.some.inj h
    subst h
    exact ret_inA [.slice A288 v287.length c289] ⟨_, rfl, ⟨H.outR 1 0 rfl rfl rfl, H.frame⟩⟩
/-! gemot/gemotref13.End -/
noncomputable def gemotref13_End.k1 (self : (List UInt8) → Int → Option (Int)) (y42 : Int) (v62 : Bool) : Option (Int) := cond v62 (some (-1)) (some (IntKind.i64.wrap (y42 + (1 : Int))))
noncomputable def gemotref13_End.k2 (self : (List UInt8) → Int → Option (Int)) (x0 : List UInt8) (x1 : Int) (v22 : Bool) : Option (Int) := cond v22 (some (IntKind.i64.wrap (x1 + (1 : Int)))) ((idxS x0 x1).bind fun y32 => cond (y32 != (40 : Int)) (some (-1)) ((self x0 (IntKind.i64.wrap (x1 + (1 : Int)))).bind fun y35 => cond (decide (y35 < (0 : Int))) (some (-1)) ((self x0 y35).bind fun y42 => cond (cond (decide (y42 < (0 : Int))) true (decide (y42 ≥ (x0.length : Int)))) (gemotref13_End.k1 self y42 (cond (cond (decide (y42 < (0 : Int))) true (decide (y42 ≥ (x0.length : Int)))) true ((0 : Int) != (41 : Int)))) ((idxS x0 y42).bind fun y66 => gemotref13_End.k1 self y42 (cond (cond (decide (y42 < (0 : Int))) true (decide (y42 ≥ (x0.length : Int)))) true (y66 != (41 : Int)))))))
noncomputable def gemotref13_End.step (self : (List UInt8) → Int → Option (Int)) (x0 : List UInt8) (x1 : Int) : Option (Int) := cond (decide (x1 ≥ (x0.length : Int))) (some (-1)) ((idxS x0 x1).bind fun y25 => cond (decide (y25 ≥ (49 : Int))) ((idxS x0 x1).bind fun y28 => gemotref13_End.k2 self x0 x1 (cond (decide (y25 ≥ (49 : Int))) (decide (y28 ≤ (56 : Int))) false)) (gemotref13_End.k2 self x0 x1 (cond (decide (y25 ≥ (49 : Int))) (decide ((0 : Int) ≤ (56 : Int))) false)))
noncomputable def gemotref13_End.g (m : Nat) : (List UInt8) → Int → Option (Int) := Nat.rec (motive := fun _ => (List UInt8) → Int → Option (Int)) (fun _ _ => none) (fun _ self => gemotref13_End.step self) m
noncomputable def gemotref13_End.f (x0 : List UInt8) (x1 : Int) : Option (Int) := recM (fun m (a : (List UInt8) × Int) => gemotref13_End.g m a.1 a.2) (x0, x1)
set_option maxHeartbeats 4000000 in
theorem gemotref13_End_ok_g (m : Nat) : ∀ {ok : Nat → Prop} {w : World} {x0 : List UInt8} {x1 : Int} {r : Int} (h : gemotref13_End.g m x0 x1 = some r), Calls Tryz.prog 83 #[.string (bs x0), .int .i64 x1] w fun e w' => ∃ v, e = .returned v ∧ (v = .int .i64 r ∧ Bel w.heap.size w w') := by
  induction m with
  | zero => intro ok w x0 x1 r h; exact absurd (show (none : Option (Int)) = some r from h) (fun q => by cases q)
  | succ m ih =>
    intro ok w x0 x1 r h
    have H : Eng.Own ok w w [] := Eng.Own.nil ok w
    replace h : gemotref13_End.step (gemotref13_End.g m) x0 x1 = some r := h
    unfold gemotref13_End.step at h
    refine enterN (args := [.string (bs x0), .int .i64 x1]) Tryz.func83 rfl Tryz.ntmps83 rfl rfl ?_
    refine nc_seq ?_
    refine nc ?_
    refine nc_seq ?_
    refine nc_seq ?_
    refine nc ?_
    refine nc_cond rfl (fun hc1 => ?_) (fun hc1 => ?_)
    · replace h := condT hc1 h
      refine nc_seq ?_
      refine nc ?_
      refine nc ?_
      replace h := Option.some.inj h
      subst h
      exact ret_inA [.int .i64 (-1)] ⟨_, rfl, ⟨rfl, H.frame⟩⟩
    · replace h := condF hc1 h
      refine nc ?_
      refine nc_seq ?_
      refine nc_cut (fun e w23 => ∃ (v22 : Bool), gemotref13_End.k2 (gemotref13_End.g m) x0 x1 v22 = some r ∧ e = [(0, .string (bs x0)), (1, .int .i64 x1), (19, .bool v22)] ∧ Eng.Own ok w w23 []) ?_ ?_
      · skip
        refine nc ?_
        obtain ⟨y25, hx26, h⟩ := bindS h
        refine idxS_rule (by kernel_rfl) hx26 ?_
        rcases Bool.eq_false_or_eq_true (decide (y25 ≥ (49 : Int))) with hg27 | hg27
        · replace h := condT hg27 h
          obtain ⟨y28, hx29, h⟩ := bindS h
          refine idxS_rule (by kernel_rfl) hx29 ?_
          exact cut_inA ⟨_, h, rfl, H.pickL [] rfl⟩
        · replace h := condF hg27 h
          refine skipIX (.int .u8 0) (gF1 hg27) ?_
          exact cut_inA ⟨_, h, rfl, H.pickL [] rfl⟩
      · rintro _ w30 ⟨v22, h, rfl, H⟩
        unfold gemotref13_End.k2 at h
        refine nc_cond rfl (fun hc31 => ?_) (fun hc31 => ?_)
        · replace h := condT hc31 h
          refine nc_seq ?_
          refine nc ?_
          refine nc ?_
          replace h := Option.some.inj h
          subst h
          exact ret_inA [.int .i64 (IntKind.i64.wrap (x1 + (1 : Int)))] ⟨_, rfl, ⟨rfl, H.frame⟩⟩
        · replace h := condF hc31 h
          refine nc ?_
          refine nc_seq ?_
          refine nc_seq ?_
          refine nc ?_
          obtain ⟨y32, hx33, h⟩ := bindS h
          refine idxS_rule (by kernel_rfl) hx33 ?_
          refine nc_cond rfl (fun hc34 => ?_) (fun hc34 => ?_)
          · replace h := condT hc34 h
            refine nc_seq ?_
            refine nc ?_
            refine nc ?_
            replace h := Option.some.inj h
            subst h
            exact ret_inA [.int .i64 (-1)] ⟨_, rfl, ⟨rfl, H.frame⟩⟩
          · replace h := condF hc34 h
            refine nc ?_
            refine nc_seq ?_
            refine nc ?_
            obtain ⟨y35, hy36, h⟩ := bindS h
            refine call_rule (by kernel_rfl) (ih (ok := fun _ => False) hy36) fun v38 w37 ⟨hv39, hb40⟩ => ?_
            subst hv39
            replace H := H.call hb40
            refine nc_seq ?_
            refine nc_seq ?_
            refine nc ?_
            refine nc_cond rfl (fun hc41 => ?_) (fun hc41 => ?_)
            · replace h := condT hc41 h
              refine nc_seq ?_
              refine nc ?_
              refine nc ?_
              replace h := Option.some.inj h
              subst h
              exact ret_inA [.int .i64 (-1)] ⟨_, rfl, ⟨rfl, H.frame⟩⟩
            · replace h := condF hc41 h
              refine nc ?_
              refine nc_seq ?_
              refine nc ?_
              obtain ⟨y42, hy43, h⟩ := bindS h
              refine call_rule (by kernel_rfl) (ih (ok := fun _ => False) hy43) fun v45 w44 ⟨hv46, hb47⟩ => ?_
              subst hv46
              replace H := H.call hb47
              refine nc_seq ?_
              refine nc_cut (fun e w63 => ∃ (v62 : Bool), gemotref13_End.k1 (gemotref13_End.g m) y42 v62 = some r ∧ e = [(5, .int .i64 y42), (48, .bool v62)] ∧ Eng.Own ok w w63 []) ?_ ?_
              · skip
                refine nc ?_
                rcases Bool.eq_false_or_eq_true (cond (decide (y42 < (0 : Int))) true (decide (y42 ≥ (x0.length : Int)))) with hg65 | hg65
                · replace h := condT hg65 h
                  refine skipIX (.int .u8 0) (gF0 hg65) ?_
                  exact cut_inA ⟨_, h, rfl, H.pickL [] rfl⟩
                · replace h := condF hg65 h
                  obtain ⟨y66, hx67, h⟩ := bindS h
                  refine idxS_rule (by kernel_rfl) hx67 ?_
                  exact cut_inA ⟨_, h, rfl, H.pickL [] rfl⟩
              · rintro _ w68 ⟨v62, h, rfl, H⟩
                unfold gemotref13_End.k1 at h
                refine nc_cond rfl (fun hc69 => ?_) (fun hc69 => ?_)
                · replace h := condT hc69 h
                  refine nc_seq ?_
                  refine nc ?_
                  refine nc ?_
                  replace h := Option.some.inj h
                  subst h
                  exact ret_inA [.int .i64 (-1)] ⟨_, rfl, ⟨rfl, H.frame⟩⟩
                · replace h := condF hc69 h
                  refine nc ?_
                  refine nc_seq ?_
                  refine nc ?_
                  refine nc ?_
                  replace h := Option.some.inj h
                  subst h
                  exact ret_inA [.int .i64 (IntKind.i64.wrap (y42 + (1 : Int)))] ⟨_, rfl, ⟨rfl, H.frame⟩⟩
theorem gemotref13_End_ok {ok : Nat → Prop} {w : World} {x0 : List UInt8} {x1 : Int} {r : Int} (h : gemotref13_End.f x0 x1 = some r) : Calls Tryz.prog 83 #[.string (bs x0), .int .i64 x1] w fun e w' => ∃ v, e = .returned v ∧ (v = .int .i64 r ∧ Bel w.heap.size w w') := by
  obtain ⟨m, hm⟩ := recS h
  exact gemotref13_End_ok_g m (ok := ok) hm
/-! gemot/gemotref13.Parts -/
noncomputable def gemotref13_Parts.f (x0 : List UInt8) : Option ((List UInt8) × (List UInt8)) := (gemotref13_End.f x0 (1 : Int)).bind fun y1 => (slcM x0 (1 : Int) y1).bind fun y7 => (slcM x0 y1 (IntKind.i64.wrap ((x0.length : Int) - (1 : Int)))).bind fun y9 => some (y7, y9)
set_option maxHeartbeats 4000000 in
theorem gemotref13_Parts_ok {ok : Nat → Prop} {w : World} {x0 : List UInt8} {r : (List UInt8) × (List UInt8)} (h : gemotref13_Parts.f x0 = some r) :
    Calls Tryz.prog 55 #[.string (bs x0)] w fun e w' => ∃ v, e = .returned v ∧ (v = .tuple #[.string (bs r.1), .string (bs r.2)] ∧ Bel w.heap.size w w') := by
  have H : Eng.Own ok w w [] := Eng.Own.nil ok w
  unfold gemotref13_Parts.f at h
  refine enterN (args := [.string (bs x0)]) Tryz.func55 rfl Tryz.ntmps55 rfl rfl ?_
  refine nc_seq ?_
  refine nc ?_
  refine nc_seq ?_
  refine nc ?_
  obtain ⟨y1, hy2, h⟩ := bindS h
  refine call_rule (by kernel_rfl) (gemotref13_End_ok (ok := fun _ => False) hy2) fun v4 w3 ⟨hv5, hb6⟩ => ?_
  subst hv5
  replace H := H.call hb6
  refine nc_seq ?_
  obtain ⟨y7, hx8, h⟩ := bindS h
  obtain ⟨y9, hx10, h⟩ := bindS h
  refine nc ?_
  refine draw_rule [] (by kernel_rfl) (by kernel_rfl) H ?_
  refine c_txtI (1 : Int) y1 (by kernel_rfl) ⟨_, rfl⟩ ⟨_, rfl⟩ hx8 ?_
  refine c_txtI y1 (IntKind.i64.wrap ((x0.length : Int) - (1 : Int))) (by kernel_rfl) ⟨_, rfl⟩ ⟨_, rfl⟩ hx10 ?_
  intro w11 H
  refine nc ?_
  replace h := Option.some.inj h
  subst h
  exact ret_inA [.string (bs y7), .string (bs y9)] ⟨_, rfl, ⟨rfl, H.frame⟩⟩
/-! gemot/gemotref13.Right -/
noncomputable def gemotref13_Right.b1 (x0 : List UInt8) (y1 : (List Int)) (v140 : Int) : Option (Int ⊕ (Unit ⊕ Bool)) := cond (decide (v140 < (y1.length : Int))) ((slcM y1 (0 : Int) v140).bind fun y200 => (idxL y1 v140).bind fun y207 => (gemotref10_Has.f y200 y207).bind fun y213 => cond y213 (some (.inr (Sum.inr false))) (some (.inl (IntKind.i64.wrap (v140 + (1 : Int)))))) (some (.inr (Sum.inl ())))
noncomputable def gemotref13_Right.k2 (v229 : Bool) : Option (Bool) := some v229
noncomputable def gemotref13_Right.k3 (x0 : List UInt8) : Option (Bool) := cond (decide ((x0.length : Int) < (100 : Int))) ((gemotref13_End.f x0 (0 : Int)).bind fun y233 => gemotref13_Right.k2 (cond (cond (decide ((x0.length : Int) < (100 : Int))) (y233 == (x0.length : Int)) false) (decide ((x0.length : Int) > (0 : Int))) false)) (gemotref13_Right.k2 (cond (cond (decide ((x0.length : Int) < (100 : Int))) ((0 : Int) == (x0.length : Int)) false) (decide ((x0.length : Int) > (0 : Int))) false))
noncomputable def gemotref13_Right.f (x0 : List UInt8) : Option (Bool) := (gemotref13_digits.f x0).bind fun y1 => (loopM (fun s196 : Int => gemotref13_Right.b1 x0 y1 s196) (0 : Int)).bind (Sum.elim (fun (o194 : Unit) => gemotref13_Right.k3 x0) (fun (o195 : Bool) => some o195))
set_option maxHeartbeats 4000000 in
theorem gemotref13_Right_ok {ok : Nat → Prop} {w : World} {x0 : List UInt8} {r : Bool} (h : gemotref13_Right.f x0 = some r) :
    Calls Tryz.prog 52 #[.string (bs x0)] w fun e w' => ∃ v, e = .returned v ∧ (v = .bool r ∧ Bel w.heap.size w w') := by
  have H : Eng.Own ok w w [] := Eng.Own.nil ok w
  unfold gemotref13_Right.f at h
  refine enterN (args := [.string (bs x0)]) Tryz.func52 rfl Tryz.ntmps52 rfl rfl ?_
  refine nc_seq ?_
  refine nc ?_
  refine nc_seq ?_
  refine nc ?_
  obtain ⟨y1, hy2, h⟩ := bindS h
  refine call_rule (by kernel_rfl) (gemotref13_digits_ok (ok := fun _ => False) hy2) fun u7 w3 ⟨hu8, hb6⟩ => ?_
  replace H := H.callDats hb6 [dSl (tInt .i64) u7 y1] ⟨(rowOut_sl (rowOut_any hu8) hb6), trivial⟩
  obtain ⟨A9, c10, hA11, _⟩ := H.sl 0 rfl
  subst hA11
  refine nc_cut (fun e w116 => gemotref13_Right.k3 x0 = some r ∧ e = [(0, .string (bs x0))] ∧ Eng.Own ok w w116 []) ?_ ?_
  · skip
    refine nc_seq ?_
    refine nc ?_
    refine nc_block ?_
    obtain ⟨o186, hL187, hO188⟩ := bindS h
    obtain ⟨n189, hL187⟩ := loopS hL187
    refine nc ?_
    refine loop_ruleA (fun k e w193 => ∃ (v140 : Int), iterM (fun s196 : Int => gemotref13_Right.b1 x0 y1 s196) k v140 = some o186 ∧ e = [(0, .string (bs x0)), (3, .slice A9 y1.length c10), (4, .int .i64 v140)] ∧ Eng.Own ok w w193 [.dat (dSl (tInt .i64) (.slice A9 y1.length c10) y1)]) ⟨_, hL187, rfl, H.pickL [0] rfl⟩ ?_
    rintro k198 _ w197 ⟨v140, hL187, rfl, H⟩
    obtain ⟨k192, rfl, q190, h, hq191⟩ := iterS hL187
    replace h : gemotref13_Right.b1 x0 y1 v140 = some q190 := h
    unfold gemotref13_Right.b1 at h
    refine nc_seq ?_
    refine nc_seq ?_
    refine nc ?_
    refine nc_cond rfl (fun hc199 => ?_) (fun hc199 => ?_)
    · replace h := condT hc199 h
      refine nc ?_
      refine nc_seq ?_
      refine nc_block ?_
      refine nc_seq ?_
      obtain ⟨y200, hx201, h⟩ := bindS h
      obtain ⟨A202, c203, hp204, H⟩ := H.pieceD 0 rfl hx201
      have hn206 := H.slLen 1 rfl
      obtain ⟨y207, hx208, h⟩ := bindS h
      obtain ⟨a209, cs210, rfl, hR211, H⟩ := H.elemI 1 rfl hx208
      obtain rfl : cs210 = [.int .i64 y207] := hR211
      obtain ⟨y213, hy214, h⟩ := bindS h
      refine nc ?_
      refine draw_rule [] (by kernel_rfl) (by kernel_rfl) H ?_
      refine c_pieceI (e := 3) 1 (0 : Int) v140 (by kernel_rfl) (by kernel_rfl) rfl ⟨_, rfl⟩ hx201 hn206 hp204 ?_
      refine c_idxA (e := 3) 1 _ (by kernel_rfl) (by kernel_rfl) (idxL_some hx208).1 (idxL_some hx208).2.1 ?_
      refine c_loadD 0 rfl 0 (by kernel_rfl) rfl ?_
      refine c_call (.bool y213) (by kernel_rfl) (fun _ _ H => gemotref10_Has_ok (H.dat 1 rfl) hy214) ?_
      intro w219 H
      refine nc_cond rfl (fun hc220 => ?_) (fun hc220 => ?_)
      · replace h := condT hc220 h
        refine nc_seq ?_
        refine nc ?_
        refine nc ?_
        cases h
        replace hq191 : (Sum.inr false) = o186 := hq191
        subst hq191
        have h := hO188
        try dsimp only [Sum.elim_inl, Sum.elim_inr] at h
        replace h := Option.some.inj h
        subst h
        exact ret_inA [.bool false] ⟨_, rfl, ⟨rfl, H.frame⟩⟩
      · replace h := condF hc220 h
        refine nc ?_
        refine nc ?_
        cases h
        exact again_inA ⟨_, hq191, rfl, H.pickL [2] rfl⟩
    · replace h := condF hc199 h
      refine nc ?_
      cases h
      replace hq191 : (Sum.inl ()) = o186 := hq191
      subst hq191
      have h := hO188
      try dsimp only [Sum.elim_inl, Sum.elim_inr] at h
      exact cut_inA ⟨h, rfl, H.pickL [] rfl⟩
  · rintro _ w221 ⟨h, rfl, H⟩
    unfold gemotref13_Right.k3 at h
    refine nc_cut (fun e w230 => ∃ (v229 : Bool), gemotref13_Right.k2 v229 = some r ∧ e = [(2, .bool v229)] ∧ Eng.Own ok w w230 []) ?_ ?_
    · skip
      refine nc ?_
      rcases Bool.eq_false_or_eq_true (decide ((x0.length : Int) < (100 : Int))) with hg232 | hg232
      · replace h := condT hg232 h
        obtain ⟨y233, hy234, h⟩ := bindS h
        refine call_yes (gT1 hg232 rfl) (by kernel_rfl) (gemotref13_End_ok (ok := fun _ => False) hy234) fun v236 w235 ⟨hv237, hb238⟩ => ?_
        subst hv237
        replace H := H.call hb238
        exact cut_inA ⟨_, h, rfl, H.pickL [] rfl⟩
      · replace h := condF hg232 h
        refine call_skip (.int .i64 0) (gF1 hg232) ?_
        exact cut_inA ⟨_, h, rfl, H.pickL [] rfl⟩
    · rintro _ w239 ⟨v229, h, rfl, H⟩
      unfold gemotref13_Right.k2 at h
      refine nc ?_
      replace h := Option.some.inj h
      subst h
      exact ret_inA [.bool v229] ⟨_, rfl, ⟨rfl, H.frame⟩⟩
/-! gemot/gemotref13.Members -/
noncomputable def gemotref13_Members.k1 (x0 : List UInt8) (v391 : Int) (v581 : List Int) : Option (((List Int) × Int) ⊕ (List Int)) := some (.inl (v581, (IntKind.i64.wrap (v391 + (1 : Int)))))
noncomputable def gemotref13_Members.b2 (x0 : List UInt8) (v387 : List Int) (v391 : Int) : Option (((List Int) × Int) ⊕ (List Int)) := cond (decide (v391 ≤ (8 : Int))) ((gemotref13_digits.f x0).bind fun y587 => (gemotref10_Has.f y587 v391).bind fun y599 => cond y599 (roomM 8 (v387.length + 1) (gemotref13_Members.k1 x0 v391 (v387 ++ [v391]))) (gemotref13_Members.k1 x0 v391 v387)) (some (.inr v387))
noncomputable def gemotref13_Members.k3 (v310 : List Int) : Option ((List Int)) := some v310
noncomputable def gemotref13_Members.f (x0 : List UInt8) : Option ((List Int)) := (gemotref13_Right.f x0).bind fun y1 => cond (!y1) (some ([] : List Int)) ((loopM (fun s547 : (List Int) × Int => gemotref13_Members.b2 x0 s547.1 s547.2) (([] : List Int), (1 : Int))).bind (fun (o545 : (List Int)) => gemotref13_Members.k3 o545))
set_option maxHeartbeats 4000000 in
theorem gemotref13_Members_ok {ok : Nat → Prop} {w : World} {x0 : List UInt8} {r : (List Int)} (h : gemotref13_Members.f x0 = some r) :
    Calls Tryz.prog 25 #[.string (bs x0)] w fun e w' => ∃ v, e = .returned v ∧ (rowOut w w' ok (tInt .i64) 3 v r ∧ Bel w.heap.size w w') := by
  have H : Eng.Own ok w w [] := Eng.Own.nil ok w
  unfold gemotref13_Members.f at h
  refine enterN (args := [.string (bs x0)]) Tryz.func25 rfl Tryz.ntmps25 rfl rfl ?_
  refine nc_seq ?_
  refine nc ?_
  refine nc_seq ?_
  refine nc_seq ?_
  refine nc ?_
  obtain ⟨y1, hy2, h⟩ := bindS h
  refine call_rule (by kernel_rfl) (gemotref13_Right_ok (ok := fun _ => False) hy2) fun v4 w3 ⟨hv5, hb6⟩ => ?_
  subst hv5
  replace H := H.call hb6
  refine nc_cond rfl (fun hc7 => ?_) (fun hc7 => ?_)
  · replace h := condT hc7 h
    refine nc_seq ?_
    refine nc ?_
    refine nc ?_
    replace h := Option.some.inj h
    subst h
    exact ret_inA [.slice none 0 0] ⟨_, rfl, ⟨rowNil, H.frame⟩⟩
  · replace h := condF hc7 h
    refine nc ?_
    refine nc_seq ?_
    refine nc ?_
    refine nc_cut (fun e w314 => ∃ (A311 : Option Addr) (c312 : Nat) (cs313 : List Value) (v310 : List Int), gemotref13_Members.k3 v310 = some r ∧ e = [(3, .slice A311 v310.length c312)] ∧ Eng.Own ok w w314 [.dat (dRows (tInt .i64) v310 cs313), .row (.slice A311 v310.length c312) 3 1 v310.length cs313]) ?_ ?_
    · skip
      refine nc_seq ?_
      refine nc ?_
      refine nc_block ?_
      replace H := H.nilRowD (tInt .i64) 3
      obtain ⟨o537, hL538, hO539⟩ := bindS h
      obtain ⟨n540, hL538⟩ := loopS hL538
      refine nc ?_
      refine loop_ruleA (fun k e w544 => ∃ (A388 : Option Addr) (c389 : Nat) (cs390 : List Value) (v387 : List Int) (v391 : Int), iterM (fun s547 : (List Int) × Int => gemotref13_Members.b2 x0 s547.1 s547.2) k (v387, v391) = some o537 ∧ e = [(0, .string (bs x0)), (3, .slice A388 v387.length c389), (4, .int .i64 v391)] ∧ Eng.Own ok w w544 [.dat (dRows (tInt .i64) v387 cs390), .row (.slice A388 v387.length c389) 3 1 v387.length cs390]) ⟨none, 0, [], _, _, hL538, rfl, H.pickL [0, 1] rfl⟩ ?_
      rintro k549 _ w548 ⟨A388, c389, cs390, v387, v391, hL538, rfl, H⟩
      obtain ⟨k543, rfl, q541, h, hq542⟩ := iterS hL538
      replace h : gemotref13_Members.b2 x0 v387 v391 = some q541 := h
      unfold gemotref13_Members.b2 at h
      refine nc_seq ?_
      refine nc_seq ?_
      refine nc ?_
      refine nc_cond rfl (fun hc550 => ?_) (fun hc550 => ?_)
      · replace h := condT hc550 h
        refine nc ?_
        refine nc_cut (fun e w585 => ∃ (A582 : Option Addr) (c583 : Nat) (cs584 : List Value) (v581 : List Int), gemotref13_Members.k1 x0 v391 v581 = some q541 ∧ e = [(0, .string (bs x0)), (3, .slice A582 v581.length c583), (4, .int .i64 v391)] ∧ Eng.Own ok w w585 [.dat (dRows (tInt .i64) v581 cs584), .row (.slice A582 v581.length c583) 3 1 v581.length cs584]) ?_ ?_
        · skip
          refine nc_block ?_
          refine nc_seq ?_
          refine nc ?_
          obtain ⟨y587, hy588, h⟩ := bindS h
          refine call_rule (by kernel_rfl) (gemotref13_digits_ok (ok := fun _ => False) hy588) fun u593 w589 ⟨hu594, hb592⟩ => ?_
          replace H := H.callDats hb592 [dSl (tInt .i64) u593 y587] ⟨(rowOut_sl (rowOut_any hu594) hb592), trivial⟩
          obtain ⟨A595, c596, hA597, _⟩ := H.sl 0 rfl
          subst hA597
          obtain ⟨y599, hy600, h⟩ := bindS h
          refine call_rule (by kernel_rfl) (gemotref10_Has_ok (H.dat 0 rfl) hy600) fun v602 w601 ⟨hv603, hb604⟩ => ?_
          subst hv603
          replace H := H.call hb604
          refine nc_cond rfl (fun hc605 => ?_) (fun hc605 => ?_)
          · replace h := condT hc605 h
            refine nc ?_
            refine own_buildSlice (e := 3) (sz := 1) (z := .int .i64 0) (cs := [.int .i64 v391]) H (by kernel_rfl) (by kernel_rfl) (by kernel_rfl) rfl rfl rfl rfl fun g607 w608 H => ?_
            obtain ⟨hr609, h⟩ := roomS h
            refine own_append1 (k := (tInt .i64)) (z := .int .i64 0) (x := v391) 8 H 2 1 rfl rfl rfl rfl (by kernel_rfl) (by kernel_rfl) rfl rfl hr609 rfl fun z610 cs611 w612 H => ?_
            obtain ⟨A613, c614, rfl, _, _⟩ := H.rowSl 2 rfl
            exact cut_inA ⟨A613, c614, cs611, _, h, rfl, H.pickL [1, 2] rfl⟩
          · replace h := condF hc605 h
            refine nc ?_
            exact cut_inA ⟨A388, c389, cs390, _, h, rfl, H.pickL [1, 2] rfl⟩
        · rintro _ w616 ⟨A582, c583, cs584, v581, h, rfl, H⟩
          unfold gemotref13_Members.k1 at h
          refine nc ?_
          cases h
          exact again_inA ⟨A582, c583, cs584, _, _, hq542, rfl, H.pickL [0, 1] rfl⟩
      · replace h := condF hc550 h
        refine nc ?_
        cases h
        replace hq542 : v387 = o537 := hq542
        subst hq542
        have h := hO539
        try dsimp only [Sum.elim_inl, Sum.elim_inr] at h
        exact cut_inA ⟨A388, c389, cs390, _, h, rfl, H.pickL [0, 1] rfl⟩
    · rintro _ w617 ⟨A311, c312, cs313, v310, h, rfl, H⟩
      unfold gemotref13_Members.k3 at h
      refine nc_seq ?_
      refine nc ?_
      refine nc ?_
      replace h := Option.some.inj h
      subst h
      exact ret_inA [.slice A311 v310.length c312] ⟨_, rfl, ⟨H.outR 1 0 rfl rfl rfl, H.frame⟩⟩
/-! gemot/gemotref14.At -/
noncomputable def gemotref14_At.k1 (x1 : List UInt8) (v485 : Int) (v728 : List UInt8) : Option (((List UInt8) × Int) ⊕ ((List UInt8) ⊕ ((List UInt8) × Int))) := some (.inl (v728, (IntKind.i64.wrap (v485 + (1 : Int)))))
noncomputable def gemotref14_At.k2 (x1 : List UInt8) (v484 : List UInt8) (v485 : Int) (v754 : Bool) : Option (((List UInt8) × Int) ⊕ ((List UInt8) ⊕ ((List UInt8) × Int))) := cond v754 (some (.inr (Sum.inr (([] : List UInt8), (8 : Int))))) ((gemotref13_Parts.f v484).bind fun y765 => (idxS x1 v485).bind fun y771 => cond (y771 == (114 : Int)) (gemotref14_At.k1 x1 v485 y765.2) (gemotref14_At.k1 x1 v485 y765.1))
noncomputable def gemotref14_At.b3 (x1 : List UInt8) (v484 : List UInt8) (v485 : Int) : Option (((List UInt8) × Int) ⊕ ((List UInt8) ⊕ ((List UInt8) × Int))) := cond (decide (v485 < (x1.length : Int))) (cond ((v484.length : Int) == (1 : Int)) (gemotref14_At.k2 x1 v484 v485 (cond ((v484.length : Int) == (1 : Int)) true (cond ((0 : Int) != (108 : Int)) ((0 : Int) != (114 : Int)) false))) ((idxS x1 v485).bind fun y758 => cond (y758 != (108 : Int)) ((idxS x1 v485).bind fun y761 => gemotref14_At.k2 x1 v484 v485 (cond ((v484.length : Int) == (1 : Int)) true (cond (y758 != (108 : Int)) (y761 != (114 : Int)) false))) (gemotref14_At.k2 x1 v484 v485 (cond ((v484.length : Int) == (1 : Int)) true (cond (y758 != (108 : Int)) ((0 : Int) != (114 : Int)) false))))) (some (.inr (Sum.inl v484)))
noncomputable def gemotref14_At.k4 (v390 : List UInt8) : Option ((List UInt8) × Int) := some (v390, (0 : Int))
noncomputable def gemotref14_At.f (x0 : List UInt8) (x1 : List UInt8) : Option ((List UInt8) × Int) := (gemotref13_Right.f x0).bind fun y1 => cond (!y1) (some (([] : List UInt8), (1 : Int))) ((loopM (fun s681 : (List UInt8) × Int => gemotref14_At.b3 x1 s681.1 s681.2) (x0, (0 : Int))).bind (Sum.elim (fun (o679 : (List UInt8)) => gemotref14_At.k4 o679) (fun (o680 : (List UInt8) × Int) => some o680)))
set_option maxHeartbeats 4000000 in
theorem gemotref14_At_ok {ok : Nat → Prop} {w : World} {x0 : List UInt8} {x1 : List UInt8} {r : (List UInt8) × Int} (h : gemotref14_At.f x0 x1 = some r) :
    Calls Tryz.prog 59 #[.string (bs x0), .string (bs x1)] w fun e w' => ∃ v, e = .returned v ∧ (v = .tuple #[.string (bs r.1), .int .i64 r.2] ∧ Bel w.heap.size w w') := by
  have H : Eng.Own ok w w [] := Eng.Own.nil ok w
  unfold gemotref14_At.f at h
  refine enterN (args := [.string (bs x0), .string (bs x1)]) Tryz.func59 rfl Tryz.ntmps59 rfl rfl ?_
  refine nc_seq ?_
  refine nc ?_
  refine nc_seq ?_
  refine nc_seq ?_
  refine nc ?_
  obtain ⟨y1, hy2, h⟩ := bindS h
  refine call_rule (by kernel_rfl) (gemotref13_Right_ok (ok := fun _ => False) hy2) fun v4 w3 ⟨hv5, hb6⟩ => ?_
  subst hv5
  replace H := H.call hb6
  refine nc_cond rfl (fun hc7 => ?_) (fun hc7 => ?_)
  · replace h := condT hc7 h
    refine nc_seq ?_
    refine nc ?_
    refine nc ?_
    replace h := Option.some.inj h
    subst h
    exact ret_inA [.string (bs ([] : List UInt8)), .int .i64 1] ⟨_, rfl, ⟨rfl, H.frame⟩⟩
  · replace h := condF hc7 h
    refine nc ?_
    refine nc_cut (fun e w391 => ∃ (v390 : List UInt8), gemotref14_At.k4 v390 = some r ∧ e = [(0, .string (bs v390))] ∧ Eng.Own ok w w391 []) ?_ ?_
    · skip
      refine nc_seq ?_
      refine nc ?_
      refine nc_block ?_
      obtain ⟨o671, hL672, hO673⟩ := bindS h
      obtain ⟨n674, hL672⟩ := loopS hL672
      refine nc ?_
      refine loop_ruleA (fun k e w678 => ∃ (v484 : List UInt8) (v485 : Int), iterM (fun s681 : (List UInt8) × Int => gemotref14_At.b3 x1 s681.1 s681.2) k (v484, v485) = some o671 ∧ e = [(0, .string (bs v484)), (1, .string (bs x1)), (6, .int .i64 v485)] ∧ Eng.Own ok w w678 []) ⟨_, _, hL672, rfl, H.pickL [] rfl⟩ ?_
      rintro k683 _ w682 ⟨v484, v485, hL672, rfl, H⟩
      obtain ⟨k677, rfl, q675, h, hq676⟩ := iterS hL672
      replace h : gemotref14_At.b3 x1 v484 v485 = some q675 := h
      unfold gemotref14_At.b3 at h
      refine nc_seq ?_
      refine nc_seq ?_
      refine nc ?_
      refine nc_cond rfl (fun hc684 => ?_) (fun hc684 => ?_)
      · replace h := condT hc684 h
        refine nc ?_
        refine nc_cut (fun e w729 => ∃ (v728 : List UInt8), gemotref14_At.k1 x1 v485 v728 = some q675 ∧ e = [(0, .string (bs v728)), (1, .string (bs x1)), (6, .int .i64 v485)] ∧ Eng.Own ok w w729 []) ?_ ?_
        · skip
          refine nc_block ?_
          refine nc_seq ?_
          refine nc_cut (fun e w755 => ∃ (v754 : Bool), gemotref14_At.k2 x1 v484 v485 v754 = some q675 ∧ e = [(0, .string (bs v484)), (1, .string (bs x1)), (6, .int .i64 v485), (32, .bool v754)] ∧ Eng.Own ok w w755 []) ?_ ?_
          · skip
            refine nc ?_
            rcases Bool.eq_false_or_eq_true ((v484.length : Int) == (1 : Int)) with hg757 | hg757
            · replace h := condT hg757 h
              refine skipIX (.int .u8 0) (gF0 hg757) ?_
              refine skipIX (.int .u8 0) (by first | exact gFr (gF0 hg757) | exact (gF0 hg757) | rfl) ?_
              exact cut_inA ⟨_, h, rfl, H.pickL [] rfl⟩
            · replace h := condF hg757 h
              obtain ⟨y758, hx759, h⟩ := bindS h
              refine idxS_rule (by kernel_rfl) hx759 ?_
              rcases Bool.eq_false_or_eq_true (y758 != (108 : Int)) with hg760 | hg760
              · replace h := condT hg760 h
                obtain ⟨y761, hx762, h⟩ := bindS h
                refine idxS_rule (by kernel_rfl) hx762 ?_
                exact cut_inA ⟨_, h, rfl, H.pickL [] rfl⟩
              · replace h := condF hg760 h
                refine skipIX (.int .u8 0) (gF1 hg760) ?_
                exact cut_inA ⟨_, h, rfl, H.pickL [] rfl⟩
          · rintro _ w763 ⟨v754, h, rfl, H⟩
            unfold gemotref14_At.k2 at h
            refine nc_cond rfl (fun hc764 => ?_) (fun hc764 => ?_)
            · replace h := condT hc764 h
              refine nc_seq ?_
              refine nc ?_
              refine nc ?_
              cases h
              replace hq676 : (Sum.inr (([] : List UInt8), (8 : Int))) = o671 := hq676
              subst hq676
              have h := hO673
              try dsimp only [Sum.elim_inl, Sum.elim_inr] at h
              replace h := Option.some.inj h
              subst h
              exact ret_inA [.string (bs ([] : List UInt8)), .int .i64 8] ⟨_, rfl, ⟨rfl, H.frame⟩⟩
            · replace h := condF hc764 h
              refine nc ?_
              refine nc_seq ?_
              refine nc ?_
              obtain ⟨y765, hy766, h⟩ := bindS h
              refine call_rule (by kernel_rfl) (gemotref13_Parts_ok (ok := fun _ => False) hy766) fun v768 w767 ⟨hv769, hb770⟩ => ?_
              subst hv769
              replace H := H.call hb770
              refine nc_seq ?_
              refine nc ?_
              refine nc_seq ?_
              refine nc ?_
              obtain ⟨y771, hx772, h⟩ := bindS h
              refine idxS_rule (by kernel_rfl) hx772 ?_
              refine nc_cond rfl (fun hc773 => ?_) (fun hc773 => ?_)
              · replace h := condT hc773 h
                refine nc ?_
                exact cut_inA ⟨_, h, rfl, H.pickL [] rfl⟩
              · replace h := condF hc773 h
                refine nc ?_
                exact cut_inA ⟨_, h, rfl, H.pickL [] rfl⟩
        · rintro _ w774 ⟨v728, h, rfl, H⟩
          unfold gemotref14_At.k1 at h
          refine nc ?_
          cases h
          exact again_inA ⟨_, _, hq676, rfl, H.pickL [] rfl⟩
      · replace h := condF hc684 h
        refine nc ?_
        cases h
        replace hq676 : (Sum.inl v484) = o671 := hq676
        subst hq676
        have h := hO673
        try dsimp only [Sum.elim_inl, Sum.elim_inr] at h
        exact cut_inA ⟨_, h, rfl, H.pickL [] rfl⟩
    · rintro _ w775 ⟨v390, h, rfl, H⟩
      unfold gemotref14_At.k4 at h
      refine nc_seq ?_
      refine nc ?_
      refine nc ?_
      replace h := Option.some.inj h
      subst h
      exact ret_inA [.string (bs v390), .int .i64 0] ⟨_, rfl, ⟨rfl, H.frame⟩⟩
/-! gemot/gemotref14.Nodes -/
noncomputable def gemotref14_Nodes.k1 (x0 : List UInt8) (v410 : Int) (v609 : List (List UInt8)) : Option (((List (List UInt8)) × Int) ⊕ (List (List UInt8))) := some (.inl (v609, (IntKind.i64.wrap (v410 + (1 : Int)))))
noncomputable def gemotref14_Nodes.b2 (x0 : List UInt8) (v406 : List (List UInt8)) (v410 : Int) : Option (((List (List UInt8)) × Int) ⊕ (List (List UInt8))) := cond (decide (v410 < (v406.length : Int))) ((idxL v406 v410).bind fun y615 => (gemotref14_At.f x0 y615).bind fun y621 => cond (decide ((y621.1.length : Int) > (1 : Int))) ((idxL v406 v410).bind fun y628 => roomM 1 (y628.length + [108].length) ((idxL v406 v410).bind fun y631 => roomM 1 (y631.length + [114].length) (roomM 16 (v406.length + ([(y628 ++ [108]), (y631 ++ [114])] : List (List UInt8)).length) (gemotref14_Nodes.k1 x0 v410 (v406 ++ ([(y628 ++ [108]), (y631 ++ [114])] : List (List UInt8))))))) (gemotref14_Nodes.k1 x0 v410 v406)) (some (.inr v406))
noncomputable def gemotref14_Nodes.k3 (v328 : List (List UInt8)) : Option ((List (List UInt8))) := some v328
noncomputable def gemotref14_Nodes.f (x0 : List UInt8) : Option ((List (List UInt8))) := (gemotref13_Right.f x0).bind fun y1 => cond (!y1) (some ([] : List (List UInt8))) ((loopM (fun s573 : (List (List UInt8)) × Int => gemotref14_Nodes.b2 x0 s573.1 s573.2) (([([] : List UInt8)] : List (List UInt8)), (0 : Int))).bind (fun (o572 : (List (List UInt8))) => gemotref14_Nodes.k3 o572))
set_option maxHeartbeats 4000000 in
theorem gemotref14_Nodes_ok {ok : Nat → Prop} {w : World} {x0 : List UInt8} {r : (List (List UInt8))} (h : gemotref14_Nodes.f x0 = some r) :
    Calls Tryz.prog 58 #[.string (bs x0)] w fun e w' => ∃ v, e = .returned v ∧ (rowOut w w' ok tStr 9 v r ∧ Bel w.heap.size w w') := by
  have H : Eng.Own ok w w [] := Eng.Own.nil ok w
  unfold gemotref14_Nodes.f at h
  refine enterN (args := [.string (bs x0)]) Tryz.func58 rfl Tryz.ntmps58 rfl rfl ?_
  refine nc_seq ?_
  refine nc ?_
  refine nc_seq ?_
  refine nc_seq ?_
  refine nc ?_
  obtain ⟨y1, hy2, h⟩ := bindS h
  refine call_rule (by kernel_rfl) (gemotref13_Right_ok (ok := fun _ => False) hy2) fun v4 w3 ⟨hv5, hb6⟩ => ?_
  subst hv5
  replace H := H.call hb6
  refine nc_cond rfl (fun hc7 => ?_) (fun hc7 => ?_)
  · replace h := condT hc7 h
    refine nc_seq ?_
    refine nc ?_
    refine nc ?_
    replace h := Option.some.inj h
    subst h
    exact ret_inA [.slice none 0 0] ⟨_, rfl, ⟨rowNil, H.frame⟩⟩
  · replace h := condF hc7 h
    refine nc ?_
    refine nc_seq ?_
    refine nc ?_
    refine own_buildSlice (e := 9) (sz := 1) (z := .string ⟨#[]⟩) (cs := [.string (bs ([] : List UInt8))]) H (by kernel_rfl) (by kernel_rfl) (by kernel_rfl) rfl rfl rfl rfl fun g9 w10 H => ?_
    have hr := H.addDat (dRows tStr ([([] : List UInt8)] : List (List UInt8)) [.string (bs ([] : List UInt8))]) ⟨_, _, rfl, rfl, rfl⟩
    replace H := (hr.pickL (1 :: 0 :: (List.range 0).map (· + 2)) rfl).blkRow (n := 1) (sz := 1) rfl (by decide)
    refine nc_cut (fun e w332 => ∃ (A329 : Option Addr) (c330 : Nat) (cs331 : List Value) (v328 : List (List UInt8)), gemotref14_Nodes.k3 v328 = some r ∧ e = [(3, .slice A329 v328.length c330)] ∧ Eng.Own ok w w332 [.dat (dRows tStr v328 cs331), .row (.slice A329 v328.length c330) 9 1 v328.length cs331]) ?_ ?_
    · skip
      refine nc_seq ?_
      refine nc ?_
      refine nc_block ?_
      obtain ⟨o564, hL565, hO566⟩ := bindS h
      obtain ⟨n567, hL565⟩ := loopS hL565
      refine nc ?_
      refine loop_ruleA (fun k e w571 => ∃ (A407 : Option Addr) (c408 : Nat) (cs409 : List Value) (v406 : List (List UInt8)) (v410 : Int), iterM (fun s573 : (List (List UInt8)) × Int => gemotref14_Nodes.b2 x0 s573.1 s573.2) k (v406, v410) = some o564 ∧ e = [(0, .string (bs x0)), (3, .slice A407 v406.length c408), (4, .int .i64 v410)] ∧ Eng.Own ok w w571 [.dat (dRows tStr v406 cs409), .row (.slice A407 v406.length c408) 9 1 v406.length cs409]) ⟨some ⟨g9, 0, none⟩, 1, [.string (bs ([] : List UInt8))], _, _, hL565, rfl, H.pickL [1, 0] rfl⟩ ?_
      rintro k575 _ w574 ⟨A407, c408, cs409, v406, v410, hL565, rfl, H⟩
      obtain ⟨k570, rfl, q568, h, hq569⟩ := iterS hL565
      replace h : gemotref14_Nodes.b2 x0 v406 v410 = some q568 := h
      unfold gemotref14_Nodes.b2 at h
      refine nc_seq ?_
      refine nc_seq ?_
      refine nc ?_
      refine nc_cond rfl (fun hc576 => ?_) (fun hc576 => ?_)
      · replace h := condT hc576 h
        refine nc ?_
        refine nc_cut (fun e w613 => ∃ (A610 : Option Addr) (c611 : Nat) (cs612 : List Value) (v609 : List (List UInt8)), gemotref14_Nodes.k1 x0 v410 v609 = some q568 ∧ e = [(0, .string (bs x0)), (3, .slice A610 v609.length c611), (4, .int .i64 v410)] ∧ Eng.Own ok w w613 [.dat (dRows tStr v609 cs612), .row (.slice A610 v609.length c611) 9 1 v609.length cs612]) ?_ ?_
        · skip
          refine nc_block ?_
          refine nc_seq ?_
          refine nc ?_
          obtain ⟨y615, hx616, h⟩ := bindS h
          obtain ⟨a617, _, rfl, _, _⟩ := H.rowElem (k := tStr) 1 0 rfl rfl rfl hx616
          refine idxA_rule (e := 9) 1 _ (by kernel_rfl) (by kernel_rfl) (idxL_some hx616).1 (idxL_some hx616).2.1 ?_
          obtain ⟨cs618, hR619, hC620⟩ := H.rowElemJ (k := tStr) 1 0 rfl rfl rfl hx616
          replace hR619 : cs618 = [.string (bs y615)] := by exact hR619
          subst hR619
          refine load_at hC620 0 (by kernel_rfl) rfl ?_
          obtain ⟨y621, hy622, h⟩ := bindS h
          refine call_rule (by kernel_rfl) (gemotref14_At_ok (ok := fun _ => False) hy622) fun v624 w623 ⟨hv625, hb626⟩ => ?_
          subst hv625
          replace H := H.call hb626
          refine nc_seq ?_
          refine nc ?_
          refine nc_cond rfl (fun hc627 => ?_) (fun hc627 => ?_)
          · replace h := condT hc627 h
            obtain ⟨y628, hx629, h⟩ := bindS h
            obtain ⟨hr630, h⟩ := roomS h
            obtain ⟨y631, hx632, h⟩ := bindS h
            obtain ⟨hr633, h⟩ := roomS h
            obtain ⟨hr638, h⟩ := roomS h
            refine nc ?_
            refine draw_rule [] (by kernel_rfl) (by kernel_rfl) H ?_
            refine c_idxA (e := 9) 1 _ (by kernel_rfl) (by kernel_rfl) (idxL_some hx629).1 (idxL_some hx629).2.1 ?_
            refine c_rowLoad (k := tStr) v410 1 0 0 rfl rfl rfl hx629 (by kernel_rfl) (fun _ _ cs hR => (show cs = [.string (bs y628)] → cs[0]? = some (.string (bs y628)) from fun h => by subst h; rfl) (by exact hR)) ?_
            refine c_catM hr630 ?_
            refine c_idxA (e := 9) 1 _ (by kernel_rfl) (by kernel_rfl) (idxL_some hx632).1 (idxL_some hx632).2.1 ?_
            refine c_rowLoad (k := tStr) v410 1 0 0 rfl rfl rfl hx632 (by kernel_rfl) (fun _ _ cs hR => (show cs = [.string (bs y631)] → cs[0]? = some (.string (bs y631)) from fun h => by subst h; rfl) (by exact hR)) ?_
            refine c_catM hr633 ?_
            refine c_buildData (k := tStr) (e := 9) (z := .string ⟨#[]⟩) [.string (bs (y628 ++ [108])), .string (bs (y631 ++ [114]))] [(y628 ++ [108]), (y631 ++ [114])] (by kernel_rfl) (by kernel_rfl) (by kernel_rfl) rfl rfl rfl rfl rfl rfl (by decide) (fun _ _ H => ⟨_, _, rfl, rfl, ⟨_, _, rfl, rfl, rfl⟩⟩) ?_
            intro g635
            refine c_appendD (k := tStr) (z := .string ⟨#[]⟩) 16 2 1 0 rfl rfl rfl rfl (by kernel_rfl) (by kernel_rfl) rfl rfl hr638 rfl ?_
            intro A642 c643 cs640
            intro w645 H
            exact cut_inA ⟨A642, c643, cs640, _, h, rfl, H.pickL [1, 2] rfl⟩
          · replace h := condF hc627 h
            refine nc ?_
            exact cut_inA ⟨some a617, c408, cs409, _, h, rfl, H.pickL [0, 1] rfl⟩
        · rintro _ w646 ⟨A610, c611, cs612, v609, h, rfl, H⟩
          unfold gemotref14_Nodes.k1 at h
          refine nc ?_
          cases h
          exact again_inA ⟨A610, c611, cs612, _, _, hq569, rfl, H.pickL [0, 1] rfl⟩
      · replace h := condF hc576 h
        refine nc ?_
        cases h
        replace hq569 : v406 = o564 := hq569
        subst hq569
        have h := hO566
        try dsimp only [Sum.elim_inl, Sum.elim_inr] at h
        exact cut_inA ⟨A407, c408, cs409, _, h, rfl, H.pickL [0, 1] rfl⟩
    · rintro _ w647 ⟨A329, c330, cs331, v328, h, rfl, H⟩
      unfold gemotref14_Nodes.k3 at h
      refine nc_seq ?_
      refine nc ?_
      refine nc ?_
      replace h := Option.some.inj h
      subst h
      exact ret_inA [.slice A329 v328.length c330] ⟨_, rfl, ⟨H.outR 1 0 rfl rfl rfl, H.frame⟩⟩
/-! gemot/gemotref14.Path -/
noncomputable def gemotref14_Path.k1 (x0 : List UInt8) (x1 : Int) (y1 : (List (List UInt8))) (v576 : Int) (v856 : List (List UInt8)) : Option (((List (List UInt8)) × Int) ⊕ (List (List UInt8))) := some (.inl (v856, (IntKind.i64.wrap (v576 - (1 : Int)))))
noncomputable def gemotref14_Path.b2 (x0 : List UInt8) (x1 : Int) (y1 : (List (List UInt8))) (v572 : List (List UInt8)) (v576 : Int) : Option (((List (List UInt8)) × Int) ⊕ (List (List UInt8))) := cond (decide (v576 ≥ (0 : Int))) ((idxL y1 v576).bind fun y862 => (gemotref14_At.f x0 y862).bind fun y868 => (gemotref13_Members.f y868.1).bind fun y874 => (gemotref10_Has.f y874 x1).bind fun y886 => cond y886 ((idxL y1 v576).bind fun y893 => roomM 16 (v572.length + 1) (gemotref14_Path.k1 x0 x1 y1 v576 (v572 ++ [y893]))) (gemotref14_Path.k1 x0 x1 y1 v576 v572)) (some (.inr v572))
noncomputable def gemotref14_Path.k3 (v459 : List (List UInt8)) : Option ((List (List UInt8))) := some v459
noncomputable def gemotref14_Path.f (x0 : List UInt8) (x1 : Int) : Option ((List (List UInt8))) := (gemotref14_Nodes.f x0).bind fun y1 => (loopM (fun s804 : (List (List UInt8)) × Int => gemotref14_Path.b2 x0 x1 y1 s804.1 s804.2) (([] : List (List UInt8)), (IntKind.i64.wrap ((y1.length : Int) - (1 : Int))))).bind (fun (o802 : (List (List UInt8))) => gemotref14_Path.k3 o802)
set_option maxHeartbeats 4000000 in
theorem gemotref14_Path_ok {ok : Nat → Prop} {w : World} {x0 : List UInt8} {x1 : Int} {r : (List (List UInt8))} (h : gemotref14_Path.f x0 x1 = some r) :
    Calls Tryz.prog 32 #[.string (bs x0), .int .i64 x1] w fun e w' => ∃ v, e = .returned v ∧ (rowOut w w' ok tStr 9 v r ∧ Bel w.heap.size w w') := by
  have H : Eng.Own ok w w [] := Eng.Own.nil ok w
  unfold gemotref14_Path.f at h
  refine enterN (args := [.string (bs x0), .int .i64 x1]) Tryz.func32 rfl Tryz.ntmps32 rfl rfl ?_
  refine nc_seq ?_
  refine nc ?_
  refine nc_seq ?_
  refine nc ?_
  refine nc_seq ?_
  refine nc ?_
  obtain ⟨y1, hy2, h⟩ := bindS h
  refine call_rule (by kernel_rfl) (gemotref14_Nodes_ok (ok := fun _ => False) hy2) fun u7 w3 ⟨hu8, hb6⟩ => ?_
  replace H := H.callDats hb6 [dSl tStr u7 y1] ⟨(rowOut_sl (rowOut_any hu8) hb6), trivial⟩
  obtain ⟨A9, c10, hA11, _⟩ := H.sl 0 rfl
  subst hA11
  refine nc_cut (fun e w463 => ∃ (A460 : Option Addr) (c461 : Nat) (cs462 : List Value) (v459 : List (List UInt8)), gemotref14_Path.k3 v459 = some r ∧ e = [(5, .slice A460 v459.length c461)] ∧ Eng.Own ok w w463 [.dat (dRows tStr v459 cs462), .row (.slice A460 v459.length c461) 9 1 v459.length cs462]) ?_ ?_
  · skip
    refine nc_seq ?_
    refine nc ?_
    refine nc_block ?_
    replace H := H.nilRowD tStr 9
    obtain ⟨o794, hL795, hO796⟩ := bindS h
    obtain ⟨n797, hL795⟩ := loopS hL795
    refine nc ?_
    refine loop_ruleA (fun k e w801 => ∃ (A573 : Option Addr) (c574 : Nat) (cs575 : List Value) (v572 : List (List UInt8)) (v576 : Int), iterM (fun s804 : (List (List UInt8)) × Int => gemotref14_Path.b2 x0 x1 y1 s804.1 s804.2) k (v572, v576) = some o794 ∧ e = [(0, .string (bs x0)), (1, .int .i64 x1), (5, .slice A573 v572.length c574), (6, .slice A9 y1.length c10), (7, .int .i64 v576)] ∧ Eng.Own ok w w801 [.dat (dRows tStr v572 cs575), .row (.slice A573 v572.length c574) 9 1 v572.length cs575, .dat (dSl tStr (.slice A9 y1.length c10) y1)]) ⟨none, 0, [], _, _, hL795, rfl, H.pickL [0, 1, 2] rfl⟩ ?_
    rintro k806 _ w805 ⟨A573, c574, cs575, v572, v576, hL795, rfl, H⟩
    obtain ⟨k800, rfl, q798, h, hq799⟩ := iterS hL795
    replace h : gemotref14_Path.b2 x0 x1 y1 v572 v576 = some q798 := h
    unfold gemotref14_Path.b2 at h
    refine nc_seq ?_
    refine nc_seq ?_
    refine nc ?_
    refine nc_cond rfl (fun hc807 => ?_) (fun hc807 => ?_)
    · replace h := condT hc807 h
      refine nc ?_
      refine nc_cut (fun e w860 => ∃ (A857 : Option Addr) (c858 : Nat) (cs859 : List Value) (v856 : List (List UInt8)), gemotref14_Path.k1 x0 x1 y1 v576 v856 = some q798 ∧ e = [(0, .string (bs x0)), (1, .int .i64 x1), (5, .slice A857 v856.length c858), (6, .slice A9 y1.length c10), (7, .int .i64 v576)] ∧ Eng.Own ok w w860 [.dat (dRows tStr v856 cs859), .row (.slice A857 v856.length c858) 9 1 v856.length cs859, .dat (dSl tStr (.slice A9 y1.length c10) y1)]) ?_ ?_
      · skip
        refine nc_block ?_
        refine nc_seq ?_
        refine nc ?_
        obtain ⟨y862, hx863, h⟩ := bindS h
        obtain ⟨a864, cs865, rfl, hR866, H⟩ := H.elemI 2 rfl hx863
        obtain rfl : cs865 = [.string (bs y862)] := hR866
        refine idxA_rule (e := 9) 1 _ (by kernel_rfl) (by kernel_rfl) (idxL_some hx863).1 (idxL_some hx863).2.1 ?_
        refine own_loadD H 0 rfl 0 (by kernel_rfl) rfl ?_
        obtain ⟨y868, hy869, h⟩ := bindS h
        refine call_rule (by kernel_rfl) (gemotref14_At_ok (ok := fun _ => False) hy869) fun v871 w870 ⟨hv872, hb873⟩ => ?_
        subst hv872
        replace H := H.call hb873
        refine nc_seq ?_
        refine nc ?_
        obtain ⟨y874, hy875, h⟩ := bindS h
        refine call_rule (by kernel_rfl) (gemotref13_Members_ok (ok := fun _ => False) hy875) fun u880 w876 ⟨hu881, hb879⟩ => ?_
        replace H := H.callDats hb879 [dSl (tInt .i64) u880 y874] ⟨(rowOut_sl (rowOut_any hu881) hb879), trivial⟩
        obtain ⟨A882, c883, hA884, _⟩ := H.sl 0 rfl
        subst hA884
        obtain ⟨y886, hy887, h⟩ := bindS h
        refine call_rule (by kernel_rfl) (gemotref10_Has_ok (H.dat 0 rfl) hy887) fun v889 w888 ⟨hv890, hb891⟩ => ?_
        subst hv890
        replace H := H.call hb891
        refine nc_cond rfl (fun hc892 => ?_) (fun hc892 => ?_)
        · replace h := condT hc892 h
          refine nc ?_
          obtain ⟨y893, hx894, h⟩ := bindS h
          obtain ⟨cs896, hR897, H⟩ := H.elemJ 4 rfl hx894
          obtain rfl : cs896 = [.string (bs y893)] := hR897
          refine idxA_rule (e := 9) 1 _ (by kernel_rfl) (by kernel_rfl) (idxL_some hx894).1 (idxL_some hx894).2.1 ?_
          refine own_loadD H 0 rfl 0 (by kernel_rfl) rfl ?_
          refine own_buildSlice (e := 9) (sz := 1) (z := .string ⟨#[]⟩) (cs := [.string (bs y893)]) H (by kernel_rfl) (by kernel_rfl) (by kernel_rfl) rfl rfl rfl rfl fun g900 w901 H => ?_
          obtain ⟨hr902, h⟩ := roomS h
          refine own_append1 (k := tStr) (z := .string ⟨#[]⟩) (x := y893) 16 H 4 3 rfl rfl rfl rfl (by kernel_rfl) (by kernel_rfl) rfl rfl hr902 rfl fun z903 cs904 w905 H => ?_
          obtain ⟨A906, c907, rfl, _, _⟩ := H.rowSl 4 rfl
          exact cut_inA ⟨A906, c907, cs904, _, h, rfl, H.pickL [3, 4, 5] rfl⟩
        · replace h := condF hc892 h
          refine nc ?_
          exact cut_inA ⟨A573, c574, cs575, _, h, rfl, H.pickL [2, 3, 4] rfl⟩
      · rintro _ w909 ⟨A857, c858, cs859, v856, h, rfl, H⟩
        unfold gemotref14_Path.k1 at h
        refine nc ?_
        cases h
        exact again_inA ⟨A857, c858, cs859, _, _, hq799, rfl, H.pickL [0, 1, 2] rfl⟩
    · replace h := condF hc807 h
      refine nc ?_
      cases h
      replace hq799 : v572 = o794 := hq799
      subst hq799
      have h := hO796
      try dsimp only [Sum.elim_inl, Sum.elim_inr] at h
      exact cut_inA ⟨A573, c574, cs575, _, h, rfl, H.pickL [0, 1] rfl⟩
  · rintro _ w910 ⟨A460, c461, cs462, v459, h, rfl, H⟩
    unfold gemotref14_Path.k3 at h
    refine nc_seq ?_
    refine nc ?_
    refine nc ?_
    replace h := Option.some.inj h
    subst h
    exact ret_inA [.slice A460 v459.length c461] ⟨_, rfl, ⟨H.outR 1 0 rfl rfl rfl, H.frame⟩⟩
/-! gemot/gemotref14.Beside -/
noncomputable def gemotref14_Beside.f (x0 : List UInt8) : Option ((List UInt8)) := cond (strEq x0 ([] : List UInt8)) (some ([] : List UInt8)) ((idxS x0 (IntKind.i64.wrap ((x0.length : Int) - (1 : Int)))).bind fun y2 => cond (y2 == (108 : Int)) ((slcM x0 (0 : Int) (IntKind.i64.wrap ((x0.length : Int) - (1 : Int)))).bind fun y5 => roomM 1 (y5.length + [114].length) (some (y5 ++ [114]))) ((slcM x0 (0 : Int) (IntKind.i64.wrap ((x0.length : Int) - (1 : Int)))).bind fun y8 => roomM 1 (y8.length + [108].length) (some (y8 ++ [108]))))
set_option maxHeartbeats 4000000 in
theorem gemotref14_Beside_ok {ok : Nat → Prop} {w : World} {x0 : List UInt8} {r : (List UInt8)} (h : gemotref14_Beside.f x0 = some r) :
    Calls Tryz.prog 57 #[.string (bs x0)] w fun e w' => ∃ v, e = .returned v ∧ (v = .string (bs r) ∧ Bel w.heap.size w w') := by
  have H : Eng.Own ok w w [] := Eng.Own.nil ok w
  unfold gemotref14_Beside.f at h
  refine enterN (args := [.string (bs x0)]) Tryz.func57 rfl Tryz.ntmps57 rfl rfl ?_
  refine nc_seq ?_
  refine nc ?_
  refine nc_seq ?_
  refine nc_seq ?_
  refine nc ?_
  refine nc_cond rfl (fun hc1 => ?_) (fun hc1 => ?_)
  · replace h := condT hc1 h
    refine nc_seq ?_
    refine nc ?_
    refine nc ?_
    replace h := Option.some.inj h
    subst h
    exact ret_inA [.string (bs ([] : List UInt8))] ⟨_, rfl, ⟨rfl, H.frame⟩⟩
  · replace h := condF hc1 h
    refine nc ?_
    refine nc_seq ?_
    refine nc ?_
    refine nc_seq ?_
    refine nc_seq ?_
    refine nc ?_
    obtain ⟨y2, hx3, h⟩ := bindS h
    refine idxS_rule (by kernel_rfl) hx3 ?_
    refine nc_cond rfl (fun hc4 => ?_) (fun hc4 => ?_)
    · replace h := condT hc4 h
      refine nc_seq ?_
      refine nc ?_
      obtain ⟨y5, hx6, h⟩ := bindS h
      refine txtI_rule (0 : Int) (IntKind.i64.wrap ((x0.length : Int) - (1 : Int))) (by kernel_rfl) rfl ⟨_, rfl⟩ hx6 ?_
      obtain ⟨hr7, h⟩ := roomS h
      refine catM_rule hr7 ?_
      refine nc ?_
      replace h := Option.some.inj h
      subst h
      exact ret_inA [.string (bs (y5 ++ [114]))] ⟨_, rfl, ⟨rfl, H.frame⟩⟩
    · replace h := condF hc4 h
      refine nc ?_
      refine nc_seq ?_
      refine nc ?_
      obtain ⟨y8, hx9, h⟩ := bindS h
      refine txtI_rule (0 : Int) (IntKind.i64.wrap ((x0.length : Int) - (1 : Int))) (by kernel_rfl) rfl ⟨_, rfl⟩ hx9 ?_
      obtain ⟨hr10, h⟩ := roomS h
      refine catM_rule hr10 ?_
      refine nc ?_
      replace h := Option.some.inj h
      subst h
      exact ret_inA [.string (bs (y8 ++ [108]))] ⟨_, rfl, ⟨rfl, H.frame⟩⟩
/-! gemot/gemotref14.Co -/
noncomputable def gemotref14_Co.b1 (y1 : (List (List UInt8))) (v168 : List (List UInt8)) (v172 : Int) : Option (((List (List UInt8)) × Int) ⊕ (List (List UInt8))) := cond (decide ((IntKind.i64.wrap (v172 + (1 : Int))) < (y1.length : Int))) ((idxL y1 v172).bind fun y244 => (gemotref14_Beside.f y244).bind fun y250 => roomM 16 (v168.length + 1) (some (.inl ((v168 ++ [y250]), (IntKind.i64.wrap (v172 + (1 : Int))))))) (some (.inr v168))
noncomputable def gemotref14_Co.k2 (v137 : List (List UInt8)) : Option ((List (List UInt8))) := some v137
noncomputable def gemotref14_Co.f (x0 : List UInt8) (x1 : Int) : Option ((List (List UInt8))) := (gemotref14_Path.f x0 x1).bind fun y1 => (loopM (fun s240 : (List (List UInt8)) × Int => gemotref14_Co.b1 y1 s240.1 s240.2) (([] : List (List UInt8)), (0 : Int))).bind (fun (o238 : (List (List UInt8))) => gemotref14_Co.k2 o238)
set_option maxHeartbeats 4000000 in
theorem gemotref14_Co_ok {ok : Nat → Prop} {w : World} {x0 : List UInt8} {x1 : Int} {r : (List (List UInt8))} (h : gemotref14_Co.f x0 x1 = some r) :
    Calls Tryz.prog 31 #[.string (bs x0), .int .i64 x1] w fun e w' => ∃ v, e = .returned v ∧ (rowOut w w' ok tStr 9 v r ∧ Bel w.heap.size w w') := by
  have H : Eng.Own ok w w [] := Eng.Own.nil ok w
  unfold gemotref14_Co.f at h
  refine enterN (args := [.string (bs x0), .int .i64 x1]) Tryz.func31 rfl Tryz.ntmps31 rfl rfl ?_
  refine nc_seq ?_
  refine nc ?_
  refine nc_seq ?_
  refine nc ?_
  refine nc_seq ?_
  refine nc ?_
  obtain ⟨y1, hy2, h⟩ := bindS h
  refine call_rule (by kernel_rfl) (gemotref14_Path_ok (ok := fun _ => False) hy2) fun u7 w3 ⟨hu8, hb6⟩ => ?_
  replace H := H.callDats hb6 [dSl tStr u7 y1] ⟨(rowOut_sl (rowOut_any hu8) hb6), trivial⟩
  obtain ⟨A9, c10, hA11, _⟩ := H.sl 0 rfl
  subst hA11
  refine nc_cut (fun e w141 => ∃ (A138 : Option Addr) (c139 : Nat) (cs140 : List Value) (v137 : List (List UInt8)), gemotref14_Co.k2 v137 = some r ∧ e = [(5, .slice A138 v137.length c139)] ∧ Eng.Own ok w w141 [.dat (dRows tStr v137 cs140), .row (.slice A138 v137.length c139) 9 1 v137.length cs140]) ?_ ?_
  · skip
    refine nc_seq ?_
    refine nc ?_
    refine nc_block ?_
    replace H := H.nilRowD tStr 9
    obtain ⟨o230, hL231, hO232⟩ := bindS h
    obtain ⟨n233, hL231⟩ := loopS hL231
    refine nc ?_
    refine loop_ruleA (fun k e w237 => ∃ (A169 : Option Addr) (c170 : Nat) (cs171 : List Value) (v168 : List (List UInt8)) (v172 : Int), iterM (fun s240 : (List (List UInt8)) × Int => gemotref14_Co.b1 y1 s240.1 s240.2) k (v168, v172) = some o230 ∧ e = [(5, .slice A169 v168.length c170), (6, .slice A9 y1.length c10), (7, .int .i64 v172)] ∧ Eng.Own ok w w237 [.dat (dRows tStr v168 cs171), .row (.slice A169 v168.length c170) 9 1 v168.length cs171, .dat (dSl tStr (.slice A9 y1.length c10) y1)]) ⟨none, 0, [], _, _, hL231, rfl, H.pickL [0, 1, 2] rfl⟩ ?_
    rintro k242 _ w241 ⟨A169, c170, cs171, v168, v172, hL231, rfl, H⟩
    obtain ⟨k236, rfl, q234, h, hq235⟩ := iterS hL231
    replace h : gemotref14_Co.b1 y1 v168 v172 = some q234 := h
    unfold gemotref14_Co.b1 at h
    refine nc_seq ?_
    refine nc_seq ?_
    refine nc ?_
    refine nc_cond rfl (fun hc243 => ?_) (fun hc243 => ?_)
    · replace h := condT hc243 h
      refine nc ?_
      refine nc_seq ?_
      refine nc_block ?_
      refine nc ?_
      obtain ⟨y244, hx245, h⟩ := bindS h
      obtain ⟨a246, cs247, rfl, hR248, H⟩ := H.elemI 2 rfl hx245
      obtain rfl : cs247 = [.string (bs y244)] := hR248
      refine idxA_rule (e := 9) 1 _ (by kernel_rfl) (by kernel_rfl) (idxL_some hx245).1 (idxL_some hx245).2.1 ?_
      refine own_loadD H 0 rfl 0 (by kernel_rfl) rfl ?_
      obtain ⟨y250, hy251, h⟩ := bindS h
      refine call_rule (by kernel_rfl) (gemotref14_Beside_ok (ok := fun _ => False) hy251) fun v253 w252 ⟨hv254, hb255⟩ => ?_
      subst hv254
      replace H := H.call hb255
      refine own_buildSlice (e := 9) (sz := 1) (z := .string ⟨#[]⟩) (cs := [.string (bs y250)]) H (by kernel_rfl) (by kernel_rfl) (by kernel_rfl) rfl rfl rfl rfl fun g257 w258 H => ?_
      obtain ⟨hr259, h⟩ := roomS h
      refine own_append1 (k := tStr) (z := .string ⟨#[]⟩) (x := y250) 16 H 2 1 rfl rfl rfl rfl (by kernel_rfl) (by kernel_rfl) rfl rfl hr259 rfl fun z260 cs261 w262 H => ?_
      obtain ⟨A263, c264, rfl, _, _⟩ := H.rowSl 2 rfl
      refine nc ?_
      cases h
      exact again_inA ⟨A263, c264, cs261, _, _, hq235, rfl, H.pickL [1, 2, 3] rfl⟩
    · replace h := condF hc243 h
      refine nc ?_
      cases h
      replace hq235 : v168 = o230 := hq235
      subst hq235
      have h := hO232
      try dsimp only [Sum.elim_inl, Sum.elim_inr] at h
      exact cut_inA ⟨A169, c170, cs171, _, h, rfl, H.pickL [0, 1] rfl⟩
  · rintro _ w266 ⟨A138, c139, cs140, v137, h, rfl, H⟩
    unfold gemotref14_Co.k2 at h
    refine nc_seq ?_
    refine nc ?_
    refine nc ?_
    replace h := Option.some.inj h
    subst h
    exact ret_inA [.slice A138 v137.length c139] ⟨_, rfl, ⟨H.outR 1 0 rfl rfl rfl, H.frame⟩⟩
/-! gemot/gemotref15.Climb -/
noncomputable def gemotref15_Climb.k1 (x3 : List D_gemotref15_Blind) (y6 : (List (List UInt8))) (v3420 : List (List UInt8)) (v3424 : Int) (v5311 : Int) (v5408 : Int) : Option ((Int × Int) ⊕ Int) := some (.inl (v5408, (IntKind.i64.wrap (v5311 - (1 : Int)))))
noncomputable def gemotref15_Climb.b2 (x3 : List D_gemotref15_Blind) (y6 : (List (List UInt8))) (v3420 : List (List UInt8)) (v3424 : Int) (v5310 : Int) (v5311 : Int) : Option ((Int × Int) ⊕ Int) := cond (decide (v5311 ≥ (0 : Int))) ((idxL x3 v5311).bind fun y5411 => (idxL y6 v3424).bind fun y5417 => cond (strEq y5411.1 y5417) (gemotref15_Climb.k1 x3 y6 v3420 v3424 v5311 v5311) (gemotref15_Climb.k1 x3 y6 v3420 v3424 v5311 v5310)) (some (.inr v5310))
noncomputable def gemotref15_Climb.k3 (x3 : List D_gemotref15_Blind) (y6 : (List (List UInt8))) (v3424 : Int) (v5119 : List (List UInt8)) : Option (((List (List UInt8)) × Int) ⊕ ((List (List UInt8)) ⊕ (List (List UInt8)))) := some (.inl (v5119, (IntKind.i64.wrap (v3424 + (1 : Int)))))
noncomputable def gemotref15_Climb.k4 (x3 : List D_gemotref15_Blind) (y6 : (List (List UInt8))) (v3420 : List (List UInt8)) (v3424 : Int) (v5274 : Int) : Option (((List (List UInt8)) × Int) ⊕ ((List (List UInt8)) ⊕ (List (List UInt8)))) := cond (decide (v5274 < (0 : Int))) (some (.inr (Sum.inr v3420))) ((idxL v3420 v3424).bind fun y5428 => (idxL x3 v5274).bind fun y5431 => (gemotref15_Above.f y5428 y5431.2).bind fun y5437 => cond (y5437.2 != (0 : Int)) (some (.inr (Sum.inr v3420))) (roomM 16 (v3420.length + 1) (gemotref15_Climb.k3 x3 y6 v3424 (v3420 ++ [y5437.1]))))
noncomputable def gemotref15_Climb.b5 (x3 : List D_gemotref15_Blind) (y6 : (List (List UInt8))) (v3420 : List (List UInt8)) (v3424 : Int) : Option (((List (List UInt8)) × Int) ⊕ ((List (List UInt8)) ⊕ (List (List UInt8)))) := cond (decide (v3424 < (y6.length : Int))) ((loopM (fun s5390 : Int × Int => gemotref15_Climb.b2 x3 y6 v3420 v3424 s5390.1 s5390.2) ((-1), (IntKind.i64.wrap ((x3.length : Int) - (1 : Int))))).bind (fun (o5389 : Int) => gemotref15_Climb.k4 x3 y6 v3420 v3424 o5389)) (some (.inr (Sum.inl v3420)))
noncomputable def gemotref15_Climb.k6 (v2744 : List (List UInt8)) : Option ((List (List UInt8))) := some v2744
noncomputable def gemotref15_Climb.f (x0 : List UInt8) (x1 : Int) (x2 : List UInt8) (x3 : List D_gemotref15_Blind) : Option ((List (List UInt8))) := (gemotref14_Co.f x0 x1).bind fun y6 => (gemotref14_Path.f x0 x1).bind fun y18 => cond ((y18.length : Int) == (0 : Int)) (some ([] : List (List UInt8))) ((loopM (fun s4784 : (List (List UInt8)) × Int => gemotref15_Climb.b5 x3 y6 s4784.1 s4784.2) (([x2] : List (List UInt8)), (0 : Int))).bind (Sum.elim (fun (o4782 : (List (List UInt8))) => gemotref15_Climb.k6 o4782) (fun (o4783 : (List (List UInt8))) => some o4783)))
set_option maxHeartbeats 4000000 in
theorem gemotref15_Climb_ok {ok : Nat → Prop} {w : World} {u1 : Value} {x0 : List UInt8} {x1 : Int} {x2 : List UInt8} {x3 : List D_gemotref15_Blind} {r : (List (List UInt8))} (hu2 : slR t_gemotref15_Blind w ok u1 x3) (h : gemotref15_Climb.f x0 x1 x2 x3 = some r) :
    Calls Tryz.prog 10 #[.string (bs x0), .int .i64 x1, .string (bs x2), u1] w fun e w' => ∃ v, e = .returned v ∧ (rowOut w w' ok tStr 9 v r ∧ Bel w.heap.size w w') := by
  have H : Eng.Own ok w w [] := Eng.Own.nil ok w
  obtain ⟨A3, c4, rfl, H⟩ := H.arg rfl hu2
  unfold gemotref15_Climb.f at h
  refine enterN (args := [.string (bs x0), .int .i64 x1, .string (bs x2), .slice A3 x3.length c4]) Tryz.func10 rfl Tryz.ntmps10 rfl rfl ?_
  refine nc_seq ?_
  refine nc ?_
  refine nc_seq ?_
  refine nc ?_
  obtain ⟨y6, hy7, h⟩ := bindS h
  refine call_rule (by kernel_rfl) (gemotref14_Co_ok (ok := fun _ => False) hy7) fun u12 w8 ⟨hu13, hb11⟩ => ?_
  replace H := H.callDats hb11 [dSl tStr u12 y6] ⟨(rowOut_sl (rowOut_any hu13) hb11), trivial⟩
  obtain ⟨A14, c15, hA16, _⟩ := H.sl 0 rfl
  subst hA16
  refine nc_seq ?_
  refine nc_seq ?_
  refine nc ?_
  obtain ⟨y18, hy19, h⟩ := bindS h
  refine call_rule (by kernel_rfl) (gemotref14_Path_ok (ok := fun _ => False) hy19) fun u24 w20 ⟨hu25, hb23⟩ => ?_
  replace H := H.callDats hb23 [dSl tStr u24 y18] ⟨(rowOut_sl (rowOut_any hu25) hb23), trivial⟩
  obtain ⟨A26, c27, hA28, _⟩ := H.sl 0 rfl
  subst hA28
  refine nc_cond rfl (fun hc30 => ?_) (fun hc30 => ?_)
  · replace h := condT hc30 h
    refine nc_seq ?_
    refine nc ?_
    refine nc ?_
    replace h := Option.some.inj h
    subst h
    exact ret_inA [.slice none 0 0] ⟨_, rfl, ⟨rowNil, H.frame⟩⟩
  · replace h := condF hc30 h
    refine nc ?_
    refine nc_seq ?_
    refine nc ?_
    refine own_buildSlice (e := 9) (sz := 1) (z := .string ⟨#[]⟩) (cs := [.string (bs x2)]) H (by kernel_rfl) (by kernel_rfl) (by kernel_rfl) rfl rfl rfl rfl fun g32 w33 H => ?_
    have hr := H.addDat (dRows tStr ([x2] : List (List UInt8)) [.string (bs x2)]) ⟨_, _, rfl, rfl, rfl⟩
    replace H := (hr.pickL (1 :: 0 :: (List.range 3).map (· + 2)) rfl).blkRow (n := 1) (sz := 1) rfl (by decide)
    refine nc_cut (fun e w2748 => ∃ (A2745 : Option Addr) (c2746 : Nat) (cs2747 : List Value) (v2744 : List (List UInt8)), gemotref15_Climb.k6 v2744 = some r ∧ e = [(10, .slice A2745 v2744.length c2746)] ∧ Eng.Own ok w w2748 [.dat (dRows tStr v2744 cs2747), .row (.slice A2745 v2744.length c2746) 9 1 v2744.length cs2747]) ?_ ?_
    · skip
      refine nc_seq ?_
      refine nc ?_
      refine nc_block ?_
      obtain ⟨o4774, hL4775, hO4776⟩ := bindS h
      obtain ⟨n4777, hL4775⟩ := loopS hL4775
      refine nc ?_
      refine loop_ruleA (fun k e w4781 => ∃ (A3421 : Option Addr) (c3422 : Nat) (cs3423 : List Value) (v3420 : List (List UInt8)) (v3424 : Int), iterM (fun s4784 : (List (List UInt8)) × Int => gemotref15_Climb.b5 x3 y6 s4784.1 s4784.2) k (v3420, v3424) = some o4774 ∧ e = [(3, .slice A3 x3.length c4), (9, .slice A14 y6.length c15), (10, .slice A3421 v3420.length c3422), (11, .int .i64 v3424)] ∧ Eng.Own ok w w4781 [.dat (dSl t_gemotref15_Blind (.slice A3 x3.length c4) x3), .dat (dSl tStr (.slice A14 y6.length c15) y6), .dat (dRows tStr v3420 cs3423), .row (.slice A3421 v3420.length c3422) 9 1 v3420.length cs3423]) ⟨some ⟨g32, 0, none⟩, 1, [.string (bs x2)], _, _, hL4775, rfl, H.pickL [4, 3, 1, 0] rfl⟩ ?_
      rintro k4786 _ w4785 ⟨A3421, c3422, cs3423, v3420, v3424, hL4775, rfl, H⟩
      obtain ⟨k4780, rfl, q4778, h, hq4779⟩ := iterS hL4775
      replace h : gemotref15_Climb.b5 x3 y6 v3420 v3424 = some q4778 := h
      unfold gemotref15_Climb.b5 at h
      refine nc_seq ?_
      refine nc_seq ?_
      refine nc ?_
      refine nc_cond rfl (fun hc4787 => ?_) (fun hc4787 => ?_)
      · replace h := condT hc4787 h
        refine nc ?_
        refine nc_cut (fun e w5123 => ∃ (A5120 : Option Addr) (c5121 : Nat) (cs5122 : List Value) (v5119 : List (List UInt8)), gemotref15_Climb.k3 x3 y6 v3424 v5119 = some q4778 ∧ e = [(3, .slice A3 x3.length c4), (9, .slice A14 y6.length c15), (10, .slice A5120 v5119.length c5121), (11, .int .i64 v3424)] ∧ Eng.Own ok w w5123 [.dat (dSl t_gemotref15_Blind (.slice A3 x3.length c4) x3), .dat (dSl tStr (.slice A14 y6.length c15) y6), .dat (dRows tStr v5119 cs5122), .row (.slice A5120 v5119.length c5121) 9 1 v5119.length cs5122]) ?_ ?_
        · skip
          refine nc_block ?_
          refine nc_seq ?_
          refine nc ?_
          refine nc_cut (fun e w5275 => ∃ (v5274 : Int), gemotref15_Climb.k4 x3 y6 v3420 v3424 v5274 = some q4778 ∧ e = [(3, .slice A3 x3.length c4), (9, .slice A14 y6.length c15), (10, .slice A3421 v3420.length c3422), (11, .int .i64 v3424), (12, .int .i64 v5274)] ∧ Eng.Own ok w w5275 [.dat (dSl t_gemotref15_Blind (.slice A3 x3.length c4) x3), .dat (dSl tStr (.slice A14 y6.length c15) y6), .dat (dRows tStr v3420 cs3423), .row (.slice A3421 v3420.length c3422) 9 1 v3420.length cs3423]) ?_ ?_
          · skip
            refine nc_seq ?_
            refine nc ?_
            refine nc_block ?_
            obtain ⟨o5381, hL5382, hO5383⟩ := bindS h
            obtain ⟨n5384, hL5382⟩ := loopS hL5382
            refine nc ?_
            refine loop_ruleA (fun k e w5388 => ∃ (v5310 : Int) (v5311 : Int), iterM (fun s5390 : Int × Int => gemotref15_Climb.b2 x3 y6 v3420 v3424 s5390.1 s5390.2) k (v5310, v5311) = some o5381 ∧ e = [(3, .slice A3 x3.length c4), (9, .slice A14 y6.length c15), (10, .slice A3421 v3420.length c3422), (11, .int .i64 v3424), (12, .int .i64 v5310), (13, .int .i64 v5311)] ∧ Eng.Own ok w w5388 [.dat (dSl t_gemotref15_Blind (.slice A3 x3.length c4) x3), .dat (dSl tStr (.slice A14 y6.length c15) y6), .dat (dRows tStr v3420 cs3423), .row (.slice A3421 v3420.length c3422) 9 1 v3420.length cs3423]) ⟨_, _, hL5382, rfl, H.pickL [0, 1, 2, 3] rfl⟩ ?_
            rintro k5392 _ w5391 ⟨v5310, v5311, hL5382, rfl, H⟩
            obtain ⟨k5387, rfl, q5385, h, hq5386⟩ := iterS hL5382
            replace h : gemotref15_Climb.b2 x3 y6 v3420 v3424 v5310 v5311 = some q5385 := h
            unfold gemotref15_Climb.b2 at h
            refine nc_seq ?_
            refine nc_seq ?_
            refine nc ?_
            refine nc_cond rfl (fun hc5393 => ?_) (fun hc5393 => ?_)
            · replace h := condT hc5393 h
              refine nc ?_
              refine nc_cut (fun e w5409 => ∃ (v5408 : Int), gemotref15_Climb.k1 x3 y6 v3420 v3424 v5311 v5408 = some q5385 ∧ e = [(3, .slice A3 x3.length c4), (9, .slice A14 y6.length c15), (10, .slice A3421 v3420.length c3422), (11, .int .i64 v3424), (12, .int .i64 v5408), (13, .int .i64 v5311)] ∧ Eng.Own ok w w5409 [.dat (dSl t_gemotref15_Blind (.slice A3 x3.length c4) x3), .dat (dSl tStr (.slice A14 y6.length c15) y6), .dat (dRows tStr v3420 cs3423), .row (.slice A3421 v3420.length c3422) 9 1 v3420.length cs3423]) ?_ ?_
              · skip
                refine nc_block ?_
                refine nc_seq ?_
                obtain ⟨y5411, hx5412, h⟩ := bindS h
                obtain ⟨a5413, cs5414, rfl, hR5415, H⟩ := H.elemI 0 rfl hx5412
                obtain rfl := gemotref15_Blind_cells hR5415
                obtain ⟨y5417, hx5418, h⟩ := bindS h
                obtain ⟨a5419, cs5420, rfl, hR5421, H⟩ := H.elemI 2 rfl hx5418
                obtain rfl : cs5420 = [.string (bs y5417)] := hR5421
                refine nc ?_
                refine draw_rule [] (by kernel_rfl) (by kernel_rfl) H ?_
                refine c_idxA (e := 30) 2 _ (by kernel_rfl) (by kernel_rfl) (idxL_some hx5412).1 (idxL_some hx5412).2.1 ?_
                refine c_loadD 1 rfl 0 (by kernel_rfl) rfl ?_
                refine c_idxA (e := 9) 1 _ (by kernel_rfl) (by kernel_rfl) (idxL_some hx5418).1 (idxL_some hx5418).2.1 ?_
                refine c_loadD 0 rfl 0 (by kernel_rfl) rfl ?_
                intro w5423 H
                refine nc_cond rfl (fun hc5424 => ?_) (fun hc5424 => ?_)
                · replace h := condT hc5424 h
                  refine nc ?_
                  exact cut_inA ⟨_, h, rfl, H.pickL [2, 3, 4, 5] rfl⟩
                · replace h := condF hc5424 h
                  refine nc ?_
                  exact cut_inA ⟨_, h, rfl, H.pickL [2, 3, 4, 5] rfl⟩
              · rintro _ w5425 ⟨v5408, h, rfl, H⟩
                unfold gemotref15_Climb.k1 at h
                refine nc ?_
                cases h
                exact again_inA ⟨_, _, hq5386, rfl, H.pickL [0, 1, 2, 3] rfl⟩
            · replace h := condF hc5393 h
              refine nc ?_
              cases h
              replace hq5386 : v5310 = o5381 := hq5386
              subst hq5386
              have h := hO5383
              try dsimp only [Sum.elim_inl, Sum.elim_inr] at h
              exact cut_inA ⟨_, h, rfl, H.pickL [0, 1, 2, 3] rfl⟩
          · rintro _ w5426 ⟨v5274, h, rfl, H⟩
            unfold gemotref15_Climb.k4 at h
            refine nc_seq ?_
            refine nc_seq ?_
            refine nc ?_
            refine nc_cond rfl (fun hc5427 => ?_) (fun hc5427 => ?_)
            · replace h := condT hc5427 h
              refine nc_seq ?_
              refine nc ?_
              refine nc ?_
              cases h
              replace hq4779 : (Sum.inr v3420) = o4774 := hq4779
              subst hq4779
              have h := hO4776
              try dsimp only [Sum.elim_inl, Sum.elim_inr] at h
              replace h := Option.some.inj h
              subst h
              exact ret_inA [.slice A3421 v3420.length c3422] ⟨_, rfl, ⟨H.outR 3 2 rfl rfl rfl, H.frame⟩⟩
            · replace h := condF hc5427 h
              refine nc ?_
              refine nc_seq ?_
              obtain ⟨y5428, hx5429, h⟩ := bindS h
              obtain ⟨a5430, _, rfl, _, _⟩ := H.rowElem (k := tStr) 3 2 rfl rfl rfl hx5429
              obtain ⟨y5431, hx5432, h⟩ := bindS h
              obtain ⟨a5433, cs5434, rfl, hR5435, H⟩ := H.elemI 0 rfl hx5432
              obtain rfl := gemotref15_Blind_cells hR5435
              obtain ⟨y5437, hy5438, h⟩ := bindS h
              refine nc ?_
              refine draw_rule [] (by kernel_rfl) (by kernel_rfl) H ?_
              refine c_idxA (e := 9) 1 _ (by kernel_rfl) (by kernel_rfl) (idxL_some hx5429).1 (idxL_some hx5429).2.1 ?_
              refine c_rowLoad (k := tStr) v3424 4 3 0 rfl rfl rfl hx5429 (by kernel_rfl) (fun _ _ cs hR => (show cs = [.string (bs y5428)] → cs[0]? = some (.string (bs y5428)) from fun h => by subst h; rfl) (by exact hR)) ?_
              refine c_idxA (e := 30) 2 _ (by kernel_rfl) (by kernel_rfl) (idxL_some hx5432).1 (idxL_some hx5432).2.1 ?_
              refine c_loadD 0 rfl 1 (by kernel_rfl) rfl ?_
              refine c_call (.tuple #[.string (bs y5437.1), .int .i64 y5437.2]) (by kernel_rfl) (fun _ _ H => gemotref15_Above_ok (ok := fun _ => False) hy5438) ?_
              intro w5443 H
              refine nc_seq ?_
              refine nc_seq ?_
              refine nc ?_
              refine nc_cond rfl (fun hc5444 => ?_) (fun hc5444 => ?_)
              · replace h := condT hc5444 h
                refine nc_seq ?_
                refine nc ?_
                refine nc ?_
                cases h
                replace hq4779 : (Sum.inr v3420) = o4774 := hq4779
                subst hq4779
                have h := hO4776
                try dsimp only [Sum.elim_inl, Sum.elim_inr] at h
                replace h := Option.some.inj h
                subst h
                exact ret_inA [.slice (some a5430) v3420.length c3422] ⟨_, rfl, ⟨H.outR 4 3 rfl rfl rfl, H.frame⟩⟩
              · replace h := condF hc5444 h
                refine nc ?_
                refine nc ?_
                refine own_buildSlice (e := 9) (sz := 1) (z := .string ⟨#[]⟩) (cs := [.string (bs y5437.1)]) H (by kernel_rfl) (by kernel_rfl) (by kernel_rfl) rfl rfl rfl rfl fun g5446 w5447 H => ?_
                obtain ⟨hr5448, h⟩ := roomS h
                refine own_append1 (k := tStr) (z := .string ⟨#[]⟩) (x := y5437.1) 16 H 4 3 rfl rfl rfl rfl (by kernel_rfl) (by kernel_rfl) rfl rfl hr5448 rfl fun z5449 cs5450 w5451 H => ?_
                obtain ⟨A5452, c5453, rfl, _, _⟩ := H.rowSl 4 rfl
                exact cut_inA ⟨A5452, c5453, cs5450, _, h, rfl, H.pickL [1, 2, 3, 4] rfl⟩
        · rintro _ w5455 ⟨A5120, c5121, cs5122, v5119, h, rfl, H⟩
          unfold gemotref15_Climb.k3 at h
          refine nc ?_
          cases h
          exact again_inA ⟨A5120, c5121, cs5122, _, _, hq4779, rfl, H.pickL [0, 1, 2, 3] rfl⟩
      · replace h := condF hc4787 h
        refine nc ?_
        cases h
        replace hq4779 : (Sum.inl v3420) = o4774 := hq4779
        subst hq4779
        have h := hO4776
        try dsimp only [Sum.elim_inl, Sum.elim_inr] at h
        exact cut_inA ⟨A3421, c3422, cs3423, _, h, rfl, H.pickL [2, 3] rfl⟩
    · rintro _ w5456 ⟨A2745, c2746, cs2747, v2744, h, rfl, H⟩
      unfold gemotref15_Climb.k6 at h
      refine nc_seq ?_
      refine nc ?_
      refine nc ?_
      replace h := Option.some.inj h
      subst h
      exact ret_inA [.slice A2745 v2744.length c2746] ⟨_, rfl, ⟨H.outR 1 0 rfl rfl rfl, H.frame⟩⟩
/-! gemot/gemotref15.secret -/
noncomputable def gemotref15_secret.b1 (self : (List UInt8) → (List Int) → (List (List UInt8)) → Option ((List UInt8) × Int)) (x0 : List UInt8) (x1 : List Int) (x2 : List (List UInt8)) (v115 : Int) : Option (Int ⊕ (Unit ⊕ ((List UInt8) × Int))) := cond (decide (v115 < (x1.length : Int))) ((idxL x1 v115).bind fun y165 => (idxS x0 (0 : Int)).bind fun y171 => cond (y165 == (IntKind.i64.wrap (IntKind.u8.wrap (y171 - (48 : Int))))) ((idxL x2 v115).bind fun y175 => some (.inr (Sum.inr (y175, (0 : Int))))) (some (.inl (IntKind.i64.wrap (v115 + (1 : Int)))))) (some (.inr (Sum.inl ())))
noncomputable def gemotref15_secret.k2 (self : (List UInt8) → (List Int) → (List (List UInt8)) → Option ((List UInt8) × Int)) (x0 : List UInt8) (x1 : List Int) (x2 : List (List UInt8)) : Option ((List UInt8) × Int) := (gemotref13_Parts.f x0).bind fun y182 => (self y182.1 x1 x2).bind fun y188 => cond (y188.2 != (0 : Int)) (some (([] : List UInt8), y188.2)) ((self y182.2 x1 x2).bind fun y195 => cond (y195.2 != (0 : Int)) (some (([] : List UInt8), y195.2)) ((gemotref15_Element.f y188.1).bind fun y202 => cond (y202.2 != (0 : Int)) (some (([] : List UInt8), y202.2)) ((gemotref15_Above.f y195.1 y202.1).bind fun y209 => some (y209.1, y209.2))))
noncomputable def gemotref15_secret.step (self : (List UInt8) → (List Int) → (List (List UInt8)) → Option ((List UInt8) × Int)) (x0 : List UInt8) (x1 : List Int) (x2 : List (List UInt8)) : Option ((List UInt8) × Int) := cond ((x0.length : Int) == (1 : Int)) ((loopM (fun s161 : Int => gemotref15_secret.b1 self x0 x1 x2 s161) (0 : Int)).bind (Sum.elim (fun (o159 : Unit) => gemotref15_secret.k2 self x0 x1 x2) (fun (o160 : (List UInt8) × Int) => some o160))) (gemotref15_secret.k2 self x0 x1 x2)
noncomputable def gemotref15_secret.g (m : Nat) : (List UInt8) → (List Int) → (List (List UInt8)) → Option ((List UInt8) × Int) := Nat.rec (motive := fun _ => (List UInt8) → (List Int) → (List (List UInt8)) → Option ((List UInt8) × Int)) (fun _ _ _ => none) (fun _ self => gemotref15_secret.step self) m
noncomputable def gemotref15_secret.f (x0 : List UInt8) (x1 : List Int) (x2 : List (List UInt8)) : Option ((List UInt8) × Int) := recM (fun m (a : (List UInt8) × (List Int) × (List (List UInt8))) => gemotref15_secret.g m a.1 a.2.1 a.2.2) (x0, x1, x2)
set_option maxHeartbeats 4000000 in
theorem gemotref15_secret_ok_g (m : Nat) : ∀ {ok : Nat → Prop} {w : World} {u1 u6 : Value} {x0 : List UInt8} {x1 : List Int} {x2 : List (List UInt8)} {r : (List UInt8) × Int} (hu2 : slR (tInt .i64) w ok u1 x1) (hu7 : slR tStr w ok u6 x2) (h : gemotref15_secret.g m x0 x1 x2 = some r), Calls Tryz.prog 26 #[.string (bs x0), u1, u6] w fun e w' => ∃ v, e = .returned v ∧ (v = .tuple #[.string (bs r.1), .int .i64 r.2] ∧ Bel w.heap.size w w') := by
  induction m with
  | zero => intro ok w u1 u6 x0 x1 x2 r hu2 hu7 h; exact absurd (show (none : Option ((List UInt8) × Int)) = some r from h) (fun q => by cases q)
  | succ m ih =>
    intro ok w u1 u6 x0 x1 x2 r hu2 hu7 h
    have H : Eng.Own ok w w [] := Eng.Own.nil ok w
    obtain ⟨A3, c4, rfl, H⟩ := H.arg rfl hu2
    obtain ⟨A8, c9, rfl, H⟩ := H.arg rfl hu7
    replace h : gemotref15_secret.step (gemotref15_secret.g m) x0 x1 x2 = some r := h
    unfold gemotref15_secret.step at h
    refine enterN (args := [.string (bs x0), .slice A3 x1.length c4, .slice A8 x2.length c9]) Tryz.func26 rfl Tryz.ntmps26 rfl rfl ?_
    refine nc_seq ?_
    refine nc ?_
    refine nc_cut (fun e w95 => gemotref15_secret.k2 (gemotref15_secret.g m) x0 x1 x2 = some r ∧ e = [(0, .string (bs x0)), (1, .slice A3 x1.length c4), (2, .slice A8 x2.length c9)] ∧ Eng.Own ok w w95 [.dat (dSl (tInt .i64) (.slice A3 x1.length c4) x1), .dat (dSl tStr (.slice A8 x2.length c9) x2)]) ?_ ?_
    · skip
      refine nc_seq ?_
      refine nc ?_
      refine nc_cond rfl (fun hc97 => ?_) (fun hc97 => ?_)
      · replace h := condT hc97 h
        refine nc_seq ?_
        refine nc ?_
        refine nc_block ?_
        obtain ⟨o151, hL152, hO153⟩ := bindS h
        obtain ⟨n154, hL152⟩ := loopS hL152
        refine nc ?_
        refine loop_ruleA (fun k e w158 => ∃ (v115 : Int), iterM (fun s161 : Int => gemotref15_secret.b1 (gemotref15_secret.g m) x0 x1 x2 s161) k v115 = some o151 ∧ e = [(0, .string (bs x0)), (1, .slice A3 x1.length c4), (2, .slice A8 x2.length c9), (8, .int .i64 v115)] ∧ Eng.Own ok w w158 [.dat (dSl (tInt .i64) (.slice A3 x1.length c4) x1), .dat (dSl tStr (.slice A8 x2.length c9) x2)]) ⟨_, hL152, rfl, H.pickL [1, 0] rfl⟩ ?_
        rintro k163 _ w162 ⟨v115, hL152, rfl, H⟩
        obtain ⟨k157, rfl, q155, h, hq156⟩ := iterS hL152
        replace h : gemotref15_secret.b1 (gemotref15_secret.g m) x0 x1 x2 v115 = some q155 := h
        unfold gemotref15_secret.b1 at h
        refine nc_seq ?_
        refine nc_seq ?_
        refine nc ?_
        refine nc_cond rfl (fun hc164 => ?_) (fun hc164 => ?_)
        · replace h := condT hc164 h
          refine nc ?_
          refine nc_seq ?_
          refine nc_block ?_
          refine nc_seq ?_
          obtain ⟨y165, hx166, h⟩ := bindS h
          obtain ⟨a167, cs168, rfl, hR169, H⟩ := H.elemI 0 rfl hx166
          obtain rfl : cs168 = [.int .i64 y165] := hR169
          obtain ⟨y171, hx172, h⟩ := bindS h
          refine nc ?_
          refine draw_rule [] (by kernel_rfl) (by kernel_rfl) H ?_
          refine c_idxA (e := 3) 1 _ (by kernel_rfl) (by kernel_rfl) (idxL_some hx166).1 (idxL_some hx166).2.1 ?_
          refine c_loadD 0 rfl 0 (by kernel_rfl) rfl ?_
          refine c_idxS (by kernel_rfl) hx172 ?_
          intro w173 H
          refine nc_cond rfl (fun hc174 => ?_) (fun hc174 => ?_)
          · replace h := condT hc174 h
            refine nc_seq ?_
            refine nc ?_
            obtain ⟨y175, hx176, h⟩ := bindS h
            obtain ⟨a177, cs178, rfl, hR179, H⟩ := H.elemI 2 rfl hx176
            obtain rfl : cs178 = [.string (bs y175)] := hR179
            refine idxA_rule (e := 9) 1 _ (by kernel_rfl) (by kernel_rfl) (idxL_some hx176).1 (idxL_some hx176).2.1 ?_
            refine own_loadD H 0 rfl 0 (by kernel_rfl) rfl ?_
            refine nc ?_
            cases h
            replace hq156 : (Sum.inr (y175, (0 : Int))) = o151 := hq156
            subst hq156
            have h := hO153
            try dsimp only [Sum.elim_inl, Sum.elim_inr] at h
            replace h := Option.some.inj h
            subst h
            exact ret_inA [.string (bs y175), .int .i64 0] ⟨_, rfl, ⟨rfl, H.frame⟩⟩
          · replace h := condF hc174 h
            refine nc ?_
            refine nc ?_
            cases h
            exact again_inA ⟨_, hq156, rfl, H.pickL [1, 2] rfl⟩
        · replace h := condF hc164 h
          refine nc ?_
          cases h
          replace hq156 : (Sum.inl ()) = o151 := hq156
          subst hq156
          have h := hO153
          try dsimp only [Sum.elim_inl, Sum.elim_inr] at h
          exact cut_inA ⟨h, rfl, H.pickL [0, 1] rfl⟩
      · replace h := condF hc97 h
        refine nc ?_
        exact cut_inA ⟨h, rfl, H.pickL [1, 0] rfl⟩
    · rintro _ w181 ⟨h, rfl, H⟩
      unfold gemotref15_secret.k2 at h
      refine nc_seq ?_
      refine nc ?_
      obtain ⟨y182, hy183, h⟩ := bindS h
      refine call_rule (by kernel_rfl) (gemotref13_Parts_ok (ok := fun _ => False) hy183) fun v185 w184 ⟨hv186, hb187⟩ => ?_
      subst hv186
      replace H := H.call hb187
      refine nc_seq ?_
      refine nc ?_
      obtain ⟨y188, hy189, h⟩ := bindS h
      refine call_rule (by kernel_rfl) (ih (H.dat 0 rfl) (H.dat 1 rfl) hy189) fun v191 w190 ⟨hv192, hb193⟩ => ?_
      subst hv192
      replace H := H.call hb193
      refine nc_seq ?_
      refine nc_seq ?_
      refine nc ?_
      refine nc_cond rfl (fun hc194 => ?_) (fun hc194 => ?_)
      · replace h := condT hc194 h
        refine nc_seq ?_
        refine nc ?_
        refine nc ?_
        replace h := Option.some.inj h
        subst h
        exact ret_inA [.string (bs ([] : List UInt8)), .int .i64 y188.2] ⟨_, rfl, ⟨rfl, H.frame⟩⟩
      · replace h := condF hc194 h
        refine nc ?_
        refine nc_seq ?_
        refine nc ?_
        obtain ⟨y195, hy196, h⟩ := bindS h
        refine call_rule (by kernel_rfl) (ih (H.dat 0 rfl) (H.dat 1 rfl) hy196) fun v198 w197 ⟨hv199, hb200⟩ => ?_
        subst hv199
        replace H := H.call hb200
        refine nc_seq ?_
        refine nc_seq ?_
        refine nc ?_
        refine nc_cond rfl (fun hc201 => ?_) (fun hc201 => ?_)
        · replace h := condT hc201 h
          refine nc_seq ?_
          refine nc ?_
          refine nc ?_
          replace h := Option.some.inj h
          subst h
          exact ret_inA [.string (bs ([] : List UInt8)), .int .i64 y195.2] ⟨_, rfl, ⟨rfl, H.frame⟩⟩
        · replace h := condF hc201 h
          refine nc ?_
          refine nc_seq ?_
          refine nc ?_
          obtain ⟨y202, hy203, h⟩ := bindS h
          refine call_rule (by kernel_rfl) (gemotref15_Element_ok (ok := fun _ => False) hy203) fun v205 w204 ⟨hv206, hb207⟩ => ?_
          subst hv206
          replace H := H.call hb207
          refine nc_seq ?_
          refine nc_seq ?_
          refine nc ?_
          refine nc_cond rfl (fun hc208 => ?_) (fun hc208 => ?_)
          · replace h := condT hc208 h
            refine nc_seq ?_
            refine nc ?_
            refine nc ?_
            replace h := Option.some.inj h
            subst h
            exact ret_inA [.string (bs ([] : List UInt8)), .int .i64 y202.2] ⟨_, rfl, ⟨rfl, H.frame⟩⟩
          · replace h := condF hc208 h
            refine nc ?_
            refine nc_seq ?_
            refine nc ?_
            obtain ⟨y209, hy210, h⟩ := bindS h
            refine call_rule (by kernel_rfl) (gemotref15_Above_ok (ok := fun _ => False) hy210) fun v212 w211 ⟨hv213, hb214⟩ => ?_
            subst hv213
            replace H := H.call hb214
            refine nc ?_
            replace h := Option.some.inj h
            subst h
            exact ret_inA [.string (bs y209.1), .int .i64 y209.2] ⟨_, rfl, ⟨rfl, H.frame⟩⟩
theorem gemotref15_secret_ok {ok : Nat → Prop} {w : World} {u1 u6 : Value} {x0 : List UInt8} {x1 : List Int} {x2 : List (List UInt8)} {r : (List UInt8) × Int} (hu2 : slR (tInt .i64) w ok u1 x1) (hu7 : slR tStr w ok u6 x2) (h : gemotref15_secret.f x0 x1 x2 = some r) : Calls Tryz.prog 26 #[.string (bs x0), u1, u6] w fun e w' => ∃ v, e = .returned v ∧ (v = .tuple #[.string (bs r.1), .int .i64 r.2] ∧ Bel w.heap.size w w') := by
  obtain ⟨m, hm⟩ := recS h
  exact gemotref15_secret_ok_g m (ok := ok) hu2 hu7 hm
/-! gemot/gemotref15.Root -/
noncomputable def gemotref15_Root.f (x0 : List UInt8) (x1 : List (List UInt8)) : Option ((List UInt8) × Int) := (gemotref13_Members.f x0).bind fun y6 => cond (cond ((y6.length : Int) == (0 : Int)) true ((y6.length : Int) != (x1.length : Int))) (some (([] : List UInt8), (1 : Int))) ((gemotref15_secret.f x0 y6 x1).bind fun y19 => some (y19.1, y19.2))
set_option maxHeartbeats 4000000 in
theorem gemotref15_Root_ok {ok : Nat → Prop} {w : World} {u1 : Value} {x0 : List UInt8} {x1 : List (List UInt8)} {r : (List UInt8) × Int} (hu2 : slR tStr w ok u1 x1) (h : gemotref15_Root.f x0 x1 = some r) :
    Calls Tryz.prog 7 #[.string (bs x0), u1] w fun e w' => ∃ v, e = .returned v ∧ (v = .tuple #[.string (bs r.1), .int .i64 r.2] ∧ Bel w.heap.size w w') := by
  have H : Eng.Own ok w w [] := Eng.Own.nil ok w
  obtain ⟨A3, c4, rfl, H⟩ := H.arg rfl hu2
  unfold gemotref15_Root.f at h
  refine enterN (args := [.string (bs x0), .slice A3 x1.length c4]) Tryz.func7 rfl Tryz.ntmps7 rfl rfl ?_
  refine nc_seq ?_
  refine nc ?_
  refine nc_seq ?_
  refine nc ?_
  obtain ⟨y6, hy7, h⟩ := bindS h
  refine call_rule (by kernel_rfl) (gemotref13_Members_ok (ok := fun _ => False) hy7) fun u12 w8 ⟨hu13, hb11⟩ => ?_
  replace H := H.callDats hb11 [dSl (tInt .i64) u12 y6] ⟨(rowOut_sl (rowOut_any hu13) hb11), trivial⟩
  obtain ⟨A14, c15, hA16, _⟩ := H.sl 0 rfl
  subst hA16
  refine nc_seq ?_
  refine nc_seq ?_
  refine nc ?_
  refine nc_cond rfl (fun hc18 => ?_) (fun hc18 => ?_)
  · replace h := condT hc18 h
    refine nc_seq ?_
    refine nc ?_
    refine nc ?_
    replace h := Option.some.inj h
    subst h
    exact ret_inA [.string (bs ([] : List UInt8)), .int .i64 1] ⟨_, rfl, ⟨rfl, H.frame⟩⟩
  · replace h := condF hc18 h
    refine nc ?_
    refine nc_seq ?_
    refine nc ?_
    obtain ⟨y19, hy20, h⟩ := bindS h
    refine call_rule (by kernel_rfl) (gemotref15_secret_ok (H.dat 0 rfl) (H.dat 1 rfl) hy20) fun v22 w21 ⟨hv23, hb24⟩ => ?_
    subst hv23
    replace H := H.call hb24
    refine nc ?_
    replace h := Option.some.inj h
    subst h
    exact ret_inA [.string (bs y19.1), .int .i64 y19.2] ⟨_, rfl, ⟨rfl, H.frame⟩⟩
/-! gemot/gemotlaw15.same -/
noncomputable def gemotlaw15_same.b1 (x0 : List (List UInt8)) (x1 : List (List UInt8)) (v104 : Int) : Option (Int ⊕ (Unit ⊕ Bool)) := cond (decide (v104 < (x0.length : Int))) ((idxL x0 v104).bind fun y150 => (idxL x1 v104).bind fun y156 => cond (!(strEq y150 y156)) (some (.inr (Sum.inr false))) (some (.inl (IntKind.i64.wrap (v104 + (1 : Int)))))) (some (.inr (Sum.inl ())))
noncomputable def gemotlaw15_same.k2 : Option (Bool) := some true
noncomputable def gemotlaw15_same.f (x0 : List (List UInt8)) (x1 : List (List UInt8)) : Option (Bool) := cond ((x0.length : Int) != (x1.length : Int)) (some false) ((loopM (fun s146 : Int => gemotlaw15_same.b1 x0 x1 s146) (0 : Int)).bind (Sum.elim (fun (o144 : Unit) => gemotlaw15_same.k2) (fun (o145 : Bool) => some o145)))
set_option maxHeartbeats 4000000 in
theorem gemotlaw15_same_ok {ok : Nat → Prop} {w : World} {u1 u6 : Value} {x0 : List (List UInt8)} {x1 : List (List UInt8)} {r : Bool} (hu2 : slR tStr w ok u1 x0) (hu7 : slR tStr w ok u6 x1) (h : gemotlaw15_same.f x0 x1 = some r) :
    Calls Tryz.prog 8 #[u1, u6] w fun e w' => ∃ v, e = .returned v ∧ (v = .bool r ∧ Bel w.heap.size w w') := by
  have H : Eng.Own ok w w [] := Eng.Own.nil ok w
  obtain ⟨A3, c4, rfl, H⟩ := H.arg rfl hu2
  obtain ⟨A8, c9, rfl, H⟩ := H.arg rfl hu7
  unfold gemotlaw15_same.f at h
  refine enterN (args := [.slice A3 x0.length c4, .slice A8 x1.length c9]) Tryz.func8 rfl Tryz.ntmps8 rfl rfl ?_
  refine nc_seq ?_
  refine nc ?_
  refine nc_seq ?_
  refine nc_seq ?_
  refine nc ?_
  refine nc_cond rfl (fun hc11 => ?_) (fun hc11 => ?_)
  · replace h := condT hc11 h
    refine nc_seq ?_
    refine nc ?_
    refine nc ?_
    replace h := Option.some.inj h
    subst h
    exact ret_inA [.bool false] ⟨_, rfl, ⟨rfl, H.frame⟩⟩
  · replace h := condF hc11 h
    refine nc ?_
    refine nc_cut (fun e w87 => gemotlaw15_same.k2 = some r ∧ e = [] ∧ Eng.Own ok w w87 []) ?_ ?_
    · skip
      refine nc_seq ?_
      refine nc ?_
      refine nc_block ?_
      obtain ⟨o136, hL137, hO138⟩ := bindS h
      obtain ⟨n139, hL137⟩ := loopS hL137
      refine nc ?_
      refine loop_ruleA (fun k e w143 => ∃ (v104 : Int), iterM (fun s146 : Int => gemotlaw15_same.b1 x0 x1 s146) k v104 = some o136 ∧ e = [(0, .slice A3 x0.length c4), (1, .slice A8 x1.length c9), (5, .int .i64 v104)] ∧ Eng.Own ok w w143 [.dat (dSl tStr (.slice A3 x0.length c4) x0), .dat (dSl tStr (.slice A8 x1.length c9) x1)]) ⟨_, hL137, rfl, H.pickL [1, 0] rfl⟩ ?_
      rintro k148 _ w147 ⟨v104, hL137, rfl, H⟩
      obtain ⟨k142, rfl, q140, h, hq141⟩ := iterS hL137
      replace h : gemotlaw15_same.b1 x0 x1 v104 = some q140 := h
      unfold gemotlaw15_same.b1 at h
      refine nc_seq ?_
      refine nc_seq ?_
      refine nc ?_
      refine nc_cond rfl (fun hc149 => ?_) (fun hc149 => ?_)
      · replace h := condT hc149 h
        refine nc ?_
        refine nc_seq ?_
        refine nc_block ?_
        refine nc_seq ?_
        obtain ⟨y150, hx151, h⟩ := bindS h
        obtain ⟨a152, cs153, rfl, hR154, H⟩ := H.elemI 0 rfl hx151
        obtain rfl : cs153 = [.string (bs y150)] := hR154
        obtain ⟨y156, hx157, h⟩ := bindS h
        obtain ⟨a158, cs159, rfl, hR160, H⟩ := H.elemI 2 rfl hx157
        obtain rfl : cs159 = [.string (bs y156)] := hR160
        refine nc ?_
        refine draw_rule [] (by kernel_rfl) (by kernel_rfl) H ?_
        refine c_idxA (e := 26) 1 _ (by kernel_rfl) (by kernel_rfl) (idxL_some hx151).1 (idxL_some hx151).2.1 ?_
        refine c_loadD 1 rfl 0 (by kernel_rfl) rfl ?_
        refine c_idxA (e := 9) 1 _ (by kernel_rfl) (by kernel_rfl) (idxL_some hx157).1 (idxL_some hx157).2.1 ?_
        refine c_loadD 0 rfl 0 (by kernel_rfl) rfl ?_
        intro w162 H
        refine nc_cond rfl (fun hc163 => ?_) (fun hc163 => ?_)
        · replace h := condT hc163 h
          refine nc_seq ?_
          refine nc ?_
          refine nc ?_
          cases h
          replace hq141 : (Sum.inr false) = o136 := hq141
          subst hq141
          have h := hO138
          try dsimp only [Sum.elim_inl, Sum.elim_inr] at h
          replace h := Option.some.inj h
          subst h
          exact ret_inA [.bool false] ⟨_, rfl, ⟨rfl, H.frame⟩⟩
        · replace h := condF hc163 h
          refine nc ?_
          refine nc ?_
          cases h
          exact again_inA ⟨_, hq141, rfl, H.pickL [2, 3] rfl⟩
      · replace h := condF hc149 h
        refine nc ?_
        cases h
        replace hq141 : (Sum.inl ()) = o136 := hq141
        subst hq141
        have h := hO138
        try dsimp only [Sum.elim_inl, Sum.elim_inr] at h
        exact cut_inA ⟨h, rfl, H.pickL [] rfl⟩
    · rintro _ w164 ⟨h, rfl, H⟩
      unfold gemotlaw15_same.k2 at h
      refine nc_seq ?_
      refine nc ?_
      refine nc ?_
      replace h := Option.some.inj h
      subst h
      exact ret_inA [.bool true] ⟨_, rfl, ⟨rfl, H.frame⟩⟩
/-! gemot/gemotlaw15.BlindClimbs -/
noncomputable def gemotlaw15_BlindClimbs.b1 (x0 : List UInt8) (x1 : Int) (x2 : List UInt8) (x3 : List D_blind_Blind) (x4 : List (List UInt8)) (v214 : List D_gemotref15_Blind) (v218 : Int) : Option (((List D_gemotref15_Blind) × Int) ⊕ ((List D_gemotref15_Blind) ⊕ Bool)) := cond (decide (v218 < (x3.length : Int))) ((idxL x3 v218).bind fun y307 => cond (decide ((y307.2.length : Int) > (500 : Int))) (some (.inr (Sum.inr true))) ((idxL x3 v218).bind fun y314 => (idxL x3 v218).bind fun y320 => roomM 32 (v214.length + 1) (some (.inl ((v214 ++ [(y314.1, y320.2)]), (IntKind.i64.wrap (v218 + (1 : Int)))))))) (some (.inr (Sum.inl v214)))
noncomputable def gemotlaw15_BlindClimbs.b2 (x0 : List UInt8) (x1 : Int) (x2 : List UInt8) (x3 : List D_blind_Blind) (x4 : List (List UInt8)) (v175 : List D_gemotref15_Blind) (v499 : List (List UInt8)) (v503 : Int) : Option (((List (List UInt8)) × Int) ⊕ ((List (List UInt8)) ⊕ Bool)) := cond (decide (v503 < (x4.length : Int))) ((idxL x4 v503).bind fun y578 => cond (decide ((y578.length : Int) > (500 : Int))) (some (.inr (Sum.inr true))) ((idxL x4 v503).bind fun y585 => roomM 16 (v499.length + 1) (some (.inl ((v499 ++ [y585]), (IntKind.i64.wrap (v503 + (1 : Int)))))))) (some (.inr (Sum.inl v499)))
noncomputable def gemotlaw15_BlindClimbs.k3 (x0 : List UInt8) (x1 : Int) (x2 : List UInt8) (x3 : List D_blind_Blind) (x4 : List (List UInt8)) (v175 : List D_gemotref15_Blind) (v467 : List (List UInt8)) : Option (Bool) := (blind_Root.f x0 v467).bind fun y603 => (gemotref15_Root.f x0 x4).bind fun y609 => (blind_Climb.f x0 x1 x2 x3).bind fun y615 => (gemotref15_Climb.f x0 x1 x2 v175).bind fun y628 => (gemotlaw15_same.f y615 y628).bind fun y640 => some (cond (cond y640 (strEq y603.1 y609.1) false) (y603.2 == y609.2) false)
noncomputable def gemotlaw15_BlindClimbs.k4 (x0 : List UInt8) (x1 : Int) (x2 : List UInt8) (x3 : List D_blind_Blind) (x4 : List (List UInt8)) (v175 : List D_gemotref15_Blind) : Option (Bool) := (loopM (fun s574 : (List (List UInt8)) × Int => gemotlaw15_BlindClimbs.b2 x0 x1 x2 x3 x4 v175 s574.1 s574.2) (([] : List (List UInt8)), (0 : Int))).bind (Sum.elim (fun (o571 : (List (List UInt8))) => gemotlaw15_BlindClimbs.k3 x0 x1 x2 x3 x4 v175 o571) (fun (o572 : Bool) => some o572))
noncomputable def gemotlaw15_BlindClimbs.f (x0 : List UInt8) (x1 : Int) (x2 : List UInt8) (x3 : List D_blind_Blind) (x4 : List (List UInt8)) : Option (Bool) := (gemotlaw15_shown.f).bind fun y11 => cond (cond (cond (cond (cond (!y11) true (decide ((x0.length : Int) > (90 : Int)))) true (decide ((x2.length : Int) > (500 : Int)))) true (decide ((x3.length : Int) > (20 : Int)))) true (decide ((x4.length : Int) > (10 : Int)))) (some y11) ((loopM (fun s303 : (List D_gemotref15_Blind) × Int => gemotlaw15_BlindClimbs.b1 x0 x1 x2 x3 x4 s303.1 s303.2) (([] : List D_gemotref15_Blind), (0 : Int))).bind (Sum.elim (fun (o300 : (List D_gemotref15_Blind)) => gemotlaw15_BlindClimbs.k4 x0 x1 x2 x3 x4 o300) (fun (o301 : Bool) => some o301)))
set_option maxHeartbeats 4000000 in
theorem gemotlaw15_BlindClimbs_ok {ok : Nat → Prop} {w : World} {u1 u6 : Value} {x0 : List UInt8} {x1 : Int} {x2 : List UInt8} {x3 : List D_blind_Blind} {x4 : List (List UInt8)} {r : Bool} (hu2 : slR t_blind_Blind w ok u1 x3) (hu7 : slR tStr w ok u6 x4) (h : gemotlaw15_BlindClimbs.f x0 x1 x2 x3 x4 = some r) :
    Calls Tryz.prog 3 #[.string (bs x0), .int .i64 x1, .string (bs x2), u1, u6] w fun e w' => ∃ v, e = .returned v ∧ (v = .bool r ∧ Bel w.heap.size w w') := by
  have H : Eng.Own ok w w [] := Eng.Own.nil ok w
  obtain ⟨A3, c4, rfl, H⟩ := H.arg rfl hu2
  obtain ⟨A8, c9, rfl, H⟩ := H.arg rfl hu7
  unfold gemotlaw15_BlindClimbs.f at h
  refine enterN (args := [.string (bs x0), .int .i64 x1, .string (bs x2), .slice A3 x3.length c4, .slice A8 x4.length c9]) Tryz.func3 rfl Tryz.ntmps3 rfl rfl ?_
  refine nc_seq ?_
  refine nc ?_
  refine nc_seq ?_
  refine nc ?_
  obtain ⟨y11, hy12, h⟩ := bindS h
  refine call_rule (by kernel_rfl) (gemotlaw15_shown_ok (ok := fun _ => False) hy12) fun v14 w13 ⟨hv15, hb16⟩ => ?_
  subst hv15
  replace H := H.call hb16
  refine nc_seq ?_
  refine nc_seq ?_
  refine nc ?_
  refine nc_cond rfl (fun hc17 => ?_) (fun hc17 => ?_)
  · replace h := condT hc17 h
    refine nc_seq ?_
    refine nc ?_
    refine nc ?_
    replace h := Option.some.inj h
    subst h
    exact ret_inA [.bool y11] ⟨_, rfl, ⟨rfl, H.frame⟩⟩
  · replace h := condF hc17 h
    refine nc ?_
    refine nc_seq ?_
    refine nc ?_
    refine nc_cut (fun e w179 => ∃ (A176 : Option Addr) (c177 : Nat) (cs178 : List Value) (v175 : List D_gemotref15_Blind), gemotlaw15_BlindClimbs.k4 x0 x1 x2 x3 x4 v175 = some r ∧ e = [(0, .string (bs x0)), (1, .int .i64 x1), (2, .string (bs x2)), (3, .slice A3 x3.length c4), (4, .slice A8 x4.length c9), (12, .slice A176 v175.length c177)] ∧ Eng.Own ok w w179 [.dat (dSl t_blind_Blind (.slice A3 x3.length c4) x3), .dat (dSl tStr (.slice A8 x4.length c9) x4), .dat (dRows t_gemotref15_Blind v175 cs178), .row (.slice A176 v175.length c177) 30 2 v175.length cs178]) ?_ ?_
    · skip
      refine nc_seq ?_
      refine nc ?_
      refine nc_block ?_
      replace H := H.nilRowD t_gemotref15_Blind 30
      obtain ⟨o292, hL293, hO294⟩ := bindS h
      obtain ⟨n295, hL293⟩ := loopS hL293
      refine nc ?_
      refine loop_ruleA (fun k e w299 => ∃ (A215 : Option Addr) (c216 : Nat) (cs217 : List Value) (v214 : List D_gemotref15_Blind) (v218 : Int), iterM (fun s303 : (List D_gemotref15_Blind) × Int => gemotlaw15_BlindClimbs.b1 x0 x1 x2 x3 x4 s303.1 s303.2) k (v214, v218) = some o292 ∧ e = [(0, .string (bs x0)), (1, .int .i64 x1), (2, .string (bs x2)), (3, .slice A3 x3.length c4), (4, .slice A8 x4.length c9), (12, .slice A215 v214.length c216), (13, .int .i64 v218)] ∧ Eng.Own ok w w299 [.dat (dSl t_blind_Blind (.slice A3 x3.length c4) x3), .dat (dSl tStr (.slice A8 x4.length c9) x4), .dat (dRows t_gemotref15_Blind v214 cs217), .row (.slice A215 v214.length c216) 30 2 v214.length cs217]) ⟨none, 0, [], _, _, hL293, rfl, H.pickL [3, 2, 0, 1] rfl⟩ ?_
      rintro k305 _ w304 ⟨A215, c216, cs217, v214, v218, hL293, rfl, H⟩
      obtain ⟨k298, rfl, q296, h, hq297⟩ := iterS hL293
      replace h : gemotlaw15_BlindClimbs.b1 x0 x1 x2 x3 x4 v214 v218 = some q296 := h
      unfold gemotlaw15_BlindClimbs.b1 at h
      refine nc_seq ?_
      refine nc_seq ?_
      refine nc ?_
      refine nc_cond rfl (fun hc306 => ?_) (fun hc306 => ?_)
      · replace h := condT hc306 h
        refine nc ?_
        refine nc_seq ?_
        refine nc_block ?_
        refine nc_seq ?_
        refine nc_seq ?_
        refine nc ?_
        obtain ⟨y307, hx308, h⟩ := bindS h
        obtain ⟨a309, cs310, rfl, hR311, H⟩ := H.elemI 0 rfl hx308
        obtain rfl := blind_Blind_cells hR311
        refine idxA_rule (e := 28) 2 _ (by kernel_rfl) (by kernel_rfl) (idxL_some hx308).1 (idxL_some hx308).2.1 ?_
        refine own_loadD H 0 rfl 1 (by kernel_rfl) rfl ?_
        refine nc_cond rfl (fun hc313 => ?_) (fun hc313 => ?_)
        · replace h := condT hc313 h
          refine nc_seq ?_
          refine nc ?_
          refine nc ?_
          cases h
          replace hq297 : (Sum.inr true) = o292 := hq297
          subst hq297
          have h := hO294
          try dsimp only [Sum.elim_inl, Sum.elim_inr] at h
          replace h := Option.some.inj h
          subst h
          exact ret_inA [.bool true] ⟨_, rfl, ⟨rfl, H.frame⟩⟩
        · replace h := condF hc313 h
          refine nc ?_
          obtain ⟨y314, hx315, h⟩ := bindS h
          obtain ⟨cs317, hR318, H⟩ := H.elemJ 1 rfl hx315
          obtain rfl := blind_Blind_cells hR318
          obtain ⟨y320, hx321, h⟩ := bindS h
          obtain ⟨cs323, hR324, H⟩ := H.elemJ 2 rfl hx321
          obtain rfl := blind_Blind_cells hR324
          obtain ⟨hr329, h⟩ := roomS h
          refine nc ?_
          refine draw_rule [] (by kernel_rfl) (by kernel_rfl) H ?_
          refine c_idxA (e := 28) 2 _ (by kernel_rfl) (by kernel_rfl) (idxL_some hx315).1 (idxL_some hx315).2.1 ?_
          refine c_loadD 1 rfl 0 (by kernel_rfl) rfl ?_
          refine c_idxA (e := 28) 2 _ (by kernel_rfl) (by kernel_rfl) (idxL_some hx321).1 (idxL_some hx321).2.1 ?_
          refine c_loadD 0 rfl 1 (by kernel_rfl) rfl ?_
          refine c_buildSlice (e := 30) (sz := 2) (z := .agg #[.string ⟨#[]⟩, .string ⟨#[]⟩]) (cs := [.string (bs y314.1), .string (bs y320.2)]) (by kernel_rfl) (by kernel_rfl) (by kernel_rfl) rfl rfl rfl rfl ?_
          intro g327
          refine c_append1 (k := t_gemotref15_Blind) (z := .agg #[.string ⟨#[]⟩, .string ⟨#[]⟩]) (x := (y314.1, y320.2)) 32 6 5 rfl rfl rfl (fun _ H => (gemotref15_Blind_in (x := (y314.1, y320.2)))) (by kernel_rfl) (by kernel_rfl) rfl rfl hr329 rfl ?_
          intro z330 cs331
          intro w336 H
          obtain ⟨A333, c334, rfl, _, _⟩ := H.rowSl 6 rfl
          refine nc ?_
          cases h
          exact again_inA ⟨A333, c334, cs331, _, _, hq297, rfl, H.pickL [3, 4, 5, 6] rfl⟩
      · replace h := condF hc306 h
        refine nc ?_
        cases h
        replace hq297 : (Sum.inl v214) = o292 := hq297
        subst hq297
        have h := hO294
        try dsimp only [Sum.elim_inl, Sum.elim_inr] at h
        exact cut_inA ⟨A215, c216, cs217, _, h, rfl, H.pickL [0, 1, 2, 3] rfl⟩
    · rintro _ w337 ⟨A176, c177, cs178, v175, h, rfl, H⟩
      unfold gemotlaw15_BlindClimbs.k4 at h
      refine nc_seq ?_
      refine nc ?_
      refine nc_cut (fun e w471 => ∃ (A468 : Option Addr) (c469 : Nat) (cs470 : List Value) (v467 : List (List UInt8)), gemotlaw15_BlindClimbs.k3 x0 x1 x2 x3 x4 v175 v467 = some r ∧ e = [(0, .string (bs x0)), (1, .int .i64 x1), (2, .string (bs x2)), (3, .slice A3 x3.length c4), (4, .slice A8 x4.length c9), (12, .slice A176 v175.length c177), (14, .slice A468 v467.length c469)] ∧ Eng.Own ok w w471 [.dat (dSl t_blind_Blind (.slice A3 x3.length c4) x3), .dat (dSl tStr (.slice A8 x4.length c9) x4), .dat (dRows t_gemotref15_Blind v175 cs178), .row (.slice A176 v175.length c177) 30 2 v175.length cs178, .dat (dRows tStr v467 cs470), .row (.slice A468 v467.length c469) 26 1 v467.length cs470]) ?_ ?_
      · skip
        refine nc_seq ?_
        refine nc ?_
        refine nc_block ?_
        replace H := H.nilRowD tStr 26
        obtain ⟨o563, hL564, hO565⟩ := bindS h
        obtain ⟨n566, hL564⟩ := loopS hL564
        refine nc ?_
        refine loop_ruleA (fun k e w570 => ∃ (A500 : Option Addr) (c501 : Nat) (cs502 : List Value) (v499 : List (List UInt8)) (v503 : Int), iterM (fun s574 : (List (List UInt8)) × Int => gemotlaw15_BlindClimbs.b2 x0 x1 x2 x3 x4 v175 s574.1 s574.2) k (v499, v503) = some o563 ∧ e = [(0, .string (bs x0)), (1, .int .i64 x1), (2, .string (bs x2)), (3, .slice A3 x3.length c4), (4, .slice A8 x4.length c9), (12, .slice A176 v175.length c177), (14, .slice A500 v499.length c501), (15, .int .i64 v503)] ∧ Eng.Own ok w w570 [.dat (dSl t_blind_Blind (.slice A3 x3.length c4) x3), .dat (dSl tStr (.slice A8 x4.length c9) x4), .dat (dRows t_gemotref15_Blind v175 cs178), .row (.slice A176 v175.length c177) 30 2 v175.length cs178, .dat (dRows tStr v499 cs502), .row (.slice A500 v499.length c501) 26 1 v499.length cs502]) ⟨none, 0, [], _, _, hL564, rfl, H.pickL [2, 3, 4, 5, 0, 1] rfl⟩ ?_
        rintro k576 _ w575 ⟨A500, c501, cs502, v499, v503, hL564, rfl, H⟩
        obtain ⟨k569, rfl, q567, h, hq568⟩ := iterS hL564
        replace h : gemotlaw15_BlindClimbs.b2 x0 x1 x2 x3 x4 v175 v499 v503 = some q567 := h
        unfold gemotlaw15_BlindClimbs.b2 at h
        refine nc_seq ?_
        refine nc_seq ?_
        refine nc ?_
        refine nc_cond rfl (fun hc577 => ?_) (fun hc577 => ?_)
        · replace h := condT hc577 h
          refine nc ?_
          refine nc_seq ?_
          refine nc_block ?_
          refine nc_seq ?_
          refine nc_seq ?_
          refine nc ?_
          obtain ⟨y578, hx579, h⟩ := bindS h
          obtain ⟨a580, cs581, rfl, hR582, H⟩ := H.elemI 1 rfl hx579
          obtain rfl : cs581 = [.string (bs y578)] := hR582
          refine idxA_rule (e := 9) 1 _ (by kernel_rfl) (by kernel_rfl) (idxL_some hx579).1 (idxL_some hx579).2.1 ?_
          refine own_loadD H 0 rfl 0 (by kernel_rfl) rfl ?_
          refine nc_cond rfl (fun hc584 => ?_) (fun hc584 => ?_)
          · replace h := condT hc584 h
            refine nc_seq ?_
            refine nc ?_
            refine nc ?_
            cases h
            replace hq568 : (Sum.inr true) = o563 := hq568
            subst hq568
            have h := hO565
            try dsimp only [Sum.elim_inl, Sum.elim_inr] at h
            replace h := Option.some.inj h
            subst h
            exact ret_inA [.bool true] ⟨_, rfl, ⟨rfl, H.frame⟩⟩
          · replace h := condF hc584 h
            refine nc ?_
            refine nc ?_
            obtain ⟨y585, hx586, h⟩ := bindS h
            obtain ⟨cs588, hR589, H⟩ := H.elemJ 2 rfl hx586
            obtain rfl : cs588 = [.string (bs y585)] := hR589
            refine idxA_rule (e := 9) 1 _ (by kernel_rfl) (by kernel_rfl) (idxL_some hx586).1 (idxL_some hx586).2.1 ?_
            refine own_loadD H 0 rfl 0 (by kernel_rfl) rfl ?_
            refine own_buildSlice (e := 26) (sz := 1) (z := .string ⟨#[]⟩) (cs := [.string (bs y585)]) H (by kernel_rfl) (by kernel_rfl) (by kernel_rfl) rfl rfl rfl rfl fun g592 w593 H => ?_
            obtain ⟨hr594, h⟩ := roomS h
            refine own_append1 (k := tStr) (z := .string ⟨#[]⟩) (x := y585) 16 H 7 6 rfl rfl rfl rfl (by kernel_rfl) (by kernel_rfl) rfl rfl hr594 rfl fun z595 cs596 w597 H => ?_
            obtain ⟨A598, c599, rfl, _, _⟩ := H.rowSl 7 rfl
            refine nc ?_
            cases h
            exact again_inA ⟨A598, c599, cs596, _, _, hq568, rfl, H.pickL [2, 3, 4, 5, 6, 7] rfl⟩
        · replace h := condF hc577 h
          refine nc ?_
          cases h
          replace hq568 : (Sum.inl v499) = o563 := hq568
          subst hq568
          have h := hO565
          try dsimp only [Sum.elim_inl, Sum.elim_inr] at h
          exact cut_inA ⟨A500, c501, cs502, _, h, rfl, H.pickL [0, 1, 2, 3, 4, 5] rfl⟩
      · rintro _ w601 ⟨A468, c469, cs470, v467, h, rfl, H⟩
        unfold gemotlaw15_BlindClimbs.k3 at h
        refine nc_seq ?_
        refine nc ?_
        replace H := H.freeze (k := tStr) 5 4 rfl rfl
        obtain ⟨y603, hy604, h⟩ := bindS h
        refine call_rule (by kernel_rfl) (blind_Root_ok (H.dat 5 rfl) hy604) fun v606 w605 ⟨hv607, hb608⟩ => ?_
        subst hv607
        replace H := H.call hb608
        refine nc_seq ?_
        refine nc ?_
        obtain ⟨y609, hy610, h⟩ := bindS h
        refine call_rule (by kernel_rfl) (gemotref15_Root_ok (H.dat 1 rfl) hy610) fun v612 w611 ⟨hv613, hb614⟩ => ?_
        subst hv613
        replace H := H.call hb614
        refine nc_seq ?_
        refine nc ?_
        obtain ⟨y615, hy616, h⟩ := bindS h
        refine call_rule (by kernel_rfl) (blind_Climb_ok (H.dat 0 rfl) hy616) fun u621 w617 ⟨hu622, hb620⟩ => ?_
        replace H := H.callDats hb620 [dSl tStr u621 y615] ⟨hu622, trivial⟩
        obtain ⟨A623, c624, hA625, _⟩ := H.sl 0 rfl
        subst hA625
        replace H := H.freeze (k := t_gemotref15_Blind) 4 3 rfl rfl
        obtain ⟨y628, hy629, h⟩ := bindS h
        refine call_rule (by kernel_rfl) (gemotref15_Climb_ok (H.dat 4 rfl) hy629) fun u634 w630 ⟨hu635, hb633⟩ => ?_
        replace H := H.callDats hb633 [dSl tStr u634 y628] ⟨(rowOut_sl hu635 hb633), trivial⟩
        obtain ⟨A636, c637, hA638, _⟩ := H.sl 0 rfl
        subst hA638
        obtain ⟨y640, hy641, h⟩ := bindS h
        refine call_rule (by kernel_rfl) (gemotlaw15_same_ok (H.dat 1 rfl) (H.dat 0 rfl) hy641) fun v643 w642 ⟨hv644, hb645⟩ => ?_
        subst hv644
        replace H := H.call hb645
        refine nc ?_
        replace h := Option.some.inj h
        subst h
        exact ret_inA [.bool (cond (cond y640 (strEq y603.1 y609.1) false) (y603.2 == y609.2) false)] ⟨_, rfl, ⟨rfl, H.frame⟩⟩
end Go.Proofs.YtgomlcfoifkdiaaGreat.G
