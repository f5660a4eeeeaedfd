/- Walks, printed by a program of this proof's own. -/
import Derived.Test.YtfapphlhkfddoaaGreatDoorMan14
import Derived.KernelRfl
namespace Go.Proofs.YtfapphlhkfddoaaGreatDoor.G
open Go.RowKit Go.Eng Go.Proofs
set_option linter.unusedVariables false
set_option maxRecDepth 20000
set_option linter.unusedSectionVars false
variable [Inhabited Keep]
/-! cmp.isNaN(int) -/
noncomputable def cmp_isNaN_int.f (x0 : Int) : Option (Bool) := some (x0 != x0)
set_option maxHeartbeats 4000000 in
theorem cmp_isNaN_int_ok {ok : Nat → Prop} {w : World} {x0 : Int} {r : Bool} (h : cmp_isNaN_int.f x0 = some r) :
    Calls Tryz.prog 195 #[.int .i64 x0] w fun e w' => ∃ v, e = .returned v ∧ (v = .bool r ∧ Bel w.heap.size w w') := by
  have H : Eng.Own ok w w [] := Eng.Own.nil ok w
  unfold cmp_isNaN_int.f at h
  refine enterN (args := [.int .i64 x0]) Tryz.func195 rfl Tryz.ntmps195 rfl rfl ?_
  refine nc_seq ?_
  refine nc ?_
  refine nc_seq ?_
  refine nc ?_
  refine nc ?_
  replace h := Option.some.inj h
  subst h
  exact ret_inA [.bool (x0 != x0)] ⟨_, rfl, ⟨rfl, H.frame⟩⟩
/-! cmp.Compare(int) -/
noncomputable def cmp_Compare_int.f (x0 : Int) (x1 : Int) : Option (Int) := (cmp_isNaN_int.f x0).bind fun y1 => (cmp_isNaN_int.f x1).bind fun y7 => cond y1 (cond y7 (some (0 : Int)) (some (-1))) (cond y7 (some (1 : Int)) (cond (decide (x0 < x1)) (some (-1)) (cond (decide (x0 > x1)) (some (1 : Int)) (some (0 : Int)))))
set_option maxHeartbeats 4000000 in
theorem cmp_Compare_int_ok {ok : Nat → Prop} {w : World} {x0 : Int} {x1 : Int} {r : Int} (h : cmp_Compare_int.f x0 x1 = some r) :
    Calls Tryz.prog 148 #[.int .i64 x0, .int .i64 x1] w fun e w' => ∃ v, e = .returned v ∧ (v = .int .i64 r ∧ Bel w.heap.size w w') := by
  have H : Eng.Own ok w w [] := Eng.Own.nil ok w
  unfold cmp_Compare_int.f at h
  refine enterN (args := [.int .i64 x0, .int .i64 x1]) Tryz.func148 rfl Tryz.ntmps148 rfl rfl ?_
  refine nc_seq ?_
  refine nc ?_
  refine nc_seq ?_
  refine nc ?_
  obtain ⟨y1, hy2, h⟩ := bindS h
  refine call_rule (by kernel_rfl) (cmp_isNaN_int_ok (ok := fun _ => False) hy2) fun v4 w3 ⟨hv5, hb6⟩ => ?_
  subst hv5
  replace H := H.call hb6
  refine nc_seq ?_
  refine nc ?_
  obtain ⟨y7, hy8, h⟩ := bindS h
  refine call_rule (by kernel_rfl) (cmp_isNaN_int_ok (ok := fun _ => False) hy8) fun v10 w9 ⟨hv11, hb12⟩ => ?_
  subst hv11
  replace H := H.call hb12
  refine nc_seq ?_
  refine nc_seq ?_
  refine nc ?_
  refine nc_cond rfl (fun hc13 => ?_) (fun hc13 => ?_)
  · replace h := condT hc13 h
    refine nc_seq ?_
    refine nc_seq ?_
    refine nc ?_
    refine nc_cond rfl (fun hc14 => ?_) (fun hc14 => ?_)
    · replace h := condT hc14 h
      refine nc_seq ?_
      refine nc ?_
      refine nc ?_
      replace h := Option.some.inj h
      subst h
      exact ret_inA [.int .i64 0] ⟨_, rfl, ⟨rfl, H.frame⟩⟩
    · replace h := condF hc14 h
      refine nc ?_
      refine nc_seq ?_
      refine nc ?_
      refine nc ?_
      replace h := Option.some.inj h
      subst h
      exact ret_inA [.int .i64 (-1)] ⟨_, rfl, ⟨rfl, H.frame⟩⟩
  · replace h := condF hc13 h
    refine nc ?_
    refine nc_seq ?_
    refine nc_seq ?_
    refine nc ?_
    refine nc_cond rfl (fun hc15 => ?_) (fun hc15 => ?_)
    · replace h := condT hc15 h
      refine nc_seq ?_
      refine nc ?_
      refine nc ?_
      replace h := Option.some.inj h
      subst h
      exact ret_inA [.int .i64 1] ⟨_, rfl, ⟨rfl, H.frame⟩⟩
    · replace h := condF hc15 h
      refine nc ?_
      refine nc_seq ?_
      refine nc_seq ?_
      refine nc ?_
      refine nc_cond rfl (fun hc16 => ?_) (fun hc16 => ?_)
      · replace h := condT hc16 h
        refine nc_seq ?_
        refine nc ?_
        refine nc ?_
        replace h := Option.some.inj h
        subst h
        exact ret_inA [.int .i64 (-1)] ⟨_, rfl, ⟨rfl, H.frame⟩⟩
      · replace h := condF hc16 h
        refine nc ?_
        refine nc_seq ?_
        refine nc_seq ?_
        refine nc ?_
        refine nc_cond rfl (fun hc17 => ?_) (fun hc17 => ?_)
        · replace h := condT hc17 h
          refine nc_seq ?_
          refine nc ?_
          refine nc ?_
          replace h := Option.some.inj h
          subst h
          exact ret_inA [.int .i64 1] ⟨_, rfl, ⟨rfl, H.frame⟩⟩
        · replace h := condF hc17 h
          refine nc ?_
          refine nc_seq ?_
          refine nc ?_
          refine nc ?_
          replace h := Option.some.inj h
          subst h
          exact ret_inA [.int .i64 0] ⟨_, rfl, ⟨rfl, H.frame⟩⟩
/-! cmp.Or(int) -/
noncomputable def cmp_Or_int.b1 (x0 : List Int) (v63 : Int) : Option (Int ⊕ (Unit ⊕ Int)) := cond (decide (v63 < (x0.length : Int))) ((idxL x0 v63).bind fun y95 => cond (y95 != (0 : Int)) (some (.inr (Sum.inr y95))) (some (.inl (IntKind.i64.wrap (v63 + (1 : Int)))))) (some (.inr (Sum.inl ())))
noncomputable def cmp_Or_int.k2 : Option (Int) := some (0 : Int)
noncomputable def cmp_Or_int.f (x0 : List Int) : Option (Int) := (loopM (fun s91 : Int => cmp_Or_int.b1 x0 s91) (0 : Int)).bind (Sum.elim (fun (o89 : Unit) => cmp_Or_int.k2) (fun (o90 : Int) => some o90))
set_option maxHeartbeats 4000000 in
theorem cmp_Or_int_ok {ok : Nat → Prop} {w : World} {u1 : Value} {x0 : List Int} {r : Int} (hu2 : slR (tInt .i64) w ok u1 x0) (h : cmp_Or_int.f x0 = some r) :
    Calls Tryz.prog 147 #[u1] w fun e w' => ∃ v, e = .returned v ∧ (v = .int .i64 r ∧ Bel w.heap.size w w') := by
  have H : Eng.Own ok w w [] := Eng.Own.nil ok w
  obtain ⟨A3, c4, rfl, H⟩ := H.arg rfl hu2
  unfold cmp_Or_int.f at h
  refine enterN (args := [.slice A3 x0.length c4]) Tryz.func147 rfl Tryz.ntmps147 rfl rfl ?_
  refine nc_seq ?_
  refine nc ?_
  refine nc_seq ?_
  refine nc ?_
  refine nc_cut (fun e w53 => cmp_Or_int.k2 = some r ∧ e = [(3, .int .i64 0)] ∧ Eng.Own ok w w53 []) ?_ ?_
  · skip
    refine nc_seq ?_
    refine nc ?_
    refine nc_block ?_
    obtain ⟨o81, hL82, hO83⟩ := bindS h
    obtain ⟨n84, hL82⟩ := loopS hL82
    refine nc ?_
    refine loop_ruleA (fun k e w88 => ∃ (v63 : Int), iterM (fun s91 : Int => cmp_Or_int.b1 x0 s91) k v63 = some o81 ∧ e = [(3, .int .i64 0), (6, .slice A3 x0.length c4), (7, .int .i64 (x0.length : Int)), (8, .int .i64 v63)] ∧ Eng.Own ok w w88 [.dat (dSl (tInt .i64) (.slice A3 x0.length c4) x0)]) ⟨_, hL82, rfl, H.pickL [0] rfl⟩ ?_
    rintro k93 _ w92 ⟨v63, hL82, rfl, H⟩
    obtain ⟨k87, rfl, q85, h, hq86⟩ := iterS hL82
    replace h : cmp_Or_int.b1 x0 v63 = some q85 := h
    unfold cmp_Or_int.b1 at h
    refine nc_seq ?_
    refine nc ?_
    refine nc_seq ?_
    refine nc_cond rfl (fun hc94 => ?_) (fun hc94 => ?_)
    · replace h := condT hc94 h
      refine nc ?_
      refine nc_seq ?_
      refine nc_block ?_
      refine nc_seq ?_
      refine nc ?_
      obtain ⟨y95, hx96, h⟩ := bindS h
      obtain ⟨a97, cs98, rfl, hR99, H⟩ := H.elemI 0 rfl hx96
      obtain rfl : cs98 = [.int .i64 y95] := hR99
      refine idxA_rule (e := 3) 1 _ (by kernel_rfl) (by kernel_rfl) (idxL_some hx96).1 (idxL_some hx96).2.1 ?_
      refine own_loadD H 0 rfl 0 (by kernel_rfl) rfl ?_
      refine nc_seq ?_
      refine nc ?_
      refine nc_cond rfl (fun hc101 => ?_) (fun hc101 => ?_)
      · replace h := condT hc101 h
        refine nc_seq ?_
        refine nc ?_
        refine nc ?_
        cases h
        replace hq86 : (Sum.inr y95) = o81 := hq86
        subst hq86
        have h := hO83
        try dsimp only [Sum.elim_inl, Sum.elim_inr] at h
        replace h := Option.some.inj h
        subst h
        exact ret_inA [.int .i64 y95] ⟨_, rfl, ⟨rfl, H.frame⟩⟩
      · replace h := condF hc101 h
        refine nc ?_
        refine nc ?_
        cases h
        exact again_inA ⟨_, hq86, rfl, H.pickL [1] rfl⟩
    · replace h := condF hc94 h
      refine nc ?_
      cases h
      replace hq86 : (Sum.inl ()) = o81 := hq86
      subst hq86
      have h := hO83
      try dsimp only [Sum.elim_inl, Sum.elim_inr] at h
      exact cut_inA ⟨h, rfl, H.pickL [] rfl⟩
  · rintro _ w102 ⟨h, rfl, H⟩
    unfold cmp_Or_int.k2 at h
    refine nc_seq ?_
    refine nc ?_
    refine nc ?_
    replace h := Option.some.inj h
    subst h
    exact ret_inA [.int .i64 0] ⟨_, rfl, ⟨rfl, H.frame⟩⟩
/-! gemot/place.shorter -/
noncomputable def place_shorter.f (x0 : List UInt8) (x1 : List UInt8) : Option (Int) := (cmp_Compare_int.f (x0.length : Int) (x1.length : Int)).bind fun y1 => (strings_Compare.f x0 x1).bind fun y7 => (cmp_Or_int.f ([y1, y7] : List Int)).bind fun y17 => some y17
set_option maxHeartbeats 4000000 in
theorem place_shorter_ok {ok : Nat → Prop} {w : World} {x0 : List UInt8} {x1 : List UInt8} {r : Int} (h : place_shorter.f x0 x1 = some r) :
    Calls Tryz.prog 111 #[.string (bs x0), .string (bs x1)] w fun e w' => ∃ v, e = .returned v ∧ (v = .int .i64 r ∧ Bel w.heap.size w w') := by
  have H : Eng.Own ok w w [] := Eng.Own.nil ok w
  unfold place_shorter.f at h
  refine enterN (args := [.string (bs x0), .string (bs x1)]) Tryz.func111 rfl Tryz.ntmps111 rfl rfl ?_
  refine nc_seq ?_
  refine nc ?_
  refine nc_seq ?_
  refine nc ?_
  obtain ⟨y1, hy2, h⟩ := bindS h
  refine call_rule (by kernel_rfl) (cmp_Compare_int_ok (ok := fun _ => False) hy2) fun v4 w3 ⟨hv5, hb6⟩ => ?_
  subst hv5
  replace H := H.call hb6
  obtain ⟨y7, hy8, h⟩ := bindS h
  refine call_rule (by kernel_rfl) (strings_Compare_ok hy8) fun v10 w9 ⟨hv11, hb12⟩ => ?_
  subst hv11
  replace H := H.call hb12
  refine own_buildSlice (e := 3) (sz := 1) (z := .int .i64 0) (cs := [.int .i64 y1, .int .i64 y7]) H (by kernel_rfl) (by kernel_rfl) (by kernel_rfl) rfl rfl rfl rfl fun g14 w15 H => ?_
  replace H := H.blkSl (k := (tInt .i64)) [y1, y7] 2 rfl rfl (by decide) ⟨_, _, rfl, rfl, ⟨_, _, rfl, rfl, rfl⟩⟩
  obtain ⟨y17, hy18, h⟩ := bindS h
  refine call_rule (by kernel_rfl) (cmp_Or_int_ok (H.dat 0 rfl) hy18) fun v20 w19 ⟨hv21, hb22⟩ => ?_
  subst hv21
  replace H := H.call hb22
  refine nc ?_
  replace h := Option.some.inj h
  subst h
  exact ret_inA [.int .i64 y17] ⟨_, rfl, ⟨rfl, H.frame⟩⟩
end Go.Proofs.YtfapphlhkfddoaaGreatDoor.G
