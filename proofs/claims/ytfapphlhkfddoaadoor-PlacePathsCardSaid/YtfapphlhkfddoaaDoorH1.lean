/- Walks, printed by a program of this proof's own. -/
import Derived.Test.YtfapphlhkfddoaaDoorCut0
import Derived.KernelRfl
namespace Go.Proofs.YtfapphlhkfddoaaDoor.G
open Go.RowKit Go.Eng Go.Proofs
set_option linter.unusedVariables false
set_option maxRecDepth 20000
/-! internal/stringslite.HasPrefix -/
noncomputable def internal_stringslite_HasPrefix.k1 (v4 : Bool) : Option (Bool) := some v4
noncomputable def internal_stringslite_HasPrefix.f (x0 : List UInt8) (x1 : List UInt8) : Option (Bool) := cond (decide ((x0.length : Int) ≥ (x1.length : Int))) ((slcM x0 (0 : Int) (x1.length : Int)).bind fun y8 => internal_stringslite_HasPrefix.k1 (cond (decide ((x0.length : Int) ≥ (x1.length : Int))) (strEq y8 x1) false)) (internal_stringslite_HasPrefix.k1 (cond (decide ((x0.length : Int) ≥ (x1.length : Int))) (strEq ([] : List UInt8) x1) false))
set_option maxHeartbeats 4000000 in
theorem internal_stringslite_HasPrefix_ok {ok : Nat → Prop} {w : World} {x0 : List UInt8} {x1 : List UInt8} {r : Bool} (h : internal_stringslite_HasPrefix.f x0 x1 = some r) :
    Calls Tryd.prog 75 #[.string (bs x0), .string (bs x1)] w fun e w' => ∃ v, e = .returned v ∧ (v = .bool r ∧ Bel w.heap.size w w') := by
  have H : Eng.Own ok w w [] := Eng.Own.nil ok w
  unfold internal_stringslite_HasPrefix.f at h
  refine enterN (args := [.string (bs x0), .string (bs x1)]) Tryd.func75 rfl Tryd.ntmps75 rfl rfl ?_
  refine nc_seq ?_
  refine nc ?_
  refine nc_cut (fun e w5 => ∃ (v4 : Bool), internal_stringslite_HasPrefix.k1 v4 = some r ∧ e = [(4, .bool v4)] ∧ Eng.Own ok w w5 []) ?_ ?_
  · skip
    refine nc ?_
    rcases Bool.eq_false_or_eq_true (decide ((x0.length : Int) ≥ (x1.length : Int))) with hg7 | hg7
    · replace h := condT hg7 h
      obtain ⟨y8, hx9, h⟩ := bindS h
      refine txtI_rule (0 : Int) (x1.length : Int) (by kernel_rfl) rfl ⟨_, rfl⟩ hx9 ?_
      exact cut_inA ⟨_, h, rfl, H.pickL [] rfl⟩
    · replace h := condF hg7 h
      refine skipSL (.string (bs ([] : List UInt8))) (gF1 hg7) ?_
      exact cut_inA ⟨_, h, rfl, H.pickL [] rfl⟩
  · rintro _ w10 ⟨v4, h, rfl, H⟩
    unfold internal_stringslite_HasPrefix.k1 at h
    refine nc ?_
    replace h := Option.some.inj h
    subst h
    exact ret_inA [.bool v4] ⟨_, rfl, ⟨rfl, H.frame⟩⟩
/-! strings.HasPrefix -/
noncomputable def strings_HasPrefix.f (x0 : List UInt8) (x1 : List UInt8) : Option (Bool) := (internal_stringslite_HasPrefix.f x0 x1).bind fun y1 => some y1
set_option maxHeartbeats 4000000 in
theorem strings_HasPrefix_ok {ok : Nat → Prop} {w : World} {x0 : List UInt8} {x1 : List UInt8} {r : Bool} (h : strings_HasPrefix.f x0 x1 = some r) :
    Calls Tryd.prog 58 #[.string (bs x0), .string (bs x1)] w fun e w' => ∃ v, e = .returned v ∧ (v = .bool r ∧ Bel w.heap.size w w') := by
  have H : Eng.Own ok w w [] := Eng.Own.nil ok w
  unfold strings_HasPrefix.f at h
  refine enterN (args := [.string (bs x0), .string (bs x1)]) Tryd.func58 rfl Tryd.ntmps58 rfl rfl ?_
  refine nc_seq ?_
  refine nc ?_
  refine nc_seq ?_
  refine nc ?_
  obtain ⟨y1, hy2, h⟩ := bindS h
  refine call_rule (by kernel_rfl) (internal_stringslite_HasPrefix_ok (ok := fun _ => False) hy2) fun v4 w3 ⟨hv5, hb6⟩ => ?_
  subst hv5
  replace H := H.call hb6
  refine nc ?_
  replace h := Option.some.inj h
  subst h
  exact ret_inA [.bool y1] ⟨_, rfl, ⟨rfl, H.frame⟩⟩
/-! gemot/view.Row -/
noncomputable def view_Row.b1 (x0 : List Int) (v67 : Int) (v68 : Int) : Option ((Int × Int) ⊕ (Int ⊕ Bool)) := cond (decide (v68 < (x0.length : Int))) ((idxL x0 v68).bind fun y102 => cond (cond (decide (y102 ≤ v67)) true (decide (y102 > (8 : Int)))) (some (.inr (Sum.inr false))) (some (.inl (y102, (IntKind.i64.wrap (v68 + (1 : Int))))))) (some (.inr (Sum.inl v67)))
noncomputable def view_Row.k2 (v56 : Int) : Option (Bool) := some (decide (v56 > (0 : Int)))
noncomputable def view_Row.f (x0 : List Int) : Option (Bool) := (loopM (fun s98 : Int × Int => view_Row.b1 x0 s98.1 s98.2) ((0 : Int), (0 : Int))).bind (Sum.elim (fun (o96 : Int) => view_Row.k2 o96) (fun (o97 : Bool) => some o97))
set_option maxHeartbeats 4000000 in
theorem view_Row_ok {ok : Nat → Prop} {w : World} {u1 : Value} {x0 : List Int} {r : Bool} (hu2 : slR (tInt .i64) w ok u1 x0) (h : view_Row.f x0 = some r) :
    Calls Tryd.prog 42 #[u1] w fun e w' => ∃ v, e = .returned v ∧ (v = .bool r ∧ Bel w.heap.size w w') := by
  have H : Eng.Own ok w w [] := Eng.Own.nil ok w
  obtain ⟨A3, c4, rfl, H⟩ := H.arg rfl hu2
  unfold view_Row.f at h
  refine enterN (args := [.slice A3 x0.length c4]) Tryd.func42 rfl Tryd.ntmps42 rfl rfl ?_
  refine nc_seq ?_
  refine nc ?_
  refine nc_seq ?_
  refine nc ?_
  refine nc_cut (fun e w57 => ∃ (v56 : Int), view_Row.k2 v56 = some r ∧ e = [(3, .int .i64 v56)] ∧ Eng.Own ok w w57 []) ?_ ?_
  · skip
    refine nc_seq ?_
    refine nc ?_
    refine nc_block ?_
    obtain ⟨o88, hL89, hO90⟩ := bindS h
    obtain ⟨n91, hL89⟩ := loopS hL89
    refine nc ?_
    refine loop_ruleA (fun k e w95 => ∃ (v67 : Int) (v68 : Int), iterM (fun s98 : Int × Int => view_Row.b1 x0 s98.1 s98.2) k (v67, v68) = some o88 ∧ e = [(3, .int .i64 v67), (6, .slice A3 x0.length c4), (7, .int .i64 (x0.length : Int)), (8, .int .i64 v68)] ∧ Eng.Own ok w w95 [.dat (dSl (tInt .i64) (.slice A3 x0.length c4) x0)]) ⟨_, _, hL89, rfl, H.pickL [0] rfl⟩ ?_
    rintro k100 _ w99 ⟨v67, v68, hL89, rfl, H⟩
    obtain ⟨k94, rfl, q92, h, hq93⟩ := iterS hL89
    replace h : view_Row.b1 x0 v67 v68 = some q92 := h
    unfold view_Row.b1 at h
    refine nc_seq ?_
    refine nc ?_
    refine nc_seq ?_
    refine nc_cond rfl (fun hc101 => ?_) (fun hc101 => ?_)
    · replace h := condT hc101 h
      refine nc ?_
      refine nc_seq ?_
      refine nc_block ?_
      refine nc_seq ?_
      refine nc ?_
      obtain ⟨y102, hx103, h⟩ := bindS h
      obtain ⟨a104, cs105, rfl, hR106, H⟩ := H.elemI 0 rfl hx103
      obtain rfl : cs105 = [.int .i64 y102] := hR106
      refine idxA_rule (e := 3) 1 _ (by kernel_rfl) (by kernel_rfl) (idxL_some hx103).1 (idxL_some hx103).2.1 ?_
      refine own_loadD H 0 rfl 0 (by kernel_rfl) rfl ?_
      refine nc_seq ?_
      refine nc_seq ?_
      refine nc ?_
      refine nc_cond rfl (fun hc108 => ?_) (fun hc108 => ?_)
      · replace h := condT hc108 h
        refine nc_seq ?_
        refine nc ?_
        refine nc ?_
        cases h
        replace hq93 : (Sum.inr false) = o88 := hq93
        subst hq93
        have h := hO90
        try dsimp only [Sum.elim_inl, Sum.elim_inr] at h
        replace h := Option.some.inj h
        subst h
        exact ret_inA [.bool false] ⟨_, rfl, ⟨rfl, H.frame⟩⟩
      · replace h := condF hc108 h
        refine nc ?_
        refine nc ?_
        refine nc ?_
        cases h
        exact again_inA ⟨_, _, hq93, rfl, H.pickL [1] rfl⟩
    · replace h := condF hc101 h
      refine nc ?_
      cases h
      replace hq93 : (Sum.inl v67) = o88 := hq93
      subst hq93
      have h := hO90
      try dsimp only [Sum.elim_inl, Sum.elim_inr] at h
      exact cut_inA ⟨_, h, rfl, H.pickL [] rfl⟩
  · rintro _ w109 ⟨v56, h, rfl, H⟩
    unfold view_Row.k2 at h
    refine nc_seq ?_
    refine nc ?_
    refine nc ?_
    replace h := Option.some.inj h
    subst h
    exact ret_inA [.bool (decide (v56 > (0 : Int)))] ⟨_, rfl, ⟨rfl, H.frame⟩⟩
/-! slices.Index(()int,int) -/
noncomputable def slices_Index_int_int.b1 (x0 : List Int) (x1 : Int) (v63 : Int) : Option (Int ⊕ (Unit ⊕ Int)) := cond (decide (v63 < (x0.length : Int))) ((idxL x0 v63).bind fun y95 => cond (x1 == y95) (some (.inr (Sum.inr v63))) (some (.inl (IntKind.i64.wrap (v63 + (1 : Int)))))) (some (.inr (Sum.inl ())))
noncomputable def slices_Index_int_int.k2 : Option (Int) := some (-1)
noncomputable def slices_Index_int_int.f (x0 : List Int) (x1 : Int) : Option (Int) := (loopM (fun s91 : Int => slices_Index_int_int.b1 x0 x1 s91) (0 : Int)).bind (Sum.elim (fun (o89 : Unit) => slices_Index_int_int.k2) (fun (o90 : Int) => some o90))
set_option maxHeartbeats 4000000 in
theorem slices_Index_int_int_ok {ok : Nat → Prop} {w : World} {u1 : Value} {x0 : List Int} {x1 : Int} {r : Int} (hu2 : slR (tInt .i64) w ok u1 x0) (h : slices_Index_int_int.f x0 x1 = some r) :
    Calls Tryd.prog 73 #[u1, .int .i64 x1] w fun e w' => ∃ v, e = .returned v ∧ (v = .int .i64 r ∧ Bel w.heap.size w w') := by
  have H : Eng.Own ok w w [] := Eng.Own.nil ok w
  obtain ⟨A3, c4, rfl, H⟩ := H.arg rfl hu2
  unfold slices_Index_int_int.f at h
  refine enterN (args := [.slice A3 x0.length c4, .int .i64 x1]) Tryd.func73 rfl Tryd.ntmps73 rfl rfl ?_
  refine nc_seq ?_
  refine nc ?_
  refine nc_cut (fun e w53 => slices_Index_int_int.k2 = some r ∧ e = [] ∧ Eng.Own ok w w53 []) ?_ ?_
  · skip
    refine nc_seq ?_
    refine nc ?_
    refine nc_block ?_
    obtain ⟨o81, hL82, hO83⟩ := bindS h
    obtain ⟨n84, hL82⟩ := loopS hL82
    refine nc ?_
    refine loop_ruleA (fun k e w88 => ∃ (v63 : Int), iterM (fun s91 : Int => slices_Index_int_int.b1 x0 x1 s91) k v63 = some o81 ∧ e = [(0, .slice A3 x0.length c4), (1, .int .i64 x1), (7, .int .i64 (x0.length : Int)), (8, .int .i64 v63)] ∧ Eng.Own ok w w88 [.dat (dSl (tInt .i64) (.slice A3 x0.length c4) x0)]) ⟨_, hL82, rfl, H.pickL [0] rfl⟩ ?_
    rintro k93 _ w92 ⟨v63, hL82, rfl, H⟩
    obtain ⟨k87, rfl, q85, h, hq86⟩ := iterS hL82
    replace h : slices_Index_int_int.b1 x0 x1 v63 = some q85 := h
    unfold slices_Index_int_int.b1 at h
    refine nc_seq ?_
    refine nc ?_
    refine nc_seq ?_
    refine nc_cond rfl (fun hc94 => ?_) (fun hc94 => ?_)
    · replace h := condT hc94 h
      refine nc ?_
      refine nc_seq ?_
      refine nc_block ?_
      refine nc_seq ?_
      refine nc ?_
      refine nc_seq ?_
      refine nc ?_
      obtain ⟨y95, hx96, h⟩ := bindS h
      obtain ⟨a97, cs98, rfl, hR99, H⟩ := H.elemI 0 rfl hx96
      obtain rfl : cs98 = [.int .i64 y95] := hR99
      refine idxA_rule (e := 3) 1 _ (by kernel_rfl) (by kernel_rfl) (idxL_some hx96).1 (idxL_some hx96).2.1 ?_
      refine own_loadD H 0 rfl 0 (by kernel_rfl) rfl ?_
      refine nc_cond rfl (fun hc101 => ?_) (fun hc101 => ?_)
      · replace h := condT hc101 h
        refine nc_seq ?_
        refine nc ?_
        refine nc ?_
        cases h
        replace hq86 : (Sum.inr v63) = o81 := hq86
        subst hq86
        have h := hO83
        try dsimp only [Sum.elim_inl, Sum.elim_inr] at h
        replace h := Option.some.inj h
        subst h
        exact ret_inA [.int .i64 v63] ⟨_, rfl, ⟨rfl, H.frame⟩⟩
      · replace h := condF hc101 h
        refine nc ?_
        refine nc ?_
        cases h
        exact again_inA ⟨_, hq86, rfl, H.pickL [1] rfl⟩
    · replace h := condF hc94 h
      refine nc ?_
      cases h
      replace hq86 : (Sum.inl ()) = o81 := hq86
      subst hq86
      have h := hO83
      try dsimp only [Sum.elim_inl, Sum.elim_inr] at h
      exact cut_inA ⟨h, rfl, H.pickL [] rfl⟩
  · rintro _ w102 ⟨h, rfl, H⟩
    unfold slices_Index_int_int.k2 at h
    refine nc_seq ?_
    refine nc ?_
    refine nc ?_
    replace h := Option.some.inj h
    subst h
    exact ret_inA [.int .i64 (-1)] ⟨_, rfl, ⟨rfl, H.frame⟩⟩
/-! slices.Contains(()int,int) -/
noncomputable def slices_Contains_int_int.f (x0 : List Int) (x1 : Int) : Option (Bool) := (slices_Index_int_int.f x0 x1).bind fun y6 => some (decide (y6 ≥ (0 : Int)))
set_option maxHeartbeats 4000000 in
theorem slices_Contains_int_int_ok {ok : Nat → Prop} {w : World} {u1 : Value} {x0 : List Int} {x1 : Int} {r : Bool} (hu2 : slR (tInt .i64) w ok u1 x0) (h : slices_Contains_int_int.f x0 x1 = some r) :
    Calls Tryd.prog 53 #[u1, .int .i64 x1] w fun e w' => ∃ v, e = .returned v ∧ (v = .bool r ∧ Bel w.heap.size w w') := by
  have H : Eng.Own ok w w [] := Eng.Own.nil ok w
  obtain ⟨A3, c4, rfl, H⟩ := H.arg rfl hu2
  unfold slices_Contains_int_int.f at h
  refine enterN (args := [.slice A3 x0.length c4, .int .i64 x1]) Tryd.func53 rfl Tryd.ntmps53 rfl rfl ?_
  refine nc_seq ?_
  refine nc ?_
  refine nc_seq ?_
  refine nc ?_
  obtain ⟨y6, hy7, h⟩ := bindS h
  refine call_rule (by kernel_rfl) (slices_Index_int_int_ok (H.dat 0 rfl) hy7) fun v9 w8 ⟨hv10, hb11⟩ => ?_
  subst hv10
  replace H := H.call hb11
  refine nc ?_
  replace h := Option.some.inj h
  subst h
  exact ret_inA [.bool (decide (y6 ≥ (0 : Int)))] ⟨_, rfl, ⟨rfl, H.frame⟩⟩
/-! gemot/view.Has -/
noncomputable def view_Has.f (x0 : List Int) (x1 : Int) : Option (Bool) := (slices_Contains_int_int.f x0 x1).bind fun y6 => some y6
set_option maxHeartbeats 4000000 in
theorem view_Has_ok {ok : Nat → Prop} {w : World} {u1 : Value} {x0 : List Int} {x1 : Int} {r : Bool} (hu2 : slR (tInt .i64) w ok u1 x0) (h : view_Has.f x0 x1 = some r) :
    Calls Tryd.prog 32 #[u1, .int .i64 x1] w fun e w' => ∃ v, e = .returned v ∧ (v = .bool r ∧ Bel w.heap.size w w') := by
  have H : Eng.Own ok w w [] := Eng.Own.nil ok w
  obtain ⟨A3, c4, rfl, H⟩ := H.arg rfl hu2
  unfold view_Has.f at h
  refine enterN (args := [.slice A3 x0.length c4, .int .i64 x1]) Tryd.func32 rfl Tryd.ntmps32 rfl rfl ?_
  refine nc_seq ?_
  refine nc ?_
  refine nc_seq ?_
  refine nc ?_
  obtain ⟨y6, hy7, h⟩ := bindS h
  refine call_rule (by kernel_rfl) (slices_Contains_int_int_ok (H.dat 0 rfl) hy7) fun v9 w8 ⟨hv10, hb11⟩ => ?_
  subst hv10
  replace H := H.call hb11
  refine nc ?_
  replace h := Option.some.inj h
  subst h
  exact ret_inA [.bool y6] ⟨_, rfl, ⟨rfl, H.frame⟩⟩
end Go.Proofs.YtfapphlhkfddoaaDoor.G
