/- Walks, printed by a program of this proof's own. -/
import Derived.Test.YtgomlcfoifkdiaaGreatHS
import Derived.Test.YtgomlcfoifkdiaaGreatListPut15
import Derived.KernelRfl
namespace Go.Proofs.YtgomlcfoifkdiaaGreat.G
open Go.RowKit Go.Eng Go.Proofs
set_option linter.unusedVariables false
set_option maxRecDepth 20000
/-! gemot/gemotref1.eight -/
noncomputable def gemotref1_eight.b1 (x0 : Int) (v108 : List Int) (v112 : Int) : Option (((List Int) × Int) ⊕ (List Int)) := cond (decide (v112 < (8 : Int))) ((shrM .u64 x0 (IntKind.i64.wrap ((8 : Int) * v112))).bind fun _ => (some (IntKind.i64.wrap ((7 : Int) - v112))).bind fun j165 => (idxL v108 j165).bind fun y167 => some (.inl ((v108.set (j165).toNat (IntKind.u8.wrap (x0.fdiv (2 ^ min ((IntKind.i64.wrap ((8 : Int) * v112))).toNat IntKind.u64.bits)))), (IntKind.i64.wrap (v112 + (1 : Int)))))) (some (.inr v108))
noncomputable def gemotref1_eight.k2 (v88 : List Int) : Option ((List UInt8)) := (strM v88).bind fun y176 => some y176
noncomputable def gemotref1_eight.f (x0 : Int) : Option ((List UInt8)) := (loopM (fun s159 : (List Int) × Int => gemotref1_eight.b1 x0 s159.1 s159.2) ((List.replicate 8 (0 : Int)), (0 : Int))).bind (fun (o158 : (List Int)) => gemotref1_eight.k2 o158)
set_option maxHeartbeats 4000000 in
theorem gemotref1_eight_ok {ok : Nat → Prop} {w : World} {x0 : Int} {r : (List UInt8)} (h : gemotref1_eight.f x0 = some r) :
    Calls Tryz.prog 118 #[.int .u64 x0] w fun e w' => ∃ v, e = .returned v ∧ (v = .string (bs r) ∧ Bel w.heap.size w w') := by
  have H : Eng.Own ok w w [] := Eng.Own.nil ok w
  unfold gemotref1_eight.f at h
  refine enterN (args := [.int .u64 x0]) Tryz.func118 rfl Tryz.ntmps118 rfl rfl ?_
  refine nc_seq ?_
  refine nc ?_
  refine nc_seq ?_
  refine nc ?_
  refine own_makeSlice (e := 5) (k := (tInt .u8)) (z := .int .u8 0) (0 : Int) 8 1 H (by kernel_rfl) (by kernel_rfl) rfl (fun _ _ => rfl) (by decide) (by decide) fun A1 c2 cs3 w4 H => ?_
  refine nc_cut (fun e w92 => ∃ (A89 : Option Addr) (c90 : Nat) (cs91 : List Value) (v88 : List Int), gemotref1_eight.k2 v88 = some r ∧ e = [(3, .slice A89 v88.length c90)] ∧ Eng.Own ok w w92 [.dat (dRows (tInt .u8) v88 cs91), .row (.slice A89 v88.length c90) 5 1 v88.length cs91]) ?_ ?_
  · skip
    refine nc_seq ?_
    refine nc ?_
    refine nc_block ?_
    obtain ⟨o150, hL151, hO152⟩ := bindS h
    obtain ⟨n153, hL151⟩ := loopS hL151
    refine nc ?_
    refine loop_ruleA (fun k e w157 => ∃ (A109 : Option Addr) (c110 : Nat) (cs111 : List Value) (v108 : List Int) (v112 : Int), iterM (fun s159 : (List Int) × Int => gemotref1_eight.b1 x0 s159.1 s159.2) k (v108, v112) = some o150 ∧ e = [(0, .int .u64 x0), (3, .slice A109 v108.length c110), (4, .int .i64 v112)] ∧ Eng.Own ok w w157 [.dat (dRows (tInt .u8) v108 cs111), .row (.slice A109 v108.length c110) 5 1 v108.length cs111]) ⟨A1, c2, cs3, _, _, hL151, rfl, H.pickL [0, 1] rfl⟩ ?_
    rintro k161 _ w160 ⟨A109, c110, cs111, v108, v112, hL151, rfl, H⟩
    obtain ⟨k156, rfl, q154, h, hq155⟩ := iterS hL151
    replace h : gemotref1_eight.b1 x0 v108 v112 = some q154 := h
    unfold gemotref1_eight.b1 at h
    refine nc_seq ?_
    refine nc_seq ?_
    refine nc ?_
    refine nc_cond rfl (fun hc162 => ?_) (fun hc162 => ?_)
    · replace h := condT hc162 h
      refine nc ?_
      refine nc_seq ?_
      refine nc_block ?_
      refine nc ?_
      obtain ⟨y163, hy164, h⟩ := bindS h
      obtain ⟨hy164b, rfl⟩ := shrS hy164
      refine shr_rule (fun _ => hy164b) ?_
      obtain ⟨j165, hJ166, h⟩ := bindS h
      obtain ⟨y167, hx168, h⟩ := bindS h
      obtain ⟨a169, _, rfl, _, _⟩ := H.rowElem (k := (tInt .u8)) 1 0 rfl rfl rfl hx168
      refine idxA_ruleJ (e := 5) 1 _ j165 hJ166 (by kernel_rfl) (by kernel_rfl) (idxL_some hx168).1 (idxL_some hx168).2.1 ?_
      refine own_rowStore (k := (tInt .u8)) (m := 1) (IntKind.u8.wrap (x0.fdiv (2 ^ min ((IntKind.i64.wrap ((8 : Int) * v112))).toNat IntKind.u64.bits))) H 1 0 rfl rfl j165 0 rfl hx168 (by kernel_rfl) [.int .u8 (IntKind.u8.wrap (x0.fdiv (2 ^ min ((IntKind.i64.wrap ((8 : Int) * v112))).toNat IntKind.u64.bits)))] rfl rfl rfl rfl (fun cs hR => (show cs = [.int .u8 y167] → ((tInt .u8)).R _ _ (IntKind.u8.wrap (x0.fdiv (2 ^ min ((IntKind.i64.wrap ((8 : Int) * v112))).toNat IntKind.u64.bits))) (setRange cs 0 [.int .u8 (IntKind.u8.wrap (x0.fdiv (2 ^ min ((IntKind.i64.wrap ((8 : Int) * v112))).toNat IntKind.u64.bits)))]) from fun h => by subst h; exact rfl) (by exact hR)) fun cs171 w170 H => ?_
      have hx172 := idxL_set hx168 (IntKind.u8.wrap (x0.fdiv (2 ^ min ((IntKind.i64.wrap ((8 : Int) * v112))).toNat IntKind.u64.bits)))
      rw [show v108.length = (v108.set (j165).toNat (IntKind.u8.wrap (x0.fdiv (2 ^ min ((IntKind.i64.wrap ((8 : Int) * v112))).toNat IntKind.u64.bits)))).length from by simp only [List.length_set]] at H ⊢
      refine nc ?_
      cases h
      exact again_inA ⟨some a169, c110, cs171, _, _, hq155, rfl, H.pickL [0, 1] rfl⟩
    · replace h := condF hc162 h
      refine nc ?_
      cases h
      replace hq155 : v108 = o150 := hq155
      subst hq155
      have h := hO152
      try dsimp only [Sum.elim_inl, Sum.elim_inr] at h
      exact cut_inA ⟨A109, c110, cs111, _, h, rfl, H.pickL [0, 1] rfl⟩
  · rintro _ w175 ⟨A89, c90, cs91, v88, h, rfl, H⟩
    unfold gemotref1_eight.k2 at h
    refine nc_seq ?_
    refine nc ?_
    obtain ⟨y176, hy177, h⟩ := bindS h
    refine own_strM H 1 0 rfl rfl rfl hy177 (by kernel_rfl) (by kernel_rfl) ?_
    refine nc ?_
    replace h := Option.some.inj h
    subst h
    exact ret_inA [.string (bs y176)] ⟨_, rfl, ⟨rfl, H.frame⟩⟩
/-! gemot/gemotref1.Number -/
noncomputable def gemotref1_Number.f (x0 : Int) : Option ((List UInt8)) := (gemotref1_eight.f x0).bind fun y1 => roomM 1 ([117].length + y1.length) (some ([117] ++ y1))
set_option maxHeartbeats 4000000 in
theorem gemotref1_Number_ok {ok : Nat → Prop} {w : World} {x0 : Int} {r : (List UInt8)} (h : gemotref1_Number.f x0 = some r) :
    Calls Tryz.prog 91 #[.int .u64 x0] w fun e w' => ∃ v, e = .returned v ∧ (v = .string (bs r) ∧ Bel w.heap.size w w') := by
  have H : Eng.Own ok w w [] := Eng.Own.nil ok w
  unfold gemotref1_Number.f at h
  refine enterN (args := [.int .u64 x0]) Tryz.func91 rfl Tryz.ntmps91 rfl rfl ?_
  refine nc_seq ?_
  refine nc ?_
  refine nc_seq ?_
  refine nc ?_
  obtain ⟨y1, hy2, h⟩ := bindS h
  refine call_rule (by kernel_rfl) (gemotref1_eight_ok (ok := fun _ => False) hy2) fun v4 w3 ⟨hv5, hb6⟩ => ?_
  subst hv5
  replace H := H.call hb6
  obtain ⟨hr7, h⟩ := roomS h
  refine catM_rule hr7 ?_
  refine nc ?_
  replace h := Option.some.inj h
  subst h
  exact ret_inA [.string (bs ([117] ++ y1))] ⟨_, rfl, ⟨rfl, H.frame⟩⟩
/-! gemot/gemotref1.leaf -/
noncomputable def gemotref1_leaf.k1 (x0 : List UInt8) (v47 : Int) : Option (Int) := cond (decide (v47 > (x0.length : Int))) (some (-1)) (some v47)
noncomputable def gemotref1_leaf.k2 (x0 : List UInt8) (v67 : Bool) : Option (Int) := cond v67 (gemotref1_leaf.k1 x0 (-1)) (gemotref1_leaf.k1 x0 (2 : Int))
noncomputable def gemotref1_leaf.k3 (x0 : List UInt8) (v85 : Int) : Option (Int) := cond (decide (v85 > (103 : Int))) (gemotref1_leaf.k1 x0 (-1)) (gemotref1_leaf.k1 x0 v85)
noncomputable def gemotref1_leaf.k4 (x0 : List UInt8) (y50 : Int) (v53 : Bool) : Option (Int) := cond v53 (gemotref1_leaf.k1 x0 (9 : Int)) (cond (y50 == (103 : Int)) (gemotref1_leaf.k1 x0 (1 : Int)) (cond (y50 == (105 : Int)) (cond (decide ((x0.length : Int) > (1 : Int))) ((idxS x0 (1 : Int)).bind fun y71 => cond (decide (y71 < (1 : Int))) (gemotref1_leaf.k2 x0 (cond (decide ((x0.length : Int) > (1 : Int))) (cond (decide (y71 < (1 : Int))) true (decide ((0 : Int) > (8 : Int)))) false)) ((idxS x0 (1 : Int)).bind fun y74 => gemotref1_leaf.k2 x0 (cond (decide ((x0.length : Int) > (1 : Int))) (cond (decide (y71 < (1 : Int))) true (decide (y74 > (8 : Int)))) false))) (gemotref1_leaf.k2 x0 (cond (decide ((x0.length : Int) > (1 : Int))) (cond (decide ((0 : Int) < (1 : Int))) true (decide ((0 : Int) > (8 : Int)))) false))) (cond (y50 == (116 : Int)) (cond (decide ((x0.length : Int) ≥ (3 : Int))) ((idxS x0 (1 : Int)).bind fun y89 => (idxS x0 (2 : Int)).bind fun y91 => gemotref1_leaf.k3 x0 (IntKind.i64.wrap ((IntKind.i64.wrap ((3 : Int) + (IntKind.i64.wrap ((256 : Int) * (IntKind.i64.wrap y89))))) + (IntKind.i64.wrap y91)))) (gemotref1_leaf.k3 x0 (-1))) (gemotref1_leaf.k1 x0 (-1)))))
noncomputable def gemotref1_leaf.f (x0 : List UInt8) : Option (Int) := (idxS x0 (0 : Int)).bind fun y50 => cond (y50 == (110 : Int)) (gemotref1_leaf.k4 x0 y50 (y50 == (110 : Int))) (gemotref1_leaf.k4 x0 y50 (y50 == (117 : Int)))
set_option maxHeartbeats 4000000 in
theorem gemotref1_leaf_ok {ok : Nat → Prop} {w : World} {x0 : List UInt8} {r : Int} (h : gemotref1_leaf.f x0 = some r) :
    Calls Tryz.prog 110 #[.string (bs x0)] w fun e w' => ∃ v, e = .returned v ∧ (v = .int .i64 r ∧ Bel w.heap.size w w') := by
  have H : Eng.Own ok w w [] := Eng.Own.nil ok w
  unfold gemotref1_leaf.f at h
  refine enterN (args := [.string (bs x0)]) Tryz.func110 rfl Tryz.ntmps110 rfl rfl ?_
  refine nc_seq ?_
  refine nc ?_
  refine nc_seq ?_
  refine nc ?_
  refine nc_cut (fun e w48 => ∃ (v47 : Int), gemotref1_leaf.k1 x0 v47 = some r ∧ e = [(0, .string (bs x0)), (3, .int .i64 v47)] ∧ Eng.Own ok w w48 []) ?_ ?_
  · skip
    refine nc_seq ?_
    refine nc ?_
    obtain ⟨y50, hx51, h⟩ := bindS h
    refine idxS_rule (by kernel_rfl) hx51 ?_
    refine nc_block ?_
    refine nc_cut (fun e w54 => ∃ (v53 : Bool), gemotref1_leaf.k4 x0 y50 v53 = some r ∧ e = [(0, .string (bs x0)), (3, .int .i64 (-1)), (5, .int .u8 y50), (6, .bool v53)] ∧ Eng.Own ok w w54 []) ?_ ?_
    · skip
      refine nc_seq ?_
      refine nc ?_
      refine nc_cond rfl (fun hc56 => ?_) (fun hc56 => ?_)
      · replace h := condT hc56 h
        refine nc ?_
        exact cut_inA ⟨_, h, rfl, H.pickL [] rfl⟩
      · replace h := condF hc56 h
        refine nc ?_
        exact cut_inA ⟨_, h, rfl, H.pickL [] rfl⟩
    · rintro _ w57 ⟨v53, h, rfl, H⟩
      unfold gemotref1_leaf.k4 at h
      refine nc_cond rfl (fun hc58 => ?_) (fun hc58 => ?_)
      · replace h := condT hc58 h
        refine nc ?_
        exact cut_inA ⟨_, h, rfl, H.pickL [] rfl⟩
      · replace h := condF hc58 h
        refine nc_seq ?_
        refine nc ?_
        refine nc_cond rfl (fun hc59 => ?_) (fun hc59 => ?_)
        · replace h := condT hc59 h
          refine nc ?_
          exact cut_inA ⟨_, h, rfl, H.pickL [] rfl⟩
        · replace h := condF hc59 h
          refine nc_seq ?_
          refine nc ?_
          refine nc_cond rfl (fun hc60 => ?_) (fun hc60 => ?_)
          · replace h := condT hc60 h
            refine nc_seq ?_
            refine nc ?_
            refine nc_cut (fun e w68 => ∃ (v67 : Bool), gemotref1_leaf.k2 x0 v67 = some r ∧ e = [(0, .string (bs x0)), (3, .int .i64 2), (25, .bool v67)] ∧ Eng.Own ok w w68 []) ?_ ?_
            · skip
              refine nc ?_
              rcases Bool.eq_false_or_eq_true (decide ((x0.length : Int) > (1 : Int))) with hg70 | hg70
              · replace h := condT hg70 h
                obtain ⟨y71, hx72, h⟩ := bindS h
                refine idxS_rule (by kernel_rfl) hx72 ?_
                rcases Bool.eq_false_or_eq_true (decide (y71 < (1 : Int))) with hg73 | hg73
                · replace h := condT hg73 h
                  refine skipIX (.int .u8 0) (gF0 hg73) ?_
                  exact cut_inA ⟨_, h, rfl, H.pickL [] rfl⟩
                · replace h := condF hg73 h
                  obtain ⟨y74, hx75, h⟩ := bindS h
                  refine idxS_rule (by kernel_rfl) hx75 ?_
                  exact cut_inA ⟨_, h, rfl, H.pickL [] rfl⟩
              · replace h := condF hg70 h
                refine skipIX (.int .u8 0) (gF1 hg70) ?_
                refine skipIX (.int .u8 0) (by first | exact gFr (gF1 hg70) | exact (gF1 hg70) | rfl) ?_
                exact cut_inA ⟨_, h, rfl, H.pickL [] rfl⟩
            · rintro _ w76 ⟨v67, h, rfl, H⟩
              unfold gemotref1_leaf.k2 at h
              refine nc_cond rfl (fun hc77 => ?_) (fun hc77 => ?_)
              · replace h := condT hc77 h
                refine nc ?_
                exact cut_inA ⟨_, h, rfl, H.pickL [] rfl⟩
              · replace h := condF hc77 h
                refine nc ?_
                exact cut_inA ⟨_, h, rfl, H.pickL [] rfl⟩
          · replace h := condF hc60 h
            refine nc_seq ?_
            refine nc ?_
            refine nc_cond rfl (fun hc78 => ?_) (fun hc78 => ?_)
            · replace h := condT hc78 h
              refine nc_cut (fun e w86 => ∃ (v85 : Int), gemotref1_leaf.k3 x0 v85 = some r ∧ e = [(0, .string (bs x0)), (3, .int .i64 v85)] ∧ Eng.Own ok w w86 []) ?_ ?_
              · skip
                refine nc_seq ?_
                refine nc ?_
                refine nc_cond rfl (fun hc88 => ?_) (fun hc88 => ?_)
                · replace h := condT hc88 h
                  obtain ⟨y89, hx90, h⟩ := bindS h
                  obtain ⟨y91, hx92, h⟩ := bindS h
                  refine nc ?_
                  refine draw_rule [] (by kernel_rfl) (by kernel_rfl) H ?_
                  refine c_idxS (by kernel_rfl) hx90 ?_
                  refine c_idxS (by kernel_rfl) hx92 ?_
                  intro w93 H
                  exact cut_inA ⟨_, h, rfl, H.pickL [] rfl⟩
                · replace h := condF hc88 h
                  refine nc ?_
                  exact cut_inA ⟨_, h, rfl, H.pickL [] rfl⟩
              · rintro _ w94 ⟨v85, h, rfl, H⟩
                unfold gemotref1_leaf.k3 at h
                refine nc_seq ?_
                refine nc ?_
                refine nc_cond rfl (fun hc95 => ?_) (fun hc95 => ?_)
                · replace h := condT hc95 h
                  refine nc ?_
                  exact cut_inA ⟨_, h, rfl, H.pickL [] rfl⟩
                · replace h := condF hc95 h
                  refine nc ?_
                  exact cut_inA ⟨_, h, rfl, H.pickL [] rfl⟩
            · replace h := condF hc78 h
              refine nc ?_
              exact cut_inA ⟨_, h, rfl, H.pickL [] rfl⟩
  · rintro _ w96 ⟨v47, h, rfl, H⟩
    unfold gemotref1_leaf.k1 at h
    refine nc_seq ?_
    refine nc_seq ?_
    refine nc ?_
    refine nc_cond rfl (fun hc97 => ?_) (fun hc97 => ?_)
    · replace h := condT hc97 h
      refine nc_seq ?_
      refine nc ?_
      refine nc ?_
      replace h := Option.some.inj h
      subst h
      exact ret_inA [.int .i64 (-1)] ⟨_, rfl, ⟨rfl, H.frame⟩⟩
    · replace h := condF hc97 h
      refine nc ?_
      refine nc_seq ?_
      refine nc ?_
      refine nc ?_
      replace h := Option.some.inj h
      subst h
      exact ret_inA [.int .i64 v47] ⟨_, rfl, ⟨rfl, H.frame⟩⟩
/-! gemot/gemotref1.parts -/
noncomputable def gemotref1_parts.k1 (x0 : Int) (v24 : Bool) : Option (Int) := cond v24 (some (2 : Int)) (cond (x0 == (115 : Int)) (some (3 : Int)) (some (-1)))
noncomputable def gemotref1_parts.k2 (x0 : Int) (v17 : Bool) : Option (Int) := cond v17 (some (1 : Int)) (cond (x0 == (112 : Int)) (gemotref1_parts.k1 x0 (x0 == (112 : Int))) (gemotref1_parts.k1 x0 (x0 == (120 : Int))))
noncomputable def gemotref1_parts.f (x0 : Int) : Option (Int) := cond (x0 == (107 : Int)) (gemotref1_parts.k2 x0 (x0 == (107 : Int))) (gemotref1_parts.k2 x0 (x0 == (104 : Int)))
set_option maxHeartbeats 4000000 in
theorem gemotref1_parts_ok {ok : Nat → Prop} {w : World} {x0 : Int} {r : Int} (h : gemotref1_parts.f x0 = some r) :
    Calls Tryz.prog 111 #[.int .u8 x0] w fun e w' => ∃ v, e = .returned v ∧ (v = .int .i64 r ∧ Bel w.heap.size w w') := by
  have H : Eng.Own ok w w [] := Eng.Own.nil ok w
  unfold gemotref1_parts.f at h
  refine enterN (args := [.int .u8 x0]) Tryz.func111 rfl Tryz.ntmps111 rfl rfl ?_
  refine nc_seq ?_
  refine nc ?_
  refine nc_seq ?_
  refine nc_seq ?_
  refine nc ?_
  refine nc_block ?_
  refine nc_cut (fun e w18 => ∃ (v17 : Bool), gemotref1_parts.k2 x0 v17 = some r ∧ e = [(3, .int .u8 x0), (4, .bool v17)] ∧ Eng.Own ok w w18 []) ?_ ?_
  · skip
    refine nc_seq ?_
    refine nc ?_
    refine nc_cond rfl (fun hc20 => ?_) (fun hc20 => ?_)
    · replace h := condT hc20 h
      refine nc ?_
      exact cut_inA ⟨_, h, rfl, H.pickL [] rfl⟩
    · replace h := condF hc20 h
      refine nc ?_
      exact cut_inA ⟨_, h, rfl, H.pickL [] rfl⟩
  · rintro _ w21 ⟨v17, h, rfl, H⟩
    unfold gemotref1_parts.k2 at h
    refine nc_cond rfl (fun hc22 => ?_) (fun hc22 => ?_)
    · replace h := condT hc22 h
      refine nc_seq ?_
      refine nc ?_
      refine nc ?_
      replace h := Option.some.inj h
      subst h
      exact ret_inA [.int .i64 1] ⟨_, rfl, ⟨rfl, H.frame⟩⟩
    · replace h := condF hc22 h
      refine nc_cut (fun e w25 => ∃ (v24 : Bool), gemotref1_parts.k1 x0 v24 = some r ∧ e = [(3, .int .u8 x0), (7, .bool v24)] ∧ Eng.Own ok w w25 []) ?_ ?_
      · skip
        refine nc_seq ?_
        refine nc ?_
        refine nc_cond rfl (fun hc27 => ?_) (fun hc27 => ?_)
        · replace h := condT hc27 h
          refine nc ?_
          exact cut_inA ⟨_, h, rfl, H.pickL [] rfl⟩
        · replace h := condF hc27 h
          refine nc ?_
          exact cut_inA ⟨_, h, rfl, H.pickL [] rfl⟩
      · rintro _ w28 ⟨v24, h, rfl, H⟩
        unfold gemotref1_parts.k1 at h
        refine nc_cond rfl (fun hc29 => ?_) (fun hc29 => ?_)
        · replace h := condT hc29 h
          refine nc_seq ?_
          refine nc ?_
          refine nc ?_
          replace h := Option.some.inj h
          subst h
          exact ret_inA [.int .i64 2] ⟨_, rfl, ⟨rfl, H.frame⟩⟩
        · replace h := condF hc29 h
          refine nc_seq ?_
          refine nc ?_
          refine nc_cond rfl (fun hc30 => ?_) (fun hc30 => ?_)
          · replace h := condT hc30 h
            refine nc_seq ?_
            refine nc ?_
            refine nc ?_
            replace h := Option.some.inj h
            subst h
            exact ret_inA [.int .i64 3] ⟨_, rfl, ⟨rfl, H.frame⟩⟩
          · replace h := condF hc30 h
            refine nc ?_
            refine nc_seq ?_
            refine nc ?_
            refine nc ?_
            replace h := Option.some.inj h
            subst h
            exact ret_inA [.int .i64 (-1)] ⟨_, rfl, ⟨rfl, H.frame⟩⟩
/-! gemot/gemotref1.End -/
noncomputable def gemotref1_End.k1 (self : (List UInt8) → Int → Int → Option (Int × Int)) (x0 : List UInt8) (x1 : Int) (x2 : Int) (v59 : Int) (v575 : Int) (v576 : Int) (v578 : Int) (y796 : Int × Int) (v823 : Bool) : Option ((Int × Int × (List UInt8) × Int) ⊕ ((Int × Int) ⊕ (Int × Int))) := cond v823 (some (.inr (Sum.inr ((-1), (0 : Int))))) ((slcM x0 v575 y796.1).bind fun y833 => some (.inl (y796.1, (maxI v576 y796.2), y833, (IntKind.i64.wrap (v578 + (1 : Int))))))
noncomputable def gemotref1_End.b2 (self : (List UInt8) → Int → Int → Option (Int × Int)) (x0 : List UInt8) (x1 : Int) (x2 : Int) (v59 : Int) (v575 : Int) (v576 : Int) (v577 : List UInt8) (v578 : Int) : Option ((Int × Int × (List UInt8) × Int) ⊕ ((Int × Int) ⊕ (Int × Int))) := cond (decide (v578 < v59)) ((self x0 v575 (IntKind.i64.wrap (x2 - (1 : Int)))).bind fun y796 => cond (decide (y796.1 < (0 : Int))) (some (.inr (Sum.inr (y796.1, (0 : Int))))) ((idxS x0 x1).bind fun y826 => cond (y826 == (101 : Int)) ((slcM x0 v575 y796.1).bind fun y829 => gemotref1_End.k1 self x0 x1 x2 v59 v575 v576 v578 y796 (cond (y826 == (101 : Int)) (strLt y829 v577) false)) (gemotref1_End.k1 self x0 x1 x2 v59 v575 v576 v578 y796 (cond (y826 == (101 : Int)) (strLt ([] : List UInt8) v577) false)))) (some (.inr (Sum.inl (v575, v576))))
noncomputable def gemotref1_End.k3 (self : (List UInt8) → Int → Int → Option (Int × Int)) (v492 : Int) (v493 : Int) : Option (Int × Int) := some (v492, (IntKind.i64.wrap (v493 + (1 : Int))))
noncomputable def gemotref1_End.k4 (self : (List UInt8) → Int → Int → Option (Int × Int)) (x0 : List UInt8) (x1 : Int) (x2 : Int) (v59 : Int) (v60 : Int) (v138 : Bool) : Option (Int × Int) := cond v138 (some ((-1), (0 : Int))) ((loopM (fun s753 : Int × Int × (List UInt8) × Int => gemotref1_End.b2 self x0 x1 x2 v59 s753.1 s753.2.1 s753.2.2.1 s753.2.2.2) (v60, (0 : Int), ([] : List UInt8), (0 : Int))).bind (Sum.elim (fun (o751 : Int × Int) => gemotref1_End.k3 self o751.1 o751.2) (fun (o752 : Int × Int) => some o752)))
noncomputable def gemotref1_End.k5 (self : (List UInt8) → Int → Int → Option (Int × Int)) (x0 : List UInt8) (x1 : Int) (x2 : Int) (v59 : Int) (v60 : Int) : Option (Int × Int) := cond (decide (v59 < (0 : Int))) (gemotref1_End.k4 self x0 x1 x2 v59 v60 (cond (decide (v59 < (0 : Int))) true (cond ((0 : Int) == (107 : Int)) (cond (decide (v60 ≥ (x0.length : Int))) true (cond ((0 : Int) != (103 : Int)) ((0 : Int) != (101 : Int)) false)) false))) ((idxS x0 x1).bind fun y142 => cond (y142 == (107 : Int)) (cond (decide (v60 ≥ (x0.length : Int))) (gemotref1_End.k4 self x0 x1 x2 v59 v60 (cond (decide (v59 < (0 : Int))) true (cond (y142 == (107 : Int)) (cond (decide (v60 ≥ (x0.length : Int))) true (cond ((0 : Int) != (103 : Int)) ((0 : Int) != (101 : Int)) false)) false))) ((idxS x0 v60).bind fun y146 => cond (y146 != (103 : Int)) ((idxS x0 v60).bind fun y149 => gemotref1_End.k4 self x0 x1 x2 v59 v60 (cond (decide (v59 < (0 : Int))) true (cond (y142 == (107 : Int)) (cond (decide (v60 ≥ (x0.length : Int))) true (cond (y146 != (103 : Int)) (y149 != (101 : Int)) false)) false))) (gemotref1_End.k4 self x0 x1 x2 v59 v60 (cond (decide (v59 < (0 : Int))) true (cond (y142 == (107 : Int)) (cond (decide (v60 ≥ (x0.length : Int))) true (cond (y146 != (103 : Int)) ((0 : Int) != (101 : Int)) false)) false))))) (gemotref1_End.k4 self x0 x1 x2 v59 v60 (cond (decide (v59 < (0 : Int))) true (cond (y142 == (107 : Int)) (cond (decide (v60 ≥ (x0.length : Int))) true (cond ((0 : Int) != (103 : Int)) ((0 : Int) != (101 : Int)) false)) false))))
noncomputable def gemotref1_End.k6 (self : (List UInt8) → Int → Int → Option (Int × Int)) (x0 : List UInt8) (x1 : Int) (x2 : Int) (v89 : Bool) : Option (Int × Int) := cond v89 (some ((-1), (0 : Int))) ((idxS x0 (IntKind.i64.wrap (x1 + (1 : Int)))).bind fun y100 => gemotref1_End.k5 self x0 x1 x2 (IntKind.i64.wrap y100) (IntKind.i64.wrap ((IntKind.i64.wrap (x1 + (1 : Int))) + (1 : Int))))
noncomputable def gemotref1_End.step (self : (List UInt8) → Int → Int → Option (Int × Int)) (x0 : List UInt8) (x1 : Int) (x2 : Int) : Option (Int × Int) := cond (x2 == (0 : Int)) (some ((-2), (0 : Int))) (cond (decide (x1 ≥ (x0.length : Int))) (some ((-1), (0 : Int))) ((slcM x0 x1 (x0.length : Int)).bind fun y3 => (gemotref1_leaf.f y3).bind fun y5 => cond (decide (y5 > (0 : Int))) (some ((IntKind.i64.wrap (x1 + y5)), (1 : Int))) ((idxS x0 x1).bind fun y12 => (gemotref1_parts.f y12).bind fun y14 => (idxS x0 x1).bind fun y63 => cond (y63 == (101 : Int)) (cond (decide ((IntKind.i64.wrap (x1 + (1 : Int))) ≥ (x0.length : Int))) (gemotref1_End.k6 self x0 x1 x2 (cond (cond (decide ((IntKind.i64.wrap (x1 + (1 : Int))) ≥ (x0.length : Int))) true (decide ((0 : Int) < (1 : Int)))) true (decide ((0 : Int) > (32 : Int))))) ((idxS x0 (IntKind.i64.wrap (x1 + (1 : Int)))).bind fun y93 => cond (decide (y93 < (1 : Int))) (gemotref1_End.k6 self x0 x1 x2 (cond (cond (decide ((IntKind.i64.wrap (x1 + (1 : Int))) ≥ (x0.length : Int))) true (decide (y93 < (1 : Int)))) true (decide ((0 : Int) > (32 : Int))))) ((idxS x0 (IntKind.i64.wrap (x1 + (1 : Int)))).bind fun y96 => gemotref1_End.k6 self x0 x1 x2 (cond (cond (decide ((IntKind.i64.wrap (x1 + (1 : Int))) ≥ (x0.length : Int))) true (decide (y93 < (1 : Int)))) true (decide (y96 > (32 : Int))))))) (gemotref1_End.k5 self x0 x1 x2 y14 (IntKind.i64.wrap (x1 + (1 : Int)))))))
noncomputable def gemotref1_End.g (m : Nat) : (List UInt8) → Int → Int → Option (Int × Int) := Nat.rec (motive := fun _ => (List UInt8) → Int → Int → Option (Int × Int)) (fun _ _ _ => none) (fun _ self => gemotref1_End.step self) m
noncomputable def gemotref1_End.f (x0 : List UInt8) (x1 : Int) (x2 : Int) : Option (Int × Int) := recM (fun m (a : (List UInt8) × Int × Int) => gemotref1_End.g m a.1 a.2.1 a.2.2) (x0, x1, x2)
set_option maxHeartbeats 4000000 in
theorem gemotref1_End_ok_g (m : Nat) : ∀ {ok : Nat → Prop} {w : World} {x0 : List UInt8} {x1 : Int} {x2 : Int} {r : Int × Int} (h : gemotref1_End.g m x0 x1 x2 = some r), Calls Tryz.prog 84 #[.string (bs x0), .int .i64 x1, .int .i64 x2] w fun e w' => ∃ v, e = .returned v ∧ (v = .tuple #[.int .i64 r.1, .int .i64 r.2] ∧ Bel w.heap.size w w') := by
  induction m with
  | zero => intro ok w x0 x1 x2 r h; exact absurd (show (none : Option (Int × Int)) = some r from h) (fun q => by cases q)
  | succ m ih =>
    intro ok w x0 x1 x2 r h
    have H : Eng.Own ok w w [] := Eng.Own.nil ok w
    replace h : gemotref1_End.step (gemotref1_End.g m) x0 x1 x2 = some r := h
    unfold gemotref1_End.step at h
    refine enterN (args := [.string (bs x0), .int .i64 x1, .int .i64 x2]) Tryz.func84 rfl Tryz.ntmps84 rfl rfl ?_
    refine nc_seq ?_
    refine nc ?_
    refine nc_seq ?_
    refine nc_seq ?_
    refine nc ?_
    refine nc_cond rfl (fun hc1 => ?_) (fun hc1 => ?_)
    · replace h := condT hc1 h
      refine nc_seq ?_
      refine nc ?_
      refine nc ?_
      replace h := Option.some.inj h
      subst h
      exact ret_inA [.int .i64 (-2), .int .i64 0] ⟨_, rfl, ⟨rfl, H.frame⟩⟩
    · replace h := condF hc1 h
      refine nc ?_
      refine nc_seq ?_
      refine nc_seq ?_
      refine nc ?_
      refine nc_cond rfl (fun hc2 => ?_) (fun hc2 => ?_)
      · replace h := condT hc2 h
        refine nc_seq ?_
        refine nc ?_
        refine nc ?_
        replace h := Option.some.inj h
        subst h
        exact ret_inA [.int .i64 (-1), .int .i64 0] ⟨_, rfl, ⟨rfl, H.frame⟩⟩
      · replace h := condF hc2 h
        refine nc ?_
        refine nc_seq ?_
        refine nc ?_
        obtain ⟨y3, hx4, h⟩ := bindS h
        refine txtI_rule x1 (x0.length : Int) (by kernel_rfl) ⟨_, rfl⟩ rfl hx4 ?_
        obtain ⟨y5, hy6, h⟩ := bindS h
        refine call_rule (by kernel_rfl) (gemotref1_leaf_ok (ok := fun _ => False) hy6) fun v8 w7 ⟨hv9, hb10⟩ => ?_
        subst hv9
        replace H := H.call hb10
        refine nc_seq ?_
        refine nc_seq ?_
        refine nc ?_
        refine nc_cond rfl (fun hc11 => ?_) (fun hc11 => ?_)
        · replace h := condT hc11 h
          refine nc_seq ?_
          refine nc ?_
          refine nc ?_
          replace h := Option.some.inj h
          subst h
          exact ret_inA [.int .i64 (IntKind.i64.wrap (x1 + y5)), .int .i64 1] ⟨_, rfl, ⟨rfl, H.frame⟩⟩
        · replace h := condF hc11 h
          refine nc ?_
          refine nc_seq ?_
          refine nc ?_
          obtain ⟨y12, hx13, h⟩ := bindS h
          refine idxS_rule (by kernel_rfl) hx13 ?_
          obtain ⟨y14, hy15, h⟩ := bindS h
          refine call_rule (by kernel_rfl) (gemotref1_parts_ok (ok := fun _ => False) hy15) fun v17 w16 ⟨hv18, hb19⟩ => ?_
          subst hv18
          replace H := H.call hb19
          refine nc_seq ?_
          refine nc ?_
          refine nc_cut (fun e w61 => ∃ (v59 : Int) (v60 : Int), gemotref1_End.k5 (gemotref1_End.g m) x0 x1 x2 v59 v60 = some r ∧ e = [(0, .string (bs x0)), (1, .int .i64 x1), (2, .int .i64 x2), (9, .int .i64 v59), (10, .int .i64 v60)] ∧ Eng.Own ok w w61 []) ?_ ?_
          · skip
            refine nc_seq ?_
            refine nc ?_
            obtain ⟨y63, hx64, h⟩ := bindS h
            refine idxS_rule (by kernel_rfl) hx64 ?_
            refine nc_cond rfl (fun hc65 => ?_) (fun hc65 => ?_)
            · replace h := condT hc65 h
              refine nc_seq ?_
              refine nc_cut (fun e w90 => ∃ (v89 : Bool), gemotref1_End.k6 (gemotref1_End.g m) x0 x1 x2 v89 = some r ∧ e = [(0, .string (bs x0)), (1, .int .i64 x1), (2, .int .i64 x2), (10, .int .i64 (IntKind.i64.wrap (x1 + (1 : Int)))), (56, .bool v89)] ∧ Eng.Own ok w w90 []) ?_ ?_
              · skip
                refine nc ?_
                rcases Bool.eq_false_or_eq_true (decide ((IntKind.i64.wrap (x1 + (1 : Int))) ≥ (x0.length : Int))) with hg92 | hg92
                · replace h := condT hg92 h
                  refine skipIX (.int .u8 0) (gF0 hg92) ?_
                  refine skipIX (.int .u8 0) (gF0 (pickT hg92)) ?_
                  exact cut_inA ⟨_, h, rfl, H.pickL [] rfl⟩
                · replace h := condF hg92 h
                  obtain ⟨y93, hx94, h⟩ := bindS h
                  refine idxS_rule (by kernel_rfl) hx94 ?_
                  rcases Bool.eq_false_or_eq_true (decide (y93 < (1 : Int))) with hg95 | hg95
                  · replace h := condT hg95 h
                    refine skipIX (.int .u8 0) (gF0 ((pickF hg92).trans hg95)) ?_
                    exact cut_inA ⟨_, h, rfl, H.pickL [] rfl⟩
                  · replace h := condF hg95 h
                    obtain ⟨y96, hx97, h⟩ := bindS h
                    refine idxS_rule (by kernel_rfl) hx97 ?_
                    exact cut_inA ⟨_, h, rfl, H.pickL [] rfl⟩
              · rintro _ w98 ⟨v89, h, rfl, H⟩
                unfold gemotref1_End.k6 at h
                refine nc_cond rfl (fun hc99 => ?_) (fun hc99 => ?_)
                · replace h := condT hc99 h
                  refine nc_seq ?_
                  refine nc ?_
                  refine nc ?_
                  replace h := Option.some.inj h
                  subst h
                  exact ret_inA [.int .i64 (-1), .int .i64 0] ⟨_, rfl, ⟨rfl, H.frame⟩⟩
                · replace h := condF hc99 h
                  refine nc ?_
                  refine nc_seq ?_
                  refine nc ?_
                  obtain ⟨y100, hx101, h⟩ := bindS h
                  refine idxS_rule (by kernel_rfl) hx101 ?_
                  refine nc ?_
                  exact cut_inA ⟨_, _, h, rfl, H.pickL [] rfl⟩
            · replace h := condF hc65 h
              refine nc ?_
              exact cut_inA ⟨_, _, h, rfl, H.pickL [] rfl⟩
          · rintro _ w102 ⟨v59, v60, h, rfl, H⟩
            unfold gemotref1_End.k5 at h
            refine nc_seq ?_
            refine nc_cut (fun e w139 => ∃ (v138 : Bool), gemotref1_End.k4 (gemotref1_End.g m) x0 x1 x2 v59 v60 v138 = some r ∧ e = [(0, .string (bs x0)), (1, .int .i64 x1), (2, .int .i64 x2), (9, .int .i64 v59), (10, .int .i64 v60), (88, .bool v138)] ∧ Eng.Own ok w w139 []) ?_ ?_
            · skip
              refine nc ?_
              rcases Bool.eq_false_or_eq_true (decide (v59 < (0 : Int))) with hg141 | hg141
              · replace h := condT hg141 h
                refine skipIX (.int .u8 0) (gF0 hg141) ?_
                refine skipIX (.int .u8 0) (by first | exact gFr (by first | exact gFr (gF0 hg141) | exact (gF0 hg141) | rfl) | exact (by first | exact gFr (gF0 hg141) | exact (gF0 hg141) | rfl) | rfl) ?_
                refine skipIX (.int .u8 0) (by first | exact gFr (by first | exact gFr (by first | exact gFr (gF0 hg141) | exact (gF0 hg141) | rfl) | exact (by first | exact gFr (gF0 hg141) | exact (gF0 hg141) | rfl) | rfl) | exact (by first | exact gFr (by first | exact gFr (gF0 hg141) | exact (gF0 hg141) | rfl) | exact (by first | exact gFr (gF0 hg141) | exact (gF0 hg141) | rfl) | rfl) | rfl) ?_
                exact cut_inA ⟨_, h, rfl, H.pickL [] rfl⟩
              · replace h := condF hg141 h
                obtain ⟨y142, hx143, h⟩ := bindS h
                refine idxS_rule (by kernel_rfl) hx143 ?_
                rcases Bool.eq_false_or_eq_true (y142 == (107 : Int)) with hg144 | hg144
                · replace h := condT hg144 h
                  rcases Bool.eq_false_or_eq_true (decide (v60 ≥ (x0.length : Int))) with hg145 | hg145
                  · replace h := condT hg145 h
                    refine skipIX (.int .u8 0) (gF0 hg145) ?_
                    refine skipIX (.int .u8 0) (by first | exact gFr (gF0 hg145) | exact (gF0 hg145) | rfl) ?_
                    exact cut_inA ⟨_, h, rfl, H.pickL [] rfl⟩
                  · replace h := condF hg145 h
                    obtain ⟨y146, hx147, h⟩ := bindS h
                    refine idxS_rule (by kernel_rfl) hx147 ?_
                    rcases Bool.eq_false_or_eq_true (y146 != (103 : Int)) with hg148 | hg148
                    · replace h := condT hg148 h
                      obtain ⟨y149, hx150, h⟩ := bindS h
                      refine idxS_rule (by kernel_rfl) hx150 ?_
                      exact cut_inA ⟨_, h, rfl, H.pickL [] rfl⟩
                    · replace h := condF hg148 h
                      refine skipIX (.int .u8 0) (gF1 hg148) ?_
                      exact cut_inA ⟨_, h, rfl, H.pickL [] rfl⟩
                · replace h := condF hg144 h
                  refine skipIX (.int .u8 0) (by first | exact gFr (gF1 hg144) | exact (gF1 hg144) | rfl) ?_
                  refine skipIX (.int .u8 0) (by first | exact gFr (by first | exact gFr (gF1 hg144) | exact (gF1 hg144) | rfl) | exact (by first | exact gFr (gF1 hg144) | exact (gF1 hg144) | rfl) | rfl) ?_
                  exact cut_inA ⟨_, h, rfl, H.pickL [] rfl⟩
            · rintro _ w151 ⟨v138, h, rfl, H⟩
              unfold gemotref1_End.k4 at h
              refine nc_cond rfl (fun hc152 => ?_) (fun hc152 => ?_)
              · replace h := condT hc152 h
                refine nc_seq ?_
                refine nc ?_
                refine nc ?_
                replace h := Option.some.inj h
                subst h
                exact ret_inA [.int .i64 (-1), .int .i64 0] ⟨_, rfl, ⟨rfl, H.frame⟩⟩
              · replace h := condF hc152 h
                refine nc ?_
                refine nc_seq ?_
                refine nc ?_
                refine nc_seq ?_
                refine nc ?_
                refine nc_cut (fun e w494 => ∃ (v492 : Int) (v493 : Int), gemotref1_End.k3 (gemotref1_End.g m) v492 v493 = some r ∧ e = [(10, .int .i64 v492), (11, .int .i64 v493)] ∧ Eng.Own ok w w494 []) ?_ ?_
                · skip
                  refine nc_seq ?_
                  refine nc ?_
                  refine nc_block ?_
                  obtain ⟨o743, hL744, hO745⟩ := bindS h
                  obtain ⟨n746, hL744⟩ := loopS hL744
                  refine nc ?_
                  refine loop_ruleA (fun k e w750 => ∃ (v575 : Int) (v576 : Int) (v577 : List UInt8) (v578 : Int), iterM (fun s753 : Int × Int × (List UInt8) × Int => gemotref1_End.b2 (gemotref1_End.g m) x0 x1 x2 v59 s753.1 s753.2.1 s753.2.2.1 s753.2.2.2) k (v575, v576, v577, v578) = some o743 ∧ e = [(0, .string (bs x0)), (1, .int .i64 x1), (2, .int .i64 x2), (9, .int .i64 v59), (10, .int .i64 v575), (11, .int .i64 v576), (12, .string (bs v577)), (13, .int .i64 v578)] ∧ Eng.Own ok w w750 []) ⟨_, _, _, _, hL744, rfl, H.pickL [] rfl⟩ ?_
                  rintro k755 _ w754 ⟨v575, v576, v577, v578, hL744, rfl, H⟩
                  obtain ⟨k749, rfl, q747, h, hq748⟩ := iterS hL744
                  replace h : gemotref1_End.b2 (gemotref1_End.g m) x0 x1 x2 v59 v575 v576 v577 v578 = some q747 := h
                  unfold gemotref1_End.b2 at h
                  refine nc_seq ?_
                  refine nc_seq ?_
                  refine nc ?_
                  refine nc_cond rfl (fun hc756 => ?_) (fun hc756 => ?_)
                  · replace h := condT hc756 h
                    refine nc ?_
                    refine nc_seq ?_
                    refine nc_block ?_
                    refine nc_seq ?_
                    refine nc ?_
                    obtain ⟨y796, hy797, h⟩ := bindS h
                    refine call_rule (by kernel_rfl) (ih (ok := fun _ => False) hy797) fun v799 w798 ⟨hv800, hb801⟩ => ?_
                    subst hv800
                    replace H := H.call hb801
                    refine nc_seq ?_
                    refine nc_seq ?_
                    refine nc ?_
                    refine nc_cond rfl (fun hc802 => ?_) (fun hc802 => ?_)
                    · replace h := condT hc802 h
                      refine nc_seq ?_
                      refine nc ?_
                      refine nc ?_
                      cases h
                      replace hq748 : (Sum.inr (y796.1, (0 : Int))) = o743 := hq748
                      subst hq748
                      have h := hO745
                      try dsimp only [Sum.elim_inl, Sum.elim_inr] at h
                      replace h := Option.some.inj h
                      subst h
                      exact ret_inA [.int .i64 y796.1, .int .i64 0] ⟨_, rfl, ⟨rfl, H.frame⟩⟩
                    · replace h := condF hc802 h
                      refine nc ?_
                      refine nc_seq ?_
                      refine nc_cut (fun e w824 => ∃ (v823 : Bool), gemotref1_End.k1 (gemotref1_End.g m) x0 x1 x2 v59 v575 v576 v578 y796 v823 = some q747 ∧ e = [(0, .string (bs x0)), (1, .int .i64 x1), (2, .int .i64 x2), (9, .int .i64 v59), (10, .int .i64 v575), (11, .int .i64 v576), (13, .int .i64 v578), (14, .int .i64 y796.1), (15, .int .i64 y796.2), (116, .bool v823)] ∧ Eng.Own ok w w824 []) ?_ ?_
                      · skip
                        refine nc ?_
                        obtain ⟨y826, hx827, h⟩ := bindS h
                        refine idxS_rule (by kernel_rfl) hx827 ?_
                        rcases Bool.eq_false_or_eq_true (y826 == (101 : Int)) with hg828 | hg828
                        · replace h := condT hg828 h
                          obtain ⟨y829, hx830, h⟩ := bindS h
                          refine txtI_rule v575 y796.1 (by kernel_rfl) ⟨_, rfl⟩ ⟨_, rfl⟩ hx830 ?_
                          exact cut_inA ⟨_, h, rfl, H.pickL [] rfl⟩
                        · replace h := condF hg828 h
                          refine skipSL (.string (bs ([] : List UInt8))) (gF1 hg828) ?_
                          exact cut_inA ⟨_, h, rfl, H.pickL [] rfl⟩
                      · rintro _ w831 ⟨v823, h, rfl, H⟩
                        unfold gemotref1_End.k1 at h
                        refine nc_cond rfl (fun hc832 => ?_) (fun hc832 => ?_)
                        · replace h := condT hc832 h
                          refine nc_seq ?_
                          refine nc ?_
                          refine nc ?_
                          cases h
                          replace hq748 : (Sum.inr ((-1), (0 : Int))) = o743 := hq748
                          subst hq748
                          have h := hO745
                          try dsimp only [Sum.elim_inl, Sum.elim_inr] at h
                          replace h := Option.some.inj h
                          subst h
                          exact ret_inA [.int .i64 (-1), .int .i64 0] ⟨_, rfl, ⟨rfl, H.frame⟩⟩
                        · replace h := condF hc832 h
                          refine nc ?_
                          refine nc_seq ?_
                          refine nc ?_
                          obtain ⟨y833, hx834, h⟩ := bindS h
                          refine txtI_rule v575 y796.1 (by kernel_rfl) ⟨_, rfl⟩ ⟨_, rfl⟩ hx834 ?_
                          refine nc_seq ?_
                          refine nc ?_
                          refine nc ?_
                          refine nc ?_
                          cases h
                          exact again_inA ⟨_, _, _, _, hq748, rfl, H.pickL [] rfl⟩
                  · replace h := condF hc756 h
                    refine nc ?_
                    cases h
                    replace hq748 : (Sum.inl (v575, v576)) = o743 := hq748
                    subst hq748
                    have h := hO745
                    try dsimp only [Sum.elim_inl, Sum.elim_inr] at h
                    exact cut_inA ⟨_, _, h, rfl, H.pickL [] rfl⟩
                · rintro _ w835 ⟨v492, v493, h, rfl, H⟩
                  unfold gemotref1_End.k3 at h
                  refine nc_seq ?_
                  refine nc ?_
                  refine nc ?_
                  replace h := Option.some.inj h
                  subst h
                  exact ret_inA [.int .i64 v492, .int .i64 (IntKind.i64.wrap (v493 + (1 : Int)))] ⟨_, rfl, ⟨rfl, H.frame⟩⟩
theorem gemotref1_End_ok {ok : Nat → Prop} {w : World} {x0 : List UInt8} {x1 : Int} {x2 : Int} {r : Int × Int} (h : gemotref1_End.f x0 x1 x2 = some r) : Calls Tryz.prog 84 #[.string (bs x0), .int .i64 x1, .int .i64 x2] w fun e w' => ∃ v, e = .returned v ∧ (v = .tuple #[.int .i64 r.1, .int .i64 r.2] ∧ Bel w.heap.size w w') := by
  obtain ⟨m, hm⟩ := recS h
  exact gemotref1_End_ok_g m (ok := ok) hm
/-! gemot/gemotref1.Take -/
noncomputable def gemotref1_Take.f (x0 : List UInt8) : Option ((List UInt8) × (List UInt8) × Int) := (gemotref1_End.f x0 (0 : Int) (400 : Int)).bind fun y1 => cond (y1.1 == (-1)) (some (([] : List UInt8), ([] : List UInt8), (2 : Int))) (cond (y1.1 == (-2)) (some (([] : List UInt8), ([] : List UInt8), (4 : Int))) (cond (decide (y1.1 > (20000 : Int))) (some (([] : List UInt8), ([] : List UInt8), (3 : Int))) ((slcM x0 (0 : Int) y1.1).bind fun y10 => (slcM x0 y1.1 (x0.length : Int)).bind fun y12 => some (y10, y12, (0 : Int)))))
set_option maxHeartbeats 4000000 in
theorem gemotref1_Take_ok {ok : Nat → Prop} {w : World} {x0 : List UInt8} {r : (List UInt8) × (List UInt8) × Int} (h : gemotref1_Take.f x0 = some r) :
    Calls Tryz.prog 69 #[.string (bs x0)] w fun e w' => ∃ v, e = .returned v ∧ (v = .tuple #[.string (bs r.1), .string (bs r.2.1), .int .i64 r.2.2] ∧ Bel w.heap.size w w') := by
  have H : Eng.Own ok w w [] := Eng.Own.nil ok w
  unfold gemotref1_Take.f at h
  refine enterN (args := [.string (bs x0)]) Tryz.func69 rfl Tryz.ntmps69 rfl rfl ?_
  refine nc_seq ?_
  refine nc ?_
  refine nc_seq ?_
  refine nc ?_
  obtain ⟨y1, hy2, h⟩ := bindS h
  refine call_rule (by kernel_rfl) (gemotref1_End_ok (ok := fun _ => False) hy2) fun v4 w3 ⟨hv5, hb6⟩ => ?_
  subst hv5
  replace H := H.call hb6
  refine nc_seq ?_
  refine nc_seq ?_
  refine nc ?_
  refine nc_cond rfl (fun hc7 => ?_) (fun hc7 => ?_)
  · replace h := condT hc7 h
    refine nc_seq ?_
    refine nc ?_
    refine nc ?_
    replace h := Option.some.inj h
    subst h
    exact ret_inA [.string (bs ([] : List UInt8)), .string (bs ([] : List UInt8)), .int .i64 2] ⟨_, rfl, ⟨rfl, H.frame⟩⟩
  · replace h := condF hc7 h
    refine nc ?_
    refine nc_seq ?_
    refine nc_seq ?_
    refine nc ?_
    refine nc_cond rfl (fun hc8 => ?_) (fun hc8 => ?_)
    · replace h := condT hc8 h
      refine nc_seq ?_
      refine nc ?_
      refine nc ?_
      replace h := Option.some.inj h
      subst h
      exact ret_inA [.string (bs ([] : List UInt8)), .string (bs ([] : List UInt8)), .int .i64 4] ⟨_, rfl, ⟨rfl, H.frame⟩⟩
    · replace h := condF hc8 h
      refine nc ?_
      refine nc_seq ?_
      refine nc_seq ?_
      refine nc ?_
      refine nc_cond rfl (fun hc9 => ?_) (fun hc9 => ?_)
      · replace h := condT hc9 h
        refine nc_seq ?_
        refine nc ?_
        refine nc ?_
        replace h := Option.some.inj h
        subst h
        exact ret_inA [.string (bs ([] : List UInt8)), .string (bs ([] : List UInt8)), .int .i64 3] ⟨_, rfl, ⟨rfl, H.frame⟩⟩
      · replace h := condF hc9 h
        refine nc ?_
        refine nc_seq ?_
        obtain ⟨y10, hx11, h⟩ := bindS h
        obtain ⟨y12, hx13, h⟩ := bindS h
        refine nc ?_
        refine draw_rule [] (by kernel_rfl) (by kernel_rfl) H ?_
        refine c_txtI (0 : Int) y1.1 (by kernel_rfl) rfl ⟨_, rfl⟩ hx11 ?_
        refine c_txtI y1.1 (x0.length : Int) (by kernel_rfl) ⟨_, rfl⟩ rfl hx13 ?_
        intro w14 H
        refine nc ?_
        replace h := Option.some.inj h
        subst h
        exact ret_inA [.string (bs y10), .string (bs y12), .int .i64 0] ⟨_, rfl, ⟨rfl, H.frame⟩⟩
/-! gemot/gemotref1.Right -/
noncomputable def gemotref1_Right.f (x0 : List UInt8) : Option (Bool) := (gemotref1_Take.f x0).bind fun y1 => some (cond (cond (y1.2.2 == (0 : Int)) (strEq y1.2.1 ([] : List UInt8)) false) (!(strEq y1.1 ([] : List UInt8))) false)
set_option maxHeartbeats 4000000 in
theorem gemotref1_Right_ok {ok : Nat → Prop} {w : World} {x0 : List UInt8} {r : Bool} (h : gemotref1_Right.f x0 = some r) :
    Calls Tryz.prog 39 #[.string (bs x0)] w fun e w' => ∃ v, e = .returned v ∧ (v = .bool r ∧ Bel w.heap.size w w') := by
  have H : Eng.Own ok w w [] := Eng.Own.nil ok w
  unfold gemotref1_Right.f at h
  refine enterN (args := [.string (bs x0)]) Tryz.func39 rfl Tryz.ntmps39 rfl rfl ?_
  refine nc_seq ?_
  refine nc ?_
  refine nc_seq ?_
  refine nc ?_
  obtain ⟨y1, hy2, h⟩ := bindS h
  refine call_rule (by kernel_rfl) (gemotref1_Take_ok (ok := fun _ => False) hy2) fun v4 w3 ⟨hv5, hb6⟩ => ?_
  subst hv5
  replace H := H.call hb6
  refine nc_seq ?_
  refine nc ?_
  refine nc ?_
  replace h := Option.some.inj h
  subst h
  exact ret_inA [.bool (cond (cond (y1.2.2 == (0 : Int)) (strEq y1.2.1 ([] : List UInt8)) false) (!(strEq y1.1 ([] : List UInt8))) false)] ⟨_, rfl, ⟨rfl, H.frame⟩⟩
/-! gemot/gemotref1.element -/
noncomputable def gemotref1_element.k1 (v13 : Bool) : Option (Bool) := some v13
noncomputable def gemotref1_element.f (x0 : List UInt8) : Option (Bool) := (gemotref1_Right.f x0).bind fun y1 => cond y1 ((idxS x0 (0 : Int)).bind fun y17 => cond (y17 == (103 : Int)) (gemotref1_element.k1 (cond y1 (cond (y17 == (103 : Int)) true ((0 : Int) == (101 : Int))) false)) ((idxS x0 (0 : Int)).bind fun y20 => gemotref1_element.k1 (cond y1 (cond (y17 == (103 : Int)) true (y20 == (101 : Int))) false))) (gemotref1_element.k1 (cond y1 (cond ((0 : Int) == (103 : Int)) true ((0 : Int) == (101 : Int))) false))
set_option maxHeartbeats 4000000 in
theorem gemotref1_element_ok {ok : Nat → Prop} {w : World} {x0 : List UInt8} {r : Bool} (h : gemotref1_element.f x0 = some r) :
    Calls Tryz.prog 60 #[.string (bs x0)] w fun e w' => ∃ v, e = .returned v ∧ (v = .bool r ∧ Bel w.heap.size w w') := by
  have H : Eng.Own ok w w [] := Eng.Own.nil ok w
  unfold gemotref1_element.f at h
  refine enterN (args := [.string (bs x0)]) Tryz.func60 rfl Tryz.ntmps60 rfl rfl ?_
  refine nc_seq ?_
  refine nc ?_
  refine nc_seq ?_
  refine nc ?_
  obtain ⟨y1, hy2, h⟩ := bindS h
  refine call_rule (by kernel_rfl) (gemotref1_Right_ok (ok := fun _ => False) hy2) fun v4 w3 ⟨hv5, hb6⟩ => ?_
  subst hv5
  replace H := H.call hb6
  refine nc_cut (fun e w14 => ∃ (v13 : Bool), gemotref1_element.k1 v13 = some r ∧ e = [(2, .bool v13)] ∧ Eng.Own ok w w14 []) ?_ ?_
  · skip
    refine nc ?_
    rcases Bool.eq_false_or_eq_true y1 with hg16 | hg16
    · replace h := condT hg16 h
      obtain ⟨y17, hx18, h⟩ := bindS h
      refine idxS_rule (by kernel_rfl) hx18 ?_
      rcases Bool.eq_false_or_eq_true (y17 == (103 : Int)) with hg19 | hg19
      · replace h := condT hg19 h
        refine skipIX (.int .u8 0) (gF0 hg19) ?_
        exact cut_inA ⟨_, h, rfl, H.pickL [] rfl⟩
      · replace h := condF hg19 h
        obtain ⟨y20, hx21, h⟩ := bindS h
        refine idxS_rule (by kernel_rfl) hx21 ?_
        exact cut_inA ⟨_, h, rfl, H.pickL [] rfl⟩
    · replace h := condF hg16 h
      refine skipIX (.int .u8 0) (gF1 hg16) ?_
      refine skipIX (.int .u8 0) (by first | exact gFr (gF1 hg16) | exact (gF1 hg16) | rfl) ?_
      exact cut_inA ⟨_, h, rfl, H.pickL [] rfl⟩
  · rintro _ w22 ⟨v13, h, rfl, H⟩
    unfold gemotref1_element.k1 at h
    refine nc ?_
    replace h := Option.some.inj h
    subst h
    exact ret_inA [.bool v13] ⟨_, rfl, ⟨rfl, H.frame⟩⟩
/-! gemot/gemotref1.Exponents -/
noncomputable def gemotref1_Exponents.b1 (x0 : List UInt8) (v146 : List (List UInt8)) (v150 : Int) : Option (((List (List UInt8)) × Int) ⊕ (List (List UInt8))) := (idxS x0 (0 : Int)).bind fun y217 => cond (cond (y217 == (101 : Int)) (decide (v150 < (x0.length : Int))) false) ((gemotref1_End.f x0 v150 (400 : Int)).bind fun y220 => (slcM x0 v150 y220.1).bind fun y226 => roomM 16 (v146.length + 1) (some (.inl ((v146 ++ [y226]), y220.1)))) (some (.inr v146))
noncomputable def gemotref1_Exponents.k2 (v117 : List (List UInt8)) : Option ((List (List UInt8))) := some v117
noncomputable def gemotref1_Exponents.f (x0 : List UInt8) : Option ((List (List UInt8))) := (loopM (fun s214 : (List (List UInt8)) × Int => gemotref1_Exponents.b1 x0 s214.1 s214.2) (([] : List (List UInt8)), (2 : Int))).bind (fun (o212 : (List (List UInt8))) => gemotref1_Exponents.k2 o212)
set_option maxHeartbeats 4000000 in
theorem gemotref1_Exponents_ok {ok : Nat → Prop} {w : World} {x0 : List UInt8} {r : (List (List UInt8))} (h : gemotref1_Exponents.f x0 = some r) :
    Calls Tryz.prog 61 #[.string (bs x0)] w fun e w' => ∃ v, e = .returned v ∧ (rowOut w w' ok tStr 9 v r ∧ Bel w.heap.size w w') := by
  have H : Eng.Own ok w w [] := Eng.Own.nil ok w
  unfold gemotref1_Exponents.f at h
  refine enterN (args := [.string (bs x0)]) Tryz.func61 rfl Tryz.ntmps61 rfl rfl ?_
  refine nc_seq ?_
  refine nc ?_
  refine nc_seq ?_
  refine nc ?_
  refine nc_seq ?_
  refine nc ?_
  refine nc_cut (fun e w121 => ∃ (A118 : Option Addr) (c119 : Nat) (cs120 : List Value) (v117 : List (List UInt8)), gemotref1_Exponents.k2 v117 = some r ∧ e = [(3, .slice A118 v117.length c119)] ∧ Eng.Own ok w w121 [.dat (dRows tStr v117 cs120), .row (.slice A118 v117.length c119) 9 1 v117.length cs120]) ?_ ?_
  · skip
    refine nc_block ?_
    replace H := H.nilRowD tStr 9
    obtain ⟨o204, hL205, hO206⟩ := bindS h
    obtain ⟨n207, hL205⟩ := loopS hL205
    refine nc ?_
    refine loop_ruleA (fun k e w211 => ∃ (A147 : Option Addr) (c148 : Nat) (cs149 : List Value) (v146 : List (List UInt8)) (v150 : Int), iterM (fun s214 : (List (List UInt8)) × Int => gemotref1_Exponents.b1 x0 s214.1 s214.2) k (v146, v150) = some o204 ∧ e = [(0, .string (bs x0)), (3, .slice A147 v146.length c148), (4, .int .i64 v150)] ∧ Eng.Own ok w w211 [.dat (dRows tStr v146 cs149), .row (.slice A147 v146.length c148) 9 1 v146.length cs149]) ⟨none, 0, [], _, _, hL205, rfl, H.pickL [0, 1] rfl⟩ ?_
    rintro k216 _ w215 ⟨A147, c148, cs149, v146, v150, hL205, rfl, H⟩
    obtain ⟨k210, rfl, q208, h, hq209⟩ := iterS hL205
    replace h : gemotref1_Exponents.b1 x0 v146 v150 = some q208 := h
    unfold gemotref1_Exponents.b1 at h
    refine nc_seq ?_
    refine nc_seq ?_
    refine nc ?_
    obtain ⟨y217, hx218, h⟩ := bindS h
    refine idxS_rule (by kernel_rfl) hx218 ?_
    refine nc_cond rfl (fun hc219 => ?_) (fun hc219 => ?_)
    · replace h := condT hc219 h
      refine nc ?_
      refine nc_block ?_
      refine nc_seq ?_
      refine nc ?_
      obtain ⟨y220, hy221, h⟩ := bindS h
      refine call_rule (by kernel_rfl) (gemotref1_End_ok (ok := fun _ => False) hy221) fun v223 w222 ⟨hv224, hb225⟩ => ?_
      subst hv224
      replace H := H.call hb225
      refine nc_seq ?_
      refine nc ?_
      obtain ⟨y226, hx227, h⟩ := bindS h
      refine txtI_rule v150 y220.1 (by kernel_rfl) ⟨_, rfl⟩ ⟨_, rfl⟩ hx227 ?_
      refine own_buildSlice (e := 9) (sz := 1) (z := .string ⟨#[]⟩) (cs := [.string (bs y226)]) H (by kernel_rfl) (by kernel_rfl) (by kernel_rfl) rfl rfl rfl rfl fun g229 w230 H => ?_
      obtain ⟨hr231, h⟩ := roomS h
      refine own_append1 (k := tStr) (z := .string ⟨#[]⟩) (x := y226) 16 H 1 0 rfl rfl rfl rfl (by kernel_rfl) (by kernel_rfl) rfl rfl hr231 rfl fun z232 cs233 w234 H => ?_
      obtain ⟨A235, c236, rfl, _, _⟩ := H.rowSl 1 rfl
      refine nc ?_
      cases h
      exact again_inA ⟨A235, c236, cs233, _, _, hq209, rfl, H.pickL [0, 1] rfl⟩
    · replace h := condF hc219 h
      refine nc ?_
      cases h
      replace hq209 : v146 = o204 := hq209
      subst hq209
      have h := hO206
      try dsimp only [Sum.elim_inl, Sum.elim_inr] at h
      exact cut_inA ⟨A147, c148, cs149, _, h, rfl, H.pickL [0, 1] rfl⟩
  · rintro _ w238 ⟨A118, c119, cs120, v117, h, rfl, H⟩
    unfold gemotref1_Exponents.k2 at h
    refine nc_seq ?_
    refine nc ?_
    refine nc ?_
    replace h := Option.some.inj h
    subst h
    exact ret_inA [.slice A118 v117.length c119] ⟨_, rfl, ⟨H.outR 1 0 rfl rfl rfl, H.frame⟩⟩
/-! gemot/gemotref1.made -/
noncomputable def gemotref1_made.f (x0 : List UInt8) : Option ((List UInt8) × Int) := cond (decide ((x0.length : Int) > (20000 : Int))) (some (([] : List UInt8), (3 : Int))) ((gemotref1_Right.f x0).bind fun y2 => cond (!y2) (some (([] : List UInt8), (4 : Int))) (some (x0, (0 : Int))))
set_option maxHeartbeats 4000000 in
theorem gemotref1_made_ok {ok : Nat → Prop} {w : World} {x0 : List UInt8} {r : (List UInt8) × Int} (h : gemotref1_made.f x0 = some r) :
    Calls Tryz.prog 62 #[.string (bs x0)] w fun e w' => ∃ v, e = .returned v ∧ (v = .tuple #[.string (bs r.1), .int .i64 r.2] ∧ Bel w.heap.size w w') := by
  have H : Eng.Own ok w w [] := Eng.Own.nil ok w
  unfold gemotref1_made.f at h
  refine enterN (args := [.string (bs x0)]) Tryz.func62 rfl Tryz.ntmps62 rfl rfl ?_
  refine nc_seq ?_
  refine nc ?_
  refine nc_seq ?_
  refine nc_seq ?_
  refine nc ?_
  refine nc_cond rfl (fun hc1 => ?_) (fun hc1 => ?_)
  · replace h := condT hc1 h
    refine nc_seq ?_
    refine nc ?_
    refine nc ?_
    replace h := Option.some.inj h
    subst h
    exact ret_inA [.string (bs ([] : List UInt8)), .int .i64 3] ⟨_, rfl, ⟨rfl, H.frame⟩⟩
  · replace h := condF hc1 h
    refine nc ?_
    refine nc_seq ?_
    refine nc_seq ?_
    refine nc ?_
    obtain ⟨y2, hy3, h⟩ := bindS h
    refine call_rule (by kernel_rfl) (gemotref1_Right_ok (ok := fun _ => False) hy3) fun v5 w4 ⟨hv6, hb7⟩ => ?_
    subst hv6
    replace H := H.call hb7
    refine nc_cond rfl (fun hc8 => ?_) (fun hc8 => ?_)
    · replace h := condT hc8 h
      refine nc_seq ?_
      refine nc ?_
      refine nc ?_
      replace h := Option.some.inj h
      subst h
      exact ret_inA [.string (bs ([] : List UInt8)), .int .i64 4] ⟨_, rfl, ⟨rfl, H.frame⟩⟩
    · replace h := condF hc8 h
      refine nc ?_
      refine nc_seq ?_
      refine nc ?_
      refine nc ?_
      replace h := Option.some.inj h
      subst h
      exact ret_inA [.string (bs x0), .int .i64 0] ⟨_, rfl, ⟨rfl, H.frame⟩⟩
/-! gemot/gemotref1.Key -/
noncomputable def gemotref1_Key.f (x0 : List UInt8) : Option ((List UInt8) × Int) := (gemotref1_element.f x0).bind fun y1 => cond (!y1) (some (([] : List UInt8), (1 : Int))) (roomM 1 ([107].length + x0.length) ((gemotref1_made.f ([107] ++ x0)).bind fun y9 => some (y9.1, y9.2)))
set_option maxHeartbeats 4000000 in
theorem gemotref1_Key_ok {ok : Nat → Prop} {w : World} {x0 : List UInt8} {r : (List UInt8) × Int} (h : gemotref1_Key.f x0 = some r) :
    Calls Tryz.prog 34 #[.string (bs x0)] w fun e w' => ∃ v, e = .returned v ∧ (v = .tuple #[.string (bs r.1), .int .i64 r.2] ∧ Bel w.heap.size w w') := by
  have H : Eng.Own ok w w [] := Eng.Own.nil ok w
  unfold gemotref1_Key.f at h
  refine enterN (args := [.string (bs x0)]) Tryz.func34 rfl Tryz.ntmps34 rfl rfl ?_
  refine nc_seq ?_
  refine nc ?_
  refine nc_seq ?_
  refine nc_seq ?_
  refine nc ?_
  obtain ⟨y1, hy2, h⟩ := bindS h
  refine call_rule (by kernel_rfl) (gemotref1_element_ok (ok := fun _ => False) hy2) fun v4 w3 ⟨hv5, hb6⟩ => ?_
  subst hv5
  replace H := H.call hb6
  refine nc_cond rfl (fun hc7 => ?_) (fun hc7 => ?_)
  · replace h := condT hc7 h
    refine nc_seq ?_
    refine nc ?_
    refine nc ?_
    replace h := Option.some.inj h
    subst h
    exact ret_inA [.string (bs ([] : List UInt8)), .int .i64 1] ⟨_, rfl, ⟨rfl, H.frame⟩⟩
  · replace h := condF hc7 h
    refine nc ?_
    refine nc_seq ?_
    refine nc ?_
    obtain ⟨hr8, h⟩ := roomS h
    refine catM_rule hr8 ?_
    obtain ⟨y9, hy10, h⟩ := bindS h
    refine call_rule (by kernel_rfl) (gemotref1_made_ok (ok := fun _ => False) hy10) fun v12 w11 ⟨hv13, hb14⟩ => ?_
    subst hv13
    replace H := H.call hb14
    refine nc ?_
    replace h := Option.some.inj h
    subst h
    exact ret_inA [.string (bs y9.1), .int .i64 y9.2] ⟨_, rfl, ⟨rfl, H.frame⟩⟩
/-! gemot/gemotref1.Of -/
noncomputable def gemotref1_Of.b1 (x1 : List (List UInt8)) (v132 : List UInt8) (v133 : Int) : Option (((List UInt8) × Int) ⊕ ((List UInt8) ⊕ ((List UInt8) × Int))) := cond (decide (v133 < (x1.length : Int))) ((idxL x1 v133).bind fun y193 => (gemotref1_Right.f y193).bind fun y199 => cond (!y199) (some (.inr (Sum.inr (([] : List UInt8), (1 : Int))))) ((idxL x1 v133).bind fun y206 => roomM 1 (v132.length + y206.length) (some (.inl ((v132 ++ y206), (IntKind.i64.wrap (v133 + (1 : Int)))))))) (some (.inr (Sum.inl v132)))
noncomputable def gemotref1_Of.k2 (v108 : List UInt8) : Option ((List UInt8) × Int) := (gemotref1_made.f v108).bind fun y214 => some (y214.1, y214.2)
noncomputable def gemotref1_Of.f (x0 : List UInt8) (x1 : List (List UInt8)) : Option ((List UInt8) × Int) := (loopM (fun s189 : (List UInt8) × Int => gemotref1_Of.b1 x1 s189.1 s189.2) (x0, (0 : Int))).bind (Sum.elim (fun (o187 : (List UInt8)) => gemotref1_Of.k2 o187) (fun (o188 : (List UInt8) × Int) => some o188))
set_option maxHeartbeats 4000000 in
theorem gemotref1_Of_ok {ok : Nat → Prop} {w : World} {u1 : Value} {x0 : List UInt8} {x1 : List (List UInt8)} {r : (List UInt8) × Int} (hu2 : slR tStr w ok u1 x1) (h : gemotref1_Of.f x0 x1 = some r) :
    Calls Tryz.prog 40 #[.string (bs x0), u1] w fun e w' => ∃ v, e = .returned v ∧ (v = .tuple #[.string (bs r.1), .int .i64 r.2] ∧ Bel w.heap.size w w') := by
  have H : Eng.Own ok w w [] := Eng.Own.nil ok w
  obtain ⟨A3, c4, rfl, H⟩ := H.arg rfl hu2
  unfold gemotref1_Of.f at h
  refine enterN (args := [.string (bs x0), .slice A3 x1.length c4]) Tryz.func40 rfl Tryz.ntmps40 rfl rfl ?_
  refine nc_seq ?_
  refine nc ?_
  refine nc_seq ?_
  refine nc ?_
  refine nc_cut (fun e w109 => ∃ (v108 : List UInt8), gemotref1_Of.k2 v108 = some r ∧ e = [(6, .string (bs v108))] ∧ Eng.Own ok w w109 []) ?_ ?_
  · skip
    refine nc_seq ?_
    refine nc ?_
    refine nc_block ?_
    obtain ⟨o179, hL180, hO181⟩ := bindS h
    obtain ⟨n182, hL180⟩ := loopS hL180
    refine nc ?_
    refine loop_ruleA (fun k e w186 => ∃ (v132 : List UInt8) (v133 : Int), iterM (fun s189 : (List UInt8) × Int => gemotref1_Of.b1 x1 s189.1 s189.2) k (v132, v133) = some o179 ∧ e = [(1, .slice A3 x1.length c4), (6, .string (bs v132)), (7, .int .i64 v133)] ∧ Eng.Own ok w w186 [.dat (dSl tStr (.slice A3 x1.length c4) x1)]) ⟨_, _, hL180, rfl, H.pickL [0] rfl⟩ ?_
    rintro k191 _ w190 ⟨v132, v133, hL180, rfl, H⟩
    obtain ⟨k185, rfl, q183, h, hq184⟩ := iterS hL180
    replace h : gemotref1_Of.b1 x1 v132 v133 = some q183 := h
    unfold gemotref1_Of.b1 at h
    refine nc_seq ?_
    refine nc_seq ?_
    refine nc ?_
    refine nc_cond rfl (fun hc192 => ?_) (fun hc192 => ?_)
    · replace h := condT hc192 h
      refine nc ?_
      refine nc_seq ?_
      refine nc_block ?_
      refine nc_seq ?_
      refine nc_seq ?_
      refine nc ?_
      obtain ⟨y193, hx194, h⟩ := bindS h
      obtain ⟨a195, cs196, rfl, hR197, H⟩ := H.elemI 0 rfl hx194
      obtain rfl : cs196 = [.string (bs y193)] := hR197
      refine idxA_rule (e := 9) 1 _ (by kernel_rfl) (by kernel_rfl) (idxL_some hx194).1 (idxL_some hx194).2.1 ?_
      refine own_loadD H 0 rfl 0 (by kernel_rfl) rfl ?_
      obtain ⟨y199, hy200, h⟩ := bindS h
      refine call_rule (by kernel_rfl) (gemotref1_Right_ok (ok := fun _ => False) hy200) fun v202 w201 ⟨hv203, hb204⟩ => ?_
      subst hv203
      replace H := H.call hb204
      refine nc_cond rfl (fun hc205 => ?_) (fun hc205 => ?_)
      · replace h := condT hc205 h
        refine nc_seq ?_
        refine nc ?_
        refine nc ?_
        cases h
        replace hq184 : (Sum.inr (([] : List UInt8), (1 : Int))) = o179 := hq184
        subst hq184
        have h := hO181
        try dsimp only [Sum.elim_inl, Sum.elim_inr] at h
        replace h := Option.some.inj h
        subst h
        exact ret_inA [.string (bs ([] : List UInt8)), .int .i64 1] ⟨_, rfl, ⟨rfl, H.frame⟩⟩
      · replace h := condF hc205 h
        refine nc ?_
        refine nc ?_
        obtain ⟨y206, hx207, h⟩ := bindS h
        obtain ⟨cs209, hR210, H⟩ := H.elemJ 1 rfl hx207
        obtain rfl : cs209 = [.string (bs y206)] := hR210
        refine idxA_rule (e := 9) 1 _ (by kernel_rfl) (by kernel_rfl) (idxL_some hx207).1 (idxL_some hx207).2.1 ?_
        refine own_loadD H 0 rfl 0 (by kernel_rfl) rfl ?_
        obtain ⟨hr212, h⟩ := roomS h
        refine catM_rule hr212 ?_
        refine nc ?_
        cases h
        exact again_inA ⟨_, _, hq184, rfl, H.pickL [2] rfl⟩
    · replace h := condF hc192 h
      refine nc ?_
      cases h
      replace hq184 : (Sum.inl v132) = o179 := hq184
      subst hq184
      have h := hO181
      try dsimp only [Sum.elim_inl, Sum.elim_inr] at h
      exact cut_inA ⟨_, h, rfl, H.pickL [] rfl⟩
  · rintro _ w213 ⟨v108, h, rfl, H⟩
    unfold gemotref1_Of.k2 at h
    refine nc_seq ?_
    refine nc ?_
    obtain ⟨y214, hy215, h⟩ := bindS h
    refine call_rule (by kernel_rfl) (gemotref1_made_ok (ok := fun _ => False) hy215) fun v217 w216 ⟨hv218, hb219⟩ => ?_
    subst hv218
    replace H := H.call hb219
    refine nc ?_
    replace h := Option.some.inj h
    subst h
    exact ret_inA [.string (bs y214.1), .int .i64 y214.2] ⟨_, rfl, ⟨rfl, H.frame⟩⟩
end Go.Proofs.YtgomlcfoifkdiaaGreat.G
