/- Walks, printed by a program of this proof's own. -/
import Derived.Test.YtgomlcfoifkdiaaGF
import Derived.KernelRfl
namespace Go.Proofs.Ytgomlcfoifkdiaa.G
open Go.RowKit Go.Eng Go.Proofs
set_option linter.unusedVariables false
set_option maxRecDepth 20000
/-! gemot/gemotref1.eight -/
/-- Two texts behind one another: as long as a text may be. -/
def catN {α : Type} (n : Nat) (x : Option α) : Option α := if n ≤ 9223372036854775807 then x else none
theorem catS {α : Type} {n : Nat} {x : Option α} {r : α} (h : catN n x = some r) : n ≤ 9223372036854775807 ∧ x = some r := by
  unfold catN at h
  split at h
  · exact ⟨by assumption, h⟩
  · cases h
theorem cat_of {α : Type} {n : Nat} {x : Option α} (h : n ≤ 9223372036854775807) : catN n x = x := by unfold catN; rw [if_pos h]
theorem catN_rule {P : Program} {g : Bool} {t : TypeId} {xo yo : Operand} {a b : List UInt8} {K : Value → World → Prop} {w : World} (h : a.length + b.length ≤ 9223372036854775807) (hk : K (.string (bs (a ++ b))) w) : nBin P g .add t xo yo (.string (bs a)) (.string (bs b)) w K := cat_rule (fun _ => h) hk
noncomputable def gemotref1_eight.b1 (x0 : Int) (v108 : List Int) (v112 : Int) : Option (((List Int) × Int) ⊕ (List Int)) := cond (decide (v112 < (8 : Int))) ((shrM .u64 x0 (IntKind.i64.wrap ((8 : Int) * v112))).bind fun _ => (some (IntKind.i64.wrap ((7 : Int) - v112))).bind fun j165 => (idxL v108 j165).bind fun y167 => some (.inl ((v108.set (j165).toNat (IntKind.u8.wrap (x0.fdiv (2 ^ min ((IntKind.i64.wrap ((8 : Int) * v112))).toNat IntKind.u64.bits)))), (IntKind.i64.wrap (v112 + (1 : Int)))))) (some (.inr v108))
noncomputable def gemotref1_eight.k2 (v88 : List Int) : Option ((List UInt8)) := (strM v88).bind fun y176 => some y176
noncomputable def gemotref1_eight.f (x0 : Int) : Option ((List UInt8)) := (loopM (fun s159 : (List Int) × Int => gemotref1_eight.b1 x0 s159.1 s159.2) ((List.replicate 8 (0 : Int)), (0 : Int))).bind (fun (o158 : (List Int)) => gemotref1_eight.k2 o158)
set_option maxHeartbeats 4000000 in
theorem gemotref1_eight_ok {ok : Nat → Prop} {w : World} {x0 : Int} {r : (List UInt8)} (h : gemotref1_eight.f x0 = some r) :
    Calls Try.prog 130 #[.int .u64 x0] w fun e w' => ∃ v, e = .returned v ∧ (v = .string (bs r) ∧ Bel w.heap.size w w') := by
  have H : Eng.Own ok w w [] := Eng.Own.nil ok w
  unfold gemotref1_eight.f at h
  refine enterN (args := [.int .u64 x0]) Try.func130 rfl Try.ntmps130 rfl rfl ?_
  refine nc_seq ?_
  refine nc ?_
  refine nc_seq ?_
  refine nc ?_
  refine own_makeSlice (e := 5) (k := (tInt .u8)) (z := .int .u8 0) (0 : Int) 8 1 H (by kernel_rfl) (by kernel_rfl) rfl (fun _ _ => rfl) (by decide) (by decide) fun A1 c2 cs3 w4 H => ?_
  refine nc_cut (fun e w92 => ∃ (A89 : Option Addr) (c90 : Nat) (cs91 : List Value) (v88 : List Int), gemotref1_eight.k2 v88 = some r ∧ e = [(3, .slice A89 v88.length c90)] ∧ Eng.Own ok w w92 [.dat (dRows (tInt .u8) v88 cs91), .row (.slice A89 v88.length c90) 5 1 v88.length cs91]) ?_ ?_
  · skip
    refine nc_seq ?_
    refine nc ?_
    refine nc_block ?_
    obtain ⟨o150, hL151, hO152⟩ := bindS h
    obtain ⟨n153, hL151⟩ := loopS hL151
    refine nc ?_
    refine loop_ruleA (fun k e w157 => ∃ (A109 : Option Addr) (c110 : Nat) (cs111 : List Value) (v108 : List Int) (v112 : Int), iterM (fun s159 : (List Int) × Int => gemotref1_eight.b1 x0 s159.1 s159.2) k (v108, v112) = some o150 ∧ e = [(0, .int .u64 x0), (3, .slice A109 v108.length c110), (4, .int .i64 v112)] ∧ Eng.Own ok w w157 [.dat (dRows (tInt .u8) v108 cs111), .row (.slice A109 v108.length c110) 5 1 v108.length cs111]) ⟨A1, c2, cs3, _, _, hL151, rfl, H.pickL [0, 1] rfl⟩ ?_
    rintro k161 _ w160 ⟨A109, c110, cs111, v108, v112, hL151, rfl, H⟩
    obtain ⟨k156, rfl, q154, h, hq155⟩ := iterS hL151
    replace h : gemotref1_eight.b1 x0 v108 v112 = some q154 := h
    unfold gemotref1_eight.b1 at h
    refine nc_seq ?_
    refine nc_seq ?_
    refine nc ?_
    refine nc_cond rfl (fun hc162 => ?_) (fun hc162 => ?_)
    · replace h := condT hc162 h
      refine nc ?_
      refine nc_seq ?_
      refine nc_block ?_
      refine nc ?_
      obtain ⟨y163, hy164, h⟩ := bindS h
      obtain ⟨hy164b, rfl⟩ := shrS hy164
      refine shr_rule (fun _ => hy164b) ?_
      obtain ⟨j165, hJ166, h⟩ := bindS h
      obtain ⟨y167, hx168, h⟩ := bindS h
      obtain ⟨a169, _, rfl, _, _⟩ := H.rowElem (k := (tInt .u8)) 1 0 rfl rfl rfl hx168
      refine idxA_ruleJ (e := 5) 1 _ j165 hJ166 (by kernel_rfl) (by kernel_rfl) (idxL_some hx168).1 (idxL_some hx168).2.1 ?_
      refine own_rowStore (k := (tInt .u8)) (m := 1) (IntKind.u8.wrap (x0.fdiv (2 ^ min ((IntKind.i64.wrap ((8 : Int) * v112))).toNat IntKind.u64.bits))) H 1 0 rfl rfl j165 0 rfl hx168 (by kernel_rfl) [.int .u8 (IntKind.u8.wrap (x0.fdiv (2 ^ min ((IntKind.i64.wrap ((8 : Int) * v112))).toNat IntKind.u64.bits)))] rfl rfl rfl rfl (fun cs hR => (show cs = [.int .u8 y167] → ((tInt .u8)).R _ _ (IntKind.u8.wrap (x0.fdiv (2 ^ min ((IntKind.i64.wrap ((8 : Int) * v112))).toNat IntKind.u64.bits))) (setRange cs 0 [.int .u8 (IntKind.u8.wrap (x0.fdiv (2 ^ min ((IntKind.i64.wrap ((8 : Int) * v112))).toNat IntKind.u64.bits)))]) from fun h => by subst h; exact rfl) (by exact hR)) fun cs171 w170 H => ?_
      have hx172 := idxL_set hx168 (IntKind.u8.wrap (x0.fdiv (2 ^ min ((IntKind.i64.wrap ((8 : Int) * v112))).toNat IntKind.u64.bits)))
      rw [show v108.length = (v108.set (j165).toNat (IntKind.u8.wrap (x0.fdiv (2 ^ min ((IntKind.i64.wrap ((8 : Int) * v112))).toNat IntKind.u64.bits)))).length from by simp only [List.length_set]] at H ⊢
      refine nc ?_
      cases h
      exact again_inA ⟨some a169, c110, cs171, _, _, hq155, rfl, H.pickL [0, 1] rfl⟩
    · replace h := condF hc162 h
      refine nc ?_
      cases h
      replace hq155 : v108 = o150 := hq155
      subst hq155
      have h := hO152
      try dsimp only [Sum.elim_inl, Sum.elim_inr] at h
      exact cut_inA ⟨A109, c110, cs111, _, h, rfl, H.pickL [0, 1] rfl⟩
  · rintro _ w175 ⟨A89, c90, cs91, v88, h, rfl, H⟩
    unfold gemotref1_eight.k2 at h
    refine nc_seq ?_
    refine nc ?_
    obtain ⟨y176, hy177, h⟩ := bindS h
    refine own_strM H 1 0 rfl rfl rfl hy177 (by kernel_rfl) (by kernel_rfl) ?_
    refine nc ?_
    replace h := Option.some.inj h
    subst h
    exact ret_inA [.string (bs y176)] ⟨_, rfl, ⟨rfl, H.frame⟩⟩
/-! gemot/gemotref1.Number -/
noncomputable def gemotref1_Number.f (x0 : Int) : Option ((List UInt8)) := (gemotref1_eight.f x0).bind fun y1 => roomM 1 ([117].length + y1.length) (some ([117] ++ y1))
set_option maxHeartbeats 4000000 in
theorem gemotref1_Number_ok {ok : Nat → Prop} {w : World} {x0 : Int} {r : (List UInt8)} (h : gemotref1_Number.f x0 = some r) :
    Calls Try.prog 101 #[.int .u64 x0] w fun e w' => ∃ v, e = .returned v ∧ (v = .string (bs r) ∧ Bel w.heap.size w w') := by
  have H : Eng.Own ok w w [] := Eng.Own.nil ok w
  unfold gemotref1_Number.f at h
  refine enterN (args := [.int .u64 x0]) Try.func101 rfl Try.ntmps101 rfl rfl ?_
  refine nc_seq ?_
  refine nc ?_
  refine nc_seq ?_
  refine nc ?_
  obtain ⟨y1, hy2, h⟩ := bindS h
  refine call_rule (by kernel_rfl) (gemotref1_eight_ok (ok := fun _ => False) hy2) fun v4 w3 ⟨hv5, hb6⟩ => ?_
  subst hv5
  replace H := H.call hb6
  obtain ⟨hr7, h⟩ := roomS h
  refine catM_rule hr7 ?_
  refine nc ?_
  replace h := Option.some.inj h
  subst h
  exact ret_inA [.string (bs ([117] ++ y1))] ⟨_, rfl, ⟨rfl, H.frame⟩⟩
/-! gemot/gemotref1.leaf -/
noncomputable def gemotref1_leaf.k1 (x0 : List UInt8) (v47 : Int) : Option (Int) := cond (decide (v47 > (x0.length : Int))) (some (-1)) (some v47)
noncomputable def gemotref1_leaf.k2 (x0 : List UInt8) (v67 : Bool) : Option (Int) := cond v67 (gemotref1_leaf.k1 x0 (-1)) (gemotref1_leaf.k1 x0 (2 : Int))
noncomputable def gemotref1_leaf.k3 (x0 : List UInt8) (v85 : Int) : Option (Int) := cond (decide (v85 > (103 : Int))) (gemotref1_leaf.k1 x0 (-1)) (gemotref1_leaf.k1 x0 v85)
noncomputable def gemotref1_leaf.k4 (x0 : List UInt8) (y50 : Int) (v53 : Bool) : Option (Int) := cond v53 (gemotref1_leaf.k1 x0 (9 : Int)) (cond (y50 == (103 : Int)) (gemotref1_leaf.k1 x0 (1 : Int)) (cond (y50 == (105 : Int)) (cond (decide ((x0.length : Int) > (1 : Int))) ((idxS x0 (1 : Int)).bind fun y71 => cond (decide (y71 < (1 : Int))) (gemotref1_leaf.k2 x0 (cond (decide ((x0.length : Int) > (1 : Int))) (cond (decide (y71 < (1 : Int))) true (decide ((0 : Int) > (8 : Int)))) false)) ((idxS x0 (1 : Int)).bind fun y74 => gemotref1_leaf.k2 x0 (cond (decide ((x0.length : Int) > (1 : Int))) (cond (decide (y71 < (1 : Int))) true (decide (y74 > (8 : Int)))) false))) (gemotref1_leaf.k2 x0 (cond (decide ((x0.length : Int) > (1 : Int))) (cond (decide ((0 : Int) < (1 : Int))) true (decide ((0 : Int) > (8 : Int)))) false))) (cond (y50 == (116 : Int)) (cond (decide ((x0.length : Int) ≥ (3 : Int))) ((idxS x0 (1 : Int)).bind fun y89 => (idxS x0 (2 : Int)).bind fun y91 => gemotref1_leaf.k3 x0 (IntKind.i64.wrap ((IntKind.i64.wrap ((3 : Int) + (IntKind.i64.wrap ((256 : Int) * (IntKind.i64.wrap y89))))) + (IntKind.i64.wrap y91)))) (gemotref1_leaf.k3 x0 (-1))) (gemotref1_leaf.k1 x0 (-1)))))
noncomputable def gemotref1_leaf.f (x0 : List UInt8) : Option (Int) := (idxS x0 (0 : Int)).bind fun y50 => cond (y50 == (110 : Int)) (gemotref1_leaf.k4 x0 y50 (y50 == (110 : Int))) (gemotref1_leaf.k4 x0 y50 (y50 == (117 : Int)))
set_option maxHeartbeats 4000000 in
theorem gemotref1_leaf_ok {ok : Nat → Prop} {w : World} {x0 : List UInt8} {r : Int} (h : gemotref1_leaf.f x0 = some r) :
    Calls Try.prog 199 #[.string (bs x0)] w fun e w' => ∃ v, e = .returned v ∧ (v = .int .i64 r ∧ Bel w.heap.size w w') := by
  have H : Eng.Own ok w w [] := Eng.Own.nil ok w
  unfold gemotref1_leaf.f at h
  refine enterN (args := [.string (bs x0)]) Try.func199 rfl Try.ntmps199 rfl rfl ?_
  refine nc_seq ?_
  refine nc ?_
  refine nc_seq ?_
  refine nc ?_
  refine nc_cut (fun e w48 => ∃ (v47 : Int), gemotref1_leaf.k1 x0 v47 = some r ∧ e = [(0, .string (bs x0)), (3, .int .i64 v47)] ∧ Eng.Own ok w w48 []) ?_ ?_
  · skip
    refine nc_seq ?_
    refine nc ?_
    obtain ⟨y50, hx51, h⟩ := bindS h
    refine idxS_rule (by kernel_rfl) hx51 ?_
    refine nc_block ?_
    refine nc_cut (fun e w54 => ∃ (v53 : Bool), gemotref1_leaf.k4 x0 y50 v53 = some r ∧ e = [(0, .string (bs x0)), (3, .int .i64 (-1)), (5, .int .u8 y50), (6, .bool v53)] ∧ Eng.Own ok w w54 []) ?_ ?_
    · skip
      refine nc_seq ?_
      refine nc ?_
      refine nc_cond rfl (fun hc56 => ?_) (fun hc56 => ?_)
      · replace h := condT hc56 h
        refine nc ?_
        exact cut_inA ⟨_, h, rfl, H.pickL [] rfl⟩
      · replace h := condF hc56 h
        refine nc ?_
        exact cut_inA ⟨_, h, rfl, H.pickL [] rfl⟩
    · rintro _ w57 ⟨v53, h, rfl, H⟩
      unfold gemotref1_leaf.k4 at h
      refine nc_cond rfl (fun hc58 => ?_) (fun hc58 => ?_)
      · replace h := condT hc58 h
        refine nc ?_
        exact cut_inA ⟨_, h, rfl, H.pickL [] rfl⟩
      · replace h := condF hc58 h
        refine nc_seq ?_
        refine nc ?_
        refine nc_cond rfl (fun hc59 => ?_) (fun hc59 => ?_)
        · replace h := condT hc59 h
          refine nc ?_
          exact cut_inA ⟨_, h, rfl, H.pickL [] rfl⟩
        · replace h := condF hc59 h
          refine nc_seq ?_
          refine nc ?_
          refine nc_cond rfl (fun hc60 => ?_) (fun hc60 => ?_)
          · replace h := condT hc60 h
            refine nc_seq ?_
            refine nc ?_
            refine nc_cut (fun e w68 => ∃ (v67 : Bool), gemotref1_leaf.k2 x0 v67 = some r ∧ e = [(0, .string (bs x0)), (3, .int .i64 2), (25, .bool v67)] ∧ Eng.Own ok w w68 []) ?_ ?_
            · skip
              refine nc ?_
              rcases Bool.eq_false_or_eq_true (decide ((x0.length : Int) > (1 : Int))) with hg70 | hg70
              · replace h := condT hg70 h
                obtain ⟨y71, hx72, h⟩ := bindS h
                refine idxS_rule (by kernel_rfl) hx72 ?_
                rcases Bool.eq_false_or_eq_true (decide (y71 < (1 : Int))) with hg73 | hg73
                · replace h := condT hg73 h
                  refine skipIX (.int .u8 0) (gF0 hg73) ?_
                  exact cut_inA ⟨_, h, rfl, H.pickL [] rfl⟩
                · replace h := condF hg73 h
                  obtain ⟨y74, hx75, h⟩ := bindS h
                  refine idxS_rule (by kernel_rfl) hx75 ?_
                  exact cut_inA ⟨_, h, rfl, H.pickL [] rfl⟩
              · replace h := condF hg70 h
                refine skipIX (.int .u8 0) (gF1 hg70) ?_
                refine skipIX (.int .u8 0) (by first | exact gFr (gF1 hg70) | exact (gF1 hg70) | rfl) ?_
                exact cut_inA ⟨_, h, rfl, H.pickL [] rfl⟩
            · rintro _ w76 ⟨v67, h, rfl, H⟩
              unfold gemotref1_leaf.k2 at h
              refine nc_cond rfl (fun hc77 => ?_) (fun hc77 => ?_)
              · replace h := condT hc77 h
                refine nc ?_
                exact cut_inA ⟨_, h, rfl, H.pickL [] rfl⟩
              · replace h := condF hc77 h
                refine nc ?_
                exact cut_inA ⟨_, h, rfl, H.pickL [] rfl⟩
          · replace h := condF hc60 h
            refine nc_seq ?_
            refine nc ?_
            refine nc_cond rfl (fun hc78 => ?_) (fun hc78 => ?_)
            · replace h := condT hc78 h
              refine nc_cut (fun e w86 => ∃ (v85 : Int), gemotref1_leaf.k3 x0 v85 = some r ∧ e = [(0, .string (bs x0)), (3, .int .i64 v85)] ∧ Eng.Own ok w w86 []) ?_ ?_
              · skip
                refine nc_seq ?_
                refine nc ?_
                refine nc_cond rfl (fun hc88 => ?_) (fun hc88 => ?_)
                · replace h := condT hc88 h
                  obtain ⟨y89, hx90, h⟩ := bindS h
                  obtain ⟨y91, hx92, h⟩ := bindS h
                  refine nc ?_
                  refine draw_rule [] (by kernel_rfl) (by kernel_rfl) H ?_
                  refine c_idxS (by kernel_rfl) hx90 ?_
                  refine c_idxS (by kernel_rfl) hx92 ?_
                  intro w93 H
                  exact cut_inA ⟨_, h, rfl, H.pickL [] rfl⟩
                · replace h := condF hc88 h
                  refine nc ?_
                  exact cut_inA ⟨_, h, rfl, H.pickL [] rfl⟩
              · rintro _ w94 ⟨v85, h, rfl, H⟩
                unfold gemotref1_leaf.k3 at h
                refine nc_seq ?_
                refine nc ?_
                refine nc_cond rfl (fun hc95 => ?_) (fun hc95 => ?_)
                · replace h := condT hc95 h
                  refine nc ?_
                  exact cut_inA ⟨_, h, rfl, H.pickL [] rfl⟩
                · replace h := condF hc95 h
                  refine nc ?_
                  exact cut_inA ⟨_, h, rfl, H.pickL [] rfl⟩
            · replace h := condF hc78 h
              refine nc ?_
              exact cut_inA ⟨_, h, rfl, H.pickL [] rfl⟩
  · rintro _ w96 ⟨v47, h, rfl, H⟩
    unfold gemotref1_leaf.k1 at h
    refine nc_seq ?_
    refine nc_seq ?_
    refine nc ?_
    refine nc_cond rfl (fun hc97 => ?_) (fun hc97 => ?_)
    · replace h := condT hc97 h
      refine nc_seq ?_
      refine nc ?_
      refine nc ?_
      replace h := Option.some.inj h
      subst h
      exact ret_inA [.int .i64 (-1)] ⟨_, rfl, ⟨rfl, H.frame⟩⟩
    · replace h := condF hc97 h
      refine nc ?_
      refine nc_seq ?_
      refine nc ?_
      refine nc ?_
      replace h := Option.some.inj h
      subst h
      exact ret_inA [.int .i64 v47] ⟨_, rfl, ⟨rfl, H.frame⟩⟩
/-! gemot/gemotref1.parts -/
noncomputable def gemotref1_parts.k1 (x0 : Int) (v24 : Bool) : Option (Int) := cond v24 (some (2 : Int)) (cond (x0 == (115 : Int)) (some (3 : Int)) (some (-1)))
noncomputable def gemotref1_parts.k2 (x0 : Int) (v17 : Bool) : Option (Int) := cond v17 (some (1 : Int)) (cond (x0 == (112 : Int)) (gemotref1_parts.k1 x0 (x0 == (112 : Int))) (gemotref1_parts.k1 x0 (x0 == (120 : Int))))
noncomputable def gemotref1_parts.f (x0 : Int) : Option (Int) := cond (x0 == (107 : Int)) (gemotref1_parts.k2 x0 (x0 == (107 : Int))) (gemotref1_parts.k2 x0 (x0 == (104 : Int)))
set_option maxHeartbeats 4000000 in
theorem gemotref1_parts_ok {ok : Nat → Prop} {w : World} {x0 : Int} {r : Int} (h : gemotref1_parts.f x0 = some r) :
    Calls Try.prog 200 #[.int .u8 x0] w fun e w' => ∃ v, e = .returned v ∧ (v = .int .i64 r ∧ Bel w.heap.size w w') := by
  have H : Eng.Own ok w w [] := Eng.Own.nil ok w
  unfold gemotref1_parts.f at h
  refine enterN (args := [.int .u8 x0]) Try.func200 rfl Try.ntmps200 rfl rfl ?_
  refine nc_seq ?_
  refine nc ?_
  refine nc_seq ?_
  refine nc_seq ?_
  refine nc ?_
  refine nc_block ?_
  refine nc_cut (fun e w18 => ∃ (v17 : Bool), gemotref1_parts.k2 x0 v17 = some r ∧ e = [(3, .int .u8 x0), (4, .bool v17)] ∧ Eng.Own ok w w18 []) ?_ ?_
  · skip
    refine nc_seq ?_
    refine nc ?_
    refine nc_cond rfl (fun hc20 => ?_) (fun hc20 => ?_)
    · replace h := condT hc20 h
      refine nc ?_
      exact cut_inA ⟨_, h, rfl, H.pickL [] rfl⟩
    · replace h := condF hc20 h
      refine nc ?_
      exact cut_inA ⟨_, h, rfl, H.pickL [] rfl⟩
  · rintro _ w21 ⟨v17, h, rfl, H⟩
    unfold gemotref1_parts.k2 at h
    refine nc_cond rfl (fun hc22 => ?_) (fun hc22 => ?_)
    · replace h := condT hc22 h
      refine nc_seq ?_
      refine nc ?_
      refine nc ?_
      replace h := Option.some.inj h
      subst h
      exact ret_inA [.int .i64 1] ⟨_, rfl, ⟨rfl, H.frame⟩⟩
    · replace h := condF hc22 h
      refine nc_cut (fun e w25 => ∃ (v24 : Bool), gemotref1_parts.k1 x0 v24 = some r ∧ e = [(3, .int .u8 x0), (7, .bool v24)] ∧ Eng.Own ok w w25 []) ?_ ?_
      · skip
        refine nc_seq ?_
        refine nc ?_
        refine nc_cond rfl (fun hc27 => ?_) (fun hc27 => ?_)
        · replace h := condT hc27 h
          refine nc ?_
          exact cut_inA ⟨_, h, rfl, H.pickL [] rfl⟩
        · replace h := condF hc27 h
          refine nc ?_
          exact cut_inA ⟨_, h, rfl, H.pickL [] rfl⟩
      · rintro _ w28 ⟨v24, h, rfl, H⟩
        unfold gemotref1_parts.k1 at h
        refine nc_cond rfl (fun hc29 => ?_) (fun hc29 => ?_)
        · replace h := condT hc29 h
          refine nc_seq ?_
          refine nc ?_
          refine nc ?_
          replace h := Option.some.inj h
          subst h
          exact ret_inA [.int .i64 2] ⟨_, rfl, ⟨rfl, H.frame⟩⟩
        · replace h := condF hc29 h
          refine nc_seq ?_
          refine nc ?_
          refine nc_cond rfl (fun hc30 => ?_) (fun hc30 => ?_)
          · replace h := condT hc30 h
            refine nc_seq ?_
            refine nc ?_
            refine nc ?_
            replace h := Option.some.inj h
            subst h
            exact ret_inA [.int .i64 3] ⟨_, rfl, ⟨rfl, H.frame⟩⟩
          · replace h := condF hc30 h
            refine nc ?_
            refine nc_seq ?_
            refine nc ?_
            refine nc ?_
            replace h := Option.some.inj h
            subst h
            exact ret_inA [.int .i64 (-1)] ⟨_, rfl, ⟨rfl, H.frame⟩⟩
/-! gemot/gemotref1.End -/
noncomputable def gemotref1_End.k1 (self : (List UInt8) → Int → Int → Option (Int × Int)) (x0 : List UInt8) (x1 : Int) (x2 : Int) (v59 : Int) (v575 : Int) (v576 : Int) (v578 : Int) (y796 : Int × Int) (v823 : Bool) : Option ((Int × Int × (List UInt8) × Int) ⊕ ((Int × Int) ⊕ (Int × Int))) := cond v823 (some (.inr (Sum.inr ((-1), (0 : Int))))) ((slcM x0 v575 y796.1).bind fun y833 => some (.inl (y796.1, (maxI v576 y796.2), y833, (IntKind.i64.wrap (v578 + (1 : Int))))))
noncomputable def gemotref1_End.b2 (self : (List UInt8) → Int → Int → Option (Int × Int)) (x0 : List UInt8) (x1 : Int) (x2 : Int) (v59 : Int) (v575 : Int) (v576 : Int) (v577 : List UInt8) (v578 : Int) : Option ((Int × Int × (List UInt8) × Int) ⊕ ((Int × Int) ⊕ (Int × Int))) := cond (decide (v578 < v59)) ((self x0 v575 (IntKind.i64.wrap (x2 - (1 : Int)))).bind fun y796 => cond (decide (y796.1 < (0 : Int))) (some (.inr (Sum.inr (y796.1, (0 : Int))))) ((idxS x0 x1).bind fun y826 => cond (y826 == (101 : Int)) ((slcM x0 v575 y796.1).bind fun y829 => gemotref1_End.k1 self x0 x1 x2 v59 v575 v576 v578 y796 (cond (y826 == (101 : Int)) (strLt y829 v577) false)) (gemotref1_End.k1 self x0 x1 x2 v59 v575 v576 v578 y796 (cond (y826 == (101 : Int)) (strLt ([] : List UInt8) v577) false)))) (some (.inr (Sum.inl (v575, v576))))
noncomputable def gemotref1_End.k3 (self : (List UInt8) → Int → Int → Option (Int × Int)) (v492 : Int) (v493 : Int) : Option (Int × Int) := some (v492, (IntKind.i64.wrap (v493 + (1 : Int))))
noncomputable def gemotref1_End.k4 (self : (List UInt8) → Int → Int → Option (Int × Int)) (x0 : List UInt8) (x1 : Int) (x2 : Int) (v59 : Int) (v60 : Int) (v138 : Bool) : Option (Int × Int) := cond v138 (some ((-1), (0 : Int))) ((loopM (fun s753 : Int × Int × (List UInt8) × Int => gemotref1_End.b2 self x0 x1 x2 v59 s753.1 s753.2.1 s753.2.2.1 s753.2.2.2) (v60, (0 : Int), ([] : List UInt8), (0 : Int))).bind (Sum.elim (fun (o751 : Int × Int) => gemotref1_End.k3 self o751.1 o751.2) (fun (o752 : Int × Int) => some o752)))
noncomputable def gemotref1_End.k5 (self : (List UInt8) → Int → Int → Option (Int × Int)) (x0 : List UInt8) (x1 : Int) (x2 : Int) (v59 : Int) (v60 : Int) : Option (Int × Int) := cond (decide (v59 < (0 : Int))) (gemotref1_End.k4 self x0 x1 x2 v59 v60 (cond (decide (v59 < (0 : Int))) true (cond ((0 : Int) == (107 : Int)) (cond (decide (v60 ≥ (x0.length : Int))) true (cond ((0 : Int) != (103 : Int)) ((0 : Int) != (101 : Int)) false)) false))) ((idxS x0 x1).bind fun y142 => cond (y142 == (107 : Int)) (cond (decide (v60 ≥ (x0.length : Int))) (gemotref1_End.k4 self x0 x1 x2 v59 v60 (cond (decide (v59 < (0 : Int))) true (cond (y142 == (107 : Int)) (cond (decide (v60 ≥ (x0.length : Int))) true (cond ((0 : Int) != (103 : Int)) ((0 : Int) != (101 : Int)) false)) false))) ((idxS x0 v60).bind fun y146 => cond (y146 != (103 : Int)) ((idxS x0 v60).bind fun y149 => gemotref1_End.k4 self x0 x1 x2 v59 v60 (cond (decide (v59 < (0 : Int))) true (cond (y142 == (107 : Int)) (cond (decide (v60 ≥ (x0.length : Int))) true (cond (y146 != (103 : Int)) (y149 != (101 : Int)) false)) false))) (gemotref1_End.k4 self x0 x1 x2 v59 v60 (cond (decide (v59 < (0 : Int))) true (cond (y142 == (107 : Int)) (cond (decide (v60 ≥ (x0.length : Int))) true (cond (y146 != (103 : Int)) ((0 : Int) != (101 : Int)) false)) false))))) (gemotref1_End.k4 self x0 x1 x2 v59 v60 (cond (decide (v59 < (0 : Int))) true (cond (y142 == (107 : Int)) (cond (decide (v60 ≥ (x0.length : Int))) true (cond ((0 : Int) != (103 : Int)) ((0 : Int) != (101 : Int)) false)) false))))
noncomputable def gemotref1_End.k6 (self : (List UInt8) → Int → Int → Option (Int × Int)) (x0 : List UInt8) (x1 : Int) (x2 : Int) (v89 : Bool) : Option (Int × Int) := cond v89 (some ((-1), (0 : Int))) ((idxS x0 (IntKind.i64.wrap (x1 + (1 : Int)))).bind fun y100 => gemotref1_End.k5 self x0 x1 x2 (IntKind.i64.wrap y100) (IntKind.i64.wrap ((IntKind.i64.wrap (x1 + (1 : Int))) + (1 : Int))))
noncomputable def gemotref1_End.step (self : (List UInt8) → Int → Int → Option (Int × Int)) (x0 : List UInt8) (x1 : Int) (x2 : Int) : Option (Int × Int) := cond (x2 == (0 : Int)) (some ((-2), (0 : Int))) (cond (decide (x1 ≥ (x0.length : Int))) (some ((-1), (0 : Int))) ((slcM x0 x1 (x0.length : Int)).bind fun y3 => (gemotref1_leaf.f y3).bind fun y5 => cond (decide (y5 > (0 : Int))) (some ((IntKind.i64.wrap (x1 + y5)), (1 : Int))) ((idxS x0 x1).bind fun y12 => (gemotref1_parts.f y12).bind fun y14 => (idxS x0 x1).bind fun y63 => cond (y63 == (101 : Int)) (cond (decide ((IntKind.i64.wrap (x1 + (1 : Int))) ≥ (x0.length : Int))) (gemotref1_End.k6 self x0 x1 x2 (cond (cond (decide ((IntKind.i64.wrap (x1 + (1 : Int))) ≥ (x0.length : Int))) true (decide ((0 : Int) < (1 : Int)))) true (decide ((0 : Int) > (32 : Int))))) ((idxS x0 (IntKind.i64.wrap (x1 + (1 : Int)))).bind fun y93 => cond (decide (y93 < (1 : Int))) (gemotref1_End.k6 self x0 x1 x2 (cond (cond (decide ((IntKind.i64.wrap (x1 + (1 : Int))) ≥ (x0.length : Int))) true (decide (y93 < (1 : Int)))) true (decide ((0 : Int) > (32 : Int))))) ((idxS x0 (IntKind.i64.wrap (x1 + (1 : Int)))).bind fun y96 => gemotref1_End.k6 self x0 x1 x2 (cond (cond (decide ((IntKind.i64.wrap (x1 + (1 : Int))) ≥ (x0.length : Int))) true (decide (y93 < (1 : Int)))) true (decide (y96 > (32 : Int))))))) (gemotref1_End.k5 self x0 x1 x2 y14 (IntKind.i64.wrap (x1 + (1 : Int)))))))
noncomputable def gemotref1_End.g (m : Nat) : (List UInt8) → Int → Int → Option (Int × Int) := Nat.rec (motive := fun _ => (List UInt8) → Int → Int → Option (Int × Int)) (fun _ _ _ => none) (fun _ self => gemotref1_End.step self) m
noncomputable def gemotref1_End.f (x0 : List UInt8) (x1 : Int) (x2 : Int) : Option (Int × Int) := recM (fun m (a : (List UInt8) × Int × Int) => gemotref1_End.g m a.1 a.2.1 a.2.2) (x0, x1, x2)
set_option maxHeartbeats 4000000 in
theorem gemotref1_End_ok_g (m : Nat) : ∀ {ok : Nat → Prop} {w : World} {x0 : List UInt8} {x1 : Int} {x2 : Int} {r : Int × Int} (h : gemotref1_End.g m x0 x1 x2 = some r), Calls Try.prog 176 #[.string (bs x0), .int .i64 x1, .int .i64 x2] w fun e w' => ∃ v, e = .returned v ∧ (v = .tuple #[.int .i64 r.1, .int .i64 r.2] ∧ Bel w.heap.size w w') := by
  induction m with
  | zero => intro ok w x0 x1 x2 r h; exact absurd (show (none : Option (Int × Int)) = some r from h) (fun q => by cases q)
  | succ m ih =>
    intro ok w x0 x1 x2 r h
    have H : Eng.Own ok w w [] := Eng.Own.nil ok w
    replace h : gemotref1_End.step (gemotref1_End.g m) x0 x1 x2 = some r := h
    unfold gemotref1_End.step at h
    refine enterN (args := [.string (bs x0), .int .i64 x1, .int .i64 x2]) Try.func176 rfl Try.ntmps176 rfl rfl ?_
    refine nc_seq ?_
    refine nc ?_
    refine nc_seq ?_
    refine nc_seq ?_
    refine nc ?_
    refine nc_cond rfl (fun hc1 => ?_) (fun hc1 => ?_)
    · replace h := condT hc1 h
      refine nc_seq ?_
      refine nc ?_
      refine nc ?_
      replace h := Option.some.inj h
      subst h
      exact ret_inA [.int .i64 (-2), .int .i64 0] ⟨_, rfl, ⟨rfl, H.frame⟩⟩
    · replace h := condF hc1 h
      refine nc ?_
      refine nc_seq ?_
      refine nc_seq ?_
      refine nc ?_
      refine nc_cond rfl (fun hc2 => ?_) (fun hc2 => ?_)
      · replace h := condT hc2 h
        refine nc_seq ?_
        refine nc ?_
        refine nc ?_
        replace h := Option.some.inj h
        subst h
        exact ret_inA [.int .i64 (-1), .int .i64 0] ⟨_, rfl, ⟨rfl, H.frame⟩⟩
      · replace h := condF hc2 h
        refine nc ?_
        refine nc_seq ?_
        refine nc ?_
        obtain ⟨y3, hx4, h⟩ := bindS h
        refine txtI_rule x1 (x0.length : Int) (by kernel_rfl) ⟨_, rfl⟩ rfl hx4 ?_
        obtain ⟨y5, hy6, h⟩ := bindS h
        refine call_rule (by kernel_rfl) (gemotref1_leaf_ok (ok := fun _ => False) hy6) fun v8 w7 ⟨hv9, hb10⟩ => ?_
        subst hv9
        replace H := H.call hb10
        refine nc_seq ?_
        refine nc_seq ?_
        refine nc ?_
        refine nc_cond rfl (fun hc11 => ?_) (fun hc11 => ?_)
        · replace h := condT hc11 h
          refine nc_seq ?_
          refine nc ?_
          refine nc ?_
          replace h := Option.some.inj h
          subst h
          exact ret_inA [.int .i64 (IntKind.i64.wrap (x1 + y5)), .int .i64 1] ⟨_, rfl, ⟨rfl, H.frame⟩⟩
        · replace h := condF hc11 h
          refine nc ?_
          refine nc_seq ?_
          refine nc ?_
          obtain ⟨y12, hx13, h⟩ := bindS h
          refine idxS_rule (by kernel_rfl) hx13 ?_
          obtain ⟨y14, hy15, h⟩ := bindS h
          refine call_rule (by kernel_rfl) (gemotref1_parts_ok (ok := fun _ => False) hy15) fun v17 w16 ⟨hv18, hb19⟩ => ?_
          subst hv18
          replace H := H.call hb19
          refine nc_seq ?_
          refine nc ?_
          refine nc_cut (fun e w61 => ∃ (v59 : Int) (v60 : Int), gemotref1_End.k5 (gemotref1_End.g m) x0 x1 x2 v59 v60 = some r ∧ e = [(0, .string (bs x0)), (1, .int .i64 x1), (2, .int .i64 x2), (9, .int .i64 v59), (10, .int .i64 v60)] ∧ Eng.Own ok w w61 []) ?_ ?_
          · skip
            refine nc_seq ?_
            refine nc ?_
            obtain ⟨y63, hx64, h⟩ := bindS h
            refine idxS_rule (by kernel_rfl) hx64 ?_
            refine nc_cond rfl (fun hc65 => ?_) (fun hc65 => ?_)
            · replace h := condT hc65 h
              refine nc_seq ?_
              refine nc_cut (fun e w90 => ∃ (v89 : Bool), gemotref1_End.k6 (gemotref1_End.g m) x0 x1 x2 v89 = some r ∧ e = [(0, .string (bs x0)), (1, .int .i64 x1), (2, .int .i64 x2), (10, .int .i64 (IntKind.i64.wrap (x1 + (1 : Int)))), (56, .bool v89)] ∧ Eng.Own ok w w90 []) ?_ ?_
              · skip
                refine nc ?_
                rcases Bool.eq_false_or_eq_true (decide ((IntKind.i64.wrap (x1 + (1 : Int))) ≥ (x0.length : Int))) with hg92 | hg92
                · replace h := condT hg92 h
                  refine skipIX (.int .u8 0) (gF0 hg92) ?_
                  refine skipIX (.int .u8 0) (gF0 (pickT hg92)) ?_
                  exact cut_inA ⟨_, h, rfl, H.pickL [] rfl⟩
                · replace h := condF hg92 h
                  obtain ⟨y93, hx94, h⟩ := bindS h
                  refine idxS_rule (by kernel_rfl) hx94 ?_
                  rcases Bool.eq_false_or_eq_true (decide (y93 < (1 : Int))) with hg95 | hg95
                  · replace h := condT hg95 h
                    refine skipIX (.int .u8 0) (gF0 ((pickF hg92).trans hg95)) ?_
                    exact cut_inA ⟨_, h, rfl, H.pickL [] rfl⟩
                  · replace h := condF hg95 h
                    obtain ⟨y96, hx97, h⟩ := bindS h
                    refine idxS_rule (by kernel_rfl) hx97 ?_
                    exact cut_inA ⟨_, h, rfl, H.pickL [] rfl⟩
              · rintro _ w98 ⟨v89, h, rfl, H⟩
                unfold gemotref1_End.k6 at h
                refine nc_cond rfl (fun hc99 => ?_) (fun hc99 => ?_)
                · replace h := condT hc99 h
                  refine nc_seq ?_
                  refine nc ?_
                  refine nc ?_
                  replace h := Option.some.inj h
                  subst h
                  exact ret_inA [.int .i64 (-1), .int .i64 0] ⟨_, rfl, ⟨rfl, H.frame⟩⟩
                · replace h := condF hc99 h
                  refine nc ?_
                  refine nc_seq ?_
                  refine nc ?_
                  obtain ⟨y100, hx101, h⟩ := bindS h
                  refine idxS_rule (by kernel_rfl) hx101 ?_
                  refine nc ?_
                  exact cut_inA ⟨_, _, h, rfl, H.pickL [] rfl⟩
            · replace h := condF hc65 h
              refine nc ?_
              exact cut_inA ⟨_, _, h, rfl, H.pickL [] rfl⟩
          · rintro _ w102 ⟨v59, v60, h, rfl, H⟩
            unfold gemotref1_End.k5 at h
            refine nc_seq ?_
            refine nc_cut (fun e w139 => ∃ (v138 : Bool), gemotref1_End.k4 (gemotref1_End.g m) x0 x1 x2 v59 v60 v138 = some r ∧ e = [(0, .string (bs x0)), (1, .int .i64 x1), (2, .int .i64 x2), (9, .int .i64 v59), (10, .int .i64 v60), (88, .bool v138)] ∧ Eng.Own ok w w139 []) ?_ ?_
            · skip
              refine nc ?_
              rcases Bool.eq_false_or_eq_true (decide (v59 < (0 : Int))) with hg141 | hg141
              · replace h := condT hg141 h
                refine skipIX (.int .u8 0) (gF0 hg141) ?_
                refine skipIX (.int .u8 0) (by first | exact gFr (by first | exact gFr (gF0 hg141) | exact (gF0 hg141) | rfl) | exact (by first | exact gFr (gF0 hg141) | exact (gF0 hg141) | rfl) | rfl) ?_
                refine skipIX (.int .u8 0) (by first | exact gFr (by first | exact gFr (by first | exact gFr (gF0 hg141) | exact (gF0 hg141) | rfl) | exact (by first | exact gFr (gF0 hg141) | exact (gF0 hg141) | rfl) | rfl) | exact (by first | exact gFr (by first | exact gFr (gF0 hg141) | exact (gF0 hg141) | rfl) | exact (by first | exact gFr (gF0 hg141) | exact (gF0 hg141) | rfl) | rfl) | rfl) ?_
                exact cut_inA ⟨_, h, rfl, H.pickL [] rfl⟩
              · replace h := condF hg141 h
                obtain ⟨y142, hx143, h⟩ := bindS h
                refine idxS_rule (by kernel_rfl) hx143 ?_
                rcases Bool.eq_false_or_eq_true (y142 == (107 : Int)) with hg144 | hg144
                · replace h := condT hg144 h
                  rcases Bool.eq_false_or_eq_true (decide (v60 ≥ (x0.length : Int))) with hg145 | hg145
                  · replace h := condT hg145 h
                    refine skipIX (.int .u8 0) (gF0 hg145) ?_
                    refine skipIX (.int .u8 0) (by first | exact gFr (gF0 hg145) | exact (gF0 hg145) | rfl) ?_
                    exact cut_inA ⟨_, h, rfl, H.pickL [] rfl⟩
                  · replace h := condF hg145 h
                    obtain ⟨y146, hx147, h⟩ := bindS h
                    refine idxS_rule (by kernel_rfl) hx147 ?_
                    rcases Bool.eq_false_or_eq_true (y146 != (103 : Int)) with hg148 | hg148
                    · replace h := condT hg148 h
                      obtain ⟨y149, hx150, h⟩ := bindS h
                      refine idxS_rule (by kernel_rfl) hx150 ?_
                      exact cut_inA ⟨_, h, rfl, H.pickL [] rfl⟩
                    · replace h := condF hg148 h
                      refine skipIX (.int .u8 0) (gF1 hg148) ?_
                      exact cut_inA ⟨_, h, rfl, H.pickL [] rfl⟩
                · replace h := condF hg144 h
                  refine skipIX (.int .u8 0) (by first | exact gFr (gF1 hg144) | exact (gF1 hg144) | rfl) ?_
                  refine skipIX (.int .u8 0) (by first | exact gFr (by first | exact gFr (gF1 hg144) | exact (gF1 hg144) | rfl) | exact (by first | exact gFr (gF1 hg144) | exact (gF1 hg144) | rfl) | rfl) ?_
                  exact cut_inA ⟨_, h, rfl, H.pickL [] rfl⟩
            · rintro _ w151 ⟨v138, h, rfl, H⟩
              unfold gemotref1_End.k4 at h
              refine nc_cond rfl (fun hc152 => ?_) (fun hc152 => ?_)
              · replace h := condT hc152 h
                refine nc_seq ?_
                refine nc ?_
                refine nc ?_
                replace h := Option.some.inj h
                subst h
                exact ret_inA [.int .i64 (-1), .int .i64 0] ⟨_, rfl, ⟨rfl, H.frame⟩⟩
              · replace h := condF hc152 h
                refine nc ?_
                refine nc_seq ?_
                refine nc ?_
                refine nc_seq ?_
                refine nc ?_
                refine nc_cut (fun e w494 => ∃ (v492 : Int) (v493 : Int), gemotref1_End.k3 (gemotref1_End.g m) v492 v493 = some r ∧ e = [(10, .int .i64 v492), (11, .int .i64 v493)] ∧ Eng.Own ok w w494 []) ?_ ?_
                · skip
                  refine nc_seq ?_
                  refine nc ?_
                  refine nc_block ?_
                  obtain ⟨o743, hL744, hO745⟩ := bindS h
                  obtain ⟨n746, hL744⟩ := loopS hL744
                  refine nc ?_
                  refine loop_ruleA (fun k e w750 => ∃ (v575 : Int) (v576 : Int) (v577 : List UInt8) (v578 : Int), iterM (fun s753 : Int × Int × (List UInt8) × Int => gemotref1_End.b2 (gemotref1_End.g m) x0 x1 x2 v59 s753.1 s753.2.1 s753.2.2.1 s753.2.2.2) k (v575, v576, v577, v578) = some o743 ∧ e = [(0, .string (bs x0)), (1, .int .i64 x1), (2, .int .i64 x2), (9, .int .i64 v59), (10, .int .i64 v575), (11, .int .i64 v576), (12, .string (bs v577)), (13, .int .i64 v578)] ∧ Eng.Own ok w w750 []) ⟨_, _, _, _, hL744, rfl, H.pickL [] rfl⟩ ?_
                  rintro k755 _ w754 ⟨v575, v576, v577, v578, hL744, rfl, H⟩
                  obtain ⟨k749, rfl, q747, h, hq748⟩ := iterS hL744
                  replace h : gemotref1_End.b2 (gemotref1_End.g m) x0 x1 x2 v59 v575 v576 v577 v578 = some q747 := h
                  unfold gemotref1_End.b2 at h
                  refine nc_seq ?_
                  refine nc_seq ?_
                  refine nc ?_
                  refine nc_cond rfl (fun hc756 => ?_) (fun hc756 => ?_)
                  · replace h := condT hc756 h
                    refine nc ?_
                    refine nc_seq ?_
                    refine nc_block ?_
                    refine nc_seq ?_
                    refine nc ?_
                    obtain ⟨y796, hy797, h⟩ := bindS h
                    refine call_rule (by kernel_rfl) (ih (ok := fun _ => False) hy797) fun v799 w798 ⟨hv800, hb801⟩ => ?_
                    subst hv800
                    replace H := H.call hb801
                    refine nc_seq ?_
                    refine nc_seq ?_
                    refine nc ?_
                    refine nc_cond rfl (fun hc802 => ?_) (fun hc802 => ?_)
                    · replace h := condT hc802 h
                      refine nc_seq ?_
                      refine nc ?_
                      refine nc ?_
                      cases h
                      replace hq748 : (Sum.inr (y796.1, (0 : Int))) = o743 := hq748
                      subst hq748
                      have h := hO745
                      try dsimp only [Sum.elim_inl, Sum.elim_inr] at h
                      replace h := Option.some.inj h
                      subst h
                      exact ret_inA [.int .i64 y796.1, .int .i64 0] ⟨_, rfl, ⟨rfl, H.frame⟩⟩
                    · replace h := condF hc802 h
                      refine nc ?_
                      refine nc_seq ?_
                      refine nc_cut (fun e w824 => ∃ (v823 : Bool), gemotref1_End.k1 (gemotref1_End.g m) x0 x1 x2 v59 v575 v576 v578 y796 v823 = some q747 ∧ e = [(0, .string (bs x0)), (1, .int .i64 x1), (2, .int .i64 x2), (9, .int .i64 v59), (10, .int .i64 v575), (11, .int .i64 v576), (13, .int .i64 v578), (14, .int .i64 y796.1), (15, .int .i64 y796.2), (116, .bool v823)] ∧ Eng.Own ok w w824 []) ?_ ?_
                      · skip
                        refine nc ?_
                        obtain ⟨y826, hx827, h⟩ := bindS h
                        refine idxS_rule (by kernel_rfl) hx827 ?_
                        rcases Bool.eq_false_or_eq_true (y826 == (101 : Int)) with hg828 | hg828
                        · replace h := condT hg828 h
                          obtain ⟨y829, hx830, h⟩ := bindS h
                          refine txtI_rule v575 y796.1 (by kernel_rfl) ⟨_, rfl⟩ ⟨_, rfl⟩ hx830 ?_
                          exact cut_inA ⟨_, h, rfl, H.pickL [] rfl⟩
                        · replace h := condF hg828 h
                          refine skipSL (.string (bs ([] : List UInt8))) (gF1 hg828) ?_
                          exact cut_inA ⟨_, h, rfl, H.pickL [] rfl⟩
                      · rintro _ w831 ⟨v823, h, rfl, H⟩
                        unfold gemotref1_End.k1 at h
                        refine nc_cond rfl (fun hc832 => ?_) (fun hc832 => ?_)
                        · replace h := condT hc832 h
                          refine nc_seq ?_
                          refine nc ?_
                          refine nc ?_
                          cases h
                          replace hq748 : (Sum.inr ((-1), (0 : Int))) = o743 := hq748
                          subst hq748
                          have h := hO745
                          try dsimp only [Sum.elim_inl, Sum.elim_inr] at h
                          replace h := Option.some.inj h
                          subst h
                          exact ret_inA [.int .i64 (-1), .int .i64 0] ⟨_, rfl, ⟨rfl, H.frame⟩⟩
                        · replace h := condF hc832 h
                          refine nc ?_
                          refine nc_seq ?_
                          refine nc ?_
                          obtain ⟨y833, hx834, h⟩ := bindS h
                          refine txtI_rule v575 y796.1 (by kernel_rfl) ⟨_, rfl⟩ ⟨_, rfl⟩ hx834 ?_
                          refine nc_seq ?_
                          refine nc ?_
                          refine nc ?_
                          refine nc ?_
                          cases h
                          exact again_inA ⟨_, _, _, _, hq748, rfl, H.pickL [] rfl⟩
                  · replace h := condF hc756 h
                    refine nc ?_
                    cases h
                    replace hq748 : (Sum.inl (v575, v576)) = o743 := hq748
                    subst hq748
                    have h := hO745
                    try dsimp only [Sum.elim_inl, Sum.elim_inr] at h
                    exact cut_inA ⟨_, _, h, rfl, H.pickL [] rfl⟩
                · rintro _ w835 ⟨v492, v493, h, rfl, H⟩
                  unfold gemotref1_End.k3 at h
                  refine nc_seq ?_
                  refine nc ?_
                  refine nc ?_
                  replace h := Option.some.inj h
                  subst h
                  exact ret_inA [.int .i64 v492, .int .i64 (IntKind.i64.wrap (v493 + (1 : Int)))] ⟨_, rfl, ⟨rfl, H.frame⟩⟩
theorem gemotref1_End_ok {ok : Nat → Prop} {w : World} {x0 : List UInt8} {x1 : Int} {x2 : Int} {r : Int × Int} (h : gemotref1_End.f x0 x1 x2 = some r) : Calls Try.prog 176 #[.string (bs x0), .int .i64 x1, .int .i64 x2] w fun e w' => ∃ v, e = .returned v ∧ (v = .tuple #[.int .i64 r.1, .int .i64 r.2] ∧ Bel w.heap.size w w') := by
  obtain ⟨m, hm⟩ := recS h
  exact gemotref1_End_ok_g m (ok := ok) hm
/-! gemot/gemotref1.Take -/
noncomputable def gemotref1_Take.f (x0 : List UInt8) : Option ((List UInt8) × (List UInt8) × Int) := (gemotref1_End.f x0 (0 : Int) (400 : Int)).bind fun y1 => cond (y1.1 == (-1)) (some (([] : List UInt8), ([] : List UInt8), (2 : Int))) (cond (y1.1 == (-2)) (some (([] : List UInt8), ([] : List UInt8), (4 : Int))) (cond (decide (y1.1 > (20000 : Int))) (some (([] : List UInt8), ([] : List UInt8), (3 : Int))) ((slcM x0 (0 : Int) y1.1).bind fun y10 => (slcM x0 y1.1 (x0.length : Int)).bind fun y12 => some (y10, y12, (0 : Int)))))
set_option maxHeartbeats 4000000 in
theorem gemotref1_Take_ok {ok : Nat → Prop} {w : World} {x0 : List UInt8} {r : (List UInt8) × (List UInt8) × Int} (h : gemotref1_Take.f x0 = some r) :
    Calls Try.prog 173 #[.string (bs x0)] w fun e w' => ∃ v, e = .returned v ∧ (v = .tuple #[.string (bs r.1), .string (bs r.2.1), .int .i64 r.2.2] ∧ Bel w.heap.size w w') := by
  have H : Eng.Own ok w w [] := Eng.Own.nil ok w
  unfold gemotref1_Take.f at h
  refine enterN (args := [.string (bs x0)]) Try.func173 rfl Try.ntmps173 rfl rfl ?_
  refine nc_seq ?_
  refine nc ?_
  refine nc_seq ?_
  refine nc ?_
  obtain ⟨y1, hy2, h⟩ := bindS h
  refine call_rule (by kernel_rfl) (gemotref1_End_ok (ok := fun _ => False) hy2) fun v4 w3 ⟨hv5, hb6⟩ => ?_
  subst hv5
  replace H := H.call hb6
  refine nc_seq ?_
  refine nc_seq ?_
  refine nc ?_
  refine nc_cond rfl (fun hc7 => ?_) (fun hc7 => ?_)
  · replace h := condT hc7 h
    refine nc_seq ?_
    refine nc ?_
    refine nc ?_
    replace h := Option.some.inj h
    subst h
    exact ret_inA [.string (bs ([] : List UInt8)), .string (bs ([] : List UInt8)), .int .i64 2] ⟨_, rfl, ⟨rfl, H.frame⟩⟩
  · replace h := condF hc7 h
    refine nc ?_
    refine nc_seq ?_
    refine nc_seq ?_
    refine nc ?_
    refine nc_cond rfl (fun hc8 => ?_) (fun hc8 => ?_)
    · replace h := condT hc8 h
      refine nc_seq ?_
      refine nc ?_
      refine nc ?_
      replace h := Option.some.inj h
      subst h
      exact ret_inA [.string (bs ([] : List UInt8)), .string (bs ([] : List UInt8)), .int .i64 4] ⟨_, rfl, ⟨rfl, H.frame⟩⟩
    · replace h := condF hc8 h
      refine nc ?_
      refine nc_seq ?_
      refine nc_seq ?_
      refine nc ?_
      refine nc_cond rfl (fun hc9 => ?_) (fun hc9 => ?_)
      · replace h := condT hc9 h
        refine nc_seq ?_
        refine nc ?_
        refine nc ?_
        replace h := Option.some.inj h
        subst h
        exact ret_inA [.string (bs ([] : List UInt8)), .string (bs ([] : List UInt8)), .int .i64 3] ⟨_, rfl, ⟨rfl, H.frame⟩⟩
      · replace h := condF hc9 h
        refine nc ?_
        refine nc_seq ?_
        obtain ⟨y10, hx11, h⟩ := bindS h
        obtain ⟨y12, hx13, h⟩ := bindS h
        refine nc ?_
        refine draw_rule [] (by kernel_rfl) (by kernel_rfl) H ?_
        refine c_txtI (0 : Int) y1.1 (by kernel_rfl) rfl ⟨_, rfl⟩ hx11 ?_
        refine c_txtI y1.1 (x0.length : Int) (by kernel_rfl) ⟨_, rfl⟩ rfl hx13 ?_
        intro w14 H
        refine nc ?_
        replace h := Option.some.inj h
        subst h
        exact ret_inA [.string (bs y10), .string (bs y12), .int .i64 0] ⟨_, rfl, ⟨rfl, H.frame⟩⟩
/-! gemot/gemotref1.Right -/
noncomputable def gemotref1_Right.f (x0 : List UInt8) : Option (Bool) := (gemotref1_Take.f x0).bind fun y1 => some (cond (cond (y1.2.2 == (0 : Int)) (strEq y1.2.1 ([] : List UInt8)) false) (!(strEq y1.1 ([] : List UInt8))) false)
set_option maxHeartbeats 4000000 in
theorem gemotref1_Right_ok {ok : Nat → Prop} {w : World} {x0 : List UInt8} {r : Bool} (h : gemotref1_Right.f x0 = some r) :
    Calls Try.prog 131 #[.string (bs x0)] w fun e w' => ∃ v, e = .returned v ∧ (v = .bool r ∧ Bel w.heap.size w w') := by
  have H : Eng.Own ok w w [] := Eng.Own.nil ok w
  unfold gemotref1_Right.f at h
  refine enterN (args := [.string (bs x0)]) Try.func131 rfl Try.ntmps131 rfl rfl ?_
  refine nc_seq ?_
  refine nc ?_
  refine nc_seq ?_
  refine nc ?_
  obtain ⟨y1, hy2, h⟩ := bindS h
  refine call_rule (by kernel_rfl) (gemotref1_Take_ok (ok := fun _ => False) hy2) fun v4 w3 ⟨hv5, hb6⟩ => ?_
  subst hv5
  replace H := H.call hb6
  refine nc_seq ?_
  refine nc ?_
  refine nc ?_
  replace h := Option.some.inj h
  subst h
  exact ret_inA [.bool (cond (cond (y1.2.2 == (0 : Int)) (strEq y1.2.1 ([] : List UInt8)) false) (!(strEq y1.1 ([] : List UInt8))) false)] ⟨_, rfl, ⟨rfl, H.frame⟩⟩
/-! gemot/gemotref4.Put -/
noncomputable def gemotref4_Put.b1 (x0 : List (List UInt8)) (v137 : List UInt8) (v138 : Int) : Option (((List UInt8) × Int) ⊕ ((List UInt8) ⊕ ((List UInt8) × Int))) := cond (decide (v138 < (x0.length : Int))) ((idxL x0 v138).bind fun y200 => (gemotref1_Right.f y200).bind fun y206 => cond (!y206) (some (.inr (Sum.inr (([] : List UInt8), (1 : Int))))) (catN (v137.length + [112].length) ((idxL x0 v138).bind fun y214 => catN ((v137 ++ [112]).length + y214.length) (some (.inl (((v137 ++ [112]) ++ y214), (IntKind.i64.wrap (v138 + (1 : Int))))))))) (some (.inr (Sum.inl v137)))
noncomputable def gemotref4_Put.k2 (x0 : List (List UInt8)) (v112 : List UInt8) : Option ((List UInt8) × Int) := cond (decide ((x0.length : Int) > (150 : Int))) (some (([] : List UInt8), (1 : Int))) ((gemotref1_Number.f (0 : Int)).bind fun y223 => roomM 1 (v112.length + y223.length) (cond (decide (((v112 ++ y223).length : Int) > (20000 : Int))) (some (([] : List UInt8), (3 : Int))) ((gemotref1_Right.f (v112 ++ y223)).bind fun y231 => cond (!y231) (some (([] : List UInt8), (4 : Int))) (some ((v112 ++ y223), (0 : Int))))))
noncomputable def gemotref4_Put.f (x0 : List (List UInt8)) : Option ((List UInt8) × Int) := (loopM (fun s196 : (List UInt8) × Int => gemotref4_Put.b1 x0 s196.1 s196.2) (([] : List UInt8), (0 : Int))).bind (Sum.elim (fun (o194 : (List UInt8)) => gemotref4_Put.k2 x0 o194) (fun (o195 : (List UInt8) × Int) => some o195))
set_option maxHeartbeats 4000000 in
theorem gemotref4_Put_ok {ok : Nat → Prop} {w : World} {u1 : Value} {x0 : List (List UInt8)} {r : (List UInt8) × Int} (hu2 : slR tStr w ok u1 x0) (h : gemotref4_Put.f x0 = some r) :
    Calls Try.prog 102 #[u1] w fun e w' => ∃ v, e = .returned v ∧ (v = .tuple #[.string (bs r.1), .int .i64 r.2] ∧ Bel w.heap.size w w') := by
  have H : Eng.Own ok w w [] := Eng.Own.nil ok w
  obtain ⟨A3, c4, rfl, H⟩ := H.arg rfl hu2
  unfold gemotref4_Put.f at h
  refine enterN (args := [.slice A3 x0.length c4]) Try.func102 rfl Try.ntmps102 rfl rfl ?_
  refine nc_seq ?_
  refine nc ?_
  refine nc_seq ?_
  refine nc ?_
  refine nc_cut (fun e w113 => ∃ (v112 : List UInt8), gemotref4_Put.k2 x0 v112 = some r ∧ e = [(0, .slice A3 x0.length c4), (4, .string (bs v112))] ∧ Eng.Own ok w w113 [.dat (dSl tStr (.slice A3 x0.length c4) x0)]) ?_ ?_
  · skip
    refine nc_seq ?_
    refine nc ?_
    refine nc_block ?_
    obtain ⟨o186, hL187, hO188⟩ := bindS h
    obtain ⟨n189, hL187⟩ := loopS hL187
    refine nc ?_
    refine loop_ruleA (fun k e w193 => ∃ (v137 : List UInt8) (v138 : Int), iterM (fun s196 : (List UInt8) × Int => gemotref4_Put.b1 x0 s196.1 s196.2) k (v137, v138) = some o186 ∧ e = [(0, .slice A3 x0.length c4), (4, .string (bs v137)), (5, .int .i64 v138)] ∧ Eng.Own ok w w193 [.dat (dSl tStr (.slice A3 x0.length c4) x0)]) ⟨_, _, hL187, rfl, H.pickL [0] rfl⟩ ?_
    rintro k198 _ w197 ⟨v137, v138, hL187, rfl, H⟩
    obtain ⟨k192, rfl, q190, h, hq191⟩ := iterS hL187
    replace h : gemotref4_Put.b1 x0 v137 v138 = some q190 := h
    unfold gemotref4_Put.b1 at h
    refine nc_seq ?_
    refine nc_seq ?_
    refine nc ?_
    refine nc_cond rfl (fun hc199 => ?_) (fun hc199 => ?_)
    · replace h := condT hc199 h
      refine nc ?_
      refine nc_seq ?_
      refine nc_block ?_
      refine nc_seq ?_
      refine nc_seq ?_
      refine nc ?_
      obtain ⟨y200, hx201, h⟩ := bindS h
      obtain ⟨a202, cs203, rfl, hR204, H⟩ := H.elemI 0 rfl hx201
      obtain rfl : cs203 = [.string (bs y200)] := hR204
      refine idxA_rule (e := 9) 1 _ (by kernel_rfl) (by kernel_rfl) (idxL_some hx201).1 (idxL_some hx201).2.1 ?_
      refine own_loadD H 0 rfl 0 (by kernel_rfl) rfl ?_
      obtain ⟨y206, hy207, h⟩ := bindS h
      refine call_rule (by kernel_rfl) (gemotref1_Right_ok (ok := fun _ => False) hy207) fun v209 w208 ⟨hv210, hb211⟩ => ?_
      subst hv210
      replace H := H.call hb211
      refine nc_cond rfl (fun hc212 => ?_) (fun hc212 => ?_)
      · replace h := condT hc212 h
        refine nc_seq ?_
        refine nc ?_
        refine nc ?_
        cases h
        replace hq191 : (Sum.inr (([] : List UInt8), (1 : Int))) = o186 := hq191
        subst hq191
        have h := hO188
        try dsimp only [Sum.elim_inl, Sum.elim_inr] at h
        replace h := Option.some.inj h
        subst h
        exact ret_inA [.string (bs ([] : List UInt8)), .int .i64 1] ⟨_, rfl, ⟨rfl, H.frame⟩⟩
      · replace h := condF hc212 h
        refine nc ?_
        refine nc ?_
        obtain ⟨hr213, h⟩ := catS h
        refine catN_rule hr213 ?_
        obtain ⟨y214, hx215, h⟩ := bindS h
        obtain ⟨cs217, hR218, H⟩ := H.elemJ 1 rfl hx215
        obtain rfl : cs217 = [.string (bs y214)] := hR218
        refine idxA_rule (e := 9) 1 _ (by kernel_rfl) (by kernel_rfl) (idxL_some hx215).1 (idxL_some hx215).2.1 ?_
        refine own_loadD H 0 rfl 0 (by kernel_rfl) rfl ?_
        obtain ⟨hr220, h⟩ := catS h
        refine catN_rule hr220 ?_
        refine nc ?_
        cases h
        exact again_inA ⟨_, _, hq191, rfl, H.pickL [2] rfl⟩
    · replace h := condF hc199 h
      refine nc ?_
      cases h
      replace hq191 : (Sum.inl v137) = o186 := hq191
      subst hq191
      have h := hO188
      try dsimp only [Sum.elim_inl, Sum.elim_inr] at h
      exact cut_inA ⟨_, h, rfl, H.pickL [0] rfl⟩
  · rintro _ w221 ⟨v112, h, rfl, H⟩
    unfold gemotref4_Put.k2 at h
    refine nc_seq ?_
    refine nc_seq ?_
    refine nc ?_
    refine nc_cond rfl (fun hc222 => ?_) (fun hc222 => ?_)
    · replace h := condT hc222 h
      refine nc_seq ?_
      refine nc ?_
      refine nc ?_
      replace h := Option.some.inj h
      subst h
      exact ret_inA [.string (bs ([] : List UInt8)), .int .i64 1] ⟨_, rfl, ⟨rfl, H.frame⟩⟩
    · replace h := condF hc222 h
      refine nc ?_
      refine nc_seq ?_
      refine nc ?_
      obtain ⟨y223, hy224, h⟩ := bindS h
      refine call_rule (by kernel_rfl) (gemotref1_Number_ok (ok := fun _ => False) hy224) fun v226 w225 ⟨hv227, hb228⟩ => ?_
      subst hv227
      replace H := H.call hb228
      obtain ⟨hr229, h⟩ := roomS h
      refine catM_rule hr229 ?_
      refine nc_seq ?_
      refine nc_seq ?_
      refine nc ?_
      refine nc_cond rfl (fun hc230 => ?_) (fun hc230 => ?_)
      · replace h := condT hc230 h
        refine nc_seq ?_
        refine nc ?_
        refine nc ?_
        replace h := Option.some.inj h
        subst h
        exact ret_inA [.string (bs ([] : List UInt8)), .int .i64 3] ⟨_, rfl, ⟨rfl, H.frame⟩⟩
      · replace h := condF hc230 h
        refine nc ?_
        refine nc_seq ?_
        refine nc_seq ?_
        refine nc ?_
        obtain ⟨y231, hy232, h⟩ := bindS h
        refine call_rule (by kernel_rfl) (gemotref1_Right_ok (ok := fun _ => False) hy232) fun v234 w233 ⟨hv235, hb236⟩ => ?_
        subst hv235
        replace H := H.call hb236
        refine nc_cond rfl (fun hc237 => ?_) (fun hc237 => ?_)
        · replace h := condT hc237 h
          refine nc_seq ?_
          refine nc ?_
          refine nc ?_
          replace h := Option.some.inj h
          subst h
          exact ret_inA [.string (bs ([] : List UInt8)), .int .i64 4] ⟨_, rfl, ⟨rfl, H.frame⟩⟩
        · replace h := condF hc237 h
          refine nc ?_
          refine nc_seq ?_
          refine nc ?_
          refine nc ?_
          replace h := Option.some.inj h
          subst h
          exact ret_inA [.string (bs (v112 ++ y223)), .int .i64 0] ⟨_, rfl, ⟨rfl, H.frame⟩⟩
/-! gemot/gemotref11.row -/
noncomputable def gemotref11_row.b1 (x0 : List Int) (x1 : List (List UInt8)) (v166 : List (List UInt8)) (v170 : Int) : Option (((List (List UInt8)) × Int) ⊕ (List (List UInt8))) := cond (decide (v170 < (x0.length : Int))) ((idxL x0 v170).bind fun y242 => (gemotref1_Number.f (IntKind.u64.wrap y242)).bind fun y248 => roomM 16 (v166.length + 1) (some (.inl ((v166 ++ [y248]), (IntKind.i64.wrap (v170 + (1 : Int))))))) (some (.inr v166))
noncomputable def gemotref11_row.k2 (x1 : List (List UInt8)) (v135 : List (List UInt8)) : Option ((List UInt8) × Int) := roomM 16 (v135.length + x1.length) ((gemotref4_Put.f (v135 ++ x1)).bind fun y273 => cond (cond (y273.2 != (0 : Int)) true ((x1.length : Int) == (0 : Int))) (some (([] : List UInt8), (1 : Int))) (some (y273.1, (0 : Int))))
noncomputable def gemotref11_row.f (x0 : List Int) (x1 : List (List UInt8)) : Option ((List UInt8) × Int) := (loopM (fun s238 : (List (List UInt8)) × Int => gemotref11_row.b1 x0 x1 s238.1 s238.2) (([] : List (List UInt8)), (0 : Int))).bind (fun (o236 : (List (List UInt8))) => gemotref11_row.k2 x1 o236)
set_option maxHeartbeats 4000000 in
theorem gemotref11_row_ok {ok : Nat → Prop} {w : World} {u1 u6 : Value} {x0 : List Int} {x1 : List (List UInt8)} {r : (List UInt8) × Int} (hu2 : slR (tInt .i64) w ok u1 x0) (hu7 : slR tStr w ok u6 x1) (h : gemotref11_row.f x0 x1 = some r) :
    Calls Try.prog 73 #[u1, u6] w fun e w' => ∃ v, e = .returned v ∧ (v = .tuple #[.string (bs r.1), .int .i64 r.2] ∧ Bel w.heap.size w w') := by
  have H : Eng.Own ok w w [] := Eng.Own.nil ok w
  obtain ⟨A3, c4, rfl, H⟩ := H.arg rfl hu2
  obtain ⟨A8, c9, rfl, H⟩ := H.arg rfl hu7
  unfold gemotref11_row.f at h
  refine enterN (args := [.slice A3 x0.length c4, .slice A8 x1.length c9]) Try.func73 rfl Try.ntmps73 rfl rfl ?_
  refine nc_seq ?_
  refine nc ?_
  refine nc_seq ?_
  refine nc ?_
  refine nc_cut (fun e w139 => ∃ (A136 : Option Addr) (c137 : Nat) (cs138 : List Value) (v135 : List (List UInt8)), gemotref11_row.k2 x1 v135 = some r ∧ e = [(1, .slice A8 x1.length c9), (6, .slice A136 v135.length c137)] ∧ Eng.Own ok w w139 [.dat (dSl tStr (.slice A8 x1.length c9) x1), .dat (dRows tStr v135 cs138), .row (.slice A136 v135.length c137) 9 1 v135.length cs138]) ?_ ?_
  · skip
    refine nc_seq ?_
    refine nc ?_
    refine nc_block ?_
    replace H := H.nilRowD tStr 9
    obtain ⟨o228, hL229, hO230⟩ := bindS h
    obtain ⟨n231, hL229⟩ := loopS hL229
    refine nc ?_
    refine loop_ruleA (fun k e w235 => ∃ (A167 : Option Addr) (c168 : Nat) (cs169 : List Value) (v166 : List (List UInt8)) (v170 : Int), iterM (fun s238 : (List (List UInt8)) × Int => gemotref11_row.b1 x0 x1 s238.1 s238.2) k (v166, v170) = some o228 ∧ e = [(0, .slice A3 x0.length c4), (1, .slice A8 x1.length c9), (6, .slice A167 v166.length c168), (7, .int .i64 v170)] ∧ Eng.Own ok w w235 [.dat (dSl (tInt .i64) (.slice A3 x0.length c4) x0), .dat (dSl tStr (.slice A8 x1.length c9) x1), .dat (dRows tStr v166 cs169), .row (.slice A167 v166.length c168) 9 1 v166.length cs169]) ⟨none, 0, [], _, _, hL229, rfl, H.pickL [3, 2, 0, 1] rfl⟩ ?_
    rintro k240 _ w239 ⟨A167, c168, cs169, v166, v170, hL229, rfl, H⟩
    obtain ⟨k234, rfl, q232, h, hq233⟩ := iterS hL229
    replace h : gemotref11_row.b1 x0 x1 v166 v170 = some q232 := h
    unfold gemotref11_row.b1 at h
    refine nc_seq ?_
    refine nc_seq ?_
    refine nc ?_
    refine nc_cond rfl (fun hc241 => ?_) (fun hc241 => ?_)
    · replace h := condT hc241 h
      refine nc ?_
      refine nc_seq ?_
      refine nc_block ?_
      refine nc ?_
      obtain ⟨y242, hx243, h⟩ := bindS h
      obtain ⟨a244, cs245, rfl, hR246, H⟩ := H.elemI 0 rfl hx243
      obtain rfl : cs245 = [.int .i64 y242] := hR246
      refine idxA_rule (e := 3) 1 _ (by kernel_rfl) (by kernel_rfl) (idxL_some hx243).1 (idxL_some hx243).2.1 ?_
      refine own_loadD H 0 rfl 0 (by kernel_rfl) rfl ?_
      obtain ⟨y248, hy249, h⟩ := bindS h
      refine call_rule (by kernel_rfl) (gemotref1_Number_ok (ok := fun _ => False) hy249) fun v251 w250 ⟨hv252, hb253⟩ => ?_
      subst hv252
      replace H := H.call hb253
      refine own_buildSlice (e := 9) (sz := 1) (z := .string ⟨#[]⟩) (cs := [.string (bs y248)]) H (by kernel_rfl) (by kernel_rfl) (by kernel_rfl) rfl rfl rfl rfl fun g255 w256 H => ?_
      obtain ⟨hr257, h⟩ := roomS h
      refine own_append1 (k := tStr) (z := .string ⟨#[]⟩) (x := y248) 16 H 4 3 rfl rfl rfl rfl (by kernel_rfl) (by kernel_rfl) rfl rfl hr257 rfl fun z258 cs259 w260 H => ?_
      obtain ⟨A261, c262, rfl, _, _⟩ := H.rowSl 4 rfl
      refine nc ?_
      cases h
      exact again_inA ⟨A261, c262, cs259, _, _, hq233, rfl, H.pickL [1, 2, 3, 4] rfl⟩
    · replace h := condF hc241 h
      refine nc ?_
      cases h
      replace hq233 : v166 = o228 := hq233
      subst hq233
      have h := hO230
      try dsimp only [Sum.elim_inl, Sum.elim_inr] at h
      exact cut_inA ⟨A167, c168, cs169, _, h, rfl, H.pickL [1, 2, 3] rfl⟩
  · rintro _ w264 ⟨A136, c137, cs138, v135, h, rfl, H⟩
    unfold gemotref11_row.k2 at h
    refine nc_seq ?_
    refine nc ?_
    obtain ⟨hr265, h⟩ := roomS h
    refine own_appendD (k := tStr) (z := .string ⟨#[]⟩) 16 H 2 1 0 rfl rfl rfl rfl (by kernel_rfl) (by kernel_rfl) rfl rfl hr265 rfl fun z266 cs267 w268 H => ?_
    obtain ⟨A269, c270, rfl, _, _⟩ := H.rowSl 2 rfl
    refine nc_seq ?_
    refine nc ?_
    replace H := H.freeze (k := tStr) 2 1 rfl rfl
    obtain ⟨y273, hy274, h⟩ := bindS h
    refine call_rule (by kernel_rfl) (gemotref4_Put_ok (H.dat 2 rfl) hy274) fun v276 w275 ⟨hv277, hb278⟩ => ?_
    subst hv277
    replace H := H.call hb278
    refine nc_seq ?_
    refine nc_seq ?_
    refine nc ?_
    refine nc_cond rfl (fun hc279 => ?_) (fun hc279 => ?_)
    · replace h := condT hc279 h
      refine nc_seq ?_
      refine nc ?_
      refine nc ?_
      replace h := Option.some.inj h
      subst h
      exact ret_inA [.string (bs ([] : List UInt8)), .int .i64 1] ⟨_, rfl, ⟨rfl, H.frame⟩⟩
    · replace h := condF hc279 h
      refine nc ?_
      refine nc_seq ?_
      refine nc ?_
      refine nc ?_
      replace h := Option.some.inj h
      subst h
      exact ret_inA [.string (bs y273.1), .int .i64 0] ⟨_, rfl, ⟨rfl, H.frame⟩⟩
/-! gemot/gemotref11.Put -/
noncomputable def gemotref11_Put.k1 (x0 : List D_gemotref11_Log) (v2704 : List (List UInt8)) (v2708 : Int) (y4088 : (List UInt8) × Int) (v4259 : Bool) : Option (((List (List UInt8)) × Int) ⊕ ((List (List UInt8)) ⊕ ((List (List UInt8)) × Int))) := cond v4259 (some (.inr (Sum.inr (([] : List (List UInt8)), (1 : Int))))) (roomM 16 (v2704.length + 1) (some (.inl ((v2704 ++ [y4088.1]), (IntKind.i64.wrap (v2708 + (1 : Int)))))))
noncomputable def gemotref11_Put.b2 (x0 : List D_gemotref11_Log) (v2704 : List (List UInt8)) (v2708 : Int) : Option (((List (List UInt8)) × Int) ⊕ ((List (List UInt8)) ⊕ ((List (List UInt8)) × Int))) := cond (decide (v2708 < (x0.length : Int))) ((idxL x0 v2708).bind fun y4062 => (idxL x0 v2708).bind fun y4077 => (gemotref11_row.f ([y4062.1] : List Int) y4077.2).bind fun y4088 => cond (y4088.2 != (0 : Int)) (gemotref11_Put.k1 x0 v2704 v2708 y4088 (cond (cond (cond (y4088.2 != (0 : Int)) true (decide ((0 : Int) < (1 : Int)))) true (decide ((0 : Int) > (8 : Int)))) true (cond (decide (v2708 > (0 : Int))) (decide ((0 : Int) ≤ (0 : Int))) false))) ((idxL x0 v2708).bind fun y4264 => cond (decide (y4264.1 < (1 : Int))) (gemotref11_Put.k1 x0 v2704 v2708 y4088 (cond (cond (cond (y4088.2 != (0 : Int)) true (decide (y4264.1 < (1 : Int)))) true (decide ((0 : Int) > (8 : Int)))) true (cond (decide (v2708 > (0 : Int))) (decide ((0 : Int) ≤ (0 : Int))) false))) ((idxL x0 v2708).bind fun y4277 => cond (decide (y4277.1 > (8 : Int))) (gemotref11_Put.k1 x0 v2704 v2708 y4088 (cond (cond (cond (y4088.2 != (0 : Int)) true (decide (y4264.1 < (1 : Int)))) true (decide (y4277.1 > (8 : Int)))) true (cond (decide (v2708 > (0 : Int))) (decide ((0 : Int) ≤ (0 : Int))) false))) (cond (decide (v2708 > (0 : Int))) ((idxL x0 v2708).bind fun y4291 => (idxL x0 (IntKind.i64.wrap (v2708 - (1 : Int)))).bind fun y4302 => gemotref11_Put.k1 x0 v2704 v2708 y4088 (cond (cond (cond (y4088.2 != (0 : Int)) true (decide (y4264.1 < (1 : Int)))) true (decide (y4277.1 > (8 : Int)))) true (cond (decide (v2708 > (0 : Int))) (decide (y4291.1 ≤ y4302.1)) false))) (gemotref11_Put.k1 x0 v2704 v2708 y4088 (cond (cond (cond (y4088.2 != (0 : Int)) true (decide (y4264.1 < (1 : Int)))) true (decide (y4277.1 > (8 : Int)))) true (cond (decide (v2708 > (0 : Int))) (decide ((0 : Int) ≤ (0 : Int))) false))))))) (some (.inr (Sum.inl v2704)))
noncomputable def gemotref11_Put.k3 (v2164 : List (List UInt8)) : Option ((List (List UInt8)) × Int) := some (v2164, (0 : Int))
noncomputable def gemotref11_Put.f (x0 : List D_gemotref11_Log) : Option ((List (List UInt8)) × Int) := (loopM (fun s3793 : (List (List UInt8)) × Int => gemotref11_Put.b2 x0 s3793.1 s3793.2) (([] : List (List UInt8)), (0 : Int))).bind (Sum.elim (fun (o3790 : (List (List UInt8))) => gemotref11_Put.k3 o3790) (fun (o3791 : (List (List UInt8)) × Int) => some o3791))
set_option maxHeartbeats 4000000 in
theorem gemotref11_Put_ok {ok : Nat → Prop} {w : World} {u1 : Value} {x0 : List D_gemotref11_Log} {r : (List (List UInt8)) × Int} (hu2 : slR t_gemotref11_Log w ok u1 x0) (h : gemotref11_Put.f x0 = some r) :
    Calls Try.prog 36 #[u1] w fun e w' => ∃ v, e = .returned v ∧ (∃ (u0_ : Value), v = .tuple #[u0_, .int .i64 r.2] ∧ slR tStr w' (fun b => ok b ∨ w.heap.size ≤ b) u0_ r.1 ∧ Bel w.heap.size w w') := by
  have H : Eng.Own ok w w [] := Eng.Own.nil ok w
  obtain ⟨A3, c4, rfl, H⟩ := H.arg rfl hu2
  unfold gemotref11_Put.f at h
  refine enterN (args := [.slice A3 x0.length c4]) Try.func36 rfl Try.ntmps36 rfl rfl ?_
  refine nc_seq ?_
  refine nc ?_
  refine nc_seq ?_
  refine nc ?_
  refine nc_cut (fun e w2168 => ∃ (A2165 : Option Addr) (c2166 : Nat) (cs2167 : List Value) (v2164 : List (List UInt8)), gemotref11_Put.k3 v2164 = some r ∧ e = [(4, .slice A2165 v2164.length c2166)] ∧ Eng.Own ok w w2168 [.dat (dRows tStr v2164 cs2167), .row (.slice A2165 v2164.length c2166) 9 1 v2164.length cs2167]) ?_ ?_
  · skip
    refine nc_seq ?_
    refine nc ?_
    refine nc_block ?_
    replace H := H.nilRowD tStr 9
    obtain ⟨o3782, hL3783, hO3784⟩ := bindS h
    obtain ⟨n3785, hL3783⟩ := loopS hL3783
    refine nc ?_
    refine loop_ruleA (fun k e w3789 => ∃ (A2705 : Option Addr) (c2706 : Nat) (cs2707 : List Value) (v2704 : List (List UInt8)) (v2708 : Int), iterM (fun s3793 : (List (List UInt8)) × Int => gemotref11_Put.b2 x0 s3793.1 s3793.2) k (v2704, v2708) = some o3782 ∧ e = [(0, .slice A3 x0.length c4), (4, .slice A2705 v2704.length c2706), (5, .int .i64 v2708)] ∧ Eng.Own ok w w3789 [.dat (dSl t_gemotref11_Log (.slice A3 x0.length c4) x0), .dat (dRows tStr v2704 cs2707), .row (.slice A2705 v2704.length c2706) 9 1 v2704.length cs2707]) ⟨none, 0, [], _, _, hL3783, rfl, H.pickL [2, 0, 1] rfl⟩ ?_
    rintro k3795 _ w3794 ⟨A2705, c2706, cs2707, v2704, v2708, hL3783, rfl, H⟩
    obtain ⟨k3788, rfl, q3786, h, hq3787⟩ := iterS hL3783
    replace h : gemotref11_Put.b2 x0 v2704 v2708 = some q3786 := h
    unfold gemotref11_Put.b2 at h
    refine nc_seq ?_
    refine nc_seq ?_
    refine nc ?_
    refine nc_cond rfl (fun hc3796 => ?_) (fun hc3796 => ?_)
    · replace h := condT hc3796 h
      refine nc ?_
      refine nc_seq ?_
      refine nc_block ?_
      refine nc_seq ?_
      obtain ⟨y4062, hx4063, h⟩ := bindS h
      obtain ⟨a4064, cs4065, rfl, hR4066, H⟩ := H.elemI 0 rfl hx4063
      obtain ⟨u4068, rfl, hu4069⟩ := gemotref11_Log_cells hR4066
      obtain ⟨A4070, c4071, rfl, H⟩ := H.openD hu4069
      obtain ⟨y4077, hx4078, h⟩ := bindS h
      obtain ⟨cs4080, hR4081, H⟩ := H.elemJ 2 rfl hx4078
      obtain ⟨u4083, rfl, hu4084⟩ := gemotref11_Log_cells hR4081
      obtain ⟨A4085, c4086, rfl, H⟩ := H.openD hu4084
      obtain ⟨y4088, hy4089, h⟩ := bindS h
      refine nc ?_
      refine draw_rule [] (by kernel_rfl) (by kernel_rfl) H ?_
      refine c_idxA (e := 116) 2 _ (by kernel_rfl) (by kernel_rfl) (idxL_some hx4063).1 (idxL_some hx4063).2.1 ?_
      refine c_loadD 3 rfl 0 (by kernel_rfl) rfl ?_
      refine c_buildData (k := (tInt .i64)) (e := 3) (z := .int .i64 0) [.int .i64 y4062.1] [y4062.1] (by kernel_rfl) (by kernel_rfl) (by kernel_rfl) rfl rfl rfl rfl rfl rfl (by decide) (fun _ _ H => ⟨_, _, rfl, rfl, rfl⟩) ?_
      intro g4074
      refine c_idxA (e := 116) 2 _ (by kernel_rfl) (by kernel_rfl) (idxL_some hx4078).1 (idxL_some hx4078).2.1 ?_
      refine c_loadD 1 rfl 1 (by kernel_rfl) rfl ?_
      refine c_call (.tuple #[.string (bs y4088.1), .int .i64 y4088.2]) (by kernel_rfl) (fun _ _ H => gemotref11_row_ok (H.dat 0 rfl) (H.dat 1 rfl) hy4089) ?_
      intro w4094 H
      refine nc_seq ?_
      refine nc_cut (fun e w4260 => ∃ (v4259 : Bool), gemotref11_Put.k1 x0 v2704 v2708 y4088 v4259 = some q3786 ∧ e = [(0, .slice (some a4064) x0.length c4), (4, .slice A2705 v2704.length c2706), (5, .int .i64 v2708), (6, .string (bs y4088.1)), (64, .bool v4259)] ∧ Eng.Own ok w w4260 [.dat (dSl t_gemotref11_Log (.slice (some a4064) x0.length c4) x0), .dat (dRows tStr v2704 cs2707), .row (.slice A2705 v2704.length c2706) 9 1 v2704.length cs2707]) ?_ ?_
      · skip
        rcases Bool.eq_false_or_eq_true (y4088.2 != (0 : Int)) with hg4262 | hg4262
        · replace h := condT hg4262 h
          refine nc ?_
          refine draw_rule [] (by kernel_rfl) (by kernel_rfl) H ?_
          refine c_skipIA (.pointer (some ⟨0, 0, none⟩)) (gF0 hg4262) ?_
          refine c_skipLD (.int .i64 0) (gF0 hg4262) ?_
          refine c_skipIA (.pointer (some ⟨0, 0, none⟩)) (gF0 (pickT hg4262)) ?_
          refine c_skipLD (.int .i64 0) (gF0 (pickT hg4262)) ?_
          refine c_skipIA (.pointer (some ⟨0, 0, none⟩)) (by first | exact gFr (gF0 (pickT (pickT hg4262))) | exact (gF0 (pickT (pickT hg4262))) | rfl) ?_
          refine c_skipLD (.int .i64 0) (by first | exact gFr (gF0 (pickT (pickT hg4262))) | exact (gF0 (pickT (pickT hg4262))) | rfl) ?_
          refine c_skipIA (.pointer (some ⟨0, 0, none⟩)) (by first | exact gFr (gF0 (pickT (pickT hg4262))) | exact (gF0 (pickT (pickT hg4262))) | rfl) ?_
          refine c_skipLD (.int .i64 0) (by first | exact gFr (gF0 (pickT (pickT hg4262))) | exact (gF0 (pickT (pickT hg4262))) | rfl) ?_
          intro w4263 H
          exact cut_inA ⟨_, h, rfl, H.pickL [5, 6, 7] rfl⟩
        · replace h := condF hg4262 h
          obtain ⟨y4264, hx4265, h⟩ := bindS h
          obtain ⟨cs4267, hR4268, H⟩ := H.elemJ 5 rfl hx4265
          obtain ⟨u4270, rfl, hu4271⟩ := gemotref11_Log_cells hR4268
          obtain ⟨A4272, c4273, rfl, H⟩ := H.openD hu4271
          rcases Bool.eq_false_or_eq_true (decide (y4264.1 < (1 : Int))) with hg4275 | hg4275
          · replace h := condT hg4275 h
            refine nc ?_
            refine draw_rule [] (by kernel_rfl) (by kernel_rfl) H ?_
            refine c_idxA (e := 116) 2 _ (by kernel_rfl) (by kernel_rfl) (idxL_some hx4265).1 (idxL_some hx4265).2.1 ?_
            refine c_loadD 1 rfl 0 (by kernel_rfl) rfl ?_
            refine c_skipIA (.pointer (some ⟨0, 0, none⟩)) (gF0 ((pickF hg4262).trans hg4275)) ?_
            refine c_skipLD (.int .i64 0) (gF0 ((pickF hg4262).trans hg4275)) ?_
            refine c_skipIA (.pointer (some ⟨0, 0, none⟩)) (by first | exact gFr (gF0 (pickT ((pickF hg4262).trans hg4275))) | exact (gF0 (pickT ((pickF hg4262).trans hg4275))) | rfl) ?_
            refine c_skipLD (.int .i64 0) (by first | exact gFr (gF0 (pickT ((pickF hg4262).trans hg4275))) | exact (gF0 (pickT ((pickF hg4262).trans hg4275))) | rfl) ?_
            refine c_skipIA (.pointer (some ⟨0, 0, none⟩)) (by first | exact gFr (gF0 (pickT ((pickF hg4262).trans hg4275))) | exact (gF0 (pickT ((pickF hg4262).trans hg4275))) | rfl) ?_
            refine c_skipLD (.int .i64 0) (by first | exact gFr (gF0 (pickT ((pickF hg4262).trans hg4275))) | exact (gF0 (pickT ((pickF hg4262).trans hg4275))) | rfl) ?_
            intro w4276 H
            exact cut_inA ⟨_, h, rfl, H.pickL [7, 8, 9] rfl⟩
          · replace h := condF hg4275 h
            obtain ⟨y4277, hx4278, h⟩ := bindS h
            obtain ⟨cs4280, hR4281, H⟩ := H.elemJ 7 rfl hx4278
            obtain ⟨u4283, rfl, hu4284⟩ := gemotref11_Log_cells hR4281
            obtain ⟨A4285, c4286, rfl, H⟩ := H.openD hu4284
            rcases Bool.eq_false_or_eq_true (decide (y4277.1 > (8 : Int))) with hg4288 | hg4288
            · replace h := condT hg4288 h
              refine nc ?_
              refine draw_rule [] (by kernel_rfl) (by kernel_rfl) H ?_
              refine c_idxA (e := 116) 2 _ (by kernel_rfl) (by kernel_rfl) (idxL_some hx4265).1 (idxL_some hx4265).2.1 ?_
              refine c_loadD 3 rfl 0 (by kernel_rfl) rfl ?_
              refine c_idxA (e := 116) 2 _ (by kernel_rfl) (by kernel_rfl) (idxL_some hx4278).1 (idxL_some hx4278).2.1 ?_
              refine c_loadD 1 rfl 0 (by kernel_rfl) rfl ?_
              refine c_skipIA (.pointer (some ⟨0, 0, none⟩)) (by first | exact gFr (gF0 ((pickF ((pickF hg4262).trans hg4275)).trans hg4288)) | exact (gF0 ((pickF ((pickF hg4262).trans hg4275)).trans hg4288)) | rfl) ?_
              refine c_skipLD (.int .i64 0) (by first | exact gFr (gF0 ((pickF ((pickF hg4262).trans hg4275)).trans hg4288)) | exact (gF0 ((pickF ((pickF hg4262).trans hg4275)).trans hg4288)) | rfl) ?_
              refine c_skipIA (.pointer (some ⟨0, 0, none⟩)) (by first | exact gFr (gF0 ((pickF ((pickF hg4262).trans hg4275)).trans hg4288)) | exact (gF0 ((pickF ((pickF hg4262).trans hg4275)).trans hg4288)) | rfl) ?_
              refine c_skipLD (.int .i64 0) (by first | exact gFr (gF0 ((pickF ((pickF hg4262).trans hg4275)).trans hg4288)) | exact (gF0 ((pickF ((pickF hg4262).trans hg4275)).trans hg4288)) | rfl) ?_
              intro w4289 H
              exact cut_inA ⟨_, h, rfl, H.pickL [9, 10, 11] rfl⟩
            · replace h := condF hg4288 h
              rcases Bool.eq_false_or_eq_true (decide (v2708 > (0 : Int))) with hg4290 | hg4290
              · replace h := condT hg4290 h
                obtain ⟨y4291, hx4292, h⟩ := bindS h
                obtain ⟨cs4294, hR4295, H⟩ := H.elemJ 9 rfl hx4292
                obtain ⟨u4297, rfl, hu4298⟩ := gemotref11_Log_cells hR4295
                obtain ⟨A4299, c4300, rfl, H⟩ := H.openD hu4298
                obtain ⟨y4302, hx4303, h⟩ := bindS h
                obtain ⟨cs4305, hR4306, H⟩ := H.elemJ 11 rfl hx4303
                obtain ⟨u4308, rfl, hu4309⟩ := gemotref11_Log_cells hR4306
                obtain ⟨A4310, c4311, rfl, H⟩ := H.openD hu4309
                refine nc ?_
                refine draw_rule [] (by kernel_rfl) (by kernel_rfl) H ?_
                refine c_idxA (e := 116) 2 _ (by kernel_rfl) (by kernel_rfl) (idxL_some hx4265).1 (idxL_some hx4265).2.1 ?_
                refine c_loadD 7 rfl 0 (by kernel_rfl) rfl ?_
                refine c_idxA (e := 116) 2 _ (by kernel_rfl) (by kernel_rfl) (idxL_some hx4278).1 (idxL_some hx4278).2.1 ?_
                refine c_loadD 5 rfl 0 (by kernel_rfl) rfl ?_
                refine c_idxA (e := 116) 2 _ (by kernel_rfl) (by kernel_rfl) (idxL_some hx4292).1 (idxL_some hx4292).2.1 ?_
                refine c_loadD 3 rfl 0 (by kernel_rfl) rfl ?_
                refine c_idxA (e := 116) 2 _ (by kernel_rfl) (by kernel_rfl) (idxL_some hx4303).1 (idxL_some hx4303).2.1 ?_
                refine c_loadD 1 rfl 0 (by kernel_rfl) rfl ?_
                intro w4313 H
                exact cut_inA ⟨_, h, rfl, H.pickL [13, 14, 15] rfl⟩
              · replace h := condF hg4290 h
                refine nc ?_
                refine draw_rule [] (by kernel_rfl) (by kernel_rfl) H ?_
                refine c_idxA (e := 116) 2 _ (by kernel_rfl) (by kernel_rfl) (idxL_some hx4265).1 (idxL_some hx4265).2.1 ?_
                refine c_loadD 3 rfl 0 (by kernel_rfl) rfl ?_
                refine c_idxA (e := 116) 2 _ (by kernel_rfl) (by kernel_rfl) (idxL_some hx4278).1 (idxL_some hx4278).2.1 ?_
                refine c_loadD 1 rfl 0 (by kernel_rfl) rfl ?_
                refine c_skipIA (.pointer (some ⟨0, 0, none⟩)) (gF1 hg4290) ?_
                refine c_skipLD (.int .i64 0) (gF1 hg4290) ?_
                refine c_skipIA (.pointer (some ⟨0, 0, none⟩)) (gF1 hg4290) ?_
                refine c_skipLD (.int .i64 0) (gF1 hg4290) ?_
                intro w4314 H
                exact cut_inA ⟨_, h, rfl, H.pickL [9, 10, 11] rfl⟩
      · rintro _ w4315 ⟨v4259, h, rfl, H⟩
        unfold gemotref11_Put.k1 at h
        refine nc_cond rfl (fun hc4316 => ?_) (fun hc4316 => ?_)
        · replace h := condT hc4316 h
          refine nc_seq ?_
          refine nc ?_
          refine nc ?_
          cases h
          replace hq3787 : (Sum.inr (([] : List (List UInt8)), (1 : Int))) = o3782 := hq3787
          subst hq3787
          have h := hO3784
          try dsimp only [Sum.elim_inl, Sum.elim_inr] at h
          replace h := Option.some.inj h
          subst h
          exact ret_inA [.slice none 0 0, .int .i64 1] ⟨_, rfl, ⟨_, rfl, nilR, H.frame⟩⟩
        · replace h := condF hc4316 h
          refine nc ?_
          refine nc ?_
          refine own_buildSlice (e := 9) (sz := 1) (z := .string ⟨#[]⟩) (cs := [.string (bs y4088.1)]) H (by kernel_rfl) (by kernel_rfl) (by kernel_rfl) rfl rfl rfl rfl fun g4318 w4319 H => ?_
          obtain ⟨hr4320, h⟩ := roomS h
          refine own_append1 (k := tStr) (z := .string ⟨#[]⟩) (x := y4088.1) 16 H 2 1 rfl rfl rfl rfl (by kernel_rfl) (by kernel_rfl) rfl rfl hr4320 rfl fun z4321 cs4322 w4323 H => ?_
          obtain ⟨A4324, c4325, rfl, _, _⟩ := H.rowSl 2 rfl
          refine nc ?_
          cases h
          exact again_inA ⟨A4324, c4325, cs4322, _, _, hq3787, rfl, H.pickL [0, 1, 2] rfl⟩
    · replace h := condF hc3796 h
      refine nc ?_
      cases h
      replace hq3787 : (Sum.inl v2704) = o3782 := hq3787
      subst hq3787
      have h := hO3784
      try dsimp only [Sum.elim_inl, Sum.elim_inr] at h
      exact cut_inA ⟨A2705, c2706, cs2707, _, h, rfl, H.pickL [1, 2] rfl⟩
  · rintro _ w4327 ⟨A2165, c2166, cs2167, v2164, h, rfl, H⟩
    unfold gemotref11_Put.k3 at h
    refine nc_seq ?_
    refine nc ?_
    refine nc ?_
    replace H := H.freeze (k := tStr) 1 0 rfl rfl
    replace h := Option.some.inj h
    subst h
    exact ret_inA [.slice A2165 v2164.length c2166, .int .i64 0] ⟨_, rfl, ⟨_, rfl, H.outD 1 rfl, H.frame⟩⟩
/-! gemot/gemotref11.Parts -/
noncomputable def gemotref11_Parts.k1 (x0 : List D_gemotref11_Part) (v1384 : List (List UInt8)) (v1388 : Int) (y2101 : (List UInt8) × Int) (v2178 : Bool) : Option (((List (List UInt8)) × Int) ⊕ ((List (List UInt8)) ⊕ ((List (List UInt8)) × Int))) := cond v2178 (some (.inr (Sum.inr (([] : List (List UInt8)), (1 : Int))))) (roomM 16 (v1384.length + 1) (some (.inl ((v1384 ++ [y2101.1]), (IntKind.i64.wrap (v1388 + (1 : Int)))))))
noncomputable def gemotref11_Parts.b2 (x0 : List D_gemotref11_Part) (v1384 : List (List UInt8)) (v1388 : Int) : Option (((List (List UInt8)) × Int) ⊕ ((List (List UInt8)) ⊕ ((List (List UInt8)) × Int))) := cond (decide (v1388 < (x0.length : Int))) ((idxL x0 v1388).bind fun y2082 => (gemotref11_row.f ([y2082.1.1, y2082.1.2, y2082.2.1] : List Int) y2082.2.2).bind fun y2101 => cond (cond (cond (cond (cond (cond (cond (y2101.2 != (0 : Int)) true (decide (y2082.2.1 < (1 : Int)))) true (decide (y2082.2.1 > (8 : Int)))) true (decide (y2082.1.1 < (0 : Int)))) true (decide (y2082.1.1 > (2147483647 : Int)))) true (decide (y2082.1.2 < (0 : Int)))) true (decide (y2082.1.2 > (8 : Int)))) (gemotref11_Parts.k1 x0 v1384 v1388 y2101 (cond (cond (cond (cond (cond (cond (cond (y2101.2 != (0 : Int)) true (decide (y2082.2.1 < (1 : Int)))) true (decide (y2082.2.1 > (8 : Int)))) true (decide (y2082.1.1 < (0 : Int)))) true (decide (y2082.1.1 > (2147483647 : Int)))) true (decide (y2082.1.2 < (0 : Int)))) true (decide (y2082.1.2 > (8 : Int)))) true (cond (decide (v1388 > (0 : Int))) (!false) false))) (cond (decide (v1388 > (0 : Int))) ((idxL x0 (IntKind.i64.wrap (v1388 - (1 : Int)))).bind fun y2184 => (gemotref11_ahead.f ((y2184.1.1, y2184.1.2), y2184.2.1, y2184.2.2) ((y2082.1.1, y2082.1.2), y2082.2.1, y2082.2.2)).bind fun y2195 => gemotref11_Parts.k1 x0 v1384 v1388 y2101 (cond (cond (cond (cond (cond (cond (cond (y2101.2 != (0 : Int)) true (decide (y2082.2.1 < (1 : Int)))) true (decide (y2082.2.1 > (8 : Int)))) true (decide (y2082.1.1 < (0 : Int)))) true (decide (y2082.1.1 > (2147483647 : Int)))) true (decide (y2082.1.2 < (0 : Int)))) true (decide (y2082.1.2 > (8 : Int)))) true (cond (decide (v1388 > (0 : Int))) (!y2195) false))) (gemotref11_Parts.k1 x0 v1384 v1388 y2101 (cond (cond (cond (cond (cond (cond (cond (y2101.2 != (0 : Int)) true (decide (y2082.2.1 < (1 : Int)))) true (decide (y2082.2.1 > (8 : Int)))) true (decide (y2082.1.1 < (0 : Int)))) true (decide (y2082.1.1 > (2147483647 : Int)))) true (decide (y2082.1.2 < (0 : Int)))) true (decide (y2082.1.2 > (8 : Int)))) true (cond (decide (v1388 > (0 : Int))) (!false) false))))) (some (.inr (Sum.inl v1384)))
noncomputable def gemotref11_Parts.k3 (v1108 : List (List UInt8)) : Option ((List (List UInt8)) × Int) := some (v1108, (0 : Int))
noncomputable def gemotref11_Parts.f (x0 : List D_gemotref11_Part) : Option ((List (List UInt8)) × Int) := (loopM (fun s1945 : (List (List UInt8)) × Int => gemotref11_Parts.b2 x0 s1945.1 s1945.2) (([] : List (List UInt8)), (0 : Int))).bind (Sum.elim (fun (o1942 : (List (List UInt8))) => gemotref11_Parts.k3 o1942) (fun (o1943 : (List (List UInt8)) × Int) => some o1943))
set_option maxHeartbeats 4000000 in
theorem gemotref11_Parts_ok {ok : Nat → Prop} {w : World} {u1 : Value} {x0 : List D_gemotref11_Part} {r : (List (List UInt8)) × Int} (hu2 : slR t_gemotref11_Part w ok u1 x0) (h : gemotref11_Parts.f x0 = some r) :
    Calls Try.prog 37 #[u1] w fun e w' => ∃ v, e = .returned v ∧ (∃ (u0_ : Value), v = .tuple #[u0_, .int .i64 r.2] ∧ slR tStr w' (fun b => ok b ∨ w.heap.size ≤ b) u0_ r.1 ∧ Bel w.heap.size w w') := by
  have H : Eng.Own ok w w [] := Eng.Own.nil ok w
  obtain ⟨A3, c4, rfl, H⟩ := H.arg rfl hu2
  unfold gemotref11_Parts.f at h
  refine enterN (args := [.slice A3 x0.length c4]) Try.func37 rfl Try.ntmps37 rfl rfl ?_
  refine nc_seq ?_
  refine nc ?_
  refine nc_seq ?_
  refine nc ?_
  refine nc_cut (fun e w1112 => ∃ (A1109 : Option Addr) (c1110 : Nat) (cs1111 : List Value) (v1108 : List (List UInt8)), gemotref11_Parts.k3 v1108 = some r ∧ e = [(4, .slice A1109 v1108.length c1110)] ∧ Eng.Own ok w w1112 [.dat (dRows tStr v1108 cs1111), .row (.slice A1109 v1108.length c1110) 9 1 v1108.length cs1111]) ?_ ?_
  · skip
    refine nc_seq ?_
    refine nc ?_
    refine nc_block ?_
    replace H := H.nilRowD tStr 9
    obtain ⟨o1934, hL1935, hO1936⟩ := bindS h
    obtain ⟨n1937, hL1935⟩ := loopS hL1935
    refine nc ?_
    refine loop_ruleA (fun k e w1941 => ∃ (A1385 : Option Addr) (c1386 : Nat) (cs1387 : List Value) (v1384 : List (List UInt8)) (v1388 : Int), iterM (fun s1945 : (List (List UInt8)) × Int => gemotref11_Parts.b2 x0 s1945.1 s1945.2) k (v1384, v1388) = some o1934 ∧ e = [(0, .slice A3 x0.length c4), (4, .slice A1385 v1384.length c1386), (5, .int .i64 v1388)] ∧ Eng.Own ok w w1941 [.dat (dSl t_gemotref11_Part (.slice A3 x0.length c4) x0), .dat (dRows tStr v1384 cs1387), .row (.slice A1385 v1384.length c1386) 9 1 v1384.length cs1387]) ⟨none, 0, [], _, _, hL1935, rfl, H.pickL [2, 0, 1] rfl⟩ ?_
    rintro k1947 _ w1946 ⟨A1385, c1386, cs1387, v1384, v1388, hL1935, rfl, H⟩
    obtain ⟨k1940, rfl, q1938, h, hq1939⟩ := iterS hL1935
    replace h : gemotref11_Parts.b2 x0 v1384 v1388 = some q1938 := h
    unfold gemotref11_Parts.b2 at h
    refine nc_seq ?_
    refine nc_seq ?_
    refine nc ?_
    refine nc_cond rfl (fun hc1948 => ?_) (fun hc1948 => ?_)
    · replace h := condT hc1948 h
      refine nc ?_
      refine nc_seq ?_
      refine nc_block ?_
      refine nc_seq ?_
      refine nc ?_
      obtain ⟨y2082, hx2083, h⟩ := bindS h
      obtain ⟨a2084, cs2085, rfl, hR2086, H⟩ := H.elemI 0 rfl hx2083
      obtain ⟨u2088, rfl, hu2089⟩ := gemotref11_Part_cells hR2086
      obtain ⟨A2090, c2091, rfl, H⟩ := H.openD hu2089
      refine idxA_rule (e := 102) 4 _ (by kernel_rfl) (by kernel_rfl) (idxL_some hx2083).1 (idxL_some hx2083).2.1 ?_
      refine own_loadDA (m := 4) H 1 rfl 0 (by kernel_rfl) (by kernel_rfl) [.int .i64 y2082.1.1, .int .i64 y2082.1.2, .int .i64 y2082.2.1, .slice A2090 y2082.2.2.length c2091] rfl rfl ?_
      refine own_alloc (z := .agg #[.int .i64 0, .int .i64 0, .int .i64 0, .slice none 0 0]) H (by kernel_rfl) [.int .i64 0, .int .i64 0, .int .i64 0, .slice none 0 0] rfl fun g2094 w2095 H => ?_
      refine own_storeB (m := 4) H 0 rfl (by kernel_rfl) [.int .i64 y2082.1.1, .int .i64 y2082.1.2, .int .i64 y2082.2.1, .slice A2090 y2082.2.2.length c2091] rfl rfl rfl rfl fun w2096 H => ?_
      refine nc_seq ?_
      refine nc ?_
      refine own_load H 0 rfl (by kernel_rfl) (j := 0) rfl ?_
      refine own_load H 0 rfl (by kernel_rfl) (j := 1) rfl ?_
      refine own_load H 0 rfl (by kernel_rfl) (j := 2) rfl ?_
      refine own_buildSlice (e := 3) (sz := 1) (z := .int .i64 0) (cs := [.int .i64 y2082.1.1, .int .i64 y2082.1.2, .int .i64 y2082.2.1]) H (by kernel_rfl) (by kernel_rfl) (by kernel_rfl) rfl rfl rfl rfl fun g2098 w2099 H => ?_
      replace H := H.blkSl (k := (tInt .i64)) [y2082.1.1, y2082.1.2, y2082.2.1] 3 rfl rfl (by decide) ⟨_, _, rfl, rfl, ⟨_, _, rfl, rfl, ⟨_, _, rfl, rfl, rfl⟩⟩⟩
      refine own_load H 1 rfl (by kernel_rfl) (j := 3) rfl ?_
      obtain ⟨y2101, hy2102, h⟩ := bindS h
      refine call_rule (by kernel_rfl) (gemotref11_row_ok (H.dat 0 rfl) (H.dat 2 rfl) hy2102) fun v2104 w2103 ⟨hv2105, hb2106⟩ => ?_
      subst hv2105
      replace H := H.call hb2106
      refine nc_seq ?_
      refine nc_cut (fun e w2179 => ∃ (v2178 : Bool), gemotref11_Parts.k1 x0 v1384 v1388 y2101 v2178 = some q1938 ∧ e = [(0, .slice (some a2084) x0.length c4), (4, .slice A1385 v1384.length c1386), (5, .int .i64 v1388), (7, .string (bs y2101.1)), (83, .bool v2178)] ∧ Eng.Own ok w w2179 [.dat (dSl t_gemotref11_Part (.slice (some a2084) x0.length c4) x0), .dat (dRows tStr v1384 cs1387), .row (.slice A1385 v1384.length c1386) 9 1 v1384.length cs1387]) ?_ ?_
      · skip
        rcases Bool.eq_false_or_eq_true (cond (cond (cond (cond (cond (cond (y2101.2 != (0 : Int)) true (decide (y2082.2.1 < (1 : Int)))) true (decide (y2082.2.1 > (8 : Int)))) true (decide (y2082.1.1 < (0 : Int)))) true (decide (y2082.1.1 > (2147483647 : Int)))) true (decide (y2082.1.2 < (0 : Int)))) true (decide (y2082.1.2 > (8 : Int)))) with hg2181 | hg2181
        · replace h := condT hg2181 h
          refine nc ?_
          refine draw_rule [] (by kernel_rfl) (by kernel_rfl) H ?_
          refine c_load 1 rfl (by kernel_rfl) (j := 2) rfl ?_
          refine c_load 1 rfl (by kernel_rfl) (j := 2) rfl ?_
          refine c_load 1 rfl (by kernel_rfl) (j := 0) rfl ?_
          refine c_load 1 rfl (by kernel_rfl) (j := 0) rfl ?_
          refine c_load 1 rfl (by kernel_rfl) (j := 1) rfl ?_
          refine c_load 1 rfl (by kernel_rfl) (j := 1) rfl ?_
          refine c_skipIA (.pointer (some ⟨0, 0, none⟩)) (by first | exact gFr (gF0 hg2181) | exact (gF0 hg2181) | rfl) ?_
          refine c_skipLD (.agg #[.int .i64 0, .int .i64 0, .int .i64 0, .slice none 0 0]) (by first | exact gFr (gF0 hg2181) | exact (gF0 hg2181) | rfl) ?_
          refine c_skipLD (.agg #[.int .i64 0, .int .i64 0, .int .i64 0, .slice none 0 0]) (by first | exact gFr (gF0 hg2181) | exact (gF0 hg2181) | rfl) ?_
          refine c_skipCL (.bool false) (by first | exact gFr (gF0 hg2181) | exact (gF0 hg2181) | rfl) ?_
          intro w2182 H
          exact cut_inA ⟨_, h, rfl, H.pickL [4, 5, 6] rfl⟩
        · replace h := condF hg2181 h
          rcases Bool.eq_false_or_eq_true (decide (v1388 > (0 : Int))) with hg2183 | hg2183
          · replace h := condT hg2183 h
            obtain ⟨y2184, hx2185, h⟩ := bindS h
            obtain ⟨cs2187, hR2188, H⟩ := H.elemJ 4 rfl hx2185
            obtain ⟨u2190, rfl, hu2191⟩ := gemotref11_Part_cells hR2188
            obtain ⟨A2192, c2193, rfl, H⟩ := H.openD hu2191
            obtain ⟨y2195, hy2196, h⟩ := bindS h
            refine nc ?_
            refine draw_rule [] (by kernel_rfl) (by kernel_rfl) H ?_
            refine c_load 3 rfl (by kernel_rfl) (j := 2) rfl ?_
            refine c_load 3 rfl (by kernel_rfl) (j := 2) rfl ?_
            refine c_load 3 rfl (by kernel_rfl) (j := 0) rfl ?_
            refine c_load 3 rfl (by kernel_rfl) (j := 0) rfl ?_
            refine c_load 3 rfl (by kernel_rfl) (j := 1) rfl ?_
            refine c_load 3 rfl (by kernel_rfl) (j := 1) rfl ?_
            refine c_idxA (e := 102) 4 _ (by kernel_rfl) (by kernel_rfl) (idxL_some hx2185).1 (idxL_some hx2185).2.1 ?_
            refine c_loadDA (m := 4) 1 rfl 0 (by kernel_rfl) (by kernel_rfl) [.int .i64 y2184.1.1, .int .i64 y2184.1.2, .int .i64 y2184.2.1, .slice A2192 y2184.2.2.length c2193] rfl rfl ?_
            refine c_loadA (m := 4) 3 rfl (by kernel_rfl) (by kernel_rfl) [.int .i64 y2082.1.1, .int .i64 y2082.1.2, .int .i64 y2082.2.1, .slice A2090 y2082.2.2.length c2091] rfl rfl ?_
            refine c_call (.bool y2195) (by kernel_rfl) (fun _ _ H => gemotref11_ahead_ok (x0 := ((y2184.1.1, y2184.1.2), y2184.2.1, y2184.2.2)) (x1 := ((y2082.1.1, y2082.1.2), y2082.2.1, y2082.2.2)) (H.dat 0 rfl) (H.dat 4 rfl) hy2196) ?_
            intro w2201 H
            exact cut_inA ⟨_, h, rfl, H.pickL [6, 7, 8] rfl⟩
          · replace h := condF hg2183 h
            refine nc ?_
            refine draw_rule [] (by kernel_rfl) (by kernel_rfl) H ?_
            refine c_load 1 rfl (by kernel_rfl) (j := 2) rfl ?_
            refine c_load 1 rfl (by kernel_rfl) (j := 2) rfl ?_
            refine c_load 1 rfl (by kernel_rfl) (j := 0) rfl ?_
            refine c_load 1 rfl (by kernel_rfl) (j := 0) rfl ?_
            refine c_load 1 rfl (by kernel_rfl) (j := 1) rfl ?_
            refine c_load 1 rfl (by kernel_rfl) (j := 1) rfl ?_
            refine c_skipIA (.pointer (some ⟨0, 0, none⟩)) (gF1 hg2183) ?_
            refine c_skipLD (.agg #[.int .i64 0, .int .i64 0, .int .i64 0, .slice none 0 0]) (gF1 hg2183) ?_
            refine c_skipLD (.agg #[.int .i64 0, .int .i64 0, .int .i64 0, .slice none 0 0]) (gF1 hg2183) ?_
            refine c_skipCL (.bool false) (gF1 hg2183) ?_
            intro w2202 H
            exact cut_inA ⟨_, h, rfl, H.pickL [4, 5, 6] rfl⟩
      · rintro _ w2203 ⟨v2178, h, rfl, H⟩
        unfold gemotref11_Parts.k1 at h
        refine nc_cond rfl (fun hc2204 => ?_) (fun hc2204 => ?_)
        · replace h := condT hc2204 h
          refine nc_seq ?_
          refine nc ?_
          refine nc ?_
          cases h
          replace hq1939 : (Sum.inr (([] : List (List UInt8)), (1 : Int))) = o1934 := hq1939
          subst hq1939
          have h := hO1936
          try dsimp only [Sum.elim_inl, Sum.elim_inr] at h
          replace h := Option.some.inj h
          subst h
          exact ret_inA [.slice none 0 0, .int .i64 1] ⟨_, rfl, ⟨_, rfl, nilR, H.frame⟩⟩
        · replace h := condF hc2204 h
          refine nc ?_
          refine nc ?_
          refine own_buildSlice (e := 9) (sz := 1) (z := .string ⟨#[]⟩) (cs := [.string (bs y2101.1)]) H (by kernel_rfl) (by kernel_rfl) (by kernel_rfl) rfl rfl rfl rfl fun g2206 w2207 H => ?_
          obtain ⟨hr2208, h⟩ := roomS h
          refine own_append1 (k := tStr) (z := .string ⟨#[]⟩) (x := y2101.1) 16 H 2 1 rfl rfl rfl rfl (by kernel_rfl) (by kernel_rfl) rfl rfl hr2208 rfl fun z2209 cs2210 w2211 H => ?_
          obtain ⟨A2212, c2213, rfl, _, _⟩ := H.rowSl 2 rfl
          refine nc ?_
          cases h
          exact again_inA ⟨A2212, c2213, cs2210, _, _, hq1939, rfl, H.pickL [0, 1, 2] rfl⟩
    · replace h := condF hc1948 h
      refine nc ?_
      cases h
      replace hq1939 : (Sum.inl v1384) = o1934 := hq1939
      subst hq1939
      have h := hO1936
      try dsimp only [Sum.elim_inl, Sum.elim_inr] at h
      exact cut_inA ⟨A1385, c1386, cs1387, _, h, rfl, H.pickL [1, 2] rfl⟩
  · rintro _ w2215 ⟨A1109, c1110, cs1111, v1108, h, rfl, H⟩
    unfold gemotref11_Parts.k3 at h
    refine nc_seq ?_
    refine nc ?_
    refine nc ?_
    replace H := H.freeze (k := tStr) 1 0 rfl rfl
    replace h := Option.some.inj h
    subst h
    exact ret_inA [.slice A1109 v1108.length c1110, .int .i64 0] ⟨_, rfl, ⟨_, rfl, H.outD 1 rfl, H.frame⟩⟩
/-! gemot/parts.Kind -/
noncomputable def parts_Kind.f (x0 : List UInt8) : Option (Int) := (term_Right.f x0).bind fun y1 => cond (!y1) (some (0 : Int)) ((idxS x0 (0 : Int)).bind fun y8 => some y8)
set_option maxHeartbeats 4000000 in
theorem parts_Kind_ok {ok : Nat → Prop} {w : World} {x0 : List UInt8} {r : Int} (h : parts_Kind.f x0 = some r) :
    Calls Try.prog 106 #[.string (bs x0)] w fun e w' => ∃ v, e = .returned v ∧ (v = .int .u8 r ∧ Bel w.heap.size w w') := by
  have H : Eng.Own ok w w [] := Eng.Own.nil ok w
  unfold parts_Kind.f at h
  refine enterN (args := [.string (bs x0)]) Try.func106 rfl Try.ntmps106 rfl rfl ?_
  refine nc_seq ?_
  refine nc ?_
  refine nc_seq ?_
  refine nc_seq ?_
  refine nc ?_
  obtain ⟨y1, hy2, h⟩ := bindS h
  refine call_rule (by kernel_rfl) (term_Right_ok (ok := fun _ => False) hy2) fun v4 w3 ⟨hv5, hb6⟩ => ?_
  subst hv5
  replace H := H.call hb6
  refine nc_cond rfl (fun hc7 => ?_) (fun hc7 => ?_)
  · replace h := condT hc7 h
    refine nc_seq ?_
    refine nc ?_
    refine nc ?_
    replace h := Option.some.inj h
    subst h
    exact ret_inA [.int .u8 0] ⟨_, rfl, ⟨rfl, H.frame⟩⟩
  · replace h := condF hc7 h
    refine nc ?_
    refine nc_seq ?_
    refine nc ?_
    obtain ⟨y8, hx9, h⟩ := bindS h
    refine idxS_rule (by kernel_rfl) hx9 ?_
    refine nc ?_
    replace h := Option.some.inj h
    subst h
    exact ret_inA [.int .u8 y8] ⟨_, rfl, ⟨rfl, H.frame⟩⟩
/-! gemot/gemotref2.Kind -/
noncomputable def gemotref2_Kind.f (x0 : List UInt8) : Option (Int) := (gemotref1_Right.f x0).bind fun y1 => cond (!y1) (some (0 : Int)) ((idxS x0 (0 : Int)).bind fun y8 => some y8)
set_option maxHeartbeats 4000000 in
theorem gemotref2_Kind_ok {ok : Nat → Prop} {w : World} {x0 : List UInt8} {r : Int} (h : gemotref2_Kind.f x0 = some r) :
    Calls Try.prog 134 #[.string (bs x0)] w fun e w' => ∃ v, e = .returned v ∧ (v = .int .u8 r ∧ Bel w.heap.size w w') := by
  have H : Eng.Own ok w w [] := Eng.Own.nil ok w
  unfold gemotref2_Kind.f at h
  refine enterN (args := [.string (bs x0)]) Try.func134 rfl Try.ntmps134 rfl rfl ?_
  refine nc_seq ?_
  refine nc ?_
  refine nc_seq ?_
  refine nc_seq ?_
  refine nc ?_
  obtain ⟨y1, hy2, h⟩ := bindS h
  refine call_rule (by kernel_rfl) (gemotref1_Right_ok (ok := fun _ => False) hy2) fun v4 w3 ⟨hv5, hb6⟩ => ?_
  subst hv5
  replace H := H.call hb6
  refine nc_cond rfl (fun hc7 => ?_) (fun hc7 => ?_)
  · replace h := condT hc7 h
    refine nc_seq ?_
    refine nc ?_
    refine nc ?_
    replace h := Option.some.inj h
    subst h
    exact ret_inA [.int .u8 0] ⟨_, rfl, ⟨rfl, H.frame⟩⟩
  · replace h := condF hc7 h
    refine nc ?_
    refine nc_seq ?_
    refine nc ?_
    obtain ⟨y8, hx9, h⟩ := bindS h
    refine idxS_rule (by kernel_rfl) hx9 ?_
    refine nc ?_
    replace h := Option.some.inj h
    subst h
    exact ret_inA [.int .u8 y8] ⟨_, rfl, ⟨rfl, H.frame⟩⟩
/-! gemot/gemotref2.Of -/
noncomputable def gemotref2_Of.b1 (x0 : List UInt8) (v180 : List (List UInt8)) (v184 : Int) : Option (((List (List UInt8)) × Int) ⊕ (List (List UInt8))) := cond (decide (v184 < (x0.length : Int))) ((gemotref1_End.f x0 v184 (400 : Int)).bind fun y248 => (slcM x0 v184 y248.1).bind fun y254 => roomM 16 (v180.length + 1) (some (.inl ((v180 ++ [y254]), y248.1)))) (some (.inr v180))
noncomputable def gemotref2_Of.k2 (v153 : List (List UInt8)) : Option ((List (List UInt8))) := some v153
noncomputable def gemotref2_Of.k3 (x0 : List UInt8) (v21 : Int) : Option ((List (List UInt8))) := (loopM (fun s244 : (List (List UInt8)) × Int => gemotref2_Of.b1 x0 s244.1 s244.2) (([] : List (List UInt8)), v21)).bind (fun (o242 : (List (List UInt8))) => gemotref2_Of.k2 o242)
noncomputable def gemotref2_Of.k4 (x0 : List UInt8) (y24 : Int) (v34 : Bool) : Option ((List (List UInt8))) := cond v34 (gemotref2_Of.k3 x0 (1 : Int)) (cond (y24 == (101 : Int)) (gemotref2_Of.k3 x0 (2 : Int)) (some ([] : List (List UInt8))))
noncomputable def gemotref2_Of.f (x0 : List UInt8) : Option ((List (List UInt8))) := (gemotref2_Kind.f x0).bind fun y24 => cond (y24 == (107 : Int)) (gemotref2_Of.k4 x0 y24 (y24 == (107 : Int))) (cond (y24 == (104 : Int)) (gemotref2_Of.k4 x0 y24 (y24 == (104 : Int))) (cond (y24 == (112 : Int)) (gemotref2_Of.k4 x0 y24 (y24 == (112 : Int))) (cond (y24 == (115 : Int)) (gemotref2_Of.k4 x0 y24 (y24 == (115 : Int))) (gemotref2_Of.k4 x0 y24 (y24 == (120 : Int))))))
set_option maxHeartbeats 4000000 in
theorem gemotref2_Of_ok {ok : Nat → Prop} {w : World} {x0 : List UInt8} {r : (List (List UInt8))} (h : gemotref2_Of.f x0 = some r) :
    Calls Try.prog 133 #[.string (bs x0)] w fun e w' => ∃ v, e = .returned v ∧ (rowOut w w' ok tStr 9 v r ∧ Bel w.heap.size w w') := by
  have H : Eng.Own ok w w [] := Eng.Own.nil ok w
  unfold gemotref2_Of.f at h
  refine enterN (args := [.string (bs x0)]) Try.func133 rfl Try.ntmps133 rfl rfl ?_
  refine nc_seq ?_
  refine nc ?_
  refine nc_seq ?_
  refine nc ?_
  refine nc_seq ?_
  refine nc ?_
  refine nc_cut (fun e w22 => ∃ (v21 : Int), gemotref2_Of.k3 x0 v21 = some r ∧ e = [(0, .string (bs x0)), (3, .slice none 0 0), (4, .int .i64 v21)] ∧ Eng.Own ok w w22 []) ?_ ?_
  · skip
    refine nc_seq ?_
    refine nc ?_
    obtain ⟨y24, hy25, h⟩ := bindS h
    refine call_rule (by kernel_rfl) (gemotref2_Kind_ok (ok := fun _ => False) hy25) fun v27 w26 ⟨hv28, hb29⟩ => ?_
    subst hv28
    replace H := H.call hb29
    refine nc_block ?_
    refine nc_cut (fun e w35 => ∃ (v34 : Bool), gemotref2_Of.k4 x0 y24 v34 = some r ∧ e = [(0, .string (bs x0)), (3, .slice none 0 0), (4, .int .i64 1), (8, .int .u8 y24), (9, .bool v34)] ∧ Eng.Own ok w w35 []) ?_ ?_
    · skip
      refine nc_seq ?_
      refine nc ?_
      refine nc_cond rfl (fun hc37 => ?_) (fun hc37 => ?_)
      · replace h := condT hc37 h
        refine nc ?_
        exact cut_inA ⟨_, h, rfl, H.pickL [] rfl⟩
      · replace h := condF hc37 h
        refine nc_seq ?_
        refine nc ?_
        refine nc_cond rfl (fun hc38 => ?_) (fun hc38 => ?_)
        · replace h := condT hc38 h
          refine nc ?_
          exact cut_inA ⟨_, h, rfl, H.pickL [] rfl⟩
        · replace h := condF hc38 h
          refine nc_seq ?_
          refine nc ?_
          refine nc_cond rfl (fun hc39 => ?_) (fun hc39 => ?_)
          · replace h := condT hc39 h
            refine nc ?_
            exact cut_inA ⟨_, h, rfl, H.pickL [] rfl⟩
          · replace h := condF hc39 h
            refine nc_seq ?_
            refine nc ?_
            refine nc_cond rfl (fun hc40 => ?_) (fun hc40 => ?_)
            · replace h := condT hc40 h
              refine nc ?_
              exact cut_inA ⟨_, h, rfl, H.pickL [] rfl⟩
            · replace h := condF hc40 h
              refine nc ?_
              exact cut_inA ⟨_, h, rfl, H.pickL [] rfl⟩
    · rintro _ w41 ⟨v34, h, rfl, H⟩
      unfold gemotref2_Of.k4 at h
      refine nc_cond rfl (fun hc42 => ?_) (fun hc42 => ?_)
      · replace h := condT hc42 h
        refine nc ?_
        exact cut_inA ⟨_, h, rfl, H.pickL [] rfl⟩
      · replace h := condF hc42 h
        refine nc_seq ?_
        refine nc ?_
        refine nc_cond rfl (fun hc43 => ?_) (fun hc43 => ?_)
        · replace h := condT hc43 h
          refine nc ?_
          exact cut_inA ⟨_, h, rfl, H.pickL [] rfl⟩
        · replace h := condF hc43 h
          refine nc_seq ?_
          refine nc ?_
          refine nc ?_
          replace h := Option.some.inj h
          subst h
          exact ret_inA [.slice none 0 0] ⟨_, rfl, ⟨rowNil, H.frame⟩⟩
  · rintro _ w44 ⟨v21, h, rfl, H⟩
    unfold gemotref2_Of.k3 at h
    refine nc_cut (fun e w157 => ∃ (A154 : Option Addr) (c155 : Nat) (cs156 : List Value) (v153 : List (List UInt8)), gemotref2_Of.k2 v153 = some r ∧ e = [(3, .slice A154 v153.length c155)] ∧ Eng.Own ok w w157 [.dat (dRows tStr v153 cs156), .row (.slice A154 v153.length c155) 9 1 v153.length cs156]) ?_ ?_
    · skip
      refine nc_block ?_
      replace H := H.nilRowD tStr 9
      obtain ⟨o234, hL235, hO236⟩ := bindS h
      obtain ⟨n237, hL235⟩ := loopS hL235
      refine nc ?_
      refine loop_ruleA (fun k e w241 => ∃ (A181 : Option Addr) (c182 : Nat) (cs183 : List Value) (v180 : List (List UInt8)) (v184 : Int), iterM (fun s244 : (List (List UInt8)) × Int => gemotref2_Of.b1 x0 s244.1 s244.2) k (v180, v184) = some o234 ∧ e = [(0, .string (bs x0)), (3, .slice A181 v180.length c182), (4, .int .i64 v184)] ∧ Eng.Own ok w w241 [.dat (dRows tStr v180 cs183), .row (.slice A181 v180.length c182) 9 1 v180.length cs183]) ⟨none, 0, [], _, _, hL235, rfl, H.pickL [0, 1] rfl⟩ ?_
      rintro k246 _ w245 ⟨A181, c182, cs183, v180, v184, hL235, rfl, H⟩
      obtain ⟨k240, rfl, q238, h, hq239⟩ := iterS hL235
      replace h : gemotref2_Of.b1 x0 v180 v184 = some q238 := h
      unfold gemotref2_Of.b1 at h
      refine nc_seq ?_
      refine nc_seq ?_
      refine nc ?_
      refine nc_cond rfl (fun hc247 => ?_) (fun hc247 => ?_)
      · replace h := condT hc247 h
        refine nc ?_
        refine nc_block ?_
        refine nc_seq ?_
        refine nc ?_
        obtain ⟨y248, hy249, h⟩ := bindS h
        refine call_rule (by kernel_rfl) (gemotref1_End_ok (ok := fun _ => False) hy249) fun v251 w250 ⟨hv252, hb253⟩ => ?_
        subst hv252
        replace H := H.call hb253
        refine nc_seq ?_
        refine nc ?_
        obtain ⟨y254, hx255, h⟩ := bindS h
        refine txtI_rule v184 y248.1 (by kernel_rfl) ⟨_, rfl⟩ ⟨_, rfl⟩ hx255 ?_
        refine own_buildSlice (e := 9) (sz := 1) (z := .string ⟨#[]⟩) (cs := [.string (bs y254)]) H (by kernel_rfl) (by kernel_rfl) (by kernel_rfl) rfl rfl rfl rfl fun g257 w258 H => ?_
        obtain ⟨hr259, h⟩ := roomS h
        refine own_append1 (k := tStr) (z := .string ⟨#[]⟩) (x := y254) 16 H 1 0 rfl rfl rfl rfl (by kernel_rfl) (by kernel_rfl) rfl rfl hr259 rfl fun z260 cs261 w262 H => ?_
        obtain ⟨A263, c264, rfl, _, _⟩ := H.rowSl 1 rfl
        refine nc ?_
        cases h
        exact again_inA ⟨A263, c264, cs261, _, _, hq239, rfl, H.pickL [0, 1] rfl⟩
      · replace h := condF hc247 h
        refine nc ?_
        cases h
        replace hq239 : v180 = o234 := hq239
        subst hq239
        have h := hO236
        try dsimp only [Sum.elim_inl, Sum.elim_inr] at h
        exact cut_inA ⟨A181, c182, cs183, _, h, rfl, H.pickL [0, 1] rfl⟩
    · rintro _ w266 ⟨A154, c155, cs156, v153, h, rfl, H⟩
      unfold gemotref2_Of.k2 at h
      refine nc_seq ?_
      refine nc ?_
      refine nc ?_
      replace h := Option.some.inj h
      subst h
      exact ret_inA [.slice A154 v153.length c155] ⟨_, rfl, ⟨H.outR 1 0 rfl rfl rfl, H.frame⟩⟩
/-! gemot/gemotref4.Take -/
noncomputable def gemotref4_Take.b1 (v282 : List (List UInt8)) (v286 : List UInt8) : Option (((List (List UInt8)) × (List UInt8)) ⊕ ((List (List UInt8)) ⊕ ((List (List UInt8)) × Int))) := (gemotref1_Number.f (0 : Int)).bind fun y408 => cond (!(strEq v286 y408)) ((gemotref2_Of.f v286).bind fun y415 => (gemotref2_Kind.f v286).bind fun y427 => cond (cond (y427 != (112 : Int)) true ((v282.length : Int) == (150 : Int))) (some (.inr (Sum.inr (([] : List (List UInt8)), (2 : Int))))) ((idxL y415 (0 : Int)).bind fun y434 => roomM 16 (v282.length + 1) ((idxL y415 (1 : Int)).bind fun y450 => some (.inl ((v282 ++ [y434]), y450))))) (some (.inr (Sum.inl v282)))
noncomputable def gemotref4_Take.k2 (v226 : List (List UInt8)) : Option ((List (List UInt8)) × Int) := some (v226, (0 : Int))
noncomputable def gemotref4_Take.f (x0 : List UInt8) : Option ((List (List UInt8)) × Int) := (loopM (fun s405 : (List (List UInt8)) × (List UInt8) => gemotref4_Take.b1 s405.1 s405.2) (([] : List (List UInt8)), x0)).bind (Sum.elim (fun (o402 : (List (List UInt8))) => gemotref4_Take.k2 o402) (fun (o403 : (List (List UInt8)) × Int) => some o403))
set_option maxHeartbeats 4000000 in
theorem gemotref4_Take_ok {ok : Nat → Prop} {w : World} {x0 : List UInt8} {r : (List (List UInt8)) × Int} (h : gemotref4_Take.f x0 = some r) :
    Calls Try.prog 107 #[.string (bs x0)] w fun e w' => ∃ v, e = .returned v ∧ (∃ (u0_ : Value), v = .tuple #[u0_, .int .i64 r.2] ∧ slR tStr w' (fun b => ok b ∨ w.heap.size ≤ b) u0_ r.1 ∧ Bel w.heap.size w w') := by
  have H : Eng.Own ok w w [] := Eng.Own.nil ok w
  unfold gemotref4_Take.f at h
  refine enterN (args := [.string (bs x0)]) Try.func107 rfl Try.ntmps107 rfl rfl ?_
  refine nc_seq ?_
  refine nc ?_
  refine nc_seq ?_
  refine nc ?_
  refine nc_seq ?_
  refine nc ?_
  refine nc_cut (fun e w230 => ∃ (A227 : Option Addr) (c228 : Nat) (cs229 : List Value) (v226 : List (List UInt8)), gemotref4_Take.k2 v226 = some r ∧ e = [(4, .slice A227 v226.length c228)] ∧ Eng.Own ok w w230 [.dat (dRows tStr v226 cs229), .row (.slice A227 v226.length c228) 9 1 v226.length cs229]) ?_ ?_
  · skip
    refine nc_block ?_
    replace H := H.nilRowD tStr 9
    obtain ⟨o394, hL395, hO396⟩ := bindS h
    obtain ⟨n397, hL395⟩ := loopS hL395
    refine nc ?_
    refine loop_ruleA (fun k e w401 => ∃ (A283 : Option Addr) (c284 : Nat) (cs285 : List Value) (v282 : List (List UInt8)) (v286 : List UInt8), iterM (fun s405 : (List (List UInt8)) × (List UInt8) => gemotref4_Take.b1 s405.1 s405.2) k (v282, v286) = some o394 ∧ e = [(4, .slice A283 v282.length c284), (5, .string (bs v286))] ∧ Eng.Own ok w w401 [.dat (dRows tStr v282 cs285), .row (.slice A283 v282.length c284) 9 1 v282.length cs285]) ⟨none, 0, [], _, _, hL395, rfl, H.pickL [0, 1] rfl⟩ ?_
    rintro k407 _ w406 ⟨A283, c284, cs285, v282, v286, hL395, rfl, H⟩
    obtain ⟨k400, rfl, q398, h, hq399⟩ := iterS hL395
    replace h : gemotref4_Take.b1 v282 v286 = some q398 := h
    unfold gemotref4_Take.b1 at h
    refine nc_seq ?_
    refine nc_seq ?_
    refine nc ?_
    obtain ⟨y408, hy409, h⟩ := bindS h
    refine call_rule (by kernel_rfl) (gemotref1_Number_ok (ok := fun _ => False) hy409) fun v411 w410 ⟨hv412, hb413⟩ => ?_
    subst hv412
    replace H := H.call hb413
    refine nc_cond rfl (fun hc414 => ?_) (fun hc414 => ?_)
    · replace h := condT hc414 h
      refine nc ?_
      refine nc_block ?_
      refine nc_seq ?_
      refine nc ?_
      obtain ⟨y415, hy416, h⟩ := bindS h
      refine call_rule (by kernel_rfl) (gemotref2_Of_ok (ok := fun _ => False) hy416) fun u421 w417 ⟨hu422, hb420⟩ => ?_
      replace H := H.callDats hb420 [dSl tStr u421 y415] ⟨(rowOut_sl (rowOut_any hu422) hb420), trivial⟩
      obtain ⟨A423, c424, hA425, _⟩ := H.sl 0 rfl
      subst hA425
      refine nc_seq ?_
      refine nc_seq ?_
      refine nc ?_
      obtain ⟨y427, hy428, h⟩ := bindS h
      refine call_rule (by kernel_rfl) (gemotref2_Kind_ok (ok := fun _ => False) hy428) fun v430 w429 ⟨hv431, hb432⟩ => ?_
      subst hv431
      replace H := H.call hb432
      refine nc_cond rfl (fun hc433 => ?_) (fun hc433 => ?_)
      · replace h := condT hc433 h
        refine nc_seq ?_
        refine nc ?_
        refine nc ?_
        cases h
        replace hq399 : (Sum.inr (([] : List (List UInt8)), (2 : Int))) = o394 := hq399
        subst hq399
        have h := hO396
        try dsimp only [Sum.elim_inl, Sum.elim_inr] at h
        replace h := Option.some.inj h
        subst h
        exact ret_inA [.slice none 0 0, .int .i64 2] ⟨_, rfl, ⟨_, rfl, nilR, H.frame⟩⟩
      · replace h := condF hc433 h
        refine nc ?_
        refine nc_seq ?_
        refine nc ?_
        obtain ⟨y434, hx435, h⟩ := bindS h
        obtain ⟨a436, cs437, rfl, hR438, H⟩ := H.elemI 0 rfl hx435
        obtain rfl : cs437 = [.string (bs y434)] := hR438
        refine idxA_rule (e := 9) 1 _ (by kernel_rfl) (by kernel_rfl) (idxL_some hx435).1 (idxL_some hx435).2.1 ?_
        refine own_loadD H 0 rfl 0 (by kernel_rfl) rfl ?_
        refine own_buildSlice (e := 9) (sz := 1) (z := .string ⟨#[]⟩) (cs := [.string (bs y434)]) H (by kernel_rfl) (by kernel_rfl) (by kernel_rfl) rfl rfl rfl rfl fun g441 w442 H => ?_
        obtain ⟨hr443, h⟩ := roomS h
        refine own_append1 (k := tStr) (z := .string ⟨#[]⟩) (x := y434) 16 H 3 2 rfl rfl rfl rfl (by kernel_rfl) (by kernel_rfl) rfl rfl hr443 rfl fun z444 cs445 w446 H => ?_
        obtain ⟨A447, c448, rfl, _, _⟩ := H.rowSl 3 rfl
        refine nc ?_
        obtain ⟨y450, hx451, h⟩ := bindS h
        obtain ⟨cs453, hR454, H⟩ := H.elemJ 1 rfl hx451
        obtain rfl : cs453 = [.string (bs y450)] := hR454
        refine idxA_rule (e := 9) 1 _ (by kernel_rfl) (by kernel_rfl) (idxL_some hx451).1 (idxL_some hx451).2.1 ?_
        refine own_loadD H 0 rfl 0 (by kernel_rfl) rfl ?_
        cases h
        exact again_inA ⟨A447, c448, cs445, _, _, hq399, rfl, H.pickL [3, 4] rfl⟩
    · replace h := condF hc414 h
      refine nc ?_
      cases h
      replace hq399 : (Sum.inl v282) = o394 := hq399
      subst hq399
      have h := hO396
      try dsimp only [Sum.elim_inl, Sum.elim_inr] at h
      exact cut_inA ⟨A283, c284, cs285, _, h, rfl, H.pickL [0, 1] rfl⟩
  · rintro _ w456 ⟨A227, c228, cs229, v226, h, rfl, H⟩
    unfold gemotref4_Take.k2 at h
    refine nc_seq ?_
    refine nc ?_
    refine nc ?_
    replace H := H.freeze (k := tStr) 1 0 rfl rfl
    replace h := Option.some.inj h
    subst h
    exact ret_inA [.slice A227 v226.length c228, .int .i64 0] ⟨_, rfl, ⟨_, rfl, H.outD 1 rfl, H.frame⟩⟩
/-! gemot/gemotref2.Value -/
noncomputable def gemotref2_Value.b1 (x0 : List UInt8) (v43 : Int) (v44 : Int) : Option ((Int × Int) ⊕ Int) := cond (decide (v44 < (9 : Int))) ((idxS x0 v44).bind fun y67 => some (.inl ((IntKind.u64.wrap ((IntKind.u64.wrap ((256 : Int) * v43)) + (IntKind.u64.wrap y67))), (IntKind.i64.wrap (v44 + (1 : Int)))))) (some (.inr v43))
noncomputable def gemotref2_Value.k2 (v37 : Int) : Option (Int × Bool) := some (v37, true)
noncomputable def gemotref2_Value.f (x0 : List UInt8) : Option (Int × Bool) := (gemotref2_Kind.f x0).bind fun y1 => cond (cond (y1 != (110 : Int)) (y1 != (117 : Int)) false) (some ((0 : Int), false)) ((loopM (fun s63 : Int × Int => gemotref2_Value.b1 x0 s63.1 s63.2) ((0 : Int), (1 : Int))).bind (fun (o62 : Int) => gemotref2_Value.k2 o62))
set_option maxHeartbeats 4000000 in
theorem gemotref2_Value_ok {ok : Nat → Prop} {w : World} {x0 : List UInt8} {r : Int × Bool} (h : gemotref2_Value.f x0 = some r) :
    Calls Try.prog 108 #[.string (bs x0)] w fun e w' => ∃ v, e = .returned v ∧ (v = .tuple #[.int .u64 r.1, .bool r.2] ∧ Bel w.heap.size w w') := by
  have H : Eng.Own ok w w [] := Eng.Own.nil ok w
  unfold gemotref2_Value.f at h
  refine enterN (args := [.string (bs x0)]) Try.func108 rfl Try.ntmps108 rfl rfl ?_
  refine nc_seq ?_
  refine nc ?_
  refine nc_seq ?_
  refine nc ?_
  obtain ⟨y1, hy2, h⟩ := bindS h
  refine call_rule (by kernel_rfl) (gemotref2_Kind_ok (ok := fun _ => False) hy2) fun v4 w3 ⟨hv5, hb6⟩ => ?_
  subst hv5
  replace H := H.call hb6
  refine nc_seq ?_
  refine nc_seq ?_
  refine nc ?_
  refine nc_cond rfl (fun hc7 => ?_) (fun hc7 => ?_)
  · replace h := condT hc7 h
    refine nc_seq ?_
    refine nc ?_
    refine nc ?_
    replace h := Option.some.inj h
    subst h
    exact ret_inA [.int .u64 0, .bool false] ⟨_, rfl, ⟨rfl, H.frame⟩⟩
  · replace h := condF hc7 h
    refine nc ?_
    refine nc_seq ?_
    refine nc ?_
    refine nc_cut (fun e w38 => ∃ (v37 : Int), gemotref2_Value.k2 v37 = some r ∧ e = [(5, .int .u64 v37)] ∧ Eng.Own ok w w38 []) ?_ ?_
    · skip
      refine nc_seq ?_
      refine nc ?_
      refine nc_block ?_
      obtain ⟨o54, hL55, hO56⟩ := bindS h
      obtain ⟨n57, hL55⟩ := loopS hL55
      refine nc ?_
      refine loop_ruleA (fun k e w61 => ∃ (v43 : Int) (v44 : Int), iterM (fun s63 : Int × Int => gemotref2_Value.b1 x0 s63.1 s63.2) k (v43, v44) = some o54 ∧ e = [(0, .string (bs x0)), (5, .int .u64 v43), (6, .int .i64 v44)] ∧ Eng.Own ok w w61 []) ⟨_, _, hL55, rfl, H.pickL [] rfl⟩ ?_
      rintro k65 _ w64 ⟨v43, v44, hL55, rfl, H⟩
      obtain ⟨k60, rfl, q58, h, hq59⟩ := iterS hL55
      replace h : gemotref2_Value.b1 x0 v43 v44 = some q58 := h
      unfold gemotref2_Value.b1 at h
      refine nc_seq ?_
      refine nc_seq ?_
      refine nc ?_
      refine nc_cond rfl (fun hc66 => ?_) (fun hc66 => ?_)
      · replace h := condT hc66 h
        refine nc ?_
        refine nc_seq ?_
        refine nc_block ?_
        refine nc ?_
        obtain ⟨y67, hx68, h⟩ := bindS h
        refine idxS_rule (by kernel_rfl) hx68 ?_
        refine nc ?_
        cases h
        exact again_inA ⟨_, _, hq59, rfl, H.pickL [] rfl⟩
      · replace h := condF hc66 h
        refine nc ?_
        cases h
        replace hq59 : v43 = o54 := hq59
        subst hq59
        have h := hO56
        try dsimp only [Sum.elim_inl, Sum.elim_inr] at h
        exact cut_inA ⟨_, h, rfl, H.pickL [] rfl⟩
    · rintro _ w69 ⟨v37, h, rfl, H⟩
      unfold gemotref2_Value.k2 at h
      refine nc_seq ?_
      refine nc ?_
      refine nc ?_
      replace h := Option.some.inj h
      subst h
      exact ret_inA [.int .u64 v37, .bool true] ⟨_, rfl, ⟨rfl, H.frame⟩⟩
/-! gemot/gemotref11.unrow -/
noncomputable def gemotref11_unrow.k1 (x1 : Int) (y1 : (List (List UInt8)) × Int) (v742 : List Int) (v746 : Int) (y1121 : Int × Bool) (v1159 : Bool) : Option (((List Int) × Int) ⊕ ((List Int) ⊕ ((List Int) × (List (List UInt8)) × Bool))) := cond v1159 (some (.inr (Sum.inr (([] : List Int), ([] : List (List UInt8)), false)))) (roomM 8 (v742.length + 1) (some (.inl ((v742 ++ [(IntKind.i64.wrap y1121.1)]), (IntKind.i64.wrap (v746 + (1 : Int)))))))
noncomputable def gemotref11_unrow.b2 (x1 : Int) (y1 : (List (List UInt8)) × Int) (v742 : List Int) (v746 : Int) : Option (((List Int) × Int) ⊕ ((List Int) ⊕ ((List Int) × (List (List UInt8)) × Bool))) := cond (decide (v746 < x1)) ((idxL y1.1 v746).bind fun y1115 => (gemotref2_Value.f y1115).bind fun y1121 => cond (cond (!y1121.2) true (decide (y1121.1 > (2147483647 : Int)))) (gemotref11_unrow.k1 x1 y1 v742 v746 y1121 (cond (cond (!y1121.2) true (decide (y1121.1 > (2147483647 : Int)))) true ((0 : Int) != (117 : Int)))) ((idxL y1.1 v746).bind fun y1163 => (idxS y1163 (0 : Int)).bind fun y1169 => gemotref11_unrow.k1 x1 y1 v742 v746 y1121 (cond (cond (!y1121.2) true (decide (y1121.1 > (2147483647 : Int)))) true (y1169 != (117 : Int))))) (some (.inr (Sum.inl v742)))
noncomputable def gemotref11_unrow.k3 (x1 : Int) (y1 : (List (List UInt8)) × Int) (v596 : List Int) : Option ((List Int) × (List (List UInt8)) × Bool) := (slcM y1.1 x1 (y1.1.length : Int)).bind fun y1184 => some (v596, y1184, true)
noncomputable def gemotref11_unrow.f (x0 : List UInt8) (x1 : Int) : Option ((List Int) × (List (List UInt8)) × Bool) := (gemotref4_Take.f x0).bind fun y1 => cond (cond (y1.2 != (0 : Int)) true (decide ((y1.1.length : Int) ≤ x1))) (some (([] : List Int), ([] : List (List UInt8)), false)) ((loopM (fun s1043 : (List Int) × Int => gemotref11_unrow.b2 x1 y1 s1043.1 s1043.2) (([] : List Int), (0 : Int))).bind (Sum.elim (fun (o1040 : (List Int)) => gemotref11_unrow.k3 x1 y1 o1040) (fun (o1041 : (List Int) × (List (List UInt8)) × Bool) => some o1041)))
set_option maxHeartbeats 4000000 in
theorem gemotref11_unrow_ok {ok : Nat → Prop} {w : World} {x0 : List UInt8} {x1 : Int} {r : (List Int) × (List (List UInt8)) × Bool} (h : gemotref11_unrow.f x0 x1 = some r) :
    Calls Try.prog 76 #[.string (bs x0), .int .i64 x1] w fun e w' => ∃ v, e = .returned v ∧ (∃ (u0_ : Value) (u1_ : Value), v = .tuple #[u0_, u1_, .bool r.2.2] ∧ slR (tInt .i64) w' (fun b => ok b ∨ w.heap.size ≤ b) u0_ r.1 ∧ slR tStr w' (fun b => ok b ∨ w.heap.size ≤ b) u1_ r.2.1 ∧ Bel w.heap.size w w') := by
  have H : Eng.Own ok w w [] := Eng.Own.nil ok w
  unfold gemotref11_unrow.f at h
  refine enterN (args := [.string (bs x0), .int .i64 x1]) Try.func76 rfl Try.ntmps76 rfl rfl ?_
  refine nc_seq ?_
  refine nc ?_
  refine nc_seq ?_
  refine nc ?_
  obtain ⟨y1, hy2, h⟩ := bindS h
  refine call_rule (by kernel_rfl) (gemotref4_Take_ok (ok := fun _ => False) hy2) fun v4 w3 ⟨u7, hv5, hu8, hb6⟩ => ?_
  subst hv5
  replace H := H.callDats hb6 [dSl tStr u7 y1.1] ⟨(slR_any hu8), trivial⟩
  obtain ⟨A9, c10, hA11, _⟩ := H.sl 0 rfl
  subst hA11
  refine nc_seq ?_
  refine nc_seq ?_
  refine nc ?_
  refine nc_cond rfl (fun hc13 => ?_) (fun hc13 => ?_)
  · replace h := condT hc13 h
    refine nc_seq ?_
    refine nc ?_
    refine nc ?_
    replace h := Option.some.inj h
    subst h
    exact ret_inA [.slice none 0 0, .slice none 0 0, .bool false] ⟨_, rfl, ⟨_, _, rfl, nilR, nilR, H.frame⟩⟩
  · replace h := condF hc13 h
    refine nc ?_
    refine nc_seq ?_
    refine nc ?_
    refine nc_cut (fun e w600 => ∃ (A597 : Option Addr) (c598 : Nat) (cs599 : List Value) (v596 : List Int), gemotref11_unrow.k3 x1 y1 v596 = some r ∧ e = [(1, .int .i64 x1), (7, .slice A9 y1.1.length c10), (9, .slice A597 v596.length c598)] ∧ Eng.Own ok w w600 [.dat (dSl tStr (.slice A9 y1.1.length c10) y1.1), .dat (dRows (tInt .i64) v596 cs599), .row (.slice A597 v596.length c598) 3 1 v596.length cs599]) ?_ ?_
    · skip
      refine nc_seq ?_
      refine nc ?_
      refine nc_block ?_
      replace H := H.nilRowD (tInt .i64) 3
      obtain ⟨o1032, hL1033, hO1034⟩ := bindS h
      obtain ⟨n1035, hL1033⟩ := loopS hL1033
      refine nc ?_
      refine loop_ruleA (fun k e w1039 => ∃ (A743 : Option Addr) (c744 : Nat) (cs745 : List Value) (v742 : List Int) (v746 : Int), iterM (fun s1043 : (List Int) × Int => gemotref11_unrow.b2 x1 y1 s1043.1 s1043.2) k (v742, v746) = some o1032 ∧ e = [(1, .int .i64 x1), (7, .slice A9 y1.1.length c10), (9, .slice A743 v742.length c744), (10, .int .i64 v746)] ∧ Eng.Own ok w w1039 [.dat (dSl tStr (.slice A9 y1.1.length c10) y1.1), .dat (dRows (tInt .i64) v742 cs745), .row (.slice A743 v742.length c744) 3 1 v742.length cs745]) ⟨none, 0, [], _, _, hL1033, rfl, H.pickL [2, 0, 1] rfl⟩ ?_
      rintro k1045 _ w1044 ⟨A743, c744, cs745, v742, v746, hL1033, rfl, H⟩
      obtain ⟨k1038, rfl, q1036, h, hq1037⟩ := iterS hL1033
      replace h : gemotref11_unrow.b2 x1 y1 v742 v746 = some q1036 := h
      unfold gemotref11_unrow.b2 at h
      refine nc_seq ?_
      refine nc_seq ?_
      refine nc ?_
      refine nc_cond rfl (fun hc1046 => ?_) (fun hc1046 => ?_)
      · replace h := condT hc1046 h
        refine nc ?_
        refine nc_seq ?_
        refine nc_block ?_
        refine nc_seq ?_
        refine nc ?_
        obtain ⟨y1115, hx1116, h⟩ := bindS h
        obtain ⟨a1117, cs1118, rfl, hR1119, H⟩ := H.elemI 0 rfl hx1116
        obtain rfl : cs1118 = [.string (bs y1115)] := hR1119
        refine idxA_rule (e := 9) 1 _ (by kernel_rfl) (by kernel_rfl) (idxL_some hx1116).1 (idxL_some hx1116).2.1 ?_
        refine own_loadD H 0 rfl 0 (by kernel_rfl) rfl ?_
        obtain ⟨y1121, hy1122, h⟩ := bindS h
        refine call_rule (by kernel_rfl) (gemotref2_Value_ok (ok := fun _ => False) hy1122) fun v1124 w1123 ⟨hv1125, hb1126⟩ => ?_
        subst hv1125
        replace H := H.call hb1126
        refine nc_seq ?_
        refine nc_cut (fun e w1160 => ∃ (v1159 : Bool), gemotref11_unrow.k1 x1 y1 v742 v746 y1121 v1159 = some q1036 ∧ e = [(1, .int .i64 x1), (7, .slice (some a1117) y1.1.length c10), (9, .slice A743 v742.length c744), (10, .int .i64 v746), (11, .int .u64 y1121.1), (52, .bool v1159)] ∧ Eng.Own ok w w1160 [.dat (dSl tStr (.slice (some a1117) y1.1.length c10) y1.1), .dat (dRows (tInt .i64) v742 cs745), .row (.slice A743 v742.length c744) 3 1 v742.length cs745]) ?_ ?_
        · skip
          refine nc ?_
          rcases Bool.eq_false_or_eq_true (cond (!y1121.2) true (decide (y1121.1 > (2147483647 : Int)))) with hg1162 | hg1162
          · replace h := condT hg1162 h
            refine skipIA (.pointer (some ⟨0, 0, none⟩)) (gF0 hg1162) ?_
            refine skipLD (.string (bs ([] : List UInt8))) (gF0 hg1162) ?_
            refine skipIX (.int .u8 0) (gF0 hg1162) ?_
            exact cut_inA ⟨_, h, rfl, H.pickL [1, 2, 3] rfl⟩
          · replace h := condF hg1162 h
            obtain ⟨y1163, hx1164, h⟩ := bindS h
            obtain ⟨cs1166, hR1167, H⟩ := H.elemJ 1 rfl hx1164
            obtain rfl : cs1166 = [.string (bs y1163)] := hR1167
            refine idxA_rule (e := 9) 1 _ (by kernel_rfl) (by kernel_rfl) (idxL_some hx1164).1 (idxL_some hx1164).2.1 ?_
            refine own_loadD H 0 rfl 0 (by kernel_rfl) rfl ?_
            obtain ⟨y1169, hx1170, h⟩ := bindS h
            refine idxS_rule (by kernel_rfl) hx1170 ?_
            exact cut_inA ⟨_, h, rfl, H.pickL [2, 3, 4] rfl⟩
        · rintro _ w1171 ⟨v1159, h, rfl, H⟩
          unfold gemotref11_unrow.k1 at h
          refine nc_cond rfl (fun hc1172 => ?_) (fun hc1172 => ?_)
          · replace h := condT hc1172 h
            refine nc_seq ?_
            refine nc ?_
            refine nc ?_
            cases h
            replace hq1037 : (Sum.inr (([] : List Int), ([] : List (List UInt8)), false)) = o1032 := hq1037
            subst hq1037
            have h := hO1034
            try dsimp only [Sum.elim_inl, Sum.elim_inr] at h
            replace h := Option.some.inj h
            subst h
            exact ret_inA [.slice none 0 0, .slice none 0 0, .bool false] ⟨_, rfl, ⟨_, _, rfl, nilR, nilR, H.frame⟩⟩
          · replace h := condF hc1172 h
            refine nc ?_
            refine nc ?_
            refine own_buildSlice (e := 3) (sz := 1) (z := .int .i64 0) (cs := [.int .i64 (IntKind.i64.wrap y1121.1)]) H (by kernel_rfl) (by kernel_rfl) (by kernel_rfl) rfl rfl rfl rfl fun g1174 w1175 H => ?_
            obtain ⟨hr1176, h⟩ := roomS h
            refine own_append1 (k := (tInt .i64)) (z := .int .i64 0) (x := (IntKind.i64.wrap y1121.1)) 8 H 2 1 rfl rfl rfl rfl (by kernel_rfl) (by kernel_rfl) rfl rfl hr1176 rfl fun z1177 cs1178 w1179 H => ?_
            obtain ⟨A1180, c1181, rfl, _, _⟩ := H.rowSl 2 rfl
            refine nc ?_
            cases h
            exact again_inA ⟨A1180, c1181, cs1178, _, _, hq1037, rfl, H.pickL [0, 1, 2] rfl⟩
      · replace h := condF hc1046 h
        refine nc ?_
        cases h
        replace hq1037 : (Sum.inl v742) = o1032 := hq1037
        subst hq1037
        have h := hO1034
        try dsimp only [Sum.elim_inl, Sum.elim_inr] at h
        exact cut_inA ⟨A743, c744, cs745, _, h, rfl, H.pickL [0, 1, 2] rfl⟩
    · rintro _ w1183 ⟨A597, c598, cs599, v596, h, rfl, H⟩
      unfold gemotref11_unrow.k3 at h
      refine nc_seq ?_
      obtain ⟨y1184, hx1185, h⟩ := bindS h
      obtain ⟨A1186, c1187, hp1188, H⟩ := H.pieceD 0 rfl hx1185
      have hn1190 := H.slLen 1 rfl
      refine nc ?_
      refine draw_rule [] (by kernel_rfl) (by kernel_rfl) H ?_
      refine c_pieceI (e := 9) 1 x1 (y1.1.length : Int) (by kernel_rfl) (by kernel_rfl) ⟨_, rfl⟩ rfl hx1185 hn1190 hp1188 ?_
      intro w1191 H
      refine nc ?_
      replace H := H.freeze (k := (tInt .i64)) 3 2 rfl rfl
      replace h := Option.some.inj h
      subst h
      exact ret_inA [.slice A597 v596.length c598, .slice A1186 y1184.length c1187, .bool true] ⟨_, rfl, ⟨_, _, rfl, H.outD 3 rfl, H.outD 0 rfl, H.frame⟩⟩
/-! gemot/gemotref11.Take -/
noncomputable def gemotref11_Take.b1 (x0 : List (List UInt8)) (v257 : List D_gemotref11_Log) (v261 : Int) : Option (((List D_gemotref11_Log) × Int) ⊕ ((List D_gemotref11_Log) ⊕ ((List D_gemotref11_Log) × Int))) := cond (decide (v261 < (x0.length : Int))) ((idxL x0 v261).bind fun y372 => (gemotref11_unrow.f y372 (1 : Int)).bind fun y378 => cond (!y378.2.2) (some (.inr (Sum.inr (([] : List D_gemotref11_Log), (2 : Int))))) ((idxL y378.1 (0 : Int)).bind fun y397 => roomM 32 (v257.length + 1) (some (.inl ((v257 ++ [(y397, y378.2.1)]), (IntKind.i64.wrap (v261 + (1 : Int)))))))) (some (.inr (Sum.inl v257)))
noncomputable def gemotref11_Take.k2 (v207 : List D_gemotref11_Log) : Option ((List D_gemotref11_Log) × Int) := (gemotref11_Put.f v207).bind fun y415 => cond (y415.2 != (0 : Int)) (some (([] : List D_gemotref11_Log), (2 : Int))) (some (v207, (0 : Int)))
noncomputable def gemotref11_Take.f (x0 : List (List UInt8)) : Option ((List D_gemotref11_Log) × Int) := (loopM (fun s368 : (List D_gemotref11_Log) × Int => gemotref11_Take.b1 x0 s368.1 s368.2) (([] : List D_gemotref11_Log), (0 : Int))).bind (Sum.elim (fun (o365 : (List D_gemotref11_Log)) => gemotref11_Take.k2 o365) (fun (o366 : (List D_gemotref11_Log) × Int) => some o366))
set_option maxHeartbeats 4000000 in
theorem gemotref11_Take_ok {ok : Nat → Prop} {w : World} {u1 : Value} {x0 : List (List UInt8)} {r : (List D_gemotref11_Log) × Int} (hu2 : slR tStr w ok u1 x0) (h : gemotref11_Take.f x0 = some r) :
    Calls Try.prog 39 #[u1] w fun e w' => ∃ v, e = .returned v ∧ (∃ (u0_ : Value), v = .tuple #[u0_, .int .i64 r.2] ∧ slR t_gemotref11_Log w' (fun b => ok b ∨ w.heap.size ≤ b) u0_ r.1 ∧ Bel w.heap.size w w') := by
  have H : Eng.Own ok w w [] := Eng.Own.nil ok w
  obtain ⟨A3, c4, rfl, H⟩ := H.arg rfl hu2
  unfold gemotref11_Take.f at h
  refine enterN (args := [.slice A3 x0.length c4]) Try.func39 rfl Try.ntmps39 rfl rfl ?_
  refine nc_seq ?_
  refine nc ?_
  refine nc_seq ?_
  refine nc ?_
  refine nc_cut (fun e w211 => ∃ (A208 : Option Addr) (c209 : Nat) (cs210 : List Value) (v207 : List D_gemotref11_Log), gemotref11_Take.k2 v207 = some r ∧ e = [(4, .slice A208 v207.length c209)] ∧ Eng.Own ok w w211 [.dat (dRows t_gemotref11_Log v207 cs210), .row (.slice A208 v207.length c209) 116 2 v207.length cs210]) ?_ ?_
  · skip
    refine nc_seq ?_
    refine nc ?_
    refine nc_block ?_
    replace H := H.nilRowD t_gemotref11_Log 116
    obtain ⟨o357, hL358, hO359⟩ := bindS h
    obtain ⟨n360, hL358⟩ := loopS hL358
    refine nc ?_
    refine loop_ruleA (fun k e w364 => ∃ (A258 : Option Addr) (c259 : Nat) (cs260 : List Value) (v257 : List D_gemotref11_Log) (v261 : Int), iterM (fun s368 : (List D_gemotref11_Log) × Int => gemotref11_Take.b1 x0 s368.1 s368.2) k (v257, v261) = some o357 ∧ e = [(0, .slice A3 x0.length c4), (4, .slice A258 v257.length c259), (5, .int .i64 v261)] ∧ Eng.Own ok w w364 [.dat (dSl tStr (.slice A3 x0.length c4) x0), .dat (dRows t_gemotref11_Log v257 cs260), .row (.slice A258 v257.length c259) 116 2 v257.length cs260]) ⟨none, 0, [], _, _, hL358, rfl, H.pickL [2, 0, 1] rfl⟩ ?_
    rintro k370 _ w369 ⟨A258, c259, cs260, v257, v261, hL358, rfl, H⟩
    obtain ⟨k363, rfl, q361, h, hq362⟩ := iterS hL358
    replace h : gemotref11_Take.b1 x0 v257 v261 = some q361 := h
    unfold gemotref11_Take.b1 at h
    refine nc_seq ?_
    refine nc_seq ?_
    refine nc ?_
    refine nc_cond rfl (fun hc371 => ?_) (fun hc371 => ?_)
    · replace h := condT hc371 h
      refine nc ?_
      refine nc_seq ?_
      refine nc_block ?_
      refine nc_seq ?_
      refine nc ?_
      obtain ⟨y372, hx373, h⟩ := bindS h
      obtain ⟨a374, cs375, rfl, hR376, H⟩ := H.elemI 0 rfl hx373
      obtain rfl : cs375 = [.string (bs y372)] := hR376
      refine idxA_rule (e := 9) 1 _ (by kernel_rfl) (by kernel_rfl) (idxL_some hx373).1 (idxL_some hx373).2.1 ?_
      refine own_loadD H 0 rfl 0 (by kernel_rfl) rfl ?_
      obtain ⟨y378, hy379, h⟩ := bindS h
      refine call_rule (by kernel_rfl) (gemotref11_unrow_ok (ok := fun _ => False) hy379) fun v381 w380 ⟨u384, u385, hv382, hu386, hu387, hb383⟩ => ?_
      subst hv382
      replace H := H.callDats hb383 [dSl (tInt .i64) u384 y378.1, dSl tStr u385 y378.2.1] ⟨(slR_any hu386), (slR_any hu387), trivial⟩
      obtain ⟨A388, c389, hA390, _⟩ := H.sl 0 rfl
      subst hA390
      obtain ⟨A392, c393, hA394, _⟩ := H.sl 1 rfl
      subst hA394
      refine nc_seq ?_
      refine nc_seq ?_
      refine nc ?_
      refine nc_cond rfl (fun hc396 => ?_) (fun hc396 => ?_)
      · replace h := condT hc396 h
        refine nc_seq ?_
        refine nc ?_
        refine nc ?_
        cases h
        replace hq362 : (Sum.inr (([] : List D_gemotref11_Log), (2 : Int))) = o357 := hq362
        subst hq362
        have h := hO359
        try dsimp only [Sum.elim_inl, Sum.elim_inr] at h
        replace h := Option.some.inj h
        subst h
        exact ret_inA [.slice none 0 0, .int .i64 2] ⟨_, rfl, ⟨_, rfl, nilR, H.frame⟩⟩
      · replace h := condF hc396 h
        refine nc ?_
        refine nc ?_
        obtain ⟨y397, hx398, h⟩ := bindS h
        obtain ⟨a399, cs400, rfl, hR401, H⟩ := H.elemI 0 rfl hx398
        obtain rfl : cs400 = [.int .i64 y397] := hR401
        refine idxA_rule (e := 3) 1 _ (by kernel_rfl) (by kernel_rfl) (idxL_some hx398).1 (idxL_some hx398).2.1 ?_
        refine own_loadD H 0 rfl 0 (by kernel_rfl) rfl ?_
        refine own_buildSlice (e := 116) (sz := 2) (z := .agg #[.int .i64 0, .slice none 0 0]) (cs := [.int .i64 y397, .slice A392 y378.2.1.length c393]) H (by kernel_rfl) (by kernel_rfl) (by kernel_rfl) rfl rfl rfl rfl fun g404 w405 H => ?_
        obtain ⟨hr406, h⟩ := roomS h
        refine own_append1 (k := t_gemotref11_Log) (z := .agg #[.int .i64 0, .slice none 0 0]) (x := (y397, y378.2.1)) 32 H 6 5 rfl rfl rfl (gemotref11_Log_in (x := (y397, y378.2.1)) (H.dat 3 rfl)) (by kernel_rfl) (by kernel_rfl) rfl rfl hr406 rfl fun z407 cs408 w409 H => ?_
        obtain ⟨A410, c411, rfl, _, _⟩ := H.rowSl 6 rfl
        refine nc ?_
        cases h
        exact again_inA ⟨A410, c411, cs408, _, _, hq362, rfl, H.pickL [4, 5, 6] rfl⟩
    · replace h := condF hc371 h
      refine nc ?_
      cases h
      replace hq362 : (Sum.inl v257) = o357 := hq362
      subst hq362
      have h := hO359
      try dsimp only [Sum.elim_inl, Sum.elim_inr] at h
      exact cut_inA ⟨A258, c259, cs260, _, h, rfl, H.pickL [1, 2] rfl⟩
  · rintro _ w413 ⟨A208, c209, cs210, v207, h, rfl, H⟩
    unfold gemotref11_Take.k2 at h
    refine nc_seq ?_
    refine nc ?_
    replace H := H.freeze (k := t_gemotref11_Log) 1 0 rfl rfl
    obtain ⟨y415, hy416, h⟩ := bindS h
    refine call_rule (by kernel_rfl) (gemotref11_Put_ok (H.dat 1 rfl) hy416) fun v418 w417 ⟨u421, hv419, hu422, hb420⟩ => ?_
    subst hv419
    replace H := H.callDats hb420 [dSl tStr u421 y415.1] ⟨hu422, trivial⟩
    obtain ⟨A423, c424, hA425, _⟩ := H.sl 0 rfl
    subst hA425
    refine nc_seq ?_
    refine nc_seq ?_
    refine nc ?_
    refine nc_cond rfl (fun hc427 => ?_) (fun hc427 => ?_)
    · replace h := condT hc427 h
      refine nc_seq ?_
      refine nc ?_
      refine nc ?_
      replace h := Option.some.inj h
      subst h
      exact ret_inA [.slice none 0 0, .int .i64 2] ⟨_, rfl, ⟨_, rfl, nilR, H.frame⟩⟩
    · replace h := condF hc427 h
      refine nc ?_
      refine nc_seq ?_
      refine nc ?_
      refine nc ?_
      replace h := Option.some.inj h
      subst h
      exact ret_inA [.slice A208 v207.length c209, .int .i64 0] ⟨_, rfl, ⟨_, rfl, H.outD 2 rfl, H.frame⟩⟩
/-! gemot/gemotref11.Unpart -/
noncomputable def gemotref11_Unpart.b1 (x0 : List (List UInt8)) (v322 : List D_gemotref11_Part) (v326 : Int) : Option (((List D_gemotref11_Part) × Int) ⊕ ((List D_gemotref11_Part) ⊕ ((List D_gemotref11_Part) × Int))) := cond (decide (v326 < (x0.length : Int))) ((idxL x0 v326).bind fun y463 => (gemotref11_unrow.f y463 (3 : Int)).bind fun y469 => cond (!y469.2.2) (some (.inr (Sum.inr (([] : List D_gemotref11_Part), (2 : Int))))) ((idxL y469.1 (0 : Int)).bind fun y488 => (idxL y469.1 (1 : Int)).bind fun y494 => (idxL y469.1 (2 : Int)).bind fun y500 => roomM 48 (v322.length + 1) (some (.inl ((v322 ++ [((y488, y494), y500, y469.2.1)]), (IntKind.i64.wrap (v326 + (1 : Int)))))))) (some (.inr (Sum.inl v322)))
noncomputable def gemotref11_Unpart.k2 (v259 : List D_gemotref11_Part) : Option ((List D_gemotref11_Part) × Int) := (gemotref11_Parts.f v259).bind fun y519 => cond (y519.2 != (0 : Int)) (some (([] : List D_gemotref11_Part), (2 : Int))) (some (v259, (0 : Int)))
noncomputable def gemotref11_Unpart.f (x0 : List (List UInt8)) : Option ((List D_gemotref11_Part) × Int) := (loopM (fun s459 : (List D_gemotref11_Part) × Int => gemotref11_Unpart.b1 x0 s459.1 s459.2) (([] : List D_gemotref11_Part), (0 : Int))).bind (Sum.elim (fun (o456 : (List D_gemotref11_Part)) => gemotref11_Unpart.k2 o456) (fun (o457 : (List D_gemotref11_Part) × Int) => some o457))
set_option maxHeartbeats 4000000 in
theorem gemotref11_Unpart_ok {ok : Nat → Prop} {w : World} {u1 : Value} {x0 : List (List UInt8)} {r : (List D_gemotref11_Part) × Int} (hu2 : slR tStr w ok u1 x0) (h : gemotref11_Unpart.f x0 = some r) :
    Calls Try.prog 41 #[u1] w fun e w' => ∃ v, e = .returned v ∧ (∃ (u0_ : Value), v = .tuple #[u0_, .int .i64 r.2] ∧ slR t_gemotref11_Part w' (fun b => ok b ∨ w.heap.size ≤ b) u0_ r.1 ∧ Bel w.heap.size w w') := by
  have H : Eng.Own ok w w [] := Eng.Own.nil ok w
  obtain ⟨A3, c4, rfl, H⟩ := H.arg rfl hu2
  unfold gemotref11_Unpart.f at h
  refine enterN (args := [.slice A3 x0.length c4]) Try.func41 rfl Try.ntmps41 rfl rfl ?_
  refine nc_seq ?_
  refine nc ?_
  refine nc_seq ?_
  refine nc ?_
  refine nc_cut (fun e w263 => ∃ (A260 : Option Addr) (c261 : Nat) (cs262 : List Value) (v259 : List D_gemotref11_Part), gemotref11_Unpart.k2 v259 = some r ∧ e = [(4, .slice A260 v259.length c261)] ∧ Eng.Own ok w w263 [.dat (dRows t_gemotref11_Part v259 cs262), .row (.slice A260 v259.length c261) 102 4 v259.length cs262]) ?_ ?_
  · skip
    refine nc_seq ?_
    refine nc ?_
    refine nc_block ?_
    replace H := H.nilRowD t_gemotref11_Part 102
    obtain ⟨o448, hL449, hO450⟩ := bindS h
    obtain ⟨n451, hL449⟩ := loopS hL449
    refine nc ?_
    refine loop_ruleA (fun k e w455 => ∃ (A323 : Option Addr) (c324 : Nat) (cs325 : List Value) (v322 : List D_gemotref11_Part) (v326 : Int), iterM (fun s459 : (List D_gemotref11_Part) × Int => gemotref11_Unpart.b1 x0 s459.1 s459.2) k (v322, v326) = some o448 ∧ e = [(0, .slice A3 x0.length c4), (4, .slice A323 v322.length c324), (5, .int .i64 v326)] ∧ Eng.Own ok w w455 [.dat (dSl tStr (.slice A3 x0.length c4) x0), .dat (dRows t_gemotref11_Part v322 cs325), .row (.slice A323 v322.length c324) 102 4 v322.length cs325]) ⟨none, 0, [], _, _, hL449, rfl, H.pickL [2, 0, 1] rfl⟩ ?_
    rintro k461 _ w460 ⟨A323, c324, cs325, v322, v326, hL449, rfl, H⟩
    obtain ⟨k454, rfl, q452, h, hq453⟩ := iterS hL449
    replace h : gemotref11_Unpart.b1 x0 v322 v326 = some q452 := h
    unfold gemotref11_Unpart.b1 at h
    refine nc_seq ?_
    refine nc_seq ?_
    refine nc ?_
    refine nc_cond rfl (fun hc462 => ?_) (fun hc462 => ?_)
    · replace h := condT hc462 h
      refine nc ?_
      refine nc_seq ?_
      refine nc_block ?_
      refine nc_seq ?_
      refine nc ?_
      obtain ⟨y463, hx464, h⟩ := bindS h
      obtain ⟨a465, cs466, rfl, hR467, H⟩ := H.elemI 0 rfl hx464
      obtain rfl : cs466 = [.string (bs y463)] := hR467
      refine idxA_rule (e := 9) 1 _ (by kernel_rfl) (by kernel_rfl) (idxL_some hx464).1 (idxL_some hx464).2.1 ?_
      refine own_loadD H 0 rfl 0 (by kernel_rfl) rfl ?_
      obtain ⟨y469, hy470, h⟩ := bindS h
      refine call_rule (by kernel_rfl) (gemotref11_unrow_ok (ok := fun _ => False) hy470) fun v472 w471 ⟨u475, u476, hv473, hu477, hu478, hb474⟩ => ?_
      subst hv473
      replace H := H.callDats hb474 [dSl (tInt .i64) u475 y469.1, dSl tStr u476 y469.2.1] ⟨(slR_any hu477), (slR_any hu478), trivial⟩
      obtain ⟨A479, c480, hA481, _⟩ := H.sl 0 rfl
      subst hA481
      obtain ⟨A483, c484, hA485, _⟩ := H.sl 1 rfl
      subst hA485
      refine nc_seq ?_
      refine nc_seq ?_
      refine nc ?_
      refine nc_cond rfl (fun hc487 => ?_) (fun hc487 => ?_)
      · replace h := condT hc487 h
        refine nc_seq ?_
        refine nc ?_
        refine nc ?_
        cases h
        replace hq453 : (Sum.inr (([] : List D_gemotref11_Part), (2 : Int))) = o448 := hq453
        subst hq453
        have h := hO450
        try dsimp only [Sum.elim_inl, Sum.elim_inr] at h
        replace h := Option.some.inj h
        subst h
        exact ret_inA [.slice none 0 0, .int .i64 2] ⟨_, rfl, ⟨_, rfl, nilR, H.frame⟩⟩
      · replace h := condF hc487 h
        refine nc ?_
        obtain ⟨y488, hx489, h⟩ := bindS h
        obtain ⟨a490, cs491, rfl, hR492, H⟩ := H.elemI 0 rfl hx489
        obtain rfl : cs491 = [.int .i64 y488] := hR492
        obtain ⟨y494, hx495, h⟩ := bindS h
        obtain ⟨cs497, hR498, H⟩ := H.elemJ 1 rfl hx495
        obtain rfl : cs497 = [.int .i64 y494] := hR498
        obtain ⟨y500, hx501, h⟩ := bindS h
        obtain ⟨cs503, hR504, H⟩ := H.elemJ 2 rfl hx501
        obtain rfl : cs503 = [.int .i64 y500] := hR504
        obtain ⟨hr509, h⟩ := roomS h
        refine nc ?_
        refine draw_rule [] (by kernel_rfl) (by kernel_rfl) H ?_
        refine c_idxA (e := 3) 1 _ (by kernel_rfl) (by kernel_rfl) (idxL_some hx489).1 (idxL_some hx489).2.1 ?_
        refine c_loadD 2 rfl 0 (by kernel_rfl) rfl ?_
        refine c_idxA (e := 3) 1 _ (by kernel_rfl) (by kernel_rfl) (idxL_some hx495).1 (idxL_some hx495).2.1 ?_
        refine c_loadD 1 rfl 0 (by kernel_rfl) rfl ?_
        refine c_idxA (e := 3) 1 _ (by kernel_rfl) (by kernel_rfl) (idxL_some hx501).1 (idxL_some hx501).2.1 ?_
        refine c_loadD 0 rfl 0 (by kernel_rfl) rfl ?_
        refine c_buildSlice (e := 102) (sz := 4) (z := .agg #[.int .i64 0, .int .i64 0, .int .i64 0, .slice none 0 0]) (cs := [.int .i64 y488, .int .i64 y494, .int .i64 y500, .slice A483 y469.2.1.length c484]) (by kernel_rfl) (by kernel_rfl) (by kernel_rfl) rfl rfl rfl rfl ?_
        intro g507
        refine c_append1 (k := t_gemotref11_Part) (z := .agg #[.int .i64 0, .int .i64 0, .int .i64 0, .slice none 0 0]) (x := ((y488, y494), y500, y469.2.1)) 48 8 7 rfl rfl rfl (fun _ H => (gemotref11_Part_in (x := ((y488, y494), y500, y469.2.1)) (H.dat 5 rfl))) (by kernel_rfl) (by kernel_rfl) rfl rfl hr509 rfl ?_
        intro z510 cs511
        intro w516 H
        obtain ⟨A513, c514, rfl, _, _⟩ := H.rowSl 8 rfl
        refine nc ?_
        cases h
        exact again_inA ⟨A513, c514, cs511, _, _, hq453, rfl, H.pickL [6, 7, 8] rfl⟩
    · replace h := condF hc462 h
      refine nc ?_
      cases h
      replace hq453 : (Sum.inl v322) = o448 := hq453
      subst hq453
      have h := hO450
      try dsimp only [Sum.elim_inl, Sum.elim_inr] at h
      exact cut_inA ⟨A323, c324, cs325, _, h, rfl, H.pickL [1, 2] rfl⟩
  · rintro _ w517 ⟨A260, c261, cs262, v259, h, rfl, H⟩
    unfold gemotref11_Unpart.k2 at h
    refine nc_seq ?_
    refine nc ?_
    replace H := H.freeze (k := t_gemotref11_Part) 1 0 rfl rfl
    obtain ⟨y519, hy520, h⟩ := bindS h
    refine call_rule (by kernel_rfl) (gemotref11_Parts_ok (H.dat 1 rfl) hy520) fun v522 w521 ⟨u525, hv523, hu526, hb524⟩ => ?_
    subst hv523
    replace H := H.callDats hb524 [dSl tStr u525 y519.1] ⟨hu526, trivial⟩
    obtain ⟨A527, c528, hA529, _⟩ := H.sl 0 rfl
    subst hA529
    refine nc_seq ?_
    refine nc_seq ?_
    refine nc ?_
    refine nc_cond rfl (fun hc531 => ?_) (fun hc531 => ?_)
    · replace h := condT hc531 h
      refine nc_seq ?_
      refine nc ?_
      refine nc ?_
      replace h := Option.some.inj h
      subst h
      exact ret_inA [.slice none 0 0, .int .i64 2] ⟨_, rfl, ⟨_, rfl, nilR, H.frame⟩⟩
    · replace h := condF hc531 h
      refine nc ?_
      refine nc_seq ?_
      refine nc ?_
      refine nc ?_
      replace h := Option.some.inj h
      subst h
      exact ret_inA [.slice A260 v259.length c261, .int .i64 0] ⟨_, rfl, ⟨_, rfl, H.outD 2 rfl, H.frame⟩⟩
end Go.Proofs.Ytgomlcfoifkdiaa.G
