/- Walks, printed by a program of this proof's own. -/
import Derived.Test.YtipoblinefamgaaMan11
import Derived.Test.YtipoblinefamgaaCloneM
import Derived.KernelRfl
namespace Go.Proofs.Ytipoblinefamgaa.G
open Go.RowKit Go.Eng Go.Proofs
set_option linter.unusedVariables false
set_option maxRecDepth 20000
/-! gemot/term.leaf -/
noncomputable def term_leaf.k1 (x0 : List UInt8) (v49 : Int) : Option (Int) := cond (decide (v49 > (x0.length : Int))) (some (0 : Int)) (some v49)
noncomputable def term_leaf.k2 (x0 : List UInt8) (v69 : Bool) : Option (Int) := cond v69 (term_leaf.k1 x0 (2 : Int)) (term_leaf.k1 x0 (0 : Int))
noncomputable def term_leaf.k3 (x0 : List UInt8) (v87 : Bool) : Option (Int) := cond v87 ((idxS x0 (2 : Int)).bind fun y98 => term_leaf.k1 x0 (IntKind.i64.wrap ((3 : Int) + (IntKind.i64.wrap y98)))) (term_leaf.k1 x0 (0 : Int))
noncomputable def term_leaf.k4 (x0 : List UInt8) (y52 : Int) (v56 : Bool) : Option (Int) := cond v56 (term_leaf.k1 x0 (9 : Int)) (cond (y52 == (105 : Int)) (cond (decide ((x0.length : Int) > (1 : Int))) ((idxS x0 (1 : Int)).bind fun y73 => cond (decide (y73 ≥ (1 : Int))) ((idxS x0 (1 : Int)).bind fun y76 => term_leaf.k2 x0 (cond (cond (decide ((x0.length : Int) > (1 : Int))) (decide (y73 ≥ (1 : Int))) false) (decide (y76 ≤ (8 : Int))) false)) (term_leaf.k2 x0 (cond (cond (decide ((x0.length : Int) > (1 : Int))) (decide (y73 ≥ (1 : Int))) false) (decide ((0 : Int) ≤ (8 : Int))) false))) (term_leaf.k2 x0 (cond (cond (decide ((x0.length : Int) > (1 : Int))) (decide ((0 : Int) ≥ (1 : Int))) false) (decide ((0 : Int) ≤ (8 : Int))) false))) (cond (y52 == (116 : Int)) (cond (decide ((x0.length : Int) ≥ (3 : Int))) ((idxS x0 (1 : Int)).bind fun y91 => cond (y91 == (0 : Int)) ((idxS x0 (2 : Int)).bind fun y94 => term_leaf.k3 x0 (cond (cond (decide ((x0.length : Int) ≥ (3 : Int))) (y91 == (0 : Int)) false) (decide (y94 ≤ (100 : Int))) false)) (term_leaf.k3 x0 (cond (cond (decide ((x0.length : Int) ≥ (3 : Int))) (y91 == (0 : Int)) false) (decide ((0 : Int) ≤ (100 : Int))) false))) (term_leaf.k3 x0 (cond (cond (decide ((x0.length : Int) ≥ (3 : Int))) ((0 : Int) == (0 : Int)) false) (decide ((0 : Int) ≤ (100 : Int))) false))) (term_leaf.k1 x0 (0 : Int))))
noncomputable def term_leaf.f (x0 : List UInt8) : Option (Int) := (idxS x0 (0 : Int)).bind fun y52 => cond (y52 == (103 : Int)) (term_leaf.k1 x0 (1 : Int)) (cond (y52 == (110 : Int)) (term_leaf.k4 x0 y52 (y52 == (110 : Int))) (term_leaf.k4 x0 y52 (y52 == (117 : Int))))
set_option maxHeartbeats 4000000 in
theorem term_leaf_ok {ok : Nat → Prop} {w : World} {x0 : List UInt8} {r : Int} (h : term_leaf.f x0 = some r) :
    Calls Try.prog 74 #[.string (bs x0)] w fun e w' => ∃ v, e = .returned v ∧ (v = .int .i64 r ∧ Bel w.heap.size w w') := by
  have H : Eng.Own ok w w [] := Eng.Own.nil ok w
  unfold term_leaf.f at h
  refine enterN (args := [.string (bs x0)]) Try.func74 rfl Try.ntmps74 rfl rfl ?_
  refine nc_seq ?_
  refine nc ?_
  refine nc_seq ?_
  refine nc ?_
  refine nc_cut (fun e w50 => ∃ (v49 : Int), term_leaf.k1 x0 v49 = some r ∧ e = [(0, .string (bs x0)), (3, .int .i64 v49)] ∧ Eng.Own ok w w50 []) ?_ ?_
  · skip
    refine nc_seq ?_
    refine nc ?_
    obtain ⟨y52, hx53, h⟩ := bindS h
    refine idxS_rule (by kernel_rfl) hx53 ?_
    refine nc_block ?_
    refine nc_seq ?_
    refine nc ?_
    refine nc_cond rfl (fun hc54 => ?_) (fun hc54 => ?_)
    · replace h := condT hc54 h
      refine nc ?_
      exact cut_inA ⟨_, h, rfl, H.pickL [] rfl⟩
    · replace h := condF hc54 h
      refine nc_cut (fun e w57 => ∃ (v56 : Bool), term_leaf.k4 x0 y52 v56 = some r ∧ e = [(0, .string (bs x0)), (3, .int .i64 0), (5, .int .u8 y52), (8, .bool v56)] ∧ Eng.Own ok w w57 []) ?_ ?_
      · skip
        refine nc_seq ?_
        refine nc ?_
        refine nc_cond rfl (fun hc59 => ?_) (fun hc59 => ?_)
        · replace h := condT hc59 h
          refine nc ?_
          exact cut_inA ⟨_, h, rfl, H.pickL [] rfl⟩
        · replace h := condF hc59 h
          refine nc ?_
          exact cut_inA ⟨_, h, rfl, H.pickL [] rfl⟩
      · rintro _ w60 ⟨v56, h, rfl, H⟩
        unfold term_leaf.k4 at h
        refine nc_cond rfl (fun hc61 => ?_) (fun hc61 => ?_)
        · replace h := condT hc61 h
          refine nc ?_
          exact cut_inA ⟨_, h, rfl, H.pickL [] rfl⟩
        · replace h := condF hc61 h
          refine nc_seq ?_
          refine nc ?_
          refine nc_cond rfl (fun hc62 => ?_) (fun hc62 => ?_)
          · replace h := condT hc62 h
            refine nc_cut (fun e w70 => ∃ (v69 : Bool), term_leaf.k2 x0 v69 = some r ∧ e = [(0, .string (bs x0)), (3, .int .i64 0), (25, .bool v69)] ∧ Eng.Own ok w w70 []) ?_ ?_
            · skip
              refine nc ?_
              rcases Bool.eq_false_or_eq_true (decide ((x0.length : Int) > (1 : Int))) with hg72 | hg72
              · replace h := condT hg72 h
                obtain ⟨y73, hx74, h⟩ := bindS h
                refine idxS_rule (by kernel_rfl) hx74 ?_
                rcases Bool.eq_false_or_eq_true (decide (y73 ≥ (1 : Int))) with hg75 | hg75
                · replace h := condT hg75 h
                  obtain ⟨y76, hx77, h⟩ := bindS h
                  refine idxS_rule (by kernel_rfl) hx77 ?_
                  exact cut_inA ⟨_, h, rfl, H.pickL [] rfl⟩
                · replace h := condF hg75 h
                  refine skipIX (.int .u8 0) (gF1 ((pickT hg72).trans hg75)) ?_
                  exact cut_inA ⟨_, h, rfl, H.pickL [] rfl⟩
              · replace h := condF hg72 h
                refine skipIX (.int .u8 0) (gF1 hg72) ?_
                refine skipIX (.int .u8 0) (gF1 (pickF hg72)) ?_
                exact cut_inA ⟨_, h, rfl, H.pickL [] rfl⟩
            · rintro _ w78 ⟨v69, h, rfl, H⟩
              unfold term_leaf.k2 at h
              refine nc_cond rfl (fun hc79 => ?_) (fun hc79 => ?_)
              · replace h := condT hc79 h
                refine nc ?_
                exact cut_inA ⟨_, h, rfl, H.pickL [] rfl⟩
              · replace h := condF hc79 h
                refine nc ?_
                exact cut_inA ⟨_, h, rfl, H.pickL [] rfl⟩
          · replace h := condF hc62 h
            refine nc_seq ?_
            refine nc ?_
            refine nc_cond rfl (fun hc80 => ?_) (fun hc80 => ?_)
            · replace h := condT hc80 h
              refine nc_cut (fun e w88 => ∃ (v87 : Bool), term_leaf.k3 x0 v87 = some r ∧ e = [(0, .string (bs x0)), (3, .int .i64 0), (40, .bool v87)] ∧ Eng.Own ok w w88 []) ?_ ?_
              · skip
                refine nc ?_
                rcases Bool.eq_false_or_eq_true (decide ((x0.length : Int) ≥ (3 : Int))) with hg90 | hg90
                · replace h := condT hg90 h
                  obtain ⟨y91, hx92, h⟩ := bindS h
                  refine idxS_rule (by kernel_rfl) hx92 ?_
                  rcases Bool.eq_false_or_eq_true (y91 == (0 : Int)) with hg93 | hg93
                  · replace h := condT hg93 h
                    obtain ⟨y94, hx95, h⟩ := bindS h
                    refine idxS_rule (by kernel_rfl) hx95 ?_
                    exact cut_inA ⟨_, h, rfl, H.pickL [] rfl⟩
                  · replace h := condF hg93 h
                    refine skipIX (.int .u8 0) (gF1 ((pickT hg90).trans hg93)) ?_
                    exact cut_inA ⟨_, h, rfl, H.pickL [] rfl⟩
                · replace h := condF hg90 h
                  refine skipIX (.int .u8 0) (gF1 hg90) ?_
                  refine skipIX (.int .u8 0) (gF1 (pickF hg90)) ?_
                  exact cut_inA ⟨_, h, rfl, H.pickL [] rfl⟩
              · rintro _ w96 ⟨v87, h, rfl, H⟩
                unfold term_leaf.k3 at h
                refine nc_cond rfl (fun hc97 => ?_) (fun hc97 => ?_)
                · replace h := condT hc97 h
                  refine nc ?_
                  obtain ⟨y98, hx99, h⟩ := bindS h
                  refine idxS_rule (by kernel_rfl) hx99 ?_
                  exact cut_inA ⟨_, h, rfl, H.pickL [] rfl⟩
                · replace h := condF hc97 h
                  refine nc ?_
                  exact cut_inA ⟨_, h, rfl, H.pickL [] rfl⟩
            · replace h := condF hc80 h
              refine nc ?_
              exact cut_inA ⟨_, h, rfl, H.pickL [] rfl⟩
  · rintro _ w100 ⟨v49, h, rfl, H⟩
    unfold term_leaf.k1 at h
    refine nc_seq ?_
    refine nc_seq ?_
    refine nc ?_
    refine nc_cond rfl (fun hc101 => ?_) (fun hc101 => ?_)
    · replace h := condT hc101 h
      refine nc_seq ?_
      refine nc ?_
      refine nc ?_
      replace h := Option.some.inj h
      subst h
      exact ret_inA [.int .i64 0] ⟨_, rfl, ⟨rfl, H.frame⟩⟩
    · replace h := condF hc101 h
      refine nc ?_
      refine nc_seq ?_
      refine nc ?_
      refine nc ?_
      replace h := Option.some.inj h
      subst h
      exact ret_inA [.int .i64 v49] ⟨_, rfl, ⟨rfl, H.frame⟩⟩
/-! gemot/term.begin -/
noncomputable def term_begin.k1 (v103 : Int) (v104 : Bool) (v105 : Int) : Option (D_term_open × Int × Bool) := some ((v103, (0 : Int), v104, v105, ([] : List UInt8)), v105, true)
noncomputable def term_begin.k2 (x1 : Int) (v135 : Bool) : Option (D_term_open × Int × Bool) := cond v135 (some (((0 : Int), (0 : Int), false, (IntKind.i64.wrap (x1 + (1 : Int))), ([] : List UInt8)), (0 : Int), false)) (term_begin.k1 (1 : Int) false (IntKind.i64.wrap (x1 + (1 : Int))))
noncomputable def term_begin.k3 (x0 : List UInt8) (x1 : Int) (v185 : Bool) : Option (D_term_open × Int × Bool) := cond v185 (some (((0 : Int), (0 : Int), false, (IntKind.i64.wrap (x1 + (1 : Int))), ([] : List UInt8)), (0 : Int), false)) ((idxS x0 (IntKind.i64.wrap (x1 + (1 : Int)))).bind fun y197 => term_begin.k1 (IntKind.i64.wrap y197) true (IntKind.i64.wrap (x1 + (2 : Int))))
noncomputable def term_begin.k4 (x0 : List UInt8) (x1 : Int) (y108 : Int) (v151 : Bool) : Option (D_term_open × Int × Bool) := cond v151 (term_begin.k1 (2 : Int) false (IntKind.i64.wrap (x1 + (1 : Int)))) (cond (y108 == (115 : Int)) (term_begin.k1 (3 : Int) false (IntKind.i64.wrap (x1 + (1 : Int)))) (cond (y108 == (101 : Int)) (cond (decide ((IntKind.i64.wrap (x1 + (1 : Int))) ≥ (x0.length : Int))) (term_begin.k3 x0 x1 (cond (cond (decide ((IntKind.i64.wrap (x1 + (1 : Int))) ≥ (x0.length : Int))) true (decide ((0 : Int) < (1 : Int)))) true (decide ((0 : Int) > (32 : Int))))) ((idxS x0 (IntKind.i64.wrap (x1 + (1 : Int)))).bind fun y189 => cond (decide (y189 < (1 : Int))) (term_begin.k3 x0 x1 (cond (cond (decide ((IntKind.i64.wrap (x1 + (1 : Int))) ≥ (x0.length : Int))) true (decide (y189 < (1 : Int)))) true (decide ((0 : Int) > (32 : Int))))) ((idxS x0 (IntKind.i64.wrap (x1 + (1 : Int)))).bind fun y192 => term_begin.k3 x0 x1 (cond (cond (decide ((IntKind.i64.wrap (x1 + (1 : Int))) ≥ (x0.length : Int))) true (decide (y189 < (1 : Int)))) true (decide (y192 > (32 : Int))))))) (some (((0 : Int), (0 : Int), false, (IntKind.i64.wrap (x1 + (1 : Int))), ([] : List UInt8)), (0 : Int), false))))
noncomputable def term_begin.f (x0 : List UInt8) (x1 : Int) : Option (D_term_open × Int × Bool) := (idxS x0 x1).bind fun y108 => cond (y108 == (107 : Int)) (cond (decide ((IntKind.i64.wrap (x1 + (1 : Int))) ≥ (x0.length : Int))) (term_begin.k2 x1 (cond (decide ((IntKind.i64.wrap (x1 + (1 : Int))) ≥ (x0.length : Int))) true (cond ((0 : Int) != (103 : Int)) ((0 : Int) != (101 : Int)) false))) ((idxS x0 (IntKind.i64.wrap (x1 + (1 : Int)))).bind fun y139 => cond (y139 != (103 : Int)) ((idxS x0 (IntKind.i64.wrap (x1 + (1 : Int)))).bind fun y142 => term_begin.k2 x1 (cond (decide ((IntKind.i64.wrap (x1 + (1 : Int))) ≥ (x0.length : Int))) true (cond (y139 != (103 : Int)) (y142 != (101 : Int)) false))) (term_begin.k2 x1 (cond (decide ((IntKind.i64.wrap (x1 + (1 : Int))) ≥ (x0.length : Int))) true (cond (y139 != (103 : Int)) ((0 : Int) != (101 : Int)) false))))) (cond (y108 == (104 : Int)) (term_begin.k1 (1 : Int) false (IntKind.i64.wrap (x1 + (1 : Int)))) (cond (y108 == (112 : Int)) (term_begin.k4 x0 x1 y108 (y108 == (112 : Int))) (term_begin.k4 x0 x1 y108 (y108 == (120 : Int)))))
set_option maxHeartbeats 4000000 in
theorem term_begin_ok {ok : Nat → Prop} {w : World} {x0 : List UInt8} {x1 : Int} {r : D_term_open × Int × Bool} (h : term_begin.f x0 x1 = some r) :
    Calls Try.prog 75 #[.string (bs x0), .int .i64 x1] w fun e w' => ∃ v, e = .returned v ∧ (v = .tuple #[.agg #[.int .i64 r.1.1, .int .i64 r.1.2.1, .bool r.1.2.2.1, .int .i64 r.1.2.2.2.1, .string (bs r.1.2.2.2.2)], .int .i64 r.2.1, .bool r.2.2] ∧ Bel w.heap.size w w') := by
  have H : Eng.Own ok w w [] := Eng.Own.nil ok w
  unfold term_begin.f at h
  refine enterN (args := [.string (bs x0), .int .i64 x1]) Try.func75 rfl Try.ntmps75 rfl rfl ?_
  refine nc_seq ?_
  refine nc ?_
  refine own_alloc (z := .agg #[.int .i64 0, .int .i64 0, .bool false, .int .i64 0, .string ⟨#[]⟩]) H (by kernel_rfl) [.int .i64 0, .int .i64 0, .bool false, .int .i64 0, .string ⟨#[]⟩] rfl fun g2 w3 H => ?_
  refine nc_seq ?_
  refine nc ?_
  refine own_alloc (z := .agg #[.int .i64 0, .int .i64 0, .bool false, .int .i64 0, .string ⟨#[]⟩]) H (by kernel_rfl) [.int .i64 0, .int .i64 0, .bool false, .int .i64 0, .string ⟨#[]⟩] rfl fun g5 w6 H => ?_
  refine own_storeB (m := 5) H 0 rfl (by kernel_rfl) [.int .i64 0, .int .i64 0, .bool false, .int .i64 (IntKind.i64.wrap (x1 + (1 : Int))), .string (bs ([] : List UInt8))] rfl rfl rfl rfl fun w7 H => ?_
  refine nc_cut (fun e w106 => ∃ (v103 : Int) (v104 : Bool) (v105 : Int), term_begin.k1 v103 v104 v105 = some r ∧ e = [(4, .pointer (some ⟨g2, 0, none⟩)), (7, .pointer (some ⟨g5, 0, none⟩))] ∧ Eng.Own ok w w106 [.blk g2 [.int .i64 0, .int .i64 0, .bool false, .int .i64 0, .string (bs ([] : List UInt8))] 145, .blk g5 [.int .i64 v103, .int .i64 0, .bool v104, .int .i64 v105, .string (bs ([] : List UInt8))] 145]) ?_ ?_
  · skip
    refine nc_seq ?_
    refine nc ?_
    obtain ⟨y108, hx109, h⟩ := bindS h
    refine idxS_rule (by kernel_rfl) hx109 ?_
    refine nc_block ?_
    refine nc_seq ?_
    refine nc ?_
    refine nc_cond rfl (fun hc110 => ?_) (fun hc110 => ?_)
    · replace h := condT hc110 h
      refine nc_seq ?_
      refine nc_cut (fun e w136 => ∃ (v135 : Bool), term_begin.k2 x1 v135 = some r ∧ e = [(4, .pointer (some ⟨g2, 0, none⟩)), (7, .pointer (some ⟨g5, 0, none⟩)), (35, .bool v135)] ∧ Eng.Own ok w w136 [.blk g2 [.int .i64 0, .int .i64 0, .bool false, .int .i64 0, .string (bs ([] : List UInt8))] 145, .blk g5 [.int .i64 0, .int .i64 0, .bool false, .int .i64 (IntKind.i64.wrap (x1 + (1 : Int))), .string (bs ([] : List UInt8))] 145]) ?_ ?_
      · skip
        refine nc ?_
        rcases Bool.eq_false_or_eq_true (decide ((IntKind.i64.wrap (x1 + (1 : Int))) ≥ (x0.length : Int))) with hg138 | hg138
        · replace h := condT hg138 h
          refine skipIX (.int .u8 0) (gF0 hg138) ?_
          refine skipIX (.int .u8 0) (by first | exact gFr (gF0 hg138) | exact (gF0 hg138) | rfl) ?_
          exact cut_inA ⟨_, h, rfl, H.pickL [1, 0] rfl⟩
        · replace h := condF hg138 h
          obtain ⟨y139, hx140, h⟩ := bindS h
          refine idxS_rule (by kernel_rfl) hx140 ?_
          rcases Bool.eq_false_or_eq_true (y139 != (103 : Int)) with hg141 | hg141
          · replace h := condT hg141 h
            obtain ⟨y142, hx143, h⟩ := bindS h
            refine idxS_rule (by kernel_rfl) hx143 ?_
            exact cut_inA ⟨_, h, rfl, H.pickL [1, 0] rfl⟩
          · replace h := condF hg141 h
            refine skipIX (.int .u8 0) (gF1 hg141) ?_
            exact cut_inA ⟨_, h, rfl, H.pickL [1, 0] rfl⟩
      · rintro _ w144 ⟨v135, h, rfl, H⟩
        unfold term_begin.k2 at h
        refine nc_cond rfl (fun hc145 => ?_) (fun hc145 => ?_)
        · replace h := condT hc145 h
          refine nc_seq ?_
          refine nc ?_
          refine own_loadA (m := 5) H 1 rfl (by kernel_rfl) (by kernel_rfl) [.int .i64 0, .int .i64 0, .bool false, .int .i64 (IntKind.i64.wrap (x1 + (1 : Int))), .string (bs ([] : List UInt8))] rfl rfl ?_
          refine own_storeB (m := 5) H 0 rfl (by kernel_rfl) [.int .i64 0, .int .i64 0, .bool false, .int .i64 (IntKind.i64.wrap (x1 + (1 : Int))), .string (bs ([] : List UInt8))] rfl rfl rfl rfl fun w146 H => ?_
          refine nc ?_
          replace h := Option.some.inj h
          subst h
          exact ret_inA [.agg #[.int .i64 0, .int .i64 0, .bool false, .int .i64 (IntKind.i64.wrap (x1 + (1 : Int))), .string (bs ([] : List UInt8))], .int .i64 0, .bool false] ⟨_, rfl, ⟨rfl, H.frame⟩⟩ (And.intro (Exists.intro _ (And.intro rfl (H.resA (m := 5) 0 rfl (by kernel_rfl) (by kernel_rfl) rfl))) (And.intro rfl (And.intro rfl trivial)))
        · replace h := condF hc145 h
          refine nc ?_
          refine nc ?_
          refine own_storeB (m := 1) H 1 rfl (by kernel_rfl) [.int .i64 1] rfl rfl rfl rfl fun w147 H => ?_
          exact cut_inA ⟨_, _, _, h, rfl, H.pickL [0, 1] rfl⟩
    · replace h := condF hc110 h
      refine nc_seq ?_
      refine nc ?_
      refine nc_cond rfl (fun hc148 => ?_) (fun hc148 => ?_)
      · replace h := condT hc148 h
        refine nc ?_
        refine own_storeB (m := 1) H 0 rfl (by kernel_rfl) [.int .i64 1] rfl rfl rfl rfl fun w149 H => ?_
        exact cut_inA ⟨_, _, _, h, rfl, H.pickL [1, 0] rfl⟩
      · replace h := condF hc148 h
        refine nc_cut (fun e w152 => ∃ (v151 : Bool), term_begin.k4 x0 x1 y108 v151 = some r ∧ e = [(0, .string (bs x0)), (1, .int .i64 x1), (4, .pointer (some ⟨g2, 0, none⟩)), (7, .pointer (some ⟨g5, 0, none⟩)), (13, .int .u8 y108), (41, .bool v151)] ∧ Eng.Own ok w w152 [.blk g2 [.int .i64 0, .int .i64 0, .bool false, .int .i64 0, .string (bs ([] : List UInt8))] 145, .blk g5 [.int .i64 0, .int .i64 0, .bool false, .int .i64 (IntKind.i64.wrap (x1 + (1 : Int))), .string (bs ([] : List UInt8))] 145]) ?_ ?_
        · skip
          refine nc_seq ?_
          refine nc ?_
          refine nc_cond rfl (fun hc154 => ?_) (fun hc154 => ?_)
          · replace h := condT hc154 h
            refine nc ?_
            exact cut_inA ⟨_, h, rfl, H.pickL [1, 0] rfl⟩
          · replace h := condF hc154 h
            refine nc ?_
            exact cut_inA ⟨_, h, rfl, H.pickL [1, 0] rfl⟩
        · rintro _ w155 ⟨v151, h, rfl, H⟩
          unfold term_begin.k4 at h
          refine nc_cond rfl (fun hc156 => ?_) (fun hc156 => ?_)
          · replace h := condT hc156 h
            refine nc ?_
            refine own_storeB (m := 1) H 1 rfl (by kernel_rfl) [.int .i64 2] rfl rfl rfl rfl fun w157 H => ?_
            exact cut_inA ⟨_, _, _, h, rfl, H.pickL [0, 1] rfl⟩
          · replace h := condF hc156 h
            refine nc_seq ?_
            refine nc ?_
            refine nc_cond rfl (fun hc158 => ?_) (fun hc158 => ?_)
            · replace h := condT hc158 h
              refine nc ?_
              refine own_storeB (m := 1) H 1 rfl (by kernel_rfl) [.int .i64 3] rfl rfl rfl rfl fun w159 H => ?_
              exact cut_inA ⟨_, _, _, h, rfl, H.pickL [0, 1] rfl⟩
            · replace h := condF hc158 h
              refine nc_seq ?_
              refine nc ?_
              refine nc_cond rfl (fun hc160 => ?_) (fun hc160 => ?_)
              · replace h := condT hc160 h
                refine nc_seq ?_
                refine nc_cut (fun e w186 => ∃ (v185 : Bool), term_begin.k3 x0 x1 v185 = some r ∧ e = [(0, .string (bs x0)), (1, .int .i64 x1), (4, .pointer (some ⟨g2, 0, none⟩)), (7, .pointer (some ⟨g5, 0, none⟩)), (68, .bool v185)] ∧ Eng.Own ok w w186 [.blk g2 [.int .i64 0, .int .i64 0, .bool false, .int .i64 0, .string (bs ([] : List UInt8))] 145, .blk g5 [.int .i64 0, .int .i64 0, .bool false, .int .i64 (IntKind.i64.wrap (x1 + (1 : Int))), .string (bs ([] : List UInt8))] 145]) ?_ ?_
                · skip
                  refine nc ?_
                  rcases Bool.eq_false_or_eq_true (decide ((IntKind.i64.wrap (x1 + (1 : Int))) ≥ (x0.length : Int))) with hg188 | hg188
                  · replace h := condT hg188 h
                    refine skipIX (.int .u8 0) (gF0 hg188) ?_
                    refine skipIX (.int .u8 0) (gF0 (pickT hg188)) ?_
                    exact cut_inA ⟨_, h, rfl, H.pickL [0, 1] rfl⟩
                  · replace h := condF hg188 h
                    obtain ⟨y189, hx190, h⟩ := bindS h
                    refine idxS_rule (by kernel_rfl) hx190 ?_
                    rcases Bool.eq_false_or_eq_true (decide (y189 < (1 : Int))) with hg191 | hg191
                    · replace h := condT hg191 h
                      refine skipIX (.int .u8 0) (gF0 ((pickF hg188).trans hg191)) ?_
                      exact cut_inA ⟨_, h, rfl, H.pickL [0, 1] rfl⟩
                    · replace h := condF hg191 h
                      obtain ⟨y192, hx193, h⟩ := bindS h
                      refine idxS_rule (by kernel_rfl) hx193 ?_
                      exact cut_inA ⟨_, h, rfl, H.pickL [0, 1] rfl⟩
                · rintro _ w194 ⟨v185, h, rfl, H⟩
                  unfold term_begin.k3 at h
                  refine nc_cond rfl (fun hc195 => ?_) (fun hc195 => ?_)
                  · replace h := condT hc195 h
                    refine nc_seq ?_
                    refine nc ?_
                    refine own_loadA (m := 5) H 1 rfl (by kernel_rfl) (by kernel_rfl) [.int .i64 0, .int .i64 0, .bool false, .int .i64 (IntKind.i64.wrap (x1 + (1 : Int))), .string (bs ([] : List UInt8))] rfl rfl ?_
                    refine own_storeB (m := 5) H 0 rfl (by kernel_rfl) [.int .i64 0, .int .i64 0, .bool false, .int .i64 (IntKind.i64.wrap (x1 + (1 : Int))), .string (bs ([] : List UInt8))] rfl rfl rfl rfl fun w196 H => ?_
                    refine nc ?_
                    replace h := Option.some.inj h
                    subst h
                    exact ret_inA [.agg #[.int .i64 0, .int .i64 0, .bool false, .int .i64 (IntKind.i64.wrap (x1 + (1 : Int))), .string (bs ([] : List UInt8))], .int .i64 0, .bool false] ⟨_, rfl, ⟨rfl, H.frame⟩⟩ (And.intro (Exists.intro _ (And.intro rfl (H.resA (m := 5) 0 rfl (by kernel_rfl) (by kernel_rfl) rfl))) (And.intro rfl (And.intro rfl trivial)))
                  · replace h := condF hc195 h
                    refine nc ?_
                    refine nc ?_
                    obtain ⟨y197, hx198, h⟩ := bindS h
                    refine idxS_rule (by kernel_rfl) hx198 ?_
                    refine own_storeB (m := 1) H 1 rfl (by kernel_rfl) [.int .i64 (IntKind.i64.wrap y197)] rfl rfl rfl rfl fun w199 H => ?_
                    refine own_storeB (m := 1) H 1 rfl (by kernel_rfl) [.bool true] rfl rfl rfl rfl fun w200 H => ?_
                    refine own_storeB (m := 1) H 1 rfl (by kernel_rfl) [.int .i64 (IntKind.i64.wrap (x1 + (2 : Int)))] rfl rfl rfl rfl fun w201 H => ?_
                    exact cut_inA ⟨_, _, _, h, rfl, H.pickL [0, 1] rfl⟩
              · replace h := condF hc160 h
                refine nc_seq ?_
                refine nc ?_
                refine own_loadA (m := 5) H 1 rfl (by kernel_rfl) (by kernel_rfl) [.int .i64 0, .int .i64 0, .bool false, .int .i64 (IntKind.i64.wrap (x1 + (1 : Int))), .string (bs ([] : List UInt8))] rfl rfl ?_
                refine own_storeB (m := 5) H 0 rfl (by kernel_rfl) [.int .i64 0, .int .i64 0, .bool false, .int .i64 (IntKind.i64.wrap (x1 + (1 : Int))), .string (bs ([] : List UInt8))] rfl rfl rfl rfl fun w202 H => ?_
                refine nc ?_
                replace h := Option.some.inj h
                subst h
                exact ret_inA [.agg #[.int .i64 0, .int .i64 0, .bool false, .int .i64 (IntKind.i64.wrap (x1 + (1 : Int))), .string (bs ([] : List UInt8))], .int .i64 0, .bool false] ⟨_, rfl, ⟨rfl, H.frame⟩⟩ (And.intro (Exists.intro _ (And.intro rfl (H.resA (m := 5) 0 rfl (by kernel_rfl) (by kernel_rfl) rfl))) (And.intro rfl (And.intro rfl trivial)))
  · rintro _ w203 ⟨v103, v104, v105, h, rfl, H⟩
    unfold term_begin.k1 at h
    refine nc_seq ?_
    refine nc ?_
    refine draw_ruleB [.blk g5 [.int .i64 v103, .int .i64 0, .bool v104, .int .i64 v105, .string (bs ([] : List UInt8))] 145] [] (fun j => undef) [1000, 1000, 1000, 1000, 1000, 1000] (by kernel_rfl) (by kernel_rfl) H (by repeat first | exact List.nil_sublist _ | apply List.Sublist.cons_cons | apply List.Sublist.cons) ?_
    refine c_loadA (m := 5) 0 rfl (by kernel_rfl) (by kernel_rfl) [.int .i64 v103, .int .i64 0, .bool v104, .int .i64 v105, .string (bs ([] : List UInt8))] rfl rfl ?_
    refine c_load 0 rfl (by kernel_rfl) (j := 3) rfl ?_
    refine c_storeB (m := 5) 0 rfl (by kernel_rfl) [.int .i64 v103, .int .i64 0, .bool v104, .int .i64 v105, .string (bs ([] : List UInt8))] rfl rfl rfl rfl ?_
    refine ⟨(by repeat first | exact List.nil_sublist _ | apply List.Sublist.cons_cons | apply List.Sublist.cons), ?_⟩
    intro w205 H
    refine nc ?_
    replace h := Option.some.inj h
    subst h
    exact ret_inA [.agg #[.int .i64 v103, .int .i64 0, .bool v104, .int .i64 v105, .string (bs ([] : List UInt8))], .int .i64 v105, .bool true] ⟨_, rfl, ⟨rfl, H.frame⟩⟩ (And.intro (Exists.intro _ (And.intro rfl (H.resA (m := 5) 0 rfl (by kernel_rfl) (by kernel_rfl) rfl))) (And.intro rfl (And.intro rfl trivial)))
/-! gemot/term.scan -/
noncomputable def term_scan.b1 (x0 : List UInt8) (v79 : Int) (y643 : Int) (v724 : List D_term_open) (v728 : Int) : Option (((List D_term_open) × Int) ⊕ ((List D_term_open) ⊕ (Int × Int × Int))) := cond ((v724.length : Int) == (0 : Int)) (some (.inr (Sum.inr ((IntKind.i64.wrap (v79 + y643)), v728, (0 : Int))))) ((some (IntKind.i64.wrap ((v724.length : Int) - (1 : Int)))).bind fun j858 => (idxL v724 j858).bind fun y860 => (slcM x0 y860.2.2.2.1 (IntKind.i64.wrap (v79 + y643))).bind fun y866 => cond (cond y860.2.2.1 (strLt y866 y860.2.2.2.2) false) (some (.inr (Sum.inr ((0 : Int), (0 : Int), (2 : Int))))) (cond (decide ((IntKind.i64.wrap (y860.1 - (1 : Int))) > (0 : Int))) (some (.inr (Sum.inl ((((v724.set (j858).toNat ((IntKind.i64.wrap (y860.1 - (1 : Int))), y860.2.1, y860.2.2.1, y860.2.2.2.1, y860.2.2.2.2)).set (j858).toNat ((IntKind.i64.wrap (y860.1 - (1 : Int))), (maxI y860.2.1 v728), y860.2.2.1, y860.2.2.2.1, y860.2.2.2.2)).set (j858).toNat ((IntKind.i64.wrap (y860.1 - (1 : Int))), (maxI y860.2.1 v728), y860.2.2.1, (IntKind.i64.wrap (v79 + y643)), y860.2.2.2.2)).set (j858).toNat ((IntKind.i64.wrap (y860.1 - (1 : Int))), (maxI y860.2.1 v728), y860.2.2.1, (IntKind.i64.wrap (v79 + y643)), y866))))) ((slcM ((((v724.set (j858).toNat ((IntKind.i64.wrap (y860.1 - (1 : Int))), y860.2.1, y860.2.2.1, y860.2.2.2.1, y860.2.2.2.2)).set (j858).toNat ((IntKind.i64.wrap (y860.1 - (1 : Int))), (maxI y860.2.1 v728), y860.2.2.1, y860.2.2.2.1, y860.2.2.2.2)).set (j858).toNat ((IntKind.i64.wrap (y860.1 - (1 : Int))), (maxI y860.2.1 v728), y860.2.2.1, (IntKind.i64.wrap (v79 + y643)), y860.2.2.2.2)).set (j858).toNat ((IntKind.i64.wrap (y860.1 - (1 : Int))), (maxI y860.2.1 v728), y860.2.2.1, (IntKind.i64.wrap (v79 + y643)), y866)) (0 : Int) (IntKind.i64.wrap ((((((v724.set (j858).toNat ((IntKind.i64.wrap (y860.1 - (1 : Int))), y860.2.1, y860.2.2.1, y860.2.2.2.1, y860.2.2.2.2)).set (j858).toNat ((IntKind.i64.wrap (y860.1 - (1 : Int))), (maxI y860.2.1 v728), y860.2.2.1, y860.2.2.2.1, y860.2.2.2.2)).set (j858).toNat ((IntKind.i64.wrap (y860.1 - (1 : Int))), (maxI y860.2.1 v728), y860.2.2.1, (IntKind.i64.wrap (v79 + y643)), y860.2.2.2.2)).set (j858).toNat ((IntKind.i64.wrap (y860.1 - (1 : Int))), (maxI y860.2.1 v728), y860.2.2.1, (IntKind.i64.wrap (v79 + y643)), y866)).length : Int) - (1 : Int)))).bind fun y903 => some (.inl (y903, (IntKind.i64.wrap ((maxI y860.2.1 v728) + (1 : Int))))))))
noncomputable def term_scan.b2 (x0 : List UInt8) (v75 : List D_term_open) (v79 : Int) : Option (((List D_term_open) × Int) ⊕ (Int × Int × Int)) := cond ((v75.length : Int) == (400 : Int)) (some (.inr ((0 : Int), (0 : Int), (4 : Int)))) (cond (decide (v79 ≥ (x0.length : Int))) (some (.inr ((0 : Int), (0 : Int), (2 : Int)))) ((slcM x0 v79 (x0.length : Int)).bind fun y641 => (term_leaf.f y641).bind fun y643 => cond (y643 == (0 : Int)) ((term_begin.f x0 v79).bind fun y650 => cond (!y650.2.2) (some (.inr ((0 : Int), (0 : Int), (2 : Int)))) (roomM 48 (v75.length + 1) (some (.inl ((v75 ++ [(y650.1.1, y650.1.2.1, y650.1.2.2.1, y650.1.2.2.2.1, y650.1.2.2.2.2)]), y650.2.1))))) ((loopM (fun s854 : (List D_term_open) × Int => term_scan.b1 x0 v79 y643 s854.1 s854.2) (v75, (1 : Int))).bind (Sum.elim (fun (o852 : (List D_term_open)) => some (.inl (o852, (IntKind.i64.wrap (v79 + y643))))) (fun (o853 : Int × Int × Int) => some (.inr o853))))))
noncomputable def term_scan.f (x0 : List UInt8) : Option (Int × Int × Int) := (loopM (fun s636 : (List D_term_open) × Int => term_scan.b2 x0 s636.1 s636.2) (([] : List D_term_open), (0 : Int))).bind (fun (o634 : Int × Int × Int) => some o634)
set_option maxHeartbeats 4000000 in
theorem term_scan_ok {ok : Nat → Prop} {w : World} {x0 : List UInt8} {r : Int × Int × Int} (h : term_scan.f x0 = some r) :
    Calls Try.prog 59 #[.string (bs x0)] w fun e w' => ∃ v, e = .returned v ∧ (v = .tuple #[.int .i64 r.1, .int .i64 r.2.1, .int .i64 r.2.2] ∧ Bel w.heap.size w w') := by
  have H : Eng.Own ok w w [] := Eng.Own.nil ok w
  unfold term_scan.f at h
  refine enterN (args := [.string (bs x0)]) Try.func59 rfl Try.ntmps59 rfl rfl ?_
  refine nc_seq ?_
  refine nc ?_
  refine nc_scope ?_
  refine nc_seq ?_
  refine nc ?_
  refine nc_seq ?_
  refine nc ?_
  refine nc_seq ?_
  refine nc ?_
  refine nc_block ?_
  replace H := H.nilRowD t_term_open 145
  obtain ⟨o626, hL627, hO628⟩ := bindS h
  obtain ⟨n629, hL627⟩ := loopS hL627
  refine nc ?_
  refine loop_ruleA (fun k e w633 => ∃ (A76 : Option Addr) (c77 : Nat) (cs78 : List Value) (v75 : List D_term_open) (v79 : Int), iterM (fun s636 : (List D_term_open) × Int => term_scan.b2 x0 s636.1 s636.2) k (v75, v79) = some o626 ∧ e = [(0, .string (bs x0)), (5, .slice A76 v75.length c77), (6, .int .i64 v79)] ∧ Eng.Own ok w w633 [.dat (dRows t_term_open v75 cs78), .row (.slice A76 v75.length c77) 145 5 v75.length cs78]) ⟨none, 0, [], _, _, hL627, rfl, H.pickL [0, 1] rfl⟩ ?_
  rintro k638 _ w637 ⟨A76, c77, cs78, v75, v79, hL627, rfl, H⟩
  obtain ⟨k632, rfl, q630, h, hq631⟩ := iterS hL627
  replace h : term_scan.b2 x0 v75 v79 = some q630 := h
  unfold term_scan.b2 at h
  refine nc_block ?_
  refine nc_seq ?_
  refine nc_seq ?_
  refine nc ?_
  refine nc_cond rfl (fun hc639 => ?_) (fun hc639 => ?_)
  · replace h := condT hc639 h
    refine nc_seq ?_
    refine nc ?_
    refine nc ?_
    cases h
    replace hq631 : ((0 : Int), (0 : Int), (4 : Int)) = o626 := hq631
    subst hq631
    have h := hO628
    try dsimp only [Sum.elim_inl, Sum.elim_inr] at h
    replace h := Option.some.inj h
    subst h
    exact ret_inA [.int .i64 0, .int .i64 0, .int .i64 4] ⟨_, rfl, ⟨rfl, H.frame⟩⟩
  · replace h := condF hc639 h
    refine nc ?_
    refine nc_seq ?_
    refine nc_seq ?_
    refine nc ?_
    refine nc_cond rfl (fun hc640 => ?_) (fun hc640 => ?_)
    · replace h := condT hc640 h
      refine nc_seq ?_
      refine nc ?_
      refine nc ?_
      cases h
      replace hq631 : ((0 : Int), (0 : Int), (2 : Int)) = o626 := hq631
      subst hq631
      have h := hO628
      try dsimp only [Sum.elim_inl, Sum.elim_inr] at h
      replace h := Option.some.inj h
      subst h
      exact ret_inA [.int .i64 0, .int .i64 0, .int .i64 2] ⟨_, rfl, ⟨rfl, H.frame⟩⟩
    · replace h := condF hc640 h
      refine nc ?_
      refine nc_seq ?_
      refine nc ?_
      obtain ⟨y641, hx642, h⟩ := bindS h
      refine txtI_rule v79 (x0.length : Int) (by kernel_rfl) ⟨_, rfl⟩ rfl hx642 ?_
      obtain ⟨y643, hy644, h⟩ := bindS h
      refine call_rule (by kernel_rfl) (term_leaf_ok (ok := fun _ => False) hy644) fun v646 w645 ⟨hv647, hb648⟩ => ?_
      subst hv647
      replace H := H.call hb648
      refine nc_seq ?_
      refine nc_seq ?_
      refine nc ?_
      refine nc_cond rfl (fun hc649 => ?_) (fun hc649 => ?_)
      · replace h := condT hc649 h
        refine nc_seq ?_
        refine nc ?_
        obtain ⟨y650, hy651, h⟩ := bindS h
        refine call_rule (by kernel_rfl) (term_begin_ok (ok := fun _ => False) hy651) fun v653 w652 ⟨hv654, hb655⟩ => ?_
        subst hv654
        replace H := H.call hb655
        refine own_alloc (z := .agg #[.int .i64 0, .int .i64 0, .bool false, .int .i64 0, .string ⟨#[]⟩]) H (by kernel_rfl) [.int .i64 0, .int .i64 0, .bool false, .int .i64 0, .string ⟨#[]⟩] rfl fun g657 w658 H => ?_
        refine own_storeB (m := 5) H 0 rfl (by kernel_rfl) [.int .i64 y650.1.1, .int .i64 y650.1.2.1, .bool y650.1.2.2.1, .int .i64 y650.1.2.2.2.1, .string (bs y650.1.2.2.2.2)] rfl rfl rfl rfl fun w659 H => ?_
        refine nc_seq ?_
        refine nc_seq ?_
        refine nc ?_
        refine nc_cond rfl (fun hc660 => ?_) (fun hc660 => ?_)
        · replace h := condT hc660 h
          refine nc_seq ?_
          refine nc ?_
          refine nc ?_
          cases h
          replace hq631 : ((0 : Int), (0 : Int), (2 : Int)) = o626 := hq631
          subst hq631
          have h := hO628
          try dsimp only [Sum.elim_inl, Sum.elim_inr] at h
          replace h := Option.some.inj h
          subst h
          exact ret_inA [.int .i64 0, .int .i64 0, .int .i64 2] ⟨_, rfl, ⟨rfl, H.frame⟩⟩
        · replace h := condF hc660 h
          refine nc ?_
          refine nc_seq ?_
          refine nc ?_
          refine own_loadA (m := 5) H 0 rfl (by kernel_rfl) (by kernel_rfl) [.int .i64 y650.1.1, .int .i64 y650.1.2.1, .bool y650.1.2.2.1, .int .i64 y650.1.2.2.2.1, .string (bs y650.1.2.2.2.2)] rfl rfl ?_
          refine own_buildSlice (e := 145) (sz := 5) (z := .agg #[.int .i64 0, .int .i64 0, .bool false, .int .i64 0, .string ⟨#[]⟩]) (cs := [.int .i64 y650.1.1, .int .i64 y650.1.2.1, .bool y650.1.2.2.1, .int .i64 y650.1.2.2.2.1, .string (bs y650.1.2.2.2.2)]) H (by kernel_rfl) (by kernel_rfl) (by kernel_rfl) rfl rfl rfl rfl fun g662 w663 H => ?_
          obtain ⟨hr664, h⟩ := roomS h
          refine own_append1 (k := t_term_open) (z := .agg #[.int .i64 0, .int .i64 0, .bool false, .int .i64 0, .string ⟨#[]⟩]) (x := (y650.1.1, y650.1.2.1, y650.1.2.2.1, y650.1.2.2.2.1, y650.1.2.2.2.2)) 48 H 2 1 rfl rfl rfl (term_open_in (x := (y650.1.1, y650.1.2.1, y650.1.2.2.1, y650.1.2.2.2.1, y650.1.2.2.2.2))) (by kernel_rfl) (by kernel_rfl) rfl rfl hr664 rfl fun z665 cs666 w667 H => ?_
          obtain ⟨A668, c669, rfl, _, _⟩ := H.rowSl 2 rfl
          refine nc ?_
          cases h
          exact again_inA ⟨A668, c669, cs666, _, _, hq631, rfl, H.pickL [1, 2] rfl⟩
      · replace h := condF hc649 h
        refine nc ?_
        refine nc_seq ?_
        refine nc ?_
        refine nc_seq ?_
        refine nc ?_
        refine nc_block ?_
        obtain ⟨o844, hL845, hO846⟩ := bindS h
        obtain ⟨n847, hL845⟩ := loopS hL845
        refine nc ?_
        refine loop_ruleA (fun k e w851 => ∃ (A725 : Option Addr) (c726 : Nat) (cs727 : List Value) (v724 : List D_term_open) (v728 : Int), iterM (fun s854 : (List D_term_open) × Int => term_scan.b1 x0 v79 y643 s854.1 s854.2) k (v724, v728) = some o844 ∧ e = [(0, .string (bs x0)), (5, .slice A725 v724.length c726), (6, .int .i64 (IntKind.i64.wrap (v79 + y643))), (11, .int .i64 v728)] ∧ Eng.Own ok w w851 [.dat (dRows t_term_open v724 cs727), .row (.slice A725 v724.length c726) 145 5 v724.length cs727]) ⟨A76, c77, cs78, _, _, hL845, rfl, H.pickL [0, 1] rfl⟩ ?_
        rintro k856 _ w855 ⟨A725, c726, cs727, v724, v728, hL845, rfl, H⟩
        obtain ⟨k850, rfl, q848, h, hq849⟩ := iterS hL845
        replace h : term_scan.b1 x0 v79 y643 v724 v728 = some q848 := h
        unfold term_scan.b1 at h
        refine nc_block ?_
        refine nc_seq ?_
        refine nc_seq ?_
        refine nc ?_
        refine nc_cond rfl (fun hc857 => ?_) (fun hc857 => ?_)
        · replace h := condT hc857 h
          refine nc_seq ?_
          refine nc ?_
          refine nc ?_
          cases h
          replace hq849 : (Sum.inr ((IntKind.i64.wrap (v79 + y643)), v728, (0 : Int))) = o844 := hq849
          subst hq849
          have h := hO846
          try dsimp only [Sum.elim_inl, Sum.elim_inr] at h
          cases h
          replace hq631 : ((IntKind.i64.wrap (v79 + y643)), v728, (0 : Int)) = o626 := hq631
          subst hq631
          have h := hO628
          try dsimp only [Sum.elim_inl, Sum.elim_inr] at h
          replace h := Option.some.inj h
          subst h
          exact ret_inA [.int .i64 (IntKind.i64.wrap (v79 + y643)), .int .i64 v728, .int .i64 0] ⟨_, rfl, ⟨rfl, H.frame⟩⟩
        · replace h := condF hc857 h
          refine nc ?_
          refine nc_seq ?_
          refine nc ?_
          obtain ⟨j858, hJ859, h⟩ := bindS h
          obtain ⟨y860, hx861, h⟩ := bindS h
          obtain ⟨a862, _, rfl, _, _⟩ := H.rowElem (k := t_term_open) 1 0 rfl rfl rfl hx861
          refine idxA_ruleJ (e := 145) 5 _ j858 hJ859 (by kernel_rfl) (by kernel_rfl) (idxL_some hx861).1 (idxL_some hx861).2.1 ?_
          refine nc_seq ?_
          refine nc ?_
          obtain ⟨cs863, hR864, hC865⟩ := H.rowElemJ (k := t_term_open) 1 0 rfl rfl rfl hx861
          replace hR864 : cs863 = [.int .i64 y860.1, .int .i64 y860.2.1, .bool y860.2.2.1, .int .i64 y860.2.2.2.1, .string (bs y860.2.2.2.2)] := by exact term_open_cells hR864
          subst hR864
          refine load_at hC865 3 (by kernel_rfl) rfl ?_
          obtain ⟨y866, hx867, h⟩ := bindS h
          refine txtI_rule y860.2.2.2.1 (IntKind.i64.wrap (v79 + y643)) (by kernel_rfl) ⟨_, rfl⟩ ⟨_, rfl⟩ hx867 ?_
          refine nc_seq ?_
          refine nc_seq ?_
          refine nc ?_
          obtain ⟨cs868, hR869, hC870⟩ := H.rowElemJ (k := t_term_open) 1 0 rfl rfl rfl hx861
          replace hR869 : cs868 = [.int .i64 y860.1, .int .i64 y860.2.1, .bool y860.2.2.1, .int .i64 y860.2.2.2.1, .string (bs y860.2.2.2.2)] := by exact term_open_cells hR869
          subst hR869
          refine load_at hC870 2 (by kernel_rfl) rfl ?_
          obtain ⟨cs871, hR872, hC873⟩ := H.rowElemJ (k := t_term_open) 1 0 rfl rfl rfl hx861
          replace hR872 : cs871 = [.int .i64 y860.1, .int .i64 y860.2.1, .bool y860.2.2.1, .int .i64 y860.2.2.2.1, .string (bs y860.2.2.2.2)] := by exact term_open_cells hR872
          subst hR872
          refine load_at hC873 4 (by kernel_rfl) rfl ?_
          refine nc_cond rfl (fun hc874 => ?_) (fun hc874 => ?_)
          · replace h := condT hc874 h
            refine nc_seq ?_
            refine nc ?_
            refine nc ?_
            cases h
            replace hq849 : (Sum.inr ((0 : Int), (0 : Int), (2 : Int))) = o844 := hq849
            subst hq849
            have h := hO846
            try dsimp only [Sum.elim_inl, Sum.elim_inr] at h
            cases h
            replace hq631 : ((0 : Int), (0 : Int), (2 : Int)) = o626 := hq631
            subst hq631
            have h := hO628
            try dsimp only [Sum.elim_inl, Sum.elim_inr] at h
            replace h := Option.some.inj h
            subst h
            exact ret_inA [.int .i64 0, .int .i64 0, .int .i64 2] ⟨_, rfl, ⟨rfl, H.frame⟩⟩
          · replace h := condF hc874 h
            refine nc ?_
            refine nc_seq ?_
            have hx877 := idxL_set hx861 ((IntKind.i64.wrap (y860.1 - (1 : Int))), y860.2.1, y860.2.2.1, y860.2.2.2.1, y860.2.2.2.2)
            have hx882 := idxL_set hx877 (((IntKind.i64.wrap (y860.1 - (1 : Int))), y860.2.1, y860.2.2.1, y860.2.2.2.1, y860.2.2.2.2).1, (maxI y860.2.1 v728), ((IntKind.i64.wrap (y860.1 - (1 : Int))), y860.2.1, y860.2.2.1, y860.2.2.2.1, y860.2.2.2.2).2.2.1, ((IntKind.i64.wrap (y860.1 - (1 : Int))), y860.2.1, y860.2.2.1, y860.2.2.2.1, y860.2.2.2.2).2.2.2.1, ((IntKind.i64.wrap (y860.1 - (1 : Int))), y860.2.1, y860.2.2.1, y860.2.2.2.1, y860.2.2.2.2).2.2.2.2)
            have hx887 := idxL_set hx882 ((IntKind.i64.wrap (y860.1 - (1 : Int))), (maxI y860.2.1 v728), y860.2.2.1, (IntKind.i64.wrap (v79 + y643)), y860.2.2.2.2)
            have hx892 := idxL_set hx887 ((IntKind.i64.wrap (y860.1 - (1 : Int))), (maxI y860.2.1 v728), y860.2.2.1, (IntKind.i64.wrap (v79 + y643)), y866)
            refine nc ?_
            refine draw_rule [0, 0, 0, 0, 0, 0, 0, 0, 1000, 0, 0, 0, 0, 0, 1000, 0, 0, 0, 0, 0, 0, 0, 0, 0, 0, 0, 0, 0, 0] (by kernel_rfl) (by kernel_rfl) H ?_
            refine c_rowLoad (k := t_term_open) j858 1 0 0 rfl rfl rfl hx861 (by kernel_rfl) (fun _ _ cs hR => (show cs = [.int .i64 y860.1, .int .i64 y860.2.1, .bool y860.2.2.1, .int .i64 y860.2.2.2.1, .string (bs y860.2.2.2.2)] → cs[0]? = some (.int .i64 y860.1) from fun h => by subst h; rfl) (by exact term_open_cells hR)) ?_
            refine c_rowLoad (k := t_term_open) j858 1 0 1 rfl rfl rfl hx861 (by kernel_rfl) (fun _ _ cs hR => (show cs = [.int .i64 y860.1, .int .i64 y860.2.1, .bool y860.2.2.1, .int .i64 y860.2.2.2.1, .string (bs y860.2.2.2.2)] → cs[1]? = some (.int .i64 y860.2.1) from fun h => by subst h; rfl) (by exact term_open_cells hR)) ?_
            refine c_rowStore (k := t_term_open) (m := 1) ((IntKind.i64.wrap (y860.1 - (1 : Int))), y860.2.1, y860.2.2.1, y860.2.2.2.1, y860.2.2.2.2) 1 0 rfl rfl j858 0 rfl hx861 (by kernel_rfl) [.int .i64 (IntKind.i64.wrap (y860.1 - (1 : Int)))] rfl rfl rfl rfl (fun _ _ cs hR => (show cs = [.int .i64 y860.1, .int .i64 y860.2.1, .bool y860.2.2.1, .int .i64 y860.2.2.2.1, .string (bs y860.2.2.2.2)] → (t_term_open).R _ _ ((IntKind.i64.wrap (y860.1 - (1 : Int))), y860.2.1, y860.2.2.1, y860.2.2.2.1, y860.2.2.2.2) (setRange cs 0 [.int .i64 (IntKind.i64.wrap (y860.1 - (1 : Int)))]) from fun h => by subst h; exact term_open_in (x := ((IntKind.i64.wrap (y860.1 - (1 : Int))), y860.2.1, y860.2.2.1, y860.2.2.2.1, y860.2.2.2.2))) (by exact term_open_cells hR)) ?_
            intro cs876
            refine c_rowStore (k := t_term_open) (m := 1) ((IntKind.i64.wrap (y860.1 - (1 : Int))), (maxI y860.2.1 v728), y860.2.2.1, y860.2.2.2.1, y860.2.2.2.2) 1 0 rfl rfl j858 1 (by simp only [List.length_set]) hx877 (by kernel_rfl) [.int .i64 (maxI y860.2.1 v728)] rfl rfl rfl rfl (fun _ _ cs hR => (show cs = [.int .i64 ((IntKind.i64.wrap (y860.1 - (1 : Int)))), .int .i64 (y860.2.1), .bool (y860.2.2.1), .int .i64 (y860.2.2.2.1), .string (bs (y860.2.2.2.2))] → (t_term_open).R _ _ ((IntKind.i64.wrap (y860.1 - (1 : Int))), (maxI y860.2.1 v728), y860.2.2.1, y860.2.2.2.1, y860.2.2.2.2) (setRange cs 1 [.int .i64 (maxI y860.2.1 v728)]) from fun h => by subst h; exact term_open_in (x := ((IntKind.i64.wrap (y860.1 - (1 : Int))), (maxI y860.2.1 v728), y860.2.2.1, y860.2.2.2.1, y860.2.2.2.2))) (by exact term_open_cells hR)) ?_
            intro cs881
            refine c_rowStore (k := t_term_open) (m := 1) ((IntKind.i64.wrap (y860.1 - (1 : Int))), (maxI y860.2.1 v728), y860.2.2.1, (IntKind.i64.wrap (v79 + y643)), y860.2.2.2.2) 1 0 rfl rfl j858 3 (by simp only [List.length_set]) hx882 (by kernel_rfl) [.int .i64 (IntKind.i64.wrap (v79 + y643))] rfl rfl rfl rfl (fun _ _ cs hR => (show cs = [.int .i64 ((IntKind.i64.wrap (y860.1 - (1 : Int)))), .int .i64 ((maxI y860.2.1 v728)), .bool (y860.2.2.1), .int .i64 (y860.2.2.2.1), .string (bs (y860.2.2.2.2))] → (t_term_open).R _ _ ((IntKind.i64.wrap (y860.1 - (1 : Int))), (maxI y860.2.1 v728), y860.2.2.1, (IntKind.i64.wrap (v79 + y643)), y860.2.2.2.2) (setRange cs 3 [.int .i64 (IntKind.i64.wrap (v79 + y643))]) from fun h => by subst h; exact term_open_in (x := ((IntKind.i64.wrap (y860.1 - (1 : Int))), (maxI y860.2.1 v728), y860.2.2.1, (IntKind.i64.wrap (v79 + y643)), y860.2.2.2.2))) (by exact term_open_cells hR)) ?_
            intro cs886
            refine c_rowStore (k := t_term_open) (m := 1) ((IntKind.i64.wrap (y860.1 - (1 : Int))), (maxI y860.2.1 v728), y860.2.2.1, (IntKind.i64.wrap (v79 + y643)), y866) 1 0 rfl rfl j858 4 (by simp only [List.length_set]) hx887 (by kernel_rfl) [.string (bs y866)] rfl rfl rfl rfl (fun _ _ cs hR => (show cs = [.int .i64 ((IntKind.i64.wrap (y860.1 - (1 : Int)))), .int .i64 ((maxI y860.2.1 v728)), .bool (y860.2.2.1), .int .i64 ((IntKind.i64.wrap (v79 + y643))), .string (bs (y860.2.2.2.2))] → (t_term_open).R _ _ ((IntKind.i64.wrap (y860.1 - (1 : Int))), (maxI y860.2.1 v728), y860.2.2.1, (IntKind.i64.wrap (v79 + y643)), y866) (setRange cs 4 [.string (bs y866)]) from fun h => by subst h; exact term_open_in (x := ((IntKind.i64.wrap (y860.1 - (1 : Int))), (maxI y860.2.1 v728), y860.2.2.1, (IntKind.i64.wrap (v79 + y643)), y866))) (by exact term_open_cells hR)) ?_
            intro cs891
            intro w895 H
            rw [show v724.length = ((((v724.set (j858).toNat ((IntKind.i64.wrap (y860.1 - (1 : Int))), y860.2.1, y860.2.2.1, y860.2.2.2.1, y860.2.2.2.2)).set (j858).toNat ((IntKind.i64.wrap (y860.1 - (1 : Int))), (maxI y860.2.1 v728), y860.2.2.1, y860.2.2.2.1, y860.2.2.2.2)).set (j858).toNat ((IntKind.i64.wrap (y860.1 - (1 : Int))), (maxI y860.2.1 v728), y860.2.2.1, (IntKind.i64.wrap (v79 + y643)), y860.2.2.2.2)).set (j858).toNat ((IntKind.i64.wrap (y860.1 - (1 : Int))), (maxI y860.2.1 v728), y860.2.2.1, (IntKind.i64.wrap (v79 + y643)), y866)).length from by simp only [List.length_set]] at H ⊢
            refine nc_seq ?_
            refine nc_seq ?_
            refine nc ?_
            obtain ⟨cs896, hR897, hC898⟩ := H.rowElemJ (k := t_term_open) 1 0 rfl rfl rfl hx892
            replace hR897 : cs896 = [.int .i64 ((IntKind.i64.wrap (y860.1 - (1 : Int)))), .int .i64 ((maxI y860.2.1 v728)), .bool (y860.2.2.1), .int .i64 ((IntKind.i64.wrap (v79 + y643))), .string (bs (y866))] := by exact term_open_cells hR897
            subst hR897
            refine load_at hC898 0 (by kernel_rfl) rfl ?_
            refine nc_cond rfl (fun hc899 => ?_) (fun hc899 => ?_)
            · replace h := condT hc899 h
              refine nc ?_
              cases h
              replace hq849 : (Sum.inl ((((v724.set (j858).toNat ((IntKind.i64.wrap (y860.1 - (1 : Int))), y860.2.1, y860.2.2.1, y860.2.2.2.1, y860.2.2.2.2)).set (j858).toNat ((IntKind.i64.wrap (y860.1 - (1 : Int))), (maxI y860.2.1 v728), y860.2.2.1, y860.2.2.2.1, y860.2.2.2.2)).set (j858).toNat ((IntKind.i64.wrap (y860.1 - (1 : Int))), (maxI y860.2.1 v728), y860.2.2.1, (IntKind.i64.wrap (v79 + y643)), y860.2.2.2.2)).set (j858).toNat ((IntKind.i64.wrap (y860.1 - (1 : Int))), (maxI y860.2.1 v728), y860.2.2.1, (IntKind.i64.wrap (v79 + y643)), y866))) = o844 := hq849
              subst hq849
              have h := hO846
              try dsimp only [Sum.elim_inl, Sum.elim_inr] at h
              cases h
              exact again_inA ⟨some a862, c726, cs891, _, _, hq631, rfl, H.pickL [0, 1] rfl⟩
            · replace h := condF hc899 h
              refine nc ?_
              refine nc_seq ?_
              refine nc ?_
              obtain ⟨cs900, hR901, hC902⟩ := H.rowElemJ (k := t_term_open) 1 0 rfl rfl rfl hx892
              replace hR901 : cs900 = [.int .i64 ((IntKind.i64.wrap (y860.1 - (1 : Int)))), .int .i64 ((maxI y860.2.1 v728)), .bool (y860.2.2.1), .int .i64 ((IntKind.i64.wrap (v79 + y643))), .string (bs (y866))] := by exact term_open_cells hR901
              subst hR901
              refine load_at hC902 1 (by kernel_rfl) rfl ?_
              refine nc ?_
              obtain ⟨y903, hx904, h⟩ := bindS h
              refine own_rowTake (k := t_term_open) (e := 145) (IntKind.i64.wrap ((((((v724.set (j858).toNat ((IntKind.i64.wrap (y860.1 - (1 : Int))), y860.2.1, y860.2.2.1, y860.2.2.2.1, y860.2.2.2.2)).set (j858).toNat ((IntKind.i64.wrap (y860.1 - (1 : Int))), (maxI y860.2.1 v728), y860.2.2.1, y860.2.2.2.1, y860.2.2.2.2)).set (j858).toNat ((IntKind.i64.wrap (y860.1 - (1 : Int))), (maxI y860.2.1 v728), y860.2.2.1, (IntKind.i64.wrap (v79 + y643)), y860.2.2.2.2)).set (j858).toNat ((IntKind.i64.wrap (y860.1 - (1 : Int))), (maxI y860.2.1 v728), y860.2.2.1, (IntKind.i64.wrap (v79 + y643)), y866)).length : Int) - (1 : Int))) H 1 0 rfl rfl rfl (by kernel_rfl) (by kernel_rfl) ⟨_, rfl⟩ hx904 fun A905 c906 cs907 H => ?_
              cases h
              exact again_inA ⟨A905, c906, cs907, _, _, hq849, rfl, H.pickL [0, 1] rfl⟩
/-! gemot/term.Take -/
noncomputable def term_Take.f (x0 : List UInt8) : Option ((List UInt8) × (List UInt8) × Int) := (term_scan.f x0).bind fun y1 => cond (y1.2.2 != (0 : Int)) (some (([] : List UInt8), ([] : List UInt8), y1.2.2)) (cond (decide (y1.1 > (20000 : Int))) (some (([] : List UInt8), ([] : List UInt8), (3 : Int))) ((slcM x0 (0 : Int) y1.1).bind fun y9 => (slcM x0 y1.1 (x0.length : Int)).bind fun y11 => some (y9, y11, (0 : Int))))
set_option maxHeartbeats 4000000 in
theorem term_Take_ok {ok : Nat → Prop} {w : World} {x0 : List UInt8} {r : (List UInt8) × (List UInt8) × Int} (h : term_Take.f x0 = some r) :
    Calls Try.prog 48 #[.string (bs x0)] w fun e w' => ∃ v, e = .returned v ∧ (v = .tuple #[.string (bs r.1), .string (bs r.2.1), .int .i64 r.2.2] ∧ Bel w.heap.size w w') := by
  have H : Eng.Own ok w w [] := Eng.Own.nil ok w
  unfold term_Take.f at h
  refine enterN (args := [.string (bs x0)]) Try.func48 rfl Try.ntmps48 rfl rfl ?_
  refine nc_seq ?_
  refine nc ?_
  refine nc_seq ?_
  refine nc ?_
  obtain ⟨y1, hy2, h⟩ := bindS h
  refine call_rule (by kernel_rfl) (term_scan_ok (ok := fun _ => False) hy2) fun v4 w3 ⟨hv5, hb6⟩ => ?_
  subst hv5
  replace H := H.call hb6
  refine nc_seq ?_
  refine nc_block ?_
  refine nc_seq ?_
  refine nc ?_
  refine nc_cond rfl (fun hc7 => ?_) (fun hc7 => ?_)
  · replace h := condT hc7 h
    refine nc_seq ?_
    refine nc ?_
    refine nc ?_
    replace h := Option.some.inj h
    subst h
    exact ret_inA [.string (bs ([] : List UInt8)), .string (bs ([] : List UInt8)), .int .i64 y1.2.2] ⟨_, rfl, ⟨rfl, H.frame⟩⟩
  · replace h := condF hc7 h
    refine nc_seq ?_
    refine nc ?_
    refine nc_cond rfl (fun hc8 => ?_) (fun hc8 => ?_)
    · replace h := condT hc8 h
      refine nc_seq ?_
      refine nc ?_
      refine nc ?_
      replace h := Option.some.inj h
      subst h
      exact ret_inA [.string (bs ([] : List UInt8)), .string (bs ([] : List UInt8)), .int .i64 3] ⟨_, rfl, ⟨rfl, H.frame⟩⟩
    · replace h := condF hc8 h
      refine nc ?_
      refine nc_seq ?_
      obtain ⟨y9, hx10, h⟩ := bindS h
      obtain ⟨y11, hx12, h⟩ := bindS h
      refine nc ?_
      refine draw_rule [] (by kernel_rfl) (by kernel_rfl) H ?_
      refine c_txtI (0 : Int) y1.1 (by kernel_rfl) rfl ⟨_, rfl⟩ hx10 ?_
      refine c_txtI y1.1 (x0.length : Int) (by kernel_rfl) ⟨_, rfl⟩ rfl hx12 ?_
      intro w13 H
      refine nc ?_
      replace h := Option.some.inj h
      subst h
      exact ret_inA [.string (bs y9), .string (bs y11), .int .i64 0] ⟨_, rfl, ⟨rfl, H.frame⟩⟩
/-! gemot/term.Right -/
noncomputable def term_Right.f (x0 : List UInt8) : Option (Bool) := (term_Take.f x0).bind fun y1 => some (cond (cond (y1.2.2 == (0 : Int)) (strEq y1.2.1 ([] : List UInt8)) false) (strEq y1.1 x0) false)
set_option maxHeartbeats 4000000 in
theorem term_Right_ok {ok : Nat → Prop} {w : World} {x0 : List UInt8} {r : Bool} (h : term_Right.f x0 = some r) :
    Calls Try.prog 33 #[.string (bs x0)] w fun e w' => ∃ v, e = .returned v ∧ (v = .bool r ∧ Bel w.heap.size w w') := by
  have H : Eng.Own ok w w [] := Eng.Own.nil ok w
  unfold term_Right.f at h
  refine enterN (args := [.string (bs x0)]) Try.func33 rfl Try.ntmps33 rfl rfl ?_
  refine nc_seq ?_
  refine nc ?_
  refine nc_seq ?_
  refine nc ?_
  obtain ⟨y1, hy2, h⟩ := bindS h
  refine call_rule (by kernel_rfl) (term_Take_ok (ok := fun _ => False) hy2) fun v4 w3 ⟨hv5, hb6⟩ => ?_
  subst hv5
  replace H := H.call hb6
  refine nc_seq ?_
  refine nc ?_
  refine nc ?_
  replace h := Option.some.inj h
  subst h
  exact ret_inA [.bool (cond (cond (y1.2.2 == (0 : Int)) (strEq y1.2.1 ([] : List UInt8)) false) (strEq y1.1 x0) false)] ⟨_, rfl, ⟨rfl, H.frame⟩⟩
/-! (gemot/cut.Part).place -/
noncomputable def cut_Part_place.f (x0 : D_cut_Part) : Option (D_cut_place) := some ((x0.1.1, x0.1.2), x0.2.1)
set_option maxHeartbeats 4000000 in
theorem cut_Part_place_ok {ok : Nat → Prop} {w : World} {u1 : Value} {x0 : D_cut_Part} {r : D_cut_place} (hu2 : slR tStr w ok u1 x0.2.2) (h : cut_Part_place.f x0 = some r) :
    Calls Try.prog 49 #[.agg #[.int .i64 x0.1.1, .int .i64 x0.1.2, .int .i64 x0.2.1, u1]] w fun e w' => ∃ v, e = .returned v ∧ (v = .agg #[.int .i64 r.1.1, .int .i64 r.1.2, .int .i64 r.2] ∧ Bel w.heap.size w w') := by
  have H : Eng.Own ok w w [] := Eng.Own.nil ok w
  obtain ⟨A3, c4, rfl, H⟩ := H.arg rfl hu2
  unfold cut_Part_place.f at h
  refine enterN (args := [.agg #[.int .i64 x0.1.1, .int .i64 x0.1.2, .int .i64 x0.2.1, .slice A3 x0.2.2.length c4]]) Try.func49 rfl Try.ntmps49 rfl rfl ?_
  refine nc_seq ?_
  refine nc ?_
  refine own_box H [.int .i64 x0.1.1, .int .i64 x0.1.2, .int .i64 x0.2.1, .slice A3 x0.2.2.length c4] rfl fun g7 w8 H => ?_
  refine own_alloc (z := .agg #[.int .i64 0, .int .i64 0, .int .i64 0]) H (by kernel_rfl) [.int .i64 0, .int .i64 0, .int .i64 0] rfl fun g10 w11 H => ?_
  refine nc_seq ?_
  refine nc ?_
  refine own_loadA (m := 2) H 1 rfl (by kernel_rfl) (by kernel_rfl) [.int .i64 x0.1.1, .int .i64 x0.1.2] rfl rfl ?_
  refine own_load H 1 rfl (by kernel_rfl) (j := 2) rfl ?_
  refine own_storeB (m := 3) H 0 rfl (by kernel_rfl) [.int .i64 x0.1.1, .int .i64 x0.1.2, .int .i64 x0.2.1] rfl rfl rfl rfl fun w12 H => ?_
  refine nc ?_
  replace h := Option.some.inj h
  subst h
  exact ret_inA [.agg #[.int .i64 x0.1.1, .int .i64 x0.1.2, .int .i64 x0.2.1]] ⟨_, rfl, ⟨rfl, H.frame⟩⟩ (And.intro (Exists.intro _ (And.intro rfl (H.resA (m := 3) 0 rfl (by kernel_rfl) (by kernel_rfl) rfl))) trivial)
/-! gemot/view.Row -/
noncomputable def view_Row.b1 (x0 : List Int) (v67 : Int) (v68 : Int) : Option ((Int × Int) ⊕ (Int ⊕ Bool)) := cond (decide (v68 < (x0.length : Int))) ((idxL x0 v68).bind fun y102 => cond (cond (decide (y102 ≤ v67)) true (decide (y102 > (8 : Int)))) (some (.inr (Sum.inr false))) (some (.inl (y102, (IntKind.i64.wrap (v68 + (1 : Int))))))) (some (.inr (Sum.inl v67)))
noncomputable def view_Row.k2 (v56 : Int) : Option (Bool) := some (decide (v56 > (0 : Int)))
noncomputable def view_Row.f (x0 : List Int) : Option (Bool) := (loopM (fun s98 : Int × Int => view_Row.b1 x0 s98.1 s98.2) ((0 : Int), (0 : Int))).bind (Sum.elim (fun (o96 : Int) => view_Row.k2 o96) (fun (o97 : Bool) => some o97))
set_option maxHeartbeats 4000000 in
theorem view_Row_ok {ok : Nat → Prop} {w : World} {u1 : Value} {x0 : List Int} {r : Bool} (hu2 : slR (tInt .i64) w ok u1 x0) (h : view_Row.f x0 = some r) :
    Calls Try.prog 20 #[u1] w fun e w' => ∃ v, e = .returned v ∧ (v = .bool r ∧ Bel w.heap.size w w') := by
  have H : Eng.Own ok w w [] := Eng.Own.nil ok w
  obtain ⟨A3, c4, rfl, H⟩ := H.arg rfl hu2
  unfold view_Row.f at h
  refine enterN (args := [.slice A3 x0.length c4]) Try.func20 rfl Try.ntmps20 rfl rfl ?_
  refine nc_seq ?_
  refine nc ?_
  refine nc_seq ?_
  refine nc ?_
  refine nc_cut (fun e w57 => ∃ (v56 : Int), view_Row.k2 v56 = some r ∧ e = [(3, .int .i64 v56)] ∧ Eng.Own ok w w57 []) ?_ ?_
  · skip
    refine nc_seq ?_
    refine nc ?_
    refine nc_block ?_
    obtain ⟨o88, hL89, hO90⟩ := bindS h
    obtain ⟨n91, hL89⟩ := loopS hL89
    refine nc ?_
    refine loop_ruleA (fun k e w95 => ∃ (v67 : Int) (v68 : Int), iterM (fun s98 : Int × Int => view_Row.b1 x0 s98.1 s98.2) k (v67, v68) = some o88 ∧ e = [(3, .int .i64 v67), (6, .slice A3 x0.length c4), (7, .int .i64 (x0.length : Int)), (8, .int .i64 v68)] ∧ Eng.Own ok w w95 [.dat (dSl (tInt .i64) (.slice A3 x0.length c4) x0)]) ⟨_, _, hL89, rfl, H.pickL [0] rfl⟩ ?_
    rintro k100 _ w99 ⟨v67, v68, hL89, rfl, H⟩
    obtain ⟨k94, rfl, q92, h, hq93⟩ := iterS hL89
    replace h : view_Row.b1 x0 v67 v68 = some q92 := h
    unfold view_Row.b1 at h
    refine nc_seq ?_
    refine nc ?_
    refine nc_seq ?_
    refine nc_cond rfl (fun hc101 => ?_) (fun hc101 => ?_)
    · replace h := condT hc101 h
      refine nc ?_
      refine nc_seq ?_
      refine nc_block ?_
      refine nc_seq ?_
      refine nc ?_
      obtain ⟨y102, hx103, h⟩ := bindS h
      obtain ⟨a104, cs105, rfl, hR106, H⟩ := H.elemI 0 rfl hx103
      obtain rfl : cs105 = [.int .i64 y102] := hR106
      refine idxA_rule (e := 3) 1 _ (by kernel_rfl) (by kernel_rfl) (idxL_some hx103).1 (idxL_some hx103).2.1 ?_
      refine own_loadD H 0 rfl 0 (by kernel_rfl) rfl ?_
      refine nc_seq ?_
      refine nc_seq ?_
      refine nc ?_
      refine nc_cond rfl (fun hc108 => ?_) (fun hc108 => ?_)
      · replace h := condT hc108 h
        refine nc_seq ?_
        refine nc ?_
        refine nc ?_
        cases h
        replace hq93 : (Sum.inr false) = o88 := hq93
        subst hq93
        have h := hO90
        try dsimp only [Sum.elim_inl, Sum.elim_inr] at h
        replace h := Option.some.inj h
        subst h
        exact ret_inA [.bool false] ⟨_, rfl, ⟨rfl, H.frame⟩⟩
      · replace h := condF hc108 h
        refine nc ?_
        refine nc ?_
        refine nc ?_
        cases h
        exact again_inA ⟨_, _, hq93, rfl, H.pickL [1] rfl⟩
    · replace h := condF hc101 h
      refine nc ?_
      cases h
      replace hq93 : (Sum.inl v67) = o88 := hq93
      subst hq93
      have h := hO90
      try dsimp only [Sum.elim_inl, Sum.elim_inr] at h
      exact cut_inA ⟨_, h, rfl, H.pickL [] rfl⟩
  · rintro _ w109 ⟨v56, h, rfl, H⟩
    unfold view_Row.k2 at h
    refine nc_seq ?_
    refine nc ?_
    refine nc ?_
    replace h := Option.some.inj h
    subst h
    exact ret_inA [.bool (decide (v56 > (0 : Int)))] ⟨_, rfl, ⟨rfl, H.frame⟩⟩
/-! slices.Index(()int,int) -/
noncomputable def slices_Index_int_int.b1 (x0 : List Int) (x1 : Int) (v63 : Int) : Option (Int ⊕ (Unit ⊕ Int)) := cond (decide (v63 < (x0.length : Int))) ((idxL x0 v63).bind fun y95 => cond (x1 == y95) (some (.inr (Sum.inr v63))) (some (.inl (IntKind.i64.wrap (v63 + (1 : Int)))))) (some (.inr (Sum.inl ())))
noncomputable def slices_Index_int_int.k2 : Option (Int) := some (-1)
noncomputable def slices_Index_int_int.f (x0 : List Int) (x1 : Int) : Option (Int) := (loopM (fun s91 : Int => slices_Index_int_int.b1 x0 x1 s91) (0 : Int)).bind (Sum.elim (fun (o89 : Unit) => slices_Index_int_int.k2) (fun (o90 : Int) => some o90))
set_option maxHeartbeats 4000000 in
theorem slices_Index_int_int_ok {ok : Nat → Prop} {w : World} {u1 : Value} {x0 : List Int} {x1 : Int} {r : Int} (hu2 : slR (tInt .i64) w ok u1 x0) (h : slices_Index_int_int.f x0 x1 = some r) :
    Calls Try.prog 70 #[u1, .int .i64 x1] w fun e w' => ∃ v, e = .returned v ∧ (v = .int .i64 r ∧ Bel w.heap.size w w') := by
  have H : Eng.Own ok w w [] := Eng.Own.nil ok w
  obtain ⟨A3, c4, rfl, H⟩ := H.arg rfl hu2
  unfold slices_Index_int_int.f at h
  refine enterN (args := [.slice A3 x0.length c4, .int .i64 x1]) Try.func70 rfl Try.ntmps70 rfl rfl ?_
  refine nc_seq ?_
  refine nc ?_
  refine nc_cut (fun e w53 => slices_Index_int_int.k2 = some r ∧ e = [] ∧ Eng.Own ok w w53 []) ?_ ?_
  · skip
    refine nc_seq ?_
    refine nc ?_
    refine nc_block ?_
    obtain ⟨o81, hL82, hO83⟩ := bindS h
    obtain ⟨n84, hL82⟩ := loopS hL82
    refine nc ?_
    refine loop_ruleA (fun k e w88 => ∃ (v63 : Int), iterM (fun s91 : Int => slices_Index_int_int.b1 x0 x1 s91) k v63 = some o81 ∧ e = [(0, .slice A3 x0.length c4), (1, .int .i64 x1), (7, .int .i64 (x0.length : Int)), (8, .int .i64 v63)] ∧ Eng.Own ok w w88 [.dat (dSl (tInt .i64) (.slice A3 x0.length c4) x0)]) ⟨_, hL82, rfl, H.pickL [0] rfl⟩ ?_
    rintro k93 _ w92 ⟨v63, hL82, rfl, H⟩
    obtain ⟨k87, rfl, q85, h, hq86⟩ := iterS hL82
    replace h : slices_Index_int_int.b1 x0 x1 v63 = some q85 := h
    unfold slices_Index_int_int.b1 at h
    refine nc_seq ?_
    refine nc ?_
    refine nc_seq ?_
    refine nc_cond rfl (fun hc94 => ?_) (fun hc94 => ?_)
    · replace h := condT hc94 h
      refine nc ?_
      refine nc_seq ?_
      refine nc_block ?_
      refine nc_seq ?_
      refine nc ?_
      refine nc_seq ?_
      refine nc ?_
      obtain ⟨y95, hx96, h⟩ := bindS h
      obtain ⟨a97, cs98, rfl, hR99, H⟩ := H.elemI 0 rfl hx96
      obtain rfl : cs98 = [.int .i64 y95] := hR99
      refine idxA_rule (e := 3) 1 _ (by kernel_rfl) (by kernel_rfl) (idxL_some hx96).1 (idxL_some hx96).2.1 ?_
      refine own_loadD H 0 rfl 0 (by kernel_rfl) rfl ?_
      refine nc_cond rfl (fun hc101 => ?_) (fun hc101 => ?_)
      · replace h := condT hc101 h
        refine nc_seq ?_
        refine nc ?_
        refine nc ?_
        cases h
        replace hq86 : (Sum.inr v63) = o81 := hq86
        subst hq86
        have h := hO83
        try dsimp only [Sum.elim_inl, Sum.elim_inr] at h
        replace h := Option.some.inj h
        subst h
        exact ret_inA [.int .i64 v63] ⟨_, rfl, ⟨rfl, H.frame⟩⟩
      · replace h := condF hc101 h
        refine nc ?_
        refine nc ?_
        cases h
        exact again_inA ⟨_, hq86, rfl, H.pickL [1] rfl⟩
    · replace h := condF hc94 h
      refine nc ?_
      cases h
      replace hq86 : (Sum.inl ()) = o81 := hq86
      subst hq86
      have h := hO83
      try dsimp only [Sum.elim_inl, Sum.elim_inr] at h
      exact cut_inA ⟨h, rfl, H.pickL [] rfl⟩
  · rintro _ w102 ⟨h, rfl, H⟩
    unfold slices_Index_int_int.k2 at h
    refine nc_seq ?_
    refine nc ?_
    refine nc ?_
    replace h := Option.some.inj h
    subst h
    exact ret_inA [.int .i64 (-1)] ⟨_, rfl, ⟨rfl, H.frame⟩⟩
/-! slices.Contains(()int,int) -/
noncomputable def slices_Contains_int_int.f (x0 : List Int) (x1 : Int) : Option (Bool) := (slices_Index_int_int.f x0 x1).bind fun y6 => some (decide (y6 ≥ (0 : Int)))
set_option maxHeartbeats 4000000 in
theorem slices_Contains_int_int_ok {ok : Nat → Prop} {w : World} {u1 : Value} {x0 : List Int} {x1 : Int} {r : Bool} (hu2 : slR (tInt .i64) w ok u1 x0) (h : slices_Contains_int_int.f x0 x1 = some r) :
    Calls Try.prog 57 #[u1, .int .i64 x1] w fun e w' => ∃ v, e = .returned v ∧ (v = .bool r ∧ Bel w.heap.size w w') := by
  have H : Eng.Own ok w w [] := Eng.Own.nil ok w
  obtain ⟨A3, c4, rfl, H⟩ := H.arg rfl hu2
  unfold slices_Contains_int_int.f at h
  refine enterN (args := [.slice A3 x0.length c4, .int .i64 x1]) Try.func57 rfl Try.ntmps57 rfl rfl ?_
  refine nc_seq ?_
  refine nc ?_
  refine nc_seq ?_
  refine nc ?_
  obtain ⟨y6, hy7, h⟩ := bindS h
  refine call_rule (by kernel_rfl) (slices_Index_int_int_ok (H.dat 0 rfl) hy7) fun v9 w8 ⟨hv10, hb11⟩ => ?_
  subst hv10
  replace H := H.call hb11
  refine nc ?_
  replace h := Option.some.inj h
  subst h
  exact ret_inA [.bool (decide (y6 ≥ (0 : Int)))] ⟨_, rfl, ⟨rfl, H.frame⟩⟩
/-! gemot/view.Has -/
noncomputable def view_Has.f (x0 : List Int) (x1 : Int) : Option (Bool) := (slices_Contains_int_int.f x0 x1).bind fun y6 => some y6
set_option maxHeartbeats 4000000 in
theorem view_Has_ok {ok : Nat → Prop} {w : World} {u1 : Value} {x0 : List Int} {x1 : Int} {r : Bool} (hu2 : slR (tInt .i64) w ok u1 x0) (h : view_Has.f x0 x1 = some r) :
    Calls Try.prog 44 #[u1, .int .i64 x1] w fun e w' => ∃ v, e = .returned v ∧ (v = .bool r ∧ Bel w.heap.size w w') := by
  have H : Eng.Own ok w w [] := Eng.Own.nil ok w
  obtain ⟨A3, c4, rfl, H⟩ := H.arg rfl hu2
  unfold view_Has.f at h
  refine enterN (args := [.slice A3 x0.length c4, .int .i64 x1]) Try.func44 rfl Try.ntmps44 rfl rfl ?_
  refine nc_seq ?_
  refine nc ?_
  refine nc_seq ?_
  refine nc ?_
  obtain ⟨y6, hy7, h⟩ := bindS h
  refine call_rule (by kernel_rfl) (slices_Contains_int_int_ok (H.dat 0 rfl) hy7) fun v9 w8 ⟨hv10, hb11⟩ => ?_
  subst hv10
  replace H := H.call hb11
  refine nc ?_
  replace h := Option.some.inj h
  subst h
  exact ret_inA [.bool y6] ⟨_, rfl, ⟨rfl, H.frame⟩⟩
/-! slices.Equal(()int,int) -/
noncomputable def slices_Equal_int_int.b1 (x0 : List Int) (x1 : List Int) (v104 : Int) : Option (Int ⊕ (Unit ⊕ Bool)) := cond (decide (v104 < (x0.length : Int))) ((idxL x0 v104).bind fun y150 => (idxL x1 v104).bind fun y156 => cond (y150 != y156) (some (.inr (Sum.inr false))) (some (.inl (IntKind.i64.wrap (v104 + (1 : Int)))))) (some (.inr (Sum.inl ())))
noncomputable def slices_Equal_int_int.k2 : Option (Bool) := some true
noncomputable def slices_Equal_int_int.f (x0 : List Int) (x1 : List Int) : Option (Bool) := cond ((x0.length : Int) != (x1.length : Int)) (some false) ((loopM (fun s146 : Int => slices_Equal_int_int.b1 x0 x1 s146) (0 : Int)).bind (Sum.elim (fun (o144 : Unit) => slices_Equal_int_int.k2) (fun (o145 : Bool) => some o145)))
set_option maxHeartbeats 4000000 in
theorem slices_Equal_int_int_ok {ok : Nat → Prop} {w : World} {u1 u6 : Value} {x0 : List Int} {x1 : List Int} {r : Bool} (hu2 : slR (tInt .i64) w ok u1 x0) (hu7 : slR (tInt .i64) w ok u6 x1) (h : slices_Equal_int_int.f x0 x1 = some r) :
    Calls Try.prog 38 #[u1, u6] w fun e w' => ∃ v, e = .returned v ∧ (v = .bool r ∧ Bel w.heap.size w w') := by
  have H : Eng.Own ok w w [] := Eng.Own.nil ok w
  obtain ⟨A3, c4, rfl, H⟩ := H.arg rfl hu2
  obtain ⟨A8, c9, rfl, H⟩ := H.arg rfl hu7
  unfold slices_Equal_int_int.f at h
  refine enterN (args := [.slice A3 x0.length c4, .slice A8 x1.length c9]) Try.func38 rfl Try.ntmps38 rfl rfl ?_
  refine nc_seq ?_
  refine nc ?_
  refine nc_seq ?_
  refine nc_seq ?_
  refine nc ?_
  refine nc_cond rfl (fun hc11 => ?_) (fun hc11 => ?_)
  · replace h := condT hc11 h
    refine nc_seq ?_
    refine nc ?_
    refine nc ?_
    replace h := Option.some.inj h
    subst h
    exact ret_inA [.bool false] ⟨_, rfl, ⟨rfl, H.frame⟩⟩
  · replace h := condF hc11 h
    refine nc ?_
    refine nc_cut (fun e w87 => slices_Equal_int_int.k2 = some r ∧ e = [] ∧ Eng.Own ok w w87 []) ?_ ?_
    · skip
      refine nc_seq ?_
      refine nc ?_
      refine nc_block ?_
      obtain ⟨o136, hL137, hO138⟩ := bindS h
      obtain ⟨n139, hL137⟩ := loopS hL137
      refine nc ?_
      refine loop_ruleA (fun k e w143 => ∃ (v104 : Int), iterM (fun s146 : Int => slices_Equal_int_int.b1 x0 x1 s146) k v104 = some o136 ∧ e = [(0, .slice A3 x0.length c4), (1, .slice A8 x1.length c9), (12, .int .i64 (x0.length : Int)), (13, .int .i64 v104)] ∧ Eng.Own ok w w143 [.dat (dSl (tInt .i64) (.slice A3 x0.length c4) x0), .dat (dSl (tInt .i64) (.slice A8 x1.length c9) x1)]) ⟨_, hL137, rfl, H.pickL [1, 0] rfl⟩ ?_
      rintro k148 _ w147 ⟨v104, hL137, rfl, H⟩
      obtain ⟨k142, rfl, q140, h, hq141⟩ := iterS hL137
      replace h : slices_Equal_int_int.b1 x0 x1 v104 = some q140 := h
      unfold slices_Equal_int_int.b1 at h
      refine nc_seq ?_
      refine nc ?_
      refine nc_seq ?_
      refine nc_cond rfl (fun hc149 => ?_) (fun hc149 => ?_)
      · replace h := condT hc149 h
        refine nc ?_
        refine nc_seq ?_
        refine nc_block ?_
        refine nc_seq ?_
        refine nc ?_
        refine nc_seq ?_
        obtain ⟨y150, hx151, h⟩ := bindS h
        obtain ⟨a152, cs153, rfl, hR154, H⟩ := H.elemI 0 rfl hx151
        obtain rfl : cs153 = [.int .i64 y150] := hR154
        obtain ⟨y156, hx157, h⟩ := bindS h
        obtain ⟨a158, cs159, rfl, hR160, H⟩ := H.elemI 2 rfl hx157
        obtain rfl : cs159 = [.int .i64 y156] := hR160
        refine nc ?_
        refine draw_rule [] (by kernel_rfl) (by kernel_rfl) H ?_
        refine c_idxA (e := 3) 1 _ (by kernel_rfl) (by kernel_rfl) (idxL_some hx151).1 (idxL_some hx151).2.1 ?_
        refine c_loadD 1 rfl 0 (by kernel_rfl) rfl ?_
        refine c_idxA (e := 3) 1 _ (by kernel_rfl) (by kernel_rfl) (idxL_some hx157).1 (idxL_some hx157).2.1 ?_
        refine c_loadD 0 rfl 0 (by kernel_rfl) rfl ?_
        intro w162 H
        refine nc_cond rfl (fun hc163 => ?_) (fun hc163 => ?_)
        · replace h := condT hc163 h
          refine nc_seq ?_
          refine nc ?_
          refine nc ?_
          cases h
          replace hq141 : (Sum.inr false) = o136 := hq141
          subst hq141
          have h := hO138
          try dsimp only [Sum.elim_inl, Sum.elim_inr] at h
          replace h := Option.some.inj h
          subst h
          exact ret_inA [.bool false] ⟨_, rfl, ⟨rfl, H.frame⟩⟩
        · replace h := condF hc163 h
          refine nc ?_
          refine nc ?_
          cases h
          exact again_inA ⟨_, hq141, rfl, H.pickL [2, 3] rfl⟩
      · replace h := condF hc149 h
        refine nc ?_
        cases h
        replace hq141 : (Sum.inl ()) = o136 := hq141
        subst hq141
        have h := hO138
        try dsimp only [Sum.elim_inl, Sum.elim_inr] at h
        exact cut_inA ⟨h, rfl, H.pickL [] rfl⟩
    · rintro _ w164 ⟨h, rfl, H⟩
      unfold slices_Equal_int_int.k2 at h
      refine nc_seq ?_
      refine nc ?_
      refine nc ?_
      replace h := Option.some.inj h
      subst h
      exact ret_inA [.bool true] ⟨_, rfl, ⟨rfl, H.frame⟩⟩
/-! gemot/view.Same -/
noncomputable def view_Same.f (x0 : List Int) (x1 : List Int) : Option (Bool) := (slices_Equal_int_int.f x0 x1).bind fun y11 => some y11
set_option maxHeartbeats 4000000 in
theorem view_Same_ok {ok : Nat → Prop} {w : World} {u1 u6 : Value} {x0 : List Int} {x1 : List Int} {r : Bool} (hu2 : slR (tInt .i64) w ok u1 x0) (hu7 : slR (tInt .i64) w ok u6 x1) (h : view_Same.f x0 x1 = some r) :
    Calls Try.prog 21 #[u1, u6] w fun e w' => ∃ v, e = .returned v ∧ (v = .bool r ∧ Bel w.heap.size w w') := by
  have H : Eng.Own ok w w [] := Eng.Own.nil ok w
  obtain ⟨A3, c4, rfl, H⟩ := H.arg rfl hu2
  obtain ⟨A8, c9, rfl, H⟩ := H.arg rfl hu7
  unfold view_Same.f at h
  refine enterN (args := [.slice A3 x0.length c4, .slice A8 x1.length c9]) Try.func21 rfl Try.ntmps21 rfl rfl ?_
  refine nc_seq ?_
  refine nc ?_
  refine nc_seq ?_
  refine nc ?_
  obtain ⟨y11, hy12, h⟩ := bindS h
  refine call_rule (by kernel_rfl) (slices_Equal_int_int_ok (H.dat 1 rfl) (H.dat 0 rfl) hy12) fun v14 w13 ⟨hv15, hb16⟩ => ?_
  subst hv15
  replace H := H.call hb16
  refine nc ?_
  replace h := Option.some.inj h
  subst h
  exact ret_inA [.bool y11] ⟨_, rfl, ⟨rfl, H.frame⟩⟩
/-! gemot/view.Next -/
noncomputable def view_Next.f (x0 : D_api_Id) (x1 : Int) : Option (D_api_Id) := some ((IntKind.i64.wrap (x0.1 + (1 : Int))), x1)
set_option maxHeartbeats 4000000 in
theorem view_Next_ok {ok : Nat → Prop} {w : World} {x0 : D_api_Id} {x1 : Int} {r : D_api_Id} (h : view_Next.f x0 x1 = some r) :
    Calls Try.prog 22 #[.agg #[.int .i64 x0.1, .int .i64 x0.2], .int .i64 x1] w fun e w' => ∃ v, e = .returned v ∧ (v = .agg #[.int .i64 r.1, .int .i64 r.2] ∧ Bel w.heap.size w w') := by
  have H : Eng.Own ok w w [] := Eng.Own.nil ok w
  unfold view_Next.f at h
  refine enterN (args := [.agg #[.int .i64 x0.1, .int .i64 x0.2], .int .i64 x1]) Try.func22 rfl Try.ntmps22 rfl rfl ?_
  refine nc_seq ?_
  refine nc ?_
  refine own_box H [.int .i64 x0.1, .int .i64 x0.2] rfl fun g2 w3 H => ?_
  refine own_alloc (z := .agg #[.int .i64 0, .int .i64 0]) H (by kernel_rfl) [.int .i64 0, .int .i64 0] rfl fun g5 w6 H => ?_
  refine nc_seq ?_
  refine nc ?_
  refine own_load H 1 rfl (by kernel_rfl) (j := 0) rfl ?_
  refine own_storeB (m := 2) H 0 rfl (by kernel_rfl) [.int .i64 (IntKind.i64.wrap (x0.1 + (1 : Int))), .int .i64 x1] rfl rfl rfl rfl fun w7 H => ?_
  refine nc ?_
  replace h := Option.some.inj h
  subst h
  exact ret_inA [.agg #[.int .i64 (IntKind.i64.wrap (x0.1 + (1 : Int))), .int .i64 x1]] ⟨_, rfl, ⟨rfl, H.frame⟩⟩ (And.intro (Exists.intro _ (And.intro rfl (H.resA (m := 2) 0 rfl (by kernel_rfl) (by kernel_rfl) rfl))) trivial)
end Go.Proofs.Ytipoblinefamgaa.G
