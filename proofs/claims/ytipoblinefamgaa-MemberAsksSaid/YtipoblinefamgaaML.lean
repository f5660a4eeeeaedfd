/- Walks, printed by a program of this proof's own. -/
import Derived.Test.YtipoblinefamgaaMB5
import Derived.KernelRfl
namespace Go.Proofs.Ytipoblinefamgaa.G
open Go.RowKit Go.Eng Go.Proofs
set_option linter.unusedVariables false
set_option maxRecDepth 20000
/-! gemot/gemotlaw12.shown -/
noncomputable def gemotlaw12_shown.k1 (v134 : Bool) : Option (Bool) := some v134
noncomputable def gemotlaw12_shown.f : Option (Bool) := (member_New.f (1 : Int)).bind fun y1 => cond (cond (y1.1.isNone) true (y1.2 != (0 : Int))) (some false) ((y1.1).bind fun y14 => (member_Node_Suggest.f y14 ([(1 : Int), (2 : Int)] : List Int)).bind fun y16 => (member_Node_Take.f y16.2.2 (2 : Int) ((4 : Int), ((1 : Int), (1 : Int)), ((0 : Int), (2 : Int)), (0 : Int), ([] : List Int), ([] : List (List UInt8)))).bind fun y30 => cond ((y16.1.length : Int) == (1 : Int)) ((idxL y16.1 (0 : Int)).bind fun y139 => cond (y139.1 == (2 : Int)) ((idxL y16.1 (0 : Int)).bind fun y156 => cond (cond (cond (cond (cond ((y16.1.length : Int) == (1 : Int)) (y139.1 == (2 : Int)) false) (y156.2.1 == (3 : Int)) false) ((y16.2.1.length : Int) == (0 : Int)) false) ((y30.1.length : Int) == (1 : Int)) false) ((idxL y30.1 (0 : Int)).bind fun y174 => cond (cond (cond (cond (cond (cond (cond ((y16.1.length : Int) == (1 : Int)) (y139.1 == (2 : Int)) false) (y156.2.1 == (3 : Int)) false) ((y16.2.1.length : Int) == (0 : Int)) false) ((y30.1.length : Int) == (1 : Int)) false) (y174.2.1 == (5 : Int)) false) ((y30.2.1.length : Int) == (1 : Int)) false) ((idxL y30.2.1 (0 : Int)).bind fun y192 => cond (y192.1 == (2 : Int)) ((idxL y30.2.1 (0 : Int)).bind fun y204 => cond ((y204.2.1.1.1 == (1 : Int)) && (y204.2.1.1.2 == (1 : Int))) ((idxL y30.2.1 (0 : Int)).bind fun y216 => gemotlaw12_shown.k1 (cond (cond (cond (cond (cond (cond (cond (cond (cond ((y16.1.length : Int) == (1 : Int)) (y139.1 == (2 : Int)) false) (y156.2.1 == (3 : Int)) false) ((y16.2.1.length : Int) == (0 : Int)) false) ((y30.1.length : Int) == (1 : Int)) false) (y174.2.1 == (5 : Int)) false) ((y30.2.1.length : Int) == (1 : Int)) false) (y192.1 == (2 : Int)) false) ((y204.2.1.1.1 == (1 : Int)) && (y204.2.1.1.2 == (1 : Int))) false) ((y216.2.1.2.length : Int) == (2 : Int)) false)) (gemotlaw12_shown.k1 (cond (cond (cond (cond (cond (cond (cond (cond (cond ((y16.1.length : Int) == (1 : Int)) (y139.1 == (2 : Int)) false) (y156.2.1 == (3 : Int)) false) ((y16.2.1.length : Int) == (0 : Int)) false) ((y30.1.length : Int) == (1 : Int)) false) (y174.2.1 == (5 : Int)) false) ((y30.2.1.length : Int) == (1 : Int)) false) (y192.1 == (2 : Int)) false) ((y204.2.1.1.1 == (1 : Int)) && (y204.2.1.1.2 == (1 : Int))) false) ((0 : Int) == (2 : Int)) false))) (gemotlaw12_shown.k1 (cond (cond (cond (cond (cond (cond (cond (cond (cond ((y16.1.length : Int) == (1 : Int)) (y139.1 == (2 : Int)) false) (y156.2.1 == (3 : Int)) false) ((y16.2.1.length : Int) == (0 : Int)) false) ((y30.1.length : Int) == (1 : Int)) false) (y174.2.1 == (5 : Int)) false) ((y30.2.1.length : Int) == (1 : Int)) false) (y192.1 == (2 : Int)) false) false false) ((0 : Int) == (2 : Int)) false))) (gemotlaw12_shown.k1 (cond (cond (cond (cond (cond (cond (cond (cond (cond ((y16.1.length : Int) == (1 : Int)) (y139.1 == (2 : Int)) false) (y156.2.1 == (3 : Int)) false) ((y16.2.1.length : Int) == (0 : Int)) false) ((y30.1.length : Int) == (1 : Int)) false) (y174.2.1 == (5 : Int)) false) ((y30.2.1.length : Int) == (1 : Int)) false) ((0 : Int) == (2 : Int)) false) false false) ((0 : Int) == (2 : Int)) false))) (gemotlaw12_shown.k1 (cond (cond (cond (cond (cond (cond (cond (cond (cond ((y16.1.length : Int) == (1 : Int)) (y139.1 == (2 : Int)) false) (y156.2.1 == (3 : Int)) false) ((y16.2.1.length : Int) == (0 : Int)) false) ((y30.1.length : Int) == (1 : Int)) false) ((0 : Int) == (5 : Int)) false) ((y30.2.1.length : Int) == (1 : Int)) false) ((0 : Int) == (2 : Int)) false) false false) ((0 : Int) == (2 : Int)) false))) (gemotlaw12_shown.k1 (cond (cond (cond (cond (cond (cond (cond (cond (cond ((y16.1.length : Int) == (1 : Int)) (y139.1 == (2 : Int)) false) ((0 : Int) == (3 : Int)) false) ((y16.2.1.length : Int) == (0 : Int)) false) ((y30.1.length : Int) == (1 : Int)) false) ((0 : Int) == (5 : Int)) false) ((y30.2.1.length : Int) == (1 : Int)) false) ((0 : Int) == (2 : Int)) false) false false) ((0 : Int) == (2 : Int)) false))) (gemotlaw12_shown.k1 (cond (cond (cond (cond (cond (cond (cond (cond (cond ((y16.1.length : Int) == (1 : Int)) ((0 : Int) == (2 : Int)) false) ((0 : Int) == (3 : Int)) false) ((y16.2.1.length : Int) == (0 : Int)) false) ((y30.1.length : Int) == (1 : Int)) false) ((0 : Int) == (5 : Int)) false) ((y30.2.1.length : Int) == (1 : Int)) false) ((0 : Int) == (2 : Int)) false) false false) ((0 : Int) == (2 : Int)) false)))
set_option maxHeartbeats 4000000 in
theorem gemotlaw12_shown_ok {ok : Nat → Prop} {w : World} {r : Bool} (h : gemotlaw12_shown.f = some r) :
    Calls Try.prog 6 #[] w fun e w' => ∃ v, e = .returned v ∧ (v = .bool r ∧ Bel w.heap.size w w') := by
  have H : Eng.Own ok w w [] := Eng.Own.nil ok w
  unfold gemotlaw12_shown.f at h
  refine enterN (args := []) Try.func6 rfl Try.ntmps6 rfl rfl ?_
  refine nc_seq ?_
  refine nc ?_
  refine nc_seq ?_
  refine nc ?_
  obtain ⟨y1, hy2, h⟩ := bindS h
  refine call_rule (by kernel_rfl) (member_New_ok H hy2) fun v7 w6 ⟨g3, a4, hv8, H⟩ => ?_
  subst hv8
  refine nc_seq ?_
  refine nc_seq ?_
  refine nc ?_
  refine eqlO_rule (by kernel_rfl) ?_
  refine nc_cond rfl (fun hc9 => ?_) (fun hc9 => ?_)
  · replace h := condT hc9 h
    refine nc_seq ?_
    refine nc ?_
    refine nc ?_
    replace h := Option.some.inj h
    subst h
    exact ret_inA [.bool false] ⟨_, rfl, ⟨rfl, H.frame⟩⟩
  · replace h := condF hc9 h
    refine nc ?_
    refine nc_seq ?_
    refine nc ?_
    refine own_buildSlice (e := 3) (sz := 1) (z := .int .i64 0) (cs := [.int .i64 1, .int .i64 2]) H (by kernel_rfl) (by kernel_rfl) (by kernel_rfl) rfl rfl rfl rfl fun g11 w12 H => ?_
    replace H := H.blkSl (k := (tInt .i64)) [(1 : Int), (2 : Int)] 2 rfl rfl (by decide) ⟨_, _, rfl, rfl, ⟨_, _, rfl, rfl, rfl⟩⟩
    obtain ⟨y14, hy15, h⟩ := bindS h
    replace H := H.someAt 1 rfl hy15
    try rw [hy15]
    replace H := H.pickL [1, 0] rfl
    try dsimp only [lastL, pickI, List.drop, List.take, List.set, List.eraseIdx, List.getElem?_cons_zero, List.getElem?_cons_succ, List.cons_append, List.nil_append, List.map] at H
    obtain ⟨y16, hy17, h⟩ := bindS h
    refine call_rule (by kernel_rfl) (member_Node_Suggest_ok (x0 := y14) H (H.dat 1 rfl) hy17) fun v28 w27 ⟨A18, c19, cs20, A22, c23, cs24, a26, hv29, H⟩ => ?_
    subst hv29
    refine nc_seq ?_
    refine nc ?_
    replace H := H.pickL [4, 0, 1, 2, 3, 5] rfl
    try dsimp only [lastL, pickI, List.drop, List.take, List.set, List.eraseIdx, List.getElem?_cons_zero, List.getElem?_cons_succ, List.cons_append, List.nil_append, List.map] at H
    obtain ⟨y30, hy31, h⟩ := bindS h
    refine call_rule (by kernel_rfl) (member_Node_Take_ok (x0 := y16.2.2) (x2 := ((4 : Int), ((1 : Int), (1 : Int)), ((0 : Int), (2 : Int)), (0 : Int), ([] : List Int), ([] : List (List UInt8)))) H nilR nilR hy31) fun v42 w41 ⟨A32, c33, cs34, A36, c37, cs38, a40, hv43, H⟩ => ?_
    subst hv43
    refine nc_cut (fun e w135 => ∃ (v134 : Bool), gemotlaw12_shown.k1 v134 = some r ∧ e = [(0, .bool v134)] ∧ Eng.Own ok w w135 []) ?_ ?_
    · skip
      refine nc ?_
      rcases Bool.eq_false_or_eq_true ((y16.1.length : Int) == (1 : Int)) with hg137 | hg137
      · replace h := condT hg137 h
        replace H := H.freeze (k := t_member_Out) 6 5 rfl rfl
        obtain ⟨y139, hx140, h⟩ := bindS h
        obtain ⟨a141, cs142, rfl, hR143, H⟩ := H.elemI 6 rfl hx140
        obtain ⟨u145, u146, rfl, hu147, hu148⟩ := member_Out_cells hR143
        obtain ⟨A149, c150, rfl, H⟩ := H.openD hu147
        obtain ⟨A152, c153, rfl, H⟩ := H.openD hu148
        refine idxA_rule (e := 40) 9 _ (by kernel_rfl) (by kernel_rfl) (idxL_some hx140).1 (idxL_some hx140).2.1 ?_
        refine own_loadD H 2 rfl 0 (by kernel_rfl) rfl ?_
        rcases Bool.eq_false_or_eq_true (y139.1 == (2 : Int)) with hg155 | hg155
        · replace h := condT hg155 h
          obtain ⟨y156, hx157, h⟩ := bindS h
          obtain ⟨cs159, hR160, H⟩ := H.elemJ 9 rfl hx157
          obtain ⟨u162, u163, rfl, hu164, hu165⟩ := member_Out_cells hR160
          obtain ⟨A166, c167, rfl, H⟩ := H.openD hu164
          obtain ⟨A169, c170, rfl, H⟩ := H.openD hu165
          refine idxA_rule (e := 40) 9 _ (by kernel_rfl) (by kernel_rfl) (idxL_some hx157).1 (idxL_some hx157).2.1 ?_
          refine own_loadD H 2 rfl 1 (by kernel_rfl) rfl ?_
          rcases Bool.eq_false_or_eq_true (cond (cond (cond (cond ((y16.1.length : Int) == (1 : Int)) (y139.1 == (2 : Int)) false) (y156.2.1 == (3 : Int)) false) ((y16.2.1.length : Int) == (0 : Int)) false) ((y30.1.length : Int) == (1 : Int)) false) with hg172 | hg172
          · replace h := condT hg172 h
            replace H := H.freeze (k := t_member_Out) 7 6 rfl rfl
            obtain ⟨y174, hx175, h⟩ := bindS h
            obtain ⟨a176, cs177, rfl, hR178, H⟩ := H.elemI 7 rfl hx175
            obtain ⟨u180, u181, rfl, hu182, hu183⟩ := member_Out_cells hR178
            obtain ⟨A184, c185, rfl, H⟩ := H.openD hu182
            obtain ⟨A187, c188, rfl, H⟩ := H.openD hu183
            refine idxA_rule (e := 40) 9 _ (by kernel_rfl) (by kernel_rfl) (idxL_some hx175).1 (idxL_some hx175).2.1 ?_
            refine own_loadD H 2 rfl 1 (by kernel_rfl) rfl ?_
            rcases Bool.eq_false_or_eq_true (cond (cond (cond (cond (cond (cond ((y16.1.length : Int) == (1 : Int)) (y139.1 == (2 : Int)) false) (y156.2.1 == (3 : Int)) false) ((y16.2.1.length : Int) == (0 : Int)) false) ((y30.1.length : Int) == (1 : Int)) false) (y174.2.1 == (5 : Int)) false) ((y30.2.1.length : Int) == (1 : Int)) false) with hg190 | hg190
            · replace h := condT hg190 h
              replace H := H.freeze (k := t_member_Event) 12 11 rfl rfl
              obtain ⟨y192, hx193, h⟩ := bindS h
              obtain ⟨a194, cs195, rfl, hR196, H⟩ := H.elemI 12 rfl hx193
              obtain ⟨u198, rfl, hu199⟩ := member_Event_cells hR196
              obtain ⟨A200, c201, rfl, H⟩ := H.openD hu199
              refine idxA_rule (e := 51) 7 _ (by kernel_rfl) (by kernel_rfl) (idxL_some hx193).1 (idxL_some hx193).2.1 ?_
              refine own_loadD H 1 rfl 0 (by kernel_rfl) rfl ?_
              rcases Bool.eq_false_or_eq_true (y192.1 == (2 : Int)) with hg203 | hg203
              · replace h := condT hg203 h
                obtain ⟨y204, hx205, h⟩ := bindS h
                obtain ⟨cs207, hR208, H⟩ := H.elemJ 14 rfl hx205
                obtain ⟨u210, rfl, hu211⟩ := member_Event_cells hR208
                obtain ⟨A212, c213, rfl, H⟩ := H.openD hu211
                refine idxA_rule (e := 51) 7 _ (by kernel_rfl) (by kernel_rfl) (idxL_some hx205).1 (idxL_some hx205).2.1 ?_
                refine own_loadDA (m := 2) H 1 rfl 1 (by kernel_rfl) (by kernel_rfl) [.int .i64 y204.2.1.1.1, .int .i64 y204.2.1.1.2] rfl rfl ?_
                refine eql_rule ((y204.2.1.1.1 == (1 : Int)) && (y204.2.1.1.2 == (1 : Int))) (fun _ => (by kernel_rfl)) (fun _ => (by kernel_rfl)) ?_
                rcases Bool.eq_false_or_eq_true ((y204.2.1.1.1 == (1 : Int)) && (y204.2.1.1.2 == (1 : Int))) with hg215 | hg215
                · replace h := condT hg215 h
                  obtain ⟨y216, hx217, h⟩ := bindS h
                  obtain ⟨cs219, hR220, H⟩ := H.elemJ 16 rfl hx217
                  obtain ⟨u222, rfl, hu223⟩ := member_Event_cells hR220
                  obtain ⟨A224, c225, rfl, H⟩ := H.openD hu223
                  refine idxA_rule (e := 51) 7 _ (by kernel_rfl) (by kernel_rfl) (idxL_some hx217).1 (idxL_some hx217).2.1 ?_
                  refine own_loadD H 1 rfl 3 (by kernel_rfl) rfl ?_
                  exact cut_inA ⟨_, h, rfl, H.pickL [] rfl⟩
                · replace h := condF hg215 h
                  refine skipIA (.pointer (some ⟨0, 0, none⟩)) (gF1 ((pickT ((pickT hg190).trans hg203)).trans hg215)) ?_
                  refine skipLD (.slice none 0 0) (gF1 ((pickT ((pickT hg190).trans hg203)).trans hg215)) ?_
                  exact cut_inA ⟨_, h, rfl, H.pickL [] rfl⟩
              · replace h := condF hg203 h
                refine skipIA (.pointer (some ⟨0, 0, none⟩)) (gF1 ((pickT hg190).trans hg203)) ?_
                refine skipLD (.agg #[.int .i64 0, .int .i64 0]) (gF1 ((pickT hg190).trans hg203)) ?_
                refine skipBN (.bool false) (gF1 ((pickT hg190).trans hg203)) ?_
                refine skipIA (.pointer (some ⟨0, 0, none⟩)) (gF1 (pickF ((pickT hg190).trans hg203))) ?_
                refine skipLD (.slice none 0 0) (gF1 (pickF ((pickT hg190).trans hg203))) ?_
                exact cut_inA ⟨_, h, rfl, H.pickL [] rfl⟩
            · replace h := condF hg190 h
              refine skipIA (.pointer (some ⟨0, 0, none⟩)) (gF1 hg190) ?_
              refine skipLD (.int .i64 0) (gF1 hg190) ?_
              refine skipIA (.pointer (some ⟨0, 0, none⟩)) (gF1 (pickF hg190)) ?_
              refine skipLD (.agg #[.int .i64 0, .int .i64 0]) (gF1 (pickF hg190)) ?_
              refine skipBN (.bool false) (gF1 (pickF hg190)) ?_
              refine skipIA (.pointer (some ⟨0, 0, none⟩)) (gF1 (pickF (pickF hg190))) ?_
              refine skipLD (.slice none 0 0) (gF1 (pickF (pickF hg190))) ?_
              exact cut_inA ⟨_, h, rfl, H.pickL [] rfl⟩
          · replace h := condF hg172 h
            refine skipIA (.pointer (some ⟨0, 0, none⟩)) (gF1 hg172) ?_
            refine skipLD (.int .i64 0) (gF1 hg172) ?_
            refine skipIA (.pointer (some ⟨0, 0, none⟩)) (gF1 (pickF (pickF hg172))) ?_
            refine skipLD (.int .i64 0) (gF1 (pickF (pickF hg172))) ?_
            refine skipIA (.pointer (some ⟨0, 0, none⟩)) (gF1 (pickF (pickF (pickF hg172)))) ?_
            refine skipLD (.agg #[.int .i64 0, .int .i64 0]) (gF1 (pickF (pickF (pickF hg172)))) ?_
            refine skipBN (.bool false) (gF1 (pickF (pickF (pickF hg172)))) ?_
            refine skipIA (.pointer (some ⟨0, 0, none⟩)) (gF1 (pickF (pickF (pickF (pickF hg172))))) ?_
            refine skipLD (.slice none 0 0) (gF1 (pickF (pickF (pickF (pickF hg172))))) ?_
            exact cut_inA ⟨_, h, rfl, H.pickL [] rfl⟩
        · replace h := condF hg155 h
          refine skipIA (.pointer (some ⟨0, 0, none⟩)) (gF1 ((pickT hg137).trans hg155)) ?_
          refine skipLD (.int .i64 0) (gF1 ((pickT hg137).trans hg155)) ?_
          refine skipIA (.pointer (some ⟨0, 0, none⟩)) (gF1 (pickF (pickF (pickF ((pickT hg137).trans hg155))))) ?_
          refine skipLD (.int .i64 0) (gF1 (pickF (pickF (pickF ((pickT hg137).trans hg155))))) ?_
          refine skipIA (.pointer (some ⟨0, 0, none⟩)) (gF1 (pickF (pickF (pickF (pickF (pickF ((pickT hg137).trans hg155))))))) ?_
          refine skipLD (.int .i64 0) (gF1 (pickF (pickF (pickF (pickF (pickF ((pickT hg137).trans hg155))))))) ?_
          refine skipIA (.pointer (some ⟨0, 0, none⟩)) (gF1 (pickF (pickF (pickF (pickF (pickF (pickF ((pickT hg137).trans hg155)))))))) ?_
          refine skipLD (.agg #[.int .i64 0, .int .i64 0]) (gF1 (pickF (pickF (pickF (pickF (pickF (pickF ((pickT hg137).trans hg155)))))))) ?_
          refine skipBN (.bool false) (gF1 (pickF (pickF (pickF (pickF (pickF (pickF ((pickT hg137).trans hg155)))))))) ?_
          refine skipIA (.pointer (some ⟨0, 0, none⟩)) (gF1 (pickF (pickF (pickF (pickF (pickF (pickF (pickF ((pickT hg137).trans hg155))))))))) ?_
          refine skipLD (.slice none 0 0) (gF1 (pickF (pickF (pickF (pickF (pickF (pickF (pickF ((pickT hg137).trans hg155))))))))) ?_
          exact cut_inA ⟨_, h, rfl, H.pickL [] rfl⟩
      · replace h := condF hg137 h
        refine skipIA (.pointer (some ⟨0, 0, none⟩)) (gF1 hg137) ?_
        refine skipLD (.int .i64 0) (gF1 hg137) ?_
        refine skipIA (.pointer (some ⟨0, 0, none⟩)) (gF1 (pickF hg137)) ?_
        refine skipLD (.int .i64 0) (gF1 (pickF hg137)) ?_
        refine skipIA (.pointer (some ⟨0, 0, none⟩)) (gF1 (pickF (pickF (pickF (pickF hg137))))) ?_
        refine skipLD (.int .i64 0) (gF1 (pickF (pickF (pickF (pickF hg137))))) ?_
        refine skipIA (.pointer (some ⟨0, 0, none⟩)) (gF1 (pickF (pickF (pickF (pickF (pickF (pickF hg137))))))) ?_
        refine skipLD (.int .i64 0) (gF1 (pickF (pickF (pickF (pickF (pickF (pickF hg137))))))) ?_
        refine skipIA (.pointer (some ⟨0, 0, none⟩)) (gF1 (pickF (pickF (pickF (pickF (pickF (pickF (pickF hg137)))))))) ?_
        refine skipLD (.agg #[.int .i64 0, .int .i64 0]) (gF1 (pickF (pickF (pickF (pickF (pickF (pickF (pickF hg137)))))))) ?_
        refine skipBN (.bool false) (gF1 (pickF (pickF (pickF (pickF (pickF (pickF (pickF hg137)))))))) ?_
        refine skipIA (.pointer (some ⟨0, 0, none⟩)) (gF1 (pickF (pickF (pickF (pickF (pickF (pickF (pickF (pickF hg137))))))))) ?_
        refine skipLD (.slice none 0 0) (gF1 (pickF (pickF (pickF (pickF (pickF (pickF (pickF (pickF hg137))))))))) ?_
        exact cut_inA ⟨_, h, rfl, H.pickL [] rfl⟩
    · rintro _ w227 ⟨v134, h, rfl, H⟩
      unfold gemotlaw12_shown.k1 at h
      refine nc ?_
      replace h := Option.some.inj h
      subst h
      exact ret_inA [.bool v134] ⟨_, rfl, ⟨rfl, H.frame⟩⟩
/-! gemot/gemotlaw12.pick -/
noncomputable def gemotlaw12_pick.k1 (x1 : Int) (v2 : Int) : Option (Int) := (remM v2 x1).bind fun _ => some (v2.tmod x1)
noncomputable def gemotlaw12_pick.f (x0 : Int) (x1 : Int) : Option (Int) := cond (decide (x0 < (0 : Int))) (gemotlaw12_pick.k1 x1 (IntKind.i64.wrap (0 - (IntKind.i64.wrap (x0 + (1 : Int)))))) (gemotlaw12_pick.k1 x1 x0)
set_option maxHeartbeats 4000000 in
theorem gemotlaw12_pick_ok {ok : Nat → Prop} {w : World} {x0 : Int} {x1 : Int} {r : Int} (h : gemotlaw12_pick.f x0 x1 = some r) :
    Calls Try.prog 7 #[.int .i64 x0, .int .i64 x1] w fun e w' => ∃ v, e = .returned v ∧ (v = .int .i64 r ∧ Bel w.heap.size w w') := by
  have H : Eng.Own ok w w [] := Eng.Own.nil ok w
  unfold gemotlaw12_pick.f at h
  refine enterN (args := [.int .i64 x0, .int .i64 x1]) Try.func7 rfl Try.ntmps7 rfl rfl ?_
  refine nc_seq ?_
  refine nc ?_
  refine nc_cut (fun e w3 => ∃ (v2 : Int), gemotlaw12_pick.k1 x1 v2 = some r ∧ e = [(0, .int .i64 v2), (1, .int .i64 x1)] ∧ Eng.Own ok w w3 []) ?_ ?_
  · skip
    refine nc_seq ?_
    refine nc ?_
    refine nc_cond rfl (fun hc5 => ?_) (fun hc5 => ?_)
    · replace h := condT hc5 h
      refine nc ?_
      exact cut_inA ⟨_, h, rfl, H.pickL [] rfl⟩
    · replace h := condF hc5 h
      refine nc ?_
      exact cut_inA ⟨_, h, rfl, H.pickL [] rfl⟩
  · rintro _ w6 ⟨v2, h, rfl, H⟩
    unfold gemotlaw12_pick.k1 at h
    refine nc_seq ?_
    refine nc ?_
    obtain ⟨y7, hy8, h⟩ := bindS h
    obtain ⟨hy8b, rfl⟩ := remS hy8
    refine rem_rule (fun _ => hy8b) ?_
    refine nc ?_
    replace h := Option.some.inj h
    subst h
    exact ret_inA [.int .i64 (v2.tmod x1)] ⟨_, rfl, ⟨rfl, H.frame⟩⟩
/-! gemot/gemotref10.Same -/
noncomputable def gemotref10_Same.b1 (x0 : List Int) (x1 : List Int) (v169 : Int) : Option (Int ⊕ (Unit ⊕ Bool)) := cond (decide (v169 < (x0.length : Int))) ((idxL x0 v169).bind fun y254 => (idxL x1 v169).bind fun y260 => cond (y254 != y260) (some (.inr (Sum.inr false))) (some (.inl (IntKind.i64.wrap (v169 + (1 : Int)))))) (some (.inr (Sum.inl ())))
noncomputable def gemotref10_Same.k2 : Option (Bool) := some true
noncomputable def gemotref10_Same.f (x0 : List Int) (x1 : List Int) : Option (Bool) := cond ((x0.length : Int) != (x1.length : Int)) (some false) ((loopM (fun s237 : Int => gemotref10_Same.b1 x0 x1 s237) (0 : Int)).bind (Sum.elim (fun (o235 : Unit) => gemotref10_Same.k2) (fun (o236 : Bool) => some o236)))
set_option maxHeartbeats 4000000 in
theorem gemotref10_Same_ok {ok : Nat → Prop} {w : World} {u1 u6 : Value} {x0 : List Int} {x1 : List Int} {r : Bool} (hu2 : slR (tInt .i64) w ok u1 x0) (hu7 : slR (tInt .i64) w ok u6 x1) (h : gemotref10_Same.f x0 x1 = some r) :
    Calls Try.prog 12 #[u1, u6] w fun e w' => ∃ v, e = .returned v ∧ (v = .bool r ∧ Bel w.heap.size w w') := by
  have H : Eng.Own ok w w [] := Eng.Own.nil ok w
  obtain ⟨A3, c4, rfl, H⟩ := H.arg rfl hu2
  obtain ⟨A8, c9, rfl, H⟩ := H.arg rfl hu7
  unfold gemotref10_Same.f at h
  refine enterN (args := [.slice A3 x0.length c4, .slice A8 x1.length c9]) Try.func12 rfl Try.ntmps12 rfl rfl ?_
  refine nc_seq ?_
  refine nc ?_
  refine nc_seq ?_
  refine nc_seq ?_
  refine nc ?_
  refine nc_cond rfl (fun hc11 => ?_) (fun hc11 => ?_)
  · replace h := condT hc11 h
    refine nc_seq ?_
    refine nc ?_
    refine nc ?_
    replace h := Option.some.inj h
    subst h
    exact ret_inA [.bool false] ⟨_, rfl, ⟨rfl, H.frame⟩⟩
  · replace h := condF hc11 h
    refine nc ?_
    refine nc_cut (fun e w139 => gemotref10_Same.k2 = some r ∧ e = [] ∧ Eng.Own ok w w139 []) ?_ ?_
    · skip
      refine nc_seq ?_
      refine nc ?_
      refine nc_block ?_
      obtain ⟨o227, hL228, hO229⟩ := bindS h
      obtain ⟨n230, hL228⟩ := loopS hL228
      refine nc ?_
      refine loop_ruleA (fun k e w234 => ∃ (v169 : Int), iterM (fun s237 : Int => gemotref10_Same.b1 x0 x1 s237) k v169 = some o227 ∧ e = [(0, .slice A3 x0.length c4), (1, .slice A8 x1.length c9), (5, .int .i64 v169)] ∧ Eng.Own ok w w234 [.dat (dSl (tInt .i64) (.slice A3 x0.length c4) x0), .dat (dSl (tInt .i64) (.slice A8 x1.length c9) x1)]) ⟨_, hL228, rfl, H.pickL [1, 0] rfl⟩ ?_
      rintro k239 _ w238 ⟨v169, hL228, rfl, H⟩
      obtain ⟨k233, rfl, q231, h, hq232⟩ := iterS hL228
      replace h : gemotref10_Same.b1 x0 x1 v169 = some q231 := h
      unfold gemotref10_Same.b1 at h
      refine nc_seq ?_
      refine nc_seq ?_
      refine nc ?_
      refine nc_cond rfl (fun hc240 => ?_) (fun hc240 => ?_)
      · replace h := condT hc240 h
        refine nc ?_
        refine nc_seq ?_
        refine nc_block ?_
        refine nc_seq ?_
        obtain ⟨y254, hx255, h⟩ := bindS h
        obtain ⟨a256, cs257, rfl, hR258, H⟩ := H.elemI 0 rfl hx255
        obtain rfl : cs257 = [.int .i64 y254] := hR258
        obtain ⟨y260, hx261, h⟩ := bindS h
        obtain ⟨a262, cs263, rfl, hR264, H⟩ := H.elemI 2 rfl hx261
        obtain rfl : cs263 = [.int .i64 y260] := hR264
        refine nc ?_
        refine draw_rule [] (by kernel_rfl) (by kernel_rfl) H ?_
        refine c_idxA (e := 3) 1 _ (by kernel_rfl) (by kernel_rfl) (idxL_some hx255).1 (idxL_some hx255).2.1 ?_
        refine c_loadD 1 rfl 0 (by kernel_rfl) rfl ?_
        refine c_idxA (e := 3) 1 _ (by kernel_rfl) (by kernel_rfl) (idxL_some hx261).1 (idxL_some hx261).2.1 ?_
        refine c_loadD 0 rfl 0 (by kernel_rfl) rfl ?_
        intro w266 H
        refine nc_cond rfl (fun hc267 => ?_) (fun hc267 => ?_)
        · replace h := condT hc267 h
          refine nc_seq ?_
          refine nc ?_
          refine nc ?_
          cases h
          replace hq232 : (Sum.inr false) = o227 := hq232
          subst hq232
          have h := hO229
          try dsimp only [Sum.elim_inl, Sum.elim_inr] at h
          replace h := Option.some.inj h
          subst h
          exact ret_inA [.bool false] ⟨_, rfl, ⟨rfl, H.frame⟩⟩
        · replace h := condF hc267 h
          refine nc ?_
          refine nc ?_
          cases h
          exact again_inA ⟨_, hq232, rfl, H.pickL [2, 3] rfl⟩
      · replace h := condF hc240 h
        refine nc ?_
        cases h
        replace hq232 : (Sum.inl ()) = o227 := hq232
        subst hq232
        have h := hO229
        try dsimp only [Sum.elim_inl, Sum.elim_inr] at h
        exact cut_inA ⟨h, rfl, H.pickL [] rfl⟩
    · rintro _ w268 ⟨h, rfl, H⟩
      unfold gemotref10_Same.k2 at h
      refine nc_seq ?_
      refine nc ?_
      refine nc ?_
      replace h := Option.some.inj h
      subst h
      exact ret_inA [.bool true] ⟨_, rfl, ⟨rfl, H.frame⟩⟩
/-! gemot/gemotlaw12.MemberAsks -/
noncomputable def gemotlaw12_MemberAsks.k1 (x0 : Int) (x1 : Int) (x2 : Int) (y1 : Bool) (v230 : Int) (v340 : List Int) : Option (((List Int) × Int) ⊕ (List Int)) := some (.inl (v340, (IntKind.i64.wrap (v230 + (1 : Int)))))
noncomputable def gemotlaw12_MemberAsks.b2 (x0 : Int) (x1 : Int) (x2 : Int) (y1 : Bool) (v226 : List Int) (v230 : Int) : Option (((List Int) × Int) ⊕ (List Int)) := cond (decide (v230 ≤ (8 : Int))) ((shrM .i64 x0 (IntKind.i64.wrap (v230 - (1 : Int)))).bind fun _ => cond ((andI .i64 (x0.fdiv (2 ^ min ((IntKind.i64.wrap (v230 - (1 : Int)))).toNat IntKind.i64.bits)) (1 : Int)) == (1 : Int)) (roomM 8 (v226.length + 1) (gemotlaw12_MemberAsks.k1 x0 x1 x2 y1 v230 (v226 ++ [v230]))) (gemotlaw12_MemberAsks.k1 x0 x1 x2 y1 v230 v226)) (some (.inr v226))
noncomputable def gemotlaw12_MemberAsks.k3 (v427 : Bool) : Option (Bool) := some v427
noncomputable def gemotlaw12_MemberAsks.k4 (x2 : Int) (v181 : List Int) (y368 : Int) (y400 : (List D_member_Out) × (List D_member_Event) × O_member_Node) (v5757 : List D_member_Out) (v5760 : Int) (v8635 : Bool) : Option (((List D_member_Out) × Int) ⊕ (Unit ⊕ Bool)) := cond v8635 (some (.inr (Sum.inr false))) (some (.inl (v5757, (IntKind.i64.wrap (v5760 + (1 : Int))))))
noncomputable def gemotlaw12_MemberAsks.b5 (x2 : Int) (v181 : List Int) (y368 : Int) (y400 : (List D_member_Out) × (List D_member_Event) × O_member_Node) (v5757 : List D_member_Out) (v5760 : Int) : Option (((List D_member_Out) × Int) ⊕ (Unit ⊕ Bool)) := cond (decide (v5760 < (v5757.length : Int))) ((idxL v5757 v5760).bind fun y8808 => (idxL v181 (IntKind.i64.wrap (v5760 + (1 : Int)))).bind fun y8824 => cond (y8808.1 != y8824) (gemotlaw12_MemberAsks.k4 x2 v181 y368 y400 v5757 v5760 (cond (cond (cond (y8808.1 != y8824) true ((0 : Int) != (3 : Int))) true false) true (!false))) ((idxL v5757 v5760).bind fun y8832 => cond (y8832.2.1 != (3 : Int)) (gemotlaw12_MemberAsks.k4 x2 v181 y368 y400 v5757 v5760 (cond (cond (cond (y8808.1 != y8824) true (y8832.2.1 != (3 : Int))) true false) true (!false))) ((idxL v5757 v5760).bind fun y8850 => (member_Node_Promised.f y400.2.2).bind fun y8866 => cond (!((y8850.2.2.1.1 == y8866.1) && (y8850.2.2.1.2 == y8866.2))) (gemotlaw12_MemberAsks.k4 x2 v181 y368 y400 v5757 v5760 (cond (cond (cond (y8808.1 != y8824) true (y8832.2.1 != (3 : Int))) true (!((y8850.2.2.1.1 == y8866.1) && (y8850.2.2.1.2 == y8866.2)))) true (!false))) ((idxL v5757 v5760).bind fun y8872 => (gemotref10_Same.f y8872.2.2.2.2.2.1 v181).bind fun y8888 => gemotlaw12_MemberAsks.k4 x2 v181 y368 y400 v5757 v5760 (cond (cond (cond (y8808.1 != y8824) true (y8832.2.1 != (3 : Int))) true (!((y8850.2.2.1.1 == y8866.1) && (y8850.2.2.1.2 == y8866.2)))) true (!y8888)))))) (some (.inr (Sum.inl ())))
noncomputable def gemotlaw12_MemberAsks.k6 (v8931 : Bool) : Option (Bool) := some v8931
noncomputable def gemotlaw12_MemberAsks.k7 (x2 : Int) (v181 : List Int) (y368 : Int) (y400 : (List D_member_Out) × (List D_member_Event) × O_member_Node) : Option (Bool) := (gemotlaw12_pick.f x2 (20 : Int)).bind fun y8898 => (member_Node_Heed.f y400.2.2 (y8898, (8 : Int))).bind fun y8904 => (member_Node_Suggest.f y8904 v181).bind fun y8910 => cond (cond (y8898 == (0 : Int)) true (cond (y8898 == (1 : Int)) (y368 == (8 : Int)) false)) (some ((y8910.1.length : Int) == (0 : Int))) (cond ((y8910.1.length : Int) == (IntKind.i64.wrap ((v181.length : Int) - (1 : Int)))) ((member_Node_Promised.f y8910.2.2).bind fun y8935 => gemotlaw12_MemberAsks.k6 (cond ((y8910.1.length : Int) == (IntKind.i64.wrap ((v181.length : Int) - (1 : Int)))) ((y8935.1 == (IntKind.i64.wrap (y8898 + (1 : Int)))) && (y8935.2 == y368)) false)) (gemotlaw12_MemberAsks.k6 (cond ((y8910.1.length : Int) == (IntKind.i64.wrap ((v181.length : Int) - (1 : Int)))) false false)))
noncomputable def gemotlaw12_MemberAsks.k8 (x2 : Int) (v181 : List Int) (y368 : Int) (y386 : (List D_member_Out) × (List D_member_Event) × O_member_Node) (y400 : (List D_member_Out) × (List D_member_Event) × O_member_Node) (v478 : Bool) : Option (Bool) := cond v478 (some false) ((loopM (fun s7855 : (List D_member_Out) × Int => gemotlaw12_MemberAsks.b5 x2 v181 y368 y400 s7855.1 s7855.2) (y386.1, (0 : Int))).bind (Sum.elim (fun (o7852 : Unit) => gemotlaw12_MemberAsks.k7 x2 v181 y368 y400) (fun (o7853 : Bool) => some o7853)))
noncomputable def gemotlaw12_MemberAsks.k9 (x1 : Int) (x2 : Int) (y1 : Bool) (v181 : List Int) : Option (Bool) := cond (cond (!y1) true (decide ((v181.length : Int) < (2 : Int)))) (some y1) ((gemotlaw12_pick.f x1 (v181.length : Int)).bind fun y362 => (idxL v181 y362).bind fun y368 => (member_New.f y368).bind fun y374 => cond (y374.1.isNone) (some false) ((y374.1).bind fun y383 => (member_Node_Suggest.f y383 v181).bind fun y386 => (member_Node_Suggest.f y386.2.2 v181).bind fun y400 => (idxL v181 (0 : Int)).bind fun y414 => cond (y368 != y414) (cond ((IntKind.i64.wrap ((IntKind.i64.wrap ((y386.1.length : Int) + (y400.1.length : Int))) + (y386.2.1.length : Int))) == (0 : Int)) ((member_Node_Flushing.f y400.2.2).bind fun y431 => gemotlaw12_MemberAsks.k3 (cond ((IntKind.i64.wrap ((IntKind.i64.wrap ((y386.1.length : Int) + (y400.1.length : Int))) + (y386.2.1.length : Int))) == (0 : Int)) (!y431) false)) (gemotlaw12_MemberAsks.k3 (cond ((IntKind.i64.wrap ((IntKind.i64.wrap ((y386.1.length : Int) + (y400.1.length : Int))) + (y386.2.1.length : Int))) == (0 : Int)) (!false) false))) (cond (cond ((y386.1.length : Int) != (IntKind.i64.wrap ((v181.length : Int) - (1 : Int)))) true ((IntKind.i64.wrap ((y400.1.length : Int) + (y386.2.1.length : Int))) != (0 : Int))) (gemotlaw12_MemberAsks.k8 x2 v181 y368 y386 y400 (cond (cond (cond ((y386.1.length : Int) != (IntKind.i64.wrap ((v181.length : Int) - (1 : Int)))) true ((IntKind.i64.wrap ((y400.1.length : Int) + (y386.2.1.length : Int))) != (0 : Int))) true (!false)) true false)) ((member_Node_Flushing.f y400.2.2).bind fun y482 => cond (!y482) (gemotlaw12_MemberAsks.k8 x2 v181 y368 y386 y400 (cond (cond (cond ((y386.1.length : Int) != (IntKind.i64.wrap ((v181.length : Int) - (1 : Int)))) true ((IntKind.i64.wrap ((y400.1.length : Int) + (y386.2.1.length : Int))) != (0 : Int))) true (!y482)) true false)) ((member_Node_Promised.f y400.2.2).bind fun y488 => gemotlaw12_MemberAsks.k8 x2 v181 y368 y386 y400 (cond (cond (cond ((y386.1.length : Int) != (IntKind.i64.wrap ((v181.length : Int) - (1 : Int)))) true ((IntKind.i64.wrap ((y400.1.length : Int) + (y386.2.1.length : Int))) != (0 : Int))) true (!y482)) true (!((y488.1 == (1 : Int)) && (y488.2 == y368)))))))))
noncomputable def gemotlaw12_MemberAsks.f (x0 : Int) (x1 : Int) (x2 : Int) : Option (Bool) := (gemotlaw12_shown.f).bind fun y1 => (loopM (fun s322 : (List Int) × Int => gemotlaw12_MemberAsks.b2 x0 x1 x2 y1 s322.1 s322.2) (([] : List Int), (1 : Int))).bind (fun (o320 : (List Int)) => gemotlaw12_MemberAsks.k9 x1 x2 y1 o320)
set_option maxHeartbeats 4000000 in
theorem gemotlaw12_MemberAsks_ok {ok : Nat → Prop} {w : World} {x0 : Int} {x1 : Int} {x2 : Int} {r : Bool} (h : gemotlaw12_MemberAsks.f x0 x1 x2 = some r) :
    Calls Try.prog 3 #[.int .i64 x0, .int .i64 x1, .int .i64 x2] w fun e w' => ∃ v, e = .returned v ∧ (v = .bool r ∧ Bel w.heap.size w w') := by
  have H : Eng.Own ok w w [] := Eng.Own.nil ok w
  unfold gemotlaw12_MemberAsks.f at h
  refine enterN (args := [.int .i64 x0, .int .i64 x1, .int .i64 x2]) Try.func3 rfl Try.ntmps3 rfl rfl ?_
  refine nc_seq ?_
  refine nc ?_
  refine nc_seq ?_
  refine nc ?_
  obtain ⟨y1, hy2, h⟩ := bindS h
  refine call_rule (by kernel_rfl) (gemotlaw12_shown_ok (ok := fun _ => False) hy2) fun v4 w3 ⟨hv5, hb6⟩ => ?_
  subst hv5
  replace H := H.call hb6
  refine nc_seq ?_
  refine nc ?_
  refine nc_cut (fun e w185 => ∃ (A182 : Option Addr) (c183 : Nat) (cs184 : List Value) (v181 : List Int), gemotlaw12_MemberAsks.k9 x1 x2 y1 v181 = some r ∧ e = [(1, .int .i64 x1), (2, .int .i64 x2), (7, .bool y1), (8, .slice A182 v181.length c183)] ∧ Eng.Own ok w w185 [.dat (dRows (tInt .i64) v181 cs184), .row (.slice A182 v181.length c183) 3 1 v181.length cs184]) ?_ ?_
  · skip
    refine nc_seq ?_
    refine nc ?_
    refine nc_block ?_
    replace H := H.nilRowD (tInt .i64) 3
    obtain ⟨o312, hL313, hO314⟩ := bindS h
    obtain ⟨n315, hL313⟩ := loopS hL313
    refine nc ?_
    refine loop_ruleA (fun k e w319 => ∃ (A227 : Option Addr) (c228 : Nat) (cs229 : List Value) (v226 : List Int) (v230 : Int), iterM (fun s322 : (List Int) × Int => gemotlaw12_MemberAsks.b2 x0 x1 x2 y1 s322.1 s322.2) k (v226, v230) = some o312 ∧ e = [(0, .int .i64 x0), (1, .int .i64 x1), (2, .int .i64 x2), (7, .bool y1), (8, .slice A227 v226.length c228), (9, .int .i64 v230)] ∧ Eng.Own ok w w319 [.dat (dRows (tInt .i64) v226 cs229), .row (.slice A227 v226.length c228) 3 1 v226.length cs229]) ⟨none, 0, [], _, _, hL313, rfl, H.pickL [0, 1] rfl⟩ ?_
    rintro k324 _ w323 ⟨A227, c228, cs229, v226, v230, hL313, rfl, H⟩
    obtain ⟨k318, rfl, q316, h, hq317⟩ := iterS hL313
    replace h : gemotlaw12_MemberAsks.b2 x0 x1 x2 y1 v226 v230 = some q316 := h
    unfold gemotlaw12_MemberAsks.b2 at h
    refine nc_seq ?_
    refine nc_seq ?_
    refine nc ?_
    refine nc_cond rfl (fun hc325 => ?_) (fun hc325 => ?_)
    · replace h := condT hc325 h
      refine nc ?_
      refine nc_cut (fun e w344 => ∃ (A341 : Option Addr) (c342 : Nat) (cs343 : List Value) (v340 : List Int), gemotlaw12_MemberAsks.k1 x0 x1 x2 y1 v230 v340 = some q316 ∧ e = [(0, .int .i64 x0), (1, .int .i64 x1), (2, .int .i64 x2), (7, .bool y1), (8, .slice A341 v340.length c342), (9, .int .i64 v230)] ∧ Eng.Own ok w w344 [.dat (dRows (tInt .i64) v340 cs343), .row (.slice A341 v340.length c342) 3 1 v340.length cs343]) ?_ ?_
      · skip
        refine nc_block ?_
        refine nc_seq ?_
        refine nc ?_
        obtain ⟨y346, hy347, h⟩ := bindS h
        obtain ⟨hy347b, rfl⟩ := shrS hy347
        refine shr_rule (fun _ => hy347b) ?_
        refine nc_cond rfl (fun hc348 => ?_) (fun hc348 => ?_)
        · replace h := condT hc348 h
          refine nc ?_
          refine own_buildSlice (e := 3) (sz := 1) (z := .int .i64 0) (cs := [.int .i64 v230]) H (by kernel_rfl) (by kernel_rfl) (by kernel_rfl) rfl rfl rfl rfl fun g350 w351 H => ?_
          obtain ⟨hr352, h⟩ := roomS h
          refine own_append1 (k := (tInt .i64)) (z := .int .i64 0) (x := v230) 8 H 1 0 rfl rfl rfl rfl (by kernel_rfl) (by kernel_rfl) rfl rfl hr352 rfl fun z353 cs354 w355 H => ?_
          obtain ⟨A356, c357, rfl, _, _⟩ := H.rowSl 1 rfl
          exact cut_inA ⟨A356, c357, cs354, _, h, rfl, H.pickL [0, 1] rfl⟩
        · replace h := condF hc348 h
          refine nc ?_
          exact cut_inA ⟨A227, c228, cs229, _, h, rfl, H.pickL [0, 1] rfl⟩
      · rintro _ w359 ⟨A341, c342, cs343, v340, h, rfl, H⟩
        unfold gemotlaw12_MemberAsks.k1 at h
        refine nc ?_
        cases h
        exact again_inA ⟨A341, c342, cs343, _, _, hq317, rfl, H.pickL [0, 1] rfl⟩
    · replace h := condF hc325 h
      refine nc ?_
      cases h
      replace hq317 : v226 = o312 := hq317
      subst hq317
      have h := hO314
      try dsimp only [Sum.elim_inl, Sum.elim_inr] at h
      exact cut_inA ⟨A227, c228, cs229, _, h, rfl, H.pickL [0, 1] rfl⟩
  · rintro _ w360 ⟨A182, c183, cs184, v181, h, rfl, H⟩
    unfold gemotlaw12_MemberAsks.k9 at h
    refine nc_seq ?_
    refine nc_seq ?_
    refine nc ?_
    refine nc_cond rfl (fun hc361 => ?_) (fun hc361 => ?_)
    · replace h := condT hc361 h
      refine nc_seq ?_
      refine nc ?_
      refine nc ?_
      replace h := Option.some.inj h
      subst h
      exact ret_inA [.bool y1] ⟨_, rfl, ⟨rfl, H.frame⟩⟩
    · replace h := condF hc361 h
      refine nc ?_
      refine nc_seq ?_
      refine nc ?_
      obtain ⟨y362, hy363, h⟩ := bindS h
      refine call_rule (by kernel_rfl) (gemotlaw12_pick_ok (ok := fun _ => False) hy363) fun v365 w364 ⟨hv366, hb367⟩ => ?_
      subst hv366
      replace H := H.call hb367
      obtain ⟨y368, hx369, h⟩ := bindS h
      obtain ⟨a370, _, rfl, _, _⟩ := H.rowElem (k := (tInt .i64)) 1 0 rfl rfl rfl hx369
      refine idxA_rule (e := 3) 1 _ (by kernel_rfl) (by kernel_rfl) (idxL_some hx369).1 (idxL_some hx369).2.1 ?_
      obtain ⟨cs371, hR372, hC373⟩ := H.rowElemJ (k := (tInt .i64)) 1 0 rfl rfl rfl hx369
      replace hR372 : cs371 = [.int .i64 y368] := by exact hR372
      subst hR372
      refine load_at hC373 0 (by kernel_rfl) rfl ?_
      refine nc_seq ?_
      refine nc ?_
      obtain ⟨y374, hy375, h⟩ := bindS h
      refine call_rule (by kernel_rfl) (member_New_ok H hy375) fun v380 w379 ⟨g376, a377, hv381, H⟩ => ?_
      subst hv381
      refine nc_seq ?_
      refine nc_seq ?_
      refine nc ?_
      refine eqlO_rule (by kernel_rfl) ?_
      refine nc_cond rfl (fun hc382 => ?_) (fun hc382 => ?_)
      · replace h := condT hc382 h
        refine nc_seq ?_
        refine nc ?_
        refine nc ?_
        replace h := Option.some.inj h
        subst h
        exact ret_inA [.bool false] ⟨_, rfl, ⟨rfl, H.frame⟩⟩
      · replace h := condF hc382 h
        refine nc ?_
        refine nc_seq ?_
        refine nc ?_
        obtain ⟨y383, hy384, h⟩ := bindS h
        replace H := H.someAt 0 rfl hy384
        try rw [hy384]
        replace H := H.freeze (k := (tInt .i64)) 2 1 rfl rfl
        replace H := H.pickL [0, 2] rfl
        try dsimp only [lastL, pickI, List.drop, List.take, List.set, List.eraseIdx, List.getElem?_cons_zero, List.getElem?_cons_succ, List.cons_append, List.nil_append, List.map] at H
        obtain ⟨y386, hy387, h⟩ := bindS h
        refine call_rule (by kernel_rfl) (member_Node_Suggest_ok (x0 := y383) H (H.dat 1 rfl) hy387) fun v398 w397 ⟨A388, c389, cs390, A392, c393, cs394, a396, hv399, H⟩ => ?_
        subst hv399
        refine nc_seq ?_
        refine nc ?_
        replace H := H.pickL [4, 0, 1, 2, 3, 5] rfl
        try dsimp only [lastL, pickI, List.drop, List.take, List.set, List.eraseIdx, List.getElem?_cons_zero, List.getElem?_cons_succ, List.cons_append, List.nil_append, List.map] at H
        obtain ⟨y400, hy401, h⟩ := bindS h
        refine call_rule (by kernel_rfl) (member_Node_Suggest_ok (x0 := y386.2.2) H (H.dat 5 rfl) hy401) fun v412 w411 ⟨A402, c403, cs404, A406, c407, cs408, a410, hv413, H⟩ => ?_
        subst hv413
        refine nc_seq ?_
        refine nc_seq ?_
        refine nc ?_
        obtain ⟨y414, hx415, h⟩ := bindS h
        obtain ⟨cs417, hR418, H⟩ := H.elemJ 9 rfl hx415
        obtain rfl : cs417 = [.int .i64 y414] := hR418
        refine idxA_rule (e := 3) 1 _ (by kernel_rfl) (by kernel_rfl) (idxL_some hx415).1 (idxL_some hx415).2.1 ?_
        refine own_loadD H 0 rfl 0 (by kernel_rfl) rfl ?_
        refine nc_cond rfl (fun hc420 => ?_) (fun hc420 => ?_)
        · replace h := condT hc420 h
          refine nc_cut (fun e w428 => ∃ (v427 : Bool), gemotlaw12_MemberAsks.k3 v427 = some r ∧ e = [(6, .bool v427)] ∧ Eng.Own ok w w428 []) ?_ ?_
          · skip
            refine nc ?_
            rcases Bool.eq_false_or_eq_true ((IntKind.i64.wrap ((IntKind.i64.wrap ((y386.1.length : Int) + (y400.1.length : Int))) + (y386.2.1.length : Int))) == (0 : Int)) with hg430 | hg430
            · replace h := condT hg430 h
              replace H := H.pickL [5, 0, 1, 2, 3, 4, 6, 7, 8, 9, 10] rfl
              try dsimp only [lastL, pickI, List.drop, List.take, List.set, List.eraseIdx, List.getElem?_cons_zero, List.getElem?_cons_succ, List.cons_append, List.nil_append, List.map] at H
              obtain ⟨y431, hy432, h⟩ := bindS h
              refine call_yes (gT1 hg430 rfl) (by kernel_rfl) (member_Node_Flushing_ok (x0 := y400.2.2) H hy432) fun v434 w433 ⟨hv435, H⟩ => ?_
              subst hv435
              exact cut_inA ⟨_, h, rfl, H.pickL [] rfl⟩
            · replace h := condF hg430 h
              refine call_skip (.bool false) (gF1 hg430) ?_
              exact cut_inA ⟨_, h, rfl, H.pickL [] rfl⟩
          · rintro _ w436 ⟨v427, h, rfl, H⟩
            unfold gemotlaw12_MemberAsks.k3 at h
            refine nc ?_
            replace h := Option.some.inj h
            subst h
            exact ret_inA [.bool v427] ⟨_, rfl, ⟨rfl, H.frame⟩⟩
        · replace h := condF hc420 h
          refine nc ?_
          refine nc_seq ?_
          refine nc_cut (fun e w479 => ∃ (v478 : Bool), gemotlaw12_MemberAsks.k8 x2 v181 y368 y386 y400 v478 = some r ∧ e = [(2, .int .i64 x2), (8, .slice (some a370) v181.length c183), (10, .int .i64 y368), (11, .pointer (some ⟨g376, 0, none⟩)), (13, .slice A388 y386.1.length c389), (114, .bool v478)] ∧ Eng.Own ok w w479 [.dat (dSl (tInt .i64) (.slice (some a370) v181.length c183) v181), box (oL_member_Node g376 a410 y400.2.2), .dat (dRows t_member_Out y386.1 cs390), .row (.slice A388 y386.1.length c389) 40 9 y386.1.length cs390]) ?_ ?_
          · skip
            refine nc ?_
            rcases Bool.eq_false_or_eq_true (cond ((y386.1.length : Int) != (IntKind.i64.wrap ((v181.length : Int) - (1 : Int)))) true ((IntKind.i64.wrap ((y400.1.length : Int) + (y386.2.1.length : Int))) != (0 : Int))) with hg481 | hg481
            · replace h := condT hg481 h
              refine call_skip (.bool false) (gF0 hg481) ?_
              refine call_skip (.agg #[.int .i64 0, .int .i64 0]) (gF0 (pickT hg481)) ?_
              refine skipBN (.bool false) (gF0 (pickT hg481)) ?_
              exact cut_inA ⟨_, h, rfl, H.pickL [10, 5, 6, 7] rfl⟩
            · replace h := condF hg481 h
              replace H := H.pickL [5, 0, 1, 2, 3, 4, 6, 7, 8, 9, 10] rfl
              try dsimp only [lastL, pickI, List.drop, List.take, List.set, List.eraseIdx, List.getElem?_cons_zero, List.getElem?_cons_succ, List.cons_append, List.nil_append, List.map] at H
              obtain ⟨y482, hy483, h⟩ := bindS h
              refine call_yes (gT0 hg481 rfl) (by kernel_rfl) (member_Node_Flushing_ok (x0 := y400.2.2) H hy483) fun v485 w484 ⟨hv486, H⟩ => ?_
              subst hv486
              rcases Bool.eq_false_or_eq_true (!y482) with hg487 | hg487
              · replace h := condT hg487 h
                refine call_skip (.agg #[.int .i64 0, .int .i64 0]) (gF0 ((pickF hg481).trans hg487)) ?_
                refine skipBN (.bool false) (gF0 ((pickF hg481).trans hg487)) ?_
                exact cut_inA ⟨_, h, rfl, H.pickL [10, 0, 6, 7] rfl⟩
              · replace h := condF hg487 h
                obtain ⟨y488, hy489, h⟩ := bindS h
                refine call_yes (gT0 ((pickF hg481).trans hg487) rfl) (by kernel_rfl) (member_Node_Promised_ok (x0 := y400.2.2) H hy489) fun v491 w490 ⟨hv492, H⟩ => ?_
                subst hv492
                refine neq_rule ((y488.1 == (1 : Int)) && (y488.2 == y368)) (fun _ => (by kernel_rfl)) (fun _ => (by kernel_rfl)) ?_
                exact cut_inA ⟨_, h, rfl, H.pickL [10, 0, 6, 7] rfl⟩
          · rintro _ w493 ⟨v478, h, rfl, H⟩
            unfold gemotlaw12_MemberAsks.k8 at h
            refine nc_cond rfl (fun hc494 => ?_) (fun hc494 => ?_)
            · replace h := condT hc494 h
              refine nc_seq ?_
              refine nc ?_
              refine nc ?_
              replace h := Option.some.inj h
              subst h
              exact ret_inA [.bool false] ⟨_, rfl, ⟨rfl, H.frame⟩⟩
            · replace h := condF hc494 h
              refine nc ?_
              refine nc_cut (fun e w4695 => gemotlaw12_MemberAsks.k7 x2 v181 y368 y400 = some r ∧ e = [(2, .int .i64 x2), (8, .slice (some a370) v181.length c183), (10, .int .i64 y368), (11, .pointer (some ⟨g376, 0, none⟩))] ∧ Eng.Own ok w w4695 [.dat (dSl (tInt .i64) (.slice (some a370) v181.length c183) v181), box (oL_member_Node g376 a410 y400.2.2)]) ?_ ?_
              · skip
                refine nc_seq ?_
                refine nc ?_
                refine nc_block ?_
                replace H := H.freeze (k := t_member_Out) 3 2 rfl rfl
                obtain ⟨o7844, hL7845, hO7846⟩ := bindS h
                obtain ⟨n7847, hL7845⟩ := loopS hL7845
                refine nc ?_
                refine loop_ruleA (fun k e w7851 => ∃ (A5758 : Option Addr) (c5759 : Nat) (v5757 : List D_member_Out) (v5760 : Int), iterM (fun s7855 : (List D_member_Out) × Int => gemotlaw12_MemberAsks.b5 x2 v181 y368 y400 s7855.1 s7855.2) k (v5757, v5760) = some o7844 ∧ e = [(2, .int .i64 x2), (8, .slice (some a370) v181.length c183), (10, .int .i64 y368), (11, .pointer (some ⟨g376, 0, none⟩)), (13, .slice A5758 v5757.length c5759), (17, .int .i64 v5760)] ∧ Eng.Own ok w w7851 [.dat (dSl (tInt .i64) (.slice (some a370) v181.length c183) v181), box (oL_member_Node g376 a410 y400.2.2), .dat (dSl t_member_Out (.slice A5758 v5757.length c5759) v5757)]) ⟨A388, c389, _, _, hL7845, rfl, H.pickL [0, 1, 3] rfl⟩ ?_
                rintro k7857 _ w7856 ⟨A5758, c5759, v5757, v5760, hL7845, rfl, H⟩
                obtain ⟨k7850, rfl, q7848, h, hq7849⟩ := iterS hL7845
                replace h : gemotlaw12_MemberAsks.b5 x2 v181 y368 y400 v5757 v5760 = some q7848 := h
                unfold gemotlaw12_MemberAsks.b5 at h
                refine nc_seq ?_
                refine nc_seq ?_
                refine nc ?_
                refine nc_cond rfl (fun hc7858 => ?_) (fun hc7858 => ?_)
                · replace h := condT hc7858 h
                  refine nc ?_
                  refine nc_seq ?_
                  refine nc_block ?_
                  refine nc_cut (fun e w8636 => ∃ (v8635 : Bool), gemotlaw12_MemberAsks.k4 x2 v181 y368 y400 v5757 v5760 v8635 = some q7848 ∧ e = [(2, .int .i64 x2), (8, .slice (some a370) v181.length c183), (10, .int .i64 y368), (11, .pointer (some ⟨g376, 0, none⟩)), (13, .slice A5758 v5757.length c5759), (17, .int .i64 v5760), (162, .bool v8635)] ∧ Eng.Own ok w w8636 [.dat (dSl (tInt .i64) (.slice (some a370) v181.length c183) v181), box (oL_member_Node g376 a410 y400.2.2), .dat (dSl t_member_Out (.slice A5758 v5757.length c5759) v5757)]) ?_ ?_
                  · skip
                    obtain ⟨A8696, c8697, b8698, al8699, A8700, c8701, g8702, a8703, A8704, c8705, cs8706, A8707, c8708, cs8709, A8710, c8711, cs8712⟩ := a410
                    replace H := H.openAs 1 (oU_member_Node g376 ⟨A8696, c8697, b8698, al8699, A8700, c8701, g8702, a8703, A8704, c8705, cs8706, A8707, c8708, cs8709, A8710, c8711, cs8712⟩ y400.2.2) rfl rfl
                    try dsimp only [oU_member_Node, lastL, pickI, List.drop, List.take, List.set, List.eraseIdx, List.getElem?_cons_zero, List.getElem?_cons_succ, List.cons_append, List.nil_append, List.map] at H
                    obtain ⟨y8808, hx8809, h⟩ := bindS h
                    obtain ⟨a8810, cs8811, rfl, hR8812, H⟩ := H.elemI 13 rfl hx8809
                    obtain ⟨u8814, u8815, rfl, hu8816, hu8817⟩ := member_Out_cells hR8812
                    obtain ⟨A8818, c8819, rfl, H⟩ := H.openD hu8816
                    obtain ⟨A8821, c8822, rfl, H⟩ := H.openD hu8817
                    obtain ⟨y8824, hx8825, h⟩ := bindS h
                    obtain ⟨cs8827, hR8828, H⟩ := H.elemJ 15 rfl hx8825
                    obtain rfl : cs8827 = [.int .i64 y8824] := hR8828
                    rcases Bool.eq_false_or_eq_true (y8808.1 != y8824) with hg8830 | hg8830
                    · replace h := condT hg8830 h
                      refine nc ?_
                      refine draw_rule [] (by kernel_rfl) (by kernel_rfl) H ?_
                      refine c_idxA (e := 40) 9 _ (by kernel_rfl) (by kernel_rfl) (idxL_some hx8809).1 (idxL_some hx8809).2.1 ?_
                      refine c_loadD 3 rfl 0 (by kernel_rfl) rfl ?_
                      refine c_idxA (e := 3) 1 _ (by kernel_rfl) (by kernel_rfl) (idxL_some hx8825).1 (idxL_some hx8825).2.1 ?_
                      refine c_loadD 0 rfl 0 (by kernel_rfl) rfl ?_
                      refine c_skipIA (.pointer (some ⟨0, 0, none⟩)) (gF0 hg8830) ?_
                      refine c_skipLD (.int .i64 0) (gF0 hg8830) ?_
                      refine c_skipIA (.pointer (some ⟨0, 0, none⟩)) (gF0 (pickT hg8830)) ?_
                      refine c_skipLD (.agg #[.int .i64 0, .int .i64 0]) (gF0 (pickT hg8830)) ?_
                      refine c_skipCL (.agg #[.int .i64 0, .int .i64 0]) (gF0 (pickT hg8830)) ?_
                      refine c_skipBN (.bool false) (gF0 (pickT hg8830)) ?_
                      refine c_skipIA (.pointer (some ⟨0, 0, none⟩)) (gF0 (pickT (pickT hg8830))) ?_
                      refine c_skipLD (.slice none 0 0) (gF0 (pickT (pickT hg8830))) ?_
                      refine c_skipCL (.bool false) (gF0 (pickT (pickT hg8830))) ?_
                      intro w8831 H
                      replace H := (H.pickL [4, 5, 6, 7, 8, 9, 10, 11, 12, 13, 14, 15, 0, 1, 2, 3, 16, 17] rfl).shutAs 12 (oL_member_Node g376 (A8696, c8697, b8698, al8699, A8700, c8701, g8702, a8703, A8704, c8705, cs8706, A8707, c8708, cs8709, A8710, c8711, cs8712) y400.2.2) rfl
                      try dsimp only [lastL, pickI, List.drop, List.take, List.set, List.eraseIdx, List.getElem?_cons_zero, List.getElem?_cons_succ, List.cons_append, List.nil_append, List.map] at H
                      exact cut_inA ⟨_, h, rfl, H.pickL [5, 0, 6] rfl⟩
                    · replace h := condF hg8830 h
                      obtain ⟨y8832, hx8833, h⟩ := bindS h
                      obtain ⟨cs8835, hR8836, H⟩ := H.elemJ 17 rfl hx8833
                      obtain ⟨u8838, u8839, rfl, hu8840, hu8841⟩ := member_Out_cells hR8836
                      obtain ⟨A8842, c8843, rfl, H⟩ := H.openD hu8840
                      obtain ⟨A8845, c8846, rfl, H⟩ := H.openD hu8841
                      rcases Bool.eq_false_or_eq_true (y8832.2.1 != (3 : Int)) with hg8848 | hg8848
                      · replace h := condT hg8848 h
                        refine nc ?_
                        refine draw_rule [] (by kernel_rfl) (by kernel_rfl) H ?_
                        refine c_idxA (e := 40) 9 _ (by kernel_rfl) (by kernel_rfl) (idxL_some hx8809).1 (idxL_some hx8809).2.1 ?_
                        refine c_loadD 6 rfl 0 (by kernel_rfl) rfl ?_
                        refine c_idxA (e := 3) 1 _ (by kernel_rfl) (by kernel_rfl) (idxL_some hx8825).1 (idxL_some hx8825).2.1 ?_
                        refine c_loadD 3 rfl 0 (by kernel_rfl) rfl ?_
                        refine c_idxA (e := 40) 9 _ (by kernel_rfl) (by kernel_rfl) (idxL_some hx8833).1 (idxL_some hx8833).2.1 ?_
                        refine c_loadD 2 rfl 1 (by kernel_rfl) rfl ?_
                        refine c_skipIA (.pointer (some ⟨0, 0, none⟩)) (gF0 ((pickF hg8830).trans hg8848)) ?_
                        refine c_skipLD (.agg #[.int .i64 0, .int .i64 0]) (gF0 ((pickF hg8830).trans hg8848)) ?_
                        refine c_skipCL (.agg #[.int .i64 0, .int .i64 0]) (gF0 ((pickF hg8830).trans hg8848)) ?_
                        refine c_skipBN (.bool false) (gF0 ((pickF hg8830).trans hg8848)) ?_
                        refine c_skipIA (.pointer (some ⟨0, 0, none⟩)) (gF0 (pickT ((pickF hg8830).trans hg8848))) ?_
                        refine c_skipLD (.slice none 0 0) (gF0 (pickT ((pickF hg8830).trans hg8848))) ?_
                        refine c_skipCL (.bool false) (gF0 (pickT ((pickF hg8830).trans hg8848))) ?_
                        intro w8849 H
                        replace H := (H.pickL [7, 8, 9, 10, 11, 12, 13, 14, 15, 16, 17, 18, 0, 1, 2, 3, 4, 5, 6, 19, 20] rfl).shutAs 12 (oL_member_Node g376 (A8696, c8697, b8698, al8699, A8700, c8701, g8702, a8703, A8704, c8705, cs8706, A8707, c8708, cs8709, A8710, c8711, cs8712) y400.2.2) rfl
                        try dsimp only [lastL, pickI, List.drop, List.take, List.set, List.eraseIdx, List.getElem?_cons_zero, List.getElem?_cons_succ, List.cons_append, List.nil_append, List.map] at H
                        exact cut_inA ⟨_, h, rfl, H.pickL [8, 0, 9] rfl⟩
                      · replace h := condF hg8848 h
                        obtain ⟨y8850, hx8851, h⟩ := bindS h
                        obtain ⟨cs8853, hR8854, H⟩ := H.elemJ 20 rfl hx8851
                        obtain ⟨u8856, u8857, rfl, hu8858, hu8859⟩ := member_Out_cells hR8854
                        obtain ⟨A8860, c8861, rfl, H⟩ := H.openD hu8858
                        obtain ⟨A8863, c8864, rfl, H⟩ := H.openD hu8859
                        obtain ⟨y8866, hy8867, h⟩ := bindS h
                        rcases Bool.eq_false_or_eq_true (!((y8850.2.2.1.1 == y8866.1) && (y8850.2.2.1.2 == y8866.2))) with hg8870 | hg8870
                        · replace h := condT hg8870 h
                          try dsimp only [lastL, pickI, List.drop, List.take, List.set, List.eraseIdx, List.getElem?_cons_zero, List.getElem?_cons_succ, List.cons_append, List.nil_append, List.map] at H
                          refine nc ?_
                          refine draw_rule [] (by kernel_rfl) (by kernel_rfl) H ?_
                          refine c_idxA (e := 40) 9 _ (by kernel_rfl) (by kernel_rfl) (idxL_some hx8809).1 (idxL_some hx8809).2.1 ?_
                          refine c_loadD 9 rfl 0 (by kernel_rfl) rfl ?_
                          refine c_idxA (e := 3) 1 _ (by kernel_rfl) (by kernel_rfl) (idxL_some hx8825).1 (idxL_some hx8825).2.1 ?_
                          refine c_loadD 6 rfl 0 (by kernel_rfl) rfl ?_
                          refine c_idxA (e := 40) 9 _ (by kernel_rfl) (by kernel_rfl) (idxL_some hx8833).1 (idxL_some hx8833).2.1 ?_
                          refine c_loadD 5 rfl 1 (by kernel_rfl) rfl ?_
                          refine c_idxA (e := 40) 9 _ (by kernel_rfl) (by kernel_rfl) (idxL_some hx8851).1 (idxL_some hx8851).2.1 ?_
                          refine c_loadDA (m := 2) (a := (a8810 : Addr).add ((v5760).toNat * (t_member_Out).sz)) 2 rfl 2 (by kernel_rfl) (by kernel_rfl) [.int .i64 y8850.2.2.1.1, .int .i64 y8850.2.2.1.2] rfl rfl ?_
                          refine c_callRd [10, 11, 12, 13, 14, 15, 16, 17, 18, 19, 20, 21, 0, 1, 2, 3, 4, 5, 6, 7, 8, 9, 22, 23] 12 (oL_member_Node g376 (A8696, c8697, b8698, al8699, A8700, c8701, g8702, a8703, A8704, c8705, cs8706, A8707, c8708, cs8709, A8710, c8711, cs8712) y400.2.2) (fun v X => v = .agg #[.int .i64 y8866.1, .int .i64 y8866.2] ∧ X = []) (gT0 ((pickF hg8830).trans hg8848) rfl) (by kernel_rfl) rfl rfl (fun _ H => Calls.mono (member_Node_Promised_ok (x0 := y400.2.2) H hy8867) fun e w' ⟨v, he, hv, H⟩ => ⟨v, he, _, ⟨hv, rfl⟩, H⟩) ?_
                          rintro v8868 X8869 ⟨rfl, rfl⟩
                          dsimp only [subLb, lastL, pickI, List.drop, List.take, List.set, List.eraseIdx, List.getElem?_cons_zero, List.getElem?_cons_succ, List.cons_append, List.nil_append, List.map]
                          refine c_neq ((y8850.2.2.1.1 == y8866.1) && (y8850.2.2.1.2 == y8866.2)) (fun _ => (by kernel_rfl)) (fun _ => (by kernel_rfl)) ?_
                          refine c_skipIA (.pointer (some ⟨0, 0, none⟩)) (gF0 ((pickF ((pickF hg8830).trans hg8848)).trans hg8870)) ?_
                          refine c_skipLD (.slice none 0 0) (gF0 ((pickF ((pickF hg8830).trans hg8848)).trans hg8870)) ?_
                          refine c_skipCL (.bool false) (gF0 ((pickF ((pickF hg8830).trans hg8848)).trans hg8870)) ?_
                          intro w8871 H
                          dsimp only [lastL, pickI, List.drop, List.take, List.set, List.eraseIdx, List.getElem?_cons_zero, List.getElem?_cons_succ, List.cons_append, List.nil_append, List.map] at H
                          replace H := (H.pickL [10, 11, 12, 13, 14, 15, 16, 17, 18, 19, 20, 21, 0, 1, 2, 3, 4, 5, 6, 7, 8, 9, 22, 23] rfl).shutAs 12 (oL_member_Node g376 (A8696, c8697, b8698, al8699, A8700, c8701, g8702, a8703, A8704, c8705, cs8706, A8707, c8708, cs8709, A8710, c8711, cs8712) y400.2.2) rfl
                          try dsimp only [lastL, pickI, List.drop, List.take, List.set, List.eraseIdx, List.getElem?_cons_zero, List.getElem?_cons_succ, List.cons_append, List.nil_append, List.map] at H
                          exact cut_inA ⟨_, h, rfl, H.pickL [11, 0, 12] rfl⟩
                        · replace h := condF hg8870 h
                          obtain ⟨y8872, hx8873, h⟩ := bindS h
                          obtain ⟨cs8875, hR8876, H⟩ := H.elemJ 23 rfl hx8873
                          obtain ⟨u8878, u8879, rfl, hu8880, hu8881⟩ := member_Out_cells hR8876
                          obtain ⟨A8882, c8883, rfl, H⟩ := H.openD hu8880
                          obtain ⟨A8885, c8886, rfl, H⟩ := H.openD hu8881
                          obtain ⟨y8888, hy8889, h⟩ := bindS h
                          try dsimp only [lastL, pickI, List.drop, List.take, List.set, List.eraseIdx, List.getElem?_cons_zero, List.getElem?_cons_succ, List.cons_append, List.nil_append, List.map] at H
                          refine nc ?_
                          refine draw_rule [] (by kernel_rfl) (by kernel_rfl) H ?_
                          refine c_idxA (e := 40) 9 _ (by kernel_rfl) (by kernel_rfl) (idxL_some hx8809).1 (idxL_some hx8809).2.1 ?_
                          refine c_loadD 12 rfl 0 (by kernel_rfl) rfl ?_
                          refine c_idxA (e := 3) 1 _ (by kernel_rfl) (by kernel_rfl) (idxL_some hx8825).1 (idxL_some hx8825).2.1 ?_
                          refine c_loadD 9 rfl 0 (by kernel_rfl) rfl ?_
                          refine c_idxA (e := 40) 9 _ (by kernel_rfl) (by kernel_rfl) (idxL_some hx8833).1 (idxL_some hx8833).2.1 ?_
                          refine c_loadD 8 rfl 1 (by kernel_rfl) rfl ?_
                          refine c_idxA (e := 40) 9 _ (by kernel_rfl) (by kernel_rfl) (idxL_some hx8851).1 (idxL_some hx8851).2.1 ?_
                          refine c_loadDA (m := 2) (a := (a8810 : Addr).add ((v5760).toNat * (t_member_Out).sz)) 5 rfl 2 (by kernel_rfl) (by kernel_rfl) [.int .i64 y8850.2.2.1.1, .int .i64 y8850.2.2.1.2] rfl rfl ?_
                          refine c_callRd [13, 14, 15, 16, 17, 18, 19, 20, 21, 22, 23, 24, 0, 1, 2, 3, 4, 5, 6, 7, 8, 9, 10, 11, 12, 25, 26] 12 (oL_member_Node g376 (A8696, c8697, b8698, al8699, A8700, c8701, g8702, a8703, A8704, c8705, cs8706, A8707, c8708, cs8709, A8710, c8711, cs8712) y400.2.2) (fun v X => v = .agg #[.int .i64 y8866.1, .int .i64 y8866.2] ∧ X = []) (gT0 ((pickF hg8830).trans hg8848) rfl) (by kernel_rfl) rfl rfl (fun _ H => Calls.mono (member_Node_Promised_ok (x0 := y400.2.2) H hy8867) fun e w' ⟨v, he, hv, H⟩ => ⟨v, he, _, ⟨hv, rfl⟩, H⟩) ?_
                          rintro v8868 X8869 ⟨rfl, rfl⟩
                          dsimp only [subLb, lastL, pickI, List.drop, List.take, List.set, List.eraseIdx, List.getElem?_cons_zero, List.getElem?_cons_succ, List.cons_append, List.nil_append, List.map]
                          refine c_neq ((y8850.2.2.1.1 == y8866.1) && (y8850.2.2.1.2 == y8866.2)) (fun _ => (by kernel_rfl)) (fun _ => (by kernel_rfl)) ?_
                          refine c_idxA (e := 40) 9 _ (by kernel_rfl) (by kernel_rfl) (idxL_some hx8873).1 (idxL_some hx8873).2.1 ?_
                          refine c_loadD (a := (a8810 : Addr).add ((v5760).toNat * (t_member_Out).sz)) 2 rfl 7 (by kernel_rfl) rfl ?_
                          refine c_call (.bool y8888) (by kernel_rfl) (fun _ _ H => gemotref10_Same_ok (H.dat 1 rfl) (H.dat 25 rfl) hy8889) ?_
                          intro w8894 H
                          dsimp only [lastL, pickI, List.drop, List.take, List.set, List.eraseIdx, List.getElem?_cons_zero, List.getElem?_cons_succ, List.cons_append, List.nil_append, List.map] at H
                          replace H := (H.pickL [13, 14, 15, 16, 17, 18, 19, 20, 21, 22, 23, 24, 0, 1, 2, 3, 4, 5, 6, 7, 8, 9, 10, 11, 12, 25, 26] rfl).shutAs 12 (oL_member_Node g376 (A8696, c8697, b8698, al8699, A8700, c8701, g8702, a8703, A8704, c8705, cs8706, A8707, c8708, cs8709, A8710, c8711, cs8712) y400.2.2) rfl
                          try dsimp only [lastL, pickI, List.drop, List.take, List.set, List.eraseIdx, List.getElem?_cons_zero, List.getElem?_cons_succ, List.cons_append, List.nil_append, List.map] at H
                          exact cut_inA ⟨_, h, rfl, H.pickL [14, 0, 15] rfl⟩
                  · rintro _ w8895 ⟨v8635, h, rfl, H⟩
                    unfold gemotlaw12_MemberAsks.k4 at h
                    refine nc_cond rfl (fun hc8896 => ?_) (fun hc8896 => ?_)
                    · replace h := condT hc8896 h
                      refine nc_seq ?_
                      refine nc ?_
                      refine nc ?_
                      cases h
                      replace hq7849 : (Sum.inr false) = o7844 := hq7849
                      subst hq7849
                      have h := hO7846
                      try dsimp only [Sum.elim_inl, Sum.elim_inr] at h
                      replace h := Option.some.inj h
                      subst h
                      exact ret_inA [.bool false] ⟨_, rfl, ⟨rfl, H.frame⟩⟩
                    · replace h := condF hc8896 h
                      refine nc ?_
                      refine nc ?_
                      cases h
                      exact again_inA ⟨A5758, c5759, _, _, hq7849, rfl, H.pickL [0, 1, 2] rfl⟩
                · replace h := condF hc7858 h
                  refine nc ?_
                  cases h
                  replace hq7849 : (Sum.inl ()) = o7844 := hq7849
                  subst hq7849
                  have h := hO7846
                  try dsimp only [Sum.elim_inl, Sum.elim_inr] at h
                  exact cut_inA ⟨h, rfl, H.pickL [0, 1] rfl⟩
              · rintro _ w8897 ⟨h, rfl, H⟩
                unfold gemotlaw12_MemberAsks.k7 at h
                refine nc_seq ?_
                refine nc ?_
                obtain ⟨y8898, hy8899, h⟩ := bindS h
                refine call_rule (by kernel_rfl) (gemotlaw12_pick_ok (ok := fun _ => False) hy8899) fun v8901 w8900 ⟨hv8902, hb8903⟩ => ?_
                subst hv8902
                replace H := H.call hb8903
                refine nc_seq ?_
                refine nc ?_
                replace H := H.pickL [1, 0] rfl
                try dsimp only [lastL, pickI, List.drop, List.take, List.set, List.eraseIdx, List.getElem?_cons_zero, List.getElem?_cons_succ, List.cons_append, List.nil_append, List.map] at H
                obtain ⟨y8904, hy8905, h⟩ := bindS h
                refine call_rule (by kernel_rfl) (member_Node_Heed_ok (x0 := y400.2.2) (x1 := (y8898, (8 : Int))) H hy8905) fun v8908 w8907 ⟨a8906, hv8909, H⟩ => ?_
                subst hv8909
                refine nc_seq ?_
                refine nc ?_
                obtain ⟨y8910, hy8911, h⟩ := bindS h
                refine call_rule (by kernel_rfl) (member_Node_Suggest_ok (x0 := y8904) H (H.dat 1 rfl) hy8911) fun v8922 w8921 ⟨A8912, c8913, cs8914, A8916, c8917, cs8918, a8920, hv8923, H⟩ => ?_
                subst hv8923
                refine nc_seq ?_
                refine nc_seq ?_
                refine nc ?_
                refine nc_cond rfl (fun hc8924 => ?_) (fun hc8924 => ?_)
                · replace h := condT hc8924 h
                  refine nc_seq ?_
                  refine nc ?_
                  refine nc ?_
                  replace h := Option.some.inj h
                  subst h
                  exact ret_inA [.bool ((y8910.1.length : Int) == (0 : Int))] ⟨_, rfl, ⟨rfl, H.frame⟩⟩
                · replace h := condF hc8924 h
                  refine nc ?_
                  refine nc_cut (fun e w8932 => ∃ (v8931 : Bool), gemotlaw12_MemberAsks.k6 v8931 = some r ∧ e = [(6, .bool v8931)] ∧ Eng.Own ok w w8932 []) ?_ ?_
                  · skip
                    refine nc ?_
                    rcases Bool.eq_false_or_eq_true ((y8910.1.length : Int) == (IntKind.i64.wrap ((v181.length : Int) - (1 : Int)))) with hg8934 | hg8934
                    · replace h := condT hg8934 h
                      replace H := H.pickL [4, 0, 1, 2, 3, 5] rfl
                      try dsimp only [lastL, pickI, List.drop, List.take, List.set, List.eraseIdx, List.getElem?_cons_zero, List.getElem?_cons_succ, List.cons_append, List.nil_append, List.map] at H
                      obtain ⟨y8935, hy8936, h⟩ := bindS h
                      refine call_yes (gT1 hg8934 rfl) (by kernel_rfl) (member_Node_Promised_ok (x0 := y8910.2.2) H hy8936) fun v8938 w8937 ⟨hv8939, H⟩ => ?_
                      subst hv8939
                      refine eql_rule ((y8935.1 == (IntKind.i64.wrap (y8898 + (1 : Int)))) && (y8935.2 == y368)) (fun _ => (by kernel_rfl)) (fun _ => (by kernel_rfl)) ?_
                      exact cut_inA ⟨_, h, rfl, H.pickL [] rfl⟩
                    · replace h := condF hg8934 h
                      refine call_skip (.agg #[.int .i64 0, .int .i64 0]) (gF1 hg8934) ?_
                      refine skipBN (.bool false) (gF1 hg8934) ?_
                      exact cut_inA ⟨_, h, rfl, H.pickL [] rfl⟩
                  · rintro _ w8940 ⟨v8931, h, rfl, H⟩
                    unfold gemotlaw12_MemberAsks.k6 at h
                    refine nc ?_
                    replace h := Option.some.inj h
                    subst h
                    exact ret_inA [.bool v8931] ⟨_, rfl, ⟨rfl, H.frame⟩⟩
/-! gemot/gemotlaw12.MemberFlush -/
/-! gemot/gemotlaw12.MemberOnce -/
end Go.Proofs.Ytipoblinefamgaa.G
