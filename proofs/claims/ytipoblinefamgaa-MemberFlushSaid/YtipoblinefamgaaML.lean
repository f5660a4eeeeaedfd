/- Walks, printed by a program of this proof's own. -/
import Derived.Test.YtipoblinefamgaaMB5
import Derived.KernelRfl
namespace Go.Proofs.Ytipoblinefamgaa.G
open Go.RowKit Go.Eng Go.Proofs
set_option linter.unusedVariables false
set_option maxRecDepth 20000
/-! gemot/gemotlaw12.shown -/
noncomputable def gemotlaw12_shown.k1 (v134 : Bool) : Option (Bool) := some v134
noncomputable def gemotlaw12_shown.f : Option (Bool) := (member_New.f (1 : Int)).bind fun y1 => cond (cond (y1.1.isNone) true (y1.2 != (0 : Int))) (some false) ((y1.1).bind fun y14 => (member_Node_Suggest.f y14 ([(1 : Int), (2 : Int)] : List Int)).bind fun y16 => (member_Node_Take.f y16.2.2 (2 : Int) ((4 : Int), ((1 : Int), (1 : Int)), ((0 : Int), (2 : Int)), (0 : Int), ([] : List Int), ([] : List (List UInt8)))).bind fun y30 => cond ((y16.1.length : Int) == (1 : Int)) ((idxL y16.1 (0 : Int)).bind fun y139 => cond (y139.1 == (2 : Int)) ((idxL y16.1 (0 : Int)).bind fun y156 => cond (cond (cond (cond (cond ((y16.1.length : Int) == (1 : Int)) (y139.1 == (2 : Int)) false) (y156.2.1 == (3 : Int)) false) ((y16.2.1.length : Int) == (0 : Int)) false) ((y30.1.length : Int) == (1 : Int)) false) ((idxL y30.1 (0 : Int)).bind fun y174 => cond (cond (cond (cond (cond (cond (cond ((y16.1.length : Int) == (1 : Int)) (y139.1 == (2 : Int)) false) (y156.2.1 == (3 : Int)) false) ((y16.2.1.length : Int) == (0 : Int)) false) ((y30.1.length : Int) == (1 : Int)) false) (y174.2.1 == (5 : Int)) false) ((y30.2.1.length : Int) == (1 : Int)) false) ((idxL y30.2.1 (0 : Int)).bind fun y192 => cond (y192.1 == (2 : Int)) ((idxL y30.2.1 (0 : Int)).bind fun y204 => cond ((y204.2.1.1.1 == (1 : Int)) && (y204.2.1.1.2 == (1 : Int))) ((idxL y30.2.1 (0 : Int)).bind fun y216 => gemotlaw12_shown.k1 (cond (cond (cond (cond (cond (cond (cond (cond (cond ((y16.1.length : Int) == (1 : Int)) (y139.1 == (2 : Int)) false) (y156.2.1 == (3 : Int)) false) ((y16.2.1.length : Int) == (0 : Int)) false) ((y30.1.length : Int) == (1 : Int)) false) (y174.2.1 == (5 : Int)) false) ((y30.2.1.length : Int) == (1 : Int)) false) (y192.1 == (2 : Int)) false) ((y204.2.1.1.1 == (1 : Int)) && (y204.2.1.1.2 == (1 : Int))) false) ((y216.2.1.2.length : Int) == (2 : Int)) false)) (gemotlaw12_shown.k1 (cond (cond (cond (cond (cond (cond (cond (cond (cond ((y16.1.length : Int) == (1 : Int)) (y139.1 == (2 : Int)) false) (y156.2.1 == (3 : Int)) false) ((y16.2.1.length : Int) == (0 : Int)) false) ((y30.1.length : Int) == (1 : Int)) false) (y174.2.1 == (5 : Int)) false) ((y30.2.1.length : Int) == (1 : Int)) false) (y192.1 == (2 : Int)) false) ((y204.2.1.1.1 == (1 : Int)) && (y204.2.1.1.2 == (1 : Int))) false) ((0 : Int) == (2 : Int)) false))) (gemotlaw12_shown.k1 (cond (cond (cond (cond (cond (cond (cond (cond (cond ((y16.1.length : Int) == (1 : Int)) (y139.1 == (2 : Int)) false) (y156.2.1 == (3 : Int)) false) ((y16.2.1.length : Int) == (0 : Int)) false) ((y30.1.length : Int) == (1 : Int)) false) (y174.2.1 == (5 : Int)) false) ((y30.2.1.length : Int) == (1 : Int)) false) (y192.1 == (2 : Int)) false) false false) ((0 : Int) == (2 : Int)) false))) (gemotlaw12_shown.k1 (cond (cond (cond (cond (cond (cond (cond (cond (cond ((y16.1.length : Int) == (1 : Int)) (y139.1 == (2 : Int)) false) (y156.2.1 == (3 : Int)) false) ((y16.2.1.length : Int) == (0 : Int)) false) ((y30.1.length : Int) == (1 : Int)) false) (y174.2.1 == (5 : Int)) false) ((y30.2.1.length : Int) == (1 : Int)) false) ((0 : Int) == (2 : Int)) false) false false) ((0 : Int) == (2 : Int)) false))) (gemotlaw12_shown.k1 (cond (cond (cond (cond (cond (cond (cond (cond (cond ((y16.1.length : Int) == (1 : Int)) (y139.1 == (2 : Int)) false) (y156.2.1 == (3 : Int)) false) ((y16.2.1.length : Int) == (0 : Int)) false) ((y30.1.length : Int) == (1 : Int)) false) ((0 : Int) == (5 : Int)) false) ((y30.2.1.length : Int) == (1 : Int)) false) ((0 : Int) == (2 : Int)) false) false false) ((0 : Int) == (2 : Int)) false))) (gemotlaw12_shown.k1 (cond (cond (cond (cond (cond (cond (cond (cond (cond ((y16.1.length : Int) == (1 : Int)) (y139.1 == (2 : Int)) false) ((0 : Int) == (3 : Int)) false) ((y16.2.1.length : Int) == (0 : Int)) false) ((y30.1.length : Int) == (1 : Int)) false) ((0 : Int) == (5 : Int)) false) ((y30.2.1.length : Int) == (1 : Int)) false) ((0 : Int) == (2 : Int)) false) false false) ((0 : Int) == (2 : Int)) false))) (gemotlaw12_shown.k1 (cond (cond (cond (cond (cond (cond (cond (cond (cond ((y16.1.length : Int) == (1 : Int)) ((0 : Int) == (2 : Int)) false) ((0 : Int) == (3 : Int)) false) ((y16.2.1.length : Int) == (0 : Int)) false) ((y30.1.length : Int) == (1 : Int)) false) ((0 : Int) == (5 : Int)) false) ((y30.2.1.length : Int) == (1 : Int)) false) ((0 : Int) == (2 : Int)) false) false false) ((0 : Int) == (2 : Int)) false)))
set_option maxHeartbeats 4000000 in
theorem gemotlaw12_shown_ok {ok : Nat → Prop} {w : World} {r : Bool} (h : gemotlaw12_shown.f = some r) :
    Calls Try.prog 6 #[] w fun e w' => ∃ v, e = .returned v ∧ (v = .bool r ∧ Bel w.heap.size w w') := by
  have H : Eng.Own ok w w [] := Eng.Own.nil ok w
  unfold gemotlaw12_shown.f at h
  refine enterN (args := []) Try.func6 rfl Try.ntmps6 rfl rfl ?_
  refine nc_seq ?_
  refine nc ?_
  refine nc_seq ?_
  refine nc ?_
  obtain ⟨y1, hy2, h⟩ := bindS h
  refine call_rule (by kernel_rfl) (member_New_ok H hy2) fun v7 w6 ⟨g3, a4, hv8, H⟩ => ?_
  subst hv8
  refine nc_seq ?_
  refine nc_seq ?_
  refine nc ?_
  refine eqlO_rule (by kernel_rfl) ?_
  refine nc_cond rfl (fun hc9 => ?_) (fun hc9 => ?_)
  · replace h := condT hc9 h
    refine nc_seq ?_
    refine nc ?_
    refine nc ?_
    replace h := Option.some.inj h
    subst h
    exact ret_inA [.bool false] ⟨_, rfl, ⟨rfl, H.frame⟩⟩
  · replace h := condF hc9 h
    refine nc ?_
    refine nc_seq ?_
    refine nc ?_
    refine own_buildSlice (e := 3) (sz := 1) (z := .int .i64 0) (cs := [.int .i64 1, .int .i64 2]) H (by kernel_rfl) (by kernel_rfl) (by kernel_rfl) rfl rfl rfl rfl fun g11 w12 H => ?_
    replace H := H.blkSl (k := (tInt .i64)) [(1 : Int), (2 : Int)] 2 rfl rfl (by decide) ⟨_, _, rfl, rfl, ⟨_, _, rfl, rfl, rfl⟩⟩
    obtain ⟨y14, hy15, h⟩ := bindS h
    replace H := H.someAt 1 rfl hy15
    try rw [hy15]
    replace H := H.pickL [1, 0] rfl
    try dsimp only [lastL, pickI, List.drop, List.take, List.set, List.eraseIdx, List.getElem?_cons_zero, List.getElem?_cons_succ, List.cons_append, List.nil_append, List.map] at H
    obtain ⟨y16, hy17, h⟩ := bindS h
    refine call_rule (by kernel_rfl) (member_Node_Suggest_ok (x0 := y14) H (H.dat 1 rfl) hy17) fun v28 w27 ⟨A18, c19, cs20, A22, c23, cs24, a26, hv29, H⟩ => ?_
    subst hv29
    refine nc_seq ?_
    refine nc ?_
    replace H := H.pickL [4, 0, 1, 2, 3, 5] rfl
    try dsimp only [lastL, pickI, List.drop, List.take, List.set, List.eraseIdx, List.getElem?_cons_zero, List.getElem?_cons_succ, List.cons_append, List.nil_append, List.map] at H
    obtain ⟨y30, hy31, h⟩ := bindS h
    refine call_rule (by kernel_rfl) (member_Node_Take_ok (x0 := y16.2.2) (x2 := ((4 : Int), ((1 : Int), (1 : Int)), ((0 : Int), (2 : Int)), (0 : Int), ([] : List Int), ([] : List (List UInt8)))) H nilR nilR hy31) fun v42 w41 ⟨A32, c33, cs34, A36, c37, cs38, a40, hv43, H⟩ => ?_
    subst hv43
    refine nc_cut (fun e w135 => ∃ (v134 : Bool), gemotlaw12_shown.k1 v134 = some r ∧ e = [(0, .bool v134)] ∧ Eng.Own ok w w135 []) ?_ ?_
    · skip
      refine nc ?_
      rcases Bool.eq_false_or_eq_true ((y16.1.length : Int) == (1 : Int)) with hg137 | hg137
      · replace h := condT hg137 h
        replace H := H.freeze (k := t_member_Out) 6 5 rfl rfl
        obtain ⟨y139, hx140, h⟩ := bindS h
        obtain ⟨a141, cs142, rfl, hR143, H⟩ := H.elemI 6 rfl hx140
        obtain ⟨u145, u146, rfl, hu147, hu148⟩ := member_Out_cells hR143
        obtain ⟨A149, c150, rfl, H⟩ := H.openD hu147
        obtain ⟨A152, c153, rfl, H⟩ := H.openD hu148
        refine idxA_rule (e := 40) 9 _ (by kernel_rfl) (by kernel_rfl) (idxL_some hx140).1 (idxL_some hx140).2.1 ?_
        refine own_loadD H 2 rfl 0 (by kernel_rfl) rfl ?_
        rcases Bool.eq_false_or_eq_true (y139.1 == (2 : Int)) with hg155 | hg155
        · replace h := condT hg155 h
          obtain ⟨y156, hx157, h⟩ := bindS h
          obtain ⟨cs159, hR160, H⟩ := H.elemJ 9 rfl hx157
          obtain ⟨u162, u163, rfl, hu164, hu165⟩ := member_Out_cells hR160
          obtain ⟨A166, c167, rfl, H⟩ := H.openD hu164
          obtain ⟨A169, c170, rfl, H⟩ := H.openD hu165
          refine idxA_rule (e := 40) 9 _ (by kernel_rfl) (by kernel_rfl) (idxL_some hx157).1 (idxL_some hx157).2.1 ?_
          refine own_loadD H 2 rfl 1 (by kernel_rfl) rfl ?_
          rcases Bool.eq_false_or_eq_true (cond (cond (cond (cond ((y16.1.length : Int) == (1 : Int)) (y139.1 == (2 : Int)) false) (y156.2.1 == (3 : Int)) false) ((y16.2.1.length : Int) == (0 : Int)) false) ((y30.1.length : Int) == (1 : Int)) false) with hg172 | hg172
          · replace h := condT hg172 h
            replace H := H.freeze (k := t_member_Out) 7 6 rfl rfl
            obtain ⟨y174, hx175, h⟩ := bindS h
            obtain ⟨a176, cs177, rfl, hR178, H⟩ := H.elemI 7 rfl hx175
            obtain ⟨u180, u181, rfl, hu182, hu183⟩ := member_Out_cells hR178
            obtain ⟨A184, c185, rfl, H⟩ := H.openD hu182
            obtain ⟨A187, c188, rfl, H⟩ := H.openD hu183
            refine idxA_rule (e := 40) 9 _ (by kernel_rfl) (by kernel_rfl) (idxL_some hx175).1 (idxL_some hx175).2.1 ?_
            refine own_loadD H 2 rfl 1 (by kernel_rfl) rfl ?_
            rcases Bool.eq_false_or_eq_true (cond (cond (cond (cond (cond (cond ((y16.1.length : Int) == (1 : Int)) (y139.1 == (2 : Int)) false) (y156.2.1 == (3 : Int)) false) ((y16.2.1.length : Int) == (0 : Int)) false) ((y30.1.length : Int) == (1 : Int)) false) (y174.2.1 == (5 : Int)) false) ((y30.2.1.length : Int) == (1 : Int)) false) with hg190 | hg190
            · replace h := condT hg190 h
              replace H := H.freeze (k := t_member_Event) 12 11 rfl rfl
              obtain ⟨y192, hx193, h⟩ := bindS h
              obtain ⟨a194, cs195, rfl, hR196, H⟩ := H.elemI 12 rfl hx193
              obtain ⟨u198, rfl, hu199⟩ := member_Event_cells hR196
              obtain ⟨A200, c201, rfl, H⟩ := H.openD hu199
              refine idxA_rule (e := 51) 7 _ (by kernel_rfl) (by kernel_rfl) (idxL_some hx193).1 (idxL_some hx193).2.1 ?_
              refine own_loadD H 1 rfl 0 (by kernel_rfl) rfl ?_
              rcases Bool.eq_false_or_eq_true (y192.1 == (2 : Int)) with hg203 | hg203
              · replace h := condT hg203 h
                obtain ⟨y204, hx205, h⟩ := bindS h
                obtain ⟨cs207, hR208, H⟩ := H.elemJ 14 rfl hx205
                obtain ⟨u210, rfl, hu211⟩ := member_Event_cells hR208
                obtain ⟨A212, c213, rfl, H⟩ := H.openD hu211
                refine idxA_rule (e := 51) 7 _ (by kernel_rfl) (by kernel_rfl) (idxL_some hx205).1 (idxL_some hx205).2.1 ?_
                refine own_loadDA (m := 2) H 1 rfl 1 (by kernel_rfl) (by kernel_rfl) [.int .i64 y204.2.1.1.1, .int .i64 y204.2.1.1.2] rfl rfl ?_
                refine eql_rule ((y204.2.1.1.1 == (1 : Int)) && (y204.2.1.1.2 == (1 : Int))) (fun _ => (by kernel_rfl)) (fun _ => (by kernel_rfl)) ?_
                rcases Bool.eq_false_or_eq_true ((y204.2.1.1.1 == (1 : Int)) && (y204.2.1.1.2 == (1 : Int))) with hg215 | hg215
                · replace h := condT hg215 h
                  obtain ⟨y216, hx217, h⟩ := bindS h
                  obtain ⟨cs219, hR220, H⟩ := H.elemJ 16 rfl hx217
                  obtain ⟨u222, rfl, hu223⟩ := member_Event_cells hR220
                  obtain ⟨A224, c225, rfl, H⟩ := H.openD hu223
                  refine idxA_rule (e := 51) 7 _ (by kernel_rfl) (by kernel_rfl) (idxL_some hx217).1 (idxL_some hx217).2.1 ?_
                  refine own_loadD H 1 rfl 3 (by kernel_rfl) rfl ?_
                  exact cut_inA ⟨_, h, rfl, H.pickL [] rfl⟩
                · replace h := condF hg215 h
                  refine skipIA (.pointer (some ⟨0, 0, none⟩)) (gF1 ((pickT ((pickT hg190).trans hg203)).trans hg215)) ?_
                  refine skipLD (.slice none 0 0) (gF1 ((pickT ((pickT hg190).trans hg203)).trans hg215)) ?_
                  exact cut_inA ⟨_, h, rfl, H.pickL [] rfl⟩
              · replace h := condF hg203 h
                refine skipIA (.pointer (some ⟨0, 0, none⟩)) (gF1 ((pickT hg190).trans hg203)) ?_
                refine skipLD (.agg #[.int .i64 0, .int .i64 0]) (gF1 ((pickT hg190).trans hg203)) ?_
                refine skipBN (.bool false) (gF1 ((pickT hg190).trans hg203)) ?_
                refine skipIA (.pointer (some ⟨0, 0, none⟩)) (gF1 (pickF ((pickT hg190).trans hg203))) ?_
                refine skipLD (.slice none 0 0) (gF1 (pickF ((pickT hg190).trans hg203))) ?_
                exact cut_inA ⟨_, h, rfl, H.pickL [] rfl⟩
            · replace h := condF hg190 h
              refine skipIA (.pointer (some ⟨0, 0, none⟩)) (gF1 hg190) ?_
              refine skipLD (.int .i64 0) (gF1 hg190) ?_
              refine skipIA (.pointer (some ⟨0, 0, none⟩)) (gF1 (pickF hg190)) ?_
              refine skipLD (.agg #[.int .i64 0, .int .i64 0]) (gF1 (pickF hg190)) ?_
              refine skipBN (.bool false) (gF1 (pickF hg190)) ?_
              refine skipIA (.pointer (some ⟨0, 0, none⟩)) (gF1 (pickF (pickF hg190))) ?_
              refine skipLD (.slice none 0 0) (gF1 (pickF (pickF hg190))) ?_
              exact cut_inA ⟨_, h, rfl, H.pickL [] rfl⟩
          · replace h := condF hg172 h
            refine skipIA (.pointer (some ⟨0, 0, none⟩)) (gF1 hg172) ?_
            refine skipLD (.int .i64 0) (gF1 hg172) ?_
            refine skipIA (.pointer (some ⟨0, 0, none⟩)) (gF1 (pickF (pickF hg172))) ?_
            refine skipLD (.int .i64 0) (gF1 (pickF (pickF hg172))) ?_
            refine skipIA (.pointer (some ⟨0, 0, none⟩)) (gF1 (pickF (pickF (pickF hg172)))) ?_
            refine skipLD (.agg #[.int .i64 0, .int .i64 0]) (gF1 (pickF (pickF (pickF hg172)))) ?_
            refine skipBN (.bool false) (gF1 (pickF (pickF (pickF hg172)))) ?_
            refine skipIA (.pointer (some ⟨0, 0, none⟩)) (gF1 (pickF (pickF (pickF (pickF hg172))))) ?_
            refine skipLD (.slice none 0 0) (gF1 (pickF (pickF (pickF (pickF hg172))))) ?_
            exact cut_inA ⟨_, h, rfl, H.pickL [] rfl⟩
        · replace h := condF hg155 h
          refine skipIA (.pointer (some ⟨0, 0, none⟩)) (gF1 ((pickT hg137).trans hg155)) ?_
          refine skipLD (.int .i64 0) (gF1 ((pickT hg137).trans hg155)) ?_
          refine skipIA (.pointer (some ⟨0, 0, none⟩)) (gF1 (pickF (pickF (pickF ((pickT hg137).trans hg155))))) ?_
          refine skipLD (.int .i64 0) (gF1 (pickF (pickF (pickF ((pickT hg137).trans hg155))))) ?_
          refine skipIA (.pointer (some ⟨0, 0, none⟩)) (gF1 (pickF (pickF (pickF (pickF (pickF ((pickT hg137).trans hg155))))))) ?_
          refine skipLD (.int .i64 0) (gF1 (pickF (pickF (pickF (pickF (pickF ((pickT hg137).trans hg155))))))) ?_
          refine skipIA (.pointer (some ⟨0, 0, none⟩)) (gF1 (pickF (pickF (pickF (pickF (pickF (pickF ((pickT hg137).trans hg155)))))))) ?_
          refine skipLD (.agg #[.int .i64 0, .int .i64 0]) (gF1 (pickF (pickF (pickF (pickF (pickF (pickF ((pickT hg137).trans hg155)))))))) ?_
          refine skipBN (.bool false) (gF1 (pickF (pickF (pickF (pickF (pickF (pickF ((pickT hg137).trans hg155)))))))) ?_
          refine skipIA (.pointer (some ⟨0, 0, none⟩)) (gF1 (pickF (pickF (pickF (pickF (pickF (pickF (pickF ((pickT hg137).trans hg155))))))))) ?_
          refine skipLD (.slice none 0 0) (gF1 (pickF (pickF (pickF (pickF (pickF (pickF (pickF ((pickT hg137).trans hg155))))))))) ?_
          exact cut_inA ⟨_, h, rfl, H.pickL [] rfl⟩
      · replace h := condF hg137 h
        refine skipIA (.pointer (some ⟨0, 0, none⟩)) (gF1 hg137) ?_
        refine skipLD (.int .i64 0) (gF1 hg137) ?_
        refine skipIA (.pointer (some ⟨0, 0, none⟩)) (gF1 (pickF hg137)) ?_
        refine skipLD (.int .i64 0) (gF1 (pickF hg137)) ?_
        refine skipIA (.pointer (some ⟨0, 0, none⟩)) (gF1 (pickF (pickF (pickF (pickF hg137))))) ?_
        refine skipLD (.int .i64 0) (gF1 (pickF (pickF (pickF (pickF hg137))))) ?_
        refine skipIA (.pointer (some ⟨0, 0, none⟩)) (gF1 (pickF (pickF (pickF (pickF (pickF (pickF hg137))))))) ?_
        refine skipLD (.int .i64 0) (gF1 (pickF (pickF (pickF (pickF (pickF (pickF hg137))))))) ?_
        refine skipIA (.pointer (some ⟨0, 0, none⟩)) (gF1 (pickF (pickF (pickF (pickF (pickF (pickF (pickF hg137)))))))) ?_
        refine skipLD (.agg #[.int .i64 0, .int .i64 0]) (gF1 (pickF (pickF (pickF (pickF (pickF (pickF (pickF hg137)))))))) ?_
        refine skipBN (.bool false) (gF1 (pickF (pickF (pickF (pickF (pickF (pickF (pickF hg137)))))))) ?_
        refine skipIA (.pointer (some ⟨0, 0, none⟩)) (gF1 (pickF (pickF (pickF (pickF (pickF (pickF (pickF (pickF hg137))))))))) ?_
        refine skipLD (.slice none 0 0) (gF1 (pickF (pickF (pickF (pickF (pickF (pickF (pickF (pickF hg137))))))))) ?_
        exact cut_inA ⟨_, h, rfl, H.pickL [] rfl⟩
    · rintro _ w227 ⟨v134, h, rfl, H⟩
      unfold gemotlaw12_shown.k1 at h
      refine nc ?_
      replace h := Option.some.inj h
      subst h
      exact ret_inA [.bool v134] ⟨_, rfl, ⟨rfl, H.frame⟩⟩
/-! gemot/gemotlaw12.pick -/
noncomputable def gemotlaw12_pick.k1 (x1 : Int) (v2 : Int) : Option (Int) := (remM v2 x1).bind fun _ => some (v2.tmod x1)
noncomputable def gemotlaw12_pick.f (x0 : Int) (x1 : Int) : Option (Int) := cond (decide (x0 < (0 : Int))) (gemotlaw12_pick.k1 x1 (IntKind.i64.wrap (0 - (IntKind.i64.wrap (x0 + (1 : Int)))))) (gemotlaw12_pick.k1 x1 x0)
set_option maxHeartbeats 4000000 in
theorem gemotlaw12_pick_ok {ok : Nat → Prop} {w : World} {x0 : Int} {x1 : Int} {r : Int} (h : gemotlaw12_pick.f x0 x1 = some r) :
    Calls Try.prog 7 #[.int .i64 x0, .int .i64 x1] w fun e w' => ∃ v, e = .returned v ∧ (v = .int .i64 r ∧ Bel w.heap.size w w') := by
  have H : Eng.Own ok w w [] := Eng.Own.nil ok w
  unfold gemotlaw12_pick.f at h
  refine enterN (args := [.int .i64 x0, .int .i64 x1]) Try.func7 rfl Try.ntmps7 rfl rfl ?_
  refine nc_seq ?_
  refine nc ?_
  refine nc_cut (fun e w3 => ∃ (v2 : Int), gemotlaw12_pick.k1 x1 v2 = some r ∧ e = [(0, .int .i64 v2), (1, .int .i64 x1)] ∧ Eng.Own ok w w3 []) ?_ ?_
  · skip
    refine nc_seq ?_
    refine nc ?_
    refine nc_cond rfl (fun hc5 => ?_) (fun hc5 => ?_)
    · replace h := condT hc5 h
      refine nc ?_
      exact cut_inA ⟨_, h, rfl, H.pickL [] rfl⟩
    · replace h := condF hc5 h
      refine nc ?_
      exact cut_inA ⟨_, h, rfl, H.pickL [] rfl⟩
  · rintro _ w6 ⟨v2, h, rfl, H⟩
    unfold gemotlaw12_pick.k1 at h
    refine nc_seq ?_
    refine nc ?_
    obtain ⟨y7, hy8, h⟩ := bindS h
    obtain ⟨hy8b, rfl⟩ := remS hy8
    refine rem_rule (fun _ => hy8b) ?_
    refine nc ?_
    replace h := Option.some.inj h
    subst h
    exact ret_inA [.int .i64 (v2.tmod x1)] ⟨_, rfl, ⟨rfl, H.frame⟩⟩
/-! gemot/gemotref10.Same -/
/-! gemot/gemotlaw12.MemberAsks -/
/-! gemot/gemotlaw12.MemberFlush -/
noncomputable def gemotlaw12_MemberFlush.b1 (y44 : (List D_member_Out) × (List D_member_Event) × O_member_Node) (y58 : Int) (y64 : Int) (v195 : List (List UInt8)) (v199 : Int) : Option (((List (List UInt8)) × Int) ⊕ (List (List UInt8))) := cond (decide (v199 < (IntKind.i64.wrap (y58 + y64)))) ((term_Number.f (IntKind.u64.wrap v199)).bind fun y259 => roomM 16 (v195.length + 1) (some (.inl ((v195 ++ [y259]), (IntKind.i64.wrap (v199 + (1 : Int))))))) (some (.inr v195))
noncomputable def gemotlaw12_MemberFlush.k2 (y58 : Int) (y64 : Int) (v1084 : List (List UInt8)) (v1087 : Int) (y1523 : (List D_member_Out) × (List D_member_Event) × O_member_Node) (v1551 : Bool) : Option ((O_member_Node × (List (List UInt8)) × Int) ⊕ ((O_member_Node × (List (List UInt8))) ⊕ Bool)) := cond v1551 (some (.inr (Sum.inr false))) (some (.inl (y1523.2.2, v1084, (IntKind.i64.wrap (v1087 + (1 : Int))))))
noncomputable def gemotlaw12_MemberFlush.b3 (y58 : Int) (y64 : Int) (v1081 : O_member_Node) (v1084 : List (List UInt8)) (v1087 : Int) : Option ((O_member_Node × (List (List UInt8)) × Int) ⊕ ((O_member_Node × (List (List UInt8))) ⊕ Bool)) := cond (decide (v1087 < y58)) ((slcM v1084 v1087 (IntKind.i64.wrap (v1087 + (1 : Int)))).bind fun y1516 => (member_Node_Take.f v1081 (1 : Int) ((6 : Int), ((1 : Int), (1 : Int)), ((0 : Int), (0 : Int)), (IntKind.i64.wrap (v1087 + (1 : Int))), ([] : List Int), y1516)).bind fun y1523 => cond ((y1523.2.1.length : Int) != (1 : Int)) (gemotlaw12_MemberFlush.k2 y58 y64 v1084 v1087 y1523 (cond ((y1523.2.1.length : Int) != (1 : Int)) true ((0 : Int) != (IntKind.i64.wrap (v1087 + (1 : Int)))))) ((idxL y1523.2.1 (0 : Int)).bind fun y1555 => gemotlaw12_MemberFlush.k2 y58 y64 v1084 v1087 y1523 (cond ((y1523.2.1.length : Int) != (1 : Int)) true (y1555.2.2.2.1 != (IntKind.i64.wrap (v1087 + (1 : Int))))))) (some (.inr (Sum.inl (v1081, v1084))))
noncomputable def gemotlaw12_MemberFlush.k4 (y58 : Int) (y64 : Int) (v921 : List (List UInt8)) (y2287 : (List D_member_Out) × (List D_member_Event) × O_member_Node) (v2351 : List D_member_Event) (v4205 : Int) (v5216 : Bool) : Option (Int ⊕ (Unit ⊕ Bool)) := cond v5216 (some (.inr (Sum.inr false))) (some (.inl (IntKind.i64.wrap (v4205 + (1 : Int)))))
noncomputable def gemotlaw12_MemberFlush.b5 (y58 : Int) (y64 : Int) (v921 : List (List UInt8)) (y2287 : (List D_member_Out) × (List D_member_Event) × O_member_Node) (v2351 : List D_member_Event) (v4205 : Int) : Option (Int ⊕ (Unit ⊕ Bool)) := cond (decide (v4205 < y64)) ((idxL v2351 v4205).bind fun y5263 => cond (y5263.2.2.2.1 != (IntKind.i64.wrap ((IntKind.i64.wrap (y58 + v4205)) + (1 : Int)))) (gemotlaw12_MemberFlush.k4 y58 y64 v921 y2287 v2351 v4205 (cond (cond (y5263.2.2.2.1 != (IntKind.i64.wrap ((IntKind.i64.wrap (y58 + v4205)) + (1 : Int)))) true (!(strEq ([] : List UInt8) ([] : List UInt8)))) true false)) ((idxL v2351 v4205).bind fun y5276 => (idxL v921 (IntKind.i64.wrap (y58 + v4205))).bind fun y5287 => cond (!(strEq y5276.2.2.2.2 y5287)) (gemotlaw12_MemberFlush.k4 y58 y64 v921 y2287 v2351 v4205 (cond (cond (y5263.2.2.2.1 != (IntKind.i64.wrap ((IntKind.i64.wrap (y58 + v4205)) + (1 : Int)))) true (!(strEq y5276.2.2.2.2 y5287))) true false)) ((idxL v2351 v4205).bind fun y5295 => gemotlaw12_MemberFlush.k4 y58 y64 v921 y2287 v2351 v4205 (cond (cond (y5263.2.2.2.1 != (IntKind.i64.wrap ((IntKind.i64.wrap (y58 + v4205)) + (1 : Int)))) true (!(strEq y5276.2.2.2.2 y5287))) true (!((y5295.2.1.1.1 == (1 : Int)) && (y5295.2.1.1.2 == (1 : Int)))))))) (some (.inr (Sum.inl ())))
noncomputable def gemotlaw12_MemberFlush.k6 (v5363 : Bool) : Option (Bool) := some v5363
noncomputable def gemotlaw12_MemberFlush.k7 (y2287 : (List D_member_Out) × (List D_member_Event) × O_member_Node) : Option (Bool) := (member_Node_Flushing.f y2287.2.2).bind fun y5405 => cond (!y5405) ((member_Node_View.f y2287.2.2).bind fun y5410 => gemotlaw12_MemberFlush.k6 (cond (!y5405) ((y5410.1.1 == (2 : Int)) && (y5410.1.2 == (1 : Int))) false)) (gemotlaw12_MemberFlush.k6 (cond (!y5405) false false))
noncomputable def gemotlaw12_MemberFlush.k8 (y58 : Int) (y64 : Int) (v921 : List (List UInt8)) (y2287 : (List D_member_Out) × (List D_member_Event) × O_member_Node) (v2351 : List D_member_Event) (v2354 : Bool) : Option (Bool) := cond v2354 (some false) ((loopM (fun s4943 : Int => gemotlaw12_MemberFlush.b5 y58 y64 v921 y2287 v2351 s4943) (0 : Int)).bind (Sum.elim (fun (o4941 : Unit) => gemotlaw12_MemberFlush.k7 y2287) (fun (o4942 : Bool) => some o4942)))
noncomputable def gemotlaw12_MemberFlush.k9 (y58 : Int) (y64 : Int) (v921 : List (List UInt8)) (y1609 : (List D_member_Out) × (List D_member_Event) × O_member_Node) (v2259 : List (List UInt8)) : Option (Bool) := (member_Node_Take.f y1609.2.2 (1 : Int) ((5 : Int), ((2 : Int), (1 : Int)), ((0 : Int), (0 : Int)), (0 : Int), ([(1 : Int), (2 : Int)] : List Int), v2259)).bind fun y2287 => cond ((y2287.2.1.length : Int) != (IntKind.i64.wrap (y64 + (1 : Int)))) (gemotlaw12_MemberFlush.k8 y58 y64 v921 y2287 y2287.2.1 (cond ((y2287.2.1.length : Int) != (IntKind.i64.wrap (y64 + (1 : Int)))) true ((0 : Int) != (2 : Int)))) ((idxL y2287.2.1 y64).bind fun y2360 => gemotlaw12_MemberFlush.k8 y58 y64 v921 y2287 y2287.2.1 (cond ((y2287.2.1.length : Int) != (IntKind.i64.wrap (y64 + (1 : Int)))) true (y2360.1 != (2 : Int))))
noncomputable def gemotlaw12_MemberFlush.k10 (y58 : Int) (y64 : Int) (v921 : List (List UInt8)) (y1609 : (List D_member_Out) × (List D_member_Event) × O_member_Node) (v2084 : Bool) : Option (Bool) := cond v2084 (some false) (cond (decide ((IntKind.i64.wrap (y58 + y64)) > (0 : Int))) ((cut_Parts.f ([(((1 : Int), (1 : Int)), (1 : Int), v921)] : List D_cut_Part)).bind fun y2269 => gemotlaw12_MemberFlush.k9 y58 y64 v921 y1609 y2269.1) (gemotlaw12_MemberFlush.k9 y58 y64 v921 y1609 ([] : List (List UInt8))))
noncomputable def gemotlaw12_MemberFlush.k11 (y58 : Int) (y64 : Int) (v918 : O_member_Node) (v921 : List (List UInt8)) : Option (Bool) := (member_Node_Take.f v918 (1 : Int) ((3 : Int), ((2 : Int), (1 : Int)), ((0 : Int), (0 : Int)), (0 : Int), ([(1 : Int), (2 : Int)] : List Int), ([] : List (List UInt8)))).bind fun y1577 => (member_Node_Cast.f y1577.2.2 [103]).bind fun y1591 => (member_Node_Take.f y1591.2.2.2 (1 : Int) ((6 : Int), ((1 : Int), (1 : Int)), ((0 : Int), (0 : Int)), (IntKind.i64.wrap (y58 + (1 : Int))), ([] : List Int), ([[103]] : List (List UInt8)))).bind fun y1609 => cond ((y1577.1.length : Int) != (1 : Int)) (gemotlaw12_MemberFlush.k10 y58 y64 v921 y1609 (cond (cond (cond (cond (cond ((y1577.1.length : Int) != (1 : Int)) true ((0 : Int) != (4 : Int))) true false) true (y1591.2.2.1 != (9 : Int))) true ((y1609.2.1.length : Int) != (0 : Int))) true (!false))) ((idxL y1577.1 (0 : Int)).bind fun y2198 => cond (y2198.2.1 != (4 : Int)) (gemotlaw12_MemberFlush.k10 y58 y64 v921 y1609 (cond (cond (cond (cond (cond ((y1577.1.length : Int) != (1 : Int)) true (y2198.2.1 != (4 : Int))) true false) true (y1591.2.2.1 != (9 : Int))) true ((y1609.2.1.length : Int) != (0 : Int))) true (!false))) ((idxL y1577.1 (0 : Int)).bind fun y2216 => cond (cond (cond (cond (cond ((y1577.1.length : Int) != (1 : Int)) true (y2198.2.1 != (4 : Int))) true (!((y2216.2.2.2.1.1 == (1 : Int)) && (y2216.2.2.2.1.2 == (1 : Int))))) true (y1591.2.2.1 != (9 : Int))) true ((y1609.2.1.length : Int) != (0 : Int))) (gemotlaw12_MemberFlush.k10 y58 y64 v921 y1609 (cond (cond (cond (cond (cond ((y1577.1.length : Int) != (1 : Int)) true (y2198.2.1 != (4 : Int))) true (!((y2216.2.2.2.1.1 == (1 : Int)) && (y2216.2.2.2.1.2 == (1 : Int))))) true (y1591.2.2.1 != (9 : Int))) true ((y1609.2.1.length : Int) != (0 : Int))) true (!false))) ((member_Node_Flushing.f y1609.2.2).bind fun y2234 => gemotlaw12_MemberFlush.k10 y58 y64 v921 y1609 (cond (cond (cond (cond (cond ((y1577.1.length : Int) != (1 : Int)) true (y2198.2.1 != (4 : Int))) true (!((y2216.2.2.2.1.1 == (1 : Int)) && (y2216.2.2.2.1.2 == (1 : Int))))) true (y1591.2.2.1 != (9 : Int))) true ((y1609.2.1.length : Int) != (0 : Int))) true (!y2234)))))
noncomputable def gemotlaw12_MemberFlush.k12 (y44 : (List D_member_Out) × (List D_member_Event) × O_member_Node) (y58 : Int) (y64 : Int) (v170 : List (List UInt8)) : Option (Bool) := (loopM (fun s1414 : O_member_Node × (List (List UInt8)) × Int => gemotlaw12_MemberFlush.b3 y58 y64 s1414.1 s1414.2.1 s1414.2.2) (y44.2.2, v170, (0 : Int))).bind (Sum.elim (fun (o1411 : O_member_Node × (List (List UInt8))) => gemotlaw12_MemberFlush.k11 y58 y64 o1411.1 o1411.2) (fun (o1412 : Bool) => some o1412))
noncomputable def gemotlaw12_MemberFlush.f (x0 : Int) (x1 : Int) : Option (Bool) := (gemotlaw12_shown.f).bind fun y1 => (member_New.f (2 : Int)).bind fun y7 => cond (cond (!y1) true (y7.1.isNone)) (some false) ((y7.1).bind fun y24 => (member_Node_Take.f y24 (1 : Int) ((3 : Int), ((1 : Int), (1 : Int)), ((0 : Int), (0 : Int)), (0 : Int), ([(1 : Int), (2 : Int)] : List Int), ([] : List (List UInt8)))).bind fun y26 => (member_Node_Take.f y26.2.2 (1 : Int) ((5 : Int), ((1 : Int), (1 : Int)), ((0 : Int), (0 : Int)), (0 : Int), ([(1 : Int), (2 : Int)] : List Int), ([] : List (List UInt8)))).bind fun y44 => (gemotlaw12_pick.f x0 (8 : Int)).bind fun y58 => (gemotlaw12_pick.f x1 (8 : Int)).bind fun y64 => (loopM (fun s255 : (List (List UInt8)) × Int => gemotlaw12_MemberFlush.b1 y44 y58 y64 s255.1 s255.2) (([] : List (List UInt8)), (0 : Int))).bind (fun (o253 : (List (List UInt8))) => gemotlaw12_MemberFlush.k12 y44 y58 y64 o253))
set_option maxHeartbeats 4000000 in
theorem gemotlaw12_MemberFlush_ok {ok : Nat → Prop} {w : World} {x0 : Int} {x1 : Int} {r : Bool} (h : gemotlaw12_MemberFlush.f x0 x1 = some r) :
    Calls Try.prog 4 #[.int .i64 x0, .int .i64 x1] w fun e w' => ∃ v, e = .returned v ∧ (v = .bool r ∧ Bel w.heap.size w w') := by
  have H : Eng.Own ok w w [] := Eng.Own.nil ok w
  unfold gemotlaw12_MemberFlush.f at h
  refine enterN (args := [.int .i64 x0, .int .i64 x1]) Try.func4 rfl Try.ntmps4 rfl rfl ?_
  refine nc_seq ?_
  refine nc ?_
  refine nc_seq ?_
  refine nc ?_
  obtain ⟨y1, hy2, h⟩ := bindS h
  refine call_rule (by kernel_rfl) (gemotlaw12_shown_ok (ok := fun _ => False) hy2) fun v4 w3 ⟨hv5, hb6⟩ => ?_
  subst hv5
  replace H := H.call hb6
  refine nc_seq ?_
  refine nc ?_
  obtain ⟨y7, hy8, h⟩ := bindS h
  refine call_rule (by kernel_rfl) (member_New_ok H hy8) fun v13 w12 ⟨g9, a10, hv14, H⟩ => ?_
  subst hv14
  refine nc_seq ?_
  refine nc_seq ?_
  refine nc ?_
  refine eqlO_rule (by kernel_rfl) ?_
  refine nc_cond rfl (fun hc15 => ?_) (fun hc15 => ?_)
  · replace h := condT hc15 h
    refine nc_seq ?_
    refine nc ?_
    refine nc ?_
    replace h := Option.some.inj h
    subst h
    exact ret_inA [.bool false] ⟨_, rfl, ⟨rfl, H.frame⟩⟩
  · replace h := condF hc15 h
    refine nc ?_
    refine nc_seq ?_
    refine nc ?_
    refine own_alloc (z := .agg #[.int .i64 0, .int .i64 0]) H (by kernel_rfl) [.int .i64 0, .int .i64 0] rfl fun g17 w18 H => ?_
    refine own_storeB (m := 2) H 0 rfl (by kernel_rfl) [.int .i64 1, .int .i64 1] rfl rfl rfl rfl fun w19 H => ?_
    refine nc_seq ?_
    refine nc ?_
    refine own_loadA (m := 2) H 0 rfl (by kernel_rfl) (by kernel_rfl) [.int .i64 1, .int .i64 1] rfl rfl ?_
    refine own_buildSlice (e := 3) (sz := 1) (z := .int .i64 0) (cs := [.int .i64 1, .int .i64 2]) H (by kernel_rfl) (by kernel_rfl) (by kernel_rfl) rfl rfl rfl rfl fun g21 w22 H => ?_
    replace H := H.blkSl (k := (tInt .i64)) [(1 : Int), (2 : Int)] 2 rfl rfl (by decide) ⟨_, _, rfl, rfl, ⟨_, _, rfl, rfl, rfl⟩⟩
    obtain ⟨y24, hy25, h⟩ := bindS h
    replace H := H.someAt 2 rfl hy25
    try rw [hy25]
    replace H := H.pickL [2, 0, 1] rfl
    try dsimp only [lastL, pickI, List.drop, List.take, List.set, List.eraseIdx, List.getElem?_cons_zero, List.getElem?_cons_succ, List.cons_append, List.nil_append, List.map] at H
    obtain ⟨y26, hy27, h⟩ := bindS h
    refine call_rule (by kernel_rfl) (member_Node_Take_ok (x0 := y24) (x2 := ((3 : Int), ((1 : Int), (1 : Int)), ((0 : Int), (0 : Int)), (0 : Int), ([(1 : Int), (2 : Int)] : List Int), ([] : List (List UInt8)))) H (H.dat 1 rfl) nilR hy27) fun v38 w37 ⟨A28, c29, cs30, A32, c33, cs34, a36, hv39, H⟩ => ?_
    subst hv39
    refine nc_seq ?_
    refine nc ?_
    refine own_loadA (m := 2) H 6 rfl (by kernel_rfl) (by kernel_rfl) [.int .i64 1, .int .i64 1] rfl rfl ?_
    refine own_buildSlice (e := 3) (sz := 1) (z := .int .i64 0) (cs := [.int .i64 1, .int .i64 2]) H (by kernel_rfl) (by kernel_rfl) (by kernel_rfl) rfl rfl rfl rfl fun g41 w42 H => ?_
    replace H := H.blkSl (k := (tInt .i64)) [(1 : Int), (2 : Int)] 2 rfl rfl (by decide) ⟨_, _, rfl, rfl, ⟨_, _, rfl, rfl, rfl⟩⟩
    replace H := H.pickL [5, 0, 1, 2, 3, 4, 6, 7] rfl
    try dsimp only [lastL, pickI, List.drop, List.take, List.set, List.eraseIdx, List.getElem?_cons_zero, List.getElem?_cons_succ, List.cons_append, List.nil_append, List.map] at H
    obtain ⟨y44, hy45, h⟩ := bindS h
    refine call_rule (by kernel_rfl) (member_Node_Take_ok (x0 := y26.2.2) (x2 := ((5 : Int), ((1 : Int), (1 : Int)), ((0 : Int), (0 : Int)), (0 : Int), ([(1 : Int), (2 : Int)] : List Int), ([] : List (List UInt8)))) H (H.dat 1 rfl) nilR hy45) fun v56 w55 ⟨A46, c47, cs48, A50, c51, cs52, a54, hv57, H⟩ => ?_
    subst hv57
    refine nc_seq ?_
    refine nc ?_
    obtain ⟨y58, hy59, h⟩ := bindS h
    refine call_rule (by kernel_rfl) (gemotlaw12_pick_ok (ok := fun _ => False) hy59) fun v61 w60 ⟨hv62, hb63⟩ => ?_
    subst hv62
    replace H := H.call hb63
    refine nc_seq ?_
    refine nc ?_
    obtain ⟨y64, hy65, h⟩ := bindS h
    refine call_rule (by kernel_rfl) (gemotlaw12_pick_ok (ok := fun _ => False) hy65) fun v67 w66 ⟨hv68, hb69⟩ => ?_
    subst hv68
    replace H := H.call hb69
    refine nc_seq ?_
    refine nc ?_
    refine nc_cut (fun e w174 => ∃ (A171 : Option Addr) (c172 : Nat) (cs173 : List Value) (v170 : List (List UInt8)), gemotlaw12_MemberFlush.k12 y44 y58 y64 v170 = some r ∧ e = [(6, .pointer (some ⟨g9, 0, none⟩)), (8, .pointer (some ⟨g17, 0, none⟩)), (9, .int .i64 y58), (10, .int .i64 y64), (11, .slice A171 v170.length c172)] ∧ Eng.Own ok w w174 [box (oL_member_Node g9 a54 y44.2.2), .blk g17 [.int .i64 1, .int .i64 1] 34, .dat (dRows tStr v170 cs173), .row (.slice A171 v170.length c172) 45 1 v170.length cs173]) ?_ ?_
    · skip
      refine nc_seq ?_
      refine nc ?_
      refine nc_block ?_
      replace H := H.nilRowD tStr 45
      obtain ⟨o245, hL246, hO247⟩ := bindS h
      obtain ⟨n248, hL246⟩ := loopS hL246
      refine nc ?_
      refine loop_ruleA (fun k e w252 => ∃ (A196 : Option Addr) (c197 : Nat) (cs198 : List Value) (v195 : List (List UInt8)) (v199 : Int), iterM (fun s255 : (List (List UInt8)) × Int => gemotlaw12_MemberFlush.b1 y44 y58 y64 s255.1 s255.2) k (v195, v199) = some o245 ∧ e = [(6, .pointer (some ⟨g9, 0, none⟩)), (8, .pointer (some ⟨g17, 0, none⟩)), (9, .int .i64 y58), (10, .int .i64 y64), (11, .slice A196 v195.length c197), (12, .int .i64 v199)] ∧ Eng.Own ok w w252 [box (oL_member_Node g9 a54 y44.2.2), .blk g17 [.int .i64 1, .int .i64 1] 34, .dat (dRows tStr v195 cs198), .row (.slice A196 v195.length c197) 45 1 v195.length cs198]) ⟨none, 0, [], _, _, hL246, rfl, H.pickL [6, 13, 0, 1] rfl⟩ ?_
      rintro k257 _ w256 ⟨A196, c197, cs198, v195, v199, hL246, rfl, H⟩
      obtain ⟨k251, rfl, q249, h, hq250⟩ := iterS hL246
      replace h : gemotlaw12_MemberFlush.b1 y44 y58 y64 v195 v199 = some q249 := h
      unfold gemotlaw12_MemberFlush.b1 at h
      refine nc_seq ?_
      refine nc_seq ?_
      refine nc ?_
      refine nc_cond rfl (fun hc258 => ?_) (fun hc258 => ?_)
      · replace h := condT hc258 h
        refine nc ?_
        refine nc_seq ?_
        refine nc_block ?_
        refine nc ?_
        obtain ⟨y259, hy260, h⟩ := bindS h
        refine call_rule (by kernel_rfl) (term_Number_ok hy260) fun v262 w261 ⟨hv263, hb264⟩ => ?_
        subst hv263
        replace H := H.call hb264
        refine own_buildSlice (e := 45) (sz := 1) (z := .string ⟨#[]⟩) (cs := [.string (bs y259)]) H (by kernel_rfl) (by kernel_rfl) (by kernel_rfl) rfl rfl rfl rfl fun g266 w267 H => ?_
        obtain ⟨hr268, h⟩ := roomS h
        refine own_append1 (k := tStr) (z := .string ⟨#[]⟩) (x := y259) 16 H 3 2 rfl rfl rfl rfl (by kernel_rfl) (by kernel_rfl) rfl rfl hr268 rfl fun z269 cs270 w271 H => ?_
        obtain ⟨A272, c273, rfl, _, _⟩ := H.rowSl 3 rfl
        refine nc ?_
        cases h
        exact again_inA ⟨A272, c273, cs270, _, _, hq250, rfl, H.pickL [0, 1, 2, 3] rfl⟩
      · replace h := condF hc258 h
        refine nc ?_
        cases h
        replace hq250 : v195 = o245 := hq250
        subst hq250
        have h := hO247
        try dsimp only [Sum.elim_inl, Sum.elim_inr] at h
        exact cut_inA ⟨A196, c197, cs198, _, h, rfl, H.pickL [0, 1, 2, 3] rfl⟩
    · rintro _ w275 ⟨A171, c172, cs173, v170, h, rfl, H⟩
      unfold gemotlaw12_MemberFlush.k12 at h
      refine nc_cut (fun e w924 => ∃ (a919 : A_member_Node) (A922 : Option Addr) (c923 : Nat) (v918 : O_member_Node) (v921 : List (List UInt8)), gemotlaw12_MemberFlush.k11 y58 y64 v918 v921 = some r ∧ e = [(6, .pointer (some ⟨g9, 0, none⟩)), (8, .pointer (some ⟨g17, 0, none⟩)), (9, .int .i64 y58), (10, .int .i64 y64), (11, .slice A922 v921.length c923)] ∧ Eng.Own ok w w924 [box (oL_member_Node g9 a919 v918), .blk g17 [.int .i64 1, .int .i64 1] 34, .dat (dSl tStr (.slice A922 v921.length c923) v921)]) ?_ ?_
      · skip
        refine nc_seq ?_
        refine nc ?_
        refine nc_block ?_
        replace H := H.freeze (k := tStr) 3 2 rfl rfl
        obtain ⟨o1403, hL1404, hO1405⟩ := bindS h
        obtain ⟨n1406, hL1404⟩ := loopS hL1404
        refine nc ?_
        refine loop_ruleA (fun k e w1410 => ∃ (a1082 : A_member_Node) (A1085 : Option Addr) (c1086 : Nat) (v1081 : O_member_Node) (v1084 : List (List UInt8)) (v1087 : Int), iterM (fun s1414 : O_member_Node × (List (List UInt8)) × Int => gemotlaw12_MemberFlush.b3 y58 y64 s1414.1 s1414.2.1 s1414.2.2) k (v1081, v1084, v1087) = some o1403 ∧ e = [(6, .pointer (some ⟨g9, 0, none⟩)), (8, .pointer (some ⟨g17, 0, none⟩)), (9, .int .i64 y58), (10, .int .i64 y64), (11, .slice A1085 v1084.length c1086), (13, .int .i64 v1087)] ∧ Eng.Own ok w w1410 [box (oL_member_Node g9 a1082 v1081), .blk g17 [.int .i64 1, .int .i64 1] 34, .dat (dSl tStr (.slice A1085 v1084.length c1086) v1084)]) ⟨a54, A171, c172, _, _, _, hL1404, rfl, H.pickL [0, 1, 3] rfl⟩ ?_
        rintro k1416 _ w1415 ⟨a1082, A1085, c1086, v1081, v1084, v1087, hL1404, rfl, H⟩
        obtain ⟨k1409, rfl, q1407, h, hq1408⟩ := iterS hL1404
        replace h : gemotlaw12_MemberFlush.b3 y58 y64 v1081 v1084 v1087 = some q1407 := h
        unfold gemotlaw12_MemberFlush.b3 at h
        refine nc_seq ?_
        refine nc_seq ?_
        refine nc ?_
        refine nc_cond rfl (fun hc1417 => ?_) (fun hc1417 => ?_)
        · replace h := condT hc1417 h
          refine nc ?_
          refine nc_seq ?_
          refine nc_block ?_
          refine nc_seq ?_
          obtain ⟨y1516, hx1517, h⟩ := bindS h
          obtain ⟨A1518, c1519, hp1520, H⟩ := H.pieceD 2 rfl hx1517
          have hn1522 := H.slLen 3 rfl
          obtain ⟨y1523, hy1524, h⟩ := bindS h
          try dsimp only [lastL, pickI, List.drop, List.take, List.set, List.eraseIdx, List.getElem?_cons_zero, List.getElem?_cons_succ, List.cons_append, List.nil_append, List.map] at H
          refine nc ?_
          refine draw_rule [] (by kernel_rfl) (by kernel_rfl) H ?_
          refine c_loadA (m := 2) 2 rfl (by kernel_rfl) (by kernel_rfl) [.int .i64 1, .int .i64 1] rfl rfl ?_
          refine c_pieceI (e := 45) 1 v1087 (IntKind.i64.wrap (v1087 + (1 : Int))) (by kernel_rfl) (by kernel_rfl) ⟨_, rfl⟩ ⟨_, rfl⟩ hx1517 hn1522 hp1520 ?_
          refine c_callM [1, 0, 2, 3] 1 (fun v X => ∃ A1525, ∃ c1526, ∃ cs1527, ∃ A1529, ∃ c1530, ∃ cs1531, ∃ a1533, v = .tuple #[.slice A1525 y1523.1.length c1526, .slice A1529 y1523.2.1.length c1530] ∧ X = [.dat (dRows t_member_Out y1523.1 cs1527), .dat (dSl t_member_Out (.slice A1525 y1523.1.length c1526) y1523.1), .dat (dRows t_member_Event y1523.2.1 cs1531), .dat (dSl t_member_Event (.slice A1529 y1523.2.1.length c1530) y1523.2.1), box (oL_member_Node g9 a1533 y1523.2.2)]) rfl (by kernel_rfl) (by kernel_rfl) rfl (fun _ H => Calls.mono (member_Node_Take_ok (x0 := v1081) (x2 := ((6 : Int), ((1 : Int), (1 : Int)), ((0 : Int), (0 : Int)), (IntKind.i64.wrap (v1087 + (1 : Int))), ([] : List Int), y1516)) H nilR (H.dat 1 rfl) hy1524) fun e w' ⟨v, he, A1525, c1526, cs1527, A1529, c1530, cs1531, a1533, hv, H⟩ => ⟨v, he, _, ⟨A1525, c1526, cs1527, A1529, c1530, cs1531, a1533, hv, rfl⟩, ((H.freeze (k := t_member_Out) 1 0 rfl rfl).freeze (k := t_member_Event) 3 2 rfl rfl)⟩) ?_
          rintro v1536 X1537 ⟨A1525, c1526, cs1527, A1529, c1530, cs1531, a1533, rfl, rfl⟩
          dsimp only [subLb, lastL, pickI, List.drop, List.take, List.set, List.eraseIdx, List.getElem?_cons_zero, List.getElem?_cons_succ, List.cons_append, List.nil_append, List.map]
          intro w1538 H
          dsimp only [lastL, pickI, List.drop, List.take, List.set, List.eraseIdx, List.getElem?_cons_zero, List.getElem?_cons_succ, List.cons_append, List.nil_append, List.map] at H
          refine nc_cut (fun e w1552 => ∃ (v1551 : Bool), gemotlaw12_MemberFlush.k2 y58 y64 v1084 v1087 y1523 v1551 = some q1407 ∧ e = [(6, .pointer (some ⟨g9, 0, none⟩)), (8, .pointer (some ⟨g17, 0, none⟩)), (9, .int .i64 y58), (10, .int .i64 y64), (11, .slice A1085 v1084.length c1086), (13, .int .i64 v1087), (97, .bool v1551)] ∧ Eng.Own ok w w1552 [box (oL_member_Node g9 a1533 y1523.2.2), .blk g17 [.int .i64 1, .int .i64 1] 34, .dat (dSl tStr (.slice A1085 v1084.length c1086) v1084)]) ?_ ?_
          · skip
            refine nc ?_
            rcases Bool.eq_false_or_eq_true ((y1523.2.1.length : Int) != (1 : Int)) with hg1554 | hg1554
            · replace h := condT hg1554 h
              refine skipIA (.pointer (some ⟨0, 0, none⟩)) (gF0 hg1554) ?_
              refine skipLD (.int .i64 0) (gF0 hg1554) ?_
              exact cut_inA ⟨_, h, rfl, H.pickL [4, 6, 7] rfl⟩
            · replace h := condF hg1554 h
              obtain ⟨y1555, hx1556, h⟩ := bindS h
              obtain ⟨a1557, cs1558, rfl, hR1559, H⟩ := H.elemI 3 rfl hx1556
              obtain ⟨u1561, rfl, hu1562⟩ := member_Event_cells hR1559
              obtain ⟨A1563, c1564, rfl, H⟩ := H.openD hu1562
              refine idxA_rule (e := 51) 7 _ (by kernel_rfl) (by kernel_rfl) (idxL_some hx1556).1 (idxL_some hx1556).2.1 ?_
              refine own_loadD H 1 rfl 5 (by kernel_rfl) rfl ?_
              exact cut_inA ⟨_, h, rfl, H.pickL [6, 8, 9] rfl⟩
          · rintro _ w1566 ⟨v1551, h, rfl, H⟩
            unfold gemotlaw12_MemberFlush.k2 at h
            refine nc_cond rfl (fun hc1567 => ?_) (fun hc1567 => ?_)
            · replace h := condT hc1567 h
              refine nc_seq ?_
              refine nc ?_
              refine nc ?_
              cases h
              replace hq1408 : (Sum.inr false) = o1403 := hq1408
              subst hq1408
              have h := hO1405
              try dsimp only [Sum.elim_inl, Sum.elim_inr] at h
              replace h := Option.some.inj h
              subst h
              exact ret_inA [.bool false] ⟨_, rfl, ⟨rfl, H.frame⟩⟩
            · replace h := condF hc1567 h
              refine nc ?_
              refine nc ?_
              cases h
              exact again_inA ⟨a1533, A1085, c1086, _, _, _, hq1408, rfl, H.pickL [0, 1, 2] rfl⟩
        · replace h := condF hc1417 h
          refine nc ?_
          cases h
          replace hq1408 : (Sum.inl (v1081, v1084)) = o1403 := hq1408
          subst hq1408
          have h := hO1405
          try dsimp only [Sum.elim_inl, Sum.elim_inr] at h
          exact cut_inA ⟨a1082, A1085, c1086, _, _, h, rfl, H.pickL [0, 1, 2] rfl⟩
      · rintro _ w1568 ⟨a919, A922, c923, v918, v921, h, rfl, H⟩
        unfold gemotlaw12_MemberFlush.k11 at h
        refine nc_seq ?_
        refine nc ?_
        refine own_alloc (z := .agg #[.int .i64 0, .int .i64 0]) H (by kernel_rfl) [.int .i64 0, .int .i64 0] rfl fun g1570 w1571 H => ?_
        refine own_storeB (m := 2) H 0 rfl (by kernel_rfl) [.int .i64 2, .int .i64 1] rfl rfl rfl rfl fun w1572 H => ?_
        refine nc_seq ?_
        refine nc ?_
        refine own_loadA (m := 2) H 0 rfl (by kernel_rfl) (by kernel_rfl) [.int .i64 2, .int .i64 1] rfl rfl ?_
        refine own_buildSlice (e := 3) (sz := 1) (z := .int .i64 0) (cs := [.int .i64 1, .int .i64 2]) H (by kernel_rfl) (by kernel_rfl) (by kernel_rfl) rfl rfl rfl rfl fun g1574 w1575 H => ?_
        replace H := H.blkSl (k := (tInt .i64)) [(1 : Int), (2 : Int)] 2 rfl rfl (by decide) ⟨_, _, rfl, rfl, ⟨_, _, rfl, rfl, rfl⟩⟩
        replace H := H.pickL [2, 0, 1, 3, 4] rfl
        try dsimp only [lastL, pickI, List.drop, List.take, List.set, List.eraseIdx, List.getElem?_cons_zero, List.getElem?_cons_succ, List.cons_append, List.nil_append, List.map] at H
        obtain ⟨y1577, hy1578, h⟩ := bindS h
        refine call_rule (by kernel_rfl) (member_Node_Take_ok (x0 := v918) (x2 := ((3 : Int), ((2 : Int), (1 : Int)), ((0 : Int), (0 : Int)), (0 : Int), ([(1 : Int), (2 : Int)] : List Int), ([] : List (List UInt8)))) H (H.dat 1 rfl) nilR hy1578) fun v1589 w1588 ⟨A1579, c1580, cs1581, A1583, c1584, cs1585, a1587, hv1590, H⟩ => ?_
        subst hv1590
        refine nc_seq ?_
        refine nc ?_
        replace H := H.pickL [4, 0, 1, 2, 3, 5, 6, 7, 8] rfl
        try dsimp only [lastL, pickI, List.drop, List.take, List.set, List.eraseIdx, List.getElem?_cons_zero, List.getElem?_cons_succ, List.cons_append, List.nil_append, List.map] at H
        obtain ⟨y1591, hy1592, h⟩ := bindS h
        refine call_rule (by kernel_rfl) (member_Node_Cast_ok (x0 := y1577.2.2) H hy1592) fun v1603 w1602 ⟨A1593, c1594, cs1595, A1597, c1598, cs1599, a1601, hv1604, H⟩ => ?_
        subst hv1604
        refine nc_seq ?_
        refine nc ?_
        refine own_loadA (m := 2) H 11 rfl (by kernel_rfl) (by kernel_rfl) [.int .i64 1, .int .i64 1] rfl rfl ?_
        refine own_buildSlice (e := 45) (sz := 1) (z := .string ⟨#[]⟩) (cs := [.string (bs [103])]) H (by kernel_rfl) (by kernel_rfl) (by kernel_rfl) rfl rfl rfl rfl fun g1606 w1607 H => ?_
        replace H := H.blkSl (k := tStr) [[103]] 1 rfl rfl (by decide) ⟨_, _, rfl, rfl, rfl⟩
        replace H := H.pickL [5, 0, 1, 2, 3, 4, 6, 7, 8, 9, 10, 11, 12, 13] rfl
        try dsimp only [lastL, pickI, List.drop, List.take, List.set, List.eraseIdx, List.getElem?_cons_zero, List.getElem?_cons_succ, List.cons_append, List.nil_append, List.map] at H
        obtain ⟨y1609, hy1610, h⟩ := bindS h
        refine call_rule (by kernel_rfl) (member_Node_Take_ok (x0 := y1591.2.2.2) (x2 := ((6 : Int), ((1 : Int), (1 : Int)), ((0 : Int), (0 : Int)), (IntKind.i64.wrap (y58 + (1 : Int))), ([] : List Int), ([[103]] : List (List UInt8)))) H nilR (H.dat 1 rfl) hy1610) fun v1621 w1620 ⟨A1611, c1612, cs1613, A1615, c1616, cs1617, a1619, hv1622, H⟩ => ?_
        subst hv1622
        refine nc_seq ?_
        refine nc_cut (fun e w2085 => ∃ (v2084 : Bool), gemotlaw12_MemberFlush.k10 y58 y64 v921 y1609 v2084 = some r ∧ e = [(6, .pointer (some ⟨g9, 0, none⟩)), (8, .pointer (some ⟨g17, 0, none⟩)), (9, .int .i64 y58), (10, .int .i64 y64), (11, .slice A922 v921.length c923), (16, .pointer (some ⟨g1570, 0, none⟩)), (156, .bool v2084)] ∧ Eng.Own ok w w2085 [box (oL_member_Node g9 a1619 y1609.2.2), .blk g17 [.int .i64 1, .int .i64 1] 34, .dat (dSl tStr (.slice A922 v921.length c923) v921), .blk g1570 [.int .i64 2, .int .i64 1] 34]) ?_ ?_
        · skip
          obtain ⟨A2126, c2127, b2128, al2129, A2130, c2131, g2132, a2133, A2134, c2135, cs2136, A2137, c2138, cs2139, A2140, c2141, cs2142⟩ := a1619
          replace H := H.openAs 4 (oU_member_Node g9 ⟨A2126, c2127, b2128, al2129, A2130, c2131, g2132, a2133, A2134, c2135, cs2136, A2137, c2138, cs2139, A2140, c2141, cs2142⟩ y1609.2.2) rfl rfl
          try dsimp only [oU_member_Node, lastL, pickI, List.drop, List.take, List.set, List.eraseIdx, List.getElem?_cons_zero, List.getElem?_cons_succ, List.cons_append, List.nil_append, List.map] at H
          rcases Bool.eq_false_or_eq_true ((y1577.1.length : Int) != (1 : Int)) with hg2195 | hg2195
          · replace h := condT hg2195 h
            refine nc ?_
            refine draw_rule [] (by kernel_rfl) (by kernel_rfl) H ?_
            refine c_skipIA (.pointer (some ⟨0, 0, none⟩)) (gF0 hg2195) ?_
            refine c_skipLD (.int .i64 0) (gF0 hg2195) ?_
            refine c_skipIA (.pointer (some ⟨0, 0, none⟩)) (gF0 (pickT hg2195)) ?_
            refine c_skipLD (.agg #[.int .i64 0, .int .i64 0]) (gF0 (pickT hg2195)) ?_
            refine c_skipLD (.agg #[.int .i64 0, .int .i64 0]) (gF0 (pickT hg2195)) ?_
            refine c_skipBN (.bool false) (gF0 (pickT hg2195)) ?_
            refine c_skipCL (.bool false) (gF0 (pickT (pickT (pickT (pickT hg2195))))) ?_
            intro w2196 H
            replace H := (H.pickL [0, 1, 2, 3, 4, 5, 6, 7, 8, 9, 10, 11, 12, 13, 14, 15, 16, 17, 18, 19, 20, 21, 22, 23, 24, 25, 26, 27, 28] rfl).shutAs 12 (oL_member_Node g9 (A2126, c2127, b2128, al2129, A2130, c2131, g2132, a2133, A2134, c2135, cs2136, A2137, c2138, cs2139, A2140, c2141, cs2142) y1609.2.2) rfl
            try dsimp only [lastL, pickI, List.drop, List.take, List.set, List.eraseIdx, List.getElem?_cons_zero, List.getElem?_cons_succ, List.cons_append, List.nil_append, List.map] at H
            exact cut_inA ⟨_, h, rfl, H.pickL [0, 16, 17, 15] rfl⟩
          · replace h := condF hg2195 h
            replace H := H.freeze (k := t_member_Out) 22 21 rfl rfl
            obtain ⟨y2198, hx2199, h⟩ := bindS h
            obtain ⟨a2200, cs2201, rfl, hR2202, H⟩ := H.elemI 22 rfl hx2199
            obtain ⟨u2204, u2205, rfl, hu2206, hu2207⟩ := member_Out_cells hR2202
            obtain ⟨A2208, c2209, rfl, H⟩ := H.openD hu2206
            obtain ⟨A2211, c2212, rfl, H⟩ := H.openD hu2207
            rcases Bool.eq_false_or_eq_true (y2198.2.1 != (4 : Int)) with hg2214 | hg2214
            · replace h := condT hg2214 h
              refine nc ?_
              refine draw_rule [] (by kernel_rfl) (by kernel_rfl) H ?_
              refine c_idxA (e := 40) 9 _ (by kernel_rfl) (by kernel_rfl) (idxL_some hx2199).1 (idxL_some hx2199).2.1 ?_
              refine c_loadD 2 rfl 1 (by kernel_rfl) rfl ?_
              refine c_skipIA (.pointer (some ⟨0, 0, none⟩)) (gF0 ((pickF hg2195).trans hg2214)) ?_
              refine c_skipLD (.agg #[.int .i64 0, .int .i64 0]) (gF0 ((pickF hg2195).trans hg2214)) ?_
              refine c_skipLD (.agg #[.int .i64 0, .int .i64 0]) (gF0 ((pickF hg2195).trans hg2214)) ?_
              refine c_skipBN (.bool false) (gF0 ((pickF hg2195).trans hg2214)) ?_
              refine c_skipCL (.bool false) (gF0 (pickT (pickT (pickT ((pickF hg2195).trans hg2214))))) ?_
              intro w2215 H
              replace H := (H.pickL [3, 4, 5, 6, 7, 8, 9, 10, 11, 12, 13, 14, 0, 1, 2, 15, 16, 17, 18, 19, 20, 21, 22, 23, 25, 26, 27, 28, 29, 30, 31] rfl).shutAs 12 (oL_member_Node g9 (A2126, c2127, b2128, al2129, A2130, c2131, g2132, a2133, A2134, c2135, cs2136, A2137, c2138, cs2139, A2140, c2141, cs2142) y1609.2.2) rfl
              try dsimp only [lastL, pickI, List.drop, List.take, List.set, List.eraseIdx, List.getElem?_cons_zero, List.getElem?_cons_succ, List.cons_append, List.nil_append, List.map] at H
              exact cut_inA ⟨_, h, rfl, H.pickL [0, 18, 19, 17] rfl⟩
            · replace h := condF hg2214 h
              obtain ⟨y2216, hx2217, h⟩ := bindS h
              obtain ⟨cs2219, hR2220, H⟩ := H.elemJ 25 rfl hx2217
              obtain ⟨u2222, u2223, rfl, hu2224, hu2225⟩ := member_Out_cells hR2220
              obtain ⟨A2226, c2227, rfl, H⟩ := H.openD hu2224
              obtain ⟨A2229, c2230, rfl, H⟩ := H.openD hu2225
              rcases Bool.eq_false_or_eq_true (cond (cond (cond (cond ((y1577.1.length : Int) != (1 : Int)) true (y2198.2.1 != (4 : Int))) true (!((y2216.2.2.2.1.1 == (1 : Int)) && (y2216.2.2.2.1.2 == (1 : Int))))) true (y1591.2.2.1 != (9 : Int))) true ((y1609.2.1.length : Int) != (0 : Int))) with hg2232 | hg2232
              · replace h := condT hg2232 h
                refine nc ?_
                refine draw_rule [] (by kernel_rfl) (by kernel_rfl) H ?_
                refine c_idxA (e := 40) 9 _ (by kernel_rfl) (by kernel_rfl) (idxL_some hx2199).1 (idxL_some hx2199).2.1 ?_
                refine c_loadD 5 rfl 1 (by kernel_rfl) rfl ?_
                refine c_idxA (e := 40) 9 _ (by kernel_rfl) (by kernel_rfl) (idxL_some hx2217).1 (idxL_some hx2217).2.1 ?_
                refine c_loadDA (m := 2) (a := (a2200 : Addr).add (((0 : Int)).toNat * (t_member_Out).sz)) 2 rfl 4 (by kernel_rfl) (by kernel_rfl) [.int .i64 y2216.2.2.2.1.1, .int .i64 y2216.2.2.2.1.2] rfl rfl ?_
                refine c_loadA (m := 2) 33 rfl (by kernel_rfl) (by kernel_rfl) [.int .i64 1, .int .i64 1] rfl rfl ?_
                refine c_neq ((y2216.2.2.2.1.1 == (1 : Int)) && (y2216.2.2.2.1.2 == (1 : Int))) (fun _ => (by kernel_rfl)) (fun _ => (by kernel_rfl)) ?_
                refine c_skipCL (.bool false) (gF0 hg2232) ?_
                intro w2233 H
                replace H := (H.pickL [6, 7, 8, 9, 10, 11, 12, 13, 14, 15, 16, 17, 0, 1, 2, 3, 4, 5, 18, 19, 20, 21, 22, 23, 24, 25, 26, 28, 29, 30, 31, 32, 33, 34] rfl).shutAs 12 (oL_member_Node g9 (A2126, c2127, b2128, al2129, A2130, c2131, g2132, a2133, A2134, c2135, cs2136, A2137, c2138, cs2139, A2140, c2141, cs2142) y1609.2.2) rfl
                try dsimp only [lastL, pickI, List.drop, List.take, List.set, List.eraseIdx, List.getElem?_cons_zero, List.getElem?_cons_succ, List.cons_append, List.nil_append, List.map] at H
                exact cut_inA ⟨_, h, rfl, H.pickL [0, 21, 22, 20] rfl⟩
              · replace h := condF hg2232 h
                obtain ⟨y2234, hy2235, h⟩ := bindS h
                try dsimp only [lastL, pickI, List.drop, List.take, List.set, List.eraseIdx, List.getElem?_cons_zero, List.getElem?_cons_succ, List.cons_append, List.nil_append, List.map] at H
                refine nc ?_
                refine draw_rule [] (by kernel_rfl) (by kernel_rfl) H ?_
                refine c_idxA (e := 40) 9 _ (by kernel_rfl) (by kernel_rfl) (idxL_some hx2199).1 (idxL_some hx2199).2.1 ?_
                refine c_loadD 5 rfl 1 (by kernel_rfl) rfl ?_
                refine c_idxA (e := 40) 9 _ (by kernel_rfl) (by kernel_rfl) (idxL_some hx2217).1 (idxL_some hx2217).2.1 ?_
                refine c_loadDA (m := 2) (a := (a2200 : Addr).add (((0 : Int)).toNat * (t_member_Out).sz)) 2 rfl 4 (by kernel_rfl) (by kernel_rfl) [.int .i64 y2216.2.2.2.1.1, .int .i64 y2216.2.2.2.1.2] rfl rfl ?_
                refine c_loadA (m := 2) 33 rfl (by kernel_rfl) (by kernel_rfl) [.int .i64 1, .int .i64 1] rfl rfl ?_
                refine c_neq ((y2216.2.2.2.1.1 == (1 : Int)) && (y2216.2.2.2.1.2 == (1 : Int))) (fun _ => (by kernel_rfl)) (fun _ => (by kernel_rfl)) ?_
                refine c_callRd [6, 7, 8, 9, 10, 11, 12, 13, 14, 15, 16, 17, 0, 1, 2, 3, 4, 5, 18, 19, 20, 21, 22, 23, 24, 25, 26, 27, 28, 29, 30, 31, 32, 33, 34] 12 (oL_member_Node g9 (A2126, c2127, b2128, al2129, A2130, c2131, g2132, a2133, A2134, c2135, cs2136, A2137, c2138, cs2139, A2140, c2141, cs2142) y1609.2.2) (fun v X => v = .bool y2234 ∧ X = []) (gT0 hg2232 rfl) (by kernel_rfl) rfl rfl (fun _ H => Calls.mono (member_Node_Flushing_ok (x0 := y1609.2.2) H hy2235) fun e w' ⟨v, he, hv, H⟩ => ⟨v, he, _, ⟨hv, rfl⟩, H⟩) ?_
                rintro v2236 X2237 ⟨rfl, rfl⟩
                dsimp only [subLb, lastL, pickI, List.drop, List.take, List.set, List.eraseIdx, List.getElem?_cons_zero, List.getElem?_cons_succ, List.cons_append, List.nil_append, List.map]
                intro w2238 H
                dsimp only [lastL, pickI, List.drop, List.take, List.set, List.eraseIdx, List.getElem?_cons_zero, List.getElem?_cons_succ, List.cons_append, List.nil_append, List.map] at H
                replace H := (H.pickL [6, 7, 8, 9, 10, 11, 12, 13, 14, 15, 16, 17, 0, 1, 2, 3, 4, 5, 18, 19, 20, 21, 22, 23, 24, 25, 26, 28, 29, 30, 31, 32, 33, 34] rfl).shutAs 12 (oL_member_Node g9 (A2126, c2127, b2128, al2129, A2130, c2131, g2132, a2133, A2134, c2135, cs2136, A2137, c2138, cs2139, A2140, c2141, cs2142) y1609.2.2) rfl
                try dsimp only [lastL, pickI, List.drop, List.take, List.set, List.eraseIdx, List.getElem?_cons_zero, List.getElem?_cons_succ, List.cons_append, List.nil_append, List.map] at H
                exact cut_inA ⟨_, h, rfl, H.pickL [0, 21, 22, 20] rfl⟩
        · rintro _ w2239 ⟨v2084, h, rfl, H⟩
          unfold gemotlaw12_MemberFlush.k10 at h
          refine nc_cond rfl (fun hc2240 => ?_) (fun hc2240 => ?_)
          · replace h := condT hc2240 h
            refine nc_seq ?_
            refine nc ?_
            refine nc ?_
            replace h := Option.some.inj h
            subst h
            exact ret_inA [.bool false] ⟨_, rfl, ⟨rfl, H.frame⟩⟩
          · replace h := condF hc2240 h
            refine nc ?_
            refine nc_seq ?_
            refine nc ?_
            refine nc_cut (fun e w2262 => ∃ (A2260 : Option Addr) (c2261 : Nat) (v2259 : List (List UInt8)), gemotlaw12_MemberFlush.k9 y58 y64 v921 y1609 v2259 = some r ∧ e = [(6, .pointer (some ⟨g9, 0, none⟩)), (8, .pointer (some ⟨g17, 0, none⟩)), (9, .int .i64 y58), (10, .int .i64 y64), (11, .slice A922 v921.length c923), (16, .pointer (some ⟨g1570, 0, none⟩)), (24, .slice A2260 v2259.length c2261)] ∧ Eng.Own ok w w2262 [box (oL_member_Node g9 a1619 y1609.2.2), .blk g17 [.int .i64 1, .int .i64 1] 34, .dat (dSl tStr (.slice A922 v921.length c923) v921), .blk g1570 [.int .i64 2, .int .i64 1] 34, .dat (dSl tStr (.slice A2260 v2259.length c2261) v2259)]) ?_ ?_
            · skip
              refine nc_seq ?_
              refine nc ?_
              refine nc_cond rfl (fun hc2264 => ?_) (fun hc2264 => ?_)
              · replace h := condT hc2264 h
                refine nc ?_
                refine own_loadA (m := 2) H 1 rfl (by kernel_rfl) (by kernel_rfl) [.int .i64 1, .int .i64 1] rfl rfl ?_
                refine own_buildSlice (e := 57) (sz := 4) (z := .agg #[.int .i64 0, .int .i64 0, .int .i64 0, .slice none 0 0]) (cs := [.int .i64 1, .int .i64 1, .int .i64 1, .slice A922 v921.length c923]) H (by kernel_rfl) (by kernel_rfl) (by kernel_rfl) rfl rfl rfl rfl fun g2266 w2267 H => ?_
                replace H := H.blkSl (k := t_cut_Part) [(((1 : Int), (1 : Int)), (1 : Int), v921)] 1 rfl rfl (by decide) ⟨_, _, rfl, (cut_Part_in (x := (((1 : Int), (1 : Int)), (1 : Int), v921)) (H.dat 3 rfl)), rfl⟩
                obtain ⟨y2269, hy2270, h⟩ := bindS h
                refine call_rule (by kernel_rfl) (cut_Parts_ok (H.dat 0 rfl) hy2270) fun v2272 w2271 ⟨u2275, hv2273, hu2276, hb2274⟩ => ?_
                subst hv2273
                replace H := H.callDats hb2274 [dSl tStr u2275 y2269.1] ⟨hu2276, trivial⟩
                obtain ⟨A2277, c2278, hA2279, _⟩ := H.sl 0 rfl
                subst hA2279
                exact cut_inA ⟨A2277, c2278, _, h, rfl, H.pickL [2, 3, 4, 5, 0] rfl⟩
              · replace h := condF hc2264 h
                refine nc ?_
                replace H := H.addDat (dSl tStr (.slice none 0 0) []) nilR
                exact cut_inA ⟨none, 0, _, h, rfl, H.pickL [1, 2, 3, 4, 0] rfl⟩
            · rintro _ w2282 ⟨A2260, c2261, v2259, h, rfl, H⟩
              unfold gemotlaw12_MemberFlush.k9 at h
              refine nc_seq ?_
              refine nc ?_
              refine own_loadA (m := 2) H 3 rfl (by kernel_rfl) (by kernel_rfl) [.int .i64 2, .int .i64 1] rfl rfl ?_
              refine own_buildSlice (e := 3) (sz := 1) (z := .int .i64 0) (cs := [.int .i64 1, .int .i64 2]) H (by kernel_rfl) (by kernel_rfl) (by kernel_rfl) rfl rfl rfl rfl fun g2284 w2285 H => ?_
              replace H := H.blkSl (k := (tInt .i64)) [(1 : Int), (2 : Int)] 2 rfl rfl (by decide) ⟨_, _, rfl, rfl, ⟨_, _, rfl, rfl, rfl⟩⟩
              replace H := H.pickL [1, 0, 2, 3, 4, 5] rfl
              try dsimp only [lastL, pickI, List.drop, List.take, List.set, List.eraseIdx, List.getElem?_cons_zero, List.getElem?_cons_succ, List.cons_append, List.nil_append, List.map] at H
              obtain ⟨y2287, hy2288, h⟩ := bindS h
              refine call_rule (by kernel_rfl) (member_Node_Take_ok (x0 := y1609.2.2) (x2 := ((5 : Int), ((2 : Int), (1 : Int)), ((0 : Int), (0 : Int)), (0 : Int), ([(1 : Int), (2 : Int)] : List Int), v2259)) H (H.dat 1 rfl) (H.dat 5 rfl) hy2288) fun v2299 w2298 ⟨A2289, c2290, cs2291, A2293, c2294, cs2295, a2297, hv2300, H⟩ => ?_
              subst hv2300
              refine nc_seq ?_
              refine nc_cut (fun e w2355 => ∃ (A2352 : Option Addr) (c2353 : Nat) (v2351 : List D_member_Event) (v2354 : Bool), gemotlaw12_MemberFlush.k8 y58 y64 v921 y2287 v2351 v2354 = some r ∧ e = [(6, .pointer (some ⟨g9, 0, none⟩)), (8, .pointer (some ⟨g17, 0, none⟩)), (9, .int .i64 y58), (10, .int .i64 y64), (11, .slice A922 v921.length c923), (16, .pointer (some ⟨g1570, 0, none⟩)), (26, .slice A2352 v2351.length c2353), (190, .bool v2354)] ∧ Eng.Own ok w w2355 [box (oL_member_Node g9 a2297 y2287.2.2), .blk g17 [.int .i64 1, .int .i64 1] 34, .dat (dSl tStr (.slice A922 v921.length c923) v921), .blk g1570 [.int .i64 2, .int .i64 1] 34, .dat (dSl t_member_Event (.slice A2352 v2351.length c2353) v2351)]) ?_ ?_
              · skip
                refine nc ?_
                rcases Bool.eq_false_or_eq_true ((y2287.2.1.length : Int) != (IntKind.i64.wrap (y64 + (1 : Int)))) with hg2357 | hg2357
                · replace h := condT hg2357 h
                  refine skipIA (.pointer (some ⟨0, 0, none⟩)) (gF0 hg2357) ?_
                  refine skipLD (.int .i64 0) (gF0 hg2357) ?_
                  replace H := H.freeze (k := t_member_Event) 3 2 rfl rfl
                  exact cut_inA ⟨A2293, c2294, _, _, h, rfl, H.pickL [4, 6, 7, 8, 3] rfl⟩
                · replace h := condF hg2357 h
                  replace H := H.freeze (k := t_member_Event) 3 2 rfl rfl
                  obtain ⟨y2360, hx2361, h⟩ := bindS h
                  obtain ⟨a2362, cs2363, rfl, hR2364, H⟩ := H.elemI 3 rfl hx2361
                  obtain ⟨u2366, rfl, hu2367⟩ := member_Event_cells hR2364
                  obtain ⟨A2368, c2369, rfl, H⟩ := H.openD hu2367
                  refine idxA_rule (e := 51) 7 _ (by kernel_rfl) (by kernel_rfl) (idxL_some hx2361).1 (idxL_some hx2361).2.1 ?_
                  refine own_loadD H 1 rfl 0 (by kernel_rfl) rfl ?_
                  exact cut_inA ⟨some a2362, c2294, _, _, h, rfl, H.pickL [6, 8, 9, 10, 5] rfl⟩
              · rintro _ w2371 ⟨A2352, c2353, v2351, v2354, h, rfl, H⟩
                unfold gemotlaw12_MemberFlush.k8 at h
                refine nc_cond rfl (fun hc2372 => ?_) (fun hc2372 => ?_)
                · replace h := condT hc2372 h
                  refine nc_seq ?_
                  refine nc ?_
                  refine nc ?_
                  replace h := Option.some.inj h
                  subst h
                  exact ret_inA [.bool false] ⟨_, rfl, ⟨rfl, H.frame⟩⟩
                · replace h := condF hc2372 h
                  refine nc ?_
                  refine nc_cut (fun e w3840 => gemotlaw12_MemberFlush.k7 y2287 = some r ∧ e = [(6, .pointer (some ⟨g9, 0, none⟩)), (16, .pointer (some ⟨g1570, 0, none⟩))] ∧ Eng.Own ok w w3840 [box (oL_member_Node g9 a2297 y2287.2.2), .blk g1570 [.int .i64 2, .int .i64 1] 34]) ?_ ?_
                  · skip
                    refine nc_seq ?_
                    refine nc ?_
                    refine nc_block ?_
                    obtain ⟨o4933, hL4934, hO4935⟩ := bindS h
                    obtain ⟨n4936, hL4934⟩ := loopS hL4934
                    refine nc ?_
                    refine loop_ruleA (fun k e w4940 => ∃ (v4205 : Int), iterM (fun s4943 : Int => gemotlaw12_MemberFlush.b5 y58 y64 v921 y2287 v2351 s4943) k v4205 = some o4933 ∧ e = [(6, .pointer (some ⟨g9, 0, none⟩)), (8, .pointer (some ⟨g17, 0, none⟩)), (9, .int .i64 y58), (10, .int .i64 y64), (11, .slice A922 v921.length c923), (16, .pointer (some ⟨g1570, 0, none⟩)), (26, .slice A2352 v2351.length c2353), (27, .int .i64 v4205)] ∧ Eng.Own ok w w4940 [box (oL_member_Node g9 a2297 y2287.2.2), .blk g17 [.int .i64 1, .int .i64 1] 34, .dat (dSl tStr (.slice A922 v921.length c923) v921), .blk g1570 [.int .i64 2, .int .i64 1] 34, .dat (dSl t_member_Event (.slice A2352 v2351.length c2353) v2351)]) ⟨_, hL4934, rfl, H.pickL [0, 1, 2, 3, 4] rfl⟩ ?_
                    rintro k4945 _ w4944 ⟨v4205, hL4934, rfl, H⟩
                    obtain ⟨k4939, rfl, q4937, h, hq4938⟩ := iterS hL4934
                    replace h : gemotlaw12_MemberFlush.b5 y58 y64 v921 y2287 v2351 v4205 = some q4937 := h
                    unfold gemotlaw12_MemberFlush.b5 at h
                    refine nc_seq ?_
                    refine nc_seq ?_
                    refine nc ?_
                    refine nc_cond rfl (fun hc4946 => ?_) (fun hc4946 => ?_)
                    · replace h := condT hc4946 h
                      refine nc ?_
                      refine nc_seq ?_
                      refine nc_block ?_
                      refine nc_cut (fun e w5217 => ∃ (v5216 : Bool), gemotlaw12_MemberFlush.k4 y58 y64 v921 y2287 v2351 v4205 v5216 = some q4937 ∧ e = [(6, .pointer (some ⟨g9, 0, none⟩)), (8, .pointer (some ⟨g17, 0, none⟩)), (9, .int .i64 y58), (10, .int .i64 y64), (11, .slice A922 v921.length c923), (16, .pointer (some ⟨g1570, 0, none⟩)), (26, .slice A2352 v2351.length c2353), (27, .int .i64 v4205), (229, .bool v5216)] ∧ Eng.Own ok w w5217 [box (oL_member_Node g9 a2297 y2287.2.2), .blk g17 [.int .i64 1, .int .i64 1] 34, .dat (dSl tStr (.slice A922 v921.length c923) v921), .blk g1570 [.int .i64 2, .int .i64 1] 34, .dat (dSl t_member_Event (.slice A2352 v2351.length c2353) v2351)]) ?_ ?_
                      · skip
                        obtain ⟨y5263, hx5264, h⟩ := bindS h
                        obtain ⟨a5265, cs5266, rfl, hR5267, H⟩ := H.elemI 4 rfl hx5264
                        obtain ⟨u5269, rfl, hu5270⟩ := member_Event_cells hR5267
                        obtain ⟨A5271, c5272, rfl, H⟩ := H.openD hu5270
                        rcases Bool.eq_false_or_eq_true (y5263.2.2.2.1 != (IntKind.i64.wrap ((IntKind.i64.wrap (y58 + v4205)) + (1 : Int)))) with hg5274 | hg5274
                        · replace h := condT hg5274 h
                          refine nc ?_
                          refine draw_rule [] (by kernel_rfl) (by kernel_rfl) H ?_
                          refine c_idxA (e := 51) 7 _ (by kernel_rfl) (by kernel_rfl) (idxL_some hx5264).1 (idxL_some hx5264).2.1 ?_
                          refine c_loadD (a := (a5265 : Addr).add ((v4205).toNat * (t_member_Event).sz)) 1 rfl 5 (by kernel_rfl) rfl ?_
                          refine c_skipIA (.pointer (some ⟨0, 0, none⟩)) (gF0 hg5274) ?_
                          refine c_skipLD (.string (bs ([] : List UInt8))) (gF0 hg5274) ?_
                          refine c_skipIA (.pointer (some ⟨0, 0, none⟩)) (gF0 hg5274) ?_
                          refine c_skipLD (.string (bs ([] : List UInt8))) (gF0 hg5274) ?_
                          refine c_skipIA (.pointer (some ⟨0, 0, none⟩)) (gF0 (pickT hg5274)) ?_
                          refine c_skipLD (.agg #[.int .i64 0, .int .i64 0]) (gF0 (pickT hg5274)) ?_
                          refine c_skipLD (.agg #[.int .i64 0, .int .i64 0]) (gF0 (pickT hg5274)) ?_
                          refine c_skipBN (.bool false) (gF0 (pickT hg5274)) ?_
                          intro w5275 H
                          exact cut_inA ⟨_, h, rfl, H.pickL [2, 3, 4, 5, 6] rfl⟩
                        · replace h := condF hg5274 h
                          obtain ⟨y5276, hx5277, h⟩ := bindS h
                          obtain ⟨cs5279, hR5280, H⟩ := H.elemJ 6 rfl hx5277
                          obtain ⟨u5282, rfl, hu5283⟩ := member_Event_cells hR5280
                          obtain ⟨A5284, c5285, rfl, H⟩ := H.openD hu5283
                          obtain ⟨y5287, hx5288, h⟩ := bindS h
                          obtain ⟨a5289, cs5290, rfl, hR5291, H⟩ := H.elemI 6 rfl hx5288
                          obtain rfl : cs5290 = [.string (bs y5287)] := hR5291
                          rcases Bool.eq_false_or_eq_true (!(strEq y5276.2.2.2.2 y5287)) with hg5293 | hg5293
                          · replace h := condT hg5293 h
                            refine nc ?_
                            refine draw_rule [] (by kernel_rfl) (by kernel_rfl) H ?_
                            refine c_idxA (e := 51) 7 _ (by kernel_rfl) (by kernel_rfl) (idxL_some hx5264).1 (idxL_some hx5264).2.1 ?_
                            refine c_loadD (a := (a5265 : Addr).add ((v4205).toNat * (t_member_Event).sz)) 4 rfl 5 (by kernel_rfl) rfl ?_
                            refine c_idxA (e := 51) 7 _ (by kernel_rfl) (by kernel_rfl) (idxL_some hx5277).1 (idxL_some hx5277).2.1 ?_
                            refine c_loadD (a := (a5265 : Addr).add ((v4205).toNat * (t_member_Event).sz)) 2 rfl 6 (by kernel_rfl) rfl ?_
                            refine c_idxA (e := 45) 1 _ (by kernel_rfl) (by kernel_rfl) (idxL_some hx5288).1 (idxL_some hx5288).2.1 ?_
                            refine c_loadD 0 rfl 0 (by kernel_rfl) rfl ?_
                            refine c_skipIA (.pointer (some ⟨0, 0, none⟩)) (gF0 ((pickF hg5274).trans hg5293)) ?_
                            refine c_skipLD (.agg #[.int .i64 0, .int .i64 0]) (gF0 ((pickF hg5274).trans hg5293)) ?_
                            refine c_skipLD (.agg #[.int .i64 0, .int .i64 0]) (gF0 ((pickF hg5274).trans hg5293)) ?_
                            refine c_skipBN (.bool false) (gF0 ((pickF hg5274).trans hg5293)) ?_
                            intro w5294 H
                            exact cut_inA ⟨_, h, rfl, H.pickL [5, 6, 7, 8, 9] rfl⟩
                          · replace h := condF hg5293 h
                            obtain ⟨y5295, hx5296, h⟩ := bindS h
                            obtain ⟨cs5298, hR5299, H⟩ := H.elemJ 9 rfl hx5296
                            obtain ⟨u5301, rfl, hu5302⟩ := member_Event_cells hR5299
                            obtain ⟨A5303, c5304, rfl, H⟩ := H.openD hu5302
                            refine nc ?_
                            refine draw_rule [] (by kernel_rfl) (by kernel_rfl) H ?_
                            refine c_idxA (e := 51) 7 _ (by kernel_rfl) (by kernel_rfl) (idxL_some hx5264).1 (idxL_some hx5264).2.1 ?_
                            refine c_loadD (a := (a5265 : Addr).add ((v4205).toNat * (t_member_Event).sz)) 6 rfl 5 (by kernel_rfl) rfl ?_
                            refine c_idxA (e := 51) 7 _ (by kernel_rfl) (by kernel_rfl) (idxL_some hx5277).1 (idxL_some hx5277).2.1 ?_
                            refine c_loadD (a := (a5265 : Addr).add ((v4205).toNat * (t_member_Event).sz)) 4 rfl 6 (by kernel_rfl) rfl ?_
                            refine c_idxA (e := 45) 1 _ (by kernel_rfl) (by kernel_rfl) (idxL_some hx5288).1 (idxL_some hx5288).2.1 ?_
                            refine c_loadD 2 rfl 0 (by kernel_rfl) rfl ?_
                            refine c_idxA (e := 51) 7 _ (by kernel_rfl) (by kernel_rfl) (idxL_some hx5296).1 (idxL_some hx5296).2.1 ?_
                            refine c_loadDA (m := 2) (a := (a5265 : Addr).add ((v4205).toNat * (t_member_Event).sz)) 1 rfl 1 (by kernel_rfl) (by kernel_rfl) [.int .i64 y5295.2.1.1.1, .int .i64 y5295.2.1.1.2] rfl rfl ?_
                            refine c_loadA (m := 2) 8 rfl (by kernel_rfl) (by kernel_rfl) [.int .i64 1, .int .i64 1] rfl rfl ?_
                            refine c_neq ((y5295.2.1.1.1 == (1 : Int)) && (y5295.2.1.1.2 == (1 : Int))) (fun _ => (by kernel_rfl)) (fun _ => (by kernel_rfl)) ?_
                            intro w5306 H
                            exact cut_inA ⟨_, h, rfl, H.pickL [7, 8, 9, 10, 11] rfl⟩
                      · rintro _ w5307 ⟨v5216, h, rfl, H⟩
                        unfold gemotlaw12_MemberFlush.k4 at h
                        refine nc_cond rfl (fun hc5308 => ?_) (fun hc5308 => ?_)
                        · replace h := condT hc5308 h
                          refine nc_seq ?_
                          refine nc ?_
                          refine nc ?_
                          cases h
                          replace hq4938 : (Sum.inr false) = o4933 := hq4938
                          subst hq4938
                          have h := hO4935
                          try dsimp only [Sum.elim_inl, Sum.elim_inr] at h
                          replace h := Option.some.inj h
                          subst h
                          exact ret_inA [.bool false] ⟨_, rfl, ⟨rfl, H.frame⟩⟩
                        · replace h := condF hc5308 h
                          refine nc ?_
                          refine nc ?_
                          cases h
                          exact again_inA ⟨_, hq4938, rfl, H.pickL [0, 1, 2, 3, 4] rfl⟩
                    · replace h := condF hc4946 h
                      refine nc ?_
                      cases h
                      replace hq4938 : (Sum.inl ()) = o4933 := hq4938
                      subst hq4938
                      have h := hO4935
                      try dsimp only [Sum.elim_inl, Sum.elim_inr] at h
                      exact cut_inA ⟨h, rfl, H.pickL [0, 3] rfl⟩
                  · rintro _ w5309 ⟨h, rfl, H⟩
                    unfold gemotlaw12_MemberFlush.k7 at h
                    refine nc_cut (fun e w5364 => ∃ (v5363 : Bool), gemotlaw12_MemberFlush.k6 v5363 = some r ∧ e = [(4, .bool v5363)] ∧ Eng.Own ok w w5364 []) ?_ ?_
                    · skip
                      obtain ⟨A5366, c5367, b5368, al5369, A5370, c5371, g5372, a5373, A5374, c5375, cs5376, A5377, c5378, cs5379, A5380, c5381, cs5382⟩ := a2297
                      replace H := H.openAs 0 (oU_member_Node g9 ⟨A5366, c5367, b5368, al5369, A5370, c5371, g5372, a5373, A5374, c5375, cs5376, A5377, c5378, cs5379, A5380, c5381, cs5382⟩ y2287.2.2) rfl rfl
                      try dsimp only [oU_member_Node, lastL, pickI, List.drop, List.take, List.set, List.eraseIdx, List.getElem?_cons_zero, List.getElem?_cons_succ, List.cons_append, List.nil_append, List.map] at H
                      obtain ⟨y5405, hy5406, h⟩ := bindS h
                      rcases Bool.eq_false_or_eq_true (!y5405) with hg5409 | hg5409
                      · replace h := condT hg5409 h
                        obtain ⟨y5410, hy5411, h⟩ := bindS h
                        try dsimp only [lastL, pickI, List.drop, List.take, List.set, List.eraseIdx, List.getElem?_cons_zero, List.getElem?_cons_succ, List.cons_append, List.nil_append, List.map] at H
                        refine nc ?_
                        refine draw_rule [] (by kernel_rfl) (by kernel_rfl) H ?_
                        refine c_callRd [0, 1, 2, 3, 4, 5, 6, 7, 8, 9, 10, 11, 12] 12 (oL_member_Node g9 (A5366, c5367, b5368, al5369, A5370, c5371, g5372, a5373, A5374, c5375, cs5376, A5377, c5378, cs5379, A5380, c5381, cs5382) y2287.2.2) (fun v X => v = .bool y5405 ∧ X = []) rfl (by kernel_rfl) rfl rfl (fun _ H => Calls.mono (member_Node_Flushing_ok (x0 := y2287.2.2) H hy5406) fun e w' ⟨v, he, hv, H⟩ => ⟨v, he, _, ⟨hv, rfl⟩, H⟩) ?_
                        rintro v5407 X5408 ⟨rfl, rfl⟩
                        dsimp only [subLb, lastL, pickI, List.drop, List.take, List.set, List.eraseIdx, List.getElem?_cons_zero, List.getElem?_cons_succ, List.cons_append, List.nil_append, List.map]
                        refine c_callRd [0, 1, 2, 3, 4, 5, 6, 7, 8, 9, 10, 11, 12] 12 (oL_member_Node g9 (A5366, c5367, b5368, al5369, A5370, c5371, g5372, a5373, A5374, c5375, cs5376, A5377, c5378, cs5379, A5380, c5381, cs5382) y2287.2.2) (fun v X => ∃ A5412, ∃ c5413, v = .agg #[.int .i64 y5410.1.1, .int .i64 y5410.1.2, .slice A5412 y5410.2.length c5413] ∧ X = [dSl (tInt .i64) (.slice A5412 y5410.2.length c5413) y5410.2]) (gT1 hg5409 rfl) (by kernel_rfl) rfl rfl (fun _ H => Calls.mono (member_Node_View_ok (x0 := y2287.2.2) H hy5411) fun e w' ⟨v, he, A5412, c5413, hv, H⟩ => ⟨v, he, _, ⟨A5412, c5413, hv, rfl⟩, H⟩) ?_
                        rintro v5415 X5416 ⟨A5412, c5413, rfl, rfl⟩
                        dsimp only [subLb, lastL, pickI, List.drop, List.take, List.set, List.eraseIdx, List.getElem?_cons_zero, List.getElem?_cons_succ, List.cons_append, List.nil_append, List.map]
                        refine c_loadA (m := 2) 12 rfl (by kernel_rfl) (by kernel_rfl) [.int .i64 2, .int .i64 1] rfl rfl ?_
                        refine c_eql ((y5410.1.1 == (2 : Int)) && (y5410.1.2 == (1 : Int))) (fun _ => (by kernel_rfl)) (fun _ => (by kernel_rfl)) ?_
                        intro w5417 H
                        dsimp only [lastL, pickI, List.drop, List.take, List.set, List.eraseIdx, List.getElem?_cons_zero, List.getElem?_cons_succ, List.cons_append, List.nil_append, List.map] at H
                        replace H := (H.pickL [1, 2, 3, 4, 5, 6, 7, 8, 9, 10, 11, 12, 0, 13] rfl).shutAs 12 (oL_member_Node g9 (A5366, c5367, b5368, al5369, A5370, c5371, g5372, a5373, A5374, c5375, cs5376, A5377, c5378, cs5379, A5380, c5381, cs5382) y2287.2.2) rfl
                        try dsimp only [lastL, pickI, List.drop, List.take, List.set, List.eraseIdx, List.getElem?_cons_zero, List.getElem?_cons_succ, List.cons_append, List.nil_append, List.map] at H
                        exact cut_inA ⟨_, h, rfl, H.pickL [] rfl⟩
                      · replace h := condF hg5409 h
                        try dsimp only [lastL, pickI, List.drop, List.take, List.set, List.eraseIdx, List.getElem?_cons_zero, List.getElem?_cons_succ, List.cons_append, List.nil_append, List.map] at H
                        refine nc ?_
                        refine draw_rule [] (by kernel_rfl) (by kernel_rfl) H ?_
                        refine c_callRd [0, 1, 2, 3, 4, 5, 6, 7, 8, 9, 10, 11, 12] 12 (oL_member_Node g9 (A5366, c5367, b5368, al5369, A5370, c5371, g5372, a5373, A5374, c5375, cs5376, A5377, c5378, cs5379, A5380, c5381, cs5382) y2287.2.2) (fun v X => v = .bool y5405 ∧ X = []) rfl (by kernel_rfl) rfl rfl (fun _ H => Calls.mono (member_Node_Flushing_ok (x0 := y2287.2.2) H hy5406) fun e w' ⟨v, he, hv, H⟩ => ⟨v, he, _, ⟨hv, rfl⟩, H⟩) ?_
                        rintro v5407 X5408 ⟨rfl, rfl⟩
                        dsimp only [subLb, lastL, pickI, List.drop, List.take, List.set, List.eraseIdx, List.getElem?_cons_zero, List.getElem?_cons_succ, List.cons_append, List.nil_append, List.map]
                        refine c_skipCL (.agg #[.int .i64 0, .int .i64 0, .slice none 0 0]) (gF1 hg5409) ?_
                        refine c_skipLD (.agg #[.int .i64 0, .int .i64 0]) (gF1 hg5409) ?_
                        refine c_skipBN (.bool false) (gF1 hg5409) ?_
                        intro w5418 H
                        dsimp only [lastL, pickI, List.drop, List.take, List.set, List.eraseIdx, List.getElem?_cons_zero, List.getElem?_cons_succ, List.cons_append, List.nil_append, List.map] at H
                        replace H := (H.pickL [0, 1, 2, 3, 4, 5, 6, 7, 8, 9, 10, 11, 12] rfl).shutAs 12 (oL_member_Node g9 (A5366, c5367, b5368, al5369, A5370, c5371, g5372, a5373, A5374, c5375, cs5376, A5377, c5378, cs5379, A5380, c5381, cs5382) y2287.2.2) rfl
                        try dsimp only [lastL, pickI, List.drop, List.take, List.set, List.eraseIdx, List.getElem?_cons_zero, List.getElem?_cons_succ, List.cons_append, List.nil_append, List.map] at H
                        exact cut_inA ⟨_, h, rfl, H.pickL [] rfl⟩
                    · rintro _ w5419 ⟨v5363, h, rfl, H⟩
                      unfold gemotlaw12_MemberFlush.k6 at h
                      refine nc ?_
                      replace h := Option.some.inj h
                      subst h
                      exact ret_inA [.bool v5363] ⟨_, rfl, ⟨rfl, H.frame⟩⟩
/-! gemot/gemotlaw12.MemberOnce -/
end Go.Proofs.Ytipoblinefamgaa.G
