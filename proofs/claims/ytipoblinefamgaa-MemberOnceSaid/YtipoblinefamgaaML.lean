/- Walks, printed by a program of this proof's own. -/
import Derived.Test.YtipoblinefamgaaMB5
import Derived.KernelRfl
namespace Go.Proofs.Ytipoblinefamgaa.G
open Go.RowKit Go.Eng Go.Proofs
set_option linter.unusedVariables false
set_option maxRecDepth 20000
/-! gemot/gemotlaw12.shown -/
noncomputable def gemotlaw12_shown.k1 (v134 : Bool) : Option (Bool) := some v134
noncomputable def gemotlaw12_shown.f : Option (Bool) := (member_New.f (1 : Int)).bind fun y1 => cond (cond (y1.1.isNone) true (y1.2 != (0 : Int))) (some false) ((y1.1).bind fun y14 => (member_Node_Suggest.f y14 ([(1 : Int), (2 : Int)] : List Int)).bind fun y16 => (member_Node_Take.f y16.2.2 (2 : Int) ((4 : Int), ((1 : Int), (1 : Int)), ((0 : Int), (2 : Int)), (0 : Int), ([] : List Int), ([] : List (List UInt8)))).bind fun y30 => cond ((y16.1.length : Int) == (1 : Int)) ((idxL y16.1 (0 : Int)).bind fun y139 => cond (y139.1 == (2 : Int)) ((idxL y16.1 (0 : Int)).bind fun y156 => cond (cond (cond (cond (cond ((y16.1.length : Int) == (1 : Int)) (y139.1 == (2 : Int)) false) (y156.2.1 == (3 : Int)) false) ((y16.2.1.length : Int) == (0 : Int)) false) ((y30.1.length : Int) == (1 : Int)) false) ((idxL y30.1 (0 : Int)).bind fun y174 => cond (cond (cond (cond (cond (cond (cond ((y16.1.length : Int) == (1 : Int)) (y139.1 == (2 : Int)) false) (y156.2.1 == (3 : Int)) false) ((y16.2.1.length : Int) == (0 : Int)) false) ((y30.1.length : Int) == (1 : Int)) false) (y174.2.1 == (5 : Int)) false) ((y30.2.1.length : Int) == (1 : Int)) false) ((idxL y30.2.1 (0 : Int)).bind fun y192 => cond (y192.1 == (2 : Int)) ((idxL y30.2.1 (0 : Int)).bind fun y204 => cond ((y204.2.1.1.1 == (1 : Int)) && (y204.2.1.1.2 == (1 : Int))) ((idxL y30.2.1 (0 : Int)).bind fun y216 => gemotlaw12_shown.k1 (cond (cond (cond (cond (cond (cond (cond (cond (cond ((y16.1.length : Int) == (1 : Int)) (y139.1 == (2 : Int)) false) (y156.2.1 == (3 : Int)) false) ((y16.2.1.length : Int) == (0 : Int)) false) ((y30.1.length : Int) == (1 : Int)) false) (y174.2.1 == (5 : Int)) false) ((y30.2.1.length : Int) == (1 : Int)) false) (y192.1 == (2 : Int)) false) ((y204.2.1.1.1 == (1 : Int)) && (y204.2.1.1.2 == (1 : Int))) false) ((y216.2.1.2.length : Int) == (2 : Int)) false)) (gemotlaw12_shown.k1 (cond (cond (cond (cond (cond (cond (cond (cond (cond ((y16.1.length : Int) == (1 : Int)) (y139.1 == (2 : Int)) false) (y156.2.1 == (3 : Int)) false) ((y16.2.1.length : Int) == (0 : Int)) false) ((y30.1.length : Int) == (1 : Int)) false) (y174.2.1 == (5 : Int)) false) ((y30.2.1.length : Int) == (1 : Int)) false) (y192.1 == (2 : Int)) false) ((y204.2.1.1.1 == (1 : Int)) && (y204.2.1.1.2 == (1 : Int))) false) ((0 : Int) == (2 : Int)) false))) (gemotlaw12_shown.k1 (cond (cond (cond (cond (cond (cond (cond (cond (cond ((y16.1.length : Int) == (1 : Int)) (y139.1 == (2 : Int)) false) (y156.2.1 == (3 : Int)) false) ((y16.2.1.length : Int) == (0 : Int)) false) ((y30.1.length : Int) == (1 : Int)) false) (y174.2.1 == (5 : Int)) false) ((y30.2.1.length : Int) == (1 : Int)) false) (y192.1 == (2 : Int)) false) false false) ((0 : Int) == (2 : Int)) false))) (gemotlaw12_shown.k1 (cond (cond (cond (cond (cond (cond (cond (cond (cond ((y16.1.length : Int) == (1 : Int)) (y139.1 == (2 : Int)) false) (y156.2.1 == (3 : Int)) false) ((y16.2.1.length : Int) == (0 : Int)) false) ((y30.1.length : Int) == (1 : Int)) false) (y174.2.1 == (5 : Int)) false) ((y30.2.1.length : Int) == (1 : Int)) false) ((0 : Int) == (2 : Int)) false) false false) ((0 : Int) == (2 : Int)) false))) (gemotlaw12_shown.k1 (cond (cond (cond (cond (cond (cond (cond (cond (cond ((y16.1.length : Int) == (1 : Int)) (y139.1 == (2 : Int)) false) (y156.2.1 == (3 : Int)) false) ((y16.2.1.length : Int) == (0 : Int)) false) ((y30.1.length : Int) == (1 : Int)) false) ((0 : Int) == (5 : Int)) false) ((y30.2.1.length : Int) == (1 : Int)) false) ((0 : Int) == (2 : Int)) false) false false) ((0 : Int) == (2 : Int)) false))) (gemotlaw12_shown.k1 (cond (cond (cond (cond (cond (cond (cond (cond (cond ((y16.1.length : Int) == (1 : Int)) (y139.1 == (2 : Int)) false) ((0 : Int) == (3 : Int)) false) ((y16.2.1.length : Int) == (0 : Int)) false) ((y30.1.length : Int) == (1 : Int)) false) ((0 : Int) == (5 : Int)) false) ((y30.2.1.length : Int) == (1 : Int)) false) ((0 : Int) == (2 : Int)) false) false false) ((0 : Int) == (2 : Int)) false))) (gemotlaw12_shown.k1 (cond (cond (cond (cond (cond (cond (cond (cond (cond ((y16.1.length : Int) == (1 : Int)) ((0 : Int) == (2 : Int)) false) ((0 : Int) == (3 : Int)) false) ((y16.2.1.length : Int) == (0 : Int)) false) ((y30.1.length : Int) == (1 : Int)) false) ((0 : Int) == (5 : Int)) false) ((y30.2.1.length : Int) == (1 : Int)) false) ((0 : Int) == (2 : Int)) false) false false) ((0 : Int) == (2 : Int)) false)))
set_option maxHeartbeats 4000000 in
theorem gemotlaw12_shown_ok {ok : Nat → Prop} {w : World} {r : Bool} (h : gemotlaw12_shown.f = some r) :
    Calls Try.prog 6 #[] w fun e w' => ∃ v, e = .returned v ∧ (v = .bool r ∧ Bel w.heap.size w w') := by
  have H : Eng.Own ok w w [] := Eng.Own.nil ok w
  unfold gemotlaw12_shown.f at h
  refine enterN (args := []) Try.func6 rfl Try.ntmps6 rfl rfl ?_
  refine nc_seq ?_
  refine nc ?_
  refine nc_seq ?_
  refine nc ?_
  obtain ⟨y1, hy2, h⟩ := bindS h
  refine call_rule (by kernel_rfl) (member_New_ok H hy2) fun v7 w6 ⟨g3, a4, hv8, H⟩ => ?_
  subst hv8
  refine nc_seq ?_
  refine nc_seq ?_
  refine nc ?_
  refine eqlO_rule (by kernel_rfl) ?_
  refine nc_cond rfl (fun hc9 => ?_) (fun hc9 => ?_)
  · replace h := condT hc9 h
    refine nc_seq ?_
    refine nc ?_
    refine nc ?_
    replace h := Option.some.inj h
    subst h
    exact ret_inA [.bool false] ⟨_, rfl, ⟨rfl, H.frame⟩⟩
  · replace h := condF hc9 h
    refine nc ?_
    refine nc_seq ?_
    refine nc ?_
    refine own_buildSlice (e := 3) (sz := 1) (z := .int .i64 0) (cs := [.int .i64 1, .int .i64 2]) H (by kernel_rfl) (by kernel_rfl) (by kernel_rfl) rfl rfl rfl rfl fun g11 w12 H => ?_
    replace H := H.blkSl (k := (tInt .i64)) [(1 : Int), (2 : Int)] 2 rfl rfl (by decide) ⟨_, _, rfl, rfl, ⟨_, _, rfl, rfl, rfl⟩⟩
    obtain ⟨y14, hy15, h⟩ := bindS h
    replace H := H.someAt 1 rfl hy15
    try rw [hy15]
    replace H := H.pickL [1, 0] rfl
    try dsimp only [lastL, pickI, List.drop, List.take, List.set, List.eraseIdx, List.getElem?_cons_zero, List.getElem?_cons_succ, List.cons_append, List.nil_append, List.map] at H
    obtain ⟨y16, hy17, h⟩ := bindS h
    refine call_rule (by kernel_rfl) (member_Node_Suggest_ok (x0 := y14) H (H.dat 1 rfl) hy17) fun v28 w27 ⟨A18, c19, cs20, A22, c23, cs24, a26, hv29, H⟩ => ?_
    subst hv29
    refine nc_seq ?_
    refine nc ?_
    replace H := H.pickL [4, 0, 1, 2, 3, 5] rfl
    try dsimp only [lastL, pickI, List.drop, List.take, List.set, List.eraseIdx, List.getElem?_cons_zero, List.getElem?_cons_succ, List.cons_append, List.nil_append, List.map] at H
    obtain ⟨y30, hy31, h⟩ := bindS h
    refine call_rule (by kernel_rfl) (member_Node_Take_ok (x0 := y16.2.2) (x2 := ((4 : Int), ((1 : Int), (1 : Int)), ((0 : Int), (2 : Int)), (0 : Int), ([] : List Int), ([] : List (List UInt8)))) H nilR nilR hy31) fun v42 w41 ⟨A32, c33, cs34, A36, c37, cs38, a40, hv43, H⟩ => ?_
    subst hv43
    refine nc_cut (fun e w135 => ∃ (v134 : Bool), gemotlaw12_shown.k1 v134 = some r ∧ e = [(0, .bool v134)] ∧ Eng.Own ok w w135 []) ?_ ?_
    · skip
      refine nc ?_
      rcases Bool.eq_false_or_eq_true ((y16.1.length : Int) == (1 : Int)) with hg137 | hg137
      · replace h := condT hg137 h
        replace H := H.freeze (k := t_member_Out) 6 5 rfl rfl
        obtain ⟨y139, hx140, h⟩ := bindS h
        obtain ⟨a141, cs142, rfl, hR143, H⟩ := H.elemI 6 rfl hx140
        obtain ⟨u145, u146, rfl, hu147, hu148⟩ := member_Out_cells hR143
        obtain ⟨A149, c150, rfl, H⟩ := H.openD hu147
        obtain ⟨A152, c153, rfl, H⟩ := H.openD hu148
        refine idxA_rule (e := 40) 9 _ (by kernel_rfl) (by kernel_rfl) (idxL_some hx140).1 (idxL_some hx140).2.1 ?_
        refine own_loadD H 2 rfl 0 (by kernel_rfl) rfl ?_
        rcases Bool.eq_false_or_eq_true (y139.1 == (2 : Int)) with hg155 | hg155
        · replace h := condT hg155 h
          obtain ⟨y156, hx157, h⟩ := bindS h
          obtain ⟨cs159, hR160, H⟩ := H.elemJ 9 rfl hx157
          obtain ⟨u162, u163, rfl, hu164, hu165⟩ := member_Out_cells hR160
          obtain ⟨A166, c167, rfl, H⟩ := H.openD hu164
          obtain ⟨A169, c170, rfl, H⟩ := H.openD hu165
          refine idxA_rule (e := 40) 9 _ (by kernel_rfl) (by kernel_rfl) (idxL_some hx157).1 (idxL_some hx157).2.1 ?_
          refine own_loadD H 2 rfl 1 (by kernel_rfl) rfl ?_
          rcases Bool.eq_false_or_eq_true (cond (cond (cond (cond ((y16.1.length : Int) == (1 : Int)) (y139.1 == (2 : Int)) false) (y156.2.1 == (3 : Int)) false) ((y16.2.1.length : Int) == (0 : Int)) false) ((y30.1.length : Int) == (1 : Int)) false) with hg172 | hg172
          · replace h := condT hg172 h
            replace H := H.freeze (k := t_member_Out) 7 6 rfl rfl
            obtain ⟨y174, hx175, h⟩ := bindS h
            obtain ⟨a176, cs177, rfl, hR178, H⟩ := H.elemI 7 rfl hx175
            obtain ⟨u180, u181, rfl, hu182, hu183⟩ := member_Out_cells hR178
            obtain ⟨A184, c185, rfl, H⟩ := H.openD hu182
            obtain ⟨A187, c188, rfl, H⟩ := H.openD hu183
            refine idxA_rule (e := 40) 9 _ (by kernel_rfl) (by kernel_rfl) (idxL_some hx175).1 (idxL_some hx175).2.1 ?_
            refine own_loadD H 2 rfl 1 (by kernel_rfl) rfl ?_
            rcases Bool.eq_false_or_eq_true (cond (cond (cond (cond (cond (cond ((y16.1.length : Int) == (1 : Int)) (y139.1 == (2 : Int)) false) (y156.2.1 == (3 : Int)) false) ((y16.2.1.length : Int) == (0 : Int)) false) ((y30.1.length : Int) == (1 : Int)) false) (y174.2.1 == (5 : Int)) false) ((y30.2.1.length : Int) == (1 : Int)) false) with hg190 | hg190
            · replace h := condT hg190 h
              replace H := H.freeze (k := t_member_Event) 12 11 rfl rfl
              obtain ⟨y192, hx193, h⟩ := bindS h
              obtain ⟨a194, cs195, rfl, hR196, H⟩ := H.elemI 12 rfl hx193
              obtain ⟨u198, rfl, hu199⟩ := member_Event_cells hR196
              obtain ⟨A200, c201, rfl, H⟩ := H.openD hu199
              refine idxA_rule (e := 51) 7 _ (by kernel_rfl) (by kernel_rfl) (idxL_some hx193).1 (idxL_some hx193).2.1 ?_
              refine own_loadD H 1 rfl 0 (by kernel_rfl) rfl ?_
              rcases Bool.eq_false_or_eq_true (y192.1 == (2 : Int)) with hg203 | hg203
              · replace h := condT hg203 h
                obtain ⟨y204, hx205, h⟩ := bindS h
                obtain ⟨cs207, hR208, H⟩ := H.elemJ 14 rfl hx205
                obtain ⟨u210, rfl, hu211⟩ := member_Event_cells hR208
                obtain ⟨A212, c213, rfl, H⟩ := H.openD hu211
                refine idxA_rule (e := 51) 7 _ (by kernel_rfl) (by kernel_rfl) (idxL_some hx205).1 (idxL_some hx205).2.1 ?_
                refine own_loadDA (m := 2) H 1 rfl 1 (by kernel_rfl) (by kernel_rfl) [.int .i64 y204.2.1.1.1, .int .i64 y204.2.1.1.2] rfl rfl ?_
                refine eql_rule ((y204.2.1.1.1 == (1 : Int)) && (y204.2.1.1.2 == (1 : Int))) (fun _ => (by kernel_rfl)) (fun _ => (by kernel_rfl)) ?_
                rcases Bool.eq_false_or_eq_true ((y204.2.1.1.1 == (1 : Int)) && (y204.2.1.1.2 == (1 : Int))) with hg215 | hg215
                · replace h := condT hg215 h
                  obtain ⟨y216, hx217, h⟩ := bindS h
                  obtain ⟨cs219, hR220, H⟩ := H.elemJ 16 rfl hx217
                  obtain ⟨u222, rfl, hu223⟩ := member_Event_cells hR220
                  obtain ⟨A224, c225, rfl, H⟩ := H.openD hu223
                  refine idxA_rule (e := 51) 7 _ (by kernel_rfl) (by kernel_rfl) (idxL_some hx217).1 (idxL_some hx217).2.1 ?_
                  refine own_loadD H 1 rfl 3 (by kernel_rfl) rfl ?_
                  exact cut_inA ⟨_, h, rfl, H.pickL [] rfl⟩
                · replace h := condF hg215 h
                  refine skipIA (.pointer (some ⟨0, 0, none⟩)) (gF1 ((pickT ((pickT hg190).trans hg203)).trans hg215)) ?_
                  refine skipLD (.slice none 0 0) (gF1 ((pickT ((pickT hg190).trans hg203)).trans hg215)) ?_
                  exact cut_inA ⟨_, h, rfl, H.pickL [] rfl⟩
              · replace h := condF hg203 h
                refine skipIA (.pointer (some ⟨0, 0, none⟩)) (gF1 ((pickT hg190).trans hg203)) ?_
                refine skipLD (.agg #[.int .i64 0, .int .i64 0]) (gF1 ((pickT hg190).trans hg203)) ?_
                refine skipBN (.bool false) (gF1 ((pickT hg190).trans hg203)) ?_
                refine skipIA (.pointer (some ⟨0, 0, none⟩)) (gF1 (pickF ((pickT hg190).trans hg203))) ?_
                refine skipLD (.slice none 0 0) (gF1 (pickF ((pickT hg190).trans hg203))) ?_
                exact cut_inA ⟨_, h, rfl, H.pickL [] rfl⟩
            · replace h := condF hg190 h
              refine skipIA (.pointer (some ⟨0, 0, none⟩)) (gF1 hg190) ?_
              refine skipLD (.int .i64 0) (gF1 hg190) ?_
              refine skipIA (.pointer (some ⟨0, 0, none⟩)) (gF1 (pickF hg190)) ?_
              refine skipLD (.agg #[.int .i64 0, .int .i64 0]) (gF1 (pickF hg190)) ?_
              refine skipBN (.bool false) (gF1 (pickF hg190)) ?_
              refine skipIA (.pointer (some ⟨0, 0, none⟩)) (gF1 (pickF (pickF hg190))) ?_
              refine skipLD (.slice none 0 0) (gF1 (pickF (pickF hg190))) ?_
              exact cut_inA ⟨_, h, rfl, H.pickL [] rfl⟩
          · replace h := condF hg172 h
            refine skipIA (.pointer (some ⟨0, 0, none⟩)) (gF1 hg172) ?_
            refine skipLD (.int .i64 0) (gF1 hg172) ?_
            refine skipIA (.pointer (some ⟨0, 0, none⟩)) (gF1 (pickF (pickF hg172))) ?_
            refine skipLD (.int .i64 0) (gF1 (pickF (pickF hg172))) ?_
            refine skipIA (.pointer (some ⟨0, 0, none⟩)) (gF1 (pickF (pickF (pickF hg172)))) ?_
            refine skipLD (.agg #[.int .i64 0, .int .i64 0]) (gF1 (pickF (pickF (pickF hg172)))) ?_
            refine skipBN (.bool false) (gF1 (pickF (pickF (pickF hg172)))) ?_
            refine skipIA (.pointer (some ⟨0, 0, none⟩)) (gF1 (pickF (pickF (pickF (pickF hg172))))) ?_
            refine skipLD (.slice none 0 0) (gF1 (pickF (pickF (pickF (pickF hg172))))) ?_
            exact cut_inA ⟨_, h, rfl, H.pickL [] rfl⟩
        · replace h := condF hg155 h
          refine skipIA (.pointer (some ⟨0, 0, none⟩)) (gF1 ((pickT hg137).trans hg155)) ?_
          refine skipLD (.int .i64 0) (gF1 ((pickT hg137).trans hg155)) ?_
          refine skipIA (.pointer (some ⟨0, 0, none⟩)) (gF1 (pickF (pickF (pickF ((pickT hg137).trans hg155))))) ?_
          refine skipLD (.int .i64 0) (gF1 (pickF (pickF (pickF ((pickT hg137).trans hg155))))) ?_
          refine skipIA (.pointer (some ⟨0, 0, none⟩)) (gF1 (pickF (pickF (pickF (pickF (pickF ((pickT hg137).trans hg155))))))) ?_
          refine skipLD (.int .i64 0) (gF1 (pickF (pickF (pickF (pickF (pickF ((pickT hg137).trans hg155))))))) ?_
          refine skipIA (.pointer (some ⟨0, 0, none⟩)) (gF1 (pickF (pickF (pickF (pickF (pickF (pickF ((pickT hg137).trans hg155)))))))) ?_
          refine skipLD (.agg #[.int .i64 0, .int .i64 0]) (gF1 (pickF (pickF (pickF (pickF (pickF (pickF ((pickT hg137).trans hg155)))))))) ?_
          refine skipBN (.bool false) (gF1 (pickF (pickF (pickF (pickF (pickF (pickF ((pickT hg137).trans hg155)))))))) ?_
          refine skipIA (.pointer (some ⟨0, 0, none⟩)) (gF1 (pickF (pickF (pickF (pickF (pickF (pickF (pickF ((pickT hg137).trans hg155))))))))) ?_
          refine skipLD (.slice none 0 0) (gF1 (pickF (pickF (pickF (pickF (pickF (pickF (pickF ((pickT hg137).trans hg155))))))))) ?_
          exact cut_inA ⟨_, h, rfl, H.pickL [] rfl⟩
      · replace h := condF hg137 h
        refine skipIA (.pointer (some ⟨0, 0, none⟩)) (gF1 hg137) ?_
        refine skipLD (.int .i64 0) (gF1 hg137) ?_
        refine skipIA (.pointer (some ⟨0, 0, none⟩)) (gF1 (pickF hg137)) ?_
        refine skipLD (.int .i64 0) (gF1 (pickF hg137)) ?_
        refine skipIA (.pointer (some ⟨0, 0, none⟩)) (gF1 (pickF (pickF (pickF (pickF hg137))))) ?_
        refine skipLD (.int .i64 0) (gF1 (pickF (pickF (pickF (pickF hg137))))) ?_
        refine skipIA (.pointer (some ⟨0, 0, none⟩)) (gF1 (pickF (pickF (pickF (pickF (pickF (pickF hg137))))))) ?_
        refine skipLD (.int .i64 0) (gF1 (pickF (pickF (pickF (pickF (pickF (pickF hg137))))))) ?_
        refine skipIA (.pointer (some ⟨0, 0, none⟩)) (gF1 (pickF (pickF (pickF (pickF (pickF (pickF (pickF hg137)))))))) ?_
        refine skipLD (.agg #[.int .i64 0, .int .i64 0]) (gF1 (pickF (pickF (pickF (pickF (pickF (pickF (pickF hg137)))))))) ?_
        refine skipBN (.bool false) (gF1 (pickF (pickF (pickF (pickF (pickF (pickF (pickF hg137)))))))) ?_
        refine skipIA (.pointer (some ⟨0, 0, none⟩)) (gF1 (pickF (pickF (pickF (pickF (pickF (pickF (pickF (pickF hg137))))))))) ?_
        refine skipLD (.slice none 0 0) (gF1 (pickF (pickF (pickF (pickF (pickF (pickF (pickF (pickF hg137))))))))) ?_
        exact cut_inA ⟨_, h, rfl, H.pickL [] rfl⟩
    · rintro _ w227 ⟨v134, h, rfl, H⟩
      unfold gemotlaw12_shown.k1 at h
      refine nc ?_
      replace h := Option.some.inj h
      subst h
      exact ret_inA [.bool v134] ⟨_, rfl, ⟨rfl, H.frame⟩⟩
/-! gemot/gemotlaw12.pick -/
noncomputable def gemotlaw12_pick.k1 (x1 : Int) (v2 : Int) : Option (Int) := (remM v2 x1).bind fun _ => some (v2.tmod x1)
noncomputable def gemotlaw12_pick.f (x0 : Int) (x1 : Int) : Option (Int) := cond (decide (x0 < (0 : Int))) (gemotlaw12_pick.k1 x1 (IntKind.i64.wrap (0 - (IntKind.i64.wrap (x0 + (1 : Int)))))) (gemotlaw12_pick.k1 x1 x0)
set_option maxHeartbeats 4000000 in
theorem gemotlaw12_pick_ok {ok : Nat → Prop} {w : World} {x0 : Int} {x1 : Int} {r : Int} (h : gemotlaw12_pick.f x0 x1 = some r) :
    Calls Try.prog 7 #[.int .i64 x0, .int .i64 x1] w fun e w' => ∃ v, e = .returned v ∧ (v = .int .i64 r ∧ Bel w.heap.size w w') := by
  have H : Eng.Own ok w w [] := Eng.Own.nil ok w
  unfold gemotlaw12_pick.f at h
  refine enterN (args := [.int .i64 x0, .int .i64 x1]) Try.func7 rfl Try.ntmps7 rfl rfl ?_
  refine nc_seq ?_
  refine nc ?_
  refine nc_cut (fun e w3 => ∃ (v2 : Int), gemotlaw12_pick.k1 x1 v2 = some r ∧ e = [(0, .int .i64 v2), (1, .int .i64 x1)] ∧ Eng.Own ok w w3 []) ?_ ?_
  · skip
    refine nc_seq ?_
    refine nc ?_
    refine nc_cond rfl (fun hc5 => ?_) (fun hc5 => ?_)
    · replace h := condT hc5 h
      refine nc ?_
      exact cut_inA ⟨_, h, rfl, H.pickL [] rfl⟩
    · replace h := condF hc5 h
      refine nc ?_
      exact cut_inA ⟨_, h, rfl, H.pickL [] rfl⟩
  · rintro _ w6 ⟨v2, h, rfl, H⟩
    unfold gemotlaw12_pick.k1 at h
    refine nc_seq ?_
    refine nc ?_
    obtain ⟨y7, hy8, h⟩ := bindS h
    obtain ⟨hy8b, rfl⟩ := remS hy8
    refine rem_rule (fun _ => hy8b) ?_
    refine nc ?_
    replace h := Option.some.inj h
    subst h
    exact ret_inA [.int .i64 (v2.tmod x1)] ⟨_, rfl, ⟨rfl, H.frame⟩⟩
/-! gemot/gemotref10.Same -/
/-! gemot/gemotlaw12.MemberAsks -/
/-! gemot/gemotlaw12.MemberFlush -/
/-! gemot/gemotlaw12.MemberOnce -/
noncomputable def gemotlaw12_MemberOnce.k1 (x1 : Int) (x2 : Int) (y7 : Int) (v47785 : Int) (v74454 : Int) (v75849 : O_member_Node) : Option (((Option O_member_Node) × Int) ⊕ ((Option O_member_Node) ⊕ Bool)) := some (.inl ((some v75849), (IntKind.i64.wrap (v74454 + (1 : Int)))))
noncomputable def gemotlaw12_MemberOnce.k2 (x1 : Int) (x2 : Int) (y7 : Int) (v47785 : Int) (v74454 : Int) (y75861 : (List D_member_Out) × (List D_member_Event) × Int × O_member_Node) (v75997 : Bool) : Option (((Option O_member_Node) × Int) ⊕ ((Option O_member_Node) ⊕ Bool)) := cond v75997 (some (.inr (Sum.inr false))) (gemotlaw12_MemberOnce.k1 x1 x2 y7 v47785 v74454 y75861.2.2.2)
noncomputable def gemotlaw12_MemberOnce.b3 (x1 : Int) (x2 : Int) (y7 : Int) (v47785 : Int) (v74452 : Option O_member_Node) (v74454 : Int) : Option (((Option O_member_Node) × Int) ⊕ ((Option O_member_Node) ⊕ Bool)) := (gemotlaw12_pick.f x1 (40 : Int)).bind fun y75573 => cond (decide (v74454 < y75573)) ((term_Number.f (IntKind.u64.wrap v74454)).bind fun y75853 => (v74452).bind fun y75859 => (member_Node_Cast.f y75859 y75853).bind fun y75861 => cond (decide (v74454 ≥ (32 : Int))) (cond (cond (y75861.2.2.1 != (10 : Int)) true ((IntKind.i64.wrap ((y75861.1.length : Int) + (y75861.2.1.length : Int))) != (0 : Int))) (some (.inr (Sum.inr false))) (gemotlaw12_MemberOnce.k1 x1 x2 y7 v47785 v74454 y75861.2.2.2)) (cond (cond (cond (y75861.2.2.1 != (0 : Int)) true ((y75861.1.length : Int) != (0 : Int))) true ((y75861.2.1.length : Int) != (1 : Int))) (gemotlaw12_MemberOnce.k2 x1 x2 y7 v47785 v74454 y75861 (cond (cond (cond (cond (cond (cond (y75861.2.2.1 != (0 : Int)) true ((y75861.1.length : Int) != (0 : Int))) true ((y75861.2.1.length : Int) != (1 : Int))) true ((0 : Int) != (IntKind.i64.wrap ((1 : Int) + y7)))) true ((0 : Int) != (IntKind.i64.wrap (v74454 + (1 : Int))))) true (!(strEq ([] : List UInt8) ([] : List UInt8)))) true ((0 : Int) != (1 : Int)))) ((idxL y75861.2.1 (0 : Int)).bind fun y76063 => cond (y76063.2.2.1 != (IntKind.i64.wrap ((1 : Int) + y7))) (gemotlaw12_MemberOnce.k2 x1 x2 y7 v47785 v74454 y75861 (cond (cond (cond (cond (cond (cond (y75861.2.2.1 != (0 : Int)) true ((y75861.1.length : Int) != (0 : Int))) true ((y75861.2.1.length : Int) != (1 : Int))) true (y76063.2.2.1 != (IntKind.i64.wrap ((1 : Int) + y7)))) true ((0 : Int) != (IntKind.i64.wrap (v74454 + (1 : Int))))) true (!(strEq ([] : List UInt8) ([] : List UInt8)))) true ((0 : Int) != (1 : Int)))) ((idxL y75861.2.1 (0 : Int)).bind fun y76076 => cond (y76076.2.2.2.1 != (IntKind.i64.wrap (v74454 + (1 : Int)))) (gemotlaw12_MemberOnce.k2 x1 x2 y7 v47785 v74454 y75861 (cond (cond (cond (cond (cond (cond (y75861.2.2.1 != (0 : Int)) true ((y75861.1.length : Int) != (0 : Int))) true ((y75861.2.1.length : Int) != (1 : Int))) true (y76063.2.2.1 != (IntKind.i64.wrap ((1 : Int) + y7)))) true (y76076.2.2.2.1 != (IntKind.i64.wrap (v74454 + (1 : Int))))) true (!(strEq ([] : List UInt8) ([] : List UInt8)))) true ((0 : Int) != (1 : Int)))) ((idxL y75861.2.1 (0 : Int)).bind fun y76089 => (term_Number.f (IntKind.u64.wrap v74454)).bind fun y76100 => cond (!(strEq y76089.2.2.2.2 y76100)) (gemotlaw12_MemberOnce.k2 x1 x2 y7 v47785 v74454 y75861 (cond (cond (cond (cond (cond (cond (y75861.2.2.1 != (0 : Int)) true ((y75861.1.length : Int) != (0 : Int))) true ((y75861.2.1.length : Int) != (1 : Int))) true (y76063.2.2.1 != (IntKind.i64.wrap ((1 : Int) + y7)))) true (y76076.2.2.2.1 != (IntKind.i64.wrap (v74454 + (1 : Int))))) true (!(strEq y76089.2.2.2.2 y76100))) true ((0 : Int) != (1 : Int)))) ((idxL y75861.2.1 (0 : Int)).bind fun y76108 => gemotlaw12_MemberOnce.k2 x1 x2 y7 v47785 v74454 y75861 (cond (cond (cond (cond (cond (cond (y75861.2.2.1 != (0 : Int)) true ((y75861.1.length : Int) != (0 : Int))) true ((y75861.2.1.length : Int) != (1 : Int))) true (y76063.2.2.1 != (IntKind.i64.wrap ((1 : Int) + y7)))) true (y76076.2.2.2.1 != (IntKind.i64.wrap (v74454 + (1 : Int))))) true (!(strEq y76089.2.2.2.2 y76100))) true (y76108.1 != (1 : Int))))))))) (some (.inr (Sum.inl v74452)))
noncomputable def gemotlaw12_MemberOnce.k4 (x1 : Int) (x2 : Int) (y7 : Int) (v47785 : Int) (v71673 : O_member_Node) : Option (((Option O_member_Node) × Int) ⊕ (Unit ⊕ Bool)) := some (.inl ((some v71673), (IntKind.i64.wrap (v47785 + (1 : Int)))))
noncomputable def gemotlaw12_MemberOnce.k5 (x1 : Int) (x2 : Int) (y7 : Int) (v47785 : Int) (y76148 : (List D_member_Out) × (List D_member_Event) × O_member_Node) (v76301 : Bool) : Option (((Option O_member_Node) × Int) ⊕ (Unit ⊕ Bool)) := cond v76301 (some (.inr (Sum.inr false))) (gemotlaw12_MemberOnce.k4 x1 x2 y7 v47785 y76148.2.2)
noncomputable def gemotlaw12_MemberOnce.k6 (x1 : Int) (x2 : Int) (y7 : Int) (v47785 : Int) (v73898 : Option O_member_Node) : Option (((Option O_member_Node) × Int) ⊕ (Unit ⊕ Bool)) := (v73898).bind fun y76124 => (member_Node_View.f y76124).bind fun y76126 => (member_Node_Heed.f y76124 ((IntKind.i64.wrap (y76126.1.1 + (5 : Int))), (1 : Int))).bind fun y76138 => (member_Node_Suggest.f y76138 ([(IntKind.i64.wrap ((1 : Int) + y7))] : List Int)).bind fun y76148 => cond (cond ((y76148.1.length : Int) != (0 : Int)) true ((y76148.2.1.length : Int) != (1 : Int))) (gemotlaw12_MemberOnce.k5 x1 x2 y7 v47785 y76148 (cond (cond (cond (cond (cond (cond ((y76148.1.length : Int) != (0 : Int)) true ((y76148.2.1.length : Int) != (1 : Int))) true ((0 : Int) != (2 : Int))) true ((0 : Int) != (IntKind.i64.wrap ((0 : Int) + (6 : Int))))) true ((0 : Int) != (IntKind.i64.wrap ((1 : Int) + y7)))) true ((0 : Int) != (0 : Int))) true false)) ((idxL y76148.2.1 (0 : Int)).bind fun y76397 => cond (y76397.1 != (2 : Int)) (gemotlaw12_MemberOnce.k5 x1 x2 y7 v47785 y76148 (cond (cond (cond (cond (cond (cond ((y76148.1.length : Int) != (0 : Int)) true ((y76148.2.1.length : Int) != (1 : Int))) true (y76397.1 != (2 : Int))) true ((0 : Int) != (IntKind.i64.wrap ((0 : Int) + (6 : Int))))) true ((0 : Int) != (IntKind.i64.wrap ((1 : Int) + y7)))) true ((0 : Int) != (0 : Int))) true false)) ((member_Node_View.f y76148.2.2).bind fun y76410 => cond (y76410.1.1 != (IntKind.i64.wrap (y76126.1.1 + (6 : Int)))) (gemotlaw12_MemberOnce.k5 x1 x2 y7 v47785 y76148 (cond (cond (cond (cond (cond (cond ((y76148.1.length : Int) != (0 : Int)) true ((y76148.2.1.length : Int) != (1 : Int))) true (y76397.1 != (2 : Int))) true (y76410.1.1 != (IntKind.i64.wrap (y76126.1.1 + (6 : Int))))) true ((0 : Int) != (IntKind.i64.wrap ((1 : Int) + y7)))) true ((0 : Int) != (0 : Int))) true false)) ((member_Node_View.f y76148.2.2).bind fun y76419 => cond (y76419.1.2 != (IntKind.i64.wrap ((1 : Int) + y7))) (gemotlaw12_MemberOnce.k5 x1 x2 y7 v47785 y76148 (cond (cond (cond (cond (cond (cond ((y76148.1.length : Int) != (0 : Int)) true ((y76148.2.1.length : Int) != (1 : Int))) true (y76397.1 != (2 : Int))) true (y76410.1.1 != (IntKind.i64.wrap (y76126.1.1 + (6 : Int))))) true (y76419.1.2 != (IntKind.i64.wrap ((1 : Int) + y7)))) true ((0 : Int) != (0 : Int))) true false)) ((member_Node_Logs.f y76148.2.2).bind fun y76428 => cond ((y76428.length : Int) != (0 : Int)) (gemotlaw12_MemberOnce.k5 x1 x2 y7 v47785 y76148 (cond (cond (cond (cond (cond (cond ((y76148.1.length : Int) != (0 : Int)) true ((y76148.2.1.length : Int) != (1 : Int))) true (y76397.1 != (2 : Int))) true (y76410.1.1 != (IntKind.i64.wrap (y76126.1.1 + (6 : Int))))) true (y76419.1.2 != (IntKind.i64.wrap ((1 : Int) + y7)))) true ((y76428.length : Int) != (0 : Int))) true false)) ((member_Node_Flushing.f y76148.2.2).bind fun y76438 => gemotlaw12_MemberOnce.k5 x1 x2 y7 v47785 y76148 (cond (cond (cond (cond (cond (cond ((y76148.1.length : Int) != (0 : Int)) true ((y76148.2.1.length : Int) != (1 : Int))) true (y76397.1 != (2 : Int))) true (y76410.1.1 != (IntKind.i64.wrap (y76126.1.1 + (6 : Int))))) true (y76419.1.2 != (IntKind.i64.wrap ((1 : Int) + y7)))) true ((y76428.length : Int) != (0 : Int))) true y76438))))))
noncomputable def gemotlaw12_MemberOnce.b7 (x1 : Int) (x2 : Int) (y7 : Int) (v47783 : Option O_member_Node) (v47785 : Int) : Option (((Option O_member_Node) × Int) ⊕ (Unit ⊕ Bool)) := (gemotlaw12_pick.f x2 (3 : Int)).bind fun y66898 => cond (decide (v47785 < (IntKind.i64.wrap ((1 : Int) + y66898)))) ((loopM (fun s75570 : (Option O_member_Node) × Int => gemotlaw12_MemberOnce.b3 x1 x2 y7 v47785 s75570.1 s75570.2) (v47783, (0 : Int))).bind (Sum.elim (fun (o75568 : (Option O_member_Node)) => gemotlaw12_MemberOnce.k6 x1 x2 y7 v47785 o75568) (fun (o75569 : Bool) => some (.inr (Sum.inr o75569))))) (some (.inr (Sum.inl ())))
noncomputable def gemotlaw12_MemberOnce.k8 : Option (Bool) := some true
noncomputable def gemotlaw12_MemberOnce.f (x0 : Int) (x1 : Int) (x2 : Int) : Option (Bool) := (gemotlaw12_shown.f).bind fun y1 => (gemotlaw12_pick.f x0 (8 : Int)).bind fun y7 => (member_New.f (IntKind.i64.wrap ((1 : Int) + y7))).bind fun y13 => cond (cond (cond (!y1) true (y13.1.isNone)) true (y13.2 != (0 : Int))) (some false) ((loopM (fun s66895 : (Option O_member_Node) × Int => gemotlaw12_MemberOnce.b7 x1 x2 y7 s66895.1 s66895.2) (y13.1, (0 : Int))).bind (Sum.elim (fun (o66893 : Unit) => gemotlaw12_MemberOnce.k8) (fun (o66894 : Bool) => some o66894)))
set_option maxHeartbeats 4000000 in
theorem gemotlaw12_MemberOnce_ok {ok : Nat → Prop} {w : World} {x0 : Int} {x1 : Int} {x2 : Int} {r : Bool} (h : gemotlaw12_MemberOnce.f x0 x1 x2 = some r) :
    Calls Try.prog 5 #[.int .i64 x0, .int .i64 x1, .int .i64 x2] w fun e w' => ∃ v, e = .returned v ∧ (v = .bool r ∧ Bel w.heap.size w w') := by
  have H : Eng.Own ok w w [] := Eng.Own.nil ok w
  unfold gemotlaw12_MemberOnce.f at h
  refine enterN (args := [.int .i64 x0, .int .i64 x1, .int .i64 x2]) Try.func5 rfl Try.ntmps5 rfl rfl ?_
  refine nc_seq ?_
  refine nc ?_
  refine nc_seq ?_
  refine nc ?_
  obtain ⟨y1, hy2, h⟩ := bindS h
  refine call_rule (by kernel_rfl) (gemotlaw12_shown_ok (ok := fun _ => False) hy2) fun v4 w3 ⟨hv5, hb6⟩ => ?_
  subst hv5
  replace H := H.call hb6
  refine nc_seq ?_
  refine nc ?_
  obtain ⟨y7, hy8, h⟩ := bindS h
  refine call_rule (by kernel_rfl) (gemotlaw12_pick_ok (ok := fun _ => False) hy8) fun v10 w9 ⟨hv11, hb12⟩ => ?_
  subst hv11
  replace H := H.call hb12
  refine nc_seq ?_
  refine nc ?_
  obtain ⟨y13, hy14, h⟩ := bindS h
  refine call_rule (by kernel_rfl) (member_New_ok H hy14) fun v19 w18 ⟨g15, a16, hv20, H⟩ => ?_
  subst hv20
  refine nc_seq ?_
  refine nc_seq ?_
  refine nc ?_
  refine eqlO_rule (by kernel_rfl) ?_
  refine nc_cond rfl (fun hc21 => ?_) (fun hc21 => ?_)
  · replace h := condT hc21 h
    refine nc_seq ?_
    refine nc ?_
    refine nc ?_
    replace h := Option.some.inj h
    subst h
    exact ret_inA [.bool false] ⟨_, rfl, ⟨rfl, H.frame⟩⟩
  · replace h := condF hc21 h
    refine nc ?_
    refine nc_cut (fun e w38233 => gemotlaw12_MemberOnce.k8 = some r ∧ e = [] ∧ Eng.Own ok w w38233 []) ?_ ?_
    · skip
      refine nc_seq ?_
      refine nc ?_
      refine nc_block ?_
      obtain ⟨o66885, hL66886, hO66887⟩ := bindS h
      obtain ⟨n66888, hL66886⟩ := loopS hL66886
      refine nc ?_
      refine loop_ruleA (fun k e w66892 => ∃ (a47784 : A_member_Node) (v47783 : Option O_member_Node) (v47785 : Int), iterM (fun s66895 : (Option O_member_Node) × Int => gemotlaw12_MemberOnce.b7 x1 x2 y7 s66895.1 s66895.2) k (v47783, v47785) = some o66885 ∧ e = [(1, .int .i64 x1), (2, .int .i64 x2), (8, .int .i64 (IntKind.i64.wrap ((1 : Int) + y7))), (9, .pointer (optA g15 v47783)), (11, .int .i64 v47785)] ∧ Eng.Own ok w w66892 [box (optL oL_member_Node g15 a47784 v47783)]) ⟨a16, _, _, hL66886, rfl, H.pickL [0] rfl⟩ ?_
      rintro k66897 _ w66896 ⟨a47784, v47783, v47785, hL66886, rfl, H⟩
      obtain ⟨k66891, rfl, q66889, h, hq66890⟩ := iterS hL66886
      replace h : gemotlaw12_MemberOnce.b7 x1 x2 y7 v47783 v47785 = some q66889 := h
      unfold gemotlaw12_MemberOnce.b7 at h
      refine nc_seq ?_
      refine nc_seq ?_
      refine nc ?_
      obtain ⟨y66898, hy66899, h⟩ := bindS h
      refine call_rule (by kernel_rfl) (gemotlaw12_pick_ok (ok := fun _ => False) hy66899) fun v66901 w66900 ⟨hv66902, hb66903⟩ => ?_
      subst hv66902
      replace H := H.call hb66903
      refine nc_cond rfl (fun hc66904 => ?_) (fun hc66904 => ?_)
      · replace h := condT hc66904 h
        refine nc ?_
        refine nc_cut (fun e w71675 => ∃ (a71674 : A_member_Node) (v71673 : O_member_Node), gemotlaw12_MemberOnce.k4 x1 x2 y7 v47785 v71673 = some q66889 ∧ e = [(1, .int .i64 x1), (2, .int .i64 x2), (8, .int .i64 (IntKind.i64.wrap ((1 : Int) + y7))), (9, .pointer (some ⟨g15, 0, none⟩)), (11, .int .i64 v47785)] ∧ Eng.Own ok w w71675 [box (oL_member_Node g15 a71674 v71673)]) ?_ ?_
        · skip
          refine nc_block ?_
          refine nc_cut (fun e w73900 => ∃ (a73899 : A_member_Node) (v73898 : Option O_member_Node), gemotlaw12_MemberOnce.k6 x1 x2 y7 v47785 v73898 = some q66889 ∧ e = [(1, .int .i64 x1), (2, .int .i64 x2), (8, .int .i64 (IntKind.i64.wrap ((1 : Int) + y7))), (9, .pointer (optA g15 v73898)), (11, .int .i64 v47785)] ∧ Eng.Own ok w w73900 [box (optL oL_member_Node g15 a73899 v73898)]) ?_ ?_
          · skip
            refine nc_seq ?_
            refine nc ?_
            refine nc_block ?_
            obtain ⟨o75560, hL75561, hO75562⟩ := bindS h
            obtain ⟨n75563, hL75561⟩ := loopS hL75561
            refine nc ?_
            refine loop_ruleA (fun k e w75567 => ∃ (a74453 : A_member_Node) (v74452 : Option O_member_Node) (v74454 : Int), iterM (fun s75570 : (Option O_member_Node) × Int => gemotlaw12_MemberOnce.b3 x1 x2 y7 v47785 s75570.1 s75570.2) k (v74452, v74454) = some o75560 ∧ e = [(1, .int .i64 x1), (2, .int .i64 x2), (8, .int .i64 (IntKind.i64.wrap ((1 : Int) + y7))), (9, .pointer (optA g15 v74452)), (11, .int .i64 v47785), (12, .int .i64 v74454)] ∧ Eng.Own ok w w75567 [box (optL oL_member_Node g15 a74453 v74452)]) ⟨a47784, _, _, hL75561, rfl, H.pickL [0] rfl⟩ ?_
            rintro k75572 _ w75571 ⟨a74453, v74452, v74454, hL75561, rfl, H⟩
            obtain ⟨k75566, rfl, q75564, h, hq75565⟩ := iterS hL75561
            replace h : gemotlaw12_MemberOnce.b3 x1 x2 y7 v47785 v74452 v74454 = some q75564 := h
            unfold gemotlaw12_MemberOnce.b3 at h
            refine nc_seq ?_
            refine nc_seq ?_
            refine nc ?_
            obtain ⟨y75573, hy75574, h⟩ := bindS h
            refine call_rule (by kernel_rfl) (gemotlaw12_pick_ok (ok := fun _ => False) hy75574) fun v75576 w75575 ⟨hv75577, hb75578⟩ => ?_
            subst hv75577
            replace H := H.call hb75578
            refine nc_cond rfl (fun hc75579 => ?_) (fun hc75579 => ?_)
            · replace h := condT hc75579 h
              refine nc ?_
              refine nc_cut (fun e w75851 => ∃ (a75850 : A_member_Node) (v75849 : O_member_Node), gemotlaw12_MemberOnce.k1 x1 x2 y7 v47785 v74454 v75849 = some q75564 ∧ e = [(1, .int .i64 x1), (2, .int .i64 x2), (8, .int .i64 (IntKind.i64.wrap ((1 : Int) + y7))), (9, .pointer (some ⟨g15, 0, none⟩)), (11, .int .i64 v47785), (12, .int .i64 v74454)] ∧ Eng.Own ok w w75851 [box (oL_member_Node g15 a75850 v75849)]) ?_ ?_
              · skip
                refine nc_block ?_
                refine nc_seq ?_
                refine nc ?_
                obtain ⟨y75853, hy75854, h⟩ := bindS h
                refine call_rule (by kernel_rfl) (term_Number_ok hy75854) fun v75856 w75855 ⟨hv75857, hb75858⟩ => ?_
                subst hv75857
                replace H := H.call hb75858
                obtain ⟨y75859, hy75860, h⟩ := bindS h
                replace H := H.someAt 0 rfl hy75860
                try rw [hy75860]
                obtain ⟨y75861, hy75862, h⟩ := bindS h
                refine call_rule (by kernel_rfl) (member_Node_Cast_ok (x0 := y75859) H hy75862) fun v75873 w75872 ⟨A75863, c75864, cs75865, A75867, c75868, cs75869, a75871, hv75874, H⟩ => ?_
                subst hv75874
                refine nc_seq ?_
                refine nc_seq ?_
                refine nc ?_
                refine nc_cond rfl (fun hc75875 => ?_) (fun hc75875 => ?_)
                · replace h := condT hc75875 h
                  refine nc_seq ?_
                  refine nc_seq ?_
                  refine nc ?_
                  refine nc_cond rfl (fun hc75876 => ?_) (fun hc75876 => ?_)
                  · replace h := condT hc75876 h
                    refine nc_seq ?_
                    refine nc ?_
                    refine nc ?_
                    cases h
                    replace hq75565 : (Sum.inr false) = o75560 := hq75565
                    subst hq75565
                    have h := hO75562
                    try dsimp only [Sum.elim_inl, Sum.elim_inr] at h
                    cases h
                    replace hq66890 : (Sum.inr false) = o66885 := hq66890
                    subst hq66890
                    have h := hO66887
                    try dsimp only [Sum.elim_inl, Sum.elim_inr] at h
                    replace h := Option.some.inj h
                    subst h
                    exact ret_inA [.bool false] ⟨_, rfl, ⟨rfl, H.frame⟩⟩
                  · replace h := condF hc75876 h
                    refine nc ?_
                    refine nc ?_
                    exact cut_inA ⟨a75871, _, h, rfl, H.pickL [4] rfl⟩
                · replace h := condF hc75875 h
                  refine nc ?_
                  refine nc_cut (fun e w75998 => ∃ (v75997 : Bool), gemotlaw12_MemberOnce.k2 x1 x2 y7 v47785 v74454 y75861 v75997 = some q75564 ∧ e = [(1, .int .i64 x1), (2, .int .i64 x2), (8, .int .i64 (IntKind.i64.wrap ((1 : Int) + y7))), (9, .pointer (some ⟨g15, 0, none⟩)), (11, .int .i64 v47785), (12, .int .i64 v74454), (117, .bool v75997)] ∧ Eng.Own ok w w75998 [box (oL_member_Node g15 a75871 y75861.2.2.2)]) ?_ ?_
                  · skip
                    rcases Bool.eq_false_or_eq_true (cond (cond (y75861.2.2.1 != (0 : Int)) true ((y75861.1.length : Int) != (0 : Int))) true ((y75861.2.1.length : Int) != (1 : Int))) with hg76060 | hg76060
                    · replace h := condT hg76060 h
                      refine nc ?_
                      refine draw_rule [] (by kernel_rfl) (by kernel_rfl) H ?_
                      refine c_skipIA (.pointer (some ⟨0, 0, none⟩)) (gF0 hg76060) ?_
                      refine c_skipLD (.int .i64 0) (gF0 hg76060) ?_
                      refine c_skipIA (.pointer (some ⟨0, 0, none⟩)) (gF0 (pickT hg76060)) ?_
                      refine c_skipLD (.int .i64 0) (gF0 (pickT hg76060)) ?_
                      refine c_skipIA (.pointer (some ⟨0, 0, none⟩)) (gF0 (pickT (pickT hg76060))) ?_
                      refine c_skipLD (.string (bs ([] : List UInt8))) (gF0 (pickT (pickT hg76060))) ?_
                      refine c_skipCL (.string (bs ([] : List UInt8))) (gF0 (pickT (pickT hg76060))) ?_
                      refine c_skipIA (.pointer (some ⟨0, 0, none⟩)) (gF0 (pickT (pickT (pickT hg76060)))) ?_
                      refine c_skipLD (.int .i64 0) (gF0 (pickT (pickT (pickT hg76060)))) ?_
                      intro w76061 H
                      exact cut_inA ⟨_, h, rfl, H.pickL [4] rfl⟩
                    · replace h := condF hg76060 h
                      replace H := H.freeze (k := t_member_Event) 3 2 rfl rfl
                      obtain ⟨y76063, hx76064, h⟩ := bindS h
                      obtain ⟨a76065, cs76066, rfl, hR76067, H⟩ := H.elemI 3 rfl hx76064
                      obtain ⟨u76069, rfl, hu76070⟩ := member_Event_cells hR76067
                      obtain ⟨A76071, c76072, rfl, H⟩ := H.openD hu76070
                      rcases Bool.eq_false_or_eq_true (y76063.2.2.1 != (IntKind.i64.wrap ((1 : Int) + y7))) with hg76074 | hg76074
                      · replace h := condT hg76074 h
                        refine nc ?_
                        refine draw_rule [] (by kernel_rfl) (by kernel_rfl) H ?_
                        refine c_idxA (e := 51) 7 _ (by kernel_rfl) (by kernel_rfl) (idxL_some hx76064).1 (idxL_some hx76064).2.1 ?_
                        refine c_loadD (a := (a76065 : Addr).add (((0 : Int)).toNat * (t_member_Event).sz)) 1 rfl 4 (by kernel_rfl) rfl ?_
                        refine c_skipIA (.pointer (some ⟨0, 0, none⟩)) (gF0 ((pickF hg76060).trans hg76074)) ?_
                        refine c_skipLD (.int .i64 0) (gF0 ((pickF hg76060).trans hg76074)) ?_
                        refine c_skipIA (.pointer (some ⟨0, 0, none⟩)) (gF0 (pickT ((pickF hg76060).trans hg76074))) ?_
                        refine c_skipLD (.string (bs ([] : List UInt8))) (gF0 (pickT ((pickF hg76060).trans hg76074))) ?_
                        refine c_skipCL (.string (bs ([] : List UInt8))) (gF0 (pickT ((pickF hg76060).trans hg76074))) ?_
                        refine c_skipIA (.pointer (some ⟨0, 0, none⟩)) (gF0 (pickT (pickT ((pickF hg76060).trans hg76074)))) ?_
                        refine c_skipLD (.int .i64 0) (gF0 (pickT (pickT ((pickF hg76060).trans hg76074)))) ?_
                        intro w76075 H
                        exact cut_inA ⟨_, h, rfl, H.pickL [6] rfl⟩
                      · replace h := condF hg76074 h
                        obtain ⟨y76076, hx76077, h⟩ := bindS h
                        obtain ⟨cs76079, hR76080, H⟩ := H.elemJ 5 rfl hx76077
                        obtain ⟨u76082, rfl, hu76083⟩ := member_Event_cells hR76080
                        obtain ⟨A76084, c76085, rfl, H⟩ := H.openD hu76083
                        rcases Bool.eq_false_or_eq_true (y76076.2.2.2.1 != (IntKind.i64.wrap (v74454 + (1 : Int)))) with hg76087 | hg76087
                        · replace h := condT hg76087 h
                          refine nc ?_
                          refine draw_rule [] (by kernel_rfl) (by kernel_rfl) H ?_
                          refine c_idxA (e := 51) 7 _ (by kernel_rfl) (by kernel_rfl) (idxL_some hx76064).1 (idxL_some hx76064).2.1 ?_
                          refine c_loadD (a := (a76065 : Addr).add (((0 : Int)).toNat * (t_member_Event).sz)) 3 rfl 4 (by kernel_rfl) rfl ?_
                          refine c_idxA (e := 51) 7 _ (by kernel_rfl) (by kernel_rfl) (idxL_some hx76077).1 (idxL_some hx76077).2.1 ?_
                          refine c_loadD (a := (a76065 : Addr).add (((0 : Int)).toNat * (t_member_Event).sz)) 1 rfl 5 (by kernel_rfl) rfl ?_
                          refine c_skipIA (.pointer (some ⟨0, 0, none⟩)) (gF0 ((pickF ((pickF hg76060).trans hg76074)).trans hg76087)) ?_
                          refine c_skipLD (.string (bs ([] : List UInt8))) (gF0 ((pickF ((pickF hg76060).trans hg76074)).trans hg76087)) ?_
                          refine c_skipCL (.string (bs ([] : List UInt8))) (gF0 ((pickF ((pickF hg76060).trans hg76074)).trans hg76087)) ?_
                          refine c_skipIA (.pointer (some ⟨0, 0, none⟩)) (gF0 (pickT ((pickF ((pickF hg76060).trans hg76074)).trans hg76087))) ?_
                          refine c_skipLD (.int .i64 0) (gF0 (pickT ((pickF ((pickF hg76060).trans hg76074)).trans hg76087))) ?_
                          intro w76088 H
                          exact cut_inA ⟨_, h, rfl, H.pickL [8] rfl⟩
                        · replace h := condF hg76087 h
                          obtain ⟨y76089, hx76090, h⟩ := bindS h
                          obtain ⟨cs76092, hR76093, H⟩ := H.elemJ 7 rfl hx76090
                          obtain ⟨u76095, rfl, hu76096⟩ := member_Event_cells hR76093
                          obtain ⟨A76097, c76098, rfl, H⟩ := H.openD hu76096
                          obtain ⟨y76100, hy76101, h⟩ := bindS h
                          rcases Bool.eq_false_or_eq_true (!(strEq y76089.2.2.2.2 y76100)) with hg76106 | hg76106
                          · replace h := condT hg76106 h
                            refine nc ?_
                            refine draw_rule [] (by kernel_rfl) (by kernel_rfl) H ?_
                            refine c_idxA (e := 51) 7 _ (by kernel_rfl) (by kernel_rfl) (idxL_some hx76064).1 (idxL_some hx76064).2.1 ?_
                            refine c_loadD (a := (a76065 : Addr).add (((0 : Int)).toNat * (t_member_Event).sz)) 5 rfl 4 (by kernel_rfl) rfl ?_
                            refine c_idxA (e := 51) 7 _ (by kernel_rfl) (by kernel_rfl) (idxL_some hx76077).1 (idxL_some hx76077).2.1 ?_
                            refine c_loadD (a := (a76065 : Addr).add (((0 : Int)).toNat * (t_member_Event).sz)) 3 rfl 5 (by kernel_rfl) rfl ?_
                            refine c_idxA (e := 51) 7 _ (by kernel_rfl) (by kernel_rfl) (idxL_some hx76090).1 (idxL_some hx76090).2.1 ?_
                            refine c_loadD (a := (a76065 : Addr).add (((0 : Int)).toNat * (t_member_Event).sz)) 1 rfl 6 (by kernel_rfl) rfl ?_
                            refine c_call (.string (bs y76100)) (by kernel_rfl) (fun _ _ H => term_Number_ok hy76101) ?_
                            refine c_skipIA (.pointer (some ⟨0, 0, none⟩)) (gF0 ((pickF ((pickF ((pickF hg76060).trans hg76074)).trans hg76087)).trans hg76106)) ?_
                            refine c_skipLD (.int .i64 0) (gF0 ((pickF ((pickF ((pickF hg76060).trans hg76074)).trans hg76087)).trans hg76106)) ?_
                            intro w76107 H
                            exact cut_inA ⟨_, h, rfl, H.pickL [10] rfl⟩
                          · replace h := condF hg76106 h
                            obtain ⟨y76108, hx76109, h⟩ := bindS h
                            obtain ⟨cs76111, hR76112, H⟩ := H.elemJ 9 rfl hx76109
                            obtain ⟨u76114, rfl, hu76115⟩ := member_Event_cells hR76112
                            obtain ⟨A76116, c76117, rfl, H⟩ := H.openD hu76115
                            refine nc ?_
                            refine draw_rule [] (by kernel_rfl) (by kernel_rfl) H ?_
                            refine c_idxA (e := 51) 7 _ (by kernel_rfl) (by kernel_rfl) (idxL_some hx76064).1 (idxL_some hx76064).2.1 ?_
                            refine c_loadD (a := (a76065 : Addr).add (((0 : Int)).toNat * (t_member_Event).sz)) 7 rfl 4 (by kernel_rfl) rfl ?_
                            refine c_idxA (e := 51) 7 _ (by kernel_rfl) (by kernel_rfl) (idxL_some hx76077).1 (idxL_some hx76077).2.1 ?_
                            refine c_loadD (a := (a76065 : Addr).add (((0 : Int)).toNat * (t_member_Event).sz)) 5 rfl 5 (by kernel_rfl) rfl ?_
                            refine c_idxA (e := 51) 7 _ (by kernel_rfl) (by kernel_rfl) (idxL_some hx76090).1 (idxL_some hx76090).2.1 ?_
                            refine c_loadD (a := (a76065 : Addr).add (((0 : Int)).toNat * (t_member_Event).sz)) 3 rfl 6 (by kernel_rfl) rfl ?_
                            refine c_call (.string (bs y76100)) (by kernel_rfl) (fun _ _ H => term_Number_ok hy76101) ?_
                            refine c_idxA (e := 51) 7 _ (by kernel_rfl) (by kernel_rfl) (idxL_some hx76109).1 (idxL_some hx76109).2.1 ?_
                            refine c_loadD 1 rfl 0 (by kernel_rfl) rfl ?_
                            intro w76119 H
                            exact cut_inA ⟨_, h, rfl, H.pickL [12] rfl⟩
                  · rintro _ w76120 ⟨v75997, h, rfl, H⟩
                    unfold gemotlaw12_MemberOnce.k2 at h
                    refine nc_cond rfl (fun hc76121 => ?_) (fun hc76121 => ?_)
                    · replace h := condT hc76121 h
                      refine nc_seq ?_
                      refine nc ?_
                      refine nc ?_
                      cases h
                      replace hq75565 : (Sum.inr false) = o75560 := hq75565
                      subst hq75565
                      have h := hO75562
                      try dsimp only [Sum.elim_inl, Sum.elim_inr] at h
                      cases h
                      replace hq66890 : (Sum.inr false) = o66885 := hq66890
                      subst hq66890
                      have h := hO66887
                      try dsimp only [Sum.elim_inl, Sum.elim_inr] at h
                      replace h := Option.some.inj h
                      subst h
                      exact ret_inA [.bool false] ⟨_, rfl, ⟨rfl, H.frame⟩⟩
                    · replace h := condF hc76121 h
                      refine nc ?_
                      exact cut_inA ⟨a75871, _, h, rfl, H.pickL [0] rfl⟩
              · rintro _ w76122 ⟨a75850, v75849, h, rfl, H⟩
                unfold gemotlaw12_MemberOnce.k1 at h
                refine nc ?_
                cases h
                exact again_inA ⟨a75850, _, _, hq75565, rfl, H.pickL [0] rfl⟩
            · replace h := condF hc75579 h
              refine nc ?_
              cases h
              replace hq75565 : (Sum.inl v74452) = o75560 := hq75565
              subst hq75565
              have h := hO75562
              try dsimp only [Sum.elim_inl, Sum.elim_inr] at h
              exact cut_inA ⟨a74453, _, h, rfl, H.pickL [0] rfl⟩
          · rintro _ w76123 ⟨a73899, v73898, h, rfl, H⟩
            unfold gemotlaw12_MemberOnce.k6 at h
            refine nc_seq ?_
            refine nc ?_
            obtain ⟨y76124, hy76125, h⟩ := bindS h
            replace H := H.someAt 0 rfl hy76125
            try rw [hy76125]
            obtain ⟨y76126, hy76127, h⟩ := bindS h
            refine call_rule (by kernel_rfl) (member_Node_View_ok (x0 := y76124) H hy76127) fun v76132 w76131 ⟨A76128, c76129, hv76133, H⟩ => ?_
            subst hv76133
            refine own_alloc (z := .agg #[.int .i64 0, .int .i64 0]) H (by kernel_rfl) [.int .i64 0, .int .i64 0] rfl fun g76135 w76136 H => ?_
            refine own_storeB (m := 2) H 0 rfl (by kernel_rfl) [.int .i64 y76126.1.1, .int .i64 y76126.1.2] rfl rfl rfl rfl fun w76137 H => ?_
            refine nc_seq ?_
            refine nc ?_
            refine own_load H 0 rfl (by kernel_rfl) (j := 0) rfl ?_
            replace H := H.pickL [2, 0, 1] rfl
            try dsimp only [lastL, pickI, List.drop, List.take, List.set, List.eraseIdx, List.getElem?_cons_zero, List.getElem?_cons_succ, List.cons_append, List.nil_append, List.map] at H
            obtain ⟨y76138, hy76139, h⟩ := bindS h
            refine call_rule (by kernel_rfl) (member_Node_Heed_ok (x0 := y76124) (x1 := ((IntKind.i64.wrap (y76126.1.1 + (5 : Int))), (1 : Int))) H hy76139) fun v76142 w76141 ⟨a76140, hv76143, H⟩ => ?_
            subst hv76143
            refine nc_seq ?_
            refine nc ?_
            refine own_buildSlice (e := 3) (sz := 1) (z := .int .i64 0) (cs := [.int .i64 (IntKind.i64.wrap ((1 : Int) + y7))]) H (by kernel_rfl) (by kernel_rfl) (by kernel_rfl) rfl rfl rfl rfl fun g76145 w76146 H => ?_
            replace H := H.blkSl (k := (tInt .i64)) [(IntKind.i64.wrap ((1 : Int) + y7))] 1 rfl rfl (by decide) ⟨_, _, rfl, rfl, rfl⟩
            replace H := H.pickL [1, 0, 2, 3] rfl
            try dsimp only [lastL, pickI, List.drop, List.take, List.set, List.eraseIdx, List.getElem?_cons_zero, List.getElem?_cons_succ, List.cons_append, List.nil_append, List.map] at H
            obtain ⟨y76148, hy76149, h⟩ := bindS h
            refine call_rule (by kernel_rfl) (member_Node_Suggest_ok (x0 := y76138) H (H.dat 1 rfl) hy76149) fun v76160 w76159 ⟨A76150, c76151, cs76152, A76154, c76155, cs76156, a76158, hv76161, H⟩ => ?_
            subst hv76161
            refine nc_cut (fun e w76302 => ∃ (v76301 : Bool), gemotlaw12_MemberOnce.k5 x1 x2 y7 v47785 y76148 v76301 = some q66889 ∧ e = [(1, .int .i64 x1), (2, .int .i64 x2), (8, .int .i64 (IntKind.i64.wrap ((1 : Int) + y7))), (9, .pointer (some ⟨g15, 0, none⟩)), (11, .int .i64 v47785), (176, .bool v76301)] ∧ Eng.Own ok w w76302 [box (oL_member_Node g15 a76158 y76148.2.2)]) ?_ ?_
            · skip
              obtain ⟨A76320, c76321, b76322, al76323, A76324, c76325, g76326, a76327, A76328, c76329, cs76330, A76331, c76332, cs76333, A76334, c76335, cs76336⟩ := a76158
              replace H := H.openAs 4 (oU_member_Node g15 ⟨A76320, c76321, b76322, al76323, A76324, c76325, g76326, a76327, A76328, c76329, cs76330, A76331, c76332, cs76333, A76334, c76335, cs76336⟩ y76148.2.2) rfl rfl
              try dsimp only [oU_member_Node, lastL, pickI, List.drop, List.take, List.set, List.eraseIdx, List.getElem?_cons_zero, List.getElem?_cons_succ, List.cons_append, List.nil_append, List.map] at H
              rcases Bool.eq_false_or_eq_true (cond ((y76148.1.length : Int) != (0 : Int)) true ((y76148.2.1.length : Int) != (1 : Int))) with hg76394 | hg76394
              · replace h := condT hg76394 h
                refine nc ?_
                refine draw_rule [] (by kernel_rfl) (by kernel_rfl) H ?_
                refine c_skipIA (.pointer (some ⟨0, 0, none⟩)) (gF0 hg76394) ?_
                refine c_skipLD (.int .i64 0) (gF0 hg76394) ?_
                refine c_skipCL (.agg #[.int .i64 0, .int .i64 0, .slice none 0 0]) (gF0 (pickT hg76394)) ?_
                refine c_skipLD (.int .i64 0) (gF0 (pickT hg76394)) ?_
                refine c_skipCL (.agg #[.int .i64 0, .int .i64 0, .slice none 0 0]) (gF0 (pickT (pickT hg76394))) ?_
                refine c_skipCL (.slice none 0 0) (gF0 (pickT (pickT (pickT hg76394)))) ?_
                refine c_skipCL (.bool false) (gF0 (pickT (pickT (pickT (pickT hg76394))))) ?_
                intro w76395 H
                replace H := (H.pickL [0, 1, 2, 3, 4, 5, 6, 7, 8, 9, 10, 11, 12, 13, 14, 15, 16, 17, 18] rfl).shutAs 12 (oL_member_Node g15 (A76320, c76321, b76322, al76323, A76324, c76325, g76326, a76327, A76328, c76329, cs76330, A76331, c76332, cs76333, A76334, c76335, cs76336) y76148.2.2) rfl
                try dsimp only [lastL, pickI, List.drop, List.take, List.set, List.eraseIdx, List.getElem?_cons_zero, List.getElem?_cons_succ, List.cons_append, List.nil_append, List.map] at H
                exact cut_inA ⟨_, h, rfl, H.pickL [0] rfl⟩
              · replace h := condF hg76394 h
                replace H := H.freeze (k := t_member_Event) 15 14 rfl rfl
                obtain ⟨y76397, hx76398, h⟩ := bindS h
                obtain ⟨a76399, cs76400, rfl, hR76401, H⟩ := H.elemI 15 rfl hx76398
                obtain ⟨u76403, rfl, hu76404⟩ := member_Event_cells hR76401
                obtain ⟨A76405, c76406, rfl, H⟩ := H.openD hu76404
                rcases Bool.eq_false_or_eq_true (y76397.1 != (2 : Int)) with hg76408 | hg76408
                · replace h := condT hg76408 h
                  refine nc ?_
                  refine draw_rule [] (by kernel_rfl) (by kernel_rfl) H ?_
                  refine c_idxA (e := 51) 7 _ (by kernel_rfl) (by kernel_rfl) (idxL_some hx76398).1 (idxL_some hx76398).2.1 ?_
                  refine c_loadD 1 rfl 0 (by kernel_rfl) rfl ?_
                  refine c_skipCL (.agg #[.int .i64 0, .int .i64 0, .slice none 0 0]) (gF0 ((pickF hg76394).trans hg76408)) ?_
                  refine c_skipLD (.int .i64 0) (gF0 ((pickF hg76394).trans hg76408)) ?_
                  refine c_skipCL (.agg #[.int .i64 0, .int .i64 0, .slice none 0 0]) (gF0 (pickT ((pickF hg76394).trans hg76408))) ?_
                  refine c_skipCL (.slice none 0 0) (gF0 (pickT (pickT ((pickF hg76394).trans hg76408)))) ?_
                  refine c_skipCL (.bool false) (gF0 (pickT (pickT (pickT ((pickF hg76394).trans hg76408))))) ?_
                  intro w76409 H
                  replace H := (H.pickL [2, 3, 4, 5, 6, 7, 8, 9, 10, 11, 12, 13, 0, 1, 14, 15, 17, 18, 19, 20] rfl).shutAs 12 (oL_member_Node g15 (A76320, c76321, b76322, al76323, A76324, c76325, g76326, a76327, A76328, c76329, cs76330, A76331, c76332, cs76333, A76334, c76335, cs76336) y76148.2.2) rfl
                  try dsimp only [lastL, pickI, List.drop, List.take, List.set, List.eraseIdx, List.getElem?_cons_zero, List.getElem?_cons_succ, List.cons_append, List.nil_append, List.map] at H
                  exact cut_inA ⟨_, h, rfl, H.pickL [0] rfl⟩
                · replace h := condF hg76408 h
                  obtain ⟨y76410, hy76411, h⟩ := bindS h
                  rcases Bool.eq_false_or_eq_true (y76410.1.1 != (IntKind.i64.wrap (y76126.1.1 + (6 : Int)))) with hg76417 | hg76417
                  · replace h := condT hg76417 h
                    try dsimp only [lastL, pickI, List.drop, List.take, List.set, List.eraseIdx, List.getElem?_cons_zero, List.getElem?_cons_succ, List.cons_append, List.nil_append, List.map] at H
                    refine nc ?_
                    refine draw_rule [] (by kernel_rfl) (by kernel_rfl) H ?_
                    refine c_idxA (e := 51) 7 _ (by kernel_rfl) (by kernel_rfl) (idxL_some hx76398).1 (idxL_some hx76398).2.1 ?_
                    refine c_loadD 1 rfl 0 (by kernel_rfl) rfl ?_
                    refine c_callRd [2, 3, 4, 5, 6, 7, 8, 9, 10, 11, 12, 13, 0, 1, 14, 15, 16, 17, 18, 19, 20] 12 (oL_member_Node g15 (A76320, c76321, b76322, al76323, A76324, c76325, g76326, a76327, A76328, c76329, cs76330, A76331, c76332, cs76333, A76334, c76335, cs76336) y76148.2.2) (fun v X => ∃ A76412, ∃ c76413, v = .agg #[.int .i64 y76410.1.1, .int .i64 y76410.1.2, .slice A76412 y76410.2.length c76413] ∧ X = [dSl (tInt .i64) (.slice A76412 y76410.2.length c76413) y76410.2]) (gT0 ((pickF hg76394).trans hg76408) rfl) (by kernel_rfl) rfl rfl (fun _ H => Calls.mono (member_Node_View_ok (x0 := y76148.2.2) H hy76411) fun e w' ⟨v, he, A76412, c76413, hv, H⟩ => ⟨v, he, _, ⟨A76412, c76413, hv, rfl⟩, H⟩) ?_
                    rintro v76415 X76416 ⟨A76412, c76413, rfl, rfl⟩
                    dsimp only [subLb, lastL, pickI, List.drop, List.take, List.set, List.eraseIdx, List.getElem?_cons_zero, List.getElem?_cons_succ, List.cons_append, List.nil_append, List.map]
                    refine c_load 19 rfl (by kernel_rfl) (j := 0) rfl ?_
                    refine c_skipCL (.agg #[.int .i64 0, .int .i64 0, .slice none 0 0]) (gF0 ((pickF ((pickF hg76394).trans hg76408)).trans hg76417)) ?_
                    refine c_skipCL (.slice none 0 0) (gF0 (pickT ((pickF ((pickF hg76394).trans hg76408)).trans hg76417))) ?_
                    refine c_skipCL (.bool false) (gF0 (pickT (pickT ((pickF ((pickF hg76394).trans hg76408)).trans hg76417)))) ?_
                    intro w76418 H
                    dsimp only [lastL, pickI, List.drop, List.take, List.set, List.eraseIdx, List.getElem?_cons_zero, List.getElem?_cons_succ, List.cons_append, List.nil_append, List.map] at H
                    replace H := (H.pickL [3, 4, 5, 6, 7, 8, 9, 10, 11, 12, 13, 14, 0, 1, 2, 15, 16, 18, 19, 20, 21] rfl).shutAs 12 (oL_member_Node g15 (A76320, c76321, b76322, al76323, A76324, c76325, g76326, a76327, A76328, c76329, cs76330, A76331, c76332, cs76333, A76334, c76335, cs76336) y76148.2.2) rfl
                    try dsimp only [lastL, pickI, List.drop, List.take, List.set, List.eraseIdx, List.getElem?_cons_zero, List.getElem?_cons_succ, List.cons_append, List.nil_append, List.map] at H
                    exact cut_inA ⟨_, h, rfl, H.pickL [0] rfl⟩
                  · replace h := condF hg76417 h
                    obtain ⟨y76419, hy76420, h⟩ := bindS h
                    rcases Bool.eq_false_or_eq_true (y76419.1.2 != (IntKind.i64.wrap ((1 : Int) + y7))) with hg76426 | hg76426
                    · replace h := condT hg76426 h
                      try dsimp only [lastL, pickI, List.drop, List.take, List.set, List.eraseIdx, List.getElem?_cons_zero, List.getElem?_cons_succ, List.cons_append, List.nil_append, List.map] at H
                      refine nc ?_
                      refine draw_rule [] (by kernel_rfl) (by kernel_rfl) H ?_
                      refine c_idxA (e := 51) 7 _ (by kernel_rfl) (by kernel_rfl) (idxL_some hx76398).1 (idxL_some hx76398).2.1 ?_
                      refine c_loadD 1 rfl 0 (by kernel_rfl) rfl ?_
                      refine c_callRd [2, 3, 4, 5, 6, 7, 8, 9, 10, 11, 12, 13, 0, 1, 14, 15, 16, 17, 18, 19, 20] 12 (oL_member_Node g15 (A76320, c76321, b76322, al76323, A76324, c76325, g76326, a76327, A76328, c76329, cs76330, A76331, c76332, cs76333, A76334, c76335, cs76336) y76148.2.2) (fun v X => ∃ A76412, ∃ c76413, v = .agg #[.int .i64 y76410.1.1, .int .i64 y76410.1.2, .slice A76412 y76410.2.length c76413] ∧ X = [dSl (tInt .i64) (.slice A76412 y76410.2.length c76413) y76410.2]) (gT0 ((pickF hg76394).trans hg76408) rfl) (by kernel_rfl) rfl rfl (fun _ H => Calls.mono (member_Node_View_ok (x0 := y76148.2.2) H hy76411) fun e w' ⟨v, he, A76412, c76413, hv, H⟩ => ⟨v, he, _, ⟨A76412, c76413, hv, rfl⟩, H⟩) ?_
                      rintro v76415 X76416 ⟨A76412, c76413, rfl, rfl⟩
                      dsimp only [subLb, lastL, pickI, List.drop, List.take, List.set, List.eraseIdx, List.getElem?_cons_zero, List.getElem?_cons_succ, List.cons_append, List.nil_append, List.map]
                      refine c_load 19 rfl (by kernel_rfl) (j := 0) rfl ?_
                      refine c_callRd [3, 4, 5, 6, 7, 8, 9, 10, 11, 12, 13, 14, 0, 1, 2, 15, 16, 17, 18, 19, 20, 21] 12 (oL_member_Node g15 (A76320, c76321, b76322, al76323, A76324, c76325, g76326, a76327, A76328, c76329, cs76330, A76331, c76332, cs76333, A76334, c76335, cs76336) y76148.2.2) (fun v X => ∃ A76421, ∃ c76422, v = .agg #[.int .i64 y76419.1.1, .int .i64 y76419.1.2, .slice A76421 y76419.2.length c76422] ∧ X = [dSl (tInt .i64) (.slice A76421 y76419.2.length c76422) y76419.2]) (gT0 ((pickF ((pickF hg76394).trans hg76408)).trans hg76417) rfl) (by kernel_rfl) rfl rfl (fun _ H => Calls.mono (member_Node_View_ok (x0 := y76148.2.2) H hy76420) fun e w' ⟨v, he, A76421, c76422, hv, H⟩ => ⟨v, he, _, ⟨A76421, c76422, hv, rfl⟩, H⟩) ?_
                      rintro v76424 X76425 ⟨A76421, c76422, rfl, rfl⟩
                      dsimp only [subLb, lastL, pickI, List.drop, List.take, List.set, List.eraseIdx, List.getElem?_cons_zero, List.getElem?_cons_succ, List.cons_append, List.nil_append, List.map]
                      refine c_skipCL (.slice none 0 0) (gF0 ((pickF ((pickF ((pickF hg76394).trans hg76408)).trans hg76417)).trans hg76426)) ?_
                      refine c_skipCL (.bool false) (gF0 (pickT ((pickF ((pickF ((pickF hg76394).trans hg76408)).trans hg76417)).trans hg76426))) ?_
                      intro w76427 H
                      dsimp only [lastL, pickI, List.drop, List.take, List.set, List.eraseIdx, List.getElem?_cons_zero, List.getElem?_cons_succ, List.cons_append, List.nil_append, List.map] at H
                      replace H := (H.pickL [4, 5, 6, 7, 8, 9, 10, 11, 12, 13, 14, 15, 0, 1, 2, 3, 16, 17, 19, 20, 21, 22] rfl).shutAs 12 (oL_member_Node g15 (A76320, c76321, b76322, al76323, A76324, c76325, g76326, a76327, A76328, c76329, cs76330, A76331, c76332, cs76333, A76334, c76335, cs76336) y76148.2.2) rfl
                      try dsimp only [lastL, pickI, List.drop, List.take, List.set, List.eraseIdx, List.getElem?_cons_zero, List.getElem?_cons_succ, List.cons_append, List.nil_append, List.map] at H
                      exact cut_inA ⟨_, h, rfl, H.pickL [0] rfl⟩
                    · replace h := condF hg76426 h
                      obtain ⟨y76428, hy76429, h⟩ := bindS h
                      rcases Bool.eq_false_or_eq_true ((y76428.length : Int) != (0 : Int)) with hg76436 | hg76436
                      · replace h := condT hg76436 h
                        try dsimp only [lastL, pickI, List.drop, List.take, List.set, List.eraseIdx, List.getElem?_cons_zero, List.getElem?_cons_succ, List.cons_append, List.nil_append, List.map] at H
                        refine nc ?_
                        refine draw_rule [] (by kernel_rfl) (by kernel_rfl) H ?_
                        refine c_idxA (e := 51) 7 _ (by kernel_rfl) (by kernel_rfl) (idxL_some hx76398).1 (idxL_some hx76398).2.1 ?_
                        refine c_loadD 1 rfl 0 (by kernel_rfl) rfl ?_
                        refine c_callRd [2, 3, 4, 5, 6, 7, 8, 9, 10, 11, 12, 13, 0, 1, 14, 15, 16, 17, 18, 19, 20] 12 (oL_member_Node g15 (A76320, c76321, b76322, al76323, A76324, c76325, g76326, a76327, A76328, c76329, cs76330, A76331, c76332, cs76333, A76334, c76335, cs76336) y76148.2.2) (fun v X => ∃ A76412, ∃ c76413, v = .agg #[.int .i64 y76410.1.1, .int .i64 y76410.1.2, .slice A76412 y76410.2.length c76413] ∧ X = [dSl (tInt .i64) (.slice A76412 y76410.2.length c76413) y76410.2]) (gT0 ((pickF hg76394).trans hg76408) rfl) (by kernel_rfl) rfl rfl (fun _ H => Calls.mono (member_Node_View_ok (x0 := y76148.2.2) H hy76411) fun e w' ⟨v, he, A76412, c76413, hv, H⟩ => ⟨v, he, _, ⟨A76412, c76413, hv, rfl⟩, H⟩) ?_
                        rintro v76415 X76416 ⟨A76412, c76413, rfl, rfl⟩
                        dsimp only [subLb, lastL, pickI, List.drop, List.take, List.set, List.eraseIdx, List.getElem?_cons_zero, List.getElem?_cons_succ, List.cons_append, List.nil_append, List.map]
                        refine c_load 19 rfl (by kernel_rfl) (j := 0) rfl ?_
                        refine c_callRd [3, 4, 5, 6, 7, 8, 9, 10, 11, 12, 13, 14, 0, 1, 2, 15, 16, 17, 18, 19, 20, 21] 12 (oL_member_Node g15 (A76320, c76321, b76322, al76323, A76324, c76325, g76326, a76327, A76328, c76329, cs76330, A76331, c76332, cs76333, A76334, c76335, cs76336) y76148.2.2) (fun v X => ∃ A76421, ∃ c76422, v = .agg #[.int .i64 y76419.1.1, .int .i64 y76419.1.2, .slice A76421 y76419.2.length c76422] ∧ X = [dSl (tInt .i64) (.slice A76421 y76419.2.length c76422) y76419.2]) (gT0 ((pickF ((pickF hg76394).trans hg76408)).trans hg76417) rfl) (by kernel_rfl) rfl rfl (fun _ H => Calls.mono (member_Node_View_ok (x0 := y76148.2.2) H hy76420) fun e w' ⟨v, he, A76421, c76422, hv, H⟩ => ⟨v, he, _, ⟨A76421, c76422, hv, rfl⟩, H⟩) ?_
                        rintro v76424 X76425 ⟨A76421, c76422, rfl, rfl⟩
                        dsimp only [subLb, lastL, pickI, List.drop, List.take, List.set, List.eraseIdx, List.getElem?_cons_zero, List.getElem?_cons_succ, List.cons_append, List.nil_append, List.map]
                        refine c_callRd [4, 5, 6, 7, 8, 9, 10, 11, 12, 13, 14, 15, 0, 1, 2, 3, 16, 17, 18, 19, 20, 21, 22] 12 (oL_member_Node g15 (A76320, c76321, b76322, al76323, A76324, c76325, g76326, a76327, A76328, c76329, cs76330, A76331, c76332, cs76333, A76334, c76335, cs76336) y76148.2.2) (fun v X => ∃ A76430, ∃ c76431, v = .slice A76430 y76428.length c76431 ∧ X = [dSl t_cut_Log (.slice A76430 y76428.length c76431) y76428]) (gT0 ((pickF ((pickF ((pickF hg76394).trans hg76408)).trans hg76417)).trans hg76426) rfl) (by kernel_rfl) rfl rfl (fun _ H => Calls.mono (member_Node_Logs_ok (x0 := y76148.2.2) H hy76429) fun e w' ⟨v, he, A76430, c76431, cs76432, hv, H⟩ => ⟨v, he, _, ⟨A76430, c76431, hv, rfl⟩, (H.freeze (k := t_cut_Log) 1 0 rfl rfl).tail⟩) ?_
                        rintro v76434 X76435 ⟨A76430, c76431, rfl, rfl⟩
                        dsimp only [subLb, lastL, pickI, List.drop, List.take, List.set, List.eraseIdx, List.getElem?_cons_zero, List.getElem?_cons_succ, List.cons_append, List.nil_append, List.map]
                        refine c_skipCL (.bool false) (gF0 ((pickF ((pickF ((pickF ((pickF hg76394).trans hg76408)).trans hg76417)).trans hg76426)).trans hg76436)) ?_
                        intro w76437 H
                        dsimp only [lastL, pickI, List.drop, List.take, List.set, List.eraseIdx, List.getElem?_cons_zero, List.getElem?_cons_succ, List.cons_append, List.nil_append, List.map] at H
                        replace H := (H.pickL [5, 6, 7, 8, 9, 10, 11, 12, 13, 14, 15, 16, 0, 1, 2, 3, 4, 17, 18, 20, 21, 22, 23] rfl).shutAs 12 (oL_member_Node g15 (A76320, c76321, b76322, al76323, A76324, c76325, g76326, a76327, A76328, c76329, cs76330, A76331, c76332, cs76333, A76334, c76335, cs76336) y76148.2.2) rfl
                        try dsimp only [lastL, pickI, List.drop, List.take, List.set, List.eraseIdx, List.getElem?_cons_zero, List.getElem?_cons_succ, List.cons_append, List.nil_append, List.map] at H
                        exact cut_inA ⟨_, h, rfl, H.pickL [0] rfl⟩
                      · replace h := condF hg76436 h
                        obtain ⟨y76438, hy76439, h⟩ := bindS h
                        try dsimp only [lastL, pickI, List.drop, List.take, List.set, List.eraseIdx, List.getElem?_cons_zero, List.getElem?_cons_succ, List.cons_append, List.nil_append, List.map] at H
                        refine nc ?_
                        refine draw_rule [] (by kernel_rfl) (by kernel_rfl) H ?_
                        refine c_idxA (e := 51) 7 _ (by kernel_rfl) (by kernel_rfl) (idxL_some hx76398).1 (idxL_some hx76398).2.1 ?_
                        refine c_loadD 1 rfl 0 (by kernel_rfl) rfl ?_
                        refine c_callRd [2, 3, 4, 5, 6, 7, 8, 9, 10, 11, 12, 13, 0, 1, 14, 15, 16, 17, 18, 19, 20] 12 (oL_member_Node g15 (A76320, c76321, b76322, al76323, A76324, c76325, g76326, a76327, A76328, c76329, cs76330, A76331, c76332, cs76333, A76334, c76335, cs76336) y76148.2.2) (fun v X => ∃ A76412, ∃ c76413, v = .agg #[.int .i64 y76410.1.1, .int .i64 y76410.1.2, .slice A76412 y76410.2.length c76413] ∧ X = [dSl (tInt .i64) (.slice A76412 y76410.2.length c76413) y76410.2]) (gT0 ((pickF hg76394).trans hg76408) rfl) (by kernel_rfl) rfl rfl (fun _ H => Calls.mono (member_Node_View_ok (x0 := y76148.2.2) H hy76411) fun e w' ⟨v, he, A76412, c76413, hv, H⟩ => ⟨v, he, _, ⟨A76412, c76413, hv, rfl⟩, H⟩) ?_
                        rintro v76415 X76416 ⟨A76412, c76413, rfl, rfl⟩
                        dsimp only [subLb, lastL, pickI, List.drop, List.take, List.set, List.eraseIdx, List.getElem?_cons_zero, List.getElem?_cons_succ, List.cons_append, List.nil_append, List.map]
                        refine c_load 19 rfl (by kernel_rfl) (j := 0) rfl ?_
                        refine c_callRd [3, 4, 5, 6, 7, 8, 9, 10, 11, 12, 13, 14, 0, 1, 2, 15, 16, 17, 18, 19, 20, 21] 12 (oL_member_Node g15 (A76320, c76321, b76322, al76323, A76324, c76325, g76326, a76327, A76328, c76329, cs76330, A76331, c76332, cs76333, A76334, c76335, cs76336) y76148.2.2) (fun v X => ∃ A76421, ∃ c76422, v = .agg #[.int .i64 y76419.1.1, .int .i64 y76419.1.2, .slice A76421 y76419.2.length c76422] ∧ X = [dSl (tInt .i64) (.slice A76421 y76419.2.length c76422) y76419.2]) (gT0 ((pickF ((pickF hg76394).trans hg76408)).trans hg76417) rfl) (by kernel_rfl) rfl rfl (fun _ H => Calls.mono (member_Node_View_ok (x0 := y76148.2.2) H hy76420) fun e w' ⟨v, he, A76421, c76422, hv, H⟩ => ⟨v, he, _, ⟨A76421, c76422, hv, rfl⟩, H⟩) ?_
                        rintro v76424 X76425 ⟨A76421, c76422, rfl, rfl⟩
                        dsimp only [subLb, lastL, pickI, List.drop, List.take, List.set, List.eraseIdx, List.getElem?_cons_zero, List.getElem?_cons_succ, List.cons_append, List.nil_append, List.map]
                        refine c_callRd [4, 5, 6, 7, 8, 9, 10, 11, 12, 13, 14, 15, 0, 1, 2, 3, 16, 17, 18, 19, 20, 21, 22] 12 (oL_member_Node g15 (A76320, c76321, b76322, al76323, A76324, c76325, g76326, a76327, A76328, c76329, cs76330, A76331, c76332, cs76333, A76334, c76335, cs76336) y76148.2.2) (fun v X => ∃ A76430, ∃ c76431, v = .slice A76430 y76428.length c76431 ∧ X = [dSl t_cut_Log (.slice A76430 y76428.length c76431) y76428]) (gT0 ((pickF ((pickF ((pickF hg76394).trans hg76408)).trans hg76417)).trans hg76426) rfl) (by kernel_rfl) rfl rfl (fun _ H => Calls.mono (member_Node_Logs_ok (x0 := y76148.2.2) H hy76429) fun e w' ⟨v, he, A76430, c76431, cs76432, hv, H⟩ => ⟨v, he, _, ⟨A76430, c76431, hv, rfl⟩, (H.freeze (k := t_cut_Log) 1 0 rfl rfl).tail⟩) ?_
                        rintro v76434 X76435 ⟨A76430, c76431, rfl, rfl⟩
                        dsimp only [subLb, lastL, pickI, List.drop, List.take, List.set, List.eraseIdx, List.getElem?_cons_zero, List.getElem?_cons_succ, List.cons_append, List.nil_append, List.map]
                        refine c_callRd [5, 6, 7, 8, 9, 10, 11, 12, 13, 14, 15, 16, 0, 1, 2, 3, 4, 17, 18, 19, 20, 21, 22, 23] 12 (oL_member_Node g15 (A76320, c76321, b76322, al76323, A76324, c76325, g76326, a76327, A76328, c76329, cs76330, A76331, c76332, cs76333, A76334, c76335, cs76336) y76148.2.2) (fun v X => v = .bool y76438 ∧ X = []) (gT0 ((pickF ((pickF ((pickF ((pickF hg76394).trans hg76408)).trans hg76417)).trans hg76426)).trans hg76436) rfl) (by kernel_rfl) rfl rfl (fun _ H => Calls.mono (member_Node_Flushing_ok (x0 := y76148.2.2) H hy76439) fun e w' ⟨v, he, hv, H⟩ => ⟨v, he, _, ⟨hv, rfl⟩, H⟩) ?_
                        rintro v76440 X76441 ⟨rfl, rfl⟩
                        dsimp only [subLb, lastL, pickI, List.drop, List.take, List.set, List.eraseIdx, List.getElem?_cons_zero, List.getElem?_cons_succ, List.cons_append, List.nil_append, List.map]
                        intro w76442 H
                        dsimp only [lastL, pickI, List.drop, List.take, List.set, List.eraseIdx, List.getElem?_cons_zero, List.getElem?_cons_succ, List.cons_append, List.nil_append, List.map] at H
                        replace H := (H.pickL [5, 6, 7, 8, 9, 10, 11, 12, 13, 14, 15, 16, 0, 1, 2, 3, 4, 17, 18, 20, 21, 22, 23] rfl).shutAs 12 (oL_member_Node g15 (A76320, c76321, b76322, al76323, A76324, c76325, g76326, a76327, A76328, c76329, cs76330, A76331, c76332, cs76333, A76334, c76335, cs76336) y76148.2.2) rfl
                        try dsimp only [lastL, pickI, List.drop, List.take, List.set, List.eraseIdx, List.getElem?_cons_zero, List.getElem?_cons_succ, List.cons_append, List.nil_append, List.map] at H
                        exact cut_inA ⟨_, h, rfl, H.pickL [0] rfl⟩
            · rintro _ w76443 ⟨v76301, h, rfl, H⟩
              unfold gemotlaw12_MemberOnce.k5 at h
              refine nc_cond rfl (fun hc76444 => ?_) (fun hc76444 => ?_)
              · replace h := condT hc76444 h
                refine nc_seq ?_
                refine nc ?_
                refine nc ?_
                cases h
                replace hq66890 : (Sum.inr false) = o66885 := hq66890
                subst hq66890
                have h := hO66887
                try dsimp only [Sum.elim_inl, Sum.elim_inr] at h
                replace h := Option.some.inj h
                subst h
                exact ret_inA [.bool false] ⟨_, rfl, ⟨rfl, H.frame⟩⟩
              · replace h := condF hc76444 h
                refine nc ?_
                exact cut_inA ⟨a76158, _, h, rfl, H.pickL [0] rfl⟩
        · rintro _ w76445 ⟨a71674, v71673, h, rfl, H⟩
          unfold gemotlaw12_MemberOnce.k4 at h
          refine nc ?_
          cases h
          exact again_inA ⟨a71674, _, _, hq66890, rfl, H.pickL [0] rfl⟩
      · replace h := condF hc66904 h
        refine nc ?_
        cases h
        replace hq66890 : (Sum.inl ()) = o66885 := hq66890
        subst hq66890
        have h := hO66887
        try dsimp only [Sum.elim_inl, Sum.elim_inr] at h
        exact cut_inA ⟨h, rfl, H.pickL [] rfl⟩
    · rintro _ w76446 ⟨h, rfl, H⟩
      unfold gemotlaw12_MemberOnce.k8 at h
      refine nc_seq ?_
      refine nc ?_
      refine nc ?_
      replace h := Option.some.inj h
      subst h
      exact ret_inA [.bool true] ⟨_, rfl, ⟨rfl, H.frame⟩⟩
end Go.Proofs.Ytipoblinefamgaa.G
