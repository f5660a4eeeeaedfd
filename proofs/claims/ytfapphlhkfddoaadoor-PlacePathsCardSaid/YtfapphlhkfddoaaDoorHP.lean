/- Walks, printed by a program of this proof's own. -/
import Derived.Test.YtfapphlhkfddoaaDoorHM
import Derived.Test.YtfapphlhkfddoaaDoorTwo
import Derived.KernelRfl
namespace Go.Proofs.YtfapphlhkfddoaaDoor.G
open Go.RowKit Go.Eng Go.Proofs
set_option linter.unusedVariables false
set_option maxRecDepth 20000
/-! gemot/gemotlaw14.PlacePaths -/
noncomputable def gemotlaw14_PlacePaths.k1 (y13 : (List UInt8)) (y19 : (List Int)) (v12668 : Int) (y19000 : (List (List UInt8))) (y19018 : (List (List UInt8))) (v19390 : Int) (v20199 : Bool) : Option (Int ⊕ (Unit ⊕ Bool)) := cond v20199 (some (.inr (Sum.inr false))) (some (.inl (IntKind.i64.wrap (v19390 + (1 : Int)))))
noncomputable def gemotlaw14_PlacePaths.b2 (y13 : (List UInt8)) (y19 : (List Int)) (v12668 : Int) (y19000 : (List (List UInt8))) (y19018 : (List (List UInt8))) (v19390 : Int) : Option (Int ⊕ (Unit ⊕ Bool)) := cond (decide (v19390 < (y19018.length : Int))) ((idxL y19000 v19390).bind fun y20113 => (place_At.f y13 y20113).bind fun y20119 => (idxL y19018 v19390).bind fun y20125 => (place_At.f y13 y20125).bind fun y20131 => (idxL y19000 (IntKind.i64.wrap (v19390 + (1 : Int)))).bind fun y20137 => (place_At.f y13 y20137).bind fun y20143 => cond (cond (cond (y20119.2 != (0 : Int)) true (y20131.2 != (0 : Int))) true (y20143.2 != (0 : Int))) (gemotlaw14_PlacePaths.k1 y13 y19 v12668 y19000 y19018 v19390 (cond (cond (cond (cond (cond (y20119.2 != (0 : Int)) true (y20131.2 != (0 : Int))) true (y20143.2 != (0 : Int))) true false) true (cond (!(strEq y20143.1 ([] : List UInt8))) (!(strEq y20143.1 ([] : List UInt8))) false)) true (!(strEq ([] : List UInt8) ([] : List UInt8))))) ((tree_Members.f y20131.1).bind fun y20204 => (idxL y19 v12668).bind fun y20213 => (gemotref10_Has.f y20204 y20213).bind fun y20219 => roomM 1 ([40].length + y20119.1.length) (roomM 1 (([40] ++ y20119.1).length + y20131.1.length) (roomM 1 ((([40] ++ y20119.1) ++ y20131.1).length + [41].length) (roomM 1 ([40].length + y20131.1.length) (roomM 1 (([40] ++ y20131.1).length + y20119.1.length) (roomM 1 ((([40] ++ y20131.1) ++ y20119.1).length + [41].length) (cond (cond (cond (cond (cond (y20119.2 != (0 : Int)) true (y20131.2 != (0 : Int))) true (y20143.2 != (0 : Int))) true y20219) true (cond (!(strEq y20143.1 ((([40] ++ y20119.1) ++ y20131.1) ++ [41]))) (!(strEq y20143.1 ((([40] ++ y20131.1) ++ y20119.1) ++ [41]))) false)) (gemotlaw14_PlacePaths.k1 y13 y19 v12668 y19000 y19018 v19390 (cond (cond (cond (cond (cond (y20119.2 != (0 : Int)) true (y20131.2 != (0 : Int))) true (y20143.2 != (0 : Int))) true y20219) true (cond (!(strEq y20143.1 ((([40] ++ y20119.1) ++ y20131.1) ++ [41]))) (!(strEq y20143.1 ((([40] ++ y20131.1) ++ y20119.1) ++ [41]))) false)) true (!(strEq ([] : List UInt8) ([] : List UInt8))))) ((idxL y19018 v19390).bind fun y20233 => (place_Beside.f y20233).bind fun y20239 => (idxL y19000 v19390).bind fun y20245 => gemotlaw14_PlacePaths.k1 y13 y19 v12668 y19000 y19018 v19390 (cond (cond (cond (cond (cond (y20119.2 != (0 : Int)) true (y20131.2 != (0 : Int))) true (y20143.2 != (0 : Int))) true y20219) true (cond (!(strEq y20143.1 ((([40] ++ y20119.1) ++ y20131.1) ++ [41]))) (!(strEq y20143.1 ((([40] ++ y20131.1) ++ y20119.1) ++ [41]))) false)) true (!(strEq y20239 y20245)))))))))))) (some (.inr (Sum.inl ())))
noncomputable def gemotlaw14_PlacePaths.k3 (y13 : (List UInt8)) (y19 : (List Int)) (v12668 : Int) : Option (Int ⊕ (Unit ⊕ Bool)) := some (.inl (IntKind.i64.wrap (v12668 + (1 : Int))))
noncomputable def gemotlaw14_PlacePaths.k4 (y13 : (List UInt8)) (y19 : (List Int)) (v12668 : Int) (y19000 : (List (List UInt8))) (y19018 : (List (List UInt8))) (v19056 : Bool) : Option (Int ⊕ (Unit ⊕ Bool)) := cond v19056 (some (.inr (Sum.inr false))) ((idxL y19000 (0 : Int)).bind fun y19068 => (place_At.f y13 y19068).bind fun y19074 => (tree_Members.f y19074.1).bind fun y19080 => (idxL y19 v12668).bind fun y19089 => (gemotref10_Same.f y19080 ([y19089] : List Int)).bind fun y19099 => cond (!y19099) (some (.inr (Sum.inr false))) ((loopM (fun s19968 : Int => gemotlaw14_PlacePaths.b2 y13 y19 v12668 y19000 y19018 s19968) (0 : Int)).bind (Sum.elim (fun (o19966 : Unit) => gemotlaw14_PlacePaths.k3 y13 y19 v12668) (fun (o19967 : Bool) => some (.inr (Sum.inr o19967))))))
noncomputable def gemotlaw14_PlacePaths.b5 (y13 : (List UInt8)) (y19 : (List Int)) (v12668 : Int) : Option (Int ⊕ (Unit ⊕ Bool)) := cond (decide (v12668 < (y19.length : Int))) ((idxL y19 v12668).bind fun y18994 => (place_Path.f y13 y18994).bind fun y19000 => (idxL y19 v12668).bind fun y19012 => (place_Co.f y13 y19012).bind fun y19018 => cond ((y19000.length : Int) != (IntKind.i64.wrap ((y19018.length : Int) + (1 : Int)))) (gemotlaw14_PlacePaths.k4 y13 y19 v12668 y19000 y19018 (cond ((y19000.length : Int) != (IntKind.i64.wrap ((y19018.length : Int) + (1 : Int)))) true (!(strEq ([] : List UInt8) ([] : List UInt8))))) ((idxL y19000 (IntKind.i64.wrap ((y19000.length : Int) - (1 : Int)))).bind fun y19060 => gemotlaw14_PlacePaths.k4 y13 y19 v12668 y19000 y19018 (cond ((y19000.length : Int) != (IntKind.i64.wrap ((y19018.length : Int) + (1 : Int)))) true (!(strEq y19060 ([] : List UInt8)))))) (some (.inr (Sum.inl ())))
noncomputable def gemotlaw14_PlacePaths.k6 : Option (Bool) := some true
noncomputable def gemotlaw14_PlacePaths.f (x0 : List Int) : Option (Bool) := (gemotlaw14_shown.f).bind fun y6 => cond (!y6) (some false) ((gemotlaw14_made.f x0).bind fun y13 => (tree_Members.f y13).bind fun y19 => (loopM (fun s17728 : Int => gemotlaw14_PlacePaths.b5 y13 y19 s17728) (0 : Int)).bind (Sum.elim (fun (o17726 : Unit) => gemotlaw14_PlacePaths.k6) (fun (o17727 : Bool) => some o17727)))
set_option maxHeartbeats 4000000 in
theorem gemotlaw14_PlacePaths_ok {ok : Nat → Prop} {w : World} {u1 : Value} {x0 : List Int} {r : Bool} (hu2 : slR (tInt .i64) w ok u1 x0) (h : gemotlaw14_PlacePaths.f x0 = some r) :
    Calls Tryd.prog 3 #[u1] w fun e w' => ∃ v, e = .returned v ∧ (v = .bool r ∧ Bel w.heap.size w w') := by
  have H : Eng.Own ok w w [] := Eng.Own.nil ok w
  obtain ⟨A3, c4, rfl, H⟩ := H.arg rfl hu2
  unfold gemotlaw14_PlacePaths.f at h
  refine enterN (args := [.slice A3 x0.length c4]) Tryd.func3 rfl Tryd.ntmps3 rfl rfl ?_
  refine nc_seq ?_
  refine nc ?_
  refine nc_seq ?_
  refine nc ?_
  obtain ⟨y6, hy7, h⟩ := bindS h
  refine call_rule (by kernel_rfl) (gemotlaw14_shown_ok (ok := fun _ => False) hy7) fun v9 w8 ⟨hv10, hb11⟩ => ?_
  subst hv10
  replace H := H.call hb11
  refine nc_seq ?_
  refine nc_seq ?_
  refine nc ?_
  refine nc_cond rfl (fun hc12 => ?_) (fun hc12 => ?_)
  · replace h := condT hc12 h
    refine nc_seq ?_
    refine nc ?_
    refine nc ?_
    replace h := Option.some.inj h
    subst h
    exact ret_inA [.bool false] ⟨_, rfl, ⟨rfl, H.frame⟩⟩
  · replace h := condF hc12 h
    refine nc ?_
    refine nc_seq ?_
    refine nc ?_
    obtain ⟨y13, hy14, h⟩ := bindS h
    refine call_rule (by kernel_rfl) (gemotlaw14_made_ok (H.dat 0 rfl) hy14) fun v16 w15 ⟨hv17, hb18⟩ => ?_
    subst hv17
    replace H := H.call hb18
    refine nc_seq ?_
    refine nc ?_
    obtain ⟨y19, hy20, h⟩ := bindS h
    refine call_rule (by kernel_rfl) (tree_Members_ok (ok := fun _ => False) hy20) fun u25 w21 ⟨hu26, hb24⟩ => ?_
    replace H := H.callDats hb24 [dSl (tInt .i64) u25 y19] ⟨(slR_any hu26), trivial⟩
    obtain ⟨A27, c28, hA29, _⟩ := H.sl 0 rfl
    subst hA29
    refine nc_cut (fun e w10142 => gemotlaw14_PlacePaths.k6 = some r ∧ e = [] ∧ Eng.Own ok w w10142 []) ?_ ?_
    · skip
      refine nc_seq ?_
      refine nc ?_
      refine nc_block ?_
      obtain ⟨o17718, hL17719, hO17720⟩ := bindS h
      obtain ⟨n17721, hL17719⟩ := loopS hL17719
      refine nc ?_
      refine loop_ruleA (fun k e w17725 => ∃ (v12668 : Int), iterM (fun s17728 : Int => gemotlaw14_PlacePaths.b5 y13 y19 s17728) k v12668 = some o17718 ∧ e = [(4, .string (bs y13)), (5, .slice A27 y19.length c28), (6, .int .i64 v12668)] ∧ Eng.Own ok w w17725 [.dat (dSl (tInt .i64) (.slice A27 y19.length c28) y19)]) ⟨_, hL17719, rfl, H.pickL [0] rfl⟩ ?_
      rintro k17730 _ w17729 ⟨v12668, hL17719, rfl, H⟩
      obtain ⟨k17724, rfl, q17722, h, hq17723⟩ := iterS hL17719
      replace h : gemotlaw14_PlacePaths.b5 y13 y19 v12668 = some q17722 := h
      unfold gemotlaw14_PlacePaths.b5 at h
      refine nc_seq ?_
      refine nc_seq ?_
      refine nc ?_
      refine nc_cond rfl (fun hc17731 => ?_) (fun hc17731 => ?_)
      · replace h := condT hc17731 h
        refine nc ?_
        refine nc_cut (fun e w18992 => gemotlaw14_PlacePaths.k3 y13 y19 v12668 = some q17722 ∧ e = [(4, .string (bs y13)), (5, .slice A27 y19.length c28), (6, .int .i64 v12668)] ∧ Eng.Own ok w w18992 [.dat (dSl (tInt .i64) (.slice A27 y19.length c28) y19)]) ?_ ?_
        · skip
          refine nc_block ?_
          refine nc_seq ?_
          refine nc ?_
          obtain ⟨y18994, hx18995, h⟩ := bindS h
          obtain ⟨a18996, cs18997, rfl, hR18998, H⟩ := H.elemI 0 rfl hx18995
          obtain rfl : cs18997 = [.int .i64 y18994] := hR18998
          refine idxA_rule (e := 3) 1 _ (by kernel_rfl) (by kernel_rfl) (idxL_some hx18995).1 (idxL_some hx18995).2.1 ?_
          refine own_loadD H 0 rfl 0 (by kernel_rfl) rfl ?_
          obtain ⟨y19000, hy19001, h⟩ := bindS h
          refine call_rule (by kernel_rfl) (place_Path_ok (ok := fun _ => False) hy19001) fun u19006 w19002 ⟨hu19007, hb19005⟩ => ?_
          replace H := H.callDats hb19005 [dSl tStr u19006 y19000] ⟨(slR_any hu19007), trivial⟩
          obtain ⟨A19008, c19009, hA19010, _⟩ := H.sl 0 rfl
          subst hA19010
          refine nc_seq ?_
          refine nc ?_
          obtain ⟨y19012, hx19013, h⟩ := bindS h
          obtain ⟨cs19015, hR19016, H⟩ := H.elemJ 2 rfl hx19013
          obtain rfl : cs19015 = [.int .i64 y19012] := hR19016
          refine idxA_rule (e := 3) 1 _ (by kernel_rfl) (by kernel_rfl) (idxL_some hx19013).1 (idxL_some hx19013).2.1 ?_
          refine own_loadD H 0 rfl 0 (by kernel_rfl) rfl ?_
          obtain ⟨y19018, hy19019, h⟩ := bindS h
          refine call_rule (by kernel_rfl) (place_Co_ok (ok := fun _ => False) hy19019) fun u19024 w19020 ⟨hu19025, hb19023⟩ => ?_
          replace H := H.callDats hb19023 [dSl tStr u19024 y19018] ⟨(rowOut_sl (rowOut_any hu19025) hb19023), trivial⟩
          obtain ⟨A19026, c19027, hA19028, _⟩ := H.sl 0 rfl
          subst hA19028
          refine nc_seq ?_
          refine nc_cut (fun e w19057 => ∃ (v19056 : Bool), gemotlaw14_PlacePaths.k4 y13 y19 v12668 y19000 y19018 v19056 = some q17722 ∧ e = [(4, .string (bs y13)), (5, .slice (some a18996) y19.length c28), (6, .int .i64 v12668), (7, .slice A19008 y19000.length c19009), (8, .slice A19026 y19018.length c19027), (57, .bool v19056)] ∧ Eng.Own ok w w19057 [.dat (dSl (tInt .i64) (.slice (some a18996) y19.length c28) y19), .dat (dSl tStr (.slice A19008 y19000.length c19009) y19000), .dat (dSl tStr (.slice A19026 y19018.length c19027) y19018)]) ?_ ?_
          · skip
            refine nc ?_
            rcases Bool.eq_false_or_eq_true ((y19000.length : Int) != (IntKind.i64.wrap ((y19018.length : Int) + (1 : Int)))) with hg19059 | hg19059
            · replace h := condT hg19059 h
              refine skipIA (.pointer (some ⟨0, 0, none⟩)) (gF0 hg19059) ?_
              refine skipLD (.string (bs ([] : List UInt8))) (gF0 hg19059) ?_
              exact cut_inA ⟨_, h, rfl, H.pickL [4, 2, 0] rfl⟩
            · replace h := condF hg19059 h
              obtain ⟨y19060, hx19061, h⟩ := bindS h
              obtain ⟨a19062, cs19063, rfl, hR19064, H⟩ := H.elemI 2 rfl hx19061
              obtain rfl : cs19063 = [.string (bs y19060)] := hR19064
              refine idxA_rule (e := 9) 1 _ (by kernel_rfl) (by kernel_rfl) (idxL_some hx19061).1 (idxL_some hx19061).2.1 ?_
              refine own_loadD H 0 rfl 0 (by kernel_rfl) rfl ?_
              exact cut_inA ⟨_, h, rfl, H.pickL [5, 3, 1] rfl⟩
          · rintro _ w19066 ⟨v19056, h, rfl, H⟩
            unfold gemotlaw14_PlacePaths.k4 at h
            refine nc_cond rfl (fun hc19067 => ?_) (fun hc19067 => ?_)
            · replace h := condT hc19067 h
              refine nc_seq ?_
              refine nc ?_
              refine nc ?_
              cases h
              replace hq17723 : (Sum.inr false) = o17718 := hq17723
              subst hq17723
              have h := hO17720
              try dsimp only [Sum.elim_inl, Sum.elim_inr] at h
              replace h := Option.some.inj h
              subst h
              exact ret_inA [.bool false] ⟨_, rfl, ⟨rfl, H.frame⟩⟩
            · replace h := condF hc19067 h
              refine nc ?_
              refine nc_seq ?_
              refine nc ?_
              obtain ⟨y19068, hx19069, h⟩ := bindS h
              obtain ⟨a19070, cs19071, rfl, hR19072, H⟩ := H.elemI 1 rfl hx19069
              obtain rfl : cs19071 = [.string (bs y19068)] := hR19072
              refine idxA_rule (e := 9) 1 _ (by kernel_rfl) (by kernel_rfl) (idxL_some hx19069).1 (idxL_some hx19069).2.1 ?_
              refine own_loadD H 0 rfl 0 (by kernel_rfl) rfl ?_
              obtain ⟨y19074, hy19075, h⟩ := bindS h
              refine call_rule (by kernel_rfl) (place_At_ok hy19075) fun v19077 w19076 ⟨hv19078, hb19079⟩ => ?_
              subst hv19078
              replace H := H.call hb19079
              refine nc_seq ?_
              refine nc_seq ?_
              obtain ⟨y19080, hy19081, h⟩ := bindS h
              obtain ⟨y19089, hx19090, h⟩ := bindS h
              obtain ⟨cs19092, hR19093, H⟩ := H.elemJ 1 rfl hx19090
              obtain rfl : cs19092 = [.int .i64 y19089] := hR19093
              obtain ⟨y19099, hy19100, h⟩ := bindS h
              refine nc ?_
              refine draw_two 1 6 [0, 1, 2, 3, 4, 5, 6, 7, 8] [2, 3, 4, 5, 6, 0, 1, 7, 8] [5, 6, 0, 1, 2, 3, 4, 7, 8] [] [] (by kernel_rfl) (by kernel_rfl) (by kernel_rfl) (by kernel_rfl) H ?_ ?_
              · refine c_callS0 rfl (by kernel_rfl) (fun _ H => tree_Members_ok (ok := fun _ => False) hy19081) ?_
                intro A19086 c19087
                refine c_idxA (e := 3) 1 _ (by kernel_rfl) (by kernel_rfl) (idxL_some hx19090).1 (idxL_some hx19090).2.1 ?_
                refine c_loadD 0 rfl 0 (by kernel_rfl) rfl ?_
                refine c_buildData (k := (tInt .i64)) (e := 3) (z := .int .i64 0) [.int .i64 y19089] [y19089] (by kernel_rfl) (by kernel_rfl) (by kernel_rfl) rfl rfl rfl rfl rfl rfl (by decide) (fun _ _ H => ⟨_, _, rfl, rfl, rfl⟩) ?_
                intro g19096
                refine c_call (.bool y19099) (by kernel_rfl) (fun _ _ H => gemotref10_Same_ok (H.dat 1 rfl) (H.dat 0 rfl) hy19100) ?_
                intro w19105 H
                refine nc_cond rfl (fun hc19106 => ?_) (fun hc19106 => ?_)
                · replace h := condT hc19106 h
                  refine nc_seq ?_
                  refine nc ?_
                  refine nc ?_
                  cases h
                  replace hq17723 : (Sum.inr false) = o17718 := hq17723
                  subst hq17723
                  have h := hO17720
                  try dsimp only [Sum.elim_inl, Sum.elim_inr] at h
                  replace h := Option.some.inj h
                  subst h
                  exact ret_inA [.bool false] ⟨_, rfl, ⟨rfl, H.frame⟩⟩
                · replace h := condF hc19106 h
                  refine nc ?_
                  refine nc_seq ?_
                  refine nc ?_
                  refine nc_block ?_
                  obtain ⟨o19958, hL19959, hO19960⟩ := bindS h
                  obtain ⟨n19961, hL19959⟩ := loopS hL19959
                  refine nc ?_
                  refine loop_ruleA (fun k e w19965 => ∃ (v19390 : Int), iterM (fun s19968 : Int => gemotlaw14_PlacePaths.b2 y13 y19 v12668 y19000 y19018 s19968) k v19390 = some o19958 ∧ e = [(4, .string (bs y13)), (5, .slice (some a18996) y19.length c28), (6, .int .i64 v12668), (7, .slice (some a19070) y19000.length c19009), (8, .slice A19026 y19018.length c19027), (11, .int .i64 v19390)] ∧ Eng.Own ok w w19965 [.dat (dSl (tInt .i64) (.slice (some a18996) y19.length c28) y19), .dat (dSl tStr (.slice (some a19070) y19000.length c19009) y19000), .dat (dSl tStr (.slice A19026 y19018.length c19027) y19018)]) ⟨_, hL19959, rfl, H.pickL [4, 5, 6] rfl⟩ ?_
                  rintro k19970 _ w19969 ⟨v19390, hL19959, rfl, H⟩
                  obtain ⟨k19964, rfl, q19962, h, hq19963⟩ := iterS hL19959
                  replace h : gemotlaw14_PlacePaths.b2 y13 y19 v12668 y19000 y19018 v19390 = some q19962 := h
                  unfold gemotlaw14_PlacePaths.b2 at h
                  refine nc_seq ?_
                  refine nc_seq ?_
                  refine nc ?_
                  refine nc_cond rfl (fun hc19971 => ?_) (fun hc19971 => ?_)
                  · replace h := condT hc19971 h
                    refine nc ?_
                    refine nc_seq ?_
                    refine nc_block ?_
                    refine nc_seq ?_
                    refine nc ?_
                    obtain ⟨y20113, hx20114, h⟩ := bindS h
                    obtain ⟨cs20116, hR20117, H⟩ := H.elemJ 1 rfl hx20114
                    obtain rfl : cs20116 = [.string (bs y20113)] := hR20117
                    refine idxA_rule (e := 9) 1 _ (by kernel_rfl) (by kernel_rfl) (idxL_some hx20114).1 (idxL_some hx20114).2.1 ?_
                    refine own_loadD H 0 rfl 0 (by kernel_rfl) rfl ?_
                    obtain ⟨y20119, hy20120, h⟩ := bindS h
                    refine call_rule (by kernel_rfl) (place_At_ok hy20120) fun v20122 w20121 ⟨hv20123, hb20124⟩ => ?_
                    subst hv20123
                    replace H := H.call hb20124
                    refine nc_seq ?_
                    refine nc ?_
                    obtain ⟨y20125, hx20126, h⟩ := bindS h
                    obtain ⟨a20127, cs20128, rfl, hR20129, H⟩ := H.elemI 3 rfl hx20126
                    obtain rfl : cs20128 = [.string (bs y20125)] := hR20129
                    refine idxA_rule (e := 9) 1 _ (by kernel_rfl) (by kernel_rfl) (idxL_some hx20126).1 (idxL_some hx20126).2.1 ?_
                    refine own_loadD H 0 rfl 0 (by kernel_rfl) rfl ?_
                    obtain ⟨y20131, hy20132, h⟩ := bindS h
                    refine call_rule (by kernel_rfl) (place_At_ok hy20132) fun v20134 w20133 ⟨hv20135, hb20136⟩ => ?_
                    subst hv20135
                    replace H := H.call hb20136
                    refine nc_seq ?_
                    refine nc ?_
                    obtain ⟨y20137, hx20138, h⟩ := bindS h
                    obtain ⟨cs20140, hR20141, H⟩ := H.elemJ 3 rfl hx20138
                    obtain rfl : cs20140 = [.string (bs y20137)] := hR20141
                    refine idxA_rule (e := 9) 1 _ (by kernel_rfl) (by kernel_rfl) (idxL_some hx20138).1 (idxL_some hx20138).2.1 ?_
                    refine own_loadD H 0 rfl 0 (by kernel_rfl) rfl ?_
                    obtain ⟨y20143, hy20144, h⟩ := bindS h
                    refine call_rule (by kernel_rfl) (place_At_ok hy20144) fun v20146 w20145 ⟨hv20147, hb20148⟩ => ?_
                    subst hv20147
                    replace H := H.call hb20148
                    refine nc_cut (fun e w20200 => ∃ (v20199 : Bool), gemotlaw14_PlacePaths.k1 y13 y19 v12668 y19000 y19018 v19390 v20199 = some q19962 ∧ e = [(4, .string (bs y13)), (5, .slice (some a18996) y19.length c28), (6, .int .i64 v12668), (7, .slice (some a19070) y19000.length c19009), (8, .slice (some a20127) y19018.length c19027), (11, .int .i64 v19390), (157, .bool v20199)] ∧ Eng.Own ok w w20200 [.dat (dSl (tInt .i64) (.slice (some a18996) y19.length c28) y19), .dat (dSl tStr (.slice (some a19070) y19000.length c19009) y19000), .dat (dSl tStr (.slice (some a20127) y19018.length c19027) y19018)]) ?_ ?_
                    · skip
                      rcases Bool.eq_false_or_eq_true (cond (cond (y20119.2 != (0 : Int)) true (y20131.2 != (0 : Int))) true (y20143.2 != (0 : Int))) with hg20202 | hg20202
                      · replace h := condT hg20202 h
                        refine nc ?_
                        refine draw_rule [] (by kernel_rfl) (by kernel_rfl) H ?_
                        refine c_skipCL (.slice none 0 0) (gF0 hg20202) ?_
                        refine c_skipIA (.pointer (some ⟨0, 0, none⟩)) (gF0 hg20202) ?_
                        refine c_skipLD (.int .i64 0) (gF0 hg20202) ?_
                        refine c_skipCL (.bool false) (gF0 hg20202) ?_
                        refine c_skipBN (.string (bs ([] : List UInt8))) (gF0 (pickT hg20202)) ?_
                        refine c_skipBN (.string (bs ([] : List UInt8))) (gF0 (pickT hg20202)) ?_
                        refine c_skipBN (.string (bs ([] : List UInt8))) (gF0 (pickT hg20202)) ?_
                        refine c_skipBN (.string (bs ([] : List UInt8))) (by first | exact gFr (gF0 (pickT hg20202)) | exact (gF0 (pickT hg20202)) | rfl) ?_
                        refine c_skipBN (.string (bs ([] : List UInt8))) (by first | exact gFr (gF0 (pickT hg20202)) | exact (gF0 (pickT hg20202)) | rfl) ?_
                        refine c_skipBN (.string (bs ([] : List UInt8))) (by first | exact gFr (gF0 (pickT hg20202)) | exact (gF0 (pickT hg20202)) | rfl) ?_
                        refine c_skipIA (.pointer (some ⟨0, 0, none⟩)) (gF0 (pickT (pickT hg20202))) ?_
                        refine c_skipLD (.string (bs ([] : List UInt8))) (gF0 (pickT (pickT hg20202))) ?_
                        refine c_skipCL (.string (bs ([] : List UInt8))) (gF0 (pickT (pickT hg20202))) ?_
                        refine c_skipIA (.pointer (some ⟨0, 0, none⟩)) (gF0 (pickT (pickT hg20202))) ?_
                        refine c_skipLD (.string (bs ([] : List UInt8))) (gF0 (pickT (pickT hg20202))) ?_
                        intro w20203 H
                        exact cut_inA ⟨_, h, rfl, H.pickL [3, 4, 5] rfl⟩
                      · replace h := condF hg20202 h
                        obtain ⟨y20204, hy20205, h⟩ := bindS h
                        obtain ⟨y20213, hx20214, h⟩ := bindS h
                        obtain ⟨cs20216, hR20217, H⟩ := H.elemJ 3 rfl hx20214
                        obtain rfl : cs20216 = [.int .i64 y20213] := hR20217
                        obtain ⟨y20219, hy20220, h⟩ := bindS h
                        obtain ⟨hr20225, h⟩ := roomS h
                        obtain ⟨hr20226, h⟩ := roomS h
                        obtain ⟨hr20227, h⟩ := roomS h
                        obtain ⟨hr20228, h⟩ := roomS h
                        obtain ⟨hr20229, h⟩ := roomS h
                        obtain ⟨hr20230, h⟩ := roomS h
                        rcases Bool.eq_false_or_eq_true (cond (cond (cond (cond (y20119.2 != (0 : Int)) true (y20131.2 != (0 : Int))) true (y20143.2 != (0 : Int))) true y20219) true (cond (!(strEq y20143.1 ((([40] ++ y20119.1) ++ y20131.1) ++ [41]))) (!(strEq y20143.1 ((([40] ++ y20131.1) ++ y20119.1) ++ [41]))) false)) with hg20231 | hg20231
                        · replace h := condT hg20231 h
                          refine nc ?_
                          refine draw_rule [] (by kernel_rfl) (by kernel_rfl) H ?_
                          refine c_callS0 (gT0 hg20202 rfl) (by kernel_rfl) (fun _ H => tree_Members_ok (ok := fun _ => False) hy20205) ?_
                          intro A20210 c20211
                          refine c_idxA (e := 3) 1 _ (by kernel_rfl) (by kernel_rfl) (idxL_some hx20214).1 (idxL_some hx20214).2.1 ?_
                          refine c_loadD 0 rfl 0 (by kernel_rfl) rfl ?_
                          refine c_call (.bool y20219) (by kernel_rfl) (fun _ _ H => gemotref10_Has_ok (H.dat 0 rfl) hy20220) ?_
                          refine c_catM hr20225 ?_
                          refine c_catM hr20226 ?_
                          refine c_catM hr20227 ?_
                          refine c_catM hr20228 ?_
                          refine c_catM hr20229 ?_
                          refine c_catM hr20230 ?_
                          refine c_skipIA (.pointer (some ⟨0, 0, none⟩)) (gF0 hg20231) ?_
                          refine c_skipLD (.string (bs ([] : List UInt8))) (gF0 hg20231) ?_
                          refine c_skipCL (.string (bs ([] : List UInt8))) (gF0 hg20231) ?_
                          refine c_skipIA (.pointer (some ⟨0, 0, none⟩)) (gF0 hg20231) ?_
                          refine c_skipLD (.string (bs ([] : List UInt8))) (gF0 hg20231) ?_
                          intro w20232 H
                          exact cut_inA ⟨_, h, rfl, H.pickL [5, 6, 7] rfl⟩
                        · replace h := condF hg20231 h
                          obtain ⟨y20233, hx20234, h⟩ := bindS h
                          obtain ⟨cs20236, hR20237, H⟩ := H.elemJ 6 rfl hx20234
                          obtain rfl : cs20236 = [.string (bs y20233)] := hR20237
                          obtain ⟨y20239, hy20240, h⟩ := bindS h
                          obtain ⟨y20245, hx20246, h⟩ := bindS h
                          obtain ⟨cs20248, hR20249, H⟩ := H.elemJ 6 rfl hx20246
                          obtain rfl : cs20248 = [.string (bs y20245)] := hR20249
                          refine nc ?_
                          refine draw_rule [] (by kernel_rfl) (by kernel_rfl) H ?_
                          refine c_callS0 (gT0 hg20202 rfl) (by kernel_rfl) (fun _ H => tree_Members_ok (ok := fun _ => False) hy20205) ?_
                          intro A20210 c20211
                          refine c_idxA (e := 3) 1 _ (by kernel_rfl) (by kernel_rfl) (idxL_some hx20214).1 (idxL_some hx20214).2.1 ?_
                          refine c_loadD 2 rfl 0 (by kernel_rfl) rfl ?_
                          refine c_call (.bool y20219) (by kernel_rfl) (fun _ _ H => gemotref10_Has_ok (H.dat 0 rfl) hy20220) ?_
                          refine c_catM hr20225 ?_
                          refine c_catM hr20226 ?_
                          refine c_catM hr20227 ?_
                          refine c_catM hr20228 ?_
                          refine c_catM hr20229 ?_
                          refine c_catM hr20230 ?_
                          refine c_idxA (e := 9) 1 _ (by kernel_rfl) (by kernel_rfl) (idxL_some hx20234).1 (idxL_some hx20234).2.1 ?_
                          refine c_loadD 1 rfl 0 (by kernel_rfl) rfl ?_
                          refine c_call (.string (bs y20239)) (by kernel_rfl) (fun _ _ H => place_Beside_ok (ok := fun _ => False) hy20240) ?_
                          refine c_idxA (e := 9) 1 _ (by kernel_rfl) (by kernel_rfl) (idxL_some hx20246).1 (idxL_some hx20246).2.1 ?_
                          refine c_loadD 0 rfl 0 (by kernel_rfl) rfl ?_
                          intro w20251 H
                          exact cut_inA ⟨_, h, rfl, H.pickL [7, 8, 9] rfl⟩
                    · rintro _ w20252 ⟨v20199, h, rfl, H⟩
                      unfold gemotlaw14_PlacePaths.k1 at h
                      refine nc_cond rfl (fun hc20253 => ?_) (fun hc20253 => ?_)
                      · replace h := condT hc20253 h
                        refine nc_seq ?_
                        refine nc ?_
                        refine nc ?_
                        cases h
                        replace hq19963 : (Sum.inr false) = o19958 := hq19963
                        subst hq19963
                        have h := hO19960
                        try dsimp only [Sum.elim_inl, Sum.elim_inr] at h
                        cases h
                        replace hq17723 : (Sum.inr false) = o17718 := hq17723
                        subst hq17723
                        have h := hO17720
                        try dsimp only [Sum.elim_inl, Sum.elim_inr] at h
                        replace h := Option.some.inj h
                        subst h
                        exact ret_inA [.bool false] ⟨_, rfl, ⟨rfl, H.frame⟩⟩
                      · replace h := condF hc20253 h
                        refine nc ?_
                        refine nc ?_
                        cases h
                        exact again_inA ⟨_, hq19963, rfl, H.pickL [0, 1, 2] rfl⟩
                  · replace h := condF hc19971 h
                    refine nc ?_
                    cases h
                    replace hq19963 : (Sum.inl ()) = o19958 := hq19963
                    subst hq19963
                    have h := hO19960
                    try dsimp only [Sum.elim_inl, Sum.elim_inr] at h
                    exact cut_inA ⟨h, rfl, H.pickL [0] rfl⟩
              · refine c_idxA (e := 3) 1 _ (by kernel_rfl) (by kernel_rfl) (idxL_some hx19090).1 (idxL_some hx19090).2.1 ?_
                refine c_loadD 0 rfl 0 (by kernel_rfl) rfl ?_
                refine c_buildData (k := (tInt .i64)) (e := 3) (z := .int .i64 0) [.int .i64 y19089] [y19089] (by kernel_rfl) (by kernel_rfl) (by kernel_rfl) rfl rfl rfl rfl rfl rfl (by decide) (fun _ _ H => ⟨_, _, rfl, rfl, rfl⟩) ?_
                intro g19096
                refine c_callS0 rfl (by kernel_rfl) (fun _ H => tree_Members_ok (ok := fun _ => False) hy19081) ?_
                intro A19086 c19087
                refine c_call (.bool y19099) (by kernel_rfl) (fun _ _ H => gemotref10_Same_ok (H.dat 0 rfl) (H.dat 1 rfl) hy19100) ?_
                intro w19105 H
                refine nc_cond rfl (fun hc19106 => ?_) (fun hc19106 => ?_)
                · replace h := condT hc19106 h
                  refine nc_seq ?_
                  refine nc ?_
                  refine nc ?_
                  cases h
                  replace hq17723 : (Sum.inr false) = o17718 := hq17723
                  subst hq17723
                  have h := hO17720
                  try dsimp only [Sum.elim_inl, Sum.elim_inr] at h
                  replace h := Option.some.inj h
                  subst h
                  exact ret_inA [.bool false] ⟨_, rfl, ⟨rfl, H.frame⟩⟩
                · replace h := condF hc19106 h
                  refine nc ?_
                  refine nc_seq ?_
                  refine nc ?_
                  refine nc_block ?_
                  obtain ⟨o19958, hL19959, hO19960⟩ := bindS h
                  obtain ⟨n19961, hL19959⟩ := loopS hL19959
                  refine nc ?_
                  refine loop_ruleA (fun k e w19965 => ∃ (v19390 : Int), iterM (fun s19968 : Int => gemotlaw14_PlacePaths.b2 y13 y19 v12668 y19000 y19018 s19968) k v19390 = some o19958 ∧ e = [(4, .string (bs y13)), (5, .slice (some a18996) y19.length c28), (6, .int .i64 v12668), (7, .slice (some a19070) y19000.length c19009), (8, .slice A19026 y19018.length c19027), (11, .int .i64 v19390)] ∧ Eng.Own ok w w19965 [.dat (dSl (tInt .i64) (.slice (some a18996) y19.length c28) y19), .dat (dSl tStr (.slice (some a19070) y19000.length c19009) y19000), .dat (dSl tStr (.slice A19026 y19018.length c19027) y19018)]) ⟨_, hL19959, rfl, H.pickL [4, 5, 6] rfl⟩ ?_
                  rintro k19970 _ w19969 ⟨v19390, hL19959, rfl, H⟩
                  obtain ⟨k19964, rfl, q19962, h, hq19963⟩ := iterS hL19959
                  replace h : gemotlaw14_PlacePaths.b2 y13 y19 v12668 y19000 y19018 v19390 = some q19962 := h
                  unfold gemotlaw14_PlacePaths.b2 at h
                  refine nc_seq ?_
                  refine nc_seq ?_
                  refine nc ?_
                  refine nc_cond rfl (fun hc19971 => ?_) (fun hc19971 => ?_)
                  · replace h := condT hc19971 h
                    refine nc ?_
                    refine nc_seq ?_
                    refine nc_block ?_
                    refine nc_seq ?_
                    refine nc ?_
                    obtain ⟨y20113, hx20114, h⟩ := bindS h
                    obtain ⟨cs20116, hR20117, H⟩ := H.elemJ 1 rfl hx20114
                    obtain rfl : cs20116 = [.string (bs y20113)] := hR20117
                    refine idxA_rule (e := 9) 1 _ (by kernel_rfl) (by kernel_rfl) (idxL_some hx20114).1 (idxL_some hx20114).2.1 ?_
                    refine own_loadD H 0 rfl 0 (by kernel_rfl) rfl ?_
                    obtain ⟨y20119, hy20120, h⟩ := bindS h
                    refine call_rule (by kernel_rfl) (place_At_ok hy20120) fun v20122 w20121 ⟨hv20123, hb20124⟩ => ?_
                    subst hv20123
                    replace H := H.call hb20124
                    refine nc_seq ?_
                    refine nc ?_
                    obtain ⟨y20125, hx20126, h⟩ := bindS h
                    obtain ⟨a20127, cs20128, rfl, hR20129, H⟩ := H.elemI 3 rfl hx20126
                    obtain rfl : cs20128 = [.string (bs y20125)] := hR20129
                    refine idxA_rule (e := 9) 1 _ (by kernel_rfl) (by kernel_rfl) (idxL_some hx20126).1 (idxL_some hx20126).2.1 ?_
                    refine own_loadD H 0 rfl 0 (by kernel_rfl) rfl ?_
                    obtain ⟨y20131, hy20132, h⟩ := bindS h
                    refine call_rule (by kernel_rfl) (place_At_ok hy20132) fun v20134 w20133 ⟨hv20135, hb20136⟩ => ?_
                    subst hv20135
                    replace H := H.call hb20136
                    refine nc_seq ?_
                    refine nc ?_
                    obtain ⟨y20137, hx20138, h⟩ := bindS h
                    obtain ⟨cs20140, hR20141, H⟩ := H.elemJ 3 rfl hx20138
                    obtain rfl : cs20140 = [.string (bs y20137)] := hR20141
                    refine idxA_rule (e := 9) 1 _ (by kernel_rfl) (by kernel_rfl) (idxL_some hx20138).1 (idxL_some hx20138).2.1 ?_
                    refine own_loadD H 0 rfl 0 (by kernel_rfl) rfl ?_
                    obtain ⟨y20143, hy20144, h⟩ := bindS h
                    refine call_rule (by kernel_rfl) (place_At_ok hy20144) fun v20146 w20145 ⟨hv20147, hb20148⟩ => ?_
                    subst hv20147
                    replace H := H.call hb20148
                    refine nc_cut (fun e w20200 => ∃ (v20199 : Bool), gemotlaw14_PlacePaths.k1 y13 y19 v12668 y19000 y19018 v19390 v20199 = some q19962 ∧ e = [(4, .string (bs y13)), (5, .slice (some a18996) y19.length c28), (6, .int .i64 v12668), (7, .slice (some a19070) y19000.length c19009), (8, .slice (some a20127) y19018.length c19027), (11, .int .i64 v19390), (157, .bool v20199)] ∧ Eng.Own ok w w20200 [.dat (dSl (tInt .i64) (.slice (some a18996) y19.length c28) y19), .dat (dSl tStr (.slice (some a19070) y19000.length c19009) y19000), .dat (dSl tStr (.slice (some a20127) y19018.length c19027) y19018)]) ?_ ?_
                    · skip
                      rcases Bool.eq_false_or_eq_true (cond (cond (y20119.2 != (0 : Int)) true (y20131.2 != (0 : Int))) true (y20143.2 != (0 : Int))) with hg20202 | hg20202
                      · replace h := condT hg20202 h
                        refine nc ?_
                        refine draw_rule [] (by kernel_rfl) (by kernel_rfl) H ?_
                        refine c_skipCL (.slice none 0 0) (gF0 hg20202) ?_
                        refine c_skipIA (.pointer (some ⟨0, 0, none⟩)) (gF0 hg20202) ?_
                        refine c_skipLD (.int .i64 0) (gF0 hg20202) ?_
                        refine c_skipCL (.bool false) (gF0 hg20202) ?_
                        refine c_skipBN (.string (bs ([] : List UInt8))) (gF0 (pickT hg20202)) ?_
                        refine c_skipBN (.string (bs ([] : List UInt8))) (gF0 (pickT hg20202)) ?_
                        refine c_skipBN (.string (bs ([] : List UInt8))) (gF0 (pickT hg20202)) ?_
                        refine c_skipBN (.string (bs ([] : List UInt8))) (by first | exact gFr (gF0 (pickT hg20202)) | exact (gF0 (pickT hg20202)) | rfl) ?_
                        refine c_skipBN (.string (bs ([] : List UInt8))) (by first | exact gFr (gF0 (pickT hg20202)) | exact (gF0 (pickT hg20202)) | rfl) ?_
                        refine c_skipBN (.string (bs ([] : List UInt8))) (by first | exact gFr (gF0 (pickT hg20202)) | exact (gF0 (pickT hg20202)) | rfl) ?_
                        refine c_skipIA (.pointer (some ⟨0, 0, none⟩)) (gF0 (pickT (pickT hg20202))) ?_
                        refine c_skipLD (.string (bs ([] : List UInt8))) (gF0 (pickT (pickT hg20202))) ?_
                        refine c_skipCL (.string (bs ([] : List UInt8))) (gF0 (pickT (pickT hg20202))) ?_
                        refine c_skipIA (.pointer (some ⟨0, 0, none⟩)) (gF0 (pickT (pickT hg20202))) ?_
                        refine c_skipLD (.string (bs ([] : List UInt8))) (gF0 (pickT (pickT hg20202))) ?_
                        intro w20203 H
                        exact cut_inA ⟨_, h, rfl, H.pickL [3, 4, 5] rfl⟩
                      · replace h := condF hg20202 h
                        obtain ⟨y20204, hy20205, h⟩ := bindS h
                        obtain ⟨y20213, hx20214, h⟩ := bindS h
                        obtain ⟨cs20216, hR20217, H⟩ := H.elemJ 3 rfl hx20214
                        obtain rfl : cs20216 = [.int .i64 y20213] := hR20217
                        obtain ⟨y20219, hy20220, h⟩ := bindS h
                        obtain ⟨hr20225, h⟩ := roomS h
                        obtain ⟨hr20226, h⟩ := roomS h
                        obtain ⟨hr20227, h⟩ := roomS h
                        obtain ⟨hr20228, h⟩ := roomS h
                        obtain ⟨hr20229, h⟩ := roomS h
                        obtain ⟨hr20230, h⟩ := roomS h
                        rcases Bool.eq_false_or_eq_true (cond (cond (cond (cond (y20119.2 != (0 : Int)) true (y20131.2 != (0 : Int))) true (y20143.2 != (0 : Int))) true y20219) true (cond (!(strEq y20143.1 ((([40] ++ y20119.1) ++ y20131.1) ++ [41]))) (!(strEq y20143.1 ((([40] ++ y20131.1) ++ y20119.1) ++ [41]))) false)) with hg20231 | hg20231
                        · replace h := condT hg20231 h
                          refine nc ?_
                          refine draw_rule [] (by kernel_rfl) (by kernel_rfl) H ?_
                          refine c_callS0 (gT0 hg20202 rfl) (by kernel_rfl) (fun _ H => tree_Members_ok (ok := fun _ => False) hy20205) ?_
                          intro A20210 c20211
                          refine c_idxA (e := 3) 1 _ (by kernel_rfl) (by kernel_rfl) (idxL_some hx20214).1 (idxL_some hx20214).2.1 ?_
                          refine c_loadD 0 rfl 0 (by kernel_rfl) rfl ?_
                          refine c_call (.bool y20219) (by kernel_rfl) (fun _ _ H => gemotref10_Has_ok (H.dat 0 rfl) hy20220) ?_
                          refine c_catM hr20225 ?_
                          refine c_catM hr20226 ?_
                          refine c_catM hr20227 ?_
                          refine c_catM hr20228 ?_
                          refine c_catM hr20229 ?_
                          refine c_catM hr20230 ?_
                          refine c_skipIA (.pointer (some ⟨0, 0, none⟩)) (gF0 hg20231) ?_
                          refine c_skipLD (.string (bs ([] : List UInt8))) (gF0 hg20231) ?_
                          refine c_skipCL (.string (bs ([] : List UInt8))) (gF0 hg20231) ?_
                          refine c_skipIA (.pointer (some ⟨0, 0, none⟩)) (gF0 hg20231) ?_
                          refine c_skipLD (.string (bs ([] : List UInt8))) (gF0 hg20231) ?_
                          intro w20232 H
                          exact cut_inA ⟨_, h, rfl, H.pickL [5, 6, 7] rfl⟩
                        · replace h := condF hg20231 h
                          obtain ⟨y20233, hx20234, h⟩ := bindS h
                          obtain ⟨cs20236, hR20237, H⟩ := H.elemJ 6 rfl hx20234
                          obtain rfl : cs20236 = [.string (bs y20233)] := hR20237
                          obtain ⟨y20239, hy20240, h⟩ := bindS h
                          obtain ⟨y20245, hx20246, h⟩ := bindS h
                          obtain ⟨cs20248, hR20249, H⟩ := H.elemJ 6 rfl hx20246
                          obtain rfl : cs20248 = [.string (bs y20245)] := hR20249
                          refine nc ?_
                          refine draw_rule [] (by kernel_rfl) (by kernel_rfl) H ?_
                          refine c_callS0 (gT0 hg20202 rfl) (by kernel_rfl) (fun _ H => tree_Members_ok (ok := fun _ => False) hy20205) ?_
                          intro A20210 c20211
                          refine c_idxA (e := 3) 1 _ (by kernel_rfl) (by kernel_rfl) (idxL_some hx20214).1 (idxL_some hx20214).2.1 ?_
                          refine c_loadD 2 rfl 0 (by kernel_rfl) rfl ?_
                          refine c_call (.bool y20219) (by kernel_rfl) (fun _ _ H => gemotref10_Has_ok (H.dat 0 rfl) hy20220) ?_
                          refine c_catM hr20225 ?_
                          refine c_catM hr20226 ?_
                          refine c_catM hr20227 ?_
                          refine c_catM hr20228 ?_
                          refine c_catM hr20229 ?_
                          refine c_catM hr20230 ?_
                          refine c_idxA (e := 9) 1 _ (by kernel_rfl) (by kernel_rfl) (idxL_some hx20234).1 (idxL_some hx20234).2.1 ?_
                          refine c_loadD 1 rfl 0 (by kernel_rfl) rfl ?_
                          refine c_call (.string (bs y20239)) (by kernel_rfl) (fun _ _ H => place_Beside_ok (ok := fun _ => False) hy20240) ?_
                          refine c_idxA (e := 9) 1 _ (by kernel_rfl) (by kernel_rfl) (idxL_some hx20246).1 (idxL_some hx20246).2.1 ?_
                          refine c_loadD 0 rfl 0 (by kernel_rfl) rfl ?_
                          intro w20251 H
                          exact cut_inA ⟨_, h, rfl, H.pickL [7, 8, 9] rfl⟩
                    · rintro _ w20252 ⟨v20199, h, rfl, H⟩
                      unfold gemotlaw14_PlacePaths.k1 at h
                      refine nc_cond rfl (fun hc20253 => ?_) (fun hc20253 => ?_)
                      · replace h := condT hc20253 h
                        refine nc_seq ?_
                        refine nc ?_
                        refine nc ?_
                        cases h
                        replace hq19963 : (Sum.inr false) = o19958 := hq19963
                        subst hq19963
                        have h := hO19960
                        try dsimp only [Sum.elim_inl, Sum.elim_inr] at h
                        cases h
                        replace hq17723 : (Sum.inr false) = o17718 := hq17723
                        subst hq17723
                        have h := hO17720
                        try dsimp only [Sum.elim_inl, Sum.elim_inr] at h
                        replace h := Option.some.inj h
                        subst h
                        exact ret_inA [.bool false] ⟨_, rfl, ⟨rfl, H.frame⟩⟩
                      · replace h := condF hc20253 h
                        refine nc ?_
                        refine nc ?_
                        cases h
                        exact again_inA ⟨_, hq19963, rfl, H.pickL [0, 1, 2] rfl⟩
                  · replace h := condF hc19971 h
                    refine nc ?_
                    cases h
                    replace hq19963 : (Sum.inl ()) = o19958 := hq19963
                    subst hq19963
                    have h := hO19960
                    try dsimp only [Sum.elim_inl, Sum.elim_inr] at h
                    exact cut_inA ⟨h, rfl, H.pickL [0] rfl⟩
        · rintro _ w20254 ⟨h, rfl, H⟩
          unfold gemotlaw14_PlacePaths.k3 at h
          refine nc ?_
          cases h
          exact again_inA ⟨_, hq17723, rfl, H.pickL [0] rfl⟩
      · replace h := condF hc17731 h
        refine nc ?_
        cases h
        replace hq17723 : (Sum.inl ()) = o17718 := hq17723
        subst hq17723
        have h := hO17720
        try dsimp only [Sum.elim_inl, Sum.elim_inr] at h
        exact cut_inA ⟨h, rfl, H.pickL [] rfl⟩
    · rintro _ w20255 ⟨h, rfl, H⟩
      unfold gemotlaw14_PlacePaths.k6 at h
      refine nc_seq ?_
      refine nc ?_
      refine nc ?_
      replace h := Option.some.inj h
      subst h
      exact ret_inA [.bool true] ⟨_, rfl, ⟨rfl, H.frame⟩⟩
end Go.Proofs.YtfapphlhkfddoaaDoor.G
