/- Walks, printed by a program of this proof's own. -/
import Derived.Test.YtgomlcfoifkdiaaH2
import Derived.Test.YtgomlcfoifkdiaaRootP
import Derived.KernelRfl
namespace Go.Proofs.Ytgomlcfoifkdiaa.G
open Go.RowKit Go.Eng Go.Proofs
set_option linter.unusedVariables false
set_option maxRecDepth 20000
/-! gemot/gemotlaw15.shown -/
noncomputable def gemotlaw15_shown.f : Option (Bool) := (term_Gen.f).bind fun y1 => (term_Name.f (1 : Int)).bind fun y7 => (term_Power.f y1 y7).bind fun y13 => (term_Name.f (2 : Int)).bind fun y19 => (term_Power.f y13.1 y19).bind fun y25 => (term_Key.f y25.1).bind fun y31 => (term_Name.f (1 : Int)).bind fun y37 => (term_Name.f (2 : Int)).bind fun y43 => (blind_Root.f [40, 49, 50, 41] ([y37, y43] : List (List UInt8))).bind fun y53 => some (cond (cond (!(strEq y31.1 ([] : List UInt8))) (strEq y53.1 y31.1) false) (y53.2 == (0 : Int)) false)
set_option maxHeartbeats 4000000 in
theorem gemotlaw15_shown_ok {ok : Nat → Prop} {w : World} {r : Bool} (h : gemotlaw15_shown.f = some r) :
    Calls Try.prog 32 #[] w fun e w' => ∃ v, e = .returned v ∧ (v = .bool r ∧ Bel w.heap.size w w') := by
  have H : Eng.Own ok w w [] := Eng.Own.nil ok w
  unfold gemotlaw15_shown.f at h
  refine enterN (args := []) Try.func32 rfl Try.ntmps32 rfl rfl ?_
  refine nc_seq ?_
  refine nc ?_
  refine nc_seq ?_
  refine nc ?_
  obtain ⟨y1, hy2, h⟩ := bindS h
  refine call_rule (by kernel_rfl) (term_Gen_ok (ok := fun _ => False) hy2) fun v4 w3 ⟨hv5, hb6⟩ => ?_
  subst hv5
  replace H := H.call hb6
  obtain ⟨y7, hy8, h⟩ := bindS h
  refine call_rule (by kernel_rfl) (term_Name_ok hy8) fun v10 w9 ⟨hv11, hb12⟩ => ?_
  subst hv11
  replace H := H.call hb12
  obtain ⟨y13, hy14, h⟩ := bindS h
  refine call_rule (by kernel_rfl) (term_Power_ok hy14) fun v16 w15 ⟨hv17, hb18⟩ => ?_
  subst hv17
  replace H := H.call hb18
  refine nc_seq ?_
  refine nc ?_
  obtain ⟨y19, hy20, h⟩ := bindS h
  refine call_rule (by kernel_rfl) (term_Name_ok hy20) fun v22 w21 ⟨hv23, hb24⟩ => ?_
  subst hv23
  replace H := H.call hb24
  obtain ⟨y25, hy26, h⟩ := bindS h
  refine call_rule (by kernel_rfl) (term_Power_ok hy26) fun v28 w27 ⟨hv29, hb30⟩ => ?_
  subst hv29
  replace H := H.call hb30
  refine nc_seq ?_
  refine nc ?_
  obtain ⟨y31, hy32, h⟩ := bindS h
  refine call_rule (by kernel_rfl) (term_Key_ok (ok := fun _ => False) hy32) fun v34 w33 ⟨hv35, hb36⟩ => ?_
  subst hv35
  replace H := H.call hb36
  refine nc_seq ?_
  refine nc ?_
  obtain ⟨y37, hy38, h⟩ := bindS h
  refine call_rule (by kernel_rfl) (term_Name_ok hy38) fun v40 w39 ⟨hv41, hb42⟩ => ?_
  subst hv41
  replace H := H.call hb42
  obtain ⟨y43, hy44, h⟩ := bindS h
  refine call_rule (by kernel_rfl) (term_Name_ok hy44) fun v46 w45 ⟨hv47, hb48⟩ => ?_
  subst hv47
  replace H := H.call hb48
  refine own_buildSlice (e := 62) (sz := 1) (z := .string ⟨#[]⟩) (cs := [.string (bs y37), .string (bs y43)]) H (by kernel_rfl) (by kernel_rfl) (by kernel_rfl) rfl rfl rfl rfl fun g50 w51 H => ?_
  replace H := H.blkSl (k := tStr) [y37, y43] 2 rfl rfl (by decide) ⟨_, _, rfl, rfl, ⟨_, _, rfl, rfl, rfl⟩⟩
  obtain ⟨y53, hy54, h⟩ := bindS h
  refine call_rule (by kernel_rfl) (blind_Root_ok (H.dat 0 rfl) hy54) fun v56 w55 ⟨hv57, hb58⟩ => ?_
  subst hv57
  replace H := H.call hb58
  refine nc_seq ?_
  refine nc ?_
  refine nc ?_
  replace h := Option.some.inj h
  subst h
  exact ret_inA [.bool (cond (cond (!(strEq y31.1 ([] : List UInt8))) (strEq y53.1 y31.1) false) (y53.2 == (0 : Int)) false)] ⟨_, rfl, ⟨rfl, H.frame⟩⟩
/-! gemot/gemotlaw15.BlindPairs -/
noncomputable def gemotlaw15_BlindPairs.f (x0 : Int) (x1 : Int) (x2 : Int) : Option (Bool) := (gemotlaw15_shown.f).bind fun y1 => cond (cond (cond (cond (!y1) true (x0 == x1)) true (x1 == x2)) true (x0 == x2)) (some y1) ((term_Name.f x0).bind fun y8 => (blind_Element.f y8).bind fun y14 => (term_Name.f x1).bind fun y20 => (blind_Element.f y20).bind fun y26 => (term_Name.f x0).bind fun y32 => (blind_Above.f y32 y26.1).bind fun y38 => (term_Name.f x1).bind fun y44 => (blind_Above.f y44 y14.1).bind fun y50 => (term_Name.f x2).bind fun y56 => (blind_Above.f y56 y14.1).bind fun y62 => (term_Name.f x2).bind fun y68 => (blind_Above.f y68 y26.1).bind fun y74 => some (cond (cond (cond (cond (cond (cond (cond (cond (y38.2 == (0 : Int)) (y50.2 == (0 : Int)) false) (y62.2 == (0 : Int)) false) (y74.2 == (0 : Int)) false) (strEq y38.1 y50.1) false) (!(strEq y38.1 y62.1)) false) (!(strEq y38.1 y74.1)) false) (!(strEq y62.1 y74.1)) false) (!(strEq y14.1 y26.1)) false))
set_option maxHeartbeats 4000000 in
theorem gemotlaw15_BlindPairs_ok {ok : Nat → Prop} {w : World} {x0 : Int} {x1 : Int} {x2 : Int} {r : Bool} (h : gemotlaw15_BlindPairs.f x0 x1 x2 = some r) :
    Calls Try.prog 8 #[.int .u64 x0, .int .u64 x1, .int .u64 x2] w fun e w' => ∃ v, e = .returned v ∧ (v = .bool r ∧ Bel w.heap.size w w') := by
  have H : Eng.Own ok w w [] := Eng.Own.nil ok w
  unfold gemotlaw15_BlindPairs.f at h
  refine enterN (args := [.int .u64 x0, .int .u64 x1, .int .u64 x2]) Try.func8 rfl Try.ntmps8 rfl rfl ?_
  refine nc_seq ?_
  refine nc ?_
  refine nc_seq ?_
  refine nc ?_
  obtain ⟨y1, hy2, h⟩ := bindS h
  refine call_rule (by kernel_rfl) (gemotlaw15_shown_ok (ok := fun _ => False) hy2) fun v4 w3 ⟨hv5, hb6⟩ => ?_
  subst hv5
  replace H := H.call hb6
  refine nc_seq ?_
  refine nc_seq ?_
  refine nc ?_
  refine nc_cond rfl (fun hc7 => ?_) (fun hc7 => ?_)
  · replace h := condT hc7 h
    refine nc_seq ?_
    refine nc ?_
    refine nc ?_
    replace h := Option.some.inj h
    subst h
    exact ret_inA [.bool y1] ⟨_, rfl, ⟨rfl, H.frame⟩⟩
  · replace h := condF hc7 h
    refine nc ?_
    refine nc_seq ?_
    refine nc ?_
    obtain ⟨y8, hy9, h⟩ := bindS h
    refine call_rule (by kernel_rfl) (term_Name_ok hy9) fun v11 w10 ⟨hv12, hb13⟩ => ?_
    subst hv12
    replace H := H.call hb13
    obtain ⟨y14, hy15, h⟩ := bindS h
    refine call_rule (by kernel_rfl) (blind_Element_ok (ok := fun _ => False) hy15) fun v17 w16 ⟨hv18, hb19⟩ => ?_
    subst hv18
    replace H := H.call hb19
    refine nc_seq ?_
    refine nc ?_
    obtain ⟨y20, hy21, h⟩ := bindS h
    refine call_rule (by kernel_rfl) (term_Name_ok hy21) fun v23 w22 ⟨hv24, hb25⟩ => ?_
    subst hv24
    replace H := H.call hb25
    obtain ⟨y26, hy27, h⟩ := bindS h
    refine call_rule (by kernel_rfl) (blind_Element_ok (ok := fun _ => False) hy27) fun v29 w28 ⟨hv30, hb31⟩ => ?_
    subst hv30
    replace H := H.call hb31
    refine nc_seq ?_
    refine nc ?_
    obtain ⟨y32, hy33, h⟩ := bindS h
    refine call_rule (by kernel_rfl) (term_Name_ok hy33) fun v35 w34 ⟨hv36, hb37⟩ => ?_
    subst hv36
    replace H := H.call hb37
    obtain ⟨y38, hy39, h⟩ := bindS h
    refine call_rule (by kernel_rfl) (blind_Above_ok (ok := fun _ => False) hy39) fun v41 w40 ⟨hv42, hb43⟩ => ?_
    subst hv42
    replace H := H.call hb43
    refine nc_seq ?_
    refine nc ?_
    obtain ⟨y44, hy45, h⟩ := bindS h
    refine call_rule (by kernel_rfl) (term_Name_ok hy45) fun v47 w46 ⟨hv48, hb49⟩ => ?_
    subst hv48
    replace H := H.call hb49
    obtain ⟨y50, hy51, h⟩ := bindS h
    refine call_rule (by kernel_rfl) (blind_Above_ok (ok := fun _ => False) hy51) fun v53 w52 ⟨hv54, hb55⟩ => ?_
    subst hv54
    replace H := H.call hb55
    refine nc_seq ?_
    refine nc ?_
    obtain ⟨y56, hy57, h⟩ := bindS h
    refine call_rule (by kernel_rfl) (term_Name_ok hy57) fun v59 w58 ⟨hv60, hb61⟩ => ?_
    subst hv60
    replace H := H.call hb61
    obtain ⟨y62, hy63, h⟩ := bindS h
    refine call_rule (by kernel_rfl) (blind_Above_ok (ok := fun _ => False) hy63) fun v65 w64 ⟨hv66, hb67⟩ => ?_
    subst hv66
    replace H := H.call hb67
    refine nc_seq ?_
    refine nc ?_
    obtain ⟨y68, hy69, h⟩ := bindS h
    refine call_rule (by kernel_rfl) (term_Name_ok hy69) fun v71 w70 ⟨hv72, hb73⟩ => ?_
    subst hv72
    replace H := H.call hb73
    obtain ⟨y74, hy75, h⟩ := bindS h
    refine call_rule (by kernel_rfl) (blind_Above_ok (ok := fun _ => False) hy75) fun v77 w76 ⟨hv78, hb79⟩ => ?_
    subst hv78
    replace H := H.call hb79
    refine nc_seq ?_
    refine nc ?_
    refine nc ?_
    replace h := Option.some.inj h
    subst h
    exact ret_inA [.bool (cond (cond (cond (cond (cond (cond (cond (cond (y38.2 == (0 : Int)) (y50.2 == (0 : Int)) false) (y62.2 == (0 : Int)) false) (y74.2 == (0 : Int)) false) (strEq y38.1 y50.1) false) (!(strEq y38.1 y62.1)) false) (!(strEq y38.1 y74.1)) false) (!(strEq y62.1 y74.1)) false) (!(strEq y14.1 y26.1)) false)] ⟨_, rfl, ⟨rfl, H.frame⟩⟩
end Go.Proofs.Ytgomlcfoifkdiaa.G
