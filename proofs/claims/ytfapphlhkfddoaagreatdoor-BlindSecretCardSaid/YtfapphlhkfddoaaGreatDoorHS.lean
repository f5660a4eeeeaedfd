/- Walks, printed by a program of this proof's own. -/
import Derived.Test.YtfapphlhkfddoaaGreatDoorH2
import Derived.Test.YtfapphlhkfddoaaGreatDoorRootP
import Derived.KernelRfl
namespace Go.Proofs.YtfapphlhkfddoaaGreatDoor.G
open Go.RowKit Go.Eng Go.Proofs
set_option linter.unusedVariables false
set_option maxRecDepth 20000
/-! gemot/gemotlaw15.shown -/
noncomputable def gemotlaw15_shown.f : Option (Bool) := (term_Gen.f).bind fun y1 => (term_Name.f (1 : Int)).bind fun y7 => (term_Power.f y1 y7).bind fun y13 => (term_Name.f (2 : Int)).bind fun y19 => (term_Power.f y13.1 y19).bind fun y25 => (term_Key.f y25.1).bind fun y31 => (term_Name.f (1 : Int)).bind fun y37 => (term_Name.f (2 : Int)).bind fun y43 => (blind_Root.f [40, 49, 50, 41] ([y37, y43] : List (List UInt8))).bind fun y53 => some (cond (cond (!(strEq y31.1 ([] : List UInt8))) (strEq y53.1 y31.1) false) (y53.2 == (0 : Int)) false)
set_option maxHeartbeats 4000000 in
theorem gemotlaw15_shown_ok {ok : Nat → Prop} {w : World} {r : Bool} (h : gemotlaw15_shown.f = some r) :
    Calls Tryz.prog 12 #[] w fun e w' => ∃ v, e = .returned v ∧ (v = .bool r ∧ Bel w.heap.size w w') := by
  have H : Eng.Own ok w w [] := Eng.Own.nil ok w
  unfold gemotlaw15_shown.f at h
  refine enterN (args := []) Tryz.func12 rfl Tryz.ntmps12 rfl rfl ?_
  refine nc_seq ?_
  refine nc ?_
  refine nc_seq ?_
  refine nc ?_
  obtain ⟨y1, hy2, h⟩ := bindS h
  refine call_rule (by kernel_rfl) (term_Gen_ok (ok := fun _ => False) hy2) fun v4 w3 ⟨hv5, hb6⟩ => ?_
  subst hv5
  replace H := H.call hb6
  obtain ⟨y7, hy8, h⟩ := bindS h
  refine call_rule (by kernel_rfl) (term_Name_ok hy8) fun v10 w9 ⟨hv11, hb12⟩ => ?_
  subst hv11
  replace H := H.call hb12
  obtain ⟨y13, hy14, h⟩ := bindS h
  refine call_rule (by kernel_rfl) (term_Power_ok hy14) fun v16 w15 ⟨hv17, hb18⟩ => ?_
  subst hv17
  replace H := H.call hb18
  refine nc_seq ?_
  refine nc ?_
  obtain ⟨y19, hy20, h⟩ := bindS h
  refine call_rule (by kernel_rfl) (term_Name_ok hy20) fun v22 w21 ⟨hv23, hb24⟩ => ?_
  subst hv23
  replace H := H.call hb24
  obtain ⟨y25, hy26, h⟩ := bindS h
  refine call_rule (by kernel_rfl) (term_Power_ok hy26) fun v28 w27 ⟨hv29, hb30⟩ => ?_
  subst hv29
  replace H := H.call hb30
  refine nc_seq ?_
  refine nc ?_
  obtain ⟨y31, hy32, h⟩ := bindS h
  refine call_rule (by kernel_rfl) (term_Key_ok (ok := fun _ => False) hy32) fun v34 w33 ⟨hv35, hb36⟩ => ?_
  subst hv35
  replace H := H.call hb36
  refine nc_seq ?_
  refine nc ?_
  obtain ⟨y37, hy38, h⟩ := bindS h
  refine call_rule (by kernel_rfl) (term_Name_ok hy38) fun v40 w39 ⟨hv41, hb42⟩ => ?_
  subst hv41
  replace H := H.call hb42
  obtain ⟨y43, hy44, h⟩ := bindS h
  refine call_rule (by kernel_rfl) (term_Name_ok hy44) fun v46 w45 ⟨hv47, hb48⟩ => ?_
  subst hv47
  replace H := H.call hb48
  refine own_buildSlice (e := 28) (sz := 1) (z := .string ⟨#[]⟩) (cs := [.string (bs y37), .string (bs y43)]) H (by kernel_rfl) (by kernel_rfl) (by kernel_rfl) rfl rfl rfl rfl fun g50 w51 H => ?_
  replace H := H.blkSl (k := tStr) [y37, y43] 2 rfl rfl (by decide) ⟨_, _, rfl, rfl, ⟨_, _, rfl, rfl, rfl⟩⟩
  obtain ⟨y53, hy54, h⟩ := bindS h
  refine call_rule (by kernel_rfl) (blind_Root_ok (H.dat 0 rfl) hy54) fun v56 w55 ⟨hv57, hb58⟩ => ?_
  subst hv57
  replace H := H.call hb58
  refine nc_seq ?_
  refine nc ?_
  refine nc ?_
  replace h := Option.some.inj h
  subst h
  exact ret_inA [.bool (cond (cond (!(strEq y31.1 ([] : List UInt8))) (strEq y53.1 y31.1) false) (y53.2 == (0 : Int)) false)] ⟨_, rfl, ⟨rfl, H.frame⟩⟩
end Go.Proofs.YtfapphlhkfddoaaGreatDoor.G
