/- Walks, printed by a program of this proof's own. -/
import Derived.Test.YtfapphlhkfddoaaGreatDoorH1
import Derived.Test.YtfapphlhkfddoaaGreatDoorPower
import Derived.KernelRfl
namespace Go.Proofs.YtfapphlhkfddoaaGreatDoor.G
open Go.RowKit Go.Eng Go.Proofs
set_option linter.unusedVariables false
set_option maxRecDepth 20000
/-! gemot/blind.Element -/
noncomputable def blind_Element.f (x0 : List UInt8) : Option ((List UInt8) × Int) := (term_Gen.f).bind fun y1 => (term_Power.f y1 x0).bind fun y7 => some (y7.1, y7.2)
set_option maxHeartbeats 4000000 in
theorem blind_Element_ok {ok : Nat → Prop} {w : World} {x0 : List UInt8} {r : (List UInt8) × Int} (h : blind_Element.f x0 = some r) :
    Calls Tryz.prog 53 #[.string (bs x0)] w fun e w' => ∃ v, e = .returned v ∧ (v = .tuple #[.string (bs r.1), .int .i64 r.2] ∧ Bel w.heap.size w w') := by
  have H : Eng.Own ok w w [] := Eng.Own.nil ok w
  unfold blind_Element.f at h
  refine enterN (args := [.string (bs x0)]) Tryz.func53 rfl Tryz.ntmps53 rfl rfl ?_
  refine nc_seq ?_
  refine nc ?_
  refine nc_seq ?_
  refine nc ?_
  obtain ⟨y1, hy2, h⟩ := bindS h
  refine call_rule (by kernel_rfl) (term_Gen_ok (ok := fun _ => False) hy2) fun v4 w3 ⟨hv5, hb6⟩ => ?_
  subst hv5
  replace H := H.call hb6
  obtain ⟨y7, hy8, h⟩ := bindS h
  refine call_rule (by kernel_rfl) (term_Power_ok hy8) fun v10 w9 ⟨hv11, hb12⟩ => ?_
  subst hv11
  replace H := H.call hb12
  refine nc ?_
  replace h := Option.some.inj h
  subst h
  exact ret_inA [.string (bs y7.1), .int .i64 y7.2] ⟨_, rfl, ⟨rfl, H.frame⟩⟩
/-! gemot/blind.Above -/
noncomputable def blind_Above.f (x0 : List UInt8) (x1 : List UInt8) : Option ((List UInt8) × Int) := (term_Power.f x1 x0).bind fun y1 => cond (y1.2 != (0 : Int)) (some (([] : List UInt8), y1.2)) ((term_Key.f y1.1).bind fun y8 => some (y8.1, y8.2))
set_option maxHeartbeats 4000000 in
theorem blind_Above_ok {ok : Nat → Prop} {w : World} {x0 : List UInt8} {x1 : List UInt8} {r : (List UInt8) × Int} (h : blind_Above.f x0 x1 = some r) :
    Calls Tryz.prog 54 #[.string (bs x0), .string (bs x1)] w fun e w' => ∃ v, e = .returned v ∧ (v = .tuple #[.string (bs r.1), .int .i64 r.2] ∧ Bel w.heap.size w w') := by
  have H : Eng.Own ok w w [] := Eng.Own.nil ok w
  unfold blind_Above.f at h
  refine enterN (args := [.string (bs x0), .string (bs x1)]) Tryz.func54 rfl Tryz.ntmps54 rfl rfl ?_
  refine nc_seq ?_
  refine nc ?_
  refine nc_seq ?_
  refine nc ?_
  obtain ⟨y1, hy2, h⟩ := bindS h
  refine call_rule (by kernel_rfl) (term_Power_ok hy2) fun v4 w3 ⟨hv5, hb6⟩ => ?_
  subst hv5
  replace H := H.call hb6
  refine nc_seq ?_
  refine nc_seq ?_
  refine nc ?_
  refine nc_cond rfl (fun hc7 => ?_) (fun hc7 => ?_)
  · replace h := condT hc7 h
    refine nc_seq ?_
    refine nc ?_
    refine nc ?_
    replace h := Option.some.inj h
    subst h
    exact ret_inA [.string (bs ([] : List UInt8)), .int .i64 y1.2] ⟨_, rfl, ⟨rfl, H.frame⟩⟩
  · replace h := condF hc7 h
    refine nc ?_
    refine nc_seq ?_
    refine nc ?_
    obtain ⟨y8, hy9, h⟩ := bindS h
    refine call_rule (by kernel_rfl) (term_Key_ok (ok := fun _ => False) hy9) fun v11 w10 ⟨hv12, hb13⟩ => ?_
    subst hv12
    replace H := H.call hb13
    refine nc ?_
    replace h := Option.some.inj h
    subst h
    exact ret_inA [.string (bs y8.1), .int .i64 y8.2] ⟨_, rfl, ⟨rfl, H.frame⟩⟩
end Go.Proofs.YtfapphlhkfddoaaGreatDoor.G
