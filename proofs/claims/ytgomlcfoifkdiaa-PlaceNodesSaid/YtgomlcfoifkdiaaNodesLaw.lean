/- PlaceNodes: the nodes of a text, what stands at one, a process's path, what is beside it, and who answers for which, are as the chapter says: any text, any node, any process. -/
import Derived.Test.YtgomlcfoifkdiaaRows
import Derived.Test.YtgomlcfoifkdiaaNodesL
import Derived.Test.YtgomlcfoifkdiaaSized
import Derived.WalkKit
import Derived.ProofKit
import Derived.OpenShut
import Derived.ShutString
import Derived.SliceStrings
import Derived.ChangeOld
import Derived.Below
import Derived.SizedLaws
namespace Go.Proofs.Ytgomlcfoifkdiaa.placeNodes
open Go.ChangeShapes Go.WideShapes Go.ChangeAt Go.RowKit
open Go.ChangeMaps (open_string shut_string)
set_option linter.unusedVariables false
theorem own : ownKnob Try.prog.godebug = none := by kernel_rfl
theorem laidOut : laidOutB Try.prog = true := by kernel_rfl
set_option maxRecDepth 100000 in
theorem lifted (os : Os) (started : os.Started) (H : Type) (enc : TypeId × Value → H) :
    ReturnsInHanded {} Try.checked os 11 .any (Rows.placeNodesSpec.pre6 enc Try.prog Try.f11 Rows.placeNodesRow.domain false) (Rows.placeNodesSpec.post enc Try.prog Try.f11 false true false false) := by
  refine returnsInHanded_of_change_sized (C := Try.checked) own started (by kernel_rfl) Try.func11
    (ChangeSpec.witness6 (enc := enc) (C := Try.checked) false ⟨#[], #[.string ⟨#[]⟩, .string ⟨#[]⟩, .int .i64 0], []⟩ 8 (by kernel_rfl) (by kernel_rfl) (by kernel_rfl) (by kernel_rfl)) ?_
  intro W base args ds gs before hval0 hW hcnd hsz0 _
  have hval : ∀ (j : Nat) t v, Try.f11.params[j]? = some t → args[j]? = some v → Value.okWide Try.prog W .any base t v := hval0
  have hW' := hW
  obtain ⟨p, q, hA0, hV, rfl, hfz, hnd⟩ := hW
  have hA : DataW.TrodAll enc Try.prog W 0 (fun _ => true) true Try.f11.params.toList args.toList ds p := hA0
  rw [Try.params11] at hA hval
  obtain ⟨v0, vs0, d0, ds0, p0, q0, hargs, rfl, rfl, h0, r0⟩ := trodAll_cons hA
  obtain ⟨v1, vs1, d1, ds1, p1, q1, rfl, rfl, rfl, h1, r1⟩ := trodAll_cons r0
  obtain ⟨v2, vs2, d2, ds2, p2, q2, rfl, rfl, rfl, h2, r2⟩ := trodAll_cons r1
  obtain ⟨rfl, rfl, rfl⟩ := trodAll_nil r2
  obtain rfl : args = #[v0, v1, v2] := by cases args; simp_all
  obtain ⟨rfl, rfl⟩ := trodVars_none hV
  have k0 := h0
  have lt0 : ∀ x ∈ p0, x.block < W.heap.size := by obtain ⟨m, hm⟩ := k0; exact DataW.trod_lt m _ _ _ hm
  have k1 := h1
  have lt1 : ∀ x ∈ p1, x.block < W.heap.size := by obtain ⟨m, hm⟩ := k1; exact DataW.trod_lt m _ _ _ hm
  have k2 := h2
  have lt2 : ∀ x ∈ p2, x.block < W.heap.size := by obtain ⟨m, hm⟩ := k2; exact DataW.trod_lt m _ _ _ hm
  obtain ⟨t0, ht0, l0⟩ := Eng.openS_ex (Eng.openS_str Try.underlying9 (by kernel_rfl)) (j := 0) (t := 9) hsz0 rfl rfl h0
  obtain ⟨t1, ht1, l1⟩ := Eng.openS_ex (Eng.openS_str Try.underlying9 (by kernel_rfl)) (j := 1) (t := 9) hsz0 rfl rfl h1
  obtain ⟨s0, rfl, -, -, w0⟩ := open_string Try.underlying9 (hval 0 9 v0 rfl rfl) h0
  obtain rfl : s0 = Eng.bs t0 := by have e : [Value.string s0] = [Value.string (Eng.bs t0)] := ht0; injection e with e _; injection e
  obtain ⟨s1, rfl, -, -, w1⟩ := open_string Try.underlying9 (hval 1 9 v1 rfl rfl) h1
  obtain rfl : s1 = Eng.bs t1 := by have e : [Value.string s1] = [Value.string (Eng.bs t1)] := ht1; injection e with e _; injection e
  obtain ⟨a2, rfl, -, -, w2⟩ := open_int Try.underlying3 (hval 2 3 v2 rfl rfl) h2
  clear hA0 hval0 hsz0
  refine (G.nodes_row (x0 := t0) (x1 := t1) (x2 := a2)).mono fun e W' ⟨r, he, hr, bel⟩ => ?_
  subst he hr
  exact ⟨_, rfl, _, _, _, [], _, [], hW', trodAll_mk1 (shut_bool Try.underlying4 _), (trodAll_cons_mk (Below.trod laidOut (by kernel_rfl) (of_decide_eq_true (by kernel_rfl)) k0 bel lt0) (trodAll_cons_mk (Below.trod laidOut (by kernel_rfl) (of_decide_eq_true (by kernel_rfl)) k1 bel lt1) (trodAll_cons_mk (Below.trod laidOut (by kernel_rfl) (of_decide_eq_true (by kernel_rfl)) k2 bel lt2) trodAll_mk0))), rfl, bel.frame _, fun h => by cases h⟩
theorem over : Rows.placeNodesRow.holds Try.pinned (OpenSpec.ofChange Rows.placeNodesSpec) :=
  OpenClaim.holds_of_wide 11 Try.f11 rfl rfl rfl rfl rfl rfl rfl ⟨rfl, rfl, rfl, rfl, rfl⟩ rfl rfl rfl rfl rfl (by kernel_rfl) Try.func11 (by kernel_rfl)
    (of_decide_eq_true (by kernel_rfl)) (by unfold Func.isWrapper; first | (rw [if_pos (by decide +kernel)]; kernel_rfl) | (rw [if_neg (by decide +kernel)]; exact ⟨rfl, rfl⟩))
    (fun os started H enc _ => lifted os started H enc)
theorem proved : Rows.PlaceNodesSaid := over
#print axioms proved
end Go.Proofs.Ytgomlcfoifkdiaa.placeNodes
namespace Go.Proofs.Ytgomlcfoifkdiaa
/-- The row, under a short name, for the claim. -/
theorem placeNodes_holds : Rows.PlaceNodesSaid := placeNodes.proved
end Go.Proofs.Ytgomlcfoifkdiaa
