/- For all texts, processes, blinds and secrets the law BlindClimbs answers true; no condition beyond what the row reads. -/
import Derived.Test.YtgomlcfoifkdiaaGreatRows
import Derived.Test.YtgomlcfoifkdiaaGreatClimbL
import Derived.Test.YtgomlcfoifkdiaaGreatSorts1
import Derived.WalkKit
import Derived.ProofKit
import Derived.OpenShut
import Derived.ShutString
import Derived.SliceStrings
import Derived.ChangeOld
import Derived.Below
import Derived.SizedLaws
namespace Go.Proofs.YtgomlcfoifkdiaaGreat.blindClimbs
open Go.ChangeShapes Go.WideShapes Go.ChangeAt Go.RowKit
open Go.ChangeMaps (open_string shut_string)
set_option linter.unusedVariables false
theorem own : ownKnob Tryz.prog.godebug = none := by kernel_rfl
theorem laidOut : laidOutB Tryz.prog = true := by kernel_rfl
set_option maxRecDepth 100000 in
theorem lifted (os : Os) (started : os.Started) (H : Type) (enc : TypeId × Value → H) :
    ReturnsInHanded {} Tryz.checked os 3 .any (Rows.blindClimbsSpec.pre6 enc Tryz.prog Tryz.f3 Rows.blindClimbsRow.domain false) (Rows.blindClimbsSpec.post enc Tryz.prog Tryz.f3 false true false false) := by
  refine returnsInHanded_of_change_sized (C := Tryz.checked) own started (by kernel_rfl) Tryz.func3
    (ChangeSpec.witness6 (enc := enc) (C := Tryz.checked) false ⟨#[], #[.string ⟨#[]⟩, .int .i64 0, .string ⟨#[]⟩, .slice none 0 0, .slice none 0 0], []⟩ 8 (by kernel_rfl) (by kernel_rfl) (by kernel_rfl) (by kernel_rfl)) ?_
  intro W base args ds gs before hval0 hW hcnd hsz0 _
  have hval : ∀ (j : Nat) t v, Tryz.f3.params[j]? = some t → args[j]? = some v → Value.okWide Tryz.prog W .any base t v := hval0
  have hW' := hW
  obtain ⟨p, q, hA0, hV, rfl, hfz, hnd⟩ := hW
  have hA : DataW.TrodAll enc Tryz.prog W 0 (fun _ => true) true Tryz.f3.params.toList args.toList ds p := hA0
  rw [Tryz.params3] at hA hval
  obtain ⟨v0, vs0, d0, ds0, p0, q0, hargs, rfl, rfl, h0, r0⟩ := trodAll_cons hA
  obtain ⟨v1, vs1, d1, ds1, p1, q1, rfl, rfl, rfl, h1, r1⟩ := trodAll_cons r0
  obtain ⟨v2, vs2, d2, ds2, p2, q2, rfl, rfl, rfl, h2, r2⟩ := trodAll_cons r1
  obtain ⟨v3, vs3, d3, ds3, p3, q3, rfl, rfl, rfl, h3, r3⟩ := trodAll_cons r2
  obtain ⟨v4, vs4, d4, ds4, p4, q4, rfl, rfl, rfl, h4, r4⟩ := trodAll_cons r3
  obtain ⟨rfl, rfl, rfl⟩ := trodAll_nil r4
  obtain rfl : args = #[v0, v1, v2, v3, v4] := by cases args; simp_all
  obtain ⟨rfl, rfl⟩ := trodVars_none hV
  obtain ⟨b3, len3, cap3, rfl⟩ := okWide_slice Tryz.underlying22 (hval 3 22 v3 rfl rfl)
  obtain ⟨b4, len4, cap4, rfl⟩ := okWide_slice Tryz.underlying23 (hval 4 23 v4 rfl rfl)
  have k0 := h0
  have lt0 : ∀ x ∈ p0, x.block < W.heap.size := by obtain ⟨m, hm⟩ := k0; exact DataW.trod_lt m _ _ _ hm
  have k1 := h1
  have lt1 : ∀ x ∈ p1, x.block < W.heap.size := by obtain ⟨m, hm⟩ := k1; exact DataW.trod_lt m _ _ _ hm
  have k2 := h2
  have lt2 : ∀ x ∈ p2, x.block < W.heap.size := by obtain ⟨m, hm⟩ := k2; exact DataW.trod_lt m _ _ _ hm
  have k3 := h3
  have lt3 : ∀ x ∈ p3, x.block < W.heap.size := by obtain ⟨m, hm⟩ := k3; exact DataW.trod_lt m _ _ _ hm
  have k4 := h4
  have lt4 : ∀ x ∈ p4, x.block < W.heap.size := by obtain ⟨m, hm⟩ := k4; exact DataW.trod_lt m _ _ _ hm
  obtain ⟨t0, ht0, l0⟩ := Eng.openS_ex (Eng.openS_str Tryz.underlying9 (by kernel_rfl)) (j := 0) (t := 9) hsz0 rfl rfl h0
  obtain ⟨t2, ht2, l2⟩ := Eng.openS_ex (Eng.openS_str Tryz.underlying9 (by kernel_rfl)) (j := 2) (t := 9) hsz0 rfl rfl h2
  obtain ⟨x3, hx3, l3, p3_⟩ := Eng.openS_list (b := 32) Tryz.underlying22 (by kernel_rfl) (by kernel_rfl) (Eng.openS_struct Tryz.underlying28 (by kernel_rfl) (Eng.openFS_cons rfl (Eng.openS_str Tryz.underlying9 (by kernel_rfl)) (Eng.openFS_one rfl (Eng.openS_str Tryz.underlying26 (by kernel_rfl))))) (by decide) (j := 3) (t := 22) hsz0 rfl rfl h3
  obtain ⟨x4, hx4, l4, p4_⟩ := Eng.openS_list (b := 16) Tryz.underlying23 (by kernel_rfl) (by kernel_rfl) (Eng.openS_str Tryz.underlying9 (by kernel_rfl)) (by decide) (j := 4) (t := 23) hsz0 rfl rfl h4
  obtain ⟨s0, rfl, -, -, w0⟩ := open_string Tryz.underlying9 (hval 0 9 v0 rfl rfl) h0
  obtain rfl : s0 = Eng.bs t0 := by have e : [Value.string s0] = [Value.string (Eng.bs t0)] := ht0; injection e with e _; injection e
  obtain ⟨a1, rfl, -, -, w1⟩ := open_int Tryz.underlying3 (hval 1 3 v1 rfl rfl) h1
  obtain ⟨s2, rfl, -, -, w2⟩ := open_string Tryz.underlying9 (hval 2 9 v2 rfl rfl) h2
  obtain rfl : s2 = Eng.bs t2 := by have e : [Value.string s2] = [Value.string (Eng.bs t2)] := ht2; injection e with e _; injection e
  clear hA0 hval0 hsz0
  refine (G.climbs_row hx3 hx4).mono fun e W' ⟨r, he, hr, bel⟩ => ?_
  subst he hr
  exact ⟨_, rfl, _, _, _, [], _, [], hW', trodAll_mk1 (shut_bool Tryz.underlying4 _), (trodAll_cons_mk (Below.trod laidOut (by kernel_rfl) (of_decide_eq_true (by kernel_rfl)) k0 bel lt0) (trodAll_cons_mk (Below.trod laidOut (by kernel_rfl) (of_decide_eq_true (by kernel_rfl)) k1 bel lt1) (trodAll_cons_mk (Below.trod laidOut (by kernel_rfl) (of_decide_eq_true (by kernel_rfl)) k2 bel lt2) (trodAll_cons_mk (Below.trod laidOut (by kernel_rfl) (of_decide_eq_true (by kernel_rfl)) k3 bel lt3) (trodAll_cons_mk (Below.trod laidOut (by kernel_rfl) (of_decide_eq_true (by kernel_rfl)) k4 bel lt4) trodAll_mk0))))), rfl, bel.frame _, fun h => by cases h⟩
theorem over : Rows.blindClimbsRow.holds Tryz.pinned (OpenSpec.ofChange Rows.blindClimbsSpec) :=
  OpenClaim.holds_of_wide 3 Tryz.f3 rfl rfl rfl rfl rfl rfl rfl ⟨rfl, rfl, rfl, rfl, rfl⟩ rfl rfl rfl rfl rfl (by kernel_rfl) Tryz.func3 (by kernel_rfl)
    (of_decide_eq_true (by kernel_rfl)) (by unfold Func.isWrapper; first | (rw [if_pos (by decide +kernel)]; kernel_rfl) | (rw [if_neg (by decide +kernel)]; exact ⟨rfl, rfl⟩))
    (fun os started H enc _ => lifted os started H enc)
theorem proved : Rows.BlindClimbsSaid := over
#print axioms proved
end Go.Proofs.YtgomlcfoifkdiaaGreat.blindClimbs
namespace Go.Proofs.YtgomlcfoifkdiaaGreat
/-- The row, under a short name, for the claim. -/
theorem blindClimbs_holds : Rows.BlindClimbsSaid := blindClimbs.proved
end Go.Proofs.YtgomlcfoifkdiaaGreat
