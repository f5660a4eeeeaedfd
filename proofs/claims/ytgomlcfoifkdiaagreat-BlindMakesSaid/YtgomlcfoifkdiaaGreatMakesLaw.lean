/- For all texts and views the law BlindMakes answers true; no condition beyond what the row reads. -/
import Derived.Test.YtgomlcfoifkdiaaGreatRows
import Derived.Test.YtgomlcfoifkdiaaGreatMakesL
import Derived.Test.YtgomlcfoifkdiaaGreatSized
import Derived.WalkKit
import Derived.ProofKit
import Derived.OpenShut
import Derived.ShutString
import Derived.SliceStrings
import Derived.ChangeOld
import Derived.Below
import Derived.SizedLaws
namespace Go.Proofs.YtgomlcfoifkdiaaGreat.blindMakes
open Go.ChangeShapes Go.WideShapes Go.ChangeAt Go.RowKit
open Go.ChangeMaps (open_string shut_string)
set_option linter.unusedVariables false
theorem own : ownKnob Tryz.prog.godebug = none := by kernel_rfl
theorem laidOut : laidOutB Tryz.prog = true := by kernel_rfl
set_option maxRecDepth 100000 in
theorem lifted (os : Os) (started : os.Started) (H : Type) (enc : TypeId × Value → H) :
    ReturnsInHanded {} Tryz.checked os 4 .any (Rows.blindMakesSpec.pre6 enc Tryz.prog Tryz.f4 Rows.blindMakesRow.domain false) (Rows.blindMakesSpec.post enc Tryz.prog Tryz.f4 false true false false) := by
  refine returnsInHanded_of_change_sized (C := Tryz.checked) own started (by kernel_rfl) Tryz.func4
    (ChangeSpec.witness6 (enc := enc) (C := Tryz.checked) false ⟨#[], #[.string ⟨#[]⟩, .string ⟨#[]⟩, .agg #[.int .i64 0, .int .i64 0, .slice none 0 0]], []⟩ 8 (by kernel_rfl) (by kernel_rfl) (by kernel_rfl) (by kernel_rfl)) ?_
  intro W base args ds gs before hval0 hW hcnd hsz0 _
  have hval : ∀ (j : Nat) t v, Tryz.f4.params[j]? = some t → args[j]? = some v → Value.okWide Tryz.prog W .any base t v := hval0
  have hW' := hW
  obtain ⟨p, q, hA0, hV, rfl, hfz, hnd⟩ := hW
  have hA : DataW.TrodAll enc Tryz.prog W 0 (fun _ => true) true Tryz.f4.params.toList args.toList ds p := hA0
  rw [Tryz.params4] at hA hval
  obtain ⟨v0, vs0, d0, ds0, p0, q0, hargs, rfl, rfl, h0, r0⟩ := trodAll_cons hA
  obtain ⟨v1, vs1, d1, ds1, p1, q1, rfl, rfl, rfl, h1, r1⟩ := trodAll_cons r0
  obtain ⟨v2, vs2, d2, ds2, p2, q2, rfl, rfl, rfl, h2, r2⟩ := trodAll_cons r1
  obtain ⟨rfl, rfl, rfl⟩ := trodAll_nil r2
  obtain rfl : args = #[v0, v1, v2] := by cases args; simp_all
  obtain ⟨rfl, rfl⟩ := trodVars_none hV
  obtain ⟨q2_, rfl, -⟩ := okWide_struct Tryz.underlying46 (hval 2 46 v2 rfl rfl)
  have k0 := h0
  have lt0 : ∀ x ∈ p0, x.block < W.heap.size := by obtain ⟨m, hm⟩ := k0; exact DataW.trod_lt m _ _ _ hm
  have k1 := h1
  have lt1 : ∀ x ∈ p1, x.block < W.heap.size := by obtain ⟨m, hm⟩ := k1; exact DataW.trod_lt m _ _ _ hm
  have k2 := h2
  have lt2 : ∀ x ∈ p2, x.block < W.heap.size := by obtain ⟨m, hm⟩ := k2; exact DataW.trod_lt m _ _ _ hm
  obtain ⟨t0, ht0, l0⟩ := Eng.openS_ex (Eng.openS_str Tryz.underlying9 (by kernel_rfl)) (j := 0) (t := 9) hsz0 rfl rfl h0
  obtain ⟨t1, ht1, l1⟩ := Eng.openS_ex (Eng.openS_str Tryz.underlying9 (by kernel_rfl)) (j := 1) (t := 9) hsz0 rfl rfl h1
  obtain ⟨y2, hy2, p2_⟩ := Eng.openS_ex (Eng.openS_struct Tryz.underlying46 (by kernel_rfl) (Eng.openFS_cons rfl (Eng.openS_struct Tryz.underlying43 (by kernel_rfl) (Eng.openFS_cons rfl (Eng.openS_int Tryz.underlying3 (by kernel_rfl)) (Eng.openFS_one rfl (Eng.openS_int Tryz.underlying3 (by kernel_rfl))))) (Eng.openFS_one rfl (Eng.openS_slice (b := 8) Tryz.underlying44 (by kernel_rfl) (by kernel_rfl) (Eng.openS_int Tryz.underlying3 (by kernel_rfl)) (by decide))))) (j := 2) (t := 46) hsz0 rfl rfl h2
  obtain ⟨s0, rfl, -, -, w0⟩ := open_string Tryz.underlying9 (hval 0 9 v0 rfl rfl) h0
  obtain rfl : s0 = Eng.bs t0 := by have e : [Value.string s0] = [Value.string (Eng.bs t0)] := ht0; injection e with e _; injection e
  obtain ⟨s1, rfl, -, -, w1⟩ := open_string Tryz.underlying9 (hval 1 9 v1 rfl rfl) h1
  obtain rfl : s1 = Eng.bs t1 := by have e : [Value.string s1] = [Value.string (Eng.bs t1)] := ht1; injection e with e _; injection e
  clear hA0 hval0 hsz0
  refine (G.makes_row l0 l1 hy2).mono fun e W' ⟨r, he, hr, bel⟩ => ?_
  subst he hr
  exact ⟨_, rfl, _, _, _, [], _, [], hW', trodAll_mk1 (shut_bool Tryz.underlying4 _), (trodAll_cons_mk (Below.trod laidOut (by kernel_rfl) (of_decide_eq_true (by kernel_rfl)) k0 bel lt0) (trodAll_cons_mk (Below.trod laidOut (by kernel_rfl) (of_decide_eq_true (by kernel_rfl)) k1 bel lt1) (trodAll_cons_mk (Below.trod laidOut (by kernel_rfl) (of_decide_eq_true (by kernel_rfl)) k2 bel lt2) trodAll_mk0))), rfl, bel.frame _, fun h => by cases h⟩
theorem over : Rows.blindMakesRow.holds Tryz.pinned (OpenSpec.ofChange Rows.blindMakesSpec) :=
  OpenClaim.holds_of_wide 4 Tryz.f4 rfl rfl rfl rfl rfl rfl rfl ⟨rfl, rfl, rfl, rfl, rfl⟩ rfl rfl rfl rfl rfl (by kernel_rfl) Tryz.func4 (by kernel_rfl)
    (of_decide_eq_true (by kernel_rfl)) (by unfold Func.isWrapper; first | (rw [if_pos (by decide +kernel)]; kernel_rfl) | (rw [if_neg (by decide +kernel)]; exact ⟨rfl, rfl⟩))
    (fun os started H enc _ => lifted os started H enc)
theorem proved : Rows.BlindMakesSaid := over
#print axioms proved
end Go.Proofs.YtgomlcfoifkdiaaGreat.blindMakes
namespace Go.Proofs.YtgomlcfoifkdiaaGreat
/-- The row, under a short name, for the claim. -/
theorem blindMakes_holds : Rows.BlindMakesSaid := blindMakes.proved
end Go.Proofs.YtgomlcfoifkdiaaGreat
