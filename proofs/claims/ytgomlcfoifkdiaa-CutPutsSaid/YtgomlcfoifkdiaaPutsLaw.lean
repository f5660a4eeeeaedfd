/- For all logs, parts and texts the law CutPuts answers true; no condition beyond what the row reads. -/
import Derived.Test.YtgomlcfoifkdiaaRows
import Derived.Test.YtgomlcfoifkdiaaPutsL
import Derived.Test.YtgomlcfoifkdiaaSized
import Derived.WalkKit
import Derived.ProofKit
import Derived.OpenShut
import Derived.ShutString
import Derived.SliceStrings
import Derived.ChangeOld
import Derived.Below
import Derived.SizedLaws
namespace Go.Proofs.Ytgomlcfoifkdiaa.cutPuts
open Go.ChangeShapes Go.WideShapes Go.ChangeAt Go.RowKit
open Go.ChangeMaps (open_string shut_string)
set_option linter.unusedVariables false
theorem own : ownKnob Try.prog.godebug = none := by kernel_rfl
theorem laidOut : laidOutB Try.prog = true := by kernel_rfl
set_option maxRecDepth 100000 in
theorem lifted (os : Os) (started : os.Started) (H : Type) (enc : TypeId × Value → H) :
    ReturnsInHanded {} Try.checked os 9 .any (Rows.cutPutsSpec.pre6 enc Try.prog Try.f9 Rows.cutPutsRow.domain false) (Rows.cutPutsSpec.post enc Try.prog Try.f9 false true false false) := by
  refine returnsInHanded_of_change_sized (C := Try.checked) own started (by kernel_rfl) Try.func9
    (ChangeSpec.witness6 (enc := enc) (C := Try.checked) false ⟨#[], #[.slice none 0 0, .slice none 0 0, .slice none 0 0], []⟩ 8 (by kernel_rfl) (by kernel_rfl) (by kernel_rfl) (by kernel_rfl)) ?_
  intro W base args ds gs before hval0 hW hcnd hsz0 _
  have hval : ∀ (j : Nat) t v, Try.f9.params[j]? = some t → args[j]? = some v → Value.okWide Try.prog W .any base t v := hval0
  have hW' := hW
  obtain ⟨p, q, hA0, hV, rfl, hfz, hnd⟩ := hW
  have hA : DataW.TrodAll enc Try.prog W 0 (fun _ => true) true Try.f9.params.toList args.toList ds p := hA0
  rw [Try.params9] at hA hval
  obtain ⟨v0, vs0, d0, ds0, p0, q0, hargs, rfl, rfl, h0, r0⟩ := trodAll_cons hA
  obtain ⟨v1, vs1, d1, ds1, p1, q1, rfl, rfl, rfl, h1, r1⟩ := trodAll_cons r0
  obtain ⟨v2, vs2, d2, ds2, p2, q2, rfl, rfl, rfl, h2, r2⟩ := trodAll_cons r1
  obtain ⟨rfl, rfl, rfl⟩ := trodAll_nil r2
  obtain rfl : args = #[v0, v1, v2] := by cases args; simp_all
  obtain ⟨rfl, rfl⟩ := trodVars_none hV
  obtain ⟨b0, len0, cap0, rfl⟩ := okWide_slice Try.underlying26 (hval 0 26 v0 rfl rfl)
  obtain ⟨b1, len1, cap1, rfl⟩ := okWide_slice Try.underlying23 (hval 1 23 v1 rfl rfl)
  obtain ⟨b2, len2, cap2, rfl⟩ := okWide_slice Try.underlying40 (hval 2 40 v2 rfl rfl)
  have k0 := h0
  have lt0 : ∀ x ∈ p0, x.block < W.heap.size := by obtain ⟨m, hm⟩ := k0; exact DataW.trod_lt m _ _ _ hm
  have k1 := h1
  have lt1 : ∀ x ∈ p1, x.block < W.heap.size := by obtain ⟨m, hm⟩ := k1; exact DataW.trod_lt m _ _ _ hm
  have k2 := h2
  have lt2 : ∀ x ∈ p2, x.block < W.heap.size := by obtain ⟨m, hm⟩ := k2; exact DataW.trod_lt m _ _ _ hm
  obtain ⟨x0, hx0, l0, p0_⟩ := Eng.openS_list (b := 32) Try.underlying26 (by kernel_rfl) (by kernel_rfl) (Eng.openS_struct Try.underlying58 (by kernel_rfl) (Eng.openFS_cons rfl (Eng.openS_int Try.underlying3 (by kernel_rfl)) (Eng.openFS_one rfl (Eng.openS_slice (b := 16) Try.underlying35 (by kernel_rfl) (by kernel_rfl) (Eng.openS_str Try.underlying62 (by kernel_rfl)) (by decide))))) (by decide) (j := 0) (t := 26) hsz0 rfl rfl h0
  obtain ⟨x1, hx1, l1, p1_⟩ := Eng.openS_list (b := 48) Try.underlying23 (by kernel_rfl) (by kernel_rfl) (Eng.openS_struct Try.underlying37 (by kernel_rfl) (Eng.openFS_cons rfl (Eng.openS_struct Try.underlying25 (by kernel_rfl) (Eng.openFS_cons rfl (Eng.openS_int Try.underlying3 (by kernel_rfl)) (Eng.openFS_one rfl (Eng.openS_int Try.underlying3 (by kernel_rfl))))) (Eng.openFS_cons rfl (Eng.openS_int Try.underlying3 (by kernel_rfl)) (Eng.openFS_one rfl (Eng.openS_slice (b := 16) Try.underlying35 (by kernel_rfl) (by kernel_rfl) (Eng.openS_str Try.underlying62 (by kernel_rfl)) (by decide)))))) (by decide) (j := 1) (t := 23) hsz0 rfl rfl h1
  obtain ⟨x2, hx2, l2, p2_⟩ := Eng.openS_list (b := 16) Try.underlying40 (by kernel_rfl) (by kernel_rfl) (Eng.openS_str Try.underlying9 (by kernel_rfl)) (by decide) (j := 2) (t := 40) hsz0 rfl rfl h2
  clear hA0 hval0 hsz0
  refine (G.putsLaw_row hx0 l0 p0_ hx1 l1 p1_ hx2).mono fun e W' ⟨r, he, hr, bel⟩ => ?_
  subst he hr
  exact ⟨_, rfl, _, _, _, [], _, [], hW', trodAll_mk1 (shut_bool Try.underlying4 _), (trodAll_cons_mk (Below.trod laidOut (by kernel_rfl) (of_decide_eq_true (by kernel_rfl)) k0 bel lt0) (trodAll_cons_mk (Below.trod laidOut (by kernel_rfl) (of_decide_eq_true (by kernel_rfl)) k1 bel lt1) (trodAll_cons_mk (Below.trod laidOut (by kernel_rfl) (of_decide_eq_true (by kernel_rfl)) k2 bel lt2) trodAll_mk0))), rfl, bel.frame _, fun h => by cases h⟩
theorem over : Rows.cutPutsRow.holds Try.pinned (OpenSpec.ofChange Rows.cutPutsSpec) :=
  OpenClaim.holds_of_wide 9 Try.f9 rfl rfl rfl rfl rfl rfl rfl ⟨rfl, rfl, rfl, rfl, rfl⟩ rfl rfl rfl rfl rfl (by kernel_rfl) Try.func9 (by kernel_rfl)
    (of_decide_eq_true (by kernel_rfl)) (by unfold Func.isWrapper; first | (rw [if_pos (by decide +kernel)]; kernel_rfl) | (rw [if_neg (by decide +kernel)]; exact ⟨rfl, rfl⟩))
    (fun os started H enc _ => lifted os started H enc)
theorem proved : Rows.CutPutsSaid := over
#print axioms proved
end Go.Proofs.Ytgomlcfoifkdiaa.cutPuts
namespace Go.Proofs.Ytgomlcfoifkdiaa
/-- The row, under a short name, for the claim. -/
theorem cutPuts_holds : Rows.CutPutsSaid := cutPuts.proved
end Go.Proofs.Ytgomlcfoifkdiaa
