/- PlaceNodes, as it is reckoned. -/
import Derived.Test.YtgomlcfoifkdiaaDutyQ
import Derived.Test.YtgomlcfoifkdiaaSortLev
namespace Go.Proofs.Ytgomlcfoifkdiaa.G
open Go.RowKit Go.Eng Go.Proofs Go.Proofs.Ytgomlcfoifkdiaa.Cut
set_option linter.unusedVariables false
set_option linter.unusedSimpArgs false

theorem same14 (a : List (List UInt8)) (hl : a.length ≤ 1000000) : gemotlaw14_same.f a a = some true := by
  have go : ∀ k i, i + k = a.length → loopM (fun s146 : Int => gemotlaw14_same.b1 a a s146) (i : Int) = some (.inl ()) := by
    intro k
    induction k with
    | zero =>
      intro i hi
      refine loop_end ?_
      show gemotlaw14_same.b1 a a (i : Int) = _
      unfold gemotlaw14_same.b1
      rw [cond_f (by omega)]
    | succ k ih =>
      intro i hi
      have hil : i < a.length := by omega
      refine loop_step ?_ (ih (i + 1) (by omega))
      show gemotlaw14_same.b1 a a (i : Int) = _
      unfold gemotlaw14_same.b1
      rw [cond_t (by omega), idxL_lt hil, Option.bind_some, Option.bind_some, strEq_eq, decide_eq_true rfl, wrap1 i (by omega)]; rfl
  unfold gemotlaw14_same.f
  rw [show ((a.length : Int) != (a.length : Int)) = false by simp, cond_false, show loopM (fun s146 : Int => gemotlaw14_same.b1 a a s146) (0 : Int) = _ from go a.length 0 (by omega)]
  rfl
/-- The chapter's example: ((12)3). -/
def T0 : Tr := .two (.two (.leaf 1) (.leaf 2)) (.leaf 3)
theorem of_T0 : ofM [40, 40, 49, 50, 41, 51, 41] = some T0 := by
  have h := ofM_iff (T := T0) (by simp [T0, Tr.ok])
  rw [if_pos (by simp [T0, Tr.leavesR])] at h
  exact h
theorem sub_T0 : sponM [40, 40, 49, 50, 41, 51, 41] [108, 108] = 1 ∧ sponM [40, 40, 49, 50, 41, 51, 41] [108] = 1 := by
  rw [sponM_in of_T0, sponM_in of_T0]
  have e1 : subT T0 [108, 108] = some (.leaf 1) := rfl
  have e2 : subT T0 [108] = some (.two (.leaf 1) (.leaf 2)) := rfl
  simp only [e1, e2]
  rw [show (Tr.leaf 1).leavesR = [1] from rfl, show (Tr.two (.leaf 1) (.leaf 2)).leavesR = [2, 1] from rfl, sortZ_is (ys := [1]) (List.Perm.refl _) (by simp), sortZ_is (ys := [1, 2]) (List.Perm.swap _ _ _) (by simp)]
  exact ⟨rfl, rfl⟩
theorem shown14 : gemotlaw14_shown.f = some true := by
  unfold gemotlaw14_shown.f
  have hp2 : pathM [40, 40, 49, 50, 41, 51, 41] 2 = [[108, 114], [108], []] := by rw [pathM_eq of_T0]; rfl
  have hp1 : pathM [40, 40, 49, 50, 41, 51, 41] 1 = [[108, 108], [108], []] := by rw [pathM_eq of_T0]; rfl
  have hc : coM [40, 40, 49, 50, 41, 51, 41] 2 = [[108, 108], [114]] := by unfold coM; rw [hp2]; rfl
  have hd : dutM [40, 40, 49, 50, 41, 51, 41] 1 = [[108, 108], [108]] := by
    unfold dutM
    rw [hp1]
    simp [sub_T0.1, sub_T0.2]
  rw [show place_Path.f [40, 40, 49, 50, 41, 51, 41] (2 : Int) = some [[108, 114], [108], []] by unfold place_Path.f; rw [given_of (by decide), hp2], Option.bind_some, same14 _ (by decide), Option.bind_some, cond_true, co_eq (by decide), Option.bind_some, hc, same14 _ (by decide), Option.bind_some, cond_true, dut_eq (by decide), Option.bind_some, hd, same14 _ (by decide), Option.bind_some]
  rfl
theorem nodesM_len (s : List UInt8) : (nodesM s).length ≤ 1000 := by
  cases ho : ofM s with
  | none => unfold nodesM; rw [ho]; simp
  | some T =>
    rw [nodesM_eq ho]
    have h8 := leaves_le (ofM_text ho).2 (ofM_nodup ho)
    have := levs_len (T.leavesR.length + 1) T
    have hb : (T.leavesR.length + 1) * T.leavesR.length ≤ 9 * 8 := Nat.mul_le_mul (by omega) h8
    omega
theorem nodes_law (x0 x1 : List UInt8) (x2 : Int) : gemotlaw14_PlaceNodes.f x0 x1 x2 = some true := by
  unfold gemotlaw14_PlaceNodes.f
  rw [shown14, Option.bind_some]
  by_cases h0 : (x0.length : Int) > 90
  · rw [decide_eq_true h0]; rfl
  by_cases h1 : (x1.length : Int) > 90
  · rw [decide_eq_false h0, decide_eq_true h1]; rfl
  rw [decide_eq_false h0, decide_eq_false h1]
  show ((place_At.f x0 x1).bind _) = _
  have hA : place_At.f x0 x1 = some (atM x0 x1) := by unfold place_At.f; rw [given_of (by omega)]
  have hN : place_Nodes.f x0 = some (nodesM x0) := by unfold place_Nodes.f; rw [given_of (by omega)]
  have hP : place_Path.f x0 x2 = some (pathM x0 x2) := by unfold place_Path.f; rw [given_of (by omega)]
  have l1 := nodesM_len x0
  have l2 := path_len9 x0 x2
  have l3 : (coM x0 x2).length ≤ 9 := by unfold coM; rw [List.length_map, List.length_dropLast]; omega
  have l4 : (dutM x0 x2).length ≤ 9 := by unfold dutM; exact Nat.le_trans (List.length_filter_le _ _) l2
  rw [hA, Option.bind_some, at14 (by omega) (by omega), Option.bind_some, hN, Option.bind_some, nodesM_14 (by omega), Option.bind_some, same14 _ (by omega), Option.bind_some]
  simp only [strEq_eq, decide_true, beq_self_eq_true, cond_true]
  rw [hP, Option.bind_some, path14 (by omega), Option.bind_some, same14 _ (by omega), Option.bind_some, cond_true, beside_eq (by omega), Option.bind_some, rbeside_eq (by omega), Option.bind_some, decide_eq_true rfl, cond_true, co_eq (by omega), Option.bind_some, rco_eq (by omega), Option.bind_some, same14 _ (by omega), Option.bind_some, cond_true, spon_eq (by omega), Option.bind_some, rspon_eq (by omega) (by omega), Option.bind_some, beq_self_eq_true, cond_true, dut_eq (by omega), Option.bind_some, rdut_eq (by omega), Option.bind_some, same14 _ (by omega), Option.bind_some]
  rfl
theorem nodes_row {w : World} {x0 x1 : List UInt8} {x2 : Int} :
    Calls Try.prog 11 #[.string (bs x0), .string (bs x1), .int .i64 x2] w fun e w' => ∃ r, e = .returned r ∧ r = .bool true ∧ Below w.heap.size w w' :=
  (gemotlaw14_PlaceNodes_ok (ok := fun _ => False) (nodes_law x0 x1 x2)).mono fun e w' ⟨v, h1, h2, h3⟩ => ⟨v, h1, h2, h3.toBelow⟩
end Go.Proofs.Ytgomlcfoifkdiaa.G
