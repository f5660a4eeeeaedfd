/- Chapter 15's example. -/
import Derived.Test.YtgomlcfoifkdiaaGreatBlindP
import Derived.Test.YtgomlcfoifkdiaaGreatHS
namespace Go.Proofs.YtgomlcfoifkdiaaGreat.G
open Go.RowKit Go.Eng Go.Proofs Go.Proofs.YtgomlcfoifkdiaaGreat.Cut
set_option linter.unusedVariables false
set_option linter.unusedSimpArgs false
abbrev nmT (x : Int) : List UInt8 := countedT 110 x
theorem nmT_len (x : Int) : (nmT x).length = 9 := by simp [nmT, countedT, bytesOf_length]
theorem nmT_full (x : Int) {m : Nat} (h : 1 ≤ m) : full (nmT x) m := full_mono (full_name x) h
theorem elemN (x : Int) : blind_Element.f (nmT x) = some (101 :: 1 :: nmT x, 0) := elem_eq (nmT_full x (by omega)) (by rw [nmT_len]; omega)
theorem aboveN (x y : Int) : blind_Above.f (nmT y) (101 :: 1 :: nmT x) = some (107 :: powT [nmT x, nmT y], 0) := above_eq (nmT_full x (by omega)) (nmT_full y (by omega)) (by rw [nmT_len, nmT_len]; omega)
theorem of12 : ofM [40, 49, 50, 41] = some (.two (.leaf 1) (.leaf 2)) := by
  have hok : (Tr.two (.leaf 1) (.leaf 2)).ok := by simp only [Tr.ok]; decide
  have h := ofM_iff hok
  rw [if_pos (by decide)] at h
  exact h
theorem sortZ_of {xs ys : List Int} (h : xs.Perm ys) (hp : ys.Pairwise (· ≤ ·)) : sortZ xs = ys :=
  List.Perm.eq_of_pairwise (le := fun a b : Int => a ≤ b) (fun a b _ _ h1 h2 => Int.le_antisymm h1 h2) (sortZ_le xs) hp ((sortZ_perm xs).trans h)
theorem sortZ12 : sortZ [2, 1] = [1, 2] := sortZ_of (List.Perm.swap _ _ _) (by decide)
theorem members12 : membersM [40, 49, 50, 41] = [1, 2] := by
  unfold membersM
  rw [of12]
  show sortZ (Tr.two (.leaf 1) (.leaf 2)).leavesR = _
  rw [show (Tr.two (.leaf 1) (.leaf 2)).leavesR = [2, 1] from rfl, sortZ12]
theorem index1 : slices_Index_int_int.f [1, 2] 1 = some 0 := by
  obtain ⟨i, h1, h2, h3⟩ := index_eq [1, 2] 1 (by simp) (by simp)
  have : i = 0 := by
    match i, h1 with
    | 0, _ => rfl
    | 1, _ => simp at h2
  subst this; exact h3
theorem index2 : slices_Index_int_int.f [1, 2] 2 = some 1 := by
  obtain ⟨i, h1, h2, h3⟩ := index_eq [1, 2] 2 (by simp) (by simp)
  have : i = 1 := by
    match i, h1 with
    | 0, _ => simp at h2
    | 1, _ => rfl
  subst this; exact h3
theorem root12 (u v : List UInt8) (hu : full u 398) (hv : full v 398) (hl : u.length + v.length + 3 ≤ 20000) : blind_Root.f [40, 49, 50, 41] [u, v] = some (107 :: powT [u, v], 0) := by
  unfold blind_Root.f
  rw [given_of (by simp), members12, if_neg (by simp), of12]
  simp only [rootT]
  rw [index1, index2]
  rw [show ((some (0 : Int)).bind fun i => Option.map (fun x => (x, (0 : Int))) (idxL [u, v] i)) = some (u, 0) from rfl, show ((some (1 : Int)).bind fun i => Option.map (fun x => (x, (0 : Int))) (idxL [u, v] i)) = some (v, 0) from rfl, Option.bind_some, if_neg (by simp), Option.bind_some, if_neg (by simp), elem_eq (full_mono hu (by omega)) (by omega), Option.bind_some, if_neg (by simp)]
  exact above_eq hu hv hl
theorem shown15 : gemotlaw15_shown.f = some true := by
  have h1 : term_Power.f [103] (nmT 1) = some (101 :: 1 :: nmT 1, 0) := by
    have h := elemN 1
    unfold blind_Element.f term_Gen.f at h
    rw [Option.bind_some] at h
    cases hp : term_Power.f [103] (nmT 1) with
    | none => rw [hp] at h; cases h
    | some r => rw [hp] at h; exact h
  have h2 := pow2_eq (nmT_full 1 (show 1 ≤ 399 by omega)) (nmT_full 2 (show 1 ≤ 399 by omega)) (by rw [nmT_len, nmT_len]; omega)
  have h3 := aboveN 1 2
  unfold blind_Above.f at h3
  rw [h2, Option.bind_some] at h3
  have h4 : term_Key.f (powT [nmT 1, nmT 2]) = some (107 :: powT [nmT 1, nmT 2], 0) := by
    replace h3 : (term_Key.f (powT [nmT 1, nmT 2])).bind (fun y8 => some (y8.1, y8.2)) = _ := h3
    cases hk : term_Key.f (powT [nmT 1, nmT 2]) with
    | none => rw [hk] at h3; cases h3
    | some r => rw [hk] at h3; exact h3
  unfold gemotlaw15_shown.f term_Gen.f term_Name.f
  simp only [Option.bind_some]
  rw [h1]
  simp only [Option.bind_some]
  rw [h2]
  simp only [Option.bind_some]
  rw [h4]
  simp only [Option.bind_some]
  rw [root12 _ _ (nmT_full 1 (by omega)) (nmT_full 2 (by omega)) (by rw [nmT_len, nmT_len]; omega)]
  simp [strEq_eq]
end Go.Proofs.YtgomlcfoifkdiaaGreat.G
