/- The nodes of a tree, sorted, stand level by level. -/
import Derived.Test.YtgomlcfoifkdiaaNodesP
import Derived.Test.YtgomlcfoifkdiaaRefPlace
namespace Go.Proofs.Ytgomlcfoifkdiaa.G
open Go.RowKit Go.Eng Go.Proofs Go.Proofs.Ytgomlcfoifkdiaa.Cut
set_option linter.unusedVariables false
set_option linter.unusedSimpArgs false

theorem sortF_le (l : List (List UInt8)) : (sortF l).Pairwise fun a b => ltF b a = false := by
  have h := List.pairwise_mergeSort (le := fun x y => !(ltF y x)) (by
    intro a b c h1 h2
    simp only [Bool.not_eq_true'] at *
    exact swoF.ntrans c b a h2 h1) (by
    intro a b
    by_cases h : ltF b a = true
    · have : ltF a b = false := by
        cases hq : ltF a b with
        | false => rfl
        | true => exact absurd (swoF.trans a b a hq h) (by rw [swoF.irrefl]; simp)
      rw [this]; simp
    · rw [Bool.not_eq_true] at h; rw [h]; simp) l
  exact h.imp (by intro a b h; simpa using h)
theorem sortF_is {xs ys : List (List UInt8)} (h : xs.Perm ys) (hp : ys.Pairwise fun a b => ltF b a = false) : sortF xs = ys :=
  List.Perm.eq_of_pairwise (le := fun a b => ltF b a = false) (fun a b _ _ h1 h2 => totF a b h2 h1) (sortF_le xs) hp ((sortF_perm xs).trans h)
theorem lev_sorted : ∀ (d : Nat) (T : Tr), (lev d T).Pairwise fun a b => a < b
  | 0, T => List.pairwise_singleton _ _
  | d + 1, .leaf p => List.Pairwise.nil
  | d + 1, .two l r => by
    show ((lev d l).map (108 :: ·) ++ (lev d r).map (114 :: ·)).Pairwise _
    rw [List.pairwise_append]
    refine ⟨List.pairwise_map.2 ((lev_sorted d l).imp fun h => List.cons_lt_cons_iff.2 (.inr ⟨rfl, h⟩)), List.pairwise_map.2 ((lev_sorted d r).imp fun h => List.cons_lt_cons_iff.2 (.inr ⟨rfl, h⟩)), fun a ha b hb => ?_⟩
    obtain ⟨x, _, rfl⟩ := List.mem_map.1 ha
    obtain ⟨y, _, rfl⟩ := List.mem_map.1 hb
    exact List.cons_lt_cons_iff.2 (.inl (by decide))
theorem levs_lt (T : Tr) : ∀ D, ∀ n ∈ levs D T, n.length < D
  | 0, n, h => by simp [levs] at h
  | D + 1, n, h => by
    rw [levs_succ] at h
    rcases List.mem_append.1 h with q | q
    · have := levs_lt T D n q; omega
    · have := (lev_mem D T n q).1; omega
theorem levs_sorted (T : Tr) : ∀ D, (levs D T).Pairwise fun a b => ltF b a = false
  | 0 => by simp [levs]
  | D + 1 => by
    rw [levs_succ, List.pairwise_append]
    refine ⟨levs_sorted T D, ?_, fun a ha b hb => ?_⟩
    · have hl := lev_sorted D T
      refine List.Pairwise.imp_of_mem (fun {a b} ha hb h => ?_) hl
      have h1 := (lev_mem D T a ha).1
      have h2 := (lev_mem D T b hb).1
      rw [ltF_no]
      rintro (q | q)
      · omega
      · exact List.lt_irrefl _ (List.lt_trans h q.2)
    · have h1 := levs_lt T D a ha
      have h2 := (lev_mem D T b hb).1
      rw [ltF_no]
      rintro (q | q) <;> omega
theorem nodes_names : ∀ (T : Tr) (pre : List UInt8), (nodesT pre T).map (·.1) = ((nodesT [] T).map (·.1)).map (pre ++ ·)
  | .leaf p, pre => by simp [nodesT]
  | .two l r, pre => by
    have h1 := nodes_names l (pre ++ [108])
    have h2 := nodes_names r (pre ++ [114])
    have h3 := nodes_names l ([] ++ [108])
    have h4 := nodes_names r ([] ++ [114])
    simp only [nodesT, List.map_cons, List.map_append, h1, h2, h3, h4]
    simp [List.map_map, Function.comp_def, List.append_assoc]
theorem levs_two (l r : Tr) : ∀ D, (levs (D + 1) (.two l r)).Perm ([] :: ((levs D l).map (108 :: ·) ++ (levs D r).map (114 :: ·)))
  | 0 => by simp [levs, lev]
  | D + 1 => by
    rw [levs_succ (D + 1) (.two l r), levs_succ D l, levs_succ D r]
    refine ((levs_two l r D).append_right _).trans ?_
    show ([] :: ((levs D l).map (108 :: ·) ++ (levs D r).map (114 :: ·) ++ ((lev D l).map (108 :: ·) ++ (lev D r).map (114 :: ·)))).Perm _
    refine List.Perm.cons _ ?_
    rw [List.map_append, List.map_append, List.append_assoc, List.append_assoc]
    refine List.Perm.append_left _ ?_
    rw [← List.append_assoc, ← List.append_assoc]
    exact List.Perm.append_right _ List.perm_append_comm
theorem levs_more (T : Tr) : ∀ k, levs (T.leavesR.length + k) T = levs T.leavesR.length T
  | 0 => rfl
  | k + 1 => by
    rw [show T.leavesR.length + (k + 1) = (T.leavesR.length + k) + 1 by omega, levs_succ, levs_more T k, lev_none _ T (by omega), List.append_nil]
theorem nodes_levs : ∀ (T : Tr), ((nodesT [] T).map (·.1)).Perm (levs T.leavesR.length T)
  | .leaf p => by simp [nodesT, levs, lev, Tr.leavesR]
  | .two l r => by
    have hl := leavesR_pos l
    have hr := leavesR_pos r
    have e : (Tr.two l r).leavesR.length = r.leavesR.length + l.leavesR.length := by simp [Tr.leavesR]
    obtain ⟨k1, hk1⟩ : ∃ k, r.leavesR.length + l.leavesR.length = (l.leavesR.length + k) + 1 := ⟨r.leavesR.length - 1, by omega⟩
    obtain ⟨k2, hk2⟩ : ∃ k, l.leavesR.length + k1 = r.leavesR.length + k := ⟨l.leavesR.length - 1, by omega⟩
    rw [e, hk1]
    refine List.Perm.trans ?_ (levs_two l r _).symm
    rw [levs_more l k1, hk2, levs_more r k2]
    show ([] :: ((nodesT ([] ++ [108]) l ++ nodesT ([] ++ [114]) r).map (·.1))).Perm _
    refine List.Perm.cons _ ?_
    rw [List.map_append, nodes_names l, nodes_names r]
    exact ((nodes_levs l).map _).append ((nodes_levs r).map _)
theorem nodesM_eq {s : List UInt8} {T : Tr} (ho : ofM s = some T) : nodesM s = levs (T.leavesR.length + 1) T := by
  unfold nodesM
  rw [ho, levs_more T 1]
  exact sortF_is (nodes_levs T) (levs_sorted T _)
theorem nodesM_14 {s : List UInt8} (hl : s.length ≤ 1000000) : gemotref14_Nodes.f s = some (nodesM s) := by
  rw [nodes14 hl]
  cases ho : ofM s with
  | none => unfold nodesM; rw [ho]
  | some T => rw [nodesM_eq ho]
end Go.Proofs.Ytgomlcfoifkdiaa.G
