/- Ways through a tree. -/
import Derived.Test.YtfapphlhkfddoaaGreatDoorPlaceR
import Derived.Test.YtfapphlhkfddoaaGreatDoorMadeR
namespace Go.Proofs.YtfapphlhkfddoaaGreatDoor.G
open Go.RowKit Go.Eng Go.Proofs Go.Proofs.YtfapphlhkfddoaaGreatDoor.Cut
set_option linter.unusedVariables false
set_option linter.unusedSimpArgs false
theorem sub_two_l (l r : Tr) (n : List UInt8) : subT (.two l r) (108 :: n) = subT l n := rfl
theorem sub_two_r (l r : Tr) (n : List UInt8) : subT (.two l r) (114 :: n) = subT r n := rfl
theorem sub_append : ∀ (a : List UInt8) (T : Tr) (b : List UInt8), subT T (a ++ b) = (subT T a).bind fun S => subT S b
  | [], T, b => by rw [List.nil_append, subT_nil]; rfl
  | c :: a, .leaf p, b => rfl
  | c :: a, .two l r, b => by
    show (if c = 108 then subT l (a ++ b) else if c = 114 then subT r (a ++ b) else none) = (if c = 108 then subT l a else if c = 114 then subT r a else none).bind _
    by_cases h1 : c = 108
    · rw [if_pos h1, if_pos h1]; exact sub_append a l b
    · rw [if_neg h1, if_neg h1]
      by_cases h2 : c = 114
      · rw [if_pos h2, if_pos h2]; exact sub_append a r b
      · rw [if_neg h2, if_neg h2]; rfl
theorem path_leafAt : ∀ (T : Tr) (p : Int) (π : List UInt8), pathL T p = some π → subT T π = some (.leaf p) ∧ ∀ c ∈ π, c = 108 ∨ c = 114
  | .leaf q, p, π, h => by
    rw [pathL_leaf] at h
    split at h
    · rename_i e; cases h; subst e; exact ⟨rfl, fun c hc => by cases hc⟩
    · cases h
  | .two l r, p, π, h => by
    rw [pathL_two] at h
    cases hl : pathL l p with
    | some x =>
      rw [hl] at h; cases h
      obtain ⟨h1, h2⟩ := path_leafAt l p x hl
      exact ⟨h1, fun c hc => (List.mem_cons.1 hc).elim .inl (fun q => h2 c q)⟩
    | none =>
      rw [hl] at h
      cases hr : pathL r p with
      | none => rw [hr] at h; cases h
      | some y =>
        rw [hr] at h
        obtain rfl : 114 :: y = π := Option.some.inj h
        obtain ⟨h1, h2⟩ := path_leafAt r p y hr
        exact ⟨h1, fun c hc => (List.mem_cons.1 hc).elim .inr (fun q => h2 c q)⟩
theorem path_apart {T : Tr} {p q : Int} {π ρ x : List UInt8} (hp : pathL T p = some π) (hq : pathL T q = some ρ) (hne : p ≠ q) : ρ ≠ π ++ x := by
  intro e
  have h1 := (path_leafAt T p π hp).1
  have h2 := (path_leafAt T q ρ hq).1
  rw [e, sub_append, h1] at h2
  cases x with
  | nil => exact hne (by have h2 : some (Tr.leaf p) = some (.leaf q) := h2; cases h2; rfl)
  | cons c x => cases h2
theorem path_mem {T : Tr} {p : Int} (h : p ∈ T.leavesR) : ∃ π, pathL T p = some π := by
  have := pathL_some T p
  rw [decide_eq_true h] at this
  exact Option.isSome_iff_exists.1 this
theorem path_none {T : Tr} {p : Int} (h : p ∉ T.leavesR) : pathL T p = none := by
  have := pathL_some T p
  rw [decide_eq_false h] at this
  simpa using this
/-- Who stands below a node has it on the way. -/
theorem path_sub : ∀ (n : List UInt8) (T S : Tr) (p : Int), T.leavesR.Nodup → subT T n = some S → p ∈ S.leavesR → ∃ ρ, pathL T p = some (n ++ ρ)
  | [], T, S, p, hn, hs, hp => by
    rw [subT_nil] at hs; cases hs
    exact path_mem hp
  | c :: n, .leaf q, S, p, hn, hs, hp => by cases hs
  | c :: n, .two l r, S, p, hn, hs, hp => by
    have hn2 : (r.leavesR ++ l.leavesR).Nodup := hn
    obtain ⟨hnr, hnl, hdis⟩ := List.nodup_append.1 hn2
    have hs : (if c = 108 then subT l n else if c = 114 then subT r n else none) = some S := hs
    rw [pathL_two]
    by_cases h1 : c = 108
    · rw [if_pos h1] at hs
      obtain ⟨ρ, hr⟩ := path_sub n l S p hnl hs hp
      exact ⟨ρ, by rw [hr, h1]; rfl⟩
    · rw [if_neg h1] at hs
      by_cases h2 : c = 114
      · rw [if_pos h2] at hs
        obtain ⟨ρ, hr⟩ := path_sub n r S p hnr hs hp
        have hpr : p ∈ r.leavesR := (subT_nodup _ _ _ hs hnr).2 p hp
        have hno : pathL l p = none := path_none fun q => hdis p hpr p q rfl
        exact ⟨ρ, by rw [hno, hr, h2]; rfl⟩
      · rw [if_neg h2] at hs; cases hs
theorem leaf_in : ∀ (ρ : List UInt8) (S : Tr) (p : Int), subT S ρ = some (.leaf p) → p ∈ S.leavesR
| [], S, p, h => by rw [subT_nil] at h; cases h; exact List.mem_singleton.2 rfl
| c :: ρ, .leaf q, p, h => by cases h
| c :: ρ, .two l r, p, h => by
  have h : (if c = 108 then subT l ρ else if c = 114 then subT r ρ else none) = some (.leaf p) := h
  by_cases h1 : c = 108
  · rw [if_pos h1] at h; exact List.mem_append_right _ (leaf_in ρ l p h)
  · rw [if_neg h1] at h
    by_cases h2 : c = 114
    · rw [if_pos h2] at h; exact List.mem_append_left _ (leaf_in ρ r p h)
    · rw [if_neg h2] at h; cases h
theorem path_here {T S : Tr} {n ρ : List UInt8} {p : Int} (h : pathL T p = some (n ++ ρ)) (hs : subT T n = some S) : p ∈ S.leavesR := by
  have h1 := (path_leafAt T p _ h).1
  rw [sub_append, hs] at h1
  have h1 : subT S ρ = some (.leaf p) := h1
  exact leaf_in ρ S p h1
/-- Each beginning of a path is a node. -/
theorem path_node {T : Tr} {p : Int} {π : List UInt8} (h : pathL T p = some π) (d : Nat) : ∃ S, subT T (π.take d) = some S ∧ p ∈ S.leavesR := by
  have h1 := (path_leafAt T p π h).1
  rw [← List.take_append_drop d π, sub_append] at h1
  cases hs : subT T (π.take d) with
  | none => rw [hs] at h1; cases h1
  | some S =>
    refine ⟨S, rfl, path_here (ρ := π.drop d) ?_ hs⟩
    rw [List.take_append_drop]; exact h
theorem up_len (n : List UInt8) : (upT n).length = n.length + 1 := by unfold upT; simp
theorem up_get {n : List UInt8} {j : Nat} (h : j ≤ n.length) : idxL (upT n) (j : Int) = some (n.take (n.length - j)) := by
  rw [idxL_nat]
  unfold upT
  simp [List.getElem?_range (show j < n.length + 1 by omega)]
theorem lev_node : ∀ (d : Nat) (T : Tr) (n : List UInt8) (S : Tr), n.length = d → subT T n = some S → n ∈ lev d T
  | 0, T, n, S, hd, hs => by rw [List.length_eq_zero_iff.1 hd]; exact List.mem_singleton.2 rfl
  | d + 1, T, [], S, hd, hs => by simp at hd
  | d + 1, .leaf p, c :: n, S, hd, hs => by cases hs
  | d + 1, .two l r, c :: n, S, hd, hs => by
    have hs : (if c = 108 then subT l n else if c = 114 then subT r n else none) = some S := hs
    have hd : n.length = d := by simpa using hd
    show c :: n ∈ (lev d l).map (108 :: ·) ++ (lev d r).map (114 :: ·)
    by_cases h1 : c = 108
    · rw [if_pos h1] at hs
      exact List.mem_append_left _ (List.mem_map.2 ⟨n, lev_node d l n S hd hs, by rw [h1]⟩)
    · rw [if_neg h1] at hs
      by_cases h2 : c = 114
      · rw [if_pos h2] at hs
        exact List.mem_append_right _ (List.mem_map.2 ⟨n, lev_node d r n S hd hs, by rw [h2]⟩)
      · rw [if_neg h2] at hs; cases hs
theorem levs_node {T : Tr} {D : Nat} {n : List UInt8} (h : n ∈ levs D T) : ∃ S, subT T n = some S := by
  unfold levs at h
  obtain ⟨d, _, hd⟩ := List.mem_flatMap.1 h
  exact Option.isSome_iff_exists.1 (lev_mem d T n hd).2
theorem nodes_at {T : Tr} (hk : T.ok) (hn : T.leavesR.Nodup) {n : List UInt8} (h : n ∈ nodesM T.text) : ∃ S, subT T n = some S := by
  have ho : ofM T.text = some T := by rw [ofM_iff hk, if_pos hn]
  rw [nodesM_eq ho] at h
  exact levs_node h
theorem sub_ok4 {T S : Tr} {n : List UInt8} (hk : T.ok) (hn : T.leavesR.Nodup) (h : subT T n = some S) : S.ok ∧ S.leavesR.Nodup ∧ (∀ x ∈ S.leavesR, x ∈ T.leavesR) ∧ S.text.length ≤ 22 := by
  have h1 := subT_ok _ _ _ h hk
  obtain ⟨h2, h3⟩ := subT_nodup _ _ _ h hn
  exact ⟨h1, h2, h3, tree_len h1 h2⟩
theorem head_in {xs : List Int} (h : 0 < xs.length) : (sortZ xs).headD 0 ∈ xs := by
  have hl := sortZ_len xs
  cases hs : sortZ xs with
  | nil => rw [hs] at hl; simp only [List.length_nil] at hl; omega
  | cons a r => exact (sortZ_perm xs).mem_iff.1 (by rw [hs]; exact List.mem_cons_self)
end Go.Proofs.YtfapphlhkfddoaaGreatDoor.G
