/- Paths, and what is beside them: the same to both. -/
import Derived.Test.YtgomlcfoifkdiaaRefPlace
namespace Go.Proofs.Ytgomlcfoifkdiaa.G
open Go.RowKit Go.Eng Go.Proofs Go.Proofs.Ytgomlcfoifkdiaa.Cut
set_option linter.unusedVariables false
set_option linter.unusedSimpArgs false

/-- The way to a process's leaf. -/
def pathL : Tr → Int → Option (List UInt8)
  | .leaf q, p => if q = p then some [] else none
  | .two l r, p => match pathL l p with
    | some x => some (108 :: x)
    | none => (pathL r p).map (114 :: ·)
theorem pathL_two (l r : Tr) (p : Int) : pathL (.two l r) p = match pathL l p with
    | some x => some (108 :: x)
    | none => (pathL r p).map (114 :: ·) := rfl
theorem pathL_leaf (q p : Int) : pathL (.leaf q) p = if q = p then some [] else none := rfl
theorem leavesR_two (l r : Tr) : (Tr.two l r).leavesR = r.leavesR ++ l.leavesR := rfl
theorem pathL_some : ∀ (T : Tr) (p : Int), (pathL T p).isSome = decide (p ∈ T.leavesR)
  | .leaf q, p => by
    rw [pathL_leaf]
    unfold Tr.leavesR
    by_cases h : q = p
    · rw [if_pos h, h]; simp
    · rw [if_neg h]; simp; exact fun e => h e.symm
  | .two l r, p => by
    have h1 := pathL_some l p
    have h2 := pathL_some r p
    rw [pathL_two, leavesR_two]
    cases hl : pathL l p with
    | some x =>
      rw [hl] at h1
      have : p ∈ l.leavesR := by simpa using h1.symm
      simp [this]
    | none =>
      rw [hl] at h1
      have : p ∉ l.leavesR := by simpa using h1.symm
      simp [this, h2]
theorem pathL_len : ∀ (T : Tr) (p : Int) (π : List UInt8), pathL T p = some π → π.length < T.leavesR.length
  | .leaf q, p, π, h => by
    unfold pathL at h
    split at h
    · cases h; simp [Tr.leavesR]
    · cases h
  | .two l r, p, π, h => by
    have h1 := leavesR_pos l
    have h2 := leavesR_pos r
    rw [pathL_two] at h
    simp only [Tr.leavesR, List.length_append]
    cases hl : pathL l p with
    | some x =>
      rw [hl] at h
      cases h
      have := pathL_len l p x hl
      simp only [List.length_cons]; omega
    | none =>
      rw [hl] at h
      obtain ⟨y, hy, rfl⟩ : ∃ y, pathL r p = some y ∧ 114 :: y = π := by
        cases hr : pathL r p with
        | none => rw [hr] at h; cases h
        | some y => rw [hr] at h; exact ⟨y, rfl, Option.some.inj h⟩
      have := pathL_len r p y hy
      simp only [List.length_cons]; omega
def hasAt (T : Tr) (p : Int) (n : List UInt8) : Bool := match subT T n with
  | some S => decide (p ∈ S.leavesR)
  | none => false
theorem lev_has : ∀ (d : Nat) (T : Tr) (p : Int), T.leavesR.Nodup → (lev d T).filter (hasAt T p) = match pathL T p with
    | some π => if d ≤ π.length then [π.take d] else []
    | none => []
  | 0, T, p, hn => by
    have hs := pathL_some T p
    have e : hasAt T p [] = decide (p ∈ T.leavesR) := by unfold hasAt; rw [subT_nil]
    show [([] : List UInt8)].filter (hasAt T p) = _
    cases hp : pathL T p with
    | none =>
      rw [hp] at hs
      simp [List.filter_cons, e, ← hs]
    | some π =>
      rw [hp] at hs
      simp [List.filter_cons, e, ← hs]
  | d + 1, .leaf q, p, hn => by
    show ([] : List (List UInt8)) = _
    unfold pathL
    by_cases h : q = p
    · rw [if_pos h]; simp
    · rw [if_neg h]
  | d + 1, .two l r, p, hn => by
    obtain ⟨hnr, hnl, hd⟩ := List.nodup_append.1 (show (r.leavesR ++ l.leavesR).Nodup from hn)
    have h1 := lev_has d l p hnl
    have h2 := lev_has d r p hnr
    have f1 : ∀ x, hasAt (Tr.two l r) p (108 :: x) = hasAt l p x := fun x => rfl
    have f2 : ∀ x, hasAt (Tr.two l r) p (114 :: x) = hasAt r p x := fun x => rfl
    show ((lev d l).map (108 :: ·) ++ (lev d r).map (114 :: ·)).filter (hasAt (Tr.two l r) p) = _
    rw [List.filter_append, List.filter_map, List.filter_map]
    have g1 : (hasAt (Tr.two l r) p ∘ fun x => 108 :: x) = hasAt l p := by funext x; exact f1 x
    have g2 : (hasAt (Tr.two l r) p ∘ fun x => 114 :: x) = hasAt r p := by funext x; exact f2 x
    rw [g1, g2, h1, h2]
    rw [pathL_two]
    have s1 := pathL_some l p
    have s2 := pathL_some r p
    cases hl : pathL l p with
    | some x =>
      rw [hl] at s1
      have m1 : p ∈ l.leavesR := by simpa using s1.symm
      have m2 : p ∉ r.leavesR := fun h => hd p h p m1 rfl
      have hr : pathL r p = none := by
        cases hq : pathL r p with
        | none => rfl
        | some y => rw [hq] at s2; simp at s2; exact absurd s2 m2
      rw [hr]
      simp only
      by_cases hc : d ≤ x.length
      · rw [if_pos hc, if_pos (by simp only [List.length_cons]; omega)]; rfl
      · rw [if_neg hc, if_neg (by simp only [List.length_cons]; omega)]; rfl
    | none =>
      cases hr : pathL r p with
      | none => rfl
      | some y =>
        show [] ++ (if d ≤ y.length then [y.take d] else []).map (114 :: ·) = if d + 1 ≤ (114 :: y).length then [(114 :: y).take (d + 1)] else []
        by_cases hc : d ≤ y.length
        · rw [if_pos hc, if_pos (by simp only [List.length_cons]; omega)]; rfl
        · rw [if_neg hc, if_neg (by simp only [List.length_cons]; omega)]; rfl
theorem levs_has (T : Tr) (p : Int) (hn : T.leavesR.Nodup) (D : Nat) : (levs D T).filter (hasAt T p) = match pathL T p with
    | some π => (List.range (min D (π.length + 1))).map fun d => π.take d
    | none => [] := by
  induction D with
  | zero => cases pathL T p <;> simp [levs]
  | succ D ih =>
    rw [levs_succ, List.filter_append, ih, lev_has D T p hn]
    cases hp : pathL T p with
    | none => rfl
    | some π =>
      simp only
      by_cases hc : D ≤ π.length
      · rw [if_pos hc, show min D (π.length + 1) = D by omega, show min (D + 1) (π.length + 1) = D + 1 by omega, List.range_succ, List.map_append]; rfl
      · rw [if_neg hc, List.append_nil, show min D (π.length + 1) = π.length + 1 by omega, show min (D + 1) (π.length + 1) = π.length + 1 by omega]
theorem upT_rev (n : List UInt8) : ((List.range (n.length + 1)).map fun d => n.take d).reverse = upT n := by
  unfold upT
  refine List.ext_getElem (by simp) fun i h1 h2 => ?_
  simp only [List.length_map, List.length_range] at h2
  rw [List.getElem_reverse]
  simp only [List.getElem_map, List.getElem_range, List.length_map, List.length_range]
  congr 1
theorem has14 {s n : List UInt8} {T : Tr} {p : Int} (ho : ofM s = some T) (hs : (subT T n).isSome = true) : gemotref13_Members.f (atM s n).1 = some (membersM (atM s n).1) ∧ decide (p ∈ membersM (atM s n).1) = hasAt T p n ∧ (membersM (atM s n).1).length ≤ 8 := by
  have h22 := ofM_short ho
  obtain ⟨h1, h2⟩ := ofM_text ho
  have hnd := ofM_nodup ho
  rw [at_sub ho]
  unfold hasAt
  cases hq : subT T n with
  | none => rw [hq] at hs; cases hs
  | some S =>
    simp only
    have hSl := subT_len _ _ _ hq
    have hok := subT_ok _ _ _ hq h2
    have hSn := (subT_nodup _ _ _ hq hnd).1
    have hm : membersM S.text = sortZ S.leavesR := by
      unfold membersM
      rw [ofM_iff hok, if_pos hSn]
    refine ⟨members13 (by rw [← h1] at hSl; omega), ?_, ?_⟩
    · rw [hm]
      congr 1
      rw [eq_iff_iff]
      exact (sortZ_perm _).mem_iff
    · rw [hm, sortZ_len]; exact leaves_le hok hSn
/-- The nodes of which one's leaf is below, the longest first. -/
theorem path_loop {s : List UInt8} {T : Tr} {p : Int} (ho : ofM s = some T) (ns : List (List UInt8)) (hl : ns.length ≤ 1000) (hns : ∀ n ∈ ns, n.length ≤ 100 ∧ (subT T n).isSome = true) : ∀ (i : Nat) (out : List (List UInt8)), i ≤ ns.length → out.length + i ≤ 1000 →
    loopM (fun s804 : (List (List UInt8)) × Int => gemotref14_Path.b2 s p ns s804.1 s804.2) (out, (i : Int) - 1) = some (out ++ ((ns.take i).filter (hasAt T p)).reverse)
  | 0, out, _, _ => by
    refine loop_end ?_
    show gemotref14_Path.b2 s p ns out (((0 : Nat) : Int) - 1) = _
    unfold gemotref14_Path.b2
    rw [cond_f (by omega)]; simp
  | i + 1, out, hi, ho1 => by
    have h22 := ofM_short ho
    have hil : i < ns.length := by omega
    have hn := hns ns[i] (List.getElem_mem hil)
    obtain ⟨m1, m2, m3⟩ := has14 (p := p) ho hn.2
    have hx : idxL ns (i : Int) = some ns[i] := idxL_lt hil
    have hw : IntKind.i64.wrap ((i : Int) - (1 : Int)) = (i : Int) - 1 := Eng.i64_id (by omega) (by omega)
    have hb : gemotref14_Path.b2 s p ns out (((i + 1 : Nat) : Int) - 1) = some (.inl (if hasAt T p ns[i] = true then out ++ [ns[i]] else out, (i : Int) - 1)) := by
      unfold gemotref14_Path.b2
      rw [show (((i + 1 : Nat) : Int) - 1) = (i : Int) by omega, cond_t (by omega), hx, Option.bind_some, at14 (by omega) (by omega), Option.bind_some, m1, Option.bind_some, rhas_eq _ _ (by omega), Option.bind_some, m2]
      cases hasAt T p ns[i] with
      | true =>
        rw [cond_true, Option.bind_some, room_of (by omega), if_pos rfl]
        unfold gemotref14_Path.k1
        rw [hw]
      | false =>
        rw [cond_false, if_neg (by simp)]
        unfold gemotref14_Path.k1
        rw [hw]
    have ih := path_loop (p := p) ho ns hl hns i (if hasAt T p ns[i] = true then out ++ [ns[i]] else out) (by omega) (by by_cases hh : hasAt T p ns[i] = true; (rw [if_pos hh, List.length_append]; simp only [List.length_cons, List.length_nil]; omega); (rw [if_neg hh]; omega))
    refine (loop_step hb ih).trans ?_
    congr 1
    rw [← take_snoc hil, List.filter_append, List.reverse_append]
    cases hh : hasAt T p ns[i] <;> simp [List.filter_cons, hh]
/-- The path of a process: by the way to its leaf. -/
theorem nodes_find : ∀ (T : Tr) (pre : List UInt8) (p : Int), T.ok → T.leavesR.Nodup → (nodesT pre T).find? (fun x => decide (membersM x.2 = [p])) = (pathL T p).map fun π => (pre ++ π, (Tr.leaf p).text)
  | .leaf q, pre, p, hok, hn => by
    have hm : membersM (Tr.leaf q).text = [q] := by
      unfold membersM
      rw [ofM_iff hok, if_pos hn]
      show sortZ [q] = [q]
      simp [sortZ]
    show [(pre, (Tr.leaf q).text)].find? _ = _
    unfold pathL
    by_cases h : q = p
    · rw [if_pos h, ← h]; simp [List.find?_cons, hm]
    · rw [if_neg h]; simp [List.find?_cons, hm, h]
  | .two l r, pre, p, hok, hn => by
    obtain ⟨hnr, hnl, hd⟩ := List.nodup_append.1 (show (r.leavesR ++ l.leavesR).Nodup from hn)
    have hm : membersM (Tr.two l r).text ≠ [p] := by
      intro e
      have e2 := congrArg List.length e
      have h1 := leavesR_pos l
      have h2 := leavesR_pos r
      unfold membersM at e2
      rw [ofM_iff hok, if_pos hn] at e2
      simp only [sortZ_len, Tr.leavesR, List.length_append, List.length_cons, List.length_nil] at e2
      omega
    rw [show nodesT pre (Tr.two l r) = (pre, (Tr.two l r).text) :: (nodesT (pre ++ [108]) l ++ nodesT (pre ++ [114]) r) from rfl, List.find?_cons]
    rw [show decide (membersM ((pre, (Tr.two l r).text) : List UInt8 × List UInt8).2 = [p]) = false from decide_eq_false hm, List.find?_append, nodes_find l (pre ++ [108]) p hok.1 hnl, nodes_find r (pre ++ [114]) p hok.2 hnr]
    have e : pathL (Tr.two l r) p = match pathL l p with
      | some x => some (108 :: x)
      | none => (pathL r p).map (114 :: ·) := rfl
    rw [e]
    cases pathL l p with
    | some x => simp
    | none => cases pathL r p <;> simp
theorem pathM_eq {s : List UInt8} {T : Tr} (ho : ofM s = some T) (p : Int) : pathM s p = match pathL T p with
    | some π => upT π
    | none => [] := by
  unfold pathM
  rw [ho]
  simp only
  rw [nodes_find T [] p (ofM_text ho).2 (ofM_nodup ho)]
  cases pathL T p <;> rfl
theorem path14 {s : List UInt8} {p : Int} (hl : s.length ≤ 1000000) : gemotref14_Path.f s p = some (pathM s p) := by
  unfold gemotref14_Path.f
  rw [nodes14 hl, Option.bind_some]
  cases ho : ofM s with
  | none =>
    have : pathM s p = [] := by unfold pathM; rw [ho]
    rw [this]
    have hw : IntKind.i64.wrap ((([] : List (List UInt8)).length : Int) - (1 : Int)) = -1 := by rw [Eng.i64_id (by simp) (by simp)]; rfl
    have hL : loopM (fun s804 : (List (List UInt8)) × Int => gemotref14_Path.b2 s p [] s804.1 s804.2) (([] : List (List UInt8)), (-1 : Int)) = some [] := by
      refine loop_end ?_
      rfl
    simp only
    rw [hw, hL]; rfl
  | some T =>
    have h8 := leaves_le (ofM_text ho).2 (ofM_nodup ho)
    have hll := levs_len (T.leavesR.length + 1) T
    have hb : (T.leavesR.length + 1) * T.leavesR.length ≤ 9 * 8 := Nat.mul_le_mul (by omega) h8
    have hmem : ∀ D, D ≤ 9 → ∀ n ∈ levs D T, n.length ≤ 100 ∧ (subT T n).isSome = true := by
      intro D
      induction D with
      | zero => intro _ n hn; simp [levs] at hn
      | succ D ih =>
        intro hD n hn
        rw [levs_succ] at hn
        rcases List.mem_append.1 hn with q | q
        · exact ih (by omega) n q
        · have := lev_mem D T n q
          exact ⟨by omega, this.2⟩
    have hL := path_loop (p := p) ho (levs (T.leavesR.length + 1) T) (by omega) (hmem _ (by omega)) (levs (T.leavesR.length + 1) T).length [] (Nat.le_refl _) (by simp; omega)
    simp only
    rw [Eng.i64_id (by omega) (by omega), hL]
    show some _ = some _
    rw [List.nil_append, List.take_of_length_le (Nat.le_refl _), levs_has T p (ofM_nodup ho), pathM_eq ho]
    cases hp : pathL T p with
    | none => rfl
    | some π =>
      have := pathL_len T p π hp
      simp only
      rw [show min (T.leavesR.length + 1) (π.length + 1) = π.length + 1 by omega, upT_rev]
end Go.Proofs.Ytgomlcfoifkdiaa.G
