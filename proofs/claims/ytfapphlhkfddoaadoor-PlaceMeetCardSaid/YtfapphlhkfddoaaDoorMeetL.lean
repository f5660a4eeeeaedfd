/- PlaceMeet, as it is reckoned. -/
import Derived.Test.YtfapphlhkfddoaaDoorPathT
namespace Go.Proofs.YtfapphlhkfddoaaDoor.G
open Go.RowKit Go.Eng Go.Proofs Go.Proofs.YtfapphlhkfddoaaDoor.Cut
set_option linter.unusedVariables false
set_option linter.unusedSimpArgs false
theorem rhas_eq (xs : List Int) (p : Int) (hl : xs.length ≤ 1000000000) : gemotref10_Has.f xs p = some (decide (p ∈ xs)) := by
  have go : ∀ k i, i + k = xs.length → loopM (fun s91 : Int => gemotref10_Has.b1 xs p s91) (i : Int) = some (if p ∈ xs.drop i then .inr true else .inl ()) := by
    intro k
    induction k with
    | zero =>
      intro i hi
      refine loop_end ?_
      show gemotref10_Has.b1 xs p (i : Int) = _
      unfold gemotref10_Has.b1
      rw [cond_f (by omega), List.drop_of_length_le (by omega), if_neg (by simp)]
    | succ k ih =>
      intro i hi
      have hil : i < xs.length := by omega
      rw [List.drop_eq_getElem_cons hil]
      by_cases he : xs[i] = p
      · rw [if_pos (by rw [he]; exact List.mem_cons_self)]
        refine loop_end ?_
        show gemotref10_Has.b1 xs p (i : Int) = _
        unfold gemotref10_Has.b1
        rw [cond_t (by omega), idxL_lt hil, Option.bind_some, show (xs[i] == p) = true from beq_iff_eq.2 he, cond_true]
      · have e : (p ∈ xs[i] :: xs.drop (i + 1)) ↔ p ∈ xs.drop (i + 1) := by
          rw [List.mem_cons]
          exact ⟨fun h => h.elim (fun q => absurd q.symm he) id, .inr⟩
        rw [show (if p ∈ xs[i] :: xs.drop (i + 1) then (Sum.inr true : Unit ⊕ Bool) else .inl ()) = if p ∈ xs.drop (i + 1) then .inr true else .inl () from by simp only [e]]
        refine loop_step ?_ (ih (i + 1) (by omega))
        show gemotref10_Has.b1 xs p (i : Int) = _
        unfold gemotref10_Has.b1
        rw [cond_t (by omega), idxL_lt hil, Option.bind_some, show (xs[i] == p) = false from beq_eq_false_iff_ne.2 he, cond_false, wrap1 i (by omega)]
  unfold gemotref10_Has.f
  rw [show loopM (fun s91 : Int => gemotref10_Has.b1 xs p s91) (0 : Int) = _ from go xs.length 0 (by omega), List.drop_zero]
  by_cases h : p ∈ xs
  · rw [if_pos h, decide_eq_true h]; rfl
  · rw [if_neg h, decide_eq_false h]; rfl
/-- How far two ways are one. -/
theorem meet_loop {s : List UInt8} {m : List Int} {π ρ : List UInt8} (hπ : π.length ≤ 1000) (hρ : ρ.length ≤ 1000) : ∀ (k d : Nat), d + k = π.length + 1 → (∀ e, e < d → π.take e = ρ.take e ∧ e ≤ ρ.length) →
    ∃ d0, d0 ≤ π.length + 1 ∧ (∀ e, e < d0 → π.take e = ρ.take e ∧ e ≤ ρ.length) ∧ ¬ (d0 ≤ π.length ∧ d0 ≤ ρ.length ∧ π.take d0 = ρ.take d0) ∧ loopM (fun s606 : Int × Int => gemotlaw14_PlaceMeet.b2 s m (upT π) (upT ρ) s606.1 s606.2) ((π.length : Int) - (d : Int), (ρ.length : Int) - (d : Int)) = some ((π.length : Int) - (d0 : Int), (ρ.length : Int) - (d0 : Int)) := by
  have hstop : ∀ d, d ≤ π.length + 1 → ¬ (d ≤ π.length ∧ d ≤ ρ.length ∧ π.take d = ρ.take d) → loopM (fun s606 : Int × Int => gemotlaw14_PlaceMeet.b2 s m (upT π) (upT ρ) s606.1 s606.2) ((π.length : Int) - (d : Int), (ρ.length : Int) - (d : Int)) = some ((π.length : Int) - (d : Int), (ρ.length : Int) - (d : Int)) := by
    intro d hd hno
    refine loop_end ?_
    show gemotlaw14_PlaceMeet.b2 s m (upT π) (upT ρ) ((π.length : Int) - (d : Int)) ((ρ.length : Int) - (d : Int)) = _
    unfold gemotlaw14_PlaceMeet.b2
    by_cases h1 : d ≤ π.length
    · by_cases h2 : d ≤ ρ.length
      · have hne : π.take d ≠ ρ.take d := fun e => hno ⟨h1, h2, e⟩
        have e1 : ((π.length : Int) - (d : Int)) = ((π.length - d : Nat) : Int) := by omega
        have e2 : ((ρ.length : Int) - (d : Int)) = ((ρ.length - d : Nat) : Int) := by omega
        rw [e1, e2]
        have g1 := up_get (n := π) (j := π.length - d) (by omega)
        have g2 := up_get (n := ρ) (j := ρ.length - d) (by omega)
        rw [show π.length - (π.length - d) = d by omega] at g1
        rw [show ρ.length - (ρ.length - d) = d by omega] at g2
        rw [decide_eq_true (show ((π.length - d : Nat) : Int) ≥ 0 by omega), decide_eq_true (show ((ρ.length - d : Nat) : Int) ≥ 0 by omega)]
        show (idxL (upT π) ((π.length - d : Nat) : Int)).bind _ = _
        rw [g1, Option.bind_some, g2, Option.bind_some, strEq_eq, decide_eq_false hne]
        rfl
      · rw [decide_eq_true (show (π.length : Int) - (d : Int) ≥ 0 by omega), decide_eq_false (show ¬ (ρ.length : Int) - (d : Int) ≥ 0 by omega)]
        rfl
    · rw [decide_eq_false (show ¬ (π.length : Int) - (d : Int) ≥ 0 by omega)]
      rfl
  intro k
  induction k with
  | zero => intro d hd hall; exact ⟨d, by omega, hall, fun h => by omega, hstop d (by omega) (fun h => by omega)⟩
  | succ k ih =>
    intro d hd hall
    by_cases hc : d ≤ π.length ∧ d ≤ ρ.length ∧ π.take d = ρ.take d
    · obtain ⟨h1, h2, h3⟩ := hc
      obtain ⟨d0, a1, a2, a3, a4⟩ := ih (d + 1) (by omega) (fun e he => by
        by_cases h : e = d
        · subst h; exact ⟨h3, h2⟩
        · exact hall e (by omega))
      refine ⟨d0, a1, a2, a3, loop_step ?_ a4⟩
      show gemotlaw14_PlaceMeet.b2 s m (upT π) (upT ρ) ((π.length : Int) - (d : Int)) ((ρ.length : Int) - (d : Int)) = _
      unfold gemotlaw14_PlaceMeet.b2
      have e1 : ((π.length : Int) - (d : Int)) = ((π.length - d : Nat) : Int) := by omega
      have e2 : ((ρ.length : Int) - (d : Int)) = ((ρ.length - d : Nat) : Int) := by omega
      have g1 := up_get (n := π) (j := π.length - d) (by omega)
      have g2 := up_get (n := ρ) (j := ρ.length - d) (by omega)
      rw [show π.length - (π.length - d) = d by omega] at g1
      rw [show ρ.length - (ρ.length - d) = d by omega] at g2
      rw [e1, e2, decide_eq_true (show ((π.length - d : Nat) : Int) ≥ 0 by omega), decide_eq_true (show ((ρ.length - d : Nat) : Int) ≥ 0 by omega)]
      show (idxL (upT π) ((π.length - d : Nat) : Int)).bind _ = _
      rw [g1, Option.bind_some, g2, Option.bind_some, strEq_eq, decide_eq_true h3]
      show some (Sum.inl (IntKind.i64.wrap (((π.length - d : Nat) : Int) - 1), IntKind.i64.wrap (((ρ.length - d : Nat) : Int) - 1))) = _
      rw [Eng.i64_id (by omega) (by omega), Eng.i64_id (by omega) (by omega)]
      have e3 : ((π.length - d : Nat) : Int) - 1 = (π.length : Int) - ((d + 1 : Nat) : Int) := by omega
      have e4 : ((ρ.length - d : Nat) : Int) - 1 = (ρ.length : Int) - ((d + 1 : Nat) : Int) := by omega
      rw [e3, e4]
    · exact ⟨d, by omega, hall, hc, hstop d (by omega) hc⟩
/-- Below they are apart. -/
theorem apart_loop {s : List UInt8} {m : List Int} {π ρ : List UInt8} {x y : Nat} (hx : x ≤ π.length) (hy : y ≤ ρ.length) (hπ : π.length ≤ 1000) (hρ : ρ.length ≤ 1000) (hne : ∀ a b, a ≤ x → b ≤ y → π.take (π.length - a) ≠ ρ.take (ρ.length - b)) :
    loopM (fun s1787 : Int => gemotlaw14_PlaceMeet.b5 s m (upT π) (upT ρ) (x : Int) (y : Int) s1787) (0 : Int) = some (.inl ()) := by
  have inner : ∀ a : Nat, a ≤ x → loopM (fun s1925 : Int => gemotlaw14_PlaceMeet.b3 s m (upT π) (upT ρ) (x : Int) (y : Int) (a : Int) s1925) (0 : Int) = some (.inl ()) := by
    intro a ha
    refine loop_count (fun i => (i : Int)) (y + 1) (fun i hi => ?_) ?_
    · show gemotlaw14_PlaceMeet.b3 s m (upT π) (upT ρ) (x : Int) (y : Int) (a : Int) (i : Int) = _
      unfold gemotlaw14_PlaceMeet.b3
      rw [cond_t (by omega), up_get (by omega), Option.bind_some, up_get (by omega), Option.bind_some, strEq_eq, decide_eq_false (hne a i ha (by omega)), cond_false, wrap1 i (by omega)]
    · show gemotlaw14_PlaceMeet.b3 s m (upT π) (upT ρ) (x : Int) (y : Int) (a : Int) ((y + 1 : Nat) : Int) = _
      unfold gemotlaw14_PlaceMeet.b3
      rw [cond_f (by omega)]
  refine loop_count (fun i => (i : Int)) (x + 1) (fun i hi => ?_) ?_
  · show gemotlaw14_PlaceMeet.b5 s m (upT π) (upT ρ) (x : Int) (y : Int) (i : Int) = _
    unfold gemotlaw14_PlaceMeet.b5
    rw [cond_t (by omega), inner i (by omega)]
    show gemotlaw14_PlaceMeet.k4 s m (upT π) (upT ρ) (x : Int) (y : Int) (i : Int) = _
    unfold gemotlaw14_PlaceMeet.k4
    rw [wrap1 i (by omega)]
  · show gemotlaw14_PlaceMeet.b5 s m (upT π) (upT ρ) (x : Int) (y : Int) ((x + 1 : Nat) : Int) = _
    unfold gemotlaw14_PlaceMeet.b5
    rw [cond_f (by omega)]
/-- Each node has a member below it, its sponsor. -/
theorem nodes_loop {T : Tr} (hk : T.ok) (hn : T.leavesR.Nodup) : loopM (fun s3473 : Int => gemotlaw14_PlaceMeet.b7 T.text (sortZ T.leavesR) (nodesM T.text) s3473) (0 : Int) = some (.inl ()) := by
  have hlen := tree_len hk hn
  have hnl := nodesM_len T.text
  have ho : ofM T.text = some T := by rw [ofM_iff hk, if_pos hn]
  have h8 := leaves_eight hk hn
  refine loop_count (fun i => (i : Int)) (nodesM T.text).length (fun i hi => ?_) ?_
  · show gemotlaw14_PlaceMeet.b7 T.text (sortZ T.leavesR) (nodesM T.text) (i : Int) = _
    obtain ⟨S, hs⟩ := nodes_at hk hn (List.getElem_mem hi)
    obtain ⟨k1, k2, k3, k4⟩ := sub_ok4 hk hn hs
    have hpos := leavesR_pos S
    have hA : place_At.f T.text (nodesM T.text)[i] = some (S.text, 0) := by unfold place_At.f; rw [given_of (by omega), at_sub ho, hs]
    have hM : tree_Members.f S.text = some (sortZ S.leavesR) := by unfold tree_Members.f; rw [given_of (by omega), members_text k1 k2]
    have hS : place_Sponsor.f T.text (nodesM T.text)[i] = some ((sortZ S.leavesR).headD 0) := by rw [spon_eq (by omega), sponM_in ho, hs]
    have hl := sortZ_len S.leavesR
    have hmem : (sortZ S.leavesR).headD 0 ∈ sortZ T.leavesR := (sortZ_perm _).mem_iff.2 (k3 _ (head_in hpos))
    unfold gemotlaw14_PlaceMeet.b7
    rw [cond_t (by omega), idxL_lt hi, Option.bind_some, hA, Option.bind_some, hM, Option.bind_some, show ((((sortZ S.leavesR).length : Nat) : Int) == (0 : Int)) = false from beq_eq_false_iff_ne.2 (by omega), cond_false, Option.bind_some, hS, Option.bind_some, sort_head hpos, Option.bind_some, show ((sortZ S.leavesR).headD 0 != (sortZ S.leavesR).headD 0) = false by simp, cond_false, Option.bind_some, rhas_eq _ _ (by rw [sortZ_len]; omega), Option.bind_some, decide_eq_true hmem]
    show gemotlaw14_PlaceMeet.k6 _ _ _ _ false = _
    unfold gemotlaw14_PlaceMeet.k6
    rw [cond_false, wrap1 i (by omega)]
  · show gemotlaw14_PlaceMeet.b7 T.text (sortZ T.leavesR) (nodesM T.text) ((nodesM T.text).length : Int) = _
    unfold gemotlaw14_PlaceMeet.b7
    rw [cond_f (by omega)]
theorem k9_ok {T : Tr} (hk : T.ok) (hn : T.leavesR.Nodup) : gemotlaw14_PlaceMeet.k9 T.text (sortZ T.leavesR) false = some true := by
  have hlen := tree_len hk hn
  unfold gemotlaw14_PlaceMeet.k9
  have hN : place_Nodes.f T.text = some (nodesM T.text) := by unfold place_Nodes.f; rw [given_of (by omega)]
  rw [cond_false, hN, Option.bind_some, show loopM (fun s3473 : Int => gemotlaw14_PlaceMeet.b7 T.text (sortZ T.leavesR) (nodesM T.text) s3473) (0 : Int) = _ from nodes_loop hk hn]
  rfl
theorem take_take' {α : Type} {l : List α} {a b : Nat} (h : a ≤ b) : (l.take b).take a = l.take a := by rw [List.take_take, Nat.min_eq_left h]
theorem meet_law {x0 : List Int} {x1 x2 : Int} (h0 : ∀ x ∈ x0, inI64 x) (h1 : inI64 x1) (h2 : inI64 x2) : gemotlaw14_PlaceMeet.f x0 x1 x2 = some true := by
  obtain ⟨T, hk, hn, hT⟩ := made_is h0
  have hlen := tree_len hk hn
  have ho : ofM T.text = some T := by rw [ofM_iff hk, if_pos hn]
  have h8 := leaves_eight hk hn
  have hpos := leavesR_pos T
  have hsl := sortZ_len T.leavesR
  have hM : tree_Members.f T.text = some (sortZ T.leavesR) := by unfold tree_Members.f; rw [given_of (by omega), members_text hk hn]
  obtain ⟨i, hi, i0, i1⟩ := pick14 (n := ((sortZ T.leavesR).length : Int)) h1 (by omega)
  obtain ⟨j, hj, j0, j1⟩ := pick14 (n := ((sortZ T.leavesR).length : Int)) h2 (by omega)
  obtain ⟨a, rfl⟩ := Int.eq_ofNat_of_zero_le i0
  obtain ⟨b, rfl⟩ := Int.eq_ofNat_of_zero_le j0
  have ha : a < (sortZ T.leavesR).length := by omega
  have hb : b < (sortZ T.leavesR).length := by omega
  obtain ⟨p, hpd⟩ : ∃ p, (sortZ T.leavesR)[a] = p := ⟨_, rfl⟩
  obtain ⟨q, hqd⟩ : ∃ q, (sortZ T.leavesR)[b] = q := ⟨_, rfl⟩
  have hpm : p ∈ T.leavesR := (sortZ_perm _).mem_iff.1 (by rw [← hpd]; exact List.getElem_mem ha)
  have hqm : q ∈ T.leavesR := (sortZ_perm _).mem_iff.1 (by rw [← hqd]; exact List.getElem_mem hb)
  obtain ⟨π, hπ⟩ := path_mem hpm
  obtain ⟨ρ, hρ⟩ := path_mem hqm
  have lπ := pathL_len T p π hπ
  have lρ := pathL_len T q ρ hρ
  have hPp : place_Path.f T.text p = some (upT π) := by unfold place_Path.f; rw [given_of (by omega), pathM_eq ho, hπ]
  have hPq : place_Path.f T.text q = some (upT ρ) := by unfold place_Path.f; rw [given_of (by omega), pathM_eq ho, hρ]
  unfold gemotlaw14_PlaceMeet.f
  rw [shown14, Option.bind_some, Bool.not_true, cond_false, hT, Option.bind_some, hM, Option.bind_some, hi, Option.bind_some, show idxL (sortZ T.leavesR) (a : Int) = some p from by rw [← hpd]; exact idxL_lt ha, Option.bind_some, hPp, Option.bind_some, hj, Option.bind_some, show idxL (sortZ T.leavesR) (b : Int) = some q from by rw [← hqd]; exact idxL_lt hb, Option.bind_some, hPq, Option.bind_some]
  have w1 : IntKind.i64.wrap (((upT π).length : Int) - (1 : Int)) = (π.length : Int) - ((0 : Nat) : Int) := by rw [up_len, Eng.i64_id (by omega) (by omega)]; omega
  have w2 : IntKind.i64.wrap (((upT ρ).length : Int) - (1 : Int)) = (ρ.length : Int) - ((0 : Nat) : Int) := by rw [up_len, Eng.i64_id (by omega) (by omega)]; omega
  obtain ⟨d, d1, d2, d3, d4⟩ := meet_loop (s := T.text) (m := sortZ T.leavesR) (π := π) (ρ := ρ) (by omega) (by omega) (π.length + 1) 0 (by omega) (fun e he => by omega)
  rw [w1, w2, show loopM (fun s606 : Int × Int => gemotlaw14_PlaceMeet.b2 T.text (sortZ T.leavesR) (upT π) (upT ρ) s606.1 s606.2) ((π.length : Int) - ((0 : Nat) : Int), (ρ.length : Int) - ((0 : Nat) : Int)) = _ from d4, Option.bind_some]
  unfold gemotlaw14_PlaceMeet.k11
  by_cases hpq : p = q
  · -- one process
    subst hpq
    obtain rfl : π = ρ := Option.some.inj (hπ.symm.trans hρ)
    have hd : d = π.length + 1 := by
      apply Classical.byContradiction
      intro h
      exact d3 ⟨by omega, by omega, rfl⟩
    have ex : (π.length : Int) - (d : Int) = -1 := by omega
    simp only [ex]
    have hL : loopM (fun s1787 : Int => gemotlaw14_PlaceMeet.b5 T.text (sortZ T.leavesR) (upT π) (upT π) (-1 : Int) (-1 : Int) s1787) (0 : Int) = some (.inl ()) := loop_end rfl
    rw [hL]
    exact k9_ok hk hn
  · have hd : d ≤ π.length ∧ d ≤ ρ.length := by
      apply Classical.byContradiction
      intro h
      by_cases hh : d ≤ π.length
      · have hdr : d = ρ.length + 1 := by
          have := (d2 (d - 1) (by omega)).2
          omega
        have := (d2 ρ.length (by omega)).1
        rw [List.take_length] at this
        exact path_apart (x := π.drop ρ.length) hρ hπ (fun e => hpq e.symm) ((List.take_append_drop ρ.length π).symm.trans (by rw [this]))
      · have hdp : d = π.length + 1 := by omega
        have := (d2 π.length (by omega)).1
        rw [List.take_length] at this
        exact path_apart (x := ρ.drop π.length) hπ hρ hpq ((List.take_append_drop π.length ρ).symm.trans (by rw [← this]))
    have hne : π.take d ≠ ρ.take d := fun e => d3 ⟨hd.1, hd.2, e⟩
    have hd0 : 0 < d := by
      apply Classical.byContradiction
      intro h
      have : d = 0 := by omega
      subst this
      exact hne (by simp)
    have ex : (π.length : Int) - (d : Int) = ((π.length - d : Nat) : Int) := by omega
    have ey : (ρ.length : Int) - (d : Int) = ((ρ.length - d : Nat) : Int) := by omega
    simp only [ex, ey]
    rw [apart_loop (by omega) (by omega) (by omega) (by omega) (fun a b ha hb e => hne (by
      have e1 : (π.take (π.length - a)).take d = π.take d := take_take' (by omega)
      have e2 : (ρ.take (ρ.length - b)).take d = ρ.take d := take_take' (by omega)
      rw [← e1, ← e2, e]))]
    show gemotlaw14_PlaceMeet.k10 T.text (sortZ T.leavesR) (upT π) (upT ρ) ((π.length - d : Nat) : Int) ((ρ.length - d : Nat) : Int) = some true
    unfold gemotlaw14_PlaceMeet.k10
    have g1 := up_get (n := π) (j := π.length - d) (by omega)
    have g2 := up_get (n := ρ) (j := ρ.length - d) (by omega)
    rw [show π.length - (π.length - d) = d by omega] at g1
    rw [show ρ.length - (ρ.length - d) = d by omega] at g2
    have hcut : ∀ l : List UInt8, d ≤ l.length → ∃ u, u ∈ l ∧ l.take d = l.take (d - 1) ++ [u] := by
      intro l hl
      refine ⟨l[d - 1], List.getElem_mem (by omega), ?_⟩
      rw [take_snoc (by omega)]
      congr 1; omega
    obtain ⟨u, hu, eu⟩ := hcut π hd.1
    obtain ⟨v, hv, ev⟩ := hcut ρ hd.2
    have ebase := (d2 (d - 1) (by omega)).1
    have huv : u ≠ v := fun e => hne (by rw [eu, ev, ebase, e])
    have hbes : besideT (π.take d) = ρ.take d := by
      rw [eu, besideT_snoc, ev, ebase]
      congr 2
      rcases (path_leafAt T p π hπ).2 u hu with h | h <;> rcases (path_leafAt T q ρ hρ).2 v hv with h' | h'
      · exact absurd (h.trans h'.symm) huv
      · rw [h, h']; rfl
      · rw [h, h']; rfl
      · exact absurd (h.trans h'.symm) huv
    have hB : place_Beside.f (π.take d) = some (ρ.take d) := by rw [beside_eq (by rw [List.length_take]; omega), hbes]
    rw [decide_eq_true (show ((π.length - d : Nat) : Int) ≥ 0 by omega), decide_eq_true (show ((ρ.length - d : Nat) : Int) ≥ 0 by omega)]
    show (idxL (upT π) ((π.length - d : Nat) : Int)).bind _ = _
    rw [g1, Option.bind_some, hB, Option.bind_some, g2, Option.bind_some, strEq_eq, decide_eq_true rfl, decide_eq_false (show ¬ ((π.length - d : Nat) : Int) < 0 by omega), decide_eq_false (show ¬ ((ρ.length - d : Nat) : Int) < 0 by omega)]
    exact k9_ok hk hn
theorem meet_row {ok : Nat → Prop} {w : World} {u0 : Value} {x0 : List Int} {x1 x2 : Int} (hu : slR (tInt .i64) w ok u0 x0) (h0 : ∀ x ∈ x0, inI64 x) (h1 : inI64 x1) (h2 : inI64 x2) :
    Calls Tryd.prog 6 #[u0, .int .i64 x1, .int .i64 x2] w fun e w' => ∃ r, e = .returned r ∧ r = .bool true ∧ Below w.heap.size w w' :=
  (gemotlaw14_PlaceMeet_ok hu (meet_law h0 h1 h2)).mono fun e w' ⟨v, h1, h2, h3⟩ => ⟨v, h1, h2, h3.toBelow⟩
end Go.Proofs.YtfapphlhkfddoaaDoor.G
