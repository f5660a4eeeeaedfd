/- PlaceDuties, as it is reckoned. -/
import Derived.Test.YtfapphlhkfddoaaDoorPathT
namespace Go.Proofs.YtfapphlhkfddoaaDoor.G
open Go.RowKit Go.Eng Go.Proofs Go.Proofs.YtfapphlhkfddoaaDoor.Cut
set_option linter.unusedVariables false
set_option linter.unusedSimpArgs false

theorem filter_front {α : Type} {P : α → Bool} : ∀ {l : List α}, l.Pairwise (fun a b => P b = true → P a = true) → ∃ c, c ≤ l.length ∧ l.filter P = l.take c ∧ (∀ i (h : i < l.length), i < c → P l[i] = true) ∧ (∀ (h : c < l.length), P l[c] = false)
  | [], _ => ⟨0, Nat.le_refl _, rfl, fun i h => by simp at h, fun h => by simp at h⟩
  | a :: r, hp => by
    obtain ⟨h1, h2⟩ := List.pairwise_cons.1 hp
    cases ha : P a with
    | true =>
      obtain ⟨c, c1, c2, c3, c4⟩ := filter_front h2
      refine ⟨c + 1, by simpa using c1, by rw [List.filter_cons, if_pos ha, c2]; rfl, fun i h hi => ?_, fun h => ?_⟩
      · cases i with
        | zero => exact ha
        | succ i => exact c3 i (by simpa using h) (by omega)
      · exact c4 (by simpa using h)
    | false =>
      refine ⟨0, Nat.zero_le _, ?_, fun i h hi => by omega, fun h => ha⟩
      rw [List.take_zero, List.filter_eq_nil_iff]
      intro x hx hP
      rcases List.mem_cons.1 hx with q | q
      · rw [q, ha] at hP; cases hP
      · have := h1 x q hP
        rw [ha] at this; cases this
theorem head_le {xs : List Int} {x : Int} (h : x ∈ xs) : (sortZ xs).headD 0 ≤ x := by
  have hp := sortZ_le xs
  have hm := (sortZ_perm xs).mem_iff.2 h
  cases hs : sortZ xs with
  | nil => rw [hs] at hm; cases hm
  | cons a r =>
    rw [hs] at hm hp
    show a ≤ x
    rcases List.mem_cons.1 hm with q | q
    · omega
    · exact (List.pairwise_cons.1 hp).1 x q
theorem head_is {xs : List Int} {p : Int} (h : p ∈ xs) : (sortZ xs).headD 0 = p ↔ ∀ x ∈ xs, p ≤ x := by
  constructor
  · intro e x hx; rw [← e]; exact head_le hx
  · intro hall
    have h1 := head_le h
    have h2 := hall _ (head_in (List.length_pos_of_mem h))
    omega
theorem up_pair (n : List UInt8) {Q : List UInt8 → List UInt8 → Prop} (h : ∀ i j, i < j → j ≤ n.length → Q (n.take (n.length - i)) (n.take (n.length - j))) : (upT n).Pairwise Q := by
  unfold upT
  rw [List.pairwise_map]
  refine List.Pairwise.imp_of_mem (fun {a b} ha hb hab => ?_) List.pairwise_lt_range
  exact h a b hab (by have := List.mem_range.1 hb; omega)
theorem up_nodup (n : List UInt8) : (upT n).Nodup := by
  refine up_pair n fun i j hij hj e => ?_
  have := congrArg List.length e
  rw [List.length_take, List.length_take] at this
  omega
section
variable {T : Tr}
theorem spon_here (hk : T.ok) (hn : T.leavesR.Nodup) {p : Int} {π : List UInt8} (hπ : pathL T p = some π) (d : Nat) : ∃ S, subT T (π.take d) = some S ∧ p ∈ S.leavesR ∧ (sponM T.text (π.take d) = p ↔ ∀ x ∈ S.leavesR, p ≤ x) := by
  have ho : ofM T.text = some T := by rw [ofM_iff hk, if_pos hn]
  obtain ⟨S, hs, hp⟩ := path_node hπ d
  refine ⟨S, hs, hp, ?_⟩
  rw [sponM_in ho, hs]
  exact head_is hp
theorem dut_front (hk : T.ok) (hn : T.leavesR.Nodup) {p : Int} {π : List UInt8} (hπ : pathL T p = some π) : ∃ c, c ≤ π.length ∧ dutM T.text p = (upT π).take c ∧ (π ≠ [] → 0 < c) := by
  have ho : ofM T.text = some T := by rw [ofM_iff hk, if_pos hn]
  have hpath : pathM T.text p = upT π := by rw [pathM_eq ho, hπ]
  have hpair : (upT π).Pairwise fun a b => (decide (b ≠ [] ∧ sponM T.text b = p)) = true → (decide (a ≠ [] ∧ sponM T.text a = p)) = true := by
    refine up_pair π fun i j hij hj h => ?_
    obtain ⟨h1, h2⟩ := of_decide_eq_true h
    refine decide_eq_true ⟨?_, ?_⟩
    · intro e
      have := congrArg List.length e
      rw [List.length_take] at this
      have h3 : (π.take (π.length - j)).length ≠ 0 := fun q => h1 (List.length_eq_zero_iff.1 q)
      rw [List.length_take] at h3
      simp only [List.length_nil] at this
      omega
    · obtain ⟨A, a1, a2, a3⟩ := spon_here hk hn hπ (π.length - i)
      obtain ⟨B, b1, b2, b3⟩ := spon_here hk hn hπ (π.length - j)
      refine a3.2 fun x hx => b3.1 h2 x ?_
      have hB := sub_ok4 hk hn b1
      have e : π.take (π.length - i) = π.take (π.length - j) ++ (π.take (π.length - i)).drop (π.length - j) := by
        have := (List.take_append_drop (π.length - j) (π.take (π.length - i))).symm
        rw [List.take_take, Nat.min_eq_left (by omega)] at this
        exact this
      rw [e, sub_append, b1] at a1
      exact (subT_nodup _ _ _ a1 hB.2.1).2 x hx
  obtain ⟨c, c1, c2, c3, c4⟩ := filter_front hpair
  have hul := up_len π
  refine ⟨c, ?_, ?_, ?_⟩
  · apply Classical.byContradiction
    intro h
    have hl : π.length < (upT π).length := by omega
    have := c3 π.length hl (by omega)
    have hg := up_get (n := π) (j := π.length) (Nat.le_refl _)
    rw [idxL_lt hl] at hg
    rw [Option.some.inj hg] at this
    simp at this
  · unfold dutM
    rw [hpath]
    exact c2
  · intro hne
    apply Classical.byContradiction
    intro h
    have hc0 : c = 0 := by omega
    subst hc0
    have hl : 0 < (upT π).length := by omega
    have := c4 hl
    have hg := up_get (n := π) (j := 0) (Nat.zero_le _)
    rw [idxL_lt hl] at hg
    rw [Option.some.inj hg] at this
    have := of_decide_eq_false this
    refine this ⟨by simpa using hne, ?_⟩
    obtain ⟨A, a1, a2, a3⟩ := spon_here hk hn hπ (π.length - 0)
    refine a3.2 fun x hx => ?_
    have hleaf := (path_leafAt T p π hπ).1
    rw [Nat.sub_zero, List.take_length, hleaf] at a1
    cases a1
    rw [List.mem_singleton.1 hx]; omega
theorem dut_nodup (s : List UInt8) (p : Int) (h : (pathM s p).Nodup) : (dutM s p).Nodup := h.filter _
theorem dut_mem (hk : T.ok) (hn : T.leavesR.Nodup) {n : List UInt8} {S : Tr} (hs : subT T n = some S) (p : Int) : n ∈ dutM T.text p ↔ n ≠ [] ∧ sponM T.text n = p := by
  have ho : ofM T.text = some T := by rw [ofM_iff hk, if_pos hn]
  unfold dutM
  rw [List.mem_filter, decide_eq_true_iff]
  constructor
  · exact fun h => h.2
  · intro h
    refine ⟨?_, h⟩
    have hp : p ∈ S.leavesR := by
      have := h.2
      rw [sponM_in ho, hs] at this
      rw [← this]
      exact head_in (leavesR_pos S)
    obtain ⟨ρ, hr⟩ := path_sub n T S p hn hs hp
    rw [pathM_eq ho, hr]
    show n ∈ upT (n ++ ρ)
    unfold upT
    refine List.mem_map.2 ⟨ρ.length, List.mem_range.2 (by rw [List.length_append]; omega), ?_⟩
    rw [List.length_append, show n.length + ρ.length - ρ.length = n.length by omega, List.take_left]
end
theorem many_one {α : Type} [DecidableEq α] {a : α} : ∀ {l : List α}, l.Nodup → (l.filter fun x => decide (x = a)).length = if a ∈ l then 1 else 0
  | [], _ => rfl
  | x :: l, h => by
    obtain ⟨h1, h2⟩ := List.nodup_cons.1 h
    have ih := many_one (a := a) h2
    rw [List.filter_cons]
    by_cases hx : x = a
    · subst hx
      rw [if_neg h1] at ih
      simp [ih]
    · have : (a ∈ x :: l) ↔ a ∈ l := ⟨fun q => (List.mem_cons.1 q).elim (fun e => absurd e.symm hx) id, List.mem_cons_of_mem _⟩
      simp only [hx, decide_false, if_false, this]
      simpa using ih
/-- How often one is among some. -/
theorem count_loop {s : List UInt8} {N : List (List UInt8)} {m : List Int} {i k : Int} {d : List (List UInt8)} {n : List UInt8} (hi : idxL N i = some n) (hd : d.length ≤ 1000) : ∀ (q j v : Nat), j + q = d.length → v + q ≤ 100000 →
    loopM (fun s96557 : Int × Int => gemotlaw14_PlaceDuties.b2 s N m i k d s96557.1 s96557.2) ((v : Int), (j : Int)) = some (((v + ((d.drop j).filter fun x => decide (x = n)).length : Nat)) : Int) := by
  intro q
  induction q with
  | zero =>
    intro j v hj hv
    rw [List.drop_of_length_le (by omega)]
    refine loop_end ?_
    show gemotlaw14_PlaceDuties.b2 s N m i k d (v : Int) (j : Int) = _
    unfold gemotlaw14_PlaceDuties.b2
    rw [cond_f (by omega)]; rfl
  | succ q ih =>
    intro j v hj hv
    have hjl : j < d.length := by omega
    rw [List.drop_eq_getElem_cons hjl, List.filter_cons]
    by_cases he : d[j] = n
    · rw [if_pos (by simpa using he)]
      have := ih (j + 1) (v + 1) (by omega) (by omega)
      rw [show v + 1 + ((d.drop (j + 1)).filter fun x => decide (x = n)).length = v + (d[j] :: (d.drop (j + 1)).filter fun x => decide (x = n)).length by rw [List.length_cons]; omega] at this
      refine loop_step ?_ this
      show gemotlaw14_PlaceDuties.b2 s N m i k d (v : Int) (j : Int) = _
      unfold gemotlaw14_PlaceDuties.b2 gemotlaw14_PlaceDuties.k1
      rw [cond_t (by omega), idxL_lt hjl, Option.bind_some, hi, Option.bind_some, strEq_eq, decide_eq_true he, cond_true, wrap1 v (by omega), wrap1 j (by omega)]
    · rw [if_neg (by simpa using he)]
      refine loop_step ?_ (ih (j + 1) v (by omega) (by omega))
      show gemotlaw14_PlaceDuties.b2 s N m i k d (v : Int) (j : Int) = _
      unfold gemotlaw14_PlaceDuties.b2 gemotlaw14_PlaceDuties.k1
      rw [cond_t (by omega), idxL_lt hjl, Option.bind_some, hi, Option.bind_some, strEq_eq, decide_eq_false he, cond_false, wrap1 j (by omega)]
theorem len_one : ∀ T : Tr, T.leavesR.length ≤ 1 → ∃ p, T = .leaf p
  | .leaf p, _ => ⟨p, rfl⟩
  | .two l r, h => by
    have h1 := leavesR_pos l
    have h2 := leavesR_pos r
    simp only [Tr.leavesR, List.length_append] at h
    omega
/-- All members, one by one. -/
theorem members_loop {T : Tr} (hk : T.ok) (hn : T.leavesR.Nodup) {N : List (List UInt8)} {i : Int} {n : List UInt8} {S : Tr} (hi : idxL N i = some n) (hs : subT T n = some S) : ∀ (q k v : Nat), k + q = (sortZ T.leavesR).length → v + q ≤ 1000 →
    loopM (fun s95896 : Int × Int => gemotlaw14_PlaceDuties.b6 T.text N (sortZ T.leavesR) i s95896.1 s95896.2) ((v : Int), (k : Int)) = some (.inl (((v + (((sortZ T.leavesR).drop k).filter fun p => decide (n ≠ [] ∧ sponM T.text n = p)).length : Nat)) : Int)) := by
  have hlen := tree_len hk hn
  have h8 := leaves_eight hk hn
  have hsl := sortZ_len T.leavesR
  have ho : ofM T.text = some T := by rw [ofM_iff hk, if_pos hn]
  intro q
  induction q with
  | zero =>
    intro k v hkq hv
    rw [List.drop_of_length_le (by omega)]
    refine loop_end ?_
    show gemotlaw14_PlaceDuties.b6 T.text N (sortZ T.leavesR) i (v : Int) (k : Int) = _
    unfold gemotlaw14_PlaceDuties.b6
    rw [cond_f (by omega)]; rfl
  | succ q ih =>
    intro k v hkq hv
    have hkl : k < (sortZ T.leavesR).length := by omega
    rw [List.drop_eq_getElem_cons hkl, List.filter_cons]
    obtain ⟨p, hp⟩ : ∃ p, (sortZ T.leavesR)[k] = p := ⟨_, rfl⟩
    have hidx : idxL (sortZ T.leavesR) (k : Int) = some p := by rw [idxL_lt hkl, hp]
    have hpm : p ∈ T.leavesR := (sortZ_perm _).mem_iff.1 (by rw [← hp]; exact List.getElem_mem hkl)
    rw [hp]
    obtain ⟨π, hπ⟩ := path_mem hpm
    have lπ := pathL_len T p π hπ
    obtain ⟨c, c1, c2, c3⟩ := dut_front hk hn hπ
    have hpath : pathM T.text p = upT π := by rw [pathM_eq ho, hπ]
    have hP : place_Path.f T.text p = some (upT π) := by unfold place_Path.f; rw [given_of (by omega), hpath]
    have hD : place_Duties.f T.text p = some (dutM T.text p) := dut_eq (by omega)
    have hul := up_len π
    have hdl : (dutM T.text p).length = c := by rw [c2, List.length_take]; omega
    have hnd : (dutM T.text p).Nodup := dut_nodup _ _ (by rw [hpath]; exact up_nodup π)
    have hcnt : ((dutM T.text p).filter fun x => decide (x = n)).length = if n ≠ [] ∧ sponM T.text n = p then 1 else 0 := by
      rw [many_one hnd]
      by_cases h : n ≠ [] ∧ sponM T.text n = p
      · rw [if_pos h, if_pos ((dut_mem hk hn hs p).2 h)]
      · rw [if_neg h, if_neg (fun q => h ((dut_mem hk hn hs p).1 q))]
    have hcl := count_loop (s := T.text) (m := sortZ T.leavesR) (k := (k : Int)) (d := dutM T.text p) hi (by omega) (dutM T.text p).length 0 v (by omega) (by omega)
    rw [List.drop_zero, hcnt] at hcl
    have hslc : slcM (upT π) (0 : Int) (((dutM T.text p).length : Nat) : Int) = some (dutM T.text p) := by
      have := slc_lt (xs := upT π) (a := 0) (b := (dutM T.text p).length) (Nat.zero_le _) (by omega)
      rw [List.drop_zero, Nat.sub_zero, hdl] at this
      rw [hdl]
      exact this.trans (by rw [← c2])
    have hsmall : cond (decide ((((sortZ T.leavesR).length : Nat) : Int) > (1 : Int))) (((((dutM T.text p).length : Nat) : Int)) == (0 : Int)) false = false := by
      by_cases h : (((sortZ T.leavesR).length : Nat) : Int) > 1
      · rw [decide_eq_true h, cond_true]
        have hπ0 : π ≠ [] := by
          rintro rfl
          have h1 := (path_leafAt T p [] hπ).1
          rw [subT_nil] at h1
          have hT1 : T = .leaf p := Option.some.inj h1
          have : T.leavesR.length = 1 := by rw [hT1]; rfl
          omega
        have := c3 hπ0
        exact beq_eq_false_iff_ne.2 (by omega)
      · rw [decide_eq_false h]; rfl
    have hbody : gemotlaw14_PlaceDuties.b6 T.text N (sortZ T.leavesR) i (v : Int) (k : Int) = some (.inl (((v + if n ≠ [] ∧ sponM T.text n = p then 1 else 0 : Nat) : Int), ((k + 1 : Nat) : Int))) := by
      unfold gemotlaw14_PlaceDuties.b6
      rw [cond_t (by omega), hidx, Option.bind_some, hD, Option.bind_some, show loopM (fun s96557 : Int × Int => gemotlaw14_PlaceDuties.b2 T.text N (sortZ T.leavesR) i (k : Int) (dutM T.text p) s96557.1 s96557.2) ((v : Int), (0 : Int)) = _ from hcl, Option.bind_some]
      unfold gemotlaw14_PlaceDuties.k5
      rw [hidx, Option.bind_some, hP, Option.bind_some, decide_eq_false (show ¬ (((dutM T.text p).length : Nat) : Int) ≥ (((upT π).length : Nat) : Int) by omega), cond_false, hslc, Option.bind_some, same14 _ (by omega), Option.bind_some, hsmall]
      show gemotlaw14_PlaceDuties.k4 T.text N (sortZ T.leavesR) i (k : Int) _ false = _
      unfold gemotlaw14_PlaceDuties.k4 gemotlaw14_PlaceDuties.k3
      rw [cond_false, wrap1 k (by omega)]
    by_cases h : n ≠ [] ∧ sponM T.text n = p
    · rw [if_pos h] at hbody
      rw [if_pos (by simpa using h), List.length_cons]
      have := ih (k + 1) (v + 1) (by omega) (by omega)
      rw [show v + 1 + (((sortZ T.leavesR).drop (k + 1)).filter fun p => decide (n ≠ [] ∧ sponM T.text n = p)).length = v + ((((sortZ T.leavesR).drop (k + 1)).filter fun p => decide (n ≠ [] ∧ sponM T.text n = p)).length + 1) by omega] at this
      exact loop_step hbody this
    · rw [if_neg h, Nat.add_zero] at hbody
      rw [if_neg (by simpa using h)]
      exact loop_step hbody (ih (k + 1) v (by omega) (by omega))
theorem nodes_count : ∀ (T : Tr) (pre : List UInt8), (nodesT pre T).length + 1 = 2 * T.leavesR.length
  | .leaf p, pre => by simp [nodesT, Tr.leavesR]
  | .two l r, pre => by
    have h1 := nodes_count l (pre ++ [108])
    have h2 := nodes_count r (pre ++ [114])
    simp only [nodesT, Tr.leavesR, List.length_cons, List.length_append]
    omega
theorem duties_law {x0 : List Int} (h0 : ∀ x ∈ x0, inI64 x) : gemotlaw14_PlaceDuties.f x0 = some true := by
  obtain ⟨T, hk, hn, hT⟩ := made_is h0
  have hlen := tree_len hk hn
  have ho : ofM T.text = some T := by rw [ofM_iff hk, if_pos hn]
  have h8 := leaves_eight hk hn
  have hpos := leavesR_pos T
  have hsl := sortZ_len T.leavesR
  have hM : tree_Members.f T.text = some (sortZ T.leavesR) := by unfold tree_Members.f; rw [given_of (by omega), members_text hk hn]
  have hN : place_Nodes.f T.text = some (nodesM T.text) := by unfold place_Nodes.f; rw [given_of (by omega)]
  have hnl : (nodesM T.text).length + 1 = 2 * T.leavesR.length := by
    unfold nodesM
    rw [ho]
    show (sortF ((nodesT [] T).map (·.1))).length + 1 = _
    rw [sortF_len, List.length_map]
    exact nodes_count T []
  have hnd : (sortZ T.leavesR).Nodup := (sortZ_perm _).nodup_iff.2 hn
  unfold gemotlaw14_PlaceDuties.f
  rw [shown14, Option.bind_some, Bool.not_true, cond_false, hT, Option.bind_some, hN, Option.bind_some, hM, Option.bind_some]
  have hL : loopM (fun s84590 : Int => gemotlaw14_PlaceDuties.b10 T.text (nodesM T.text) (sortZ T.leavesR) s84590) (0 : Int) = some (.inl ()) := by
    refine loop_count (fun i => (i : Int)) (nodesM T.text).length (fun i hi => ?_) ?_
    · show gemotlaw14_PlaceDuties.b10 T.text (nodesM T.text) (sortZ T.leavesR) (i : Int) = _
      obtain ⟨S, hs⟩ := nodes_at hk hn (List.getElem_mem hi)
      obtain ⟨n, hnn⟩ : ∃ n, (nodesM T.text)[i] = n := ⟨_, rfl⟩
      rw [hnn] at hs
      have hidx : idxL (nodesM T.text) (i : Int) = some n := by rw [idxL_lt hi, hnn]
      have hml := members_loop hk hn hidx hs (sortZ T.leavesR).length 0 0 (by omega) (by omega)
      rw [List.drop_zero, Nat.zero_add] at hml
      have hmany : ((sortZ T.leavesR).filter fun p => decide (n ≠ [] ∧ sponM T.text n = p)).length = if n = [] then 0 else 1 := by
        by_cases h : n = []
        · rw [if_pos h]
          simp [h]
        · rw [if_neg h]
          have e : ((sortZ T.leavesR).filter fun p => decide (n ≠ [] ∧ sponM T.text n = p)) = (sortZ T.leavesR).filter fun p => decide (p = sponM T.text n) := by
            refine List.filter_congr fun x _ => ?_
            rw [decide_eq_decide]
            exact ⟨fun q => q.2.symm, fun q => ⟨h, q.symm⟩⟩
          rw [e, many_one hnd, if_pos]
          refine (sortZ_perm _).mem_iff.2 ?_
          rw [sponM_in ho, hs]
          exact (sub_ok4 hk hn hs).2.2.1 _ (head_in (leavesR_pos S))
      rw [hmany] at hml
      unfold gemotlaw14_PlaceDuties.b10
      rw [cond_t (by omega), show loopM (fun s95896 : Int × Int => gemotlaw14_PlaceDuties.b6 T.text (nodesM T.text) (sortZ T.leavesR) (i : Int) s95896.1 s95896.2) ((0 : Int), (0 : Int)) = _ from hml]
      show gemotlaw14_PlaceDuties.k9 T.text (nodesM T.text) (sortZ T.leavesR) (i : Int) _ = _
      unfold gemotlaw14_PlaceDuties.k9
      rw [hidx, Option.bind_some, strEq_eq]
      unfold gemotlaw14_PlaceDuties.k8 gemotlaw14_PlaceDuties.k7
      by_cases h : n = []
      · rw [decide_eq_true h, cond_true, if_pos h]
        show some (Sum.inl (IntKind.i64.wrap ((i : Int) + 1))) = _
        rw [wrap1 i (by omega)]
      · rw [decide_eq_false h, cond_false, if_neg h]
        show some (Sum.inl (IntKind.i64.wrap ((i : Int) + 1))) = _
        rw [wrap1 i (by omega)]
    · show gemotlaw14_PlaceDuties.b10 T.text (nodesM T.text) (sortZ T.leavesR) ((nodesM T.text).length : Int) = _
      unfold gemotlaw14_PlaceDuties.b10
      rw [cond_f (by omega)]
  rw [hL]
  show gemotlaw14_PlaceDuties.k11 (nodesM T.text) (sortZ T.leavesR) = _
  unfold gemotlaw14_PlaceDuties.k11
  rw [hsl, Eng.i64_id (x := (2 : Int) * (T.leavesR.length : Int)) (by omega) (by omega), Eng.i64_id (by omega) (by omega)]
  congr 1
  exact beq_iff_eq.2 (by omega)
theorem duties_row {ok : Nat → Prop} {w : World} {u0 : Value} {x0 : List Int} (hu : slR (tInt .i64) w ok u0 x0) (h0 : ∀ x ∈ x0, inI64 x) :
    Calls Tryd.prog 5 #[u0] w fun e w' => ∃ r, e = .returned r ∧ r = .bool true ∧ Below w.heap.size w w' :=
  (gemotlaw14_PlaceDuties_ok hu (duties_law h0)).mono fun e w' ⟨v, h1, h2, h3⟩ => ⟨v, h1, h2, h3.toBelow⟩
end Go.Proofs.YtfapphlhkfddoaaDoor.G
