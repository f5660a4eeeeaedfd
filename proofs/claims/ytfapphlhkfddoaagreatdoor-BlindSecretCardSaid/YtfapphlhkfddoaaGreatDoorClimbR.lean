/- The blinds of all nodes but the root, as they are reckoned. -/
import Derived.Test.YtfapphlhkfddoaaGreatDoorSecQ
import Derived.Test.YtfapphlhkfddoaaGreatDoorBlindP
import Derived.Test.YtfapphlhkfddoaaGreatDoorHS
namespace Go.Proofs.YtfapphlhkfddoaaGreatDoor.G
open Go.RowKit Go.Eng Go.Proofs Go.Proofs.YtfapphlhkfddoaaGreatDoor.Cut
set_option linter.unusedVariables false
set_option linter.unusedSimpArgs false

theorem sub_split : ∀ (n : List UInt8) (T S : Tr), subT T n = some S → ∃ X Y, T.leavesR = X ++ S.leavesR ++ Y
  | [], T, S, h => by rw [subT_nil] at h; cases h; exact ⟨[], [], by simp⟩
  | c :: n, .leaf p, S, h => by cases h
  | c :: n, .two l r, S, h => by
    have h : (if c = 108 then subT l n else if c = 114 then subT r n else none) = some S := h
    by_cases h1 : c = 108
    · rw [if_pos h1] at h
      obtain ⟨X, Y, e⟩ := sub_split n l S h
      exact ⟨r.leavesR ++ X, Y, by rw [leavesR_two, e]; simp⟩
    · rw [if_neg h1] at h
      by_cases h2 : c = 114
      · rw [if_pos h2] at h
        obtain ⟨X, Y, e⟩ := sub_split n r S h
        exact ⟨X, Y ++ l.leavesR, by rw [leavesR_two, e]; simp⟩
      · rw [if_neg h2] at h; cases h
/-- The members below a node, out of all. -/
theorem below_sorted {T S : Tr} {n : List UInt8} (hn : T.leavesR.Nodup) (hs : subT T n = some S) : ((sortZ T.leavesR).filter fun p => decide (p ∈ sortZ S.leavesR)) = sortZ S.leavesR := by
  obtain ⟨X, Y, e⟩ := sub_split n T S hs
  symm
  refine sortZ_is ?_ ((sortZ_le _).filter _)
  have e1 : ((sortZ T.leavesR).filter fun p => decide (p ∈ sortZ S.leavesR)) = (sortZ T.leavesR).filter fun p => decide (p ∈ S.leavesR) := by
    refine List.filter_congr fun x _ => ?_
    rw [decide_eq_decide]
    exact (sortZ_perm _).mem_iff
  rw [e1]
  refine List.Perm.trans ?_ ((sortZ_perm T.leavesR).filter _).symm
  rw [e] at hn ⊢
  rw [List.append_assoc] at hn
  obtain ⟨hx, hsy, hd1⟩ := List.nodup_append.1 hn
  obtain ⟨hS, hY, hd2⟩ := List.nodup_append.1 hsy
  have hX : X.filter (fun x => decide (x ∈ S.leavesR)) = [] := List.filter_eq_nil_iff.2 (fun x hx2 => by
    simp only [decide_eq_true_eq]
    exact fun q => hd1 x hx2 x (List.mem_append_left _ q) rfl)
  have hY2 : Y.filter (fun x => decide (x ∈ S.leavesR)) = [] := List.filter_eq_nil_iff.2 (fun y hy => by
    simp only [decide_eq_true_eq]
    exact fun q => hd2 y q y hy rfl)
  have hS2 : S.leavesR.filter (fun x => decide (x ∈ S.leavesR)) = S.leavesR := List.filter_eq_self.2 (fun x hx2 => by simpa using hx2)
  rw [List.filter_append, List.filter_append, hX, hY2, hS2, List.nil_append, List.append_nil]
theorem one_of {a : Int} : ∀ {l : List Int}, l.Nodup → (l.filter fun x => decide (x = a)) = if a ∈ l then [a] else []
  | [], _ => rfl
  | x :: l, h => by
    obtain ⟨h1, h2⟩ := List.nodup_cons.1 h
    have ih := one_of (a := a) h2
    rw [List.filter_cons]
    by_cases hx : x = a
    · subst hx
      rw [if_neg h1] at ih
      simp [ih]
    · have : (a ∈ x :: l) ↔ a ∈ l := ⟨fun q => (List.mem_cons.1 q).elim (fun e => absurd e.symm hx) id, List.mem_cons_of_mem _⟩
      simp only [hx, decide_false, this]
      simpa using ih
section
variable {s : List UInt8} {xs : List (List UInt8)} {N : List (List UInt8)} {m k : List Int} {out : List D_blind_Blind} {i : Int} {at_ : List UInt8 × Int}
theorem own_inner {j : Int} {q : Int} {y : List UInt8} (hq : idxL m j = some q) (hy : idxL xs j = some y) (hk : k.length ≤ 1000) : ∀ (g h : Nat) (own : List (List UInt8)), h + g = k.length → own.length + g ≤ 100000 →
    loopM (fun s81600 : (List (List UInt8)) × Int => gemotlaw15_blinds.b2 s xs N m out i at_ k j s81600.1 s81600.2) (own, (h : Int)) = some (own ++ ((k.drop h).filter fun x => decide (x = q)).map fun _ => y) := by
  intro g
  induction g with
  | zero =>
    intro h own hg ho
    rw [List.drop_of_length_le (by omega)]
    refine loop_end ?_
    show gemotlaw15_blinds.b2 s xs N m out i at_ k j own (h : Int) = _
    unfold gemotlaw15_blinds.b2
    rw [cond_f (by omega)]; simp
  | succ g ih =>
    intro h own hg ho
    have hl : h < k.length := by omega
    rw [List.drop_eq_getElem_cons hl, List.filter_cons]
    by_cases he : k[h] = q
    · rw [if_pos (by simpa using he), List.map_cons]
      have := ih (h + 1) (own ++ [y]) (by omega) (by rw [List.length_append]; simp only [List.length_cons, List.length_nil]; omega)
      rw [List.append_assoc] at this
      refine loop_step ?_ this
      show gemotlaw15_blinds.b2 s xs N m out i at_ k j own (h : Int) = _
      unfold gemotlaw15_blinds.b2 gemotlaw15_blinds.k1
      rw [cond_t (by omega), idxL_lt hl, Option.bind_some, hq, Option.bind_some, show (k[h] == q) = true from beq_iff_eq.2 he, cond_true, hy, Option.bind_some, room_of (by omega), wrap1 h (by omega)]
    · rw [if_neg (by simpa using he)]
      refine loop_step ?_ (ih (h + 1) own (by omega) (by omega))
      show gemotlaw15_blinds.b2 s xs N m out i at_ k j own (h : Int) = _
      unfold gemotlaw15_blinds.b2 gemotlaw15_blinds.k1
      rw [cond_t (by omega), idxL_lt hl, Option.bind_some, hq, Option.bind_some, show (k[h] == q) = false from beq_eq_false_iff_ne.2 he, cond_false, wrap1 h (by omega)]
theorem own_outer {nm : Int → List UInt8} (hxs : xs = m.map nm) (hml : m.length ≤ 1000) (hk : k.length ≤ 1000) (hkn : k.Nodup) : ∀ (g j : Nat) (own : List (List UInt8)), j + g = m.length → own.length + g ≤ 1000 →
    loopM (fun s81051 : (List (List UInt8)) × Int => gemotlaw15_blinds.b4 s xs N m out i at_ k s81051.1 s81051.2) (own, (j : Int)) = some (own ++ ((m.drop j).filter fun p => decide (p ∈ k)).map nm) := by
  have hxl : xs.length = m.length := by rw [hxs, List.length_map]
  intro g
  induction g with
  | zero =>
    intro j own hg ho
    rw [List.drop_of_length_le (by omega)]
    refine loop_end ?_
    show gemotlaw15_blinds.b4 s xs N m out i at_ k own (j : Int) = _
    unfold gemotlaw15_blinds.b4
    rw [decide_eq_false (show ¬ (j : Int) < (m.length : Int) by omega)]
    show some (Sum.inr own) = _
    simp
  | succ g ih =>
    intro j own hg ho
    have hl : j < m.length := by omega
    have hl2 : j < xs.length := by omega
    have hy : xs[j] = nm m[j] := by subst hxs; simp
    rw [List.drop_eq_getElem_cons hl, List.filter_cons]
    have hin := own_inner (s := s) (N := N) (out := out) (i := i) (at_ := at_) (k := k) (idxL_lt hl) (idxL_lt hl2) hk k.length 0 own (by omega) (by omega)
    rw [List.drop_zero, one_of hkn, hy] at hin
    have hbody : ∀ o', loopM (fun s81600 : (List (List UInt8)) × Int => gemotlaw15_blinds.b2 s xs N m out i at_ k (j : Int) s81600.1 s81600.2) (own, (0 : Int)) = some o' → gemotlaw15_blinds.b4 s xs N m out i at_ k own (j : Int) = some (.inl (o', ((j + 1 : Nat) : Int))) := by
      intro o' h
      unfold gemotlaw15_blinds.b4
      rw [decide_eq_true (show (j : Int) < (m.length : Int) by omega), decide_eq_true (show (j : Int) < (xs.length : Int) by omega), cond_true, cond_true, h, Option.bind_some]
      unfold gemotlaw15_blinds.k3
      rw [wrap1 j (by omega)]
    by_cases hm : m[j] ∈ k
    · rw [if_pos hm] at hin
      rw [if_pos (by simpa using hm), List.map_cons]
      have := ih (j + 1) (own ++ [nm m[j]]) (by omega) (by rw [List.length_append]; simp only [List.length_cons, List.length_nil]; omega)
      rw [List.append_assoc] at this
      exact loop_step (hbody _ hin) this
    · rw [if_neg hm, List.map_nil, List.append_nil] at hin
      rw [if_neg (by simpa using hm)]
      exact loop_step (hbody _ hin) (ih (j + 1) own (by omega) (by omega))
end
theorem blinds_loop {T : Tr} (hk : T.ok) (hn : T.leavesR.Nodup) (first : Int) : ∀ (g i : Nat) (out : List D_blind_Blind), i + g = (nodesM T.text).length → out.length + g ≤ 10000 →
    loopM (fun s71507 : (List D_blind_Blind) × Int => gemotlaw15_blinds.b7 T.text ((sortZ T.leavesR).map (nmOf (sortZ T.leavesR) first)) (nodesM T.text) (sortZ T.leavesR) s71507.1 s71507.2) (out, (i : Int)) = some (out ++ (((nodesM T.text).drop i).filter fun n => decide (n ≠ [])).map fun n => (n, 101 :: 1 :: secAt T (nmOf (sortZ T.leavesR) first) n)) := by
  have hlen := tree_len hk hn
  have h8 := leaves_eight hk hn
  have hsl := sortZ_len T.leavesR
  have ho : ofM T.text = some T := by rw [ofM_iff hk, if_pos hn]
  have hnl := nodesM_len T.text
  intro g
  induction g with
  | zero =>
    intro i out hg hout
    rw [List.drop_of_length_le (by omega)]
    refine loop_end ?_
    show gemotlaw15_blinds.b7 T.text _ (nodesM T.text) (sortZ T.leavesR) out (i : Int) = _
    unfold gemotlaw15_blinds.b7
    rw [cond_f (by omega)]; simp
  | succ g ih =>
    intro i out hg hout
    have hi : i < (nodesM T.text).length := by omega
    rw [List.drop_eq_getElem_cons hi, List.filter_cons]
    obtain ⟨S, hs⟩ := nodes_at hk hn (List.getElem_mem hi)
    obtain ⟨n, hnn⟩ : ∃ n, (nodesM T.text)[i] = n := ⟨_, rfl⟩
    have hidx : idxL (nodesM T.text) (i : Int) = some n := by rw [idxL_lt hi, hnn]
    rw [hnn] at hs ⊢
    obtain ⟨k1, k2, k3, k4⟩ := sub_ok4 hk hn hs
    have hs8 := leaves_eight k1 k2
    have hssl := sortZ_len S.leavesR
    have hA : place_At.f T.text n = some (S.text, 0) := by unfold place_At.f; rw [given_of (by omega), at_sub ho, hs]
    have hM : tree_Members.f S.text = some (sortZ S.leavesR) := by unfold tree_Members.f; rw [given_of (by omega), members_text k1 k2]
    have hsm := nm_small hk hn (sortZ T.leavesR) first hs
    have hown := own_outer (s := T.text) (N := nodesM T.text) (out := out) (i := (i : Int)) (at_ := (S.text, 0)) (k := sortZ S.leavesR) (m := sortZ T.leavesR) (nm := nmOf (sortZ T.leavesR) first) rfl (by omega) (by omega) ((sortZ_perm _).nodup_iff.2 k2) (sortZ T.leavesR).length 0 [] (by omega) (by simp; omega)
    rw [List.drop_zero, List.nil_append, below_sorted hn hs] at hown
    have hR := root_sec k1 k2 hsm
    have hE := sec_elem hsm
    have hbody : gemotlaw15_blinds.b7 T.text ((sortZ T.leavesR).map (nmOf (sortZ T.leavesR) first)) (nodesM T.text) (sortZ T.leavesR) out (i : Int) = some (.inl (if n ≠ [] then out ++ [(n, 101 :: 1 :: secAt T (nmOf (sortZ T.leavesR) first) n)] else out, ((i + 1 : Nat) : Int))) := by
      unfold gemotlaw15_blinds.b7
      rw [cond_t (by omega), hidx, Option.bind_some, hA, Option.bind_some, hM, Option.bind_some, show loopM (fun s81051 : (List (List UInt8)) × Int => gemotlaw15_blinds.b4 T.text ((sortZ T.leavesR).map (nmOf (sortZ T.leavesR) first)) (nodesM T.text) (sortZ T.leavesR) out (i : Int) (S.text, 0) (sortZ S.leavesR) s81051.1 s81051.2) (([] : List (List UInt8)), (0 : Int)) = _ from hown, Option.bind_some]
      unfold gemotlaw15_blinds.k6
      show (blind_Root.f S.text _).bind _ = _
      rw [hR, Option.bind_some]
      show (blind_Element.f (secT (nmOf (sortZ T.leavesR) first) S)).bind _ = _
      rw [hE, Option.bind_some, hidx, Option.bind_some, strEq_eq, secAt_in hs]
      unfold gemotlaw15_blinds.k5
      by_cases h : n = []
      · rw [decide_eq_true h, if_neg (fun q => q h), Bool.not_true, cond_false, wrap1 i (by omega)]
      · rw [decide_eq_false h, if_pos h, Bool.not_false, cond_true, Option.bind_some, room_of (by omega), wrap1 i (by omega)]
    by_cases h : n = []
    · rw [if_neg (fun q => q h)] at hbody
      rw [if_neg (by simpa using h)]
      exact loop_step hbody (ih (i + 1) out (by omega) (by omega))
    · rw [if_pos h] at hbody
      rw [if_pos (by simpa using h), List.map_cons]
      have := ih (i + 1) (out ++ [(n, 101 :: 1 :: secAt T (nmOf (sortZ T.leavesR) first) n)]) (by omega) (by rw [List.length_append]; simp only [List.length_cons, List.length_nil]; omega)
      rw [List.append_assoc] at this
      exact loop_step hbody this
theorem blinds_eq {T : Tr} (hk : T.ok) (hn : T.leavesR.Nodup) (first : Int) : gemotlaw15_blinds.f T.text ((sortZ T.leavesR).map (nmOf (sortZ T.leavesR) first)) = some (blindsM T (nmOf (sortZ T.leavesR) first)) := by
  have hlen := tree_len hk hn
  have hnl := nodesM_len T.text
  have hM : tree_Members.f T.text = some (sortZ T.leavesR) := by unfold tree_Members.f; rw [given_of (by omega), members_text hk hn]
  have hN : place_Nodes.f T.text = some (nodesM T.text) := by unfold place_Nodes.f; rw [given_of (by omega)]
  have h := blinds_loop hk hn first (nodesM T.text).length 0 [] (by omega) (by simp; omega)
  unfold gemotlaw15_blinds.f gemotlaw15_blinds.k8
  rw [hN, Option.bind_some, hM, Option.bind_some, show loopM (fun s71507 : (List D_blind_Blind) × Int => gemotlaw15_blinds.b7 T.text ((sortZ T.leavesR).map (nmOf (sortZ T.leavesR) first)) (nodesM T.text) (sortZ T.leavesR) s71507.1 s71507.2) (([] : List D_blind_Blind), (0 : Int)) = _ from h, List.drop_zero, List.nil_append]
  rfl
theorem blinds_right (T : Tr) (nm : Int → List UInt8) : rightL T nm (blindsM T nm) := by
  intro b hb
  unfold blindsM at hb
  obtain ⟨n, _, rfl⟩ := List.mem_map.1 hb
  rfl
theorem blinds_names (T : Tr) (nm : Int → List UInt8) : (blindsM T nm).map (·.1) = (nodesM T.text).filter fun n => decide (n ≠ []) := by
  unfold blindsM
  rw [List.map_map]
  exact (List.map_congr_left fun n _ => rfl).trans (List.map_id _)
theorem node_in {T S : Tr} (hk : T.ok) (hn : T.leavesR.Nodup) {n : List UInt8} (h : subT T n = some S) : n ∈ nodesM T.text := by
  have ho : ofM T.text = some T := by rw [ofM_iff hk, if_pos hn]
  rw [nodesM_eq ho]
  unfold levs
  have hl : n.length < T.leavesR.length + 1 := by
    apply Classical.byContradiction
    intro hgt
    have := lev_node n.length T n S rfl h
    rw [lev_none n.length T (by omega)] at this
    cases this
  exact List.mem_flatMap.2 ⟨n.length, List.mem_range.2 hl, lev_node n.length T n S rfl h⟩
theorem beside_ne {n : List UInt8} (h : n ≠ []) : besideT n ≠ [] := by
  rcases List.eq_nil_or_concat n with rfl | ⟨q, c, rfl⟩
  · exact absurd rfl h
  · rw [List.concat_eq_append, besideT_snoc]; simp
/-- The nodes beside a path are told, if all are. -/
theorem sib_told {T : Tr} (hk : T.ok) (hn : T.leavesR.Nodup) (nm : Int → List UInt8) {p : Int} {π : List UInt8} (hπ : pathL T p = some π) {d : Nat} (hd : d < π.length) : besideT (π.take (d + 1)) ∈ (blindsM T nm).map (·.1) := by
  obtain ⟨l, r, _, h2⟩ := sib_at hπ hd
  rw [blinds_names, List.mem_filter]
  refine ⟨?_, by simpa using beside_ne (fun e => by have := congrArg List.length e; rw [List.length_take] at this; simp only [List.length_nil] at this; omega)⟩
  rcases h2 with ⟨_, b⟩ | ⟨_, b⟩
  · exact node_in hk hn b
  · exact node_in hk hn b
theorem res_all {T : Tr} (hk : T.ok) (hn : T.leavesR.Nodup) (nm : Int → List UInt8) {p : Int} {π : List UInt8} (hπ : pathL T p = some π) : ∀ d, d ≤ π.length → secAt T nm (π.take d) :: resD T nm (blindsM T nm) π d = (upD π d).map (secAt T nm)
  | 0, _ => by simp [resD, upD]
  | d + 1, hd => by
    rw [resD_succ, if_pos (sib_told hk hn nm hπ (by omega)), res_all hk hn nm hπ d (by omega)]
    rfl
theorem nodes_count : ∀ (T : Tr) (pre : List UInt8), (nodesT pre T).length + 1 = 2 * T.leavesR.length
  | .leaf p, pre => by simp [nodesT, Tr.leavesR]
  | .two l r, pre => by
    have h1 := nodes_count l (pre ++ [108])
    have h2 := nodes_count r (pre ++ [114])
    simp only [nodesT, Tr.leavesR, List.length_cons, List.length_append]
    omega
theorem nodesM_count {T : Tr} (hk : T.ok) (hn : T.leavesR.Nodup) : (nodesM T.text).length + 1 = 2 * T.leavesR.length := by
  have ho : ofM T.text = some T := by rw [ofM_iff hk, if_pos hn]
  unfold nodesM
  rw [ho]
  show (sortF ((nodesT [] T).map (·.1))).length + 1 = _
  rw [sortF_len, List.length_map]
  exact nodes_count T []
theorem lev_pos : ∀ (d : Nat) (T : Tr), ∀ n ∈ lev (d + 1) T, n ≠ [] := by
  intro d T n h e
  have := (lev_mem (d + 1) T n h).1
  rw [e] at this
  cases this
theorem levs_ne (T : Tr) : ∀ D, ((levs (D + 1) T).filter fun n => decide (n ≠ [])).length + 1 = (levs (D + 1) T).length
  | 0 => by simp [levs, lev]
  | D + 1 => by
    have ih := levs_ne T D
    have h2 : (lev (D + 1) T).filter (fun n => decide (n ≠ [])) = lev (D + 1) T := List.filter_eq_self.2 (fun x hx => by simpa using lev_pos D T x hx)
    rw [levs_succ (D + 1) T, List.filter_append, List.length_append, List.length_append, h2]
    omega
theorem blinds_len {T : Tr} (hk : T.ok) (hn : T.leavesR.Nodup) (nm : Int → List UInt8) : (blindsM T nm).length + 2 = 2 * T.leavesR.length := by
  have ho : ofM T.text = some T := by rw [ofM_iff hk, if_pos hn]
  have h1 := nodesM_count hk hn
  unfold blindsM
  rw [List.length_map, nodesM_eq ho]
  rw [nodesM_eq ho] at h1
  have := levs_ne T T.leavesR.length
  omega
end Go.Proofs.YtfapphlhkfddoaaGreatDoor.G
/- Chapter 15's example. -/
namespace Go.Proofs.YtfapphlhkfddoaaGreatDoor.G
open Go.RowKit Go.Eng Go.Proofs Go.Proofs.YtfapphlhkfddoaaGreatDoor.Cut
set_option linter.unusedVariables false
set_option linter.unusedSimpArgs false
abbrev nmT (x : Int) : List UInt8 := countedT 110 x
theorem nmT_len (x : Int) : (nmT x).length = 9 := by simp [nmT, countedT, bytesOf_length]
theorem nmT_full (x : Int) {m : Nat} (h : 1 ≤ m) : full (nmT x) m := full_mono (full_name x) h
theorem elemN (x : Int) : blind_Element.f (nmT x) = some (101 :: 1 :: nmT x, 0) := elem_eq (nmT_full x (by omega)) (by rw [nmT_len]; omega)
theorem aboveN (x y : Int) : blind_Above.f (nmT y) (101 :: 1 :: nmT x) = some (107 :: powT [nmT x, nmT y], 0) := above_eq (nmT_full x (by omega)) (nmT_full y (by omega)) (by rw [nmT_len, nmT_len]; omega)
theorem of12 : ofM [40, 49, 50, 41] = some (.two (.leaf 1) (.leaf 2)) := by
  have hok : (Tr.two (.leaf 1) (.leaf 2)).ok := by simp only [Tr.ok]; decide
  have h := ofM_iff hok
  rw [if_pos (by decide)] at h
  exact h
theorem sortZ_of {xs ys : List Int} (h : xs.Perm ys) (hp : ys.Pairwise (· ≤ ·)) : sortZ xs = ys :=
  List.Perm.eq_of_pairwise (le := fun a b : Int => a ≤ b) (fun a b _ _ h1 h2 => Int.le_antisymm h1 h2) (sortZ_le xs) hp ((sortZ_perm xs).trans h)
theorem sortZ12 : sortZ [2, 1] = [1, 2] := sortZ_of (List.Perm.swap _ _ _) (by decide)
theorem members12 : membersM [40, 49, 50, 41] = [1, 2] := by
  unfold membersM
  rw [of12]
  show sortZ (Tr.two (.leaf 1) (.leaf 2)).leavesR = _
  rw [show (Tr.two (.leaf 1) (.leaf 2)).leavesR = [2, 1] from rfl, sortZ12]
theorem index1 : slices_Index_int_int.f [1, 2] 1 = some 0 := by
  obtain ⟨i, h1, h2, h3⟩ := index_eq [1, 2] 1 (by simp) (by simp)
  have : i = 0 := by
    match i, h1 with
    | 0, _ => rfl
    | 1, _ => simp at h2
  subst this; exact h3
theorem index2 : slices_Index_int_int.f [1, 2] 2 = some 1 := by
  obtain ⟨i, h1, h2, h3⟩ := index_eq [1, 2] 2 (by simp) (by simp)
  have : i = 1 := by
    match i, h1 with
    | 0, _ => simp at h2
    | 1, _ => rfl
  subst this; exact h3
theorem root12 (u v : List UInt8) (hu : full u 398) (hv : full v 398) (hl : u.length + v.length + 3 ≤ 20000) : blind_Root.f [40, 49, 50, 41] [u, v] = some (107 :: powT [u, v], 0) := by
  unfold blind_Root.f
  rw [given_of (by simp), members12, if_neg (by simp), of12]
  simp only [rootT]
  rw [index1, index2]
  rw [show ((some (0 : Int)).bind fun i => Option.map (fun x => (x, (0 : Int))) (idxL [u, v] i)) = some (u, 0) from rfl, show ((some (1 : Int)).bind fun i => Option.map (fun x => (x, (0 : Int))) (idxL [u, v] i)) = some (v, 0) from rfl, Option.bind_some, if_neg (by simp), Option.bind_some, if_neg (by simp), elem_eq (full_mono hu (by omega)) (by omega), Option.bind_some, if_neg (by simp)]
  exact above_eq hu hv hl
theorem shown15 : gemotlaw15_shown.f = some true := by
  have h1 : term_Power.f [103] (nmT 1) = some (101 :: 1 :: nmT 1, 0) := by
    have h := elemN 1
    unfold blind_Element.f term_Gen.f at h
    rw [Option.bind_some] at h
    cases hp : term_Power.f [103] (nmT 1) with
    | none => rw [hp] at h; cases h
    | some r => rw [hp] at h; exact h
  have h2 := pow2_eq (nmT_full 1 (show 1 ≤ 399 by omega)) (nmT_full 2 (show 1 ≤ 399 by omega)) (by rw [nmT_len, nmT_len]; omega)
  have h3 := aboveN 1 2
  unfold blind_Above.f at h3
  rw [h2, Option.bind_some] at h3
  have h4 : term_Key.f (powT [nmT 1, nmT 2]) = some (107 :: powT [nmT 1, nmT 2], 0) := by
    replace h3 : (term_Key.f (powT [nmT 1, nmT 2])).bind (fun y8 => some (y8.1, y8.2)) = _ := h3
    cases hk : term_Key.f (powT [nmT 1, nmT 2]) with
    | none => rw [hk] at h3; cases h3
    | some r => rw [hk] at h3; exact h3
  unfold gemotlaw15_shown.f term_Gen.f term_Name.f
  simp only [Option.bind_some]
  rw [h1]
  simp only [Option.bind_some]
  rw [h2]
  simp only [Option.bind_some]
  rw [h4]
  simp only [Option.bind_some]
  rw [root12 _ _ (nmT_full 1 (by omega)) (nmT_full 2 (by omega)) (by rw [nmT_len, nmT_len]; omega)]
  simp [strEq_eq]
end Go.Proofs.YtfapphlhkfddoaaGreatDoor.G
/- BlindMeet, as it is reckoned. -/
namespace Go.Proofs.YtfapphlhkfddoaaGreatDoor.G
open Go.RowKit Go.Eng Go.Proofs Go.Proofs.YtfapphlhkfddoaaGreatDoor.Cut
set_option linter.unusedVariables false
set_option linter.unusedSimpArgs false

theorem path_of {T : Tr} (hk : T.ok) (hn : T.leavesR.Nodup) {p : Int} {π : List UInt8} (hπ : pathL T p = some π) : place_Path.f T.text p = some (upT π) ∧ place_Co.f T.text p = some (coD π π.length) := by
  have hlen := tree_len hk hn
  have ho : ofM T.text = some T := by rw [ofM_iff hk, if_pos hn]
  have hp : pathM T.text p = upT π := by rw [pathM_eq ho, hπ]
  refine ⟨?_, ?_⟩
  · unfold place_Path.f; rw [given_of (by omega), hp]
  · rw [co_eq (by omega)]
    unfold coM
    rw [hp, upT_upD, coD_eq]
theorem climb_eq {T : Tr} (hk : T.ok) (hn : T.leavesR.Nodup) {m : List Int} {first : Int} {l : List D_blind_Blind} (hl : rightL T (nmOf m first) l) (hll : l.length ≤ 10000) {p : Int} {π : List UInt8} (hπ : pathL T p = some π) :
    blind_Climb.f T.text p (nmOf m first p) l = some (secAt T (nmOf m first) (π.take π.length) :: resD T (nmOf m first) l π π.length) := by
  obtain ⟨h1, h2⟩ := path_of hk hn hπ
  have h8 := leaves_eight hk hn
  have hpl := pathL_len T p π hπ
  have hs : secAt T (nmOf m first) (π.take π.length) = nmOf m first p := by
    rw [List.take_length, secAt_in (path_leafAt T p π hπ).1]; rfl
  have hne : upT π ≠ [] := fun e => by have := congrArg List.length e; rw [up_len] at this; simp at this
  unfold blind_Climb.f
  rw [h1, Option.bind_some, if_neg hne, h2, Option.bind_some, given_of ⟨by rw [coD_len]; omega, by omega⟩]
  have := climb_res hk hn hl hπ π.length (by omega)
  rw [hs] at this ⊢
  rw [this]; rfl
theorem leaf_path {T : Tr} {p : Int} (h : p ∈ T.leavesR) : ∃ π, pathL T p = some π := by
  have := pathL_some T p
  rw [decide_eq_true h] at this
  exact Option.isSome_iff_exists.1 this
theorem members_of {T : Tr} (hk : T.ok) (hn : T.leavesR.Nodup) : tree_Members.f T.text = some (sortZ T.leavesR) := by
  have hlen := tree_len hk hn
  unfold tree_Members.f; rw [given_of (by omega), members_text hk hn]
theorem secrets_of {T : Tr} (hk : T.ok) (hn : T.leavesR.Nodup) (first : Int) : gemotlaw15_secrets.f ((sortZ T.leavesR).length : Int) first = some ((sortZ T.leavesR).map (nmOf (sortZ T.leavesR) first)) := by
  have h8 := leaves_eight hk hn
  have hl := sortZ_len T.leavesR
  rw [secrets_eq _ _ (by omega), names_map ((sortZ_perm _).nodup_iff.2 hn)]
theorem root_of {T : Tr} (hk : T.ok) (hn : T.leavesR.Nodup) (first : Int) : blind_Root.f T.text ((sortZ T.leavesR).map (nmOf (sortZ T.leavesR) first)) = some (secT (nmOf (sortZ T.leavesR) first) T, 0) :=
  root_sec hk hn (nm_small hk hn _ first (subT_nil T))
end Go.Proofs.YtfapphlhkfddoaaGreatDoor.G
