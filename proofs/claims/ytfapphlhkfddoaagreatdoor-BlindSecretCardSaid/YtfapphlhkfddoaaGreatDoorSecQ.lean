/- Secrets of trees, blinds of nodes, and the secrets to which one climbs. -/
import Derived.Test.YtfapphlhkfddoaaGreatDoorPathT
import Derived.Test.YtfapphlhkfddoaaGreatDoorBlindP
import Derived.Test.YtfapphlhkfddoaaGreatDoorRootP
namespace Go.Proofs.YtfapphlhkfddoaaGreatDoor.G
open Go.RowKit Go.Eng Go.Proofs Go.Proofs.YtfapphlhkfddoaaGreatDoor.Cut
set_option linter.unusedVariables false
set_option linter.unusedSimpArgs false

/-- The secret of a tree, by its leaves' ones. -/
def secT (nm : Int → List UInt8) : Tr → List UInt8
  | .leaf p => nm p
  | .two l r => 107 :: powT [secT nm l, secT nm r]
/-- Secrets that are names. -/
def isNm (nm : Int → List UInt8) (T : Tr) : Prop := ∀ p ∈ T.leavesR, full (nm p) 1 ∧ (nm p).length = 9
theorem isNm_two {nm : Int → List UInt8} {l r : Tr} (h : isNm nm (.two l r)) : isNm nm l ∧ isNm nm r := ⟨fun p hp => h p (List.mem_append_right _ hp), fun p hp => h p (List.mem_append_left _ hp)⟩
theorem secT_full {nm : Int → List UInt8} : ∀ T : Tr, isNm nm T → full (secT nm T) (2 * T.leavesR.length) ∧ (secT nm T).length + 3 = 12 * T.leavesR.length
  | .leaf p, h => by
    obtain ⟨h1, h2⟩ := h p (List.mem_singleton.2 rfl)
    refine ⟨full_mono h1 (by simp [Tr.leavesR]), ?_⟩
    show (nm p).length + 3 = 12 * 1
    omega
  | .two l r, h => by
    obtain ⟨hl, hr⟩ := isNm_two h
    obtain ⟨f1, l1⟩ := secT_full l hl
    obtain ⟨f2, l2⟩ := secT_full r hr
    have p1 := leavesR_pos l
    have p2 := leavesR_pos r
    have e : (Tr.two l r).leavesR.length = r.leavesR.length + l.leavesR.length := by simp [Tr.leavesR]
    rw [e]
    refine ⟨?_, ?_⟩
    · have := full_above (full_mono f1 (show 2 * l.leavesR.length ≤ 2 * (r.leavesR.length + l.leavesR.length) - 2 by omega)) (full_mono f2 (show 2 * r.leavesR.length ≤ 2 * (r.leavesR.length + l.leavesR.length) - 2 by omega))
      rw [show 2 * (r.leavesR.length + l.leavesR.length) - 2 + 2 = 2 * (r.leavesR.length + l.leavesR.length) by omega] at this
      exact this
    · show (107 :: powT [secT nm l, secT nm r]).length + 3 = _
      rw [above_len]; omega
/-- A tree of no more than eight leaves. -/
def smallT (nm : Int → List UInt8) (T : Tr) : Prop := isNm nm T ∧ T.leavesR.length ≤ 8
theorem small_two {nm : Int → List UInt8} {l r : Tr} (h : smallT nm (.two l r)) : smallT nm l ∧ smallT nm r := by
  obtain ⟨h1, h2⟩ := h
  have e : (Tr.two l r).leavesR.length = r.leavesR.length + l.leavesR.length := by simp [Tr.leavesR]
  exact ⟨⟨(isNm_two h1).1, by omega⟩, ⟨(isNm_two h1).2, by omega⟩⟩
theorem sec_le {nm : Int → List UInt8} {T : Tr} (h : smallT nm T) : full (secT nm T) 398 ∧ (secT nm T).length ≤ 96 := by
  obtain ⟨f, l⟩ := secT_full T h.1
  have := h.2
  exact ⟨full_mono f (by omega), by omega⟩
theorem sec_elem {nm : Int → List UInt8} {T : Tr} (h : smallT nm T) : blind_Element.f (secT nm T) = some (101 :: 1 :: secT nm T, 0) := by
  obtain ⟨f, l⟩ := sec_le h
  exact elem_eq (full_mono f (by omega)) (by omega)
theorem sec_above {nm : Int → List UInt8} {S T : Tr} (h1 : smallT nm S) (h2 : smallT nm T) : blind_Above.f (secT nm T) (101 :: 1 :: secT nm S) = some (107 :: powT [secT nm S, secT nm T], 0) := by
  obtain ⟨f, l⟩ := sec_le h1
  obtain ⟨f2, l2⟩ := sec_le h2
  exact above_eq f f2 (by omega)
/-- The root's secret, of members' ones in a row. -/
theorem rootT_sec {nm : Int → List UInt8} {m : List Int} {s : List (List UInt8)} (hm : m.length ≤ 1000) (hs : s = m.map nm) : ∀ S : Tr, smallT nm S → (∀ p ∈ S.leavesR, p ∈ m) → rootT m s S = some (secT nm S, 0)
  | .leaf p, hsm, hin => by
    obtain ⟨i, h1, h2, h3⟩ := index_eq m p (by omega) (hin p (List.mem_singleton.2 rfl))
    show (slices_Index_int_int.f m p).bind _ = _
    have hx : idxL s (i : Int) = some (nm p) := by
      rw [idxL_nat, hs, List.getElem?_map, h2]; rfl
    rw [h3, Option.bind_some, hx]; rfl
  | .two l r, hsm, hin => by
    obtain ⟨s1, s2⟩ := small_two hsm
    have i1 := rootT_sec hm hs l s1 (fun p hp => hin p (List.mem_append_right _ hp))
    have i2 := rootT_sec hm hs r s2 (fun p hp => hin p (List.mem_append_left _ hp))
    show (rootT m s l).bind _ = _
    rw [i1, Option.bind_some]
    show (rootT m s r).bind _ = _
    rw [i2, Option.bind_some]
    show (blind_Element.f (secT nm l)).bind _ = _
    rw [sec_elem s1, Option.bind_some]
    exact sec_above s1 s2
theorem root_sec {nm : Int → List UInt8} {S : Tr} (hk : S.ok) (hn : S.leavesR.Nodup) (hsm : smallT nm S) : blind_Root.f S.text ((sortZ S.leavesR).map nm) = some (secT nm S, 0) := by
  have hlen := tree_len hk hn
  have hl := sortZ_len S.leavesR
  have h8 := hsm.2
  have hpos := leavesR_pos S
  unfold blind_Root.f
  rw [given_of ⟨by omega, by rw [List.length_map]; omega⟩, members_text hk hn, if_neg (by rw [List.length_map]; omega), ofM_iff hk, if_pos hn]
  exact rootT_sec (by omega) rfl S hsm (fun p hp => (sortZ_perm _).mem_iff.2 hp)
/-! Names of their own. -/
def nmAt (first : Int) (i : Nat) : List UInt8 := countedT 110 (IntKind.u64.wrap (first + IntKind.u64.wrap (i : Int)))
theorem nmAt_ok (first : Int) (i : Nat) : full (nmAt first i) 1 ∧ (nmAt first i).length = 9 := ⟨full_name _, by simp [nmAt, countedT, bytesOf_length]⟩
theorem secrets_eq (n : Nat) (first : Int) (hn : n ≤ 1000) : gemotlaw15_secrets.f (n : Int) first = some ((List.range n).map (nmAt first)) := by
  unfold gemotlaw15_secrets.f gemotlaw15_secrets.k2
  have hL : loopM (fun s186 : (List (List UInt8)) × Int => gemotlaw15_secrets.b1 (n : Int) first s186.1 s186.2) (([] : List (List UInt8)), (0 : Int)) = some ((List.range n).map (nmAt first)) := by
    refine loop_count (fun i => ((List.range i).map (nmAt first), (i : Int))) n (fun i hi => ?_) ?_
    · show gemotlaw15_secrets.b1 (n : Int) first ((List.range i).map (nmAt first)) (i : Int) = _
      unfold gemotlaw15_secrets.b1 term_Name.f
      rw [cond_t (by omega), Option.bind_some, room_of (by simp; omega), wrap1 i (by omega), List.range_succ, List.map_append]; rfl
    · show gemotlaw15_secrets.b1 (n : Int) first ((List.range n).map (nmAt first)) (n : Int) = _
      unfold gemotlaw15_secrets.b1
      rw [cond_f (by omega)]
  rw [hL]; rfl
/-- A member's name, by its place among all. -/
def nmOf (m : List Int) (first : Int) (p : Int) : List UInt8 := nmAt first (m.idxOf p)
theorem names_map {m : List Int} (hn : m.Nodup) (first : Int) : (List.range m.length).map (nmAt first) = m.map (nmOf m first) := by
  apply List.ext_getElem
  · simp
  · intro i h1 h2
    simp only [List.getElem_map, List.getElem_range]
    unfold nmOf
    rw [hn.idxOf_getElem]
theorem nm_small {T : Tr} (hk : T.ok) (hn : T.leavesR.Nodup) (m : List Int) (first : Int) {S : Tr} {n : List UInt8} (hs : subT T n = some S) : smallT (nmOf m first) S := by
  obtain ⟨k1, k2, k3, k4⟩ := sub_ok4 hk hn hs
  exact ⟨fun p _ => nmAt_ok _ _, leaves_eight k1 k2⟩
/-! What is told of the nodes. -/
def secAt (T : Tr) (nm : Int → List UInt8) (n : List UInt8) : List UInt8 := match subT T n with
  | some S => secT nm S
  | none => []
theorem secAt_in {T S : Tr} {nm : Int → List UInt8} {n : List UInt8} (h : subT T n = some S) : secAt T nm n = secT nm S := by unfold secAt; rw [h]
def blindsM (T : Tr) (nm : Int → List UInt8) : List D_blind_Blind := ((nodesM T.text).filter fun n => decide (n ≠ [])).map fun n => (n, 101 :: 1 :: secAt T nm n)
/-- Nodes from a depth up to the root. -/
def upD (π : List UInt8) : Nat → List (List UInt8)
  | 0 => [[]]
  | d + 1 => π.take (d + 1) :: upD π d
theorem upD_map (π : List UInt8) : ∀ d, ((List.range (d + 1)).map fun j => π.take (d - j)) = upD π d
  | 0 => by simp [upD]
  | d + 1 => by
    rw [List.range_succ_eq_map, List.map_cons, List.map_map]
    show π.take (d + 1 - 0) :: _ = π.take (d + 1) :: upD π d
    rw [Nat.sub_zero, ← upD_map π d]
    congr 1
    refine List.map_congr_left fun j _ => ?_
    show π.take (d + 1 - (j + 1)) = _
    rw [Nat.add_sub_add_right]
theorem upT_upD (π : List UInt8) : upT π = upD π π.length := upD_map π π.length
theorem upD_len (π : List UInt8) : ∀ d, (upD π d).length = d + 1
  | 0 => rfl
  | d + 1 => by show (upD π d).length + 1 = _; rw [upD_len π d]
/-- What is beside them. -/
def coD (π : List UInt8) : Nat → List (List UInt8)
  | 0 => []
  | d + 1 => besideT (π.take (d + 1)) :: coD π d
theorem coD_eq (π : List UInt8) : ∀ d, (upD π d).dropLast.map besideT = coD π d
  | 0 => rfl
  | d + 1 => by
    have h : upD π d ≠ [] := by cases d <;> simp [upD]
    show ((π.take (d + 1) :: upD π d).dropLast).map besideT = _
    rw [List.dropLast_cons_of_ne_nil h, List.map_cons, coD_eq π d]
    rfl
theorem coD_len (π : List UInt8) : ∀ d, (coD π d).length = d
  | 0 => rfl
  | d + 1 => by show (coD π d).length + 1 = _; rw [coD_len π d]
/-- The secrets above a depth, as far as blinds are told. -/
def resD (T : Tr) (nm : Int → List UInt8) (l : List D_blind_Blind) (π : List UInt8) : Nat → List (List UInt8)
  | 0 => []
  | d + 1 => if besideT (π.take (d + 1)) ∈ l.map (·.1) then secAt T nm (π.take d) :: resD T nm l π d else []
theorem sib_at {T : Tr} {p : Int} {π : List UInt8} (hπ : pathL T p = some π) {d : Nat} (hd : d < π.length) : ∃ l r : Tr, subT T (π.take d) = some (.two l r) ∧ ((subT T (π.take (d + 1)) = some l ∧ subT T (besideT (π.take (d + 1))) = some r) ∨ (subT T (π.take (d + 1)) = some r ∧ subT T (besideT (π.take (d + 1))) = some l)) := by
  obtain ⟨S, hs, _⟩ := path_node hπ d
  obtain ⟨S2, hs2, _⟩ := path_node hπ (d + 1)
  have hc := (path_leafAt T p π hπ).2 π[d] (List.getElem_mem hd)
  have e : π.take (d + 1) = π.take d ++ [π[d]] := (take_snoc hd).symm
  rw [e, sub_append, hs] at hs2
  have hs2 : subT S [π[d]] = some S2 := hs2
  cases S with
  | leaf q => cases hs2
  | two l r =>
    refine ⟨l, r, hs, ?_⟩
    rw [e, besideT_snoc, sub_append, sub_append, hs]
    rcases hc with h | h
    · rw [h]
      exact .inl ⟨by show subT l [] = _; rw [subT_nil], by show subT r [] = _; rw [subT_nil]⟩
    · rw [h]
      exact .inr ⟨by show subT r [] = _; rw [subT_nil], by show subT l [] = _; rw [subT_nil]⟩
theorem climbGo_cons (l : List D_blind_Blind) (n : List UInt8) (co : List (List UInt8)) (s : List UInt8) : climbGo l (n :: co) s = if idxOf (fun b : D_blind_Blind => decide (b.1 = n)) l < 0 then some [] else (idxL l (idxOf (fun b : D_blind_Blind => decide (b.1 = n)) l)).bind fun b => (blind_Above.f s b.2).bind fun r => if r.2 ≠ 0 then some [] else (climbGo l co r.1).map (r.1 :: ·) := rfl
theorem resD_succ (T : Tr) (nm : Int → List UInt8) (l : List D_blind_Blind) (π : List UInt8) (d : Nat) : resD T nm l π (d + 1) = if besideT (π.take (d + 1)) ∈ l.map (·.1) then secAt T nm (π.take d) :: resD T nm l π d else [] := rfl
/-- Blinds that are right. -/
def rightL (T : Tr) (nm : Int → List UInt8) (l : List D_blind_Blind) : Prop := ∀ b ∈ l, b.2 = 101 :: 1 :: secAt T nm b.1
theorem climb_res {T : Tr} (hk : T.ok) (hn : T.leavesR.Nodup) {m : List Int} {first : Int} {l : List D_blind_Blind} (hl : rightL T (nmOf m first) l) {p : Int} {π : List UInt8} (hπ : pathL T p = some π) : ∀ d, d ≤ π.length →
    climbGo l (coD π d) (secAt T (nmOf m first) (π.take d)) = some (resD T (nmOf m first) l π d)
  | 0, _ => rfl
  | d + 1, hd => by
    obtain ⟨tl, tr, h1, h2⟩ := sib_at hπ (show d < π.length by omega)
    have ih := climb_res hk hn hl hπ d (by omega)
    rw [show coD π (d + 1) = besideT (π.take (d + 1)) :: coD π d from rfl, climbGo_cons, resD_succ]
    by_cases hin : besideT (π.take (d + 1)) ∈ l.map (·.1)
    · rw [if_pos hin]
      obtain ⟨b0, hb0, hb1⟩ := List.mem_map.1 hin
      obtain ⟨k, hk2⟩ : ∃ k, l.findIdx? (fun b : D_blind_Blind => decide (b.1 = besideT (π.take (d + 1)))) = some k := by
        cases hq : l.findIdx? (fun b : D_blind_Blind => decide (b.1 = besideT (π.take (d + 1)))) with
        | some k => exact ⟨k, rfl⟩
        | none =>
          have := List.findIdx?_eq_none_iff.1 hq b0 hb0
          simp [hb1] at this
      obtain ⟨hkl, hkt, _⟩ := List.findIdx?_eq_some_iff_getElem.1 hk2
      have hidx : idxOf (fun b : D_blind_Blind => decide (b.1 = besideT (π.take (d + 1)))) l = (k : Int) := by unfold idxOf; rw [hk2]
      rw [hidx, if_neg (by omega), idxL_lt hkl, Option.bind_some, hl l[k] (List.getElem_mem hkl), of_decide_eq_true hkt]
      have hab : blind_Above.f (secAt T (nmOf m first) (π.take (d + 1))) (101 :: 1 :: secAt T (nmOf m first) (besideT (π.take (d + 1)))) = some (secAt T (nmOf m first) (π.take d), 0) := by
        rw [secAt_in h1]
        rcases h2 with ⟨a, b⟩ | ⟨a, b⟩
        · rw [secAt_in a, secAt_in b, sec_above (nm_small hk hn m first b) (nm_small hk hn m first a)]
          show some (107 :: powT [secT _ tr, secT _ tl], (0 : Int)) = some (107 :: powT [secT _ tl, secT _ tr], 0)
          rw [powT_congr (List.Perm.swap _ _ _)]
        · rw [secAt_in a, secAt_in b, sec_above (nm_small hk hn m first b) (nm_small hk hn m first a)]
          rfl
      rw [hab, Option.bind_some]
      show (climbGo l (coD π d) (secAt T (nmOf m first) (π.take d))).map _ = _
      rw [ih]; rfl
    · rw [if_neg hin]
      have hidx : idxOf (fun b : D_blind_Blind => decide (b.1 = besideT (π.take (d + 1)))) l = -1 := by
        unfold idxOf
        rw [List.findIdx?_eq_none_iff.2 (fun x hx => by
          simp only [decide_eq_false_iff_not]
          exact fun e => hin (List.mem_map.2 ⟨x, hx, e⟩))]
      rw [hidx, if_pos (by omega)]
end Go.Proofs.YtfapphlhkfddoaaGreatDoor.G
