/- Nodes and paths, by the reference. -/
import Derived.Test.YtgomlcfoifkdiaaRefTree
import Derived.Test.YtgomlcfoifkdiaaPathP
namespace Go.Proofs.Ytgomlcfoifkdiaa.G
open Go.RowKit Go.Eng Go.Proofs Go.Proofs.Ytgomlcfoifkdiaa.Cut
set_option linter.unusedVariables false
set_option linter.unusedSimpArgs false

theorem two_len (l r : Tr) : 4 ≤ (Tr.two l r).text.length := by
  have h1 := text_leaves (Tr.two l r)
  have h2 := leavesR_pos l
  have h3 := leavesR_pos r
  simp only [Tr.leavesR, List.length_append] at h1
  omega
theorem subT_nil (T : Tr) : subT T [] = some T := by cases T <;> rfl
theorem at_loop (node : List UInt8) (hn : node.length ≤ 1000000000) : ∀ (k i : Nat) (S : Tr), i + k = node.length → S.ok → S.text.length ≤ 1000000 → loopM (fun s681 : (List UInt8) × Int => gemotref14_At.b3 node s681.1 s681.2) (S.text, (i : Int)) = some (match subT S (node.drop i) with
    | some X => .inl X.text
    | none => .inr ([], 8)) := by
  intro k
  induction k with
  | zero =>
    intro i S hi _ _
    refine loop_end ?_
    show gemotref14_At.b3 node S.text (i : Int) = _
    unfold gemotref14_At.b3
    rw [cond_f (by omega), List.drop_of_length_le (by omega), subT_nil]
  | succ k ih =>
    intro i S hi hok hl
    have hil : i < node.length := by omega
    have hx : idxS node (i : Int) = some (node[i].toNat : Int) := idxS_at (List.getElem?_eq_getElem hil)
    rw [List.drop_eq_getElem_cons hil]
    cases S with
    | leaf p =>
      refine loop_end ?_
      show gemotref14_At.b3 node (Tr.leaf p).text (i : Int) = _
      unfold gemotref14_At.b3
      rw [cond_t (by omega)]
      rfl
    | two l r =>
      have h4 := two_len l r
      have h1 : (((Tr.two l r).text.length : Int) == 1) = false := beq_eq_false_iff_ne.2 (by omega)
      have htl : (Tr.two l r).text.length = l.text.length + r.text.length + 2 := by simp only [Tr.text, List.length_cons, List.length_append, List.length_nil]; omega
      have hb : gemotref14_At.b3 node (Tr.two l r).text (i : Int) = if node[i] = 108 then some (.inl (l.text, ((i + 1 : Nat) : Int))) else if node[i] = 114 then some (.inl (r.text, ((i + 1 : Nat) : Int))) else some (.inr (.inr ([], 8))) := by
        unfold gemotref14_At.b3
        rw [cond_t (by omega), h1, cond_false, hx, Option.bind_some]
        by_cases c1 : node[i] = 108
        · rw [show ((node[i].toNat : Int) != (108 : Int)) = false by rw [c1]; rfl, cond_false, if_pos c1]
          unfold gemotref14_At.k2
          rw [cond_false, cond_false, cond_false, parts13 hok hl, Option.bind_some, hx, Option.bind_some, show ((node[i].toNat : Int) == (114 : Int)) = false by rw [c1]; rfl, cond_false]
          unfold gemotref14_At.k1
          rw [wrap1 i (by omega)]
        · have d1 : ((node[i].toNat : Int) == ((108 : UInt8).toNat : Int)) = false := byte_ne c1
          rw [show ((node[i].toNat : Int) != (108 : Int)) = true by show (!((node[i].toNat : Int) == ((108 : UInt8).toNat : Int))) = true; rw [d1]; rfl, cond_true, Option.bind_some, if_neg c1]
          unfold gemotref14_At.k2
          rw [cond_false, cond_true]
          by_cases c2 : node[i] = 114
          · rw [show ((node[i].toNat : Int) != (114 : Int)) = false by rw [c2]; rfl, cond_false, parts13 hok hl, Option.bind_some, hx, Option.bind_some, show ((node[i].toNat : Int) == (114 : Int)) = true by rw [c2]; rfl, cond_true, if_pos c2]
            unfold gemotref14_At.k1
            rw [wrap1 i (by omega)]
          · have d2 : ((node[i].toNat : Int) == ((114 : UInt8).toNat : Int)) = false := byte_ne c2
            rw [show ((node[i].toNat : Int) != (114 : Int)) = true by show (!((node[i].toNat : Int) == ((114 : UInt8).toNat : Int))) = true; rw [d2]; rfl, cond_true, if_neg c2]
      have hsub : subT (Tr.two l r) (node[i] :: node.drop (i + 1)) = if node[i] = 108 then subT l (node.drop (i + 1)) else if node[i] = 114 then subT r (node.drop (i + 1)) else none := rfl
      rw [hsub]
      by_cases c1 : node[i] = 108
      · rw [if_pos c1] at hb ⊢
        exact loop_step hb (ih (i + 1) l (by omega) hok.1 (by omega))
      rw [if_neg c1] at hb ⊢
      by_cases c2 : node[i] = 114
      · rw [if_pos c2] at hb ⊢
        exact loop_step hb (ih (i + 1) r (by omega) hok.2 (by omega))
      rw [if_neg c2] at hb ⊢
      exact loop_end hb
theorem at14 {s node : List UInt8} (hl : s.length ≤ 1000000) (hn : node.length ≤ 1000000000) : gemotref14_At.f s node = some (atM s node) := by
  unfold gemotref14_At.f
  rw [right13 hl, Option.bind_some]
  cases ho : ofM s with
  | none =>
    have : atM s node = ([], 1) := by unfold atM; rw [ho]
    rw [this]; rfl
  | some T =>
    obtain ⟨h1, h2⟩ := ofM_text ho
    have hL := at_loop node hn node.length 0 T (by omega) h2 (by rw [← h1]; omega)
    rw [List.drop_zero, ← h1] at hL
    show cond (!true) _ _ = _
    rw [Bool.not_true, cond_false, show loopM (fun s681 : (List UInt8) × Int => gemotref14_At.b3 node s681.1 s681.2) (s, (0 : Int)) = _ from hL, at_sub ho]
    cases subT T node <;> rfl
/-- The nodes of a depth, from the left. -/
def lev : Nat → Tr → List (List UInt8)
  | 0, _ => [[]]
  | _ + 1, .leaf _ => []
  | d + 1, .two l r => (lev d l).map (108 :: ·) ++ (lev d r).map (114 :: ·)
def levs (D : Nat) (T : Tr) : List (List UInt8) := (List.range D).flatMap fun d => lev d T
/-- The nodes right below one. -/
def kids (T : Tr) (n : List UInt8) : List (List UInt8) := match subT T n with
  | some (.two _ _) => [n ++ [108], n ++ [114]]
  | _ => []
theorem lev_kids : ∀ (d : Nat) (T : Tr), (lev d T).flatMap (kids T) = lev (d + 1) T
  | 0, T => by
    cases T with
    | leaf p => rfl
    | two l r =>
      show kids (Tr.two l r) [] ++ [] = _
      unfold kids
      rfl
  | d + 1, .leaf p => rfl
  | d + 1, .two l r => by
    have h1 : ∀ x, kids (Tr.two l r) (108 :: x) = (kids l x).map (108 :: ·) := by
      intro x
      unfold kids
      have e : subT (Tr.two l r) (108 :: x) = subT l x := rfl
      rw [e]
      cases subT l x with
      | none => rfl
      | some S => cases S <;> rfl
    have h2 : ∀ x, kids (Tr.two l r) (114 :: x) = (kids r x).map (114 :: ·) := by
      intro x
      unfold kids
      have e : subT (Tr.two l r) (114 :: x) = subT r x := rfl
      rw [e]
      cases subT r x with
      | none => rfl
      | some S => cases S <;> rfl
    show ((lev d l).map (108 :: ·) ++ (lev d r).map (114 :: ·)).flatMap (kids (Tr.two l r)) = (lev (d + 1) l).map (108 :: ·) ++ (lev (d + 1) r).map (114 :: ·)
    rw [List.flatMap_append, ← lev_kids d l, ← lev_kids d r, List.flatMap_map, List.flatMap_map, List.map_flatMap, List.map_flatMap]
    simp only [h1, h2]
theorem lev_none : ∀ (d : Nat) (T : Tr), T.leavesR.length ≤ d → lev d T = []
  | 0, T, h => by have := leavesR_pos T; omega
  | d + 1, .leaf p, _ => rfl
  | d + 1, .two l r, h => by
    have h1 := leavesR_pos l
    have h2 := leavesR_pos r
    simp only [Tr.leavesR, List.length_append] at h
    show (lev d l).map _ ++ (lev d r).map _ = _
    rw [lev_none d l (by omega), lev_none d r (by omega)]; rfl
theorem lev_len : ∀ (d : Nat) (T : Tr), (lev d T).length ≤ T.leavesR.length
  | 0, T => leavesR_pos T
  | d + 1, .leaf p => by simp [lev]
  | d + 1, .two l r => by
    have h1 := lev_len d l
    have h2 := lev_len d r
    show ((lev d l).map _ ++ (lev d r).map _).length ≤ (r.leavesR ++ l.leavesR).length
    simp only [List.length_append, List.length_map]; omega
theorem lev_mem : ∀ (d : Nat) (T : Tr), ∀ n ∈ lev d T, n.length = d ∧ (subT T n).isSome = true
  | 0, T, n, h => by rw [List.mem_singleton.1 h, subT_nil]; exact ⟨rfl, rfl⟩
  | d + 1, .leaf p, n, h => by simp [lev] at h
  | d + 1, .two l r, n, h => by
    have h : n ∈ (lev d l).map (108 :: ·) ++ (lev d r).map (114 :: ·) := h
    rcases List.mem_append.1 h with q | q
    · obtain ⟨x, hx, rfl⟩ := List.mem_map.1 q
      have := lev_mem d l x hx
      exact ⟨by rw [List.length_cons, this.1], this.2⟩
    · obtain ⟨x, hx, rfl⟩ := List.mem_map.1 q
      have := lev_mem d r x hx
      exact ⟨by rw [List.length_cons, this.1], this.2⟩
theorem levs_succ (D : Nat) (T : Tr) : levs (D + 1) T = levs D T ++ lev D T := by
  unfold levs
  rw [List.range_succ, List.flatMap_append]; simp
theorem levs_len (D : Nat) (T : Tr) : (levs D T).length ≤ D * T.leavesR.length := by
  induction D with
  | zero => simp [levs]
  | succ D ih => rw [levs_succ, List.length_append, Nat.succ_mul]; have := lev_len D T; omega
/-- One round: the nodes below one go behind all. -/
theorem nodes_round {s : List UInt8} {T : Tr} (ho : ofM s = some T) {out : List (List UInt8)} {i : Nat} {n : List UInt8} (hi : out[i]? = some n) (hol : out.length ≤ 1000) (hn : n.length ≤ 100) (hs : (subT T n).isSome = true) :
    gemotref14_Nodes.b2 s out (i : Int) = some (.inl (out ++ kids T n, ((i + 1 : Nat) : Int))) := by
  have hs22 := ofM_short ho
  obtain ⟨hil, hie⟩ := List.getElem?_eq_some_iff.1 hi
  have hx : idxL out (i : Int) = some n := by rw [idxL_nat, hi]
  unfold gemotref14_Nodes.b2
  rw [cond_t (by omega), hx, Option.bind_some, at14 (by omega) (by omega), Option.bind_some, at_sub ho]
  unfold kids
  cases hq : subT T n with
  | none => rw [hq] at hs; cases hs
  | some S =>
    cases S with
    | leaf p =>
      simp only
      rw [cond_f (by show ¬ (((Tr.leaf p).text.length : Int) > 1); simp [Tr.text])]
      unfold gemotref14_Nodes.k1
      rw [wrap1 i (by omega), List.append_nil]
    | two l r =>
      have := two_len l r
      simp only
      rw [cond_t (by omega), Option.bind_some, room_of (by simp; omega), Option.bind_some, room_of (by simp; omega), room_of (by simp; omega)]
      unfold gemotref14_Nodes.k1
      rw [wrap1 i (by omega)]
theorem nodes_level {s : List UInt8} {T : Tr} (ho : ofM s = some T) : ∀ (B A C : List (List UInt8)) (o : List (List UInt8)), (∀ n ∈ B, n.length ≤ 100 ∧ (subT T n).isSome = true) → (A ++ B ++ C).length + (B.flatMap (kids T)).length ≤ 1000 →
    loopM (fun s573 : (List (List UInt8)) × Int => gemotref14_Nodes.b2 s s573.1 s573.2) (A ++ B ++ C ++ B.flatMap (kids T), (((A ++ B).length : Nat) : Int)) = some o → loopM (fun s573 : (List (List UInt8)) × Int => gemotref14_Nodes.b2 s s573.1 s573.2) (A ++ B ++ C, (A.length : Int)) = some o
  | [], A, C, o, _, _, h => by simpa using h
  | n :: B, A, C, o, hB, hl, h => by
    have hn := hB n List.mem_cons_self
    have hi : (A ++ n :: B ++ C)[A.length]? = some n := by simp
    have hlen : (A ++ n :: B ++ C).length ≤ 1000 := by omega
    refine loop_step (nodes_round ho hi hlen hn.1 hn.2) ?_
    have e1 : A ++ n :: B ++ C ++ kids T n = (A ++ [n]) ++ B ++ (C ++ kids T n) := by simp
    have e2 : ((A.length + 1 : Nat) : Int) = (((A ++ [n]).length : Nat) : Int) := by simp
    rw [e1, e2]
    refine nodes_level ho B (A ++ [n]) (C ++ kids T n) o (fun x hx => hB x (List.mem_cons_of_mem _ hx)) ?_ ?_
    · simp only [List.length_append, List.length_cons, List.length_nil, List.flatMap_cons] at hl ⊢
      omega
    · have e3 : (A ++ [n]) ++ B ++ (C ++ kids T n) ++ B.flatMap (kids T) = A ++ n :: B ++ C ++ (n :: B).flatMap (kids T) := by simp
      have e4 : ((A ++ [n]) ++ B).length = (A ++ n :: B).length := by simp
      rw [e3, e4]
      exact h
theorem nodes_all {s : List UInt8} {T : Tr} (ho : ofM s = some T) : ∀ (k d : Nat), d + k = T.leavesR.length → loopM (fun s573 : (List (List UInt8)) × Int => gemotref14_Nodes.b2 s s573.1 s573.2) (levs (d + 1) T, (((levs d T).length : Nat) : Int)) = some (levs (T.leavesR.length + 1) T) := by
  have h8 := leaves_le (ofM_text ho).2 (ofM_nodup ho)
  intro k
  induction k with
  | zero =>
    intro d hd
    have hd : d = T.leavesR.length := by omega
    have he : levs (d + 1) T = levs d T := by rw [levs_succ, lev_none d T (by omega), List.append_nil]
    rw [← hd]
    refine loop_end ?_
    show gemotref14_Nodes.b2 s (levs (d + 1) T) (((levs d T).length : Nat) : Int) = _
    unfold gemotref14_Nodes.b2
    rw [he, cond_f (by omega)]
  | succ k ih =>
    intro d hd
    have h1 := levs_len d T
    have h2 := lev_len d T
    have h3 := lev_len (d + 1) T
    have hb : d * T.leavesR.length ≤ 8 * 8 := Nat.mul_le_mul (by omega) h8
    have ih := ih (d + 1) (by omega)
    rw [levs_succ] at ih ⊢
    have hlv := nodes_level ho (lev d T) (levs d T) [] (levs (T.leavesR.length + 1) T) (fun n hn => by have := lev_mem d T n hn; exact ⟨by omega, this.2⟩) (by rw [lev_kids]; simp only [List.length_append, List.length_nil]; omega)
    rw [List.append_nil, lev_kids] at hlv
    refine hlv ?_
    rw [← levs_succ]
    exact ih
theorem nodes14 {s : List UInt8} (hl : s.length ≤ 1000000) : gemotref14_Nodes.f s = some (match ofM s with
    | some T => levs (T.leavesR.length + 1) T
    | none => []) := by
  unfold gemotref14_Nodes.f
  rw [right13 hl, Option.bind_some]
  cases ho : ofM s with
  | none => rfl
  | some T =>
    have h := nodes_all ho T.leavesR.length 0 (by omega)
    show cond (!true) _ _ = _
    rw [Bool.not_true, cond_false, show loopM (fun s573 : (List (List UInt8)) × Int => gemotref14_Nodes.b2 s s573.1 s573.2) (([([] : List UInt8)] : List (List UInt8)), (0 : Int)) = _ from h]
    rfl
end Go.Proofs.Ytgomlcfoifkdiaa.G
