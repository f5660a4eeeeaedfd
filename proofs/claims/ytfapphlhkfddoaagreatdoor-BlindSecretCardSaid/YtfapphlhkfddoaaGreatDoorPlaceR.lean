/- Paths and nodes: what the program reckons, on trees. -/
import Derived.Test.YtfapphlhkfddoaaGreatDoorHK2
import Derived.Test.YtfapphlhkfddoaaGreatDoorPureKit
namespace Go.Proofs.YtfapphlhkfddoaaGreatDoor.G
open Go.RowKit Go.Eng Go.Proofs Go.Proofs.YtfapphlhkfddoaaGreatDoor.Cut Go.Sort
set_option linter.unusedVariables false
set_option linter.unusedSimpArgs false
theorem text_leaves : ∀ T : Tr, T.text.length + 2 = 3 * T.leavesR.length := by
  intro T
  induction T with
  | leaf p => rfl
  | two l r ihl ihr =>
    simp only [Tr.text, Tr.leavesR, List.length_cons, List.length_append, List.length_nil] at *
    omega
theorem leaves_le {T : Tr} (hok : T.ok) (hn : T.leavesR.Nodup) : T.leavesR.length ≤ 8 := by
  have hr : ∀ T : Tr, T.ok → ∀ x ∈ T.leavesR, 0 < x ∧ x ≤ 8 := by
    intro T
    induction T with
    | leaf p => intro h x hx; rw [List.mem_singleton.1 hx]; have h : 1 ≤ p ∧ p ≤ 8 := h; omega
    | two l r ihl ihr =>
      intro h x hx
      rcases List.mem_append.1 hx with q | q
      · exact ihr h.2 x q
      · exact ihl h.1 x q
  have hb : rowB (sortZ T.leavesR) = true := (rowB_sort _).2 ⟨fun e => by have := leavesR_pos T; rw [e] at this; simp at this, hr T hok, hn⟩
  obtain ⟨_, h1, h2⟩ := (rowB_iff _).1 hb
  rw [← sortZ_len]
  apply Classical.byContradiction
  intro hgt
  have hp := List.pairwise_iff_getElem.1 h2
  have h8 : ∀ k (hk : k < (sortZ T.leavesR).length), (k : Int) + 1 ≤ (sortZ T.leavesR)[k] := by
    intro k
    induction k with
    | zero => intro hk; have := (h1 _ (List.getElem_mem hk)).1; omega
    | succ k ih => intro hk; have := ih (by omega); have := hp k (k + 1) (by omega) hk (by omega); omega
  have := h8 8 (by omega)
  have := (h1 _ (List.getElem_mem (show 8 < (sortZ T.leavesR).length by omega))).2
  omega
theorem ofM_short {s : List UInt8} {T : Tr} (h : ofM s = some T) : s.length ≤ 22 := by
  obtain ⟨h1, h2⟩ := ofM_text h
  have := leaves_le h2 (ofM_nodup h)
  have := text_leaves T
  rw [h1]; omega
theorem sortZ_is {xs ys : List Int} (h : xs.Perm ys) (hp : ys.Pairwise (· ≤ ·)) : sortZ xs = ys :=
  List.Perm.eq_of_pairwise (le := fun a b : Int => a ≤ b) (fun a b _ _ h1 h2 => Int.le_antisymm h1 h2) (sortZ_le xs) hp ((sortZ_perm xs).trans h)
theorem two_len (l r : Tr) : 4 ≤ (Tr.two l r).text.length := by
  have h1 := text_leaves (Tr.two l r)
  have h2 := leavesR_pos l
  have h3 := leavesR_pos r
  simp only [Tr.leavesR, List.length_append] at h1
  omega
theorem subT_nil (T : Tr) : subT T [] = some T := by cases T <;> rfl
/-- The nodes of a depth, from the left. -/
def lev : Nat → Tr → List (List UInt8)
  | 0, _ => [[]]
  | _ + 1, .leaf _ => []
  | d + 1, .two l r => (lev d l).map (108 :: ·) ++ (lev d r).map (114 :: ·)
def levs (D : Nat) (T : Tr) : List (List UInt8) := (List.range D).flatMap fun d => lev d T
theorem lev_none : ∀ (d : Nat) (T : Tr), T.leavesR.length ≤ d → lev d T = []
  | 0, T, h => by have := leavesR_pos T; omega
  | d + 1, .leaf p, _ => rfl
  | d + 1, .two l r, h => by
    have h1 := leavesR_pos l
    have h2 := leavesR_pos r
    simp only [Tr.leavesR, List.length_append] at h
    show (lev d l).map _ ++ (lev d r).map _ = _
    rw [lev_none d l (by omega), lev_none d r (by omega)]; rfl
theorem lev_len : ∀ (d : Nat) (T : Tr), (lev d T).length ≤ T.leavesR.length
  | 0, T => leavesR_pos T
  | d + 1, .leaf p => by simp [lev]
  | d + 1, .two l r => by
    have h1 := lev_len d l
    have h2 := lev_len d r
    show ((lev d l).map _ ++ (lev d r).map _).length ≤ (r.leavesR ++ l.leavesR).length
    simp only [List.length_append, List.length_map]; omega
theorem lev_mem : ∀ (d : Nat) (T : Tr), ∀ n ∈ lev d T, n.length = d ∧ (subT T n).isSome = true
  | 0, T, n, h => by rw [List.mem_singleton.1 h, subT_nil]; exact ⟨rfl, rfl⟩
  | d + 1, .leaf p, n, h => by simp [lev] at h
  | d + 1, .two l r, n, h => by
    have h : n ∈ (lev d l).map (108 :: ·) ++ (lev d r).map (114 :: ·) := h
    rcases List.mem_append.1 h with q | q
    · obtain ⟨x, hx, rfl⟩ := List.mem_map.1 q
      have := lev_mem d l x hx
      exact ⟨by rw [List.length_cons, this.1], this.2⟩
    · obtain ⟨x, hx, rfl⟩ := List.mem_map.1 q
      have := lev_mem d r x hx
      exact ⟨by rw [List.length_cons, this.1], this.2⟩
theorem levs_succ (D : Nat) (T : Tr) : levs (D + 1) T = levs D T ++ lev D T := by
  unfold levs
  rw [List.range_succ, List.flatMap_append]; simp
theorem levs_len (D : Nat) (T : Tr) : (levs D T).length ≤ D * T.leavesR.length := by
  induction D with
  | zero => simp [levs]
  | succ D ih => rw [levs_succ, List.length_append, Nat.succ_mul]; have := lev_len D T; omega
/-- The way to a process's leaf. -/
def pathL : Tr → Int → Option (List UInt8)
  | .leaf q, p => if q = p then some [] else none
  | .two l r, p => match pathL l p with
    | some x => some (108 :: x)
    | none => (pathL r p).map (114 :: ·)
theorem pathL_two (l r : Tr) (p : Int) : pathL (.two l r) p = match pathL l p with
    | some x => some (108 :: x)
    | none => (pathL r p).map (114 :: ·) := rfl
theorem pathL_leaf (q p : Int) : pathL (.leaf q) p = if q = p then some [] else none := rfl
theorem leavesR_two (l r : Tr) : (Tr.two l r).leavesR = r.leavesR ++ l.leavesR := rfl
theorem pathL_some : ∀ (T : Tr) (p : Int), (pathL T p).isSome = decide (p ∈ T.leavesR)
  | .leaf q, p => by
    rw [pathL_leaf]
    unfold Tr.leavesR
    by_cases h : q = p
    · rw [if_pos h, h]; simp
    · rw [if_neg h]; simp; exact fun e => h e.symm
  | .two l r, p => by
    have h1 := pathL_some l p
    have h2 := pathL_some r p
    rw [pathL_two, leavesR_two]
    cases hl : pathL l p with
    | some x =>
      rw [hl] at h1
      have : p ∈ l.leavesR := by simpa using h1.symm
      simp [this]
    | none =>
      rw [hl] at h1
      have : p ∉ l.leavesR := by simpa using h1.symm
      simp [this, h2]
theorem pathL_len : ∀ (T : Tr) (p : Int) (π : List UInt8), pathL T p = some π → π.length < T.leavesR.length
  | .leaf q, p, π, h => by
    unfold pathL at h
    split at h
    · cases h; simp [Tr.leavesR]
    · cases h
  | .two l r, p, π, h => by
    have h1 := leavesR_pos l
    have h2 := leavesR_pos r
    rw [pathL_two] at h
    simp only [Tr.leavesR, List.length_append]
    cases hl : pathL l p with
    | some x =>
      rw [hl] at h
      cases h
      have := pathL_len l p x hl
      simp only [List.length_cons]; omega
    | none =>
      rw [hl] at h
      obtain ⟨y, hy, rfl⟩ : ∃ y, pathL r p = some y ∧ 114 :: y = π := by
        cases hr : pathL r p with
        | none => rw [hr] at h; cases h
        | some y => rw [hr] at h; exact ⟨y, rfl, Option.some.inj h⟩
      have := pathL_len r p y hy
      simp only [List.length_cons]; omega
/-- The path of a process: by the way to its leaf. -/
theorem nodes_find : ∀ (T : Tr) (pre : List UInt8) (p : Int), T.ok → T.leavesR.Nodup → (nodesT pre T).find? (fun x => decide (membersM x.2 = [p])) = (pathL T p).map fun π => (pre ++ π, (Tr.leaf p).text)
  | .leaf q, pre, p, hok, hn => by
    have hm : membersM (Tr.leaf q).text = [q] := by
      unfold membersM
      rw [ofM_iff hok, if_pos hn]
      show sortZ [q] = [q]
      simp [sortZ]
    show [(pre, (Tr.leaf q).text)].find? _ = _
    unfold pathL
    by_cases h : q = p
    · rw [if_pos h, ← h]; simp [List.find?_cons, hm]
    · rw [if_neg h]; simp [List.find?_cons, hm, h]
  | .two l r, pre, p, hok, hn => by
    obtain ⟨hnr, hnl, hd⟩ := List.nodup_append.1 (show (r.leavesR ++ l.leavesR).Nodup from hn)
    have hm : membersM (Tr.two l r).text ≠ [p] := by
      intro e
      have e2 := congrArg List.length e
      have h1 := leavesR_pos l
      have h2 := leavesR_pos r
      unfold membersM at e2
      rw [ofM_iff hok, if_pos hn] at e2
      simp only [sortZ_len, Tr.leavesR, List.length_append, List.length_cons, List.length_nil] at e2
      omega
    rw [show nodesT pre (Tr.two l r) = (pre, (Tr.two l r).text) :: (nodesT (pre ++ [108]) l ++ nodesT (pre ++ [114]) r) from rfl, List.find?_cons]
    rw [show decide (membersM ((pre, (Tr.two l r).text) : List UInt8 × List UInt8).2 = [p]) = false from decide_eq_false hm, List.find?_append, nodes_find l (pre ++ [108]) p hok.1 hnl, nodes_find r (pre ++ [114]) p hok.2 hnr]
    have e : pathL (Tr.two l r) p = match pathL l p with
      | some x => some (108 :: x)
      | none => (pathL r p).map (114 :: ·) := rfl
    rw [e]
    cases pathL l p with
    | some x => simp
    | none => cases pathL r p <;> simp
theorem pathM_eq {s : List UInt8} {T : Tr} (ho : ofM s = some T) (p : Int) : pathM s p = match pathL T p with
    | some π => upT π
    | none => [] := by
  unfold pathM
  rw [ho]
  simp only
  rw [nodes_find T [] p (ofM_text ho).2 (ofM_nodup ho)]
  cases pathL T p <;> rfl
def besideT (n : List UInt8) : List UInt8 := match n.reverse with
  | [] => []
  | c :: q => q.reverse ++ [if c = 108 then 114 else 108]
theorem besideT_snoc (q : List UInt8) (c : UInt8) : besideT (q ++ [c]) = q ++ [if c = 108 then 114 else 108] := by
  unfold besideT
  rw [List.reverse_append]
  show q.reverse.reverse ++ _ = _
  rw [List.reverse_reverse]
theorem snoc_cut (q : List UInt8) (c : UInt8) (hl : (q ++ [c]).length ≤ 1000000000) : IntKind.i64.wrap (((q ++ [c]).length : Int) - (1 : Int)) = (q.length : Int) ∧ slcM (q ++ [c]) (0 : Int) (q.length : Int) = some q ∧ idxS (q ++ [c]) (q.length : Int) = some (c.toNat : Int) := by
  rw [List.length_append] at hl
  simp only [List.length_cons, List.length_nil] at hl
  refine ⟨?_, ?_, idxS_at (by simp)⟩
  · rw [List.length_append]; simp only [List.length_cons, List.length_nil]; rw [Eng.i64_id (by omega) (by omega)]; omega
  · have := slc_lt (xs := q ++ [c]) (a := 0) (b := q.length) (by omega) (by simp)
    simpa using this
theorem beside_eq {n : List UInt8} (hl : n.length ≤ 1000000000) : place_Beside.f n = some (besideT n) := by
  unfold place_Beside.f
  rcases List.eq_nil_or_concat n with rfl | ⟨q, c, rfl⟩
  · rw [strEq_eq, decide_eq_true rfl]; rfl
  rw [List.concat_eq_append] at hl ⊢
  obtain ⟨h1, h2, h3⟩ := snoc_cut q c hl
  rw [besideT_snoc, strEq_eq, cond_f (by simp), h1, h2, h3, Option.bind_some, Option.bind_some]
  rw [List.length_append] at hl
  by_cases hc : c = 108
  · rw [show ((c.toNat : Int) == (108 : Int)) = true by rw [hc]; rfl, cond_true, room_of (by simp; omega), if_pos hc]
  · rw [show ((c.toNat : Int) == (108 : Int)) = false from byte_ne (k := 108) hc, cond_false, room_of (by simp; omega), if_neg hc]
def coM (s : List UInt8) (p : Int) : List (List UInt8) := (pathM s p).dropLast.map besideT
theorem upT_cut (n : List UInt8) : ∃ a, upT n = a ++ [[]] ∧ (∀ x ∈ a, x ≠ []) ∧ (∀ x ∈ upT n, x.length ≤ n.length) ∧ a.length = n.length := by
  refine ⟨(List.range n.length).map fun j => n.take (n.length - j), ?_, ?_, ?_, by simp⟩
  · unfold upT
    rw [List.range_succ, List.map_append]; simp
  · intro x hx
    obtain ⟨j, hj, rfl⟩ := List.mem_map.1 hx
    rw [List.mem_range] at hj
    intro e
    have := congrArg List.length e
    rw [List.length_take] at this
    simp only [List.length_nil] at this
    omega
  · intro x hx
    unfold upT at hx
    obtain ⟨j, hj, rfl⟩ := List.mem_map.1 hx
    rw [List.length_take]; omega
/-- A path is empty, or ends at the root, and nowhere else. -/
theorem path_cut (s : List UInt8) (p : Int) : pathM s p = [] ∨ ∃ a, pathM s p = a ++ [[]] ∧ (∀ x ∈ a, x ≠ []) ∧ (∀ x ∈ pathM s p, x.length ≤ 8) ∧ a.length ≤ 8 := by
  cases ho : ofM s with
  | none => left; unfold pathM; rw [ho]
  | some T =>
    have h8 := leaves_le (ofM_text ho).2 (ofM_nodup ho)
    have hp := pathM_eq ho p
    cases hq : pathL T p with
    | none => rw [hq] at hp; exact .inl hp
    | some π =>
      rw [hq] at hp
      right
      have := pathL_len T p π hq
      obtain ⟨a, h1, h2, h3, h4⟩ := upT_cut π
      rw [hp]
      exact ⟨a, h1, h2, fun x hx => by have := h3 x hx; omega, by omega⟩
theorem co_loop {path : List (List UInt8)} (hl : path.length ≤ 1000) (hx : ∀ x ∈ path, x.length ≤ 1000) : ∀ k i out, i + k = path.length → out.length ≤ i → loopM (fun s480 : (List (List UInt8)) × Int => place_Co.b2 path s480.1 s480.2) (out, (i : Int)) = some (out ++ ((path.drop i).filter fun n => decide (n ≠ [])).map besideT) := by
  intro k
  induction k with
  | zero =>
    intro i out hi _
    refine loop_end ?_
    show place_Co.b2 path out (i : Int) = _
    unfold place_Co.b2
    rw [cond_f (by omega), List.drop_of_length_le (by omega)]; simp
  | succ k ih =>
    intro i out hi ho
    have hil : i < path.length := by omega
    rw [List.drop_eq_getElem_cons hil, List.filter_cons]
    have hlen := hx path[i] (List.getElem_mem hil)
    by_cases hn : path[i] = []
    · rw [if_neg (by simpa using hn)]
      refine loop_step ?_ (ih (i + 1) out (by omega) (by omega))
      show place_Co.b2 path out (i : Int) = _
      unfold place_Co.b2
      rw [cond_t (by omega), idxL_lt hil, Option.bind_some, strEq_eq, decide_eq_true hn]
      show place_Co.k1 path (i : Int) out = _
      unfold place_Co.k1
      rw [wrap1 i (by omega)]
    · rw [if_pos (by simpa using hn), List.map_cons]
      have := ih (i + 1) (out ++ [besideT path[i]]) (by omega) (by rw [List.length_append]; simp only [List.length_cons, List.length_nil]; omega)
      rw [List.append_assoc] at this
      refine loop_step ?_ this
      show place_Co.b2 path out (i : Int) = _
      unfold place_Co.b2
      rw [cond_t (by omega), idxL_lt hil, Option.bind_some, strEq_eq, decide_eq_false hn]
      show (place_Beside.f path[i]).bind _ = _
      rw [beside_eq (by omega), Option.bind_some, room_of (by omega)]
      unfold place_Co.k1
      rw [wrap1 i (by omega)]
theorem co_eq {s : List UInt8} {p : Int} (hl : s.length ≤ 900000) : place_Co.f s p = some (coM s p) := by
  unfold place_Co.f place_Path.f
  rw [given_of hl, Option.bind_some]
  unfold coM
  rcases path_cut s p with h | ⟨a, h1, h2, h3, h4⟩
  · rw [h]
    have hL : loopM (fun s480 : (List (List UInt8)) × Int => place_Co.b2 [] s480.1 s480.2) (([] : List (List UInt8)), (0 : Int)) = some [] := by
      refine loop_end ?_
      show place_Co.b2 [] [] ((0 : Nat) : Int) = _
      unfold place_Co.b2
      rw [cond_f (by simp)]
    rw [hL]; rfl
  · have hpl : (pathM s p).length ≤ 9 := by rw [h1]; simp; omega
    have hL := co_loop (path := pathM s p) (by omega) (fun x hx => by have := h3 x hx; omega) (pathM s p).length 0 [] (by omega) (by simp)
    rw [show loopM (fun s480 : (List (List UInt8)) × Int => place_Co.b2 (pathM s p) s480.1 s480.2) (([] : List (List UInt8)), (0 : Int)) = _ from hL, List.nil_append, List.drop_zero]
    show some _ = some _
    rw [h1, List.dropLast_concat, List.filter_append, List.filter_eq_self.2 (fun x hx => by simpa using h2 x hx)]
    simp
theorem sortF_le (l : List (List UInt8)) : (sortF l).Pairwise fun a b => ltF b a = false := by
  have h := List.pairwise_mergeSort (le := fun x y => !(ltF y x)) (by
    intro a b c h1 h2
    simp only [Bool.not_eq_true'] at *
    exact swoF.ntrans c b a h2 h1) (by
    intro a b
    by_cases h : ltF b a = true
    · have : ltF a b = false := by
        cases hq : ltF a b with
        | false => rfl
        | true => exact absurd (swoF.trans a b a hq h) (by rw [swoF.irrefl]; simp)
      rw [this]; simp
    · rw [Bool.not_eq_true] at h; rw [h]; simp) l
  exact h.imp (by intro a b h; simpa using h)
theorem sortF_is {xs ys : List (List UInt8)} (h : xs.Perm ys) (hp : ys.Pairwise fun a b => ltF b a = false) : sortF xs = ys :=
  List.Perm.eq_of_pairwise (le := fun a b => ltF b a = false) (fun a b _ _ h1 h2 => totF a b h2 h1) (sortF_le xs) hp ((sortF_perm xs).trans h)
theorem lev_sorted : ∀ (d : Nat) (T : Tr), (lev d T).Pairwise fun a b => a < b
  | 0, T => List.pairwise_singleton _ _
  | d + 1, .leaf p => List.Pairwise.nil
  | d + 1, .two l r => by
    show ((lev d l).map (108 :: ·) ++ (lev d r).map (114 :: ·)).Pairwise _
    rw [List.pairwise_append]
    refine ⟨List.pairwise_map.2 ((lev_sorted d l).imp fun h => List.cons_lt_cons_iff.2 (.inr ⟨rfl, h⟩)), List.pairwise_map.2 ((lev_sorted d r).imp fun h => List.cons_lt_cons_iff.2 (.inr ⟨rfl, h⟩)), fun a ha b hb => ?_⟩
    obtain ⟨x, _, rfl⟩ := List.mem_map.1 ha
    obtain ⟨y, _, rfl⟩ := List.mem_map.1 hb
    exact List.cons_lt_cons_iff.2 (.inl (by decide))
theorem levs_lt (T : Tr) : ∀ D, ∀ n ∈ levs D T, n.length < D
  | 0, n, h => by simp [levs] at h
  | D + 1, n, h => by
    rw [levs_succ] at h
    rcases List.mem_append.1 h with q | q
    · have := levs_lt T D n q; omega
    · have := (lev_mem D T n q).1; omega
theorem levs_sorted (T : Tr) : ∀ D, (levs D T).Pairwise fun a b => ltF b a = false
  | 0 => by simp [levs]
  | D + 1 => by
    rw [levs_succ, List.pairwise_append]
    refine ⟨levs_sorted T D, ?_, fun a ha b hb => ?_⟩
    · have hl := lev_sorted D T
      refine List.Pairwise.imp_of_mem (fun {a b} ha hb h => ?_) hl
      have h1 := (lev_mem D T a ha).1
      have h2 := (lev_mem D T b hb).1
      rw [ltF_no]
      rintro (q | q)
      · omega
      · exact List.lt_irrefl _ (List.lt_trans h q.2)
    · have h1 := levs_lt T D a ha
      have h2 := (lev_mem D T b hb).1
      rw [ltF_no]
      rintro (q | q) <;> omega
theorem nodes_names : ∀ (T : Tr) (pre : List UInt8), (nodesT pre T).map (·.1) = ((nodesT [] T).map (·.1)).map (pre ++ ·)
  | .leaf p, pre => by simp [nodesT]
  | .two l r, pre => by
    have h1 := nodes_names l (pre ++ [108])
    have h2 := nodes_names r (pre ++ [114])
    have h3 := nodes_names l ([] ++ [108])
    have h4 := nodes_names r ([] ++ [114])
    simp only [nodesT, List.map_cons, List.map_append, h1, h2, h3, h4]
    simp [List.map_map, Function.comp_def, List.append_assoc]
theorem levs_two (l r : Tr) : ∀ D, (levs (D + 1) (.two l r)).Perm ([] :: ((levs D l).map (108 :: ·) ++ (levs D r).map (114 :: ·)))
  | 0 => by simp [levs, lev]
  | D + 1 => by
    rw [levs_succ (D + 1) (.two l r), levs_succ D l, levs_succ D r]
    refine ((levs_two l r D).append_right _).trans ?_
    show ([] :: ((levs D l).map (108 :: ·) ++ (levs D r).map (114 :: ·) ++ ((lev D l).map (108 :: ·) ++ (lev D r).map (114 :: ·)))).Perm _
    refine List.Perm.cons _ ?_
    rw [List.map_append, List.map_append, List.append_assoc, List.append_assoc]
    refine List.Perm.append_left _ ?_
    rw [← List.append_assoc, ← List.append_assoc]
    exact List.Perm.append_right _ List.perm_append_comm
theorem levs_more (T : Tr) : ∀ k, levs (T.leavesR.length + k) T = levs T.leavesR.length T
  | 0 => rfl
  | k + 1 => by
    rw [show T.leavesR.length + (k + 1) = (T.leavesR.length + k) + 1 by omega, levs_succ, levs_more T k, lev_none _ T (by omega), List.append_nil]
theorem nodes_levs : ∀ (T : Tr), ((nodesT [] T).map (·.1)).Perm (levs T.leavesR.length T)
  | .leaf p => by simp [nodesT, levs, lev, Tr.leavesR]
  | .two l r => by
    have hl := leavesR_pos l
    have hr := leavesR_pos r
    have e : (Tr.two l r).leavesR.length = r.leavesR.length + l.leavesR.length := by simp [Tr.leavesR]
    obtain ⟨k1, hk1⟩ : ∃ k, r.leavesR.length + l.leavesR.length = (l.leavesR.length + k) + 1 := ⟨r.leavesR.length - 1, by omega⟩
    obtain ⟨k2, hk2⟩ : ∃ k, l.leavesR.length + k1 = r.leavesR.length + k := ⟨l.leavesR.length - 1, by omega⟩
    rw [e, hk1]
    refine List.Perm.trans ?_ (levs_two l r _).symm
    rw [levs_more l k1, hk2, levs_more r k2]
    show ([] :: ((nodesT ([] ++ [108]) l ++ nodesT ([] ++ [114]) r).map (·.1))).Perm _
    refine List.Perm.cons _ ?_
    rw [List.map_append, nodes_names l, nodes_names r]
    exact ((nodes_levs l).map _).append ((nodes_levs r).map _)
theorem nodesM_eq {s : List UInt8} {T : Tr} (ho : ofM s = some T) : nodesM s = levs (T.leavesR.length + 1) T := by
  unfold nodesM
  rw [ho, levs_more T 1]
  exact sortF_is (nodes_levs T) (levs_sorted T _)
theorem members_text {S : Tr} (hok : S.ok) (hn : S.leavesR.Nodup) : membersM S.text = sortZ S.leavesR := by
  unfold membersM
  rw [ofM_iff hok, if_pos hn]
theorem sort_head {xs : List Int} (h : 0 < xs.length) : idxL (sortZ xs) (0 : Int) = some ((sortZ xs).headD 0) := by
  have hl := sortZ_len xs
  cases hs : sortZ xs with
  | nil => rw [hs] at hl; simp only [List.length_nil] at hl; omega
  | cons a r => rfl
theorem at_none {s : List UInt8} (h : ofM s = none) (n : List UInt8) : atM s n = ([], 1) := by unfold atM; rw [h]
theorem path_len9 (s : List UInt8) (p : Int) : (pathM s p).length ≤ 9 := by
  rcases path_cut s p with h | ⟨a, h1, h2, h3, h4⟩
  · rw [h]; simp
  · rw [h1]; simp; omega
theorem nodesM_len (s : List UInt8) : (nodesM s).length ≤ 1000 := by
  cases ho : ofM s with
  | none => unfold nodesM; rw [ho]; simp
  | some T =>
    rw [nodesM_eq ho]
    have h8 := leaves_le (ofM_text ho).2 (ofM_nodup ho)
    have := levs_len (T.leavesR.length + 1) T
    have hb : (T.leavesR.length + 1) * T.leavesR.length ≤ 9 * 8 := Nat.mul_le_mul (by omega) h8
    omega
end Go.Proofs.YtfapphlhkfddoaaGreatDoor.G
