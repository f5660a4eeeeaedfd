/- What is beside a path, and the secrets to which one climbs: the same to both. -/
import Derived.Test.YtgomlcfoifkdiaaGreatPathQ
import Derived.Test.YtgomlcfoifkdiaaGreatMakesL
namespace Go.Proofs.YtgomlcfoifkdiaaGreat.G
open Go.RowKit Go.Eng Go.Proofs Go.Proofs.YtgomlcfoifkdiaaGreat.Cut
set_option linter.unusedVariables false
set_option linter.unusedSimpArgs false

def besideT (n : List UInt8) : List UInt8 := match n.reverse with
  | [] => []
  | c :: q => q.reverse ++ [if c = 108 then 114 else 108]
theorem besideT_snoc (q : List UInt8) (c : UInt8) : besideT (q ++ [c]) = q ++ [if c = 108 then 114 else 108] := by
  unfold besideT
  rw [List.reverse_append]
  show q.reverse.reverse ++ _ = _
  rw [List.reverse_reverse]
theorem snoc_cut (q : List UInt8) (c : UInt8) (hl : (q ++ [c]).length ≤ 1000000000) : IntKind.i64.wrap (((q ++ [c]).length : Int) - (1 : Int)) = (q.length : Int) ∧ slcM (q ++ [c]) (0 : Int) (q.length : Int) = some q ∧ idxS (q ++ [c]) (q.length : Int) = some (c.toNat : Int) := by
  rw [List.length_append] at hl
  simp only [List.length_cons, List.length_nil] at hl
  refine ⟨?_, ?_, idxS_at (by simp)⟩
  · rw [List.length_append]; simp only [List.length_cons, List.length_nil]; rw [Eng.i64_id (by omega) (by omega)]; omega
  · have := slc_lt (xs := q ++ [c]) (a := 0) (b := q.length) (by omega) (by simp)
    simpa using this
theorem beside_eq {n : List UInt8} (hl : n.length ≤ 1000000000) : place_Beside.f n = some (besideT n) := by
  unfold place_Beside.f
  rcases List.eq_nil_or_concat n with rfl | ⟨q, c, rfl⟩
  · rw [strEq_eq, decide_eq_true rfl]; rfl
  rw [List.concat_eq_append] at hl ⊢
  obtain ⟨h1, h2, h3⟩ := snoc_cut q c hl
  rw [besideT_snoc, strEq_eq, cond_f (by simp), h1, h2, h3, Option.bind_some, Option.bind_some]
  rw [List.length_append] at hl
  by_cases hc : c = 108
  · rw [show ((c.toNat : Int) == (108 : Int)) = true by rw [hc]; rfl, cond_true, room_of (by simp; omega), if_pos hc]
  · rw [show ((c.toNat : Int) == (108 : Int)) = false from byte_ne (k := 108) hc, cond_false, room_of (by simp; omega), if_neg hc]
theorem rbeside_eq {n : List UInt8} (hl : n.length ≤ 1000000000) : gemotref14_Beside.f n = some (besideT n) := by
  unfold gemotref14_Beside.f
  rcases List.eq_nil_or_concat n with rfl | ⟨q, c, rfl⟩
  · rw [strEq_eq, decide_eq_true rfl]; rfl
  rw [List.concat_eq_append] at hl ⊢
  obtain ⟨h1, h2, h3⟩ := snoc_cut q c hl
  rw [besideT_snoc, strEq_eq, cond_f (by simp), h1, h3, Option.bind_some]
  rw [List.length_append] at hl
  by_cases hc : c = 108
  · rw [show ((c.toNat : Int) == (108 : Int)) = true by rw [hc]; rfl, cond_true, h2, Option.bind_some, room_of (by simp; omega), if_pos hc]
  · rw [show ((c.toNat : Int) == (108 : Int)) = false from byte_ne (k := 108) hc, cond_false, h2, Option.bind_some, room_of (by simp; omega), if_neg hc]
def coM (s : List UInt8) (p : Int) : List (List UInt8) := (pathM s p).dropLast.map besideT
theorem upT_cut (n : List UInt8) : ∃ a, upT n = a ++ [[]] ∧ (∀ x ∈ a, x ≠ []) ∧ (∀ x ∈ upT n, x.length ≤ n.length) ∧ a.length = n.length := by
  refine ⟨(List.range n.length).map fun j => n.take (n.length - j), ?_, ?_, ?_, by simp⟩
  · unfold upT
    rw [List.range_succ, List.map_append]; simp
  · intro x hx
    obtain ⟨j, hj, rfl⟩ := List.mem_map.1 hx
    rw [List.mem_range] at hj
    intro e
    have := congrArg List.length e
    rw [List.length_take] at this
    simp only [List.length_nil] at this
    omega
  · intro x hx
    unfold upT at hx
    obtain ⟨j, hj, rfl⟩ := List.mem_map.1 hx
    rw [List.length_take]; omega
/-- A path is empty, or ends at the root, and nowhere else. -/
theorem path_cut (s : List UInt8) (p : Int) : pathM s p = [] ∨ ∃ a, pathM s p = a ++ [[]] ∧ (∀ x ∈ a, x ≠ []) ∧ (∀ x ∈ pathM s p, x.length ≤ 8) ∧ a.length ≤ 8 := by
  cases ho : ofM s with
  | none => left; unfold pathM; rw [ho]
  | some T =>
    have h8 := leaves_le (ofM_text ho).2 (ofM_nodup ho)
    have hp := pathM_eq ho p
    cases hq : pathL T p with
    | none => rw [hq] at hp; exact .inl hp
    | some π =>
      rw [hq] at hp
      right
      have := pathL_len T p π hq
      obtain ⟨a, h1, h2, h3, h4⟩ := upT_cut π
      rw [hp]
      exact ⟨a, h1, h2, fun x hx => by have := h3 x hx; omega, by omega⟩
theorem co_loop {path : List (List UInt8)} (hl : path.length ≤ 1000) (hx : ∀ x ∈ path, x.length ≤ 1000) : ∀ k i out, i + k = path.length → out.length ≤ i → loopM (fun s480 : (List (List UInt8)) × Int => place_Co.b2 path s480.1 s480.2) (out, (i : Int)) = some (out ++ ((path.drop i).filter fun n => decide (n ≠ [])).map besideT) := by
  intro k
  induction k with
  | zero =>
    intro i out hi _
    refine loop_end ?_
    show place_Co.b2 path out (i : Int) = _
    unfold place_Co.b2
    rw [cond_f (by omega), List.drop_of_length_le (by omega)]; simp
  | succ k ih =>
    intro i out hi ho
    have hil : i < path.length := by omega
    rw [List.drop_eq_getElem_cons hil, List.filter_cons]
    have hlen := hx path[i] (List.getElem_mem hil)
    by_cases hn : path[i] = []
    · rw [if_neg (by simpa using hn)]
      refine loop_step ?_ (ih (i + 1) out (by omega) (by omega))
      show place_Co.b2 path out (i : Int) = _
      unfold place_Co.b2
      rw [cond_t (by omega), idxL_lt hil, Option.bind_some, strEq_eq, decide_eq_true hn]
      show place_Co.k1 path (i : Int) out = _
      unfold place_Co.k1
      rw [wrap1 i (by omega)]
    · rw [if_pos (by simpa using hn), List.map_cons]
      have := ih (i + 1) (out ++ [besideT path[i]]) (by omega) (by rw [List.length_append]; simp only [List.length_cons, List.length_nil]; omega)
      rw [List.append_assoc] at this
      refine loop_step ?_ this
      show place_Co.b2 path out (i : Int) = _
      unfold place_Co.b2
      rw [cond_t (by omega), idxL_lt hil, Option.bind_some, strEq_eq, decide_eq_false hn]
      show (place_Beside.f path[i]).bind _ = _
      rw [beside_eq (by omega), Option.bind_some, room_of (by omega)]
      unfold place_Co.k1
      rw [wrap1 i (by omega)]
theorem co_eq {s : List UInt8} {p : Int} (hl : s.length ≤ 900000) : place_Co.f s p = some (coM s p) := by
  unfold place_Co.f place_Path.f
  rw [given_of hl, Option.bind_some]
  unfold coM
  rcases path_cut s p with h | ⟨a, h1, h2, h3, h4⟩
  · rw [h]
    have hL : loopM (fun s480 : (List (List UInt8)) × Int => place_Co.b2 [] s480.1 s480.2) (([] : List (List UInt8)), (0 : Int)) = some [] := by
      refine loop_end ?_
      show place_Co.b2 [] [] ((0 : Nat) : Int) = _
      unfold place_Co.b2
      rw [cond_f (by simp)]
    rw [hL]; rfl
  · have hpl : (pathM s p).length ≤ 9 := by rw [h1]; simp; omega
    have hL := co_loop (path := pathM s p) (by omega) (fun x hx => by have := h3 x hx; omega) (pathM s p).length 0 [] (by omega) (by simp)
    rw [show loopM (fun s480 : (List (List UInt8)) × Int => place_Co.b2 (pathM s p) s480.1 s480.2) (([] : List (List UInt8)), (0 : Int)) = _ from hL, List.nil_append, List.drop_zero]
    show some _ = some _
    rw [h1, List.dropLast_concat, List.filter_append, List.filter_eq_self.2 (fun x hx => by simpa using h2 x hx)]
    simp
theorem rco_loop {path : List (List UInt8)} (hl : path.length ≤ 1000) (hx : ∀ x ∈ path, x.length ≤ 1000) (h0 : 0 < path.length) : ∀ k i out, i + k + 1 = path.length → out.length ≤ i → loopM (fun s240 : (List (List UInt8)) × Int => gemotref14_Co.b1 path s240.1 s240.2) (out, (i : Int)) = some (out ++ (path.dropLast.drop i).map besideT) := by
  intro k
  induction k with
  | zero =>
    intro i out hi _
    refine loop_end ?_
    show gemotref14_Co.b1 path out (i : Int) = _
    unfold gemotref14_Co.b1
    rw [wrap1 i (by omega), cond_f (by omega), List.drop_of_length_le (by rw [List.length_dropLast]; omega)]; simp
  | succ k ih =>
    intro i out hi ho
    have hil : i < path.dropLast.length := by rw [List.length_dropLast]; omega
    have hil2 : i < path.length := by omega
    have hlen := hx path[i] (List.getElem_mem hil2)
    rw [List.drop_eq_getElem_cons hil, List.map_cons, List.getElem_dropLast]
    have := ih (i + 1) (out ++ [besideT path[i]]) (by omega) (by rw [List.length_append]; simp only [List.length_cons, List.length_nil]; omega)
    rw [List.append_assoc] at this
    refine loop_step ?_ this
    show gemotref14_Co.b1 path out (i : Int) = _
    unfold gemotref14_Co.b1
    rw [wrap1 i (by omega), cond_t (by omega), idxL_lt hil2, Option.bind_some, rbeside_eq (by omega), Option.bind_some, room_of (by omega)]
theorem rco_eq {s : List UInt8} {p : Int} (hl : s.length ≤ 900000) : gemotref14_Co.f s p = some (coM s p) := by
  unfold gemotref14_Co.f
  rw [path14 (by omega), Option.bind_some]
  unfold coM
  rcases path_cut s p with h | ⟨a, h1, h2, h3, h4⟩
  · rw [h]
    have hL : loopM (fun s240 : (List (List UInt8)) × Int => gemotref14_Co.b1 [] s240.1 s240.2) (([] : List (List UInt8)), (0 : Int)) = some [] := by
      refine loop_end ?_
      show gemotref14_Co.b1 [] [] ((0 : Nat) : Int) = _
      unfold gemotref14_Co.b1
      rw [wrap1 0 (by omega)]; rfl
    rw [hL]; rfl
  · have hpl : (pathM s p).length ≤ 9 ∧ 0 < (pathM s p).length := by rw [h1]; simp; omega
    have hL := rco_loop (path := pathM s p) (by omega) (fun x hx => by have := h3 x hx; omega) hpl.2 ((pathM s p).length - 1) 0 [] (by omega) (by simp)
    rw [show loopM (fun s240 : (List (List UInt8)) × Int => gemotref14_Co.b1 (pathM s p) s240.1 s240.2) (([] : List (List UInt8)), (0 : Int)) = _ from hL]
    rfl
theorem idx_loop (l : List D_gemotref15_Blind) (co out : List (List UInt8)) (j : Nat) (n : List UInt8) (hj : co[j]? = some n) (hl : l.length ≤ 1000) : ∀ (i : Nat) (q : Int), i ≤ l.length → loopM (fun s5390 : Int × Int => gemotref15_Climb.b2 l co out (j : Int) s5390.1 s5390.2) (q, (i : Int) - 1) = some (match (l.take i).findIdx? (fun b => decide (b.1 = n)) with
    | some k => (k : Int)
    | none => q)
  | 0, q, _ => by
    refine loop_end ?_
    show gemotref15_Climb.b2 l co out (j : Int) q (((0 : Nat) : Int) - 1) = _
    unfold gemotref15_Climb.b2
    rw [cond_f (by omega)]; rfl
  | i + 1, q, hi => by
    have hil : i < l.length := by omega
    have hw : IntKind.i64.wrap ((i : Int) - (1 : Int)) = (i : Int) - 1 := Eng.i64_id (by omega) (by omega)
    have hco : idxL co (j : Int) = some n := by rw [idxL_nat, hj]
    have ih := idx_loop l co out j n hj hl i (if l[i].1 = n then (i : Int) else q) (by omega)
    have hb : gemotref15_Climb.b2 l co out (j : Int) q (((i + 1 : Nat) : Int) - 1) = some (.inl (if l[i].1 = n then (i : Int) else q, (i : Int) - 1)) := by
      unfold gemotref15_Climb.b2
      rw [show (((i + 1 : Nat) : Int) - 1) = (i : Int) by omega, cond_t (by omega), idxL_lt hil, Option.bind_some, hco, Option.bind_some, strEq_eq]
      unfold gemotref15_Climb.k1
      by_cases h : l[i].1 = n
      · rw [decide_eq_true h, cond_true, if_pos h, hw]
      · rw [decide_eq_false h, cond_false, if_neg h, hw]
    refine (loop_step hb ih).trans ?_
    congr 1
    rw [← take_snoc hil, List.findIdx?_append]
    have e : [l[i]].findIdx? (fun b => decide (b.1 = n)) = if l[i].1 = n then some 0 else none := by
      rw [List.findIdx?_cons]
      by_cases h : l[i].1 = n
      · rw [if_pos h, decide_eq_true h]; rfl
      · rw [if_neg h, decide_eq_false h]; rfl
    have hti : (l.take i).length = i := by rw [List.length_take]; omega
    rw [e, hti]
    cases (l.take i).findIdx? (fun b => decide (b.1 = n)) with
    | some k => rfl
    | none =>
      by_cases h : l[i].1 = n
      · rw [if_pos h, if_pos h]
        show (i : Int) = ((0 + i : Nat) : Int)
        omega
      · rw [if_neg h, if_neg h]; rfl
theorem climb_both (l : List D_blind_Blind) (co : List (List UInt8)) (hl : l.length ≤ 1000) (hb : ∀ b ∈ l, b.2.length ≤ 20000) (hc : co.length ≤ 1000) : ∀ (k i : Nat) (sec : List UInt8) (out : List (List UInt8)), i + k = co.length → out.length = i + 1 → out[i]? = some sec → sec.length ≤ 20000 →
    ∃ r, climbGo l (co.drop i) sec = some r ∧ ∃ z, loopM (fun s4784 : (List (List UInt8)) × Int => gemotref15_Climb.b5 l co s4784.1 s4784.2) (out, (i : Int)) = some z ∧ Sum.elim id id z = out ++ r := by
  intro k
  induction k with
  | zero =>
    intro i sec out hi ho hs hsl
    rw [List.drop_of_length_le (by omega)]
    refine ⟨[], rfl, .inl out, loop_end ?_, by simp⟩
    show gemotref15_Climb.b5 l co out (i : Int) = _
    unfold gemotref15_Climb.b5
    rw [cond_f (by omega)]
  | succ k ih =>
    intro i sec out hi ho hs hsl
    have hil : i < co.length := by omega
    have hw : IntKind.i64.wrap ((l.length : Int) - (1 : Int)) = (l.length : Int) - 1 := Eng.i64_id (by omega) (by omega)
    have hL := idx_loop l co out i co[i] (List.getElem?_eq_getElem hil) hl l.length (-1) (Nat.le_refl _)
    rw [List.take_of_length_le (Nat.le_refl _)] at hL
    have hidx : (match l.findIdx? (fun b : D_blind_Blind => decide (b.1 = co[i])) with
      | some k => (k : Int)
      | none => -1) = idxOf (fun b : D_blind_Blind => decide (b.1 = co[i])) l := rfl
    have hb5 : gemotref15_Climb.b5 l co out (i : Int) = gemotref15_Climb.k4 l co out (i : Int) (idxOf (fun b : D_blind_Blind => decide (b.1 = co[i])) l) := by
      unfold gemotref15_Climb.b5
      rw [cond_t (by omega), hw, hL, Option.bind_some]
      rfl
    rw [List.drop_eq_getElem_cons hil]
    unfold climbGo
    unfold gemotref15_Climb.k4 at hb5
    by_cases hneg : idxOf (fun b : D_blind_Blind => decide (b.1 = co[i])) l < 0
    · rw [if_pos hneg]
      rw [cond_t hneg] at hb5
      exact ⟨[], rfl, .inr out, loop_end hb5, by simp⟩
    rw [if_neg hneg]
    rw [cond_f hneg] at hb5
    have hso : idxL out (i : Int) = some sec := by rw [idxL_nat, hs]
    have hle : ∃ b, idxL l (idxOf (fun b : D_blind_Blind => decide (b.1 = co[i])) l) = some b ∧ b ∈ l := by
      unfold idxOf at hneg ⊢
      cases hf : l.findIdx? (fun b : D_blind_Blind => decide (b.1 = co[i])) with
      | none => rw [hf] at hneg; simp at hneg
      | some q =>
        have := (List.findIdx?_eq_some_iff_getElem.1 hf).1
        exact ⟨l[q], idxL_lt this, List.getElem_mem this⟩
    obtain ⟨b, hb1, hbm⟩ := hle
    obtain ⟨r, r1, r2, r3⟩ := rabove_eq (x := sec) (y := b.2) (by omega) (by have := hb b hbm; omega)
    rw [hb1, Option.bind_some, r1, Option.bind_some]
    rw [hso, Option.bind_some, hb1, Option.bind_some, r2, Option.bind_some] at hb5
    by_cases he : r.2 = 0
    · rw [if_neg (fun h => h he)]
      rw [show (r.2 != (0 : Int)) = false by simpa using he, cond_false, room_of (by omega)] at hb5
      unfold gemotref15_Climb.k3 at hb5
      rw [wrap1 i (by omega)] at hb5
      obtain ⟨q, q1, z, q2, q3⟩ := ih (i + 1) r.1 (out ++ [r.1]) (by omega) (by rw [List.length_append]; simp only [List.length_cons, List.length_nil]; omega) (by rw [List.getElem?_append_right (by omega)]; simp [ho]) r3
      rw [q1]
      exact ⟨r.1 :: q, rfl, z, loop_step hb5 q2, by rw [q3]; simp⟩
    · rw [if_pos he]
      rw [show (r.2 != (0 : Int)) = true by simpa using he, cond_true] at hb5
      exact ⟨[], rfl, .inr out, loop_end hb5, by simp⟩
theorem climb_eq {s own : List UInt8} {p : Int} {l : List D_blind_Blind} (hs : s.length ≤ 900000) (ho : own.length ≤ 20000) (hl : l.length ≤ 1000) (hb : ∀ b ∈ l, b.2.length ≤ 20000) : ∃ r, blind_Climb.f s p own l = some r ∧ gemotref15_Climb.f s p own l = some r ∧ r.length ≤ 1000 := by
  unfold blind_Climb.f gemotref15_Climb.f
  rw [co_eq hs, rco_eq hs, path14 (by omega), Option.bind_some, Option.bind_some]
  unfold place_Path.f
  rw [given_of hs, Option.bind_some, Option.bind_some]
  have hco : (coM s p).length ≤ 8 := by
    unfold coM
    rcases path_cut s p with h | ⟨a, h1, h2, h3, h4⟩
    · rw [h]; simp
    · rw [h1, List.dropLast_concat, List.length_map]; exact h4
  by_cases hp : pathM s p = []
  · rw [if_pos hp, hp]
    exact ⟨[], rfl, rfl, by simp⟩
  · rw [if_neg hp, show (((pathM s p).length : Int) == 0) = false from beq_eq_false_iff_ne.2 (by have := List.length_pos_iff.2 hp; omega), cond_false, given_of (by omega)]
    obtain ⟨r, r1, z, z1, z2⟩ := climb_both l (coM s p) hl hb (by omega) (coM s p).length 0 own [own] (by omega) rfl rfl ho
    rw [List.drop_zero] at r1
    rw [r1, show loopM (fun s4784 : (List (List UInt8)) × Int => gemotref15_Climb.b5 l (coM s p) s4784.1 s4784.2) (([own] : List (List UInt8)), (0 : Int)) = some z from z1]
    have hlen : ∀ (co : List (List UInt8)) (sec : List UInt8) (r : List (List UInt8)), climbGo l co sec = some r → r.length ≤ co.length := by
      intro co
      induction co with
      | nil => intro sec r h; cases h; simp
      | cons n co ih =>
        intro sec r h
        unfold climbGo at h
        split at h
        · cases h; simp
        · obtain ⟨b, _, h⟩ := bindS h
          obtain ⟨q, _, h⟩ := bindS h
          split at h
          · cases h; simp
          · obtain ⟨x, hx, rfl⟩ := mapS h
            have := ih _ _ hx
            simp only [List.length_cons]; omega
    have := hlen _ _ _ r1
    refine ⟨own :: r, rfl, ?_, by simp only [List.length_cons]; omega⟩
    cases z with
    | inl o => exact congrArg some z2
    | inr o => exact congrArg some z2
end Go.Proofs.YtgomlcfoifkdiaaGreat.G
