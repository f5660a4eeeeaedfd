/- What is beside a node, and beside a path: the same to both. -/
import Derived.Test.YtgomlcfoifkdiaaPathQ
namespace Go.Proofs.Ytgomlcfoifkdiaa.G
open Go.RowKit Go.Eng Go.Proofs Go.Proofs.Ytgomlcfoifkdiaa.Cut
set_option linter.unusedVariables false
set_option linter.unusedSimpArgs false
def besideT (n : List UInt8) : List UInt8 := match n.reverse with
  | [] => []
  | c :: q => q.reverse ++ [if c = 108 then 114 else 108]
theorem besideT_snoc (q : List UInt8) (c : UInt8) : besideT (q ++ [c]) = q ++ [if c = 108 then 114 else 108] := by
  unfold besideT
  rw [List.reverse_append]
  show q.reverse.reverse ++ _ = _
  rw [List.reverse_reverse]
theorem snoc_cut (q : List UInt8) (c : UInt8) (hl : (q ++ [c]).length ≤ 1000000000) : IntKind.i64.wrap (((q ++ [c]).length : Int) - (1 : Int)) = (q.length : Int) ∧ slcM (q ++ [c]) (0 : Int) (q.length : Int) = some q ∧ idxS (q ++ [c]) (q.length : Int) = some (c.toNat : Int) := by
  rw [List.length_append] at hl
  simp only [List.length_cons, List.length_nil] at hl
  refine ⟨?_, ?_, idxS_at (by simp)⟩
  · rw [List.length_append]; simp only [List.length_cons, List.length_nil]; rw [Eng.i64_id (by omega) (by omega)]; omega
  · have := slc_lt (xs := q ++ [c]) (a := 0) (b := q.length) (by omega) (by simp)
    simpa using this
theorem beside_eq {n : List UInt8} (hl : n.length ≤ 1000000000) : place_Beside.f n = some (besideT n) := by
  unfold place_Beside.f
  rcases List.eq_nil_or_concat n with rfl | ⟨q, c, rfl⟩
  · rw [strEq_eq, decide_eq_true rfl]; rfl
  rw [List.concat_eq_append] at hl ⊢
  obtain ⟨h1, h2, h3⟩ := snoc_cut q c hl
  rw [besideT_snoc, strEq_eq, cond_f (by simp), h1, h2, h3, Option.bind_some, Option.bind_some]
  rw [List.length_append] at hl
  by_cases hc : c = 108
  · rw [show ((c.toNat : Int) == (108 : Int)) = true by rw [hc]; rfl, cond_true, room_of (by simp; omega), if_pos hc]
  · rw [show ((c.toNat : Int) == (108 : Int)) = false from byte_ne (k := 108) hc, cond_false, room_of (by simp; omega), if_neg hc]
theorem rbeside_eq {n : List UInt8} (hl : n.length ≤ 1000000000) : gemotref14_Beside.f n = some (besideT n) := by
  unfold gemotref14_Beside.f
  rcases List.eq_nil_or_concat n with rfl | ⟨q, c, rfl⟩
  · rw [strEq_eq, decide_eq_true rfl]; rfl
  rw [List.concat_eq_append] at hl ⊢
  obtain ⟨h1, h2, h3⟩ := snoc_cut q c hl
  rw [besideT_snoc, strEq_eq, cond_f (by simp), h1, h3, Option.bind_some]
  rw [List.length_append] at hl
  by_cases hc : c = 108
  · rw [show ((c.toNat : Int) == (108 : Int)) = true by rw [hc]; rfl, cond_true, h2, Option.bind_some, room_of (by simp; omega), if_pos hc]
  · rw [show ((c.toNat : Int) == (108 : Int)) = false from byte_ne (k := 108) hc, cond_false, h2, Option.bind_some, room_of (by simp; omega), if_neg hc]
def coM (s : List UInt8) (p : Int) : List (List UInt8) := (pathM s p).dropLast.map besideT
theorem upT_cut (n : List UInt8) : ∃ a, upT n = a ++ [[]] ∧ (∀ x ∈ a, x ≠ []) ∧ (∀ x ∈ upT n, x.length ≤ n.length) ∧ a.length = n.length := by
  refine ⟨(List.range n.length).map fun j => n.take (n.length - j), ?_, ?_, ?_, by simp⟩
  · unfold upT
    rw [List.range_succ, List.map_append]; simp
  · intro x hx
    obtain ⟨j, hj, rfl⟩ := List.mem_map.1 hx
    rw [List.mem_range] at hj
    intro e
    have := congrArg List.length e
    rw [List.length_take] at this
    simp only [List.length_nil] at this
    omega
  · intro x hx
    unfold upT at hx
    obtain ⟨j, hj, rfl⟩ := List.mem_map.1 hx
    rw [List.length_take]; omega
/-- A path is empty, or ends at the root, and nowhere else. -/
theorem path_cut (s : List UInt8) (p : Int) : pathM s p = [] ∨ ∃ a, pathM s p = a ++ [[]] ∧ (∀ x ∈ a, x ≠ []) ∧ (∀ x ∈ pathM s p, x.length ≤ 8) ∧ a.length ≤ 8 := by
  cases ho : ofM s with
  | none => left; unfold pathM; rw [ho]
  | some T =>
    have h8 := leaves_le (ofM_text ho).2 (ofM_nodup ho)
    have hp := pathM_eq ho p
    cases hq : pathL T p with
    | none => rw [hq] at hp; exact .inl hp
    | some π =>
      rw [hq] at hp
      right
      have := pathL_len T p π hq
      obtain ⟨a, h1, h2, h3, h4⟩ := upT_cut π
      rw [hp]
      exact ⟨a, h1, h2, fun x hx => by have := h3 x hx; omega, by omega⟩
theorem co_loop {path : List (List UInt8)} (hl : path.length ≤ 1000) (hx : ∀ x ∈ path, x.length ≤ 1000) : ∀ k i out, i + k = path.length → out.length ≤ i → loopM (fun s480 : (List (List UInt8)) × Int => place_Co.b2 path s480.1 s480.2) (out, (i : Int)) = some (out ++ ((path.drop i).filter fun n => decide (n ≠ [])).map besideT) := by
  intro k
  induction k with
  | zero =>
    intro i out hi _
    refine loop_end ?_
    show place_Co.b2 path out (i : Int) = _
    unfold place_Co.b2
    rw [cond_f (by omega), List.drop_of_length_le (by omega)]; simp
  | succ k ih =>
    intro i out hi ho
    have hil : i < path.length := by omega
    rw [List.drop_eq_getElem_cons hil, List.filter_cons]
    have hlen := hx path[i] (List.getElem_mem hil)
    by_cases hn : path[i] = []
    · rw [if_neg (by simpa using hn)]
      refine loop_step ?_ (ih (i + 1) out (by omega) (by omega))
      show place_Co.b2 path out (i : Int) = _
      unfold place_Co.b2
      rw [cond_t (by omega), idxL_lt hil, Option.bind_some, strEq_eq, decide_eq_true hn]
      show place_Co.k1 path (i : Int) out = _
      unfold place_Co.k1
      rw [wrap1 i (by omega)]
    · rw [if_pos (by simpa using hn), List.map_cons]
      have := ih (i + 1) (out ++ [besideT path[i]]) (by omega) (by rw [List.length_append]; simp only [List.length_cons, List.length_nil]; omega)
      rw [List.append_assoc] at this
      refine loop_step ?_ this
      show place_Co.b2 path out (i : Int) = _
      unfold place_Co.b2
      rw [cond_t (by omega), idxL_lt hil, Option.bind_some, strEq_eq, decide_eq_false hn]
      show (place_Beside.f path[i]).bind _ = _
      rw [beside_eq (by omega), Option.bind_some, room_of (by omega)]
      unfold place_Co.k1
      rw [wrap1 i (by omega)]
theorem co_eq {s : List UInt8} {p : Int} (hl : s.length ≤ 900000) : place_Co.f s p = some (coM s p) := by
  unfold place_Co.f place_Path.f
  rw [given_of hl, Option.bind_some]
  unfold coM
  rcases path_cut s p with h | ⟨a, h1, h2, h3, h4⟩
  · rw [h]
    have hL : loopM (fun s480 : (List (List UInt8)) × Int => place_Co.b2 [] s480.1 s480.2) (([] : List (List UInt8)), (0 : Int)) = some [] := by
      refine loop_end ?_
      show place_Co.b2 [] [] ((0 : Nat) : Int) = _
      unfold place_Co.b2
      rw [cond_f (by simp)]
    rw [hL]; rfl
  · have hpl : (pathM s p).length ≤ 9 := by rw [h1]; simp; omega
    have hL := co_loop (path := pathM s p) (by omega) (fun x hx => by have := h3 x hx; omega) (pathM s p).length 0 [] (by omega) (by simp)
    rw [show loopM (fun s480 : (List (List UInt8)) × Int => place_Co.b2 (pathM s p) s480.1 s480.2) (([] : List (List UInt8)), (0 : Int)) = _ from hL, List.nil_append, List.drop_zero]
    show some _ = some _
    rw [h1, List.dropLast_concat, List.filter_append, List.filter_eq_self.2 (fun x hx => by simpa using h2 x hx)]
    simp
theorem rco_loop {path : List (List UInt8)} (hl : path.length ≤ 1000) (hx : ∀ x ∈ path, x.length ≤ 1000) (h0 : 0 < path.length) : ∀ k i out, i + k + 1 = path.length → out.length ≤ i → loopM (fun s240 : (List (List UInt8)) × Int => gemotref14_Co.b1 path s240.1 s240.2) (out, (i : Int)) = some (out ++ (path.dropLast.drop i).map besideT) := by
  intro k
  induction k with
  | zero =>
    intro i out hi _
    refine loop_end ?_
    show gemotref14_Co.b1 path out (i : Int) = _
    unfold gemotref14_Co.b1
    rw [wrap1 i (by omega), cond_f (by omega), List.drop_of_length_le (by rw [List.length_dropLast]; omega)]; simp
  | succ k ih =>
    intro i out hi ho
    have hil : i < path.dropLast.length := by rw [List.length_dropLast]; omega
    have hil2 : i < path.length := by omega
    have hlen := hx path[i] (List.getElem_mem hil2)
    rw [List.drop_eq_getElem_cons hil, List.map_cons, List.getElem_dropLast]
    have := ih (i + 1) (out ++ [besideT path[i]]) (by omega) (by rw [List.length_append]; simp only [List.length_cons, List.length_nil]; omega)
    rw [List.append_assoc] at this
    refine loop_step ?_ this
    show gemotref14_Co.b1 path out (i : Int) = _
    unfold gemotref14_Co.b1
    rw [wrap1 i (by omega), cond_t (by omega), idxL_lt hil2, Option.bind_some, rbeside_eq (by omega), Option.bind_some, room_of (by omega)]
theorem rco_eq {s : List UInt8} {p : Int} (hl : s.length ≤ 900000) : gemotref14_Co.f s p = some (coM s p) := by
  unfold gemotref14_Co.f
  rw [path14 (by omega), Option.bind_some]
  unfold coM
  rcases path_cut s p with h | ⟨a, h1, h2, h3, h4⟩
  · rw [h]
    have hL : loopM (fun s240 : (List (List UInt8)) × Int => gemotref14_Co.b1 [] s240.1 s240.2) (([] : List (List UInt8)), (0 : Int)) = some [] := by
      refine loop_end ?_
      show gemotref14_Co.b1 [] [] ((0 : Nat) : Int) = _
      unfold gemotref14_Co.b1
      rw [wrap1 0 (by omega)]; rfl
    rw [hL]; rfl
  · have hpl : (pathM s p).length ≤ 9 ∧ 0 < (pathM s p).length := by rw [h1]; simp; omega
    have hL := rco_loop (path := pathM s p) (by omega) (fun x hx => by have := h3 x hx; omega) hpl.2 ((pathM s p).length - 1) 0 [] (by omega) (by simp)
    rw [show loopM (fun s240 : (List (List UInt8)) × Int => gemotref14_Co.b1 (pathM s p) s240.1 s240.2) (([] : List (List UInt8)), (0 : Int)) = _ from hL]
    rfl
end Go.Proofs.Ytgomlcfoifkdiaa.G
