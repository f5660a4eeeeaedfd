/- Views: rows of processes, a view as a term: by the program and by the reference alike. -/
import Derived.Test.YtgomlcfoifkdiaaGreatRefPow
namespace Go.Proofs.YtgomlcfoifkdiaaGreat.G
open Go.RowKit Go.Eng Go.Proofs Go.Proofs.YtgomlcfoifkdiaaGreat.Cut
set_option linter.unusedVariables false
set_option linter.unusedSimpArgs false

/-- What is wrong at a place of a row. -/
def badAt (xs : List Int) (i : Nat) : Prop := xs.getD i 0 < 1 ∨ 8 < xs.getD i 0 ∨ (0 < i ∧ xs.getD i 0 ≤ xs.getD (i - 1) 0)
instance (xs : List Int) (i : Nat) : Decidable (badAt xs i) := by unfold badAt; infer_instance
theorem bad_row (xs : List Int) : (∀ i, i < xs.length → ¬ badAt xs i) ↔ ((∀ x ∈ xs, 0 < x ∧ x ≤ 8) ∧ xs.Pairwise (· < ·)) := by
  have hg : ∀ i (h : i < xs.length), xs.getD i 0 = xs[i] := fun i h => by rw [List.getD_eq_getElem?_getD, List.getElem?_eq_getElem h]; rfl
  constructor
  · intro h
    have h1 : ∀ i (hi : i < xs.length), 0 < xs[i] ∧ xs[i] ≤ 8 := by
      intro i hi
      have := h i hi
      unfold badAt at this
      rw [hg i hi] at this
      omega
    have h2 : ∀ d i (hd : i + d + 1 < xs.length) (hi : i < xs.length), xs[i] < xs[i + d + 1] := by
      intro d
      induction d with
      | zero =>
        intro i hd hi
        have := h (i + 1) (by omega)
        unfold badAt at this
        rw [hg (i + 1) (by omega), show i + 1 - 1 = i by omega, hg i hi] at this
        show xs[i] < xs[i + 1]
        omega
      | succ d ih =>
        intro i hd hi
        have h3 := ih i (by omega) hi
        have := h (i + (d + 1) + 1) (by omega)
        unfold badAt at this
        rw [hg (i + (d + 1) + 1) (by omega), show i + (d + 1) + 1 - 1 = i + d + 1 by omega, hg (i + d + 1) (by omega)] at this
        omega
    refine ⟨fun x hx => ?_, List.pairwise_iff_getElem.2 fun i j hi hj hij => ?_⟩
    · obtain ⟨i, hi, rfl⟩ := List.getElem_of_mem hx
      exact h1 i hi
    · have := h2 (j - i - 1) i (by omega) hi
      have e : i + (j - i - 1) + 1 = j := by omega
      simp only [e] at this
      exact this
  · rintro ⟨h1, h2⟩ i hi hb
    unfold badAt at hb
    rw [hg i hi] at hb
    have h3 := h1 xs[i] (List.getElem_mem hi)
    rcases hb with h | h | ⟨h0, h⟩
    · omega
    · omega
    · rw [hg (i - 1) (by omega)] at h
      have := List.pairwise_iff_getElem.1 h2 (i - 1) i (by omega) hi (by omega)
      omega
theorem rowB_bad (xs : List Int) : rowB xs = true ↔ (xs ≠ [] ∧ ∀ i, i < xs.length → ¬ badAt xs i) := by
  rw [rowB_iff, bad_row]
/-- A loop that looks for what is wrong, place by place. -/
theorem bad_loop (xs : List Int) (hl : xs.length ≤ 1000000000) (body : Int → Option (Int ⊕ (Unit ⊕ Bool))) (hb : ∀ i : Nat, i ≤ xs.length → body (i : Int) = if i < xs.length then (if badAt xs i then some (.inr (.inr false)) else some (.inl ((i + 1 : Nat) : Int))) else some (.inr (.inl ()))) :
    loopM body (0 : Int) = some (if ∀ i, i < xs.length → ¬ badAt xs i then .inl () else .inr false) := by
  have go : ∀ k i, i + k = xs.length → (∀ j, j < i → ¬ badAt xs j) → loopM body (i : Int) = some (if ∀ i, i < xs.length → ¬ badAt xs i then .inl () else .inr false) := by
    intro k
    induction k with
    | zero =>
      intro i hi h
      rw [if_pos fun j hj => h j (by omega)]
      refine loop_end ?_
      rw [hb i (by omega), if_neg (by omega)]
    | succ k ih =>
      intro i hi h
      by_cases hc : badAt xs i
      · rw [if_neg fun g => g i (by omega) hc]
        refine loop_end ?_
        rw [hb i (by omega), if_pos (by omega), if_pos hc]
      · refine loop_step ?_ (ih (i + 1) (by omega) fun j hj => ?_)
        · rw [hb i (by omega), if_pos (by omega), if_neg hc]
        · by_cases e : j = i
          · rw [e]; exact hc
          · exact h j (by omega)
  exact go xs.length 0 (by omega) fun j hj => absurd hj (Nat.not_lt_zero j)
theorem bad_body (xs : List Int) (hl : xs.length ≤ 1000000000) (k1 : Int → Bool → Option (Int ⊕ (Unit ⊕ Bool))) (hk : ∀ v b, k1 v b = cond b (some (.inr (Sum.inr false))) (some (.inl (IntKind.i64.wrap (v + (1 : Int)))))) (i : Nat) (hi : i ≤ xs.length) :
    (cond (decide ((i : Int) < (xs.length : Int))) ((idxL xs (i : Int)).bind fun y1085 => cond (decide (y1085 < (1 : Int))) (k1 (i : Int) (cond (cond (decide (y1085 < (1 : Int))) true (decide ((0 : Int) > (8 : Int)))) true (cond (decide ((i : Int) > (0 : Int))) (decide ((0 : Int) ≤ (0 : Int))) false))) ((idxL xs (i : Int)).bind fun y1093 => cond (decide (y1093 > (8 : Int))) (k1 (i : Int) (cond (cond (decide (y1085 < (1 : Int))) true (decide (y1093 > (8 : Int)))) true (cond (decide ((i : Int) > (0 : Int))) (decide ((0 : Int) ≤ (0 : Int))) false))) (cond (decide ((i : Int) > (0 : Int))) ((idxL xs (i : Int)).bind fun y1102 => (idxL xs (IntKind.i64.wrap ((i : Int) - (1 : Int)))).bind fun y1108 => k1 (i : Int) (cond (cond (decide (y1085 < (1 : Int))) true (decide (y1093 > (8 : Int)))) true (cond (decide ((i : Int) > (0 : Int))) (decide (y1102 ≤ y1108)) false))) (k1 (i : Int) (cond (cond (decide (y1085 < (1 : Int))) true (decide (y1093 > (8 : Int)))) true (cond (decide ((i : Int) > (0 : Int))) (decide ((0 : Int) ≤ (0 : Int))) false)))))) (some (.inr (Sum.inl ()))) : Option (Int ⊕ (Unit ⊕ Bool)))
      = if i < xs.length then (if badAt xs i then some (.inr (.inr false)) else some (.inl ((i + 1 : Nat) : Int))) else some (.inr (.inl ())) := by
  have hg : ∀ i (h : i < xs.length), xs.getD i 0 = xs[i] := fun i h => by rw [List.getD_eq_getElem?_getD, List.getElem?_eq_getElem h]; rfl
  by_cases h : i < xs.length
  · rw [cond_t (by omega), if_pos h, idxL_lt h, Option.bind_some]
    by_cases h1 : xs[i] < 1
    · rw [decide_eq_true h1, cond_true, hk, if_pos (by unfold badAt; rw [hg i h]; exact .inl h1)]; rfl
    rw [decide_eq_false h1, cond_false, Option.bind_some]
    by_cases h2 : 8 < xs[i]
    · rw [decide_eq_true (show xs[i] > 8 from h2), cond_true, hk, if_pos (by unfold badAt; rw [hg i h]; exact .inr (.inl h2))]; rfl
    rw [decide_eq_false (show ¬ xs[i] > 8 from h2), cond_false]
    by_cases h3 : 0 < i
    · rw [decide_eq_true (show (i : Int) > 0 by omega), cond_true, Option.bind_some, show IntKind.i64.wrap ((i : Int) - (1 : Int)) = ((i - 1 : Nat) : Int) by rw [Eng.i64_id (by omega) (by omega)]; omega, idxL_lt (show i - 1 < xs.length by omega), Option.bind_some, hk]
      by_cases h4 : xs[i] ≤ xs[i - 1]
      · rw [decide_eq_true h4, if_pos (by unfold badAt; rw [hg i h, hg (i - 1) (by omega)]; exact .inr (.inr ⟨h3, h4⟩))]; rfl
      · rw [decide_eq_false h4, if_neg (by unfold badAt; rw [hg i h, hg (i - 1) (by omega)]; rintro (q | q | q); exact h1 q; exact h2 q; exact h4 q.2), wrap1 i (by omega)]; rfl
    · rw [decide_eq_false (show ¬ (i : Int) > 0 by omega), cond_false, hk, if_neg (by unfold badAt; rw [hg i h]; rintro (q | q | q); exact h1 q; exact h2 q; exact h3 q.1), wrap1 i (by omega)]; rfl
  · rw [cond_f (by omega), if_neg h]
theorem rrow_eq (xs : List Int) (hl : xs.length ≤ 1000000000) : gemotref10_Row.f xs = some (rowB xs) := by
  have hL := bad_loop xs hl (fun s980 : Int => gemotref10_Row.b2 xs s980) fun i hi => by
    show gemotref10_Row.b2 xs (i : Int) = _
    unfold gemotref10_Row.b2
    exact bad_body xs hl (gemotref10_Row.k1 xs) (fun v b => rfl) i hi
  unfold gemotref10_Row.f
  rw [hL]
  by_cases h : ∀ i, i < xs.length → ¬ badAt xs i
  · rw [if_pos h]
    show some (decide ((xs.length : Int) > 0)) = _
    congr 1
    rw [Bool.eq_iff_iff, decide_eq_true_eq, rowB_bad]
    constructor
    · intro h0; exact ⟨fun e => by rw [e] at h0; simp at h0, h⟩
    · rintro ⟨h0, _⟩; have := List.length_pos_iff.2 h0; omega
  · rw [if_neg h]
    show some false = _
    congr 1
    rw [Eq.comm, ← Bool.not_eq_true, rowB_bad]
    exact fun g => h g.2
theorem has_eq (xs : List Int) (p : Int) (hl : xs.length ≤ 1000000000) : view_Has.f xs p = some (decide (p ∈ xs)) := by
  unfold view_Has.f slices_Contains_int_int.f
  by_cases h : p ∈ xs
  · obtain ⟨i, h1, h2, h3⟩ := index_eq xs p hl h
    rw [h3, decide_eq_true h]
    show some (decide ((i : Int) ≥ 0)) = _
    rw [decide_eq_true (by omega)]
  · have hL : slices_Index_int_int.f xs p = some (-1) := by
      unfold slices_Index_int_int.f
      have go : ∀ k i, i + k = xs.length → loopM (fun s91 : Int => slices_Index_int_int.b1 xs p s91) (i : Int) = some (Sum.inl ()) := by
        intro k
        induction k with
        | zero =>
          intro i hi
          refine loop_end ?_
          show slices_Index_int_int.b1 xs p (i : Int) = _
          unfold slices_Index_int_int.b1
          rw [cond_f (by omega)]
        | succ k ih =>
          intro i hi
          have hil : i < xs.length := by omega
          refine loop_step ?_ (ih (i + 1) (by omega))
          show slices_Index_int_int.b1 xs p (i : Int) = _
          unfold slices_Index_int_int.b1
          rw [cond_t (by omega), idxL_lt hil, Option.bind_some, show (p == xs[i]) = false from beq_eq_false_iff_ne.2 (fun e => h (by rw [e]; exact List.getElem_mem hil)), cond_false, wrap1 i (by omega)]
      rw [show loopM (fun s91 : Int => slices_Index_int_int.b1 xs p s91) (0 : Int) = _ from go xs.length 0 (by omega)]
      rfl
    rw [hL, decide_eq_false h]; rfl
theorem rhas_eq (xs : List Int) (p : Int) (hl : xs.length ≤ 1000000000) : gemotref10_Has.f xs p = some (decide (p ∈ xs)) := by
  have go : ∀ k i, i + k = xs.length → loopM (fun s91 : Int => gemotref10_Has.b1 xs p s91) (i : Int) = some (if p ∈ xs.drop i then .inr true else .inl ()) := by
    intro k
    induction k with
    | zero =>
      intro i hi
      refine loop_end ?_
      show gemotref10_Has.b1 xs p (i : Int) = _
      unfold gemotref10_Has.b1
      rw [cond_f (by omega), List.drop_of_length_le (by omega), if_neg (by simp)]
    | succ k ih =>
      intro i hi
      have hil : i < xs.length := by omega
      rw [List.drop_eq_getElem_cons hil]
      by_cases he : xs[i] = p
      · rw [if_pos (by rw [he]; exact List.mem_cons_self)]
        refine loop_end ?_
        show gemotref10_Has.b1 xs p (i : Int) = _
        unfold gemotref10_Has.b1
        rw [cond_t (by omega), idxL_lt hil, Option.bind_some, show (xs[i] == p) = true from beq_iff_eq.2 he, cond_true]
      · have e : (p ∈ xs[i] :: xs.drop (i + 1)) ↔ p ∈ xs.drop (i + 1) := by
          rw [List.mem_cons]
          exact ⟨fun h => h.elim (fun q => absurd q.symm he) id, .inr⟩
        rw [show (if p ∈ xs[i] :: xs.drop (i + 1) then (Sum.inr true : Unit ⊕ Bool) else .inl ()) = if p ∈ xs.drop (i + 1) then .inr true else .inl () from by simp only [e]]
        refine loop_step ?_ (ih (i + 1) (by omega))
        show gemotref10_Has.b1 xs p (i : Int) = _
        unfold gemotref10_Has.b1
        rw [cond_t (by omega), idxL_lt hil, Option.bind_some, show (xs[i] == p) = false from beq_eq_false_iff_ne.2 he, cond_false, wrap1 i (by omega)]
  unfold gemotref10_Has.f
  rw [show loopM (fun s91 : Int => gemotref10_Has.b1 xs p s91) (0 : Int) = _ from go xs.length 0 (by omega), List.drop_zero]
  by_cases h : p ∈ xs
  · rw [if_pos h, decide_eq_true h]; rfl
  · rw [if_neg h, decide_eq_false h]; rfl
/-- A view that is right. -/
def rightV (v : D_api_View) : Bool := rowB v.2 && (decide (v.1.2 ∈ v.2) && (decide (0 ≤ v.1.1) && decide (v.1.1 ≤ 2147483647)))
theorem viewRight_eq (v : D_api_View) (hl : v.2.length ≤ 1000000000) : view_Right.f v = some (rightV v) := by
  unfold view_Right.f rightV
  rw [row_eq v.2 hl, Option.bind_some]
  cases rowB v.2 with
  | false => rfl
  | true =>
    rw [cond_true, has_eq _ _ hl, Option.bind_some]
    unfold view_Right.k1
    simp only [ge_iff_le, Bool.cond_true_left, Bool.true_and]
    cases decide (v.1.2 ∈ v.2) <;> cases decide (0 ≤ v.1.1) <;> rfl
theorem rviewRight_eq (v : D_api_View) (hl : v.2.length ≤ 1000000000) : gemotref10_Right.f v = some (rightV v) := by
  unfold gemotref10_Right.f rightV
  rw [rrow_eq v.2 hl, Option.bind_some]
  cases rowB v.2 with
  | false => rfl
  | true =>
    rw [cond_true, rhas_eq _ _ hl, Option.bind_some]
    unfold gemotref10_Right.k1
    simp only [ge_iff_le, Bool.cond_true_left, Bool.true_and]
    cases decide (v.1.2 ∈ v.2) <;> cases decide (0 ≤ v.1.1) <;> rfl
/-- The numbers of a view's message. -/
def viewNs (v : D_api_View) : List Int := [0, v.1.1, v.1.2, 0, 0, 0, (v.2.length : Int)] ++ v.2
def viewL (v : D_api_View) : List (List UInt8) := (viewNs v).map fun n => countedT 117 (IntKind.u64.wrap n)
theorem put_nil : putE [] = (countedT 117 0, 0) := put_numbers (l := []) (fun t ht => by simp at ht) (by simp)
theorem map_loop (ns : List Int) (hl : ns.length ≤ 1000000) (g : Int → List UInt8) (body : List (List UInt8) → Int → Option (((List (List UInt8)) × Int) ⊕ (List (List UInt8))))
    (hb : ∀ acc (i : Nat), i ≤ ns.length → body acc (i : Int) = if h : i < ns.length then roomM 16 (acc.length + 1) (some (.inl (acc ++ [g ns[i]], ((i + 1 : Nat) : Int)))) else some (.inr acc)) :
    loopM (fun s : (List (List UInt8)) × Int => body s.1 s.2) (([] : List (List UInt8)), (0 : Int)) = some (ns.map g) := by
  have go : ∀ k i, i + k = ns.length → loopM (fun s : (List (List UInt8)) × Int => body s.1 s.2) ((ns.take i).map g, (i : Int)) = some (ns.map g) := by
    intro k
    induction k with
    | zero =>
      intro i hi
      refine loop_end ?_
      show body ((ns.take i).map g) (i : Int) = _
      rw [hb _ i (by omega), dif_neg (by omega), List.take_of_length_le (by omega)]
    | succ k ih =>
      intro i hi
      have hil : i < ns.length := by omega
      refine loop_step ?_ (ih (i + 1) (by omega))
      show body ((ns.take i).map g) (i : Int) = _
      rw [hb _ i (by omega), dif_pos hil, room_of (by rw [List.length_map, List.length_take]; omega)]
      congr 3
      rw [← take_snoc hil, List.map_append]; rfl
  have := go ns.length 0 (by omega)
  simpa using this
theorem listRight_view {v : D_api_View} (hv : rightV v = true) : list_Right.f (0, v.1, (0, 0), 0, v.2, []) = some true := by
  unfold rightV at hv
  simp only [Bool.and_eq_true, decide_eq_true_eq] at hv
  obtain ⟨hr, hm, he, he2⟩ := hv
  have hrow := (rowB_iff v.2).1 hr
  have hlen : v.2.length ≤ 8 := by
    by_cases h : v.2.length ≤ 8
    · exact h
    · exfalso
      have hp := List.pairwise_iff_getElem.1 hrow.2.2
      have h8 : ∀ k (hk : k < v.2.length), (k : Int) + 1 ≤ v.2[k] := by
        intro k
        induction k with
        | zero => intro hk; have := (hrow.2.1 _ (List.getElem_mem hk)).1; omega
        | succ k ih => intro hk; have := ih (by omega); have := hp k (k + 1) (by omega) hk (by omega); omega
      have := h8 8 (by omega)
      have := (hrow.2.1 _ (List.getElem_mem (show 8 < v.2.length by omega))).2
      omega
  have hc := hrow.2.1 _ hm
  have hL : ∀ k i last, i + k = v.2.length → (∃ l, rowRes last (v.2.drop i) = .inl l) → loopM (fun s103 : Int × Int => list_Right.b1 (0, v.1, (0, 0), 0, v.2, []) s103.1 s103.2) (last, (i : Int)) = some (Sum.inl ()) := by
    intro k
    induction k with
    | zero =>
      intro i last hi _
      refine loop_end ?_
      show list_Right.b1 (0, v.1, (0, 0), 0, v.2, []) last (i : Int) = _
      unfold list_Right.b1
      rw [cond_f (by simp only; omega)]
    | succ k ih =>
      rintro i last hi ⟨l, hl⟩
      have hil : i < v.2.length := by omega
      rw [List.drop_eq_getElem_cons hil] at hl
      unfold rowRes at hl
      by_cases hcnd : v.2[i] ≤ last ∨ 8 < v.2[i]
      · rw [if_pos hcnd] at hl; cases hl
      rw [if_neg hcnd] at hl
      refine loop_step ?_ (ih (i + 1) v.2[i] (by omega) ⟨l, hl⟩)
      show list_Right.b1 (0, v.1, (0, 0), 0, v.2, []) last (i : Int) = _
      unfold list_Right.b1
      simp only
      rw [cond_t (by omega), idxL_lt hil, Option.bind_some, decide_eq_false (fun h => hcnd (.inl h)), cond_false, cond_f (fun h => hcnd (.inr h)), wrap1 i (by omega)]
  have h0 : ∃ l, rowRes 0 v.2 = .inl l := by
    unfold rowB at hr
    cases hq : rowRes 0 v.2 with
    | inl l => exact ⟨l, rfl⟩
    | inr b =>
      rw [hq] at hr
      simp only at hr
      rcases rowRes_iff v.2 0 with ⟨l, h1, _⟩ | ⟨h1, h2⟩ | h
      · rw [hq] at h1; cases h1
      · rw [hq] at h1; cases h1; cases hr
      · omega
  have h1 := hL v.2.length 0 0 (by omega) (by rw [List.drop_zero]; exact h0)
  unfold list_Right.f
  rw [show loopM (fun s103 : Int × Int => list_Right.b1 (0, v.1, (0, 0), 0, v.2, []) s103.1 s103.2) ((0 : Int), (0 : Int)) = _ from h1]
  show list_Right.k3 (0, v.1, (0, 0), 0, v.2, []) = _
  unfold list_Right.k3
  simp only
  rw [put_spec (by simp), put_nil]
  unfold list_right.f
  simp only [Option.bind_some]
  rw [decide_eq_true (show v.1.1 ≥ 0 from he), decide_eq_true he2, decide_eq_true (show v.1.2 ≥ 0 by omega), decide_eq_true hc.2]
  rfl
theorem rlistRight_view {v : D_api_View} (hv : rightV v = true) (hlen : v.2.length ≤ 1000000000) : gemotref4_Right.f (0, v.1, (0, 0), 0, v.2, []) = some true := by
  unfold rightV at hv
  simp only [Bool.and_eq_true, decide_eq_true_eq] at hv
  obtain ⟨hr, hm, he, he2⟩ := hv
  have hc := ((rowB_iff v.2).1 hr).2.1 _ hm
  have hL := bad_loop v.2 hlen (fun s988 : Int => gemotref4_Right.b2 (0, v.1, (0, 0), 0, v.2, []) s988) fun i hi => by
    show gemotref4_Right.b2 (0, v.1, (0, 0), 0, v.2, []) (i : Int) = _
    unfold gemotref4_Right.b2
    exact bad_body v.2 hlen (gemotref4_Right.k1 (0, v.1, (0, 0), 0, v.2, [])) (fun v b => rfl) i hi
  rw [if_pos ((rowB_bad v.2).1 hr).2] at hL
  unfold gemotref4_Right.f
  rw [hL]
  show gemotref4_Right.k4 (0, v.1, (0, 0), 0, v.2, []) = _
  unfold gemotref4_Right.k4
  simp only
  rw [rput_small (by simp) (by simp), put_nil]
  unfold gemotref4_id.f
  simp only [Option.bind_some]
  rw [decide_eq_true (show v.1.1 ≥ 0 from he), decide_eq_true he2, decide_eq_true (show v.1.2 ≥ 0 by omega), decide_eq_true hc.2]
  rfl
theorem viewL_num (v : D_api_View) : ∀ t ∈ viewL v, ∃ n, t = countedT 117 n := fun t ht => by
  obtain ⟨n, _, rfl⟩ := List.mem_map.1 ht
  exact ⟨_, rfl⟩
theorem viewL_len (v : D_api_View) : (viewL v).length = v.2.length + 7 := by simp [viewL, viewNs]
def viewE (v : D_api_View) : List UInt8 × Int := if rightV v = true then (putT (viewL v), 0) else ([], 1)
theorem viewTerm_eq (v : D_api_View) (hl : v.2.length ≤ 100) : view_Term.f v = some (viewE v) := by
  unfold view_Term.f viewE
  rw [show ((v.1.1, v.1.2), v.2) = v from rfl, viewRight_eq v (by omega), Option.bind_some]
  by_cases hv : rightV v = true
  · rw [if_pos hv, hv, Bool.not_true, cond_false]
    unfold list_Pack.f
    simp only
    rw [show ((0 : Int), (v.1.1, v.1.2), ((0 : Int), (0 : Int)), (0 : Int), v.2, ([] : List (List UInt8))) = (0, v.1, (0, 0), 0, v.2, []) from rfl, listRight_view hv, Option.bind_some, Bool.not_true, cond_false, room_of (by simp; omega)]
    have hnl : (viewNs v).length = v.2.length + 7 := by simp [viewNs]
    have hL := map_loop (viewNs v) (by omega) (fun n => countedT 117 (IntKind.u64.wrap n)) (list_Pack.b1 (0, v.1, (0, 0), 0, v.2, [])) fun acc i hi => by
      unfold list_Pack.b1
      simp only
      show cond (decide ((i : Int) < ((viewNs v).length : Int))) ((idxL (viewNs v) (i : Int)).bind _) _ = _
      by_cases h : i < (viewNs v).length
      · rw [cond_t (by omega), dif_pos h, idxL_lt h, Option.bind_some]
        unfold term_Number.f
        rw [Option.bind_some, wrap1 i (by omega)]
      · rw [cond_f (by omega), dif_neg h]
    rw [hL, Option.bind_some]
    unfold list_Pack.k2
    simp only
    rw [List.append_nil, room_of (by simp [viewNs]; omega)]
    rw [show (viewNs v).map (fun n => countedT 117 (IntKind.u64.wrap n)) = viewL v from rfl, put_spec (fun t ht => by obtain ⟨n, rfl⟩ := viewL_num v t ht; simp [countedT, bytesOf_length]), put_numbers (viewL_num v) (by rw [viewL_len]; omega)]
    rfl
  · rw [if_neg hv, show rightV v = false by simpa using hv]; rfl
theorem rviewTerm_eq (v : D_api_View) (hl : v.2.length ≤ 100) : gemotref10_Term.f v = some (viewE v) := by
  unfold gemotref10_Term.f viewE
  rw [show ((v.1.1, v.1.2), v.2) = v from rfl, rviewRight_eq v (by omega), Option.bind_some]
  by_cases hv : rightV v = true
  · rw [if_pos hv, hv, Bool.not_true, cond_false]
    unfold gemotref4_Pack.f
    simp only
    rw [show ((0 : Int), (v.1.1, v.1.2), ((0 : Int), (0 : Int)), (0 : Int), v.2, ([] : List (List UInt8))) = (0, v.1, (0, 0), 0, v.2, []) from rfl, rlistRight_view hv (by omega), Option.bind_some, Bool.not_true, cond_false, room_of (by simp; omega)]
    have hnl : (viewNs v).length = v.2.length + 7 := by simp [viewNs]
    have hL := map_loop (viewNs v) (by omega) (fun n => countedT 117 (IntKind.u64.wrap n)) (gemotref4_Pack.b1 (0, v.1, (0, 0), 0, v.2, [])) fun acc i hi => by
      unfold gemotref4_Pack.b1
      simp only
      show cond (decide ((i : Int) < ((viewNs v).length : Int))) ((idxL (viewNs v) (i : Int)).bind _) _ = _
      by_cases h : i < (viewNs v).length
      · rw [cond_t (by omega), dif_pos h, idxL_lt h, Option.bind_some, rnumber_eq, Option.bind_some, wrap1 i (by omega)]
      · rw [cond_f (by omega), dif_neg h]
    rw [hL, Option.bind_some]
    unfold gemotref4_Pack.k2
    simp only
    rw [List.append_nil, room_of (by simp [viewNs]; omega)]
    have hf : ∀ t ∈ viewL v, rightB t = true := fun t ht => by
      obtain ⟨n, rfl⟩ := viewL_num v t ht
      exact full_right (full_mono (full_number n) (by omega)) (by simp [countedT, bytesOf_length])
    rw [show (viewNs v).map (fun n => countedT 117 (IntKind.u64.wrap n)) = viewL v from rfl, rput_small hf (by rw [viewL_len]; omega), put_numbers (viewL_num v) (by rw [viewL_len]; omega)]
    rfl
  · rw [if_neg hv, show rightV v = false by simpa using hv]; rfl
end Go.Proofs.YtgomlcfoifkdiaaGreat.G
