/- A row with numbers. -/
import Derived.Test.YtgomlcfoifkdiaaPureV
namespace Go.Proofs.Ytgomlcfoifkdiaa.G
open Go.RowKit Go.Eng Go.Proofs Go.Proofs.Ytgomlcfoifkdiaa.Cut
set_option linter.unusedVariables false
set_option linter.unusedSimpArgs false

/-! A row put, by the program. -/
def putE (l : List (List UInt8)) : List UInt8 × Int :=
  if 150 < l.length then ([], 1) else if l.any (fun t => !rightB t) = true then ([], 1) else if 20000 < (putT l).length then ([], 3) else if rightB (putT l) = true then (putT l, 0) else ([], 4)
theorem putT_len_le (n : Nat) : ∀ (l : List (List UInt8)), (∀ t ∈ l, t.length ≤ n) → (putT l).length ≤ (n + 1) * l.length + 9
  | [], _ => by simp [putT_nil, countedT, bytesOf_length]
  | a :: l, h => by
    have := putT_len_le n l (fun t ht => h t (List.mem_cons_of_mem _ ht))
    have := h a List.mem_cons_self
    rw [putT_cons, List.length_cons, List.length_append, List.length_cons, Nat.mul_add]; omega
theorem rights_of {l : List (List UInt8)} (h : ¬ l.any (fun t => !rightB t) = true) : ∀ t ∈ l, rightB t = true := by
  intro t ht
  cases hr : rightB t with
  | true => rfl
  | false => exact absurd (List.any_eq_true.2 ⟨t, ht, by rw [hr]; rfl⟩) h
theorem any_of_rights {l : List (List UInt8)} (h : ∀ t ∈ l, rightB t = true) : ¬ l.any (fun t => !rightB t) = true := by
  intro q
  obtain ⟨t, ht, hq⟩ := List.any_eq_true.1 q
  rw [h t ht] at hq; cases hq
theorem put_spec {l : List (List UInt8)} (hb : ∀ t ∈ l, t.length ≤ 140737488355328) : list_Put.f l = some (putE l) := by
  unfold list_Put.f putE
  by_cases h1 : 150 < l.length
  · rw [if_pos h1, if_pos h1]
  rw [if_neg h1, if_neg h1, given_of (fun t ht => ⟨_, right_spec (hb t ht)⟩)]
  have hrt : ∀ t ∈ l, rightT t = rightB t := fun t ht => by unfold rightT; rw [right_spec (hb t ht)]; rfl
  have hany : l.any (fun t => !rightT t) = l.any (fun t => !rightB t) := by
    rw [Bool.eq_iff_iff, List.any_eq_true, List.any_eq_true]
    constructor
    · rintro ⟨t, ht, q⟩; exact ⟨t, ht, by rw [← hrt t ht]; exact q⟩
    · rintro ⟨t, ht, q⟩; exact ⟨t, ht, by rw [hrt t ht]; exact q⟩
  rw [hany]
  by_cases h2 : l.any (fun t => !rightB t) = true
  · rw [if_pos h2, if_pos h2]
  rw [if_neg h2, if_neg h2]
  have hr := rights_of h2
  have hlen := putT_len_le 20000 l (fun t ht => (rightB_len (hr t ht)).2)
  rw [given_of (by omega)]
  by_cases h3 : 20000 < (putT l).length
  · rw [if_pos h3, if_pos h3]
  rw [if_neg h3, if_neg h3, right_spec (by omega), Option.bind_some]
  cases rightB (putT l) <;> rfl
theorem putE_ok {l : List (List UInt8)} {t : List UInt8} (h : putE l = (t, 0)) : l.length ≤ 150 ∧ (∀ t ∈ l, rightB t = true) ∧ rightB (putT l) = true ∧ t = putT l := by
  unfold putE at h
  split at h
  · injection h with _ h; cases h
  split at h
  · injection h with _ h; cases h
  split at h
  · injection h with _ h; cases h
  split at h
  · rename_i h1 h2 h3 h4
    injection h with h _
    exact ⟨by omega, rights_of h2, h4, h.symm⟩
  · injection h with _ h; cases h
theorem putE_zero {l : List (List UInt8)} (h : (putE l).2 = 0) : putE l = (putT l, 0) := by
  have h2 := putE_ok (l := l) (t := (putE l).1) (by rw [← h])
  rw [← h2.2.2.2, ← h]
theorem ok_putE {l : List (List UInt8)} (h1 : l.length ≤ 150) (h2 : ∀ t ∈ l, rightB t = true) (h3 : rightB (putT l) = true) : putE l = (putT l, 0) := by
  unfold putE
  rw [if_neg (by omega), if_neg (any_of_rights h2), if_neg (by have := (rightB_len h3).2; omega), if_pos h3]
def numT (n : Int) : List UInt8 := countedT 117 n
def okN (n : Int) : Bool := decide (0 ≤ n ∧ n ≤ 2147483647)
theorem num_right (n : Int) : rightB (numT n) = true := by
  unfold rightB
  rw [decide_eq_true_eq, specE_succ]
  have hl : (bytesOf n 8).length = 8 := bytesOf_length n 8
  show (if leafN 117 (bytesOf n 8) ≠ 0 then _ else _ : Int × Int).1 = _ ∧ _
  have hleaf : leafN 117 (bytesOf n 8) = 9 := by
    unfold leafN
    rw [if_neg (by decide), if_pos (by decide), if_pos (by omega)]
  rw [hleaf, if_pos (by decide)]
  unfold numT countedT
  rw [List.length_cons, hl]
  exact ⟨rfl, by omega⟩
theorem num_kind (n : Int) : kindB (numT n) = 117 := by
  unfold kindB
  rw [if_pos (num_right n)]; rfl
theorem num_value {n : Int} (h0 : 0 ≤ n) (h : n ≤ 2147483647) : valueE (numT n) = (n, true) := by
  unfold valueE
  rw [if_pos (.inr (num_kind n))]
  have e : (numT n).drop 1 = bytesOf n 8 := rfl
  obtain ⟨m, rfl⟩ : ∃ m : Nat, n = (m : Int) := ⟨n.toNat, by omega⟩
  rw [e, valE_bytes m (by omega)]
theorem num_len (n : Int) : (numT n).length = 9 := by simp [numT, countedT, bytesOf_length]
/-- A row, by the program: in order, or none. -/
def rowE (items : List (List UInt8)) (ns : List Int) : List UInt8 × Bool :=
  if ns.all okN = true then ((putE (ns.map numT ++ items)).1, decide ((putE (ns.map numT ++ items)).2 = 0 ∧ 0 < items.length)) else ([], false)
theorem row_spec {items : List (List UInt8)} {ns : List Int} (hb : ∀ t ∈ items, t.length ≤ 140737488355328) (hi : items.length ≤ 8796093022000) (hn : ns.length ≤ 100) : cut_row.f items ns = some (rowE items ns) := by
  unfold cut_row.f rowE
  have step : ∀ i, (hi : i < ns.length) → cut_row.b1 items ns ((ns.take i).map numT) (i : Int) = if okN ns[i] = true then some (.inl (((ns.take (i + 1)).map numT), ((i + 1 : Nat) : Int))) else some (.inr (.inr (([] : List UInt8), false))) := by
    intro i hi
    unfold cut_row.b1 term_Number.f
    rw [cond_t (by omega), idxL_lt hi, Option.bind_some]
    by_cases h : okN ns[i] = true
    · have h' := h
      unfold okN at h'
      rw [decide_eq_true_eq] at h'
      rw [if_pos h, show (cond (decide (ns[i] < (0 : Int))) true (decide (ns[i] > (2147483647 : Int)))) = false by rw [decide_eq_false (by omega), decide_eq_false (by omega)]; rfl, cond_false, Option.bind_some, room_of (by simp; omega), wrap1 i (by omega), Eng.u64_id (by omega) (by omega)]
      rw [← take_map numT hi]; rfl
    · have h' := h
      unfold okN at h'
      rw [decide_eq_true_eq] at h'
      rw [if_neg h, show (cond (decide (ns[i] < (0 : Int))) true (decide (ns[i] > (2147483647 : Int)))) = true by
        by_cases q : ns[i] < 0
        · rw [decide_eq_true q]; rfl
        · rw [decide_eq_false q, decide_eq_true (by omega)]; rfl, cond_true]
  by_cases hall : ns.all okN = true
  · rw [if_pos hall]
    have hL : loopM (fun s247 : (List (List UInt8)) × Int => cut_row.b1 items ns s247.1 s247.2) (([] : List (List UInt8)), (0 : Int)) = some (Sum.inl (ns.map numT)) := by
      refine loop_count (fun i => ((ns.take i).map numT, (i : Int))) ns.length (fun i hi => ?_) ?_
      · show cut_row.b1 items ns ((ns.take i).map numT) (i : Int) = _
        rw [step i hi, if_pos (List.all_eq_true.1 hall _ (List.getElem_mem hi))]
      · show cut_row.b1 items ns ((ns.take ns.length).map numT) (ns.length : Int) = _
        unfold cut_row.b1
        rw [cond_f (by omega), List.take_length]
    rw [hL, Option.bind_some]
    show cut_row.k2 items (ns.map numT) = _
    unfold cut_row.k2
    rw [room_of (by simp; omega), put_spec (by
      intro t ht
      rcases List.mem_append.1 ht with q | q
      · obtain ⟨n, _, rfl⟩ := List.mem_map.1 q; rw [num_len]; omega
      · exact hb t q), Option.bind_some]
    congr 2
    by_cases h0 : (putE (ns.map numT ++ items)).2 = 0
    · rw [h0, show ((0 : Int) == 0) = true from rfl, cond_true]
      simp
    · rw [show ((putE (ns.map numT ++ items)).2 == 0) = false from beq_eq_false_iff_ne.2 h0, cond_false]
      simp [h0]
  · rw [if_neg hall]
    obtain ⟨i, hi, hbad, hgood⟩ : ∃ i, ∃ hi : i < ns.length, okN ns[i] = false ∧ ∀ j (hj : j < ns.length), j < i → okN ns[j] = true := by
      clear step
      induction ns with
      | nil => simp at hall
      | cons n ns ih =>
        by_cases h : okN n = true
        · have : ¬ ns.all okN = true := fun q => hall (by rw [List.all_cons, h, q]; rfl)
          obtain ⟨i, hi, h1, h2⟩ := ih (by simp at hn; omega) this
          refine ⟨i + 1, by simpa using hi, h1, ?_⟩
          intro j hj hji
          cases j with
          | zero => exact h
          | succ j => exact h2 j (by simpa using hj) (by omega)
        · exact ⟨0, by simp, by simpa using h, fun j _ hj => by omega⟩
    have hL : loopM (fun s247 : (List (List UInt8)) × Int => cut_row.b1 items ns s247.1 s247.2) (([] : List (List UInt8)), (0 : Int)) = some (Sum.inr (([] : List UInt8), false)) := by
      refine loop_count (fun i => ((ns.take i).map numT, (i : Int))) i (fun j hj => ?_) ?_
      · show cut_row.b1 items ns ((ns.take j).map numT) (j : Int) = _
        rw [step j (by omega), if_pos (hgood j (by omega) hj)]
      · show cut_row.b1 items ns ((ns.take i).map numT) (i : Int) = _
        rw [step i hi, if_neg (by rw [hbad]; decide)]
    rw [hL]; rfl
/-! A row taken. -/
def numsE : List (List UInt8) → Option (List Int)
  | [] => some []
  | t :: ts => if (valueE t).2 = true ∧ (valueE t).1 ≤ 2147483647 ∧ kindB t = 117 then (numsE ts).map ((valueE t).1 :: ·) else none
def unrowE (many : Nat) (t : List UInt8) : Option (List Int × List (List UInt8)) :=
  match takeL 150 t with
  | none => none
  | some l => if l.length ≤ many then none else (numsE (l.take many)).map (fun ns => (ns, l.drop many))
def unrowR (many : Nat) (t : List UInt8) : List Int × List (List UInt8) × Bool := match unrowE many t with | some (ns, items) => (ns, items, true) | none => ([], [], false)
theorem value_int (t : List UInt8) : 0 ≤ (valueE t).1 := by
  unfold valueE; split <;> simp
theorem unrow_loop (x1 : Int) (y1 : (List (List UInt8)) × Int) (ts : List (List UInt8)) (hts : ∀ t ∈ ts, t.length ≤ 20000) (hn : ts.length ≤ 1000) : ∀ (k i : Nat) (acc : List Int), i + k = ts.length → acc.length = i →
    loopM (fun q : (List Int) × Int => cut_unrow.b2 x1 y1 ts q.1 q.2) (acc, (i : Int)) = some (match numsE (ts.drop i) with | some ns => .inl (acc ++ ns) | none => .inr (([] : List Int), ([] : List (List UInt8)), false)) := by
  intro k
  induction k with
  | zero =>
    intro i acc hi ha
    rw [List.drop_of_length_le (by omega)]
    refine loop_end ?_
    show cut_unrow.b2 x1 y1 ts acc (i : Int) = _
    unfold cut_unrow.b2
    rw [cond_f (by omega)]
    simp [numsE]
  | succ k ih =>
    intro i acc hi ha
    have hil : i < ts.length := by omega
    have hlen := hts _ (List.getElem_mem hil)
    rw [List.drop_eq_getElem_cons hil]
    unfold numsE
    have hv := value_int ts[i]
    have hbody : cut_unrow.b2 x1 y1 ts acc (i : Int) = if (valueE ts[i]).2 = true ∧ (valueE ts[i]).1 ≤ 2147483647 ∧ kindB ts[i] = 117 then some (.inl (acc ++ [(valueE ts[i]).1], ((i + 1 : Nat) : Int))) else some (.inr (.inr (([] : List Int), ([] : List (List UInt8)), false))) := by
      unfold cut_unrow.b2 cut_unrow.k1
      rw [cond_t (by omega), idxL_lt hil, Option.bind_some, (value_spec (by omega)).1, Option.bind_some]
      by_cases h1 : (valueE ts[i]).2 = true
      · rw [h1, Bool.not_true, cond_false]
        by_cases h2 : (valueE ts[i]).1 ≤ 2147483647
        · rw [decide_eq_false (show ¬ (valueE ts[i]).1 > 2147483647 by omega)]
          simp only [cond_false]
          rw [(kind_spec (by omega)).1, Option.bind_some]
          by_cases h3 : kindB ts[i] = 117
          · rw [if_pos ⟨trivial, h2, h3⟩, h3, show ((117 : Int) != 117) = false from rfl, cond_false, room_of (by omega), Eng.i64_id (by omega) (by omega), wrap1 i (by omega)]
          · rw [if_neg (fun q : _ ∧ _ ∧ _ => h3 q.2.2), show (kindB ts[i] != (117 : Int)) = true from bne_iff_ne.2 h3, cond_true]
        · rw [decide_eq_true (show (valueE ts[i]).1 > 2147483647 by omega), if_neg (fun q : _ ∧ _ ∧ _ => h2 q.2.1)]
          rfl
      · rw [if_neg (fun q => h1 q.1), show (valueE ts[i]).2 = false by simpa using h1]
        rfl
    by_cases hc : (valueE ts[i]).2 = true ∧ (valueE ts[i]).1 ≤ 2147483647 ∧ kindB ts[i] = 117
    · rw [if_pos hc] at hbody ⊢
      refine loop_step hbody ?_
      rw [ih (i + 1) _ (by omega) (by rw [List.length_append]; simp; omega)]
      cases numsE (ts.drop (i + 1)) with
      | none => rfl
      | some ns => simp
    · rw [if_neg hc] at hbody ⊢
      exact loop_end hbody
theorem unrow_spec {t : List UInt8} (ht : t.length ≤ 140737488355328) {many : Nat} (hm : many ≤ 100) : cut_unrow.f t (many : Int) = some (unrowR many t) := by
  unfold cut_unrow.f unrowR unrowE
  rw [ltake_spec ht, Option.bind_some]
  unfold takeR
  cases hl : takeL 150 t with
  | none => rfl
  | some l =>
    obtain ⟨h1, h2, h3, h4⟩ := takeL_put 150 t l hl
    simp only [bne_self_eq_false, cond_false]
    by_cases hlm : l.length ≤ many
    · rw [if_pos hlm, decide_eq_true (show (l.length : Int) ≤ (many : Int) by omega)]; rfl
    · rw [if_neg hlm, decide_eq_false (show ¬ (l.length : Int) ≤ (many : Int) by omega), cond_false, show (0 : Int) = ((0 : Nat) : Int) from rfl, slc_lt (Nat.zero_le _) (by omega), Option.bind_some, Nat.sub_zero, List.drop_zero]
      have hL := unrow_loop (many : Int) (l, ((0 : Nat) : Int)) (l.take many) (fun x hx => (rightB_len (h3 x (List.mem_of_mem_take hx))).2) (by rw [List.length_take]; omega) (l.take many).length 0 [] (by omega) rfl
      rw [hL, Option.bind_some, List.drop_zero]
      cases numsE (l.take many) with
      | none => rfl
      | some ns =>
        show cut_unrow.k3 (many : Int) (l, ((0 : Nat) : Int)) ([] ++ ns) = _
        unfold cut_unrow.k3
        rw [slc_to (by show many ≤ l.length; omega)]; rfl
end Go.Proofs.Ytgomlcfoifkdiaa.G
