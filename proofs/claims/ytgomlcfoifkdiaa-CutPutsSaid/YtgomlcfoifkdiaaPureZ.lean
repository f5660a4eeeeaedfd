/- Logs and parts as terms, and of terms, by the reference. -/
import Derived.Test.YtgomlcfoifkdiaaPureX
namespace Go.Proofs.Ytgomlcfoifkdiaa.G
open Go.RowKit Go.Eng Go.Proofs Go.Proofs.Ytgomlcfoifkdiaa.Cut
set_option linter.unusedVariables false
set_option linter.unusedSimpArgs false

/-! The reference's rows. -/
def preT : List (List UInt8) → List UInt8
  | [] => []
  | t :: ts => 112 :: (t ++ preT ts)
theorem preT_snoc (t : List UInt8) : ∀ l : List (List UInt8), preT (l ++ [t]) = (preT l ++ [112]) ++ t
  | [] => by simp [preT]
  | a :: l => by
    rw [List.cons_append]
    unfold preT
    rw [preT_snoc t l]; simp
theorem putT_pre : ∀ l : List (List UInt8), putT l = preT l ++ countedT 117 0
  | [] => rfl
  | a :: l => by rw [putT_cons, putT_pre l]; simp [preT]
theorem preT_len (n : Nat) : ∀ (l : List (List UInt8)), (∀ t ∈ l, t.length ≤ n) → (preT l).length ≤ (n + 1) * l.length
  | [], _ => by simp [preT]
  | a :: l, h => by
    have := preT_len n l (fun t ht => h t (List.mem_cons_of_mem _ ht))
    have := h a List.mem_cons_self
    unfold preT
    rw [List.length_cons, List.length_append, List.length_cons, Nat.mul_add]; omega
theorem rput_spec {l : List (List UInt8)} (hb : ∀ t ∈ l, t.length ≤ 140737488355328) (hl : l.length ≤ 8796093030000) : gemotref4_Put.f l = some (putE l) := by
  unfold gemotref4_Put.f
  have step : ∀ i, (hi : i < l.length) → (preT (l.take i)).length ≤ 20001 * i → gemotref4_Put.b1 l (preT (l.take i)) (i : Int) = if rightB l[i] = true then some (.inl (preT (l.take (i + 1)), ((i + 1 : Nat) : Int))) else some (.inr (.inr (([] : List UInt8), (1 : Int)))) := by
    intro i hi hpre
    have hm := hb _ (List.getElem_mem hi)
    unfold gemotref4_Put.b1
    rw [cond_t (by omega), idxL_lt hi, Option.bind_some, rright_spec hm, Option.bind_some]
    by_cases hr : rightB l[i] = true
    · have hlen := rightB_len hr
      rw [hr, Bool.not_true, cond_false, if_pos rfl, cat_of (by simp; omega), Option.bind_some, cat_of (by simp; omega), wrap1 i (by omega), ← preT_snoc, take_snoc hi]
    · rw [show rightB l[i] = false by simpa using hr]; rfl
  have pre : ∀ i, i ≤ l.length → (∀ j (hj : j < l.length), j < i → rightB l[j] = true) → (preT (l.take i)).length ≤ 20001 * i := by
    intro i hi h
    have := preT_len 20000 (l.take i) (fun t ht => by
      obtain ⟨j, hj, rfl⟩ := List.getElem_of_mem ht
      rw [List.length_take] at hj
      rw [List.getElem_take]
      exact (rightB_len (h j (by omega) (by omega))).2)
    rw [List.length_take] at this
    omega
  by_cases hall : ∀ j, j < l.length → ∃ hj : j < l.length, rightB l[j] = true
  · have hL : loopM (fun s196 : (List UInt8) × Int => gemotref4_Put.b1 l s196.1 s196.2) (([] : List UInt8), (0 : Int)) = some (Sum.inl (preT l)) := by
      refine loop_count (fun i => (preT (l.take i), (i : Int))) l.length (fun i hi => ?_) ?_
      · show gemotref4_Put.b1 l (preT (l.take i)) (i : Int) = _
        rw [step i hi (pre i (by omega) (fun j hj _ => (hall j hj).2)), if_pos (hall i hi).2]
      · show gemotref4_Put.b1 l (preT (l.take l.length)) (l.length : Int) = _
        unfold gemotref4_Put.b1
        rw [cond_f (by omega), List.take_length]
    rw [hL, Option.bind_some]
    show gemotref4_Put.k2 l (preT l) = _
    unfold gemotref4_Put.k2 putE
    by_cases h1 : 150 < l.length
    · rw [if_pos h1, cond_t (by omega)]
    · have hr : ∀ t ∈ l, rightB t = true := fun t ht => by obtain ⟨j, hj, rfl⟩ := List.getElem_of_mem ht; exact (hall j hj).2
      have hpl := preT_len 20000 l (fun t ht => (rightB_len (hr t ht)).2)
      have h9 : (countedT 117 0).length = 9 := by simp [countedT, bytesOf_length]
      rw [if_neg h1, cond_f (by omega), if_neg (any_of_rights hr), rnumber_eq, Option.bind_some, room_of (by omega), ← putT_pre]
      by_cases h2 : 20000 < (putT l).length
      · rw [if_pos h2, cond_t (by omega)]
      · rw [if_neg h2, cond_f (by omega), rright_spec (by omega), Option.bind_some]
        cases rightB (putT l) <;> rfl
  · obtain ⟨j, hj, hn, hb2⟩ := least_not hall
    have hgood : ∀ i (hi : i < l.length), i < j → rightB l[i] = true := fun i hi hij => (hb2 i hij).2
    have hbad : ¬ rightB l[j] = true := fun q => hn ⟨hj, q⟩
    have hL : loopM (fun s196 : (List UInt8) × Int => gemotref4_Put.b1 l s196.1 s196.2) (([] : List UInt8), (0 : Int)) = some (Sum.inr (([] : List UInt8), (1 : Int))) := by
      refine loop_count (fun i => (preT (l.take i), (i : Int))) j (fun i hi => ?_) ?_
      · show gemotref4_Put.b1 l (preT (l.take i)) (i : Int) = _
        rw [step i (by omega) (pre i (by omega) (fun m hm hmi => hgood m hm (by omega))), if_pos (hgood i (by omega) hi)]
      · show gemotref4_Put.b1 l (preT (l.take j)) (j : Int) = _
        rw [step j hj (pre j (by omega) hgood), if_neg hbad]
    rw [hL]
    have hany : l.any (fun t => !rightB t) = true := List.any_eq_true.2 ⟨l[j], List.getElem_mem hj, by simpa using hbad⟩
    unfold putE
    by_cases h1 : 150 < l.length
    · rw [if_pos h1]; rfl
    · rw [if_neg h1, if_pos hany]; rfl
/-- A row, by the reference: what it is, or an error. -/
theorem rrow_spec {items : List (List UInt8)} {ns : List Int} (hb : ∀ t ∈ items, t.length ≤ 140737488355328) (hi : items.length ≤ 8796093022000) (hn : ns.length ≤ 100) : ∃ t e, gemotref11_row.f ns items = some (t, e) ∧ (e = 0 ∨ e = 1) ∧ rowO items ns = if ns.all okN = true ∧ e = 0 then some t else none := by
  have hL : loopM (fun s238 : (List (List UInt8)) × Int => gemotref11_row.b1 ns items s238.1 s238.2) (([] : List (List UInt8)), (0 : Int)) = some (ns.map fun n => numT (IntKind.u64.wrap n)) := by
    refine loop_count (fun i => ((ns.take i).map (fun n => numT (IntKind.u64.wrap n)), (i : Int))) ns.length (fun i hi => ?_) ?_
    · show gemotref11_row.b1 ns items ((ns.take i).map _) (i : Int) = _
      unfold gemotref11_row.b1
      rw [cond_t (by omega), idxL_lt hi, Option.bind_some, rnumber_eq, Option.bind_some, room_of (by simp; omega), wrap1 i (by omega), ← take_map (fun n => numT (IntKind.u64.wrap n)) hi]
      rfl
    · show gemotref11_row.b1 ns items ((ns.take ns.length).map _) (ns.length : Int) = _
      unfold gemotref11_row.b1
      rw [cond_f (by omega), List.take_length]
  have hf : gemotref11_row.f ns items = some (if (putE ((ns.map fun n => numT (IntKind.u64.wrap n)) ++ items)).2 = 0 ∧ 0 < items.length then ((putE ((ns.map fun n => numT (IntKind.u64.wrap n)) ++ items)).1, (0 : Int)) else (([] : List UInt8), (1 : Int))) := by
    unfold gemotref11_row.f
    rw [hL, Option.bind_some]
    unfold gemotref11_row.k2
    rw [room_of (by simp; omega), rput_spec (by
      intro t ht
      rcases List.mem_append.1 ht with q | q
      · obtain ⟨n, _, rfl⟩ := List.mem_map.1 q; rw [num_len]; omega
      · exact hb t q) (by simp; omega), Option.bind_some]
    by_cases h0 : (putE ((ns.map fun n => numT (IntKind.u64.wrap n)) ++ items)).2 = 0
    · rw [h0, show ((0 : Int) != 0) = false from rfl, cond_false]
      by_cases h1 : 0 < items.length
      · rw [if_pos ⟨rfl, h1⟩, show ((items.length : Int) == (0 : Int)) = false from beq_eq_false_iff_ne.2 (by omega)]; rfl
      · rw [if_neg (fun q => h1 q.2), show ((items.length : Int) == (0 : Int)) = true from beq_iff_eq.2 (by omega)]; rfl
    · rw [if_neg (fun q => h0 q.1), show ((putE ((ns.map fun n => numT (IntKind.u64.wrap n)) ++ items)).2 != 0) = true from bne_iff_ne.2 h0]; rfl
  have hw : ns.all okN = true → (ns.map fun n => numT (IntKind.u64.wrap n)) = ns.map numT := by
    intro h
    refine List.map_congr_left fun n hn => ?_
    have := List.all_eq_true.1 h n hn
    unfold okN at this
    rw [decide_eq_true_eq] at this
    rw [Eng.u64_id (by omega) (by omega)]
  unfold rowO rowE
  by_cases hall : ns.all okN = true
  · rw [hw hall] at hf
    rw [if_pos hall]
    by_cases hc : (putE (ns.map numT ++ items)).2 = 0 ∧ 0 < items.length
    · rw [if_pos hc] at hf
      refine ⟨_, _, hf, .inl rfl, ?_⟩
      simp only
      rw [if_pos (decide_eq_true hc), if_pos ⟨hall, trivial⟩]
    · rw [if_neg hc] at hf
      refine ⟨_, _, hf, .inr rfl, ?_⟩
      simp only
      rw [if_neg (by rw [decide_eq_false hc]; decide), if_neg (fun q => by have := q.2; cases this)]
  · rw [if_neg hall]
    split at hf
    · exact ⟨_, _, hf, .inl rfl, by rw [if_neg (by decide), if_neg (fun q => hall q.1)]⟩
    · exact ⟨_, _, hf, .inr rfl, by rw [if_neg (by decide), if_neg (fun q => hall q.1)]⟩
theorem rcutPut_spec {l : List D_gemotref11_Log} (hl : l.length ≤ 1000000) (h1 : ∀ g ∈ l, g.2.length ≤ 8796093022000) (h2 : ∀ g ∈ l, ∀ t ∈ g.2, t.length ≤ 140737488355328) : gemotref11_Put.f l = some (match logsE 0 l with | some x => (x, 0) | none => ([], 1)) := by
  unfold gemotref11_Put.f
  have key : ∀ k i acc (last : Int), i + k = l.length → acc.length = i → ((i = 0 ∧ last = 0) ∨ (0 < i ∧ 1 ≤ last ∧ ∃ hj : i - 1 < l.length, last = l[i - 1].1)) → loopM (fun s3793 : (List (List UInt8)) × Int => gemotref11_Put.b2 l s3793.1 s3793.2) (acc, (i : Int)) = some (match logsE last (l.drop i) with | some x => .inl (acc ++ x) | none => .inr (([] : List (List UInt8)), (1 : Int))) := by
    intro k
    induction k with
    | zero =>
      intro i acc last hi ha _
      obtain rfl : i = l.length := by omega
      rw [List.drop_length]
      refine loop_end ?_
      show gemotref11_Put.b2 l acc (l.length : Int) = _
      unfold gemotref11_Put.b2
      rw [cond_f (by omega)]; simp [logsE]
    | succ k ih =>
      intro i acc last hi ha hlast
      have hil : i < l.length := by omega
      have hm := List.getElem_mem hil
      obtain ⟨t, e, hr, he, hO⟩ := rrow_spec (ns := [l[i].1]) (h2 _ hm) (h1 _ hm) (by simp)
      have hlast0 : 0 ≤ last := by rcases hlast with ⟨_, q⟩ | ⟨_, q, _⟩ <;> omega
      rw [List.drop_eq_getElem_cons hil]
      unfold logsE
      have hbody : gemotref11_Put.b2 l acc (i : Int) = if e = 0 ∧ ¬ (l[i].1 ≤ last ∨ 8 < l[i].1) then some (.inl (acc ++ [t], ((i + 1 : Nat) : Int))) else some (.inr (.inr (([] : List (List UInt8)), (1 : Int)))) := by
        unfold gemotref11_Put.b2 gemotref11_Put.k1
        rw [cond_t (by omega), idxL_lt hil, Option.bind_some, Option.bind_some, hr, Option.bind_some]
        rcases he with rfl | rfl
        · simp only [bne_self_eq_false, cond_false, Option.bind_some]
          by_cases q1 : l[i].1 < 1
          · rw [decide_eq_true q1, if_neg (fun q => q.2 (.inl (by omega)))]; rfl
          · rw [decide_eq_false q1]
            simp only [cond_false]
            by_cases q2 : l[i].1 > 8
            · rw [decide_eq_true q2, if_neg (fun q => q.2 (.inr (by omega)))]; rfl
            · rw [decide_eq_false q2]
              simp only [cond_false]
              rcases hlast with ⟨rfl, rfl⟩ | ⟨hi0, _, hj, hlj⟩
              · rw [if_pos ⟨trivial, by omega⟩, show (decide (((0 : Nat) : Int) > (0 : Int))) = false from rfl]
                simp only [cond_false]
                rw [room_of (by omega), wrap1 0 (by omega)]
              · have ew : IntKind.i64.wrap ((i : Int) - (1 : Int)) = ((i - 1 : Nat) : Int) := by rw [Eng.i64_id (by omega) (by omega)]; omega
                rw [decide_eq_true (show (i : Int) > 0 by omega), cond_true, ew, idxL_lt hj, Option.bind_some, ← hlj]
                simp only [cond_true]
                by_cases q3 : l[i].1 ≤ last
                · rw [decide_eq_true q3, if_neg (fun q => q.2 (.inl q3))]; rfl
                · rw [decide_eq_false q3, if_pos ⟨trivial, by omega⟩, cond_false, room_of (by omega), wrap1 i (by omega)]
        · rw [if_neg (fun q => by have := q.1; cases this)]
          rfl
      by_cases hc : e = 0 ∧ ¬ (l[i].1 ≤ last ∨ 8 < l[i].1)
      · rw [if_pos hc] at hbody
        have hok : [l[i].1].all okN = true := by
          rw [List.all_cons, List.all_nil, Bool.and_true]
          unfold okN
          rw [decide_eq_true_eq]; omega
        rw [hO, if_pos ⟨hok, hc.1⟩]
        simp only
        rw [if_neg hc.2]
        refine loop_step hbody ?_
        rw [ih (i + 1) (acc ++ [t]) l[i].1 (by omega) (by simp; omega) (.inr ⟨by omega, by omega, by simpa using hil, by simp⟩)]
        cases logsE l[i].1 (l.drop (i + 1)) with
        | none => rfl
        | some x => simp
      · rw [if_neg hc] at hbody
        refine (loop_end hbody).trans ?_
        by_cases hc2 : [l[i].1].all okN = true ∧ e = 0
        · rw [hO, if_pos hc2]
          simp only
          rw [if_pos (Classical.byContradiction fun q => hc ⟨hc2.2, q⟩)]
        · rw [hO, if_neg hc2]
  have h := key l.length 0 [] 0 (by omega) rfl (.inl ⟨rfl, rfl⟩)
  rw [show loopM (fun s3793 : (List (List UInt8)) × Int => gemotref11_Put.b2 l s3793.1 s3793.2) (([] : List (List UInt8)), (0 : Int)) = _ from h, List.drop_zero]
  cases logsE 0 l with
  | none => rfl
  | some x => rfl

/-! The reference's Take. -/
theorem runrow_spec {t : List UInt8} (ht : t.length ≤ 140737488355328) {many : Nat} (hm : many ≤ 100) : gemotref11_unrow.f t (many : Int) = some (unrowR many t) := by
  unfold gemotref11_unrow.f unrowR unrowE
  rw [rtake4_spec ht, Option.bind_some]
  unfold takeR
  cases hl : takeL 150 t with
  | none => rfl
  | some l =>
    obtain ⟨h1, h2, h3, h4⟩ := takeL_put 150 t l hl
    simp only [bne_self_eq_false, cond_false]
    by_cases hlm : l.length ≤ many
    · rw [if_pos hlm, decide_eq_true (show (l.length : Int) ≤ (many : Int) by omega)]; rfl
    · rw [if_neg hlm, decide_eq_false (show ¬ (l.length : Int) ≤ (many : Int) by omega), cond_false]
      have key : ∀ k i acc, i + k = many → acc.length = i → loopM (fun s1043 : (List Int) × Int => gemotref11_unrow.b2 (many : Int) (l, 0) s1043.1 s1043.2) (acc, (i : Int)) = some (match numsE ((l.take many).drop i) with | some ns => .inl (acc ++ ns) | none => .inr (([] : List Int), ([] : List (List UInt8)), false)) := by
        intro k
        induction k with
        | zero =>
          intro i acc hi ha
          rw [List.drop_of_length_le (by rw [List.length_take]; omega)]
          refine loop_end ?_
          show gemotref11_unrow.b2 (many : Int) (l, 0) acc (i : Int) = _
          unfold gemotref11_unrow.b2
          rw [cond_f (by omega)]
          simp [numsE]
        | succ k ih =>
          intro i acc hi ha
          have hil : i < l.length := by omega
          have hit : i < (l.take many).length := by rw [List.length_take]; omega
          have hri := h3 _ (List.getElem_mem hil)
          have hlen := rightB_len hri
          rw [List.drop_eq_getElem_cons hit, List.getElem_take]
          unfold numsE
          have hv := value_int l[i]
          have hbody : gemotref11_unrow.b2 (many : Int) (l, 0) acc (i : Int) = if (valueE l[i]).2 = true ∧ (valueE l[i]).1 ≤ 2147483647 ∧ kindB l[i] = 117 then some (.inl (acc ++ [(valueE l[i]).1], ((i + 1 : Nat) : Int))) else some (.inr (.inr (([] : List Int), ([] : List (List UInt8)), false))) := by
            unfold gemotref11_unrow.b2 gemotref11_unrow.k1
            rw [cond_t (by omega), idxL_lt hil, Option.bind_some, (value_spec (by omega)).2, Option.bind_some]
            by_cases h1 : (valueE l[i]).2 = true
            · rw [h1, Bool.not_true, cond_false]
              by_cases h2 : (valueE l[i]).1 ≤ 2147483647
              · rw [decide_eq_false (show ¬ (valueE l[i]).1 > 2147483647 by omega)]
                simp only [cond_false]
                have hx : idxS l[i] (0 : Int) = some (kindB l[i]) := by
                  unfold kindB
                  rw [if_pos hri]
                  cases hc : l[i] with
                  | nil => rw [hc] at hlen; simp at hlen
                  | cons c r => rfl
                rw [Option.bind_some, hx, Option.bind_some]
                by_cases h3 : kindB l[i] = 117
                · rw [if_pos ⟨trivial, h2, h3⟩, h3, show ((117 : Int) != 117) = false from rfl, cond_false, room_of (by omega), Eng.i64_id (by omega) (by omega), wrap1 i (by omega)]
                · rw [if_neg (fun q : _ ∧ _ ∧ _ => h3 q.2.2), show (kindB l[i] != (117 : Int)) = true from bne_iff_ne.2 h3, cond_true]
              · rw [decide_eq_true (show (valueE l[i]).1 > 2147483647 by omega), if_neg (fun q : _ ∧ _ ∧ _ => h2 q.2.1)]
                rfl
            · rw [if_neg (fun q => h1 q.1), show (valueE l[i]).2 = false by simpa using h1]
              rfl
          by_cases hc : (valueE l[i]).2 = true ∧ (valueE l[i]).1 ≤ 2147483647 ∧ kindB l[i] = 117
          · rw [if_pos hc] at hbody ⊢
            refine loop_step hbody ?_
            rw [ih (i + 1) _ (by omega) (by rw [List.length_append]; simp; omega)]
            cases numsE ((l.take many).drop (i + 1)) with
            | none => rfl
            | some ns => simp
          · rw [if_neg hc] at hbody ⊢
            exact loop_end hbody
      have hL := key many 0 [] (by omega) rfl
      rw [show loopM (fun s1043 : (List Int) × Int => gemotref11_unrow.b2 (many : Int) (l, 0) s1043.1 s1043.2) (([] : List Int), (0 : Int)) = _ from hL, Option.bind_some, List.drop_zero]
      cases numsE (l.take many) with
      | none => rfl
      | some ns =>
        show gemotref11_unrow.k3 (many : Int) (l, 0) ([] ++ ns) = _
        unfold gemotref11_unrow.k3
        rw [slc_to (by show many ≤ l.length; omega)]; rfl
def untakeO (t : List UInt8) : Option D_cut_Log := match unrowE 1 t with | some (ns, items) => some (ns.headD 0, items) | none => none
theorem untakeO_cons {n : Int} {t : List UInt8} {items : List (List UInt8)} (h : unrowE 1 t = some ([n], items)) : untakeO t = some (n, items) := by
  unfold untakeO; rw [h]; rfl
theorem takeLogs_mapO : ∀ (ts : List (List UInt8)) (last : Int), takeLogs last ts = match mapO untakeO ts with | some x => (if (logsE last x).isSome = true then some x else none) | none => none
  | [], last => rfl
  | t :: ts, last => by
    unfold mapO
    cases hu : unrowE 1 t with
    | none =>
      rw [takeLogs_none hu, show untakeO t = none by unfold untakeO; rw [hu]]
    | some q =>
      obtain ⟨ns, items⟩ := q
      obtain ⟨hr, hlen⟩ := row_unrow hu
      obtain ⟨n, rfl⟩ : ∃ n, ns = [n] := List.length_eq_one_iff.1 hlen
      rw [takeLogs_cons hu, untakeO_cons hu, takeLogs_mapO ts n]
      simp only
      cases hm : mapO untakeO ts with
      | none => simp
      | some x =>
        show _ = if (logsE last ((n, items) :: x)).isSome = true then _ else _
        have hE : logsE last ((n, items) :: x) = if n ≤ last ∨ 8 < n then none else (logsE n x).map (t :: ·) := by
          conv => lhs; unfold logsE
          rw [show rowO (n, items).2 [(n, items).1] = some t from hr]
        rw [hE]
        by_cases hc : n ≤ last ∨ 8 < n
        · rw [if_pos hc, if_pos hc]; rfl
        · rw [if_neg hc, if_neg hc]
          show Option.map (fun y => (n, items) :: y) (if (logsE n x).isSome = true then some x else none) = _
          cases logsE n x <;> rfl
theorem untakeO_bounds : ∀ {ts : List (List UInt8)} {x : List D_cut_Log}, mapO untakeO ts = some x → ∀ g ∈ x, g.2.length ≤ 150 ∧ ∀ t ∈ g.2, t.length ≤ 20000
  | [], x, h => by cases h; intro g hg; simp at hg
  | t :: ts, x, h => by
    unfold mapO at h
    cases hu : unrowE 1 t with
    | none => rw [show untakeO t = none by unfold untakeO; rw [hu]] at h; cases h
    | some q =>
      obtain ⟨ns, items⟩ := q
      obtain ⟨hr, hlen⟩ := row_unrow hu
      obtain ⟨n, rfl⟩ : ∃ n, ns = [n] := List.length_eq_one_iff.1 hlen
      rw [untakeO_cons hu] at h
      cases hm : mapO untakeO ts with
      | none => rw [hm] at h; cases h
      | some zs =>
        rw [hm] at h
        cases h
        have hb := rowO_items hr
        intro g hg
        rcases List.mem_cons.1 hg with q | q
        · rw [q]; exact ⟨hb.1, hb.2.1⟩
        · exact untakeO_bounds hm g q
theorem rcutTake_spec {l : List (List UInt8)} (hl : l.length ≤ 1000000) (h1 : ∀ t ∈ l, t.length ≤ 140737488355328) : gemotref11_Take.f l = some (match takeLogs 0 l with | some x => (x, 0) | none => ([], 2)) := by
  have hL := each_loop (body := fun s368 : (List D_gemotref11_Log) × Int => gemotref11_Take.b1 l s368.1 s368.2) l untakeO (Sum.inr (([] : List D_gemotref11_Log), (2 : Int))) Sum.inl (fun i hi acc ha => by
    have hm := List.getElem_mem hi
    show gemotref11_Take.b1 l acc (i : Int) = _
    unfold gemotref11_Take.b1
    rw [cond_t (by omega), idxL_lt hi, Option.bind_some, show (1 : Int) = ((1 : Nat) : Int) from rfl, runrow_spec (h1 _ hm) (by omega), Option.bind_some]
    unfold unrowR
    cases hE : unrowE 1 l[i] with
    | none => rw [show untakeO l[i] = none by unfold untakeO; rw [hE]]; rfl
    | some q =>
      obtain ⟨ns, items⟩ := q
      obtain ⟨n, rfl⟩ : ∃ n, ns = [n] := List.length_eq_one_iff.1 (unrowE_len hE)
      rw [untakeO_cons hE]
      simp only [Bool.not_true, cond_false]
      rw [show idxL [n] (0 : Int) = some n from rfl, Option.bind_some, room_of (by omega), show (((1 : Nat) : Int)) = (1 : Int) from rfl, wrap1 i (by omega)]) (fun acc => by
    show gemotref11_Take.b1 l acc (l.length : Int) = _
    unfold gemotref11_Take.b1
    rw [cond_f (by omega)])
  rw [takeLogs_mapO]
  cases hm : mapO untakeO l with
  | none =>
    rw [hm] at hL
    unfold gemotref11_Take.f
    rw [hL]; rfl
  | some x =>
    rw [hm] at hL
    have hU : gemotref11_Take.f l = gemotref11_Take.k2 x := by
      unfold gemotref11_Take.f
      rw [hL]; rfl
    have hlen := mapO_len hm
    have hb := untakeO_bounds hm
    rw [hU]
    unfold gemotref11_Take.k2
    rw [rcutPut_spec (by omega) (fun g hg => by have := (hb g hg).1; omega) (fun g hg t ht => by have := (hb g hg).2 t ht; omega), Option.bind_some]
    simp only
    cases logsE 0 x <;> rfl
/-! The reference's parts. -/
theorem ahead_spec (x y : D_cut_Part) : gemotref11_ahead.f ((x.1.1, x.1.2), x.2.1, x.2.2) ((y.1.1, y.1.2), y.2.1, y.2.2) = some (decide (ltK x y)) := by
  unfold gemotref11_ahead.f gemotref10_Less.f
  simp only
  by_cases h1 : x.1.1 = y.1.1
  · rw [show (x.1.1 != y.1.1) = false by simp [h1], cond_false, Option.bind_some]
    congr 1
    rw [Bool.eq_iff_iff, decide_eq_true_eq]
    unfold ltK
    by_cases h2 : x.1.2 < y.1.2
    · simp [h1, h2]
    · by_cases h3 : x.1.2 = y.1.2
      · simp [h1, h3]
      · simp [h1, h2, h3]
  · rw [show (x.1.1 != y.1.1) = true by simp [h1], cond_true, Option.bind_some]
    congr 1
    rw [Bool.eq_iff_iff, decide_eq_true_eq]
    unfold ltK
    by_cases h2 : x.1.1 < y.1.1
    · simp [h1, h2]
    · simp [h1, h2]
theorem mapO_all {l : List D_cut_Part} : (∀ i (hi : i < l.length), ∃ t, partO l[i] = some t) → mapO partO l = some (l.map fun x => (partO x).getD []) := by
  induction l with
  | nil => intro _; rfl
  | cons x l ih =>
    intro h
    obtain ⟨t, ht⟩ := h 0 (by simp)
    have ht' : partO x = some t := ht
    unfold mapO
    rw [ht', ih (fun i hi => h (i + 1) (by simpa using hi))]
    simp [ht']
theorem mapO_none {l : List D_cut_Part} {i : Nat} (hi : i < l.length) (h : partO l[i] = none) : mapO partO l = none := by
  induction l generalizing i with
  | nil => simp at hi
  | cons x l ih =>
    unfold mapO
    cases i with
    | zero =>
      have h' : partO x = none := h
      rw [h']
    | succ i =>
      have := ih (i := i) (by simpa using hi) h
      cases partO x with
      | none => rfl
      | some t => rw [this]; rfl
theorem rcutParts_spec {l : List D_cut_Part} (hl : l.length ≤ 1000000) (h1 : ∀ x ∈ l, x.2.2.length ≤ 8796093022000) (h2 : ∀ x ∈ l, ∀ t ∈ x.2.2, t.length ≤ 140737488355328) : ∃ r, cut_Parts.f l = some r ∧ gemotref11_Parts.f l = some r := by
  have key := whileLoop (body := fun s1945 : (List (List UInt8)) × Int => gemotref11_Parts.b2 l s1945.1 s1945.2) (fun i => ((l.take i).map fun x => (partO x).getD [], (i : Int))) l.length (fun i => rightAt l i ∧ ∃ hi : i < l.length, ∃ t, partO l[i] = some t) (o1 := Sum.inl (l.map fun x => (partO x).getD [])) (o2 := Sum.inr (([] : List (List UInt8)), (1 : Int))) (fun i hi => by
    have hm := List.getElem_mem hi
    obtain ⟨t, e, hr, he, hO⟩ := rrow_spec (ns := [l[i].1.1, l[i].1.2, l[i].2.1]) (h2 _ hm) (h1 _ hm) (by simp)
    have hO' : partO l[i] = if [l[i].1.1, l[i].1.2, l[i].2.1].all okN = true ∧ e = 0 then some t else none := hO
    have hall : [l[i].1.1, l[i].1.2, l[i].2.1].all okN = true ↔ ((0 ≤ l[i].1.1 ∧ l[i].1.1 ≤ 2147483647) ∧ (0 ≤ l[i].1.2 ∧ l[i].1.2 ≤ 2147483647) ∧ (0 ≤ l[i].2.1 ∧ l[i].2.1 ≤ 2147483647)) := by
      simp [okN]
    have hbody : ∀ P : Prop, [Decidable P] → (P ↔ (rightAt l i ∧ ∃ hi : i < l.length, ∃ t, partO l[i] = some t)) → gemotref11_Parts.b2 l ((l.take i).map fun x => (partO x).getD []) (i : Int) = some (if P then .inl ((l.take i).map (fun x => (partO x).getD []) ++ [t], ((i + 1 : Nat) : Int)) else .inr (.inr (([] : List (List UInt8)), (1 : Int)))) → ((rightAt l i ∧ ∃ hi : i < l.length, ∃ t, partO l[i] = some t) ∧ (fun s1945 : (List (List UInt8)) × Int => gemotref11_Parts.b2 l s1945.1 s1945.2) ((l.take i).map (fun x => (partO x).getD []), (i : Int)) = some (.inl ((l.take (i + 1)).map (fun x => (partO x).getD []), ((i + 1 : Nat) : Int)))) ∨ (¬ (rightAt l i ∧ ∃ hi : i < l.length, ∃ t, partO l[i] = some t) ∧ (fun s1945 : (List (List UInt8)) × Int => gemotref11_Parts.b2 l s1945.1 s1945.2) ((l.take i).map (fun x => (partO x).getD []), (i : Int)) = some (.inr (.inr (([] : List (List UInt8)), (1 : Int))))) := by
      intro P _ hP hb
      by_cases h : P
      · rw [if_pos h] at hb
        refine .inl ⟨hP.1 h, hb.trans ?_⟩
        obtain ⟨_, _, t', ht'⟩ := hP.1 h
        have : t' = t := by
          rw [hO'] at ht'
          split at ht'
          · exact (Option.some.inj ht').symm
          · cases ht'
        rw [← take_map (fun x => (partO x).getD []) hi, ht', this]
        rfl
      · rw [if_neg h] at hb; exact .inr ⟨fun q => h (hP.2 q), hb⟩
    by_cases hA : e = 0 ∧ 1 ≤ l[i].2.1 ∧ l[i].2.1 ≤ 8 ∧ 0 ≤ l[i].1.1 ∧ l[i].1.1 ≤ 2147483647 ∧ 0 ≤ l[i].1.2 ∧ l[i].1.2 ≤ 8
    · obtain ⟨rfl, hA⟩ := hA
      have hpo : partO l[i] = some t := by rw [hO', if_pos ⟨hall.2 (by omega), rfl⟩]
      have hbase : gemotref11_Parts.b2 l ((l.take i).map fun x => (partO x).getD []) (i : Int) = cond (decide ((i : Int) > (0 : Int))) ((idxL l (IntKind.i64.wrap ((i : Int) - (1 : Int)))).bind fun y2184 => (gemotref11_ahead.f ((y2184.1.1, y2184.1.2), y2184.2.1, y2184.2.2) ((l[i].1.1, l[i].1.2), l[i].2.1, l[i].2.2)).bind fun y2195 => gemotref11_Parts.k1 l ((l.take i).map fun x => (partO x).getD []) (i : Int) (t, 0) (cond (decide ((i : Int) > (0 : Int))) (!y2195) false)) (gemotref11_Parts.k1 l ((l.take i).map fun x => (partO x).getD []) (i : Int) (t, 0) (cond (decide ((i : Int) > (0 : Int))) (!false) false)) := by
        unfold gemotref11_Parts.b2
        rw [cond_t (by omega), idxL_lt hi, Option.bind_some, hr, Option.bind_some]
        rw [show ((0 : Int) != (0 : Int)) = false from rfl, decide_eq_false (show ¬ l[i].2.1 < 1 by omega), decide_eq_false (show ¬ l[i].2.1 > 8 by omega), decide_eq_false (show ¬ l[i].1.1 < 0 by omega), decide_eq_false (show ¬ l[i].1.1 > 2147483647 by omega), decide_eq_false (show ¬ l[i].1.2 < 0 by omega), decide_eq_false (show ¬ l[i].1.2 > 8 by omega)]
        simp only [cond_false]
      cases i with
      | zero =>
        refine hbody True ⟨fun _ => ⟨⟨hi, by omega, fun h => absurd h (by omega)⟩, hi, t, hpo⟩, fun _ => trivial⟩ (hbase.trans ?_)
        unfold gemotref11_Parts.k1
        rw [cond_f (by omega), cond_f (by omega), cond_false, room_of (by simp), wrap1 0 (by omega), if_pos trivial]
      | succ j =>
        have hj : j < l.length := by omega
        have ew : IntKind.i64.wrap (((j + 1 : Nat) : Int) - (1 : Int)) = (j : Int) := by rw [Eng.i64_id (by omega) (by omega)]; omega
        refine hbody (ltK l[j] l[j + 1]) ⟨fun h => ⟨⟨hi, by omega, fun _ => ⟨hj, h⟩⟩, hi, t, hpo⟩, fun ⟨⟨_, _, h⟩, _⟩ => (h (by omega)).2⟩ (hbase.trans ?_)
        rw [cond_t (by omega), ew, idxL_lt hj, Option.bind_some, ahead_spec l[j] l[j + 1], Option.bind_some]
        unfold gemotref11_Parts.k1
        rw [cond_t (by omega)]
        by_cases hlt : ltK l[j] l[j + 1]
        · rw [decide_eq_true hlt, Bool.not_true, cond_false, room_of (by rw [List.length_map, List.length_take]; omega), wrap1 (j + 1) (by omega), if_pos hlt]
        · rw [decide_eq_false hlt, Bool.not_false, cond_true, if_neg hlt]
    · have hnot : ¬ (rightAt l i ∧ ∃ hi : i < l.length, ∃ t, partO l[i] = some t) := by
        rintro ⟨⟨_, h3, _⟩, _, t', ht'⟩
        rw [hO'] at ht'
        split at ht'
        · rename_i hq
          have := hall.1 hq.1
          exact hA ⟨hq.2, by omega⟩
        · cases ht'
      refine hbody False ⟨fun h => h.elim, hnot⟩ ?_
      have e1 : (cond (cond (cond (cond (cond (cond (e != (0 : Int)) true (decide (l[i].2.1 < (1 : Int)))) true (decide (l[i].2.1 > (8 : Int)))) true (decide (l[i].1.1 < (0 : Int)))) true (decide (l[i].1.1 > (2147483647 : Int)))) true (decide (l[i].1.2 < (0 : Int)))) true (decide (l[i].1.2 > (8 : Int)))) = true := by
        have hor : ∀ a b : Bool, cond a true b = (a || b) := fun a b => by cases a <;> rfl
        simp only [hor]
        apply Classical.byContradiction
        intro hq
        simp only [Bool.or_eq_true, decide_eq_true_eq, bne_iff_ne, not_or] at hq
        exact hA (by omega)
      unfold gemotref11_Parts.b2
      rw [cond_t (by omega), idxL_lt hi, Option.bind_some, hr, Option.bind_some]
      simp only [e1, cond_true]
      rfl) (by
    show gemotref11_Parts.b2 l ((l.take l.length).map _) (l.length : Int) = _
    unfold gemotref11_Parts.b2
    rw [cond_f (by omega), List.take_length])
  rcases key with ⟨g1, g2⟩ | ⟨g1, g2⟩
  · have hR : gemotref11_Parts.f l = some (l.map (fun x => (partO x).getD []), 0) := by
      unfold gemotref11_Parts.f
      rw [show loopM (fun s1945 : (List (List UInt8)) × Int => gemotref11_Parts.b2 l s1945.1 s1945.2) (([] : List (List UInt8)), (0 : Int)) = _ from g2]; rfl
    rcases cutParts_spec hl h1 h2 with ⟨_, e⟩ | ⟨hn, _⟩
    · rw [mapO_all (fun i hi => (g1 i hi).2.2)] at e
      exact ⟨_, e, hR⟩
    · exact absurd (fun i hi => (g1 i hi).1) hn
  · have hR : gemotref11_Parts.f l = some ([], 1) := by
      unfold gemotref11_Parts.f
      rw [show loopM (fun s1945 : (List (List UInt8)) × Int => gemotref11_Parts.b2 l s1945.1 s1945.2) (([] : List (List UInt8)), (0 : Int)) = _ from g2]; rfl
    refine ⟨_, ?_, hR⟩
    rcases cutParts_spec hl h1 h2 with ⟨hr, e⟩ | ⟨_, e⟩
    · cases hm : mapO partO l with
      | none => rw [hm] at e; exact e
      | some x =>
        exfalso
        refine g1 fun i hi => ⟨hr i hi, hi, ?_⟩
        cases hp : partO l[i] with
        | some t => exact ⟨t, rfl⟩
        | none => rw [mapO_none hi hp] at hm; cases hm
    · exact e
theorem rcutUnpart_spec {l : List (List UInt8)} (hl : l.length ≤ 1000000) (h1 : ∀ t ∈ l, t.length ≤ 140737488355328) : ∃ r, cut_Unpart.f l = some r ∧ gemotref11_Unpart.f l = some r := by
  have hL := each_loop (body := fun s459 : (List D_gemotref11_Part) × Int => gemotref11_Unpart.b1 l s459.1 s459.2) l unpartO (Sum.inr (([] : List D_gemotref11_Part), (2 : Int))) Sum.inl (fun i hi acc ha => by
    have hm := List.getElem_mem hi
    show gemotref11_Unpart.b1 l acc (i : Int) = _
    unfold gemotref11_Unpart.b1 unpartO
    rw [cond_t (by omega), idxL_lt hi, Option.bind_some, show (3 : Int) = ((3 : Nat) : Int) from rfl, runrow_spec (h1 _ hm) (by omega), Option.bind_some]
    unfold unrowR
    cases hE : unrowE 3 l[i] with
    | none => rfl
    | some q =>
      obtain ⟨ns, items⟩ := q
      obtain ⟨a, b, c, rfl⟩ := three (unrowE_len hE)
      simp only [Bool.not_true, cond_false]
      rw [show idxL [a, b, c] (0 : Int) = some a from rfl, Option.bind_some, show idxL [a, b, c] (1 : Int) = some b from rfl, Option.bind_some, show idxL [a, b, c] (2 : Int) = some c from rfl, Option.bind_some, room_of (by omega), wrap1 i (by omega)]
      rfl) (fun acc => by
    show gemotref11_Unpart.b1 l acc (l.length : Int) = _
    unfold gemotref11_Unpart.b1
    rw [cond_f (by omega)])
  have hU := cutUnpart_spec hl h1
  cases hm : mapO unpartO l with
  | none =>
    rw [hm] at hL hU
    refine ⟨_, hU, ?_⟩
    unfold gemotref11_Unpart.f
    rw [hL]; rfl
  | some ps =>
    rw [hm] at hL hU
    have hp := take_parts hm
    obtain ⟨b2, b3⟩ := parts_bounds hp
    have hlen := mapO_len hm
    have h1' : ∀ x ∈ ps, x.2.2.length ≤ 8796093022000 := fun g hg => by have := (b2 g hg).1; omega
    have h2' : ∀ x ∈ ps, ∀ t ∈ x.2.2, t.length ≤ 140737488355328 := fun g hg t ht => by have := (b2 g hg).2 t ht; omega
    have hk : gemotref11_Unpart.f l = gemotref11_Unpart.k2 ps := by
      unfold gemotref11_Unpart.f
      rw [hL]; rfl
    unfold gemotref11_Unpart.k2 at hk
    obtain ⟨r, e1, e2⟩ := rcutParts_spec (l := ps) (by omega) h1' h2'
    rw [e2, Option.bind_some] at hk
    rcases cutParts_spec (l := ps) (by omega) h1' h2' with ⟨hr, e3⟩ | ⟨hr, e3⟩
    · rw [hp] at e3
      obtain rfl : r = (l, 0) := by rw [e1] at e3; exact Option.some.inj e3
      rcases hU with ⟨_, e⟩ | ⟨hn, _⟩
      · exact ⟨_, e, hk⟩
      · exact absurd hr hn
    · obtain rfl : r = ([], 1) := by rw [e1] at e3; exact Option.some.inj e3
      rcases hU with ⟨hn, _⟩ | ⟨_, e⟩
      · exact absurd hn hr
      · exact ⟨_, e, hk⟩
end Go.Proofs.Ytgomlcfoifkdiaa.G
