/- Logs and parts as terms, and of terms, by the program. -/
import Derived.Test.YtgomlcfoifkdiaaPureW
import Derived.Test.YtgomlcfoifkdiaaPureC
namespace Go.Proofs.Ytgomlcfoifkdiaa.G
open Go.RowKit Go.Eng Go.Proofs Go.Proofs.Ytgomlcfoifkdiaa.Cut
set_option linter.unusedVariables false
set_option linter.unusedSimpArgs false

theorem idLt_dec (e c e' c' : Int) : idLt e c e' c' = decide (e < e' ∨ (e = e' ∧ c < c')) := by
  unfold idLt cmpI
  rw [Bool.eq_iff_iff]
  simp only [decide_eq_true_eq]
  by_cases h1 : e < e'
  · simp [h1]
  · by_cases h2 : e' < e
    · simp [h1, h2]; omega
    · have : e = e' := by omega
      subst this
      by_cases h3 : c < c'
      · simp [h3]
      · by_cases h4 : c' < c
        · simp [h3, h4]
        · simp [h3, h4]
/-! Logs and parts as terms, by the program. -/
def mapO {α β : Type} (f : α → Option β) : List α → Option (List β)
  | [] => some []
  | x :: xs => match f x with | none => none | some y => (mapO f xs).map (y :: ·)
theorem each_loop {α β O : Type} {body : List β × Int → Option ((List β × Int) ⊕ O)} (xs : List α) (f : α → Option β) (bad : O) (good : List β → O)
    (hs : ∀ (i : Nat) (hi : i < xs.length) (acc : List β), acc.length = i → body (acc, (i : Int)) = some (match f xs[i] with | some y => .inl (acc ++ [y], ((i + 1 : Nat) : Int)) | none => .inr bad))
    (he : ∀ acc, body (acc, (xs.length : Int)) = some (.inr (good acc))) : loopM body (([] : List β), (0 : Int)) = some (match mapO f xs with | some ys => good ys | none => bad) := by
  have key : ∀ k i acc, i + k = xs.length → acc.length = i → loopM body (acc, (i : Int)) = some (match mapO f (xs.drop i) with | some ys => good (acc ++ ys) | none => bad) := by
    intro k
    induction k with
    | zero =>
      intro i acc hi ha
      obtain rfl : i = xs.length := by omega
      rw [List.drop_length]
      refine loop_end ?_
      rw [he]; simp [mapO]
    | succ k ih =>
      intro i acc hi ha
      have hil : i < xs.length := by omega
      have hb := hs i hil acc ha
      rw [List.drop_eq_getElem_cons hil]
      unfold mapO
      cases hf : f xs[i] with
      | none => rw [hf] at hb; exact loop_end hb
      | some y =>
        rw [hf] at hb
        refine loop_step hb ?_
        rw [ih (i + 1) (acc ++ [y]) (by omega) (by simp; omega)]
        cases mapO f (xs.drop (i + 1)) with
        | none => rfl
        | some ys => simp
  exact key xs.length 0 [] (by omega) rfl
theorem mapO_len {α β : Type} {f : α → Option β} : ∀ {xs : List α} {ys : List β}, mapO f xs = some ys → ys.length = xs.length
  | [], ys, h => by cases h; rfl
  | x :: xs, ys, h => by
    unfold mapO at h
    cases hf : f x with
    | none => rw [hf] at h; cases h
    | some y =>
      rw [hf] at h
      cases hm : mapO f xs with
      | none => rw [hm] at h; cases h
      | some zs => rw [hm] at h; cases h; simp [mapO_len hm]
def rowO (items : List (List UInt8)) (ns : List Int) : Option (List UInt8) := if (rowE items ns).2 = true then some (rowE items ns).1 else none
def logsE : Int → List D_cut_Log → Option (List (List UInt8))
  | _, [] => some []
  | last, g :: gs => match rowO g.2 [g.1] with
    | none => none
    | some t => if g.1 ≤ last ∨ 8 < g.1 then none else (logsE g.1 gs).map (t :: ·)
theorem row_O {items : List (List UInt8)} {ns : List Int} (hb : ∀ t ∈ items, t.length ≤ 140737488355328) (hi : items.length ≤ 8796093022000) (hn : ns.length ≤ 100) : ∃ t ok, cut_row.f items ns = some (t, ok) ∧ rowO items ns = if ok = true then some t else none := by
  refine ⟨_, _, row_spec hb hi hn, ?_⟩
  rfl
theorem cutPut_spec {l : List D_cut_Log} (hl : l.length ≤ 1000000) (h1 : ∀ g ∈ l, g.2.length ≤ 8796093022000) (h2 : ∀ g ∈ l, ∀ t ∈ g.2, t.length ≤ 140737488355328) : cut_Put.f l = some (match logsE 0 l with | some x => (x, 0) | none => ([], 1)) := by
  unfold cut_Put.f
  have key : ∀ k i acc (last : Int), i + k = l.length → acc.length = i → loopM (fun s344 : (List (List UInt8)) × Int × Int => cut_Put.b1 l s344.1 s344.2.1 s344.2.2) (acc, last, (i : Int)) = some (match logsE last (l.drop i) with | some x => .inl (acc ++ x) | none => .inr (([] : List (List UInt8)), (1 : Int))) := by
    intro k
    induction k with
    | zero =>
      intro i acc last hi ha
      obtain rfl : i = l.length := by omega
      rw [List.drop_length]
      refine loop_end ?_
      show cut_Put.b1 l acc last (l.length : Int) = _
      unfold cut_Put.b1
      rw [cond_f (by omega)]; simp [logsE]
    | succ k ih =>
      intro i acc last hi ha
      have hil : i < l.length := by omega
      have hm := List.getElem_mem hil
      obtain ⟨t, ok, hr, hO⟩ := row_O (ns := [l[i].1]) (h2 _ hm) (h1 _ hm) (by simp)
      rw [List.drop_eq_getElem_cons hil]
      unfold logsE
      rw [hO]
      have hbody : cut_Put.b1 l acc last (i : Int) = if ok = true ∧ ¬ (l[i].1 ≤ last ∨ 8 < l[i].1) then some (.inl (acc ++ [t], l[i].1, ((i + 1 : Nat) : Int))) else some (.inr (.inr (([] : List (List UInt8)), (1 : Int)))) := by
        unfold cut_Put.b1
        rw [cond_t (by omega), idxL_lt hil, Option.bind_some, hr, Option.bind_some]
        cases ok with
        | false => rw [if_neg (fun q => by cases q.1)]; rfl
        | true =>
          simp only [Bool.not_true, cond_false]
          by_cases hc : l[i].1 ≤ last ∨ 8 < l[i].1
          · rw [if_neg (fun q => q.2 hc)]
            rcases hc with q | q
            · rw [decide_eq_true q]; rfl
            · rw [decide_eq_true (show l[i].1 > 8 by omega)]
              cases decide (l[i].1 ≤ last) <;> rfl
          · rw [if_pos ⟨trivial, hc⟩, decide_eq_false (show ¬ l[i].1 ≤ last by omega), decide_eq_false (show ¬ l[i].1 > 8 by omega)]
            simp only [cond_false]
            rw [room_of (by omega), wrap1 i (by omega)]
      by_cases hok : ok = true
      · rw [if_pos hok]
        by_cases hc : l[i].1 ≤ last ∨ 8 < l[i].1
        · rw [if_neg (fun q => q.2 hc)] at hbody
          simp only
          rw [if_pos hc]
          exact loop_end hbody
        · rw [if_pos ⟨hok, hc⟩] at hbody
          simp only
          rw [if_neg hc]
          refine loop_step hbody ?_
          rw [ih (i + 1) (acc ++ [t]) l[i].1 (by omega) (by simp; omega)]
          cases logsE l[i].1 (l.drop (i + 1)) with
          | none => rfl
          | some x => simp
      · rw [if_neg (fun q => hok q.1)] at hbody
        rw [if_neg hok]
        exact loop_end hbody
  have h := key l.length 0 [] 0 (by omega) rfl
  rw [show loopM (fun s344 : (List (List UInt8)) × Int × Int => cut_Put.b1 l s344.1 s344.2.1 s344.2.2) (([] : List (List UInt8)), (0 : Int), (0 : Int)) = _ from h, List.drop_zero]
  cases logsE 0 l with
  | none => rfl
  | some x => rfl
theorem numsE_len : ∀ {ts : List (List UInt8)} {ns : List Int}, numsE ts = some ns → ns.length = ts.length
  | [], ns, h => by cases h; rfl
  | t :: ts, ns, h => by
    unfold numsE at h
    split at h
    · cases hm : numsE ts with
      | none => rw [hm] at h; cases h
      | some zs => rw [hm] at h; cases h; simp [numsE_len hm]
    · cases h
theorem unrowE_len {many : Nat} {t : List UInt8} {ns : List Int} {items : List (List UInt8)} (h : unrowE many t = some (ns, items)) : ns.length = many := by
  unfold unrowE at h
  cases hl : takeL 150 t with
  | none => rw [hl] at h; cases h
  | some l =>
    rw [hl] at h
    simp only at h
    split at h
    · cases h
    · cases hn : numsE (l.take many) with
      | none => rw [hn] at h; cases h
      | some zs =>
        rw [hn] at h
        cases h
        rw [numsE_len hn, List.length_take]; omega
def takeLogs : Int → List (List UInt8) → Option (List D_cut_Log)
  | _, [] => some []
  | last, t :: ts => match unrowE 1 t with
    | none => none
    | some (ns, items) => if ns.headD 0 ≤ last ∨ 8 < ns.headD 0 then none else (takeLogs (ns.headD 0) ts).map ((ns.headD 0, items) :: ·)
theorem takeLogs_none {last : Int} {t : List UInt8} {ts : List (List UInt8)} (h : unrowE 1 t = none) : takeLogs last (t :: ts) = none := by
  rw [takeLogs, h]
theorem takeLogs_cons {last n : Int} {t : List UInt8} {ts items : List (List UInt8)} (h : unrowE 1 t = some ([n], items)) : takeLogs last (t :: ts) = if n ≤ last ∨ 8 < n then none else (takeLogs n ts).map ((n, items) :: ·) := by
  rw [takeLogs, h]; rfl
theorem cutTake_spec {l : List (List UInt8)} (hl : l.length ≤ 1000000) (h1 : ∀ t ∈ l, t.length ≤ 140737488355328) : cut_Take.f l = some (match takeLogs 0 l with | some x => (x, 0) | none => ([], 2)) := by
  unfold cut_Take.f
  have key : ∀ k i acc (last : Int), i + k = l.length → acc.length = i → loopM (fun s1669 : (List D_cut_Log) × Int × Int => cut_Take.b2 l s1669.1 s1669.2.1 s1669.2.2) (acc, last, (i : Int)) = some (match takeLogs last (l.drop i) with | some x => .inl (acc ++ x) | none => .inr (([] : List D_cut_Log), (2 : Int))) := by
    intro k
    induction k with
    | zero =>
      intro i acc last hi ha
      obtain rfl : i = l.length := by omega
      rw [List.drop_length]
      refine loop_end ?_
      show cut_Take.b2 l acc last (l.length : Int) = _
      unfold cut_Take.b2
      rw [cond_f (by omega)]; simp [takeLogs]
    | succ k ih =>
      intro i acc last hi ha
      have hil : i < l.length := by omega
      have hm := List.getElem_mem hil
      rw [List.drop_eq_getElem_cons hil]
      have hu := unrow_spec (h1 _ hm) (many := 1) (by omega)
      have hpre : cut_Take.b2 l acc last (i : Int) = (fun y1792 : (List Int) × (List (List UInt8)) × Bool => cond (!y1792.2.2) (cut_Take.k1 l acc (i : Int) y1792 (cond (cond (!y1792.2.2) true (decide ((0 : Int) ≤ last))) true (decide ((0 : Int) > (8 : Int))))) ((idxL y1792.1 (0 : Int)).bind fun y1861 => cond (decide (y1861 ≤ last)) (cut_Take.k1 l acc (i : Int) y1792 (cond (cond (!y1792.2.2) true (decide (y1861 ≤ last))) true (decide ((0 : Int) > (8 : Int))))) ((idxL y1792.1 (0 : Int)).bind fun y1868 => cut_Take.k1 l acc (i : Int) y1792 (cond (cond (!y1792.2.2) true (decide (y1861 ≤ last))) true (decide (y1868 > (8 : Int))))))) (unrowR 1 l[i]) := by
        unfold cut_Take.b2
        rw [cond_t (by omega), idxL_lt hil, Option.bind_some, show (1 : Int) = ((1 : Nat) : Int) from rfl, hu, Option.bind_some]
      unfold unrowR at hpre
      cases hE : unrowE 1 l[i] with
      | none =>
        rw [hE] at hpre
        rw [takeLogs_none hE]
        exact loop_end hpre
      | some q =>
        obtain ⟨ns, items⟩ := q
        have hlen := unrowE_len hE
        obtain ⟨n, rfl⟩ : ∃ n, ns = [n] := List.length_eq_one_iff.1 hlen
        rw [hE] at hpre
        rw [takeLogs_cons hE]
        have hbody : cut_Take.b2 l acc last (i : Int) = if n ≤ last ∨ 8 < n then some (.inr (.inr (([] : List D_cut_Log), (2 : Int)))) else some (.inl (acc ++ [(n, items)], n, ((i + 1 : Nat) : Int))) := by
          rw [hpre]
          simp only [Bool.not_true, cond_false]
          rw [show idxL [n] (0 : Int) = some n from rfl, Option.bind_some, Option.bind_some]
          unfold cut_Take.k1
          by_cases hc : n ≤ last ∨ 8 < n
          · rw [if_pos hc]
            by_cases q : n ≤ last
            · rw [decide_eq_true q]; rfl
            · rw [decide_eq_false q, decide_eq_true (show n > 8 by omega)]; rfl
          · rw [if_neg hc, decide_eq_false (show ¬ n ≤ last by omega), decide_eq_false (show ¬ n > 8 by omega)]
            simp only [cond_false]
            rw [show idxL [n] (0 : Int) = some n from rfl, Option.bind_some, room_of (by omega), Option.bind_some, wrap1 i (by omega)]
        by_cases hc : n ≤ last ∨ 8 < n
        · rw [if_pos hc] at hbody ⊢
          exact loop_end hbody
        · rw [if_neg hc] at hbody ⊢
          refine loop_step hbody ?_
          rw [ih (i + 1) _ n (by omega) (by simp; omega)]
          cases takeLogs n (l.drop (i + 1)) with
          | none => rfl
          | some x => simp
  have h := key l.length 0 [] 0 (by omega) rfl
  rw [show loopM (fun s1669 : (List D_cut_Log) × Int × Int => cut_Take.b2 l s1669.1 s1669.2.1 s1669.2.2) (([] : List D_cut_Log), (0 : Int), (0 : Int)) = _ from h, List.drop_zero]
  cases takeLogs 0 l with
  | none => rfl
  | some x => rfl
/-! Parts. -/
def ltK (x y : D_cut_Part) : Prop := x.1.1 < y.1.1 ∨ (x.1.1 = y.1.1 ∧ (x.1.2 < y.1.2 ∨ (x.1.2 = y.1.2 ∧ x.2.1 < y.2.1)))
instance (x y : D_cut_Part) : Decidable (ltK x y) := by unfold ltK; infer_instance
theorem against_spec (x y : D_cut_Part) : ∃ r, cut_place_against.f ((x.1.1, x.1.2), x.2.1) ((y.1.1, y.1.2), y.2.1) = some r ∧ (r ≥ 0 ↔ ¬ ltK x y) := by
  unfold cut_place_against.f view_Less.f ltK
  simp only [idLt_dec, Option.bind_some]
  by_cases h1 : x.1.1 < y.1.1 ∨ (x.1.1 = y.1.1 ∧ x.1.2 < y.1.2)
  · rw [decide_eq_true h1]
    exact ⟨-1, rfl, by omega⟩
  · rw [decide_eq_false h1, cond_false]
    by_cases h2 : y.1.1 < x.1.1 ∨ (y.1.1 = x.1.1 ∧ y.1.2 < x.1.2)
    · rw [decide_eq_true h2]
      exact ⟨1, rfl, by omega⟩
    · rw [decide_eq_false h2, cond_false]
      unfold cmp_Compare_int.f cmp_isNaN_int.f
      simp only [Option.bind_some, bne_self_eq_false, cond_false]
      by_cases h3 : x.2.1 < y.2.1
      · rw [cond_t h3]; exact ⟨-1, rfl, by omega⟩
      · rw [cond_f h3]
        by_cases h4 : x.2.1 > y.2.1
        · rw [cond_t h4]; exact ⟨1, rfl, by omega⟩
        · rw [cond_f h4]; exact ⟨0, rfl, by omega⟩
def rightAt (l : List D_cut_Part) (i : Nat) : Prop := ∃ hi : i < l.length, (1 ≤ l[i].2.1 ∧ l[i].2.1 ≤ 8 ∧ l[i].1.2 ≤ 8) ∧ (0 < i → ∃ hj : i - 1 < l.length, ltK l[i - 1] l[i])
def rightPs (l : List D_cut_Part) : Prop := ∀ i, i < l.length → rightAt l i
theorem cutRight_spec {l : List D_cut_Part} (hl : l.length ≤ 1000000000) : (rightPs l ∧ cut_right.f l = some true) ∨ (¬ rightPs l ∧ cut_right.f l = some false) := by
  have key := whileLoop (body := fun s1274 : Int => cut_right.b2 l s1274) (fun i => (i : Int)) l.length (rightAt l) (o1 := Sum.inl ()) (o2 := Sum.inr false) (fun i hi => by
    have hbody : ∀ P : Prop, (P ↔ rightAt l i) → [Decidable P] → cut_right.b2 l (i : Int) = some (if P then .inl ((i + 1 : Nat) : Int) else .inr (.inr false)) → (rightAt l i ∧ (fun s1274 : Int => cut_right.b2 l s1274) (i : Int) = some (.inl ((i + 1 : Nat) : Int))) ∨ (¬ rightAt l i ∧ (fun s1274 : Int => cut_right.b2 l s1274) (i : Int) = some (.inr (.inr false))) := by
      intro P hP _ hb
      by_cases h : P
      · rw [if_pos h] at hb; exact .inl ⟨hP.1 h, hb⟩
      · rw [if_neg h] at hb; exact .inr ⟨fun q => h (hP.2 q), hb⟩
    by_cases hA : 1 ≤ l[i].2.1 ∧ l[i].2.1 ≤ 8 ∧ l[i].1.2 ≤ 8
    · have e1 : (cond (cond (decide (l[i].2.1 < (1 : Int))) true (decide (l[i].2.1 > (8 : Int)))) true (decide (l[i].1.2 > (8 : Int)))) = false := by
        rw [decide_eq_false (by omega), decide_eq_false (by omega), decide_eq_false (by omega)]; rfl
      cases i with
      | zero =>
        refine hbody True ⟨fun _ => ⟨hi, hA, fun h => absurd h (by omega)⟩, fun _ => trivial⟩ ?_
        unfold cut_right.b2 cut_right.k1
        rw [cond_t (by omega), idxL_lt hi, Option.bind_some, wrap1 0 (by omega)]
        simp only [e1, cond_false]
        rfl
      | succ j =>
        have hj : j < l.length := by omega
        have ew : IntKind.i64.wrap (((j + 1 : Nat) : Int) - (1 : Int)) = (j : Int) := by rw [Eng.i64_id (by omega) (by omega)]; omega
        obtain ⟨r, hr, hr2⟩ := against_spec l[j] l[j + 1]
        refine hbody (ltK l[j] l[j + 1]) ⟨fun h => ⟨hi, hA, fun _ => ⟨hj, h⟩⟩, fun ⟨_, _, h⟩ => (h (by omega)).2⟩ ?_
        unfold cut_right.b2 cut_right.k1
        rw [cond_t (by omega), idxL_lt hi, Option.bind_some, wrap1 (j + 1) (by omega)]
        simp only [e1, cond_false]
        rw [cond_t (by omega), ew, idxL_lt hj, Option.bind_some]
        unfold cut_Part_place.f
        simp only [Option.bind_some]
        rw [hr, Option.bind_some, decide_eq_true (show ((j + 1 : Nat) : Int) > 0 by omega), cond_true]
        by_cases hlt : ltK l[j] l[j + 1]
        · rw [if_pos hlt, decide_eq_false (fun q => (hr2.1 q) hlt)]; rfl
        · rw [if_neg hlt, decide_eq_true (hr2.2 hlt)]; rfl
    · have e1 : (cond (cond (decide (l[i].2.1 < (1 : Int))) true (decide (l[i].2.1 > (8 : Int)))) true (decide (l[i].1.2 > (8 : Int)))) = true := by
        by_cases q1 : l[i].2.1 < 1
        · rw [decide_eq_true q1]; rfl
        · by_cases q2 : l[i].2.1 > 8
          · rw [decide_eq_true q2]
            cases decide (l[i].2.1 < 1) <;> rfl
          · rw [decide_eq_true (show l[i].1.2 > 8 by omega)]
            cases decide (l[i].2.1 < 1) <;> cases decide (l[i].2.1 > 8) <;> rfl
      refine hbody False ⟨fun h => h.elim, fun ⟨_, h, _⟩ => hA h⟩ ?_
      unfold cut_right.b2 cut_right.k1
      rw [cond_t (by omega), idxL_lt hi, Option.bind_some]
      simp only [e1, cond_true]
      rfl) (by
    show cut_right.b2 l (l.length : Int) = _
    unfold cut_right.b2
    rw [cond_f (by omega)])
  unfold cut_right.f
  rcases key with ⟨h1, h2⟩ | ⟨h1, h2⟩
  · exact .inl ⟨h1, by rw [show loopM (fun s1274 : Int => cut_right.b2 l s1274) (0 : Int) = _ from h2]; rfl⟩
  · exact .inr ⟨h1, by rw [show loopM (fun s1274 : Int => cut_right.b2 l s1274) (0 : Int) = _ from h2]; rfl⟩
def partO (x : D_cut_Part) : Option (List UInt8) := rowO x.2.2 [x.1.1, x.1.2, x.2.1]
theorem cutParts_spec {l : List D_cut_Part} (hl : l.length ≤ 1000000) (h1 : ∀ x ∈ l, x.2.2.length ≤ 8796093022000) (h2 : ∀ x ∈ l, ∀ t ∈ x.2.2, t.length ≤ 140737488355328) :
    (rightPs l ∧ cut_Parts.f l = some (match mapO partO l with | some x => (x, 0) | none => ([], 1))) ∨ (¬ rightPs l ∧ cut_Parts.f l = some ([], 1)) := by
  unfold cut_Parts.f
  rcases cutRight_spec (l := l) (by omega) with ⟨hr, e⟩ | ⟨hr, e⟩
  · refine .inl ⟨hr, ?_⟩
    rw [e, Option.bind_some]
    simp only [Bool.not_true, cond_false]
    have hL := each_loop (body := fun s340 : (List (List UInt8)) × Int => cut_Parts.b1 l s340.1 s340.2) l partO (Sum.inr (([] : List (List UInt8)), (1 : Int))) Sum.inl (fun i hi acc ha => by
      have hm := List.getElem_mem hi
      obtain ⟨t, ok, hrw, hO⟩ := row_O (ns := [l[i].1.1, l[i].1.2, l[i].2.1]) (h2 _ hm) (h1 _ hm) (by simp)
      show cut_Parts.b1 l acc (i : Int) = _
      unfold cut_Parts.b1 partO
      rw [cond_t (by omega), idxL_lt hi, Option.bind_some, hrw, Option.bind_some, hO]
      cases ok with
      | false => rfl
      | true =>
        simp only [Bool.not_true, cond_false, if_pos]
        rw [room_of (by omega), wrap1 i (by omega)]) (fun acc => by
      show cut_Parts.b1 l acc (l.length : Int) = _
      unfold cut_Parts.b1
      rw [cond_f (by omega)])
    rw [hL]
    cases mapO partO l with
    | none => rfl
    | some x => rfl
  · refine .inr ⟨hr, ?_⟩
    rw [e]; rfl
def unpartO (t : List UInt8) : Option D_cut_Part := match unrowE 3 t with | some (ns, items) => some ((ns.headD 0, (ns.drop 1).headD 0), (ns.drop 2).headD 0, items) | none => none
theorem three {ns : List Int} (h : ns.length = 3) : ∃ a b c, ns = [a, b, c] := by
  match ns, h with
  | [a, b, c], _ => exact ⟨a, b, c, rfl⟩
theorem cutUnpart_spec {l : List (List UInt8)} (hl : l.length ≤ 1000000) (h1 : ∀ t ∈ l, t.length ≤ 140737488355328) :
    match mapO unpartO l with
    | some ps => (rightPs ps ∧ cut_Unpart.f l = some (ps, 0)) ∨ (¬ rightPs ps ∧ cut_Unpart.f l = some ([], 2))
    | none => cut_Unpart.f l = some ([], 2) := by
  have hL := each_loop (body := fun s459 : (List D_cut_Part) × Int => cut_Unpart.b1 l s459.1 s459.2) l unpartO (Sum.inr (([] : List D_cut_Part), (2 : Int))) Sum.inl (fun i hi acc ha => by
    have hm := List.getElem_mem hi
    show cut_Unpart.b1 l acc (i : Int) = _
    unfold cut_Unpart.b1 unpartO
    rw [cond_t (by omega), idxL_lt hi, Option.bind_some, show (3 : Int) = ((3 : Nat) : Int) from rfl, unrow_spec (h1 _ hm) (by omega), Option.bind_some]
    unfold unrowR
    cases hE : unrowE 3 l[i] with
    | none => rfl
    | some q =>
      obtain ⟨ns, items⟩ := q
      obtain ⟨a, b, c, rfl⟩ := three (unrowE_len hE)
      simp only [Bool.not_true, cond_false]
      rw [show idxL [a, b, c] (0 : Int) = some a from rfl, Option.bind_some, show idxL [a, b, c] (1 : Int) = some b from rfl, Option.bind_some, show idxL [a, b, c] (2 : Int) = some c from rfl, Option.bind_some, room_of (by omega), wrap1 i (by omega)]
      rfl) (fun acc => by
    show cut_Unpart.b1 l acc (l.length : Int) = _
    unfold cut_Unpart.b1
    rw [cond_f (by omega)])
  cases hm : mapO unpartO l with
  | none =>
    rw [hm] at hL
    unfold cut_Unpart.f
    rw [hL]; rfl
  | some ps =>
    rw [hm] at hL
    have hU : cut_Unpart.f l = cut_Unpart.k2 ps := by
      unfold cut_Unpart.f
      rw [hL]; rfl
    simp only
    have hlen := mapO_len hm
    rcases cutRight_spec (l := ps) (by omega) with ⟨hr, e⟩ | ⟨hr, e⟩
    · refine .inl ⟨hr, hU.trans ?_⟩
      unfold cut_Unpart.k2
      rw [e]; rfl
    · refine .inr ⟨hr, hU.trans ?_⟩
      unfold cut_Unpart.k2
      rw [e]; rfl
/-! Put, and taken again. -/
theorem rowO_ok {items : List (List UInt8)} {ns : List Int} {t : List UInt8} (h : rowO items ns = some t) : (∀ n ∈ ns, 0 ≤ n ∧ n ≤ 2147483647) ∧ 0 < items.length ∧ t = putT (ns.map numT ++ items) ∧ (ns.map numT ++ items).length ≤ 150 ∧ (∀ t ∈ ns.map numT ++ items, rightB t = true) ∧ rightB t = true := by
  unfold rowO at h
  split at h
  · rename_i hr
    unfold rowE at hr h
    by_cases hall : ns.all okN = true
    · rw [if_pos hall] at hr h
      simp only [decide_eq_true_eq] at hr
      have hz := putE_zero hr.1
      obtain ⟨h1, h2, h3, _⟩ := putE_ok hz
      rw [hz] at h
      cases h
      exact ⟨fun n hn => by have := List.all_eq_true.1 hall n hn; unfold okN at this; simpa using this, hr.2, rfl, h1, h2, h3⟩
    · rw [if_neg hall] at hr; cases hr
  · cases h
theorem ok_rowO {items : List (List UInt8)} {ns : List Int} (h1 : ∀ n ∈ ns, 0 ≤ n ∧ n ≤ 2147483647) (h2 : 0 < items.length) (h3 : (ns.map numT ++ items).length ≤ 150) (h4 : ∀ t ∈ ns.map numT ++ items, rightB t = true) (h5 : rightB (putT (ns.map numT ++ items)) = true) : rowO items ns = some (putT (ns.map numT ++ items)) := by
  have hall : ns.all okN = true := List.all_eq_true.2 fun n hn => by unfold okN; rw [decide_eq_true_eq]; exact h1 n hn
  unfold rowO rowE
  rw [if_pos hall, ok_putE h3 h4 h5]
  simp only
  rw [if_pos (decide_eq_true ⟨trivial, h2⟩)]
theorem numsE_num : ∀ {ns : List Int}, (∀ n ∈ ns, 0 ≤ n ∧ n ≤ 2147483647) → numsE (ns.map numT) = some ns
  | [], _ => rfl
  | n :: ns, h => by
    have hn := h n List.mem_cons_self
    rw [List.map_cons]
    unfold numsE
    rw [num_value hn.1 hn.2, num_kind, if_pos ⟨rfl, hn.2, rfl⟩, numsE_num (fun m hm => h m (List.mem_cons_of_mem _ hm))]
    rfl
theorem num_numsE : ∀ {ts : List (List UInt8)} {ns : List Int}, numsE ts = some ns → ns.map numT = ts ∧ ∀ n ∈ ns, 0 ≤ n ∧ n ≤ 2147483647
  | [], ns, h => by cases h; exact ⟨rfl, fun n hn => by simp at hn⟩
  | t :: ts, ns, h => by
    unfold numsE at h
    split at h
    · rename_i hc
      cases hm : numsE ts with
      | none => rw [hm] at h; cases h
      | some zs =>
        rw [hm] at h
        cases h
        obtain ⟨i1, i2⟩ := num_numsE hm
        have ht : numT (valueE t).1 = t := by
          obtain ⟨c, r, rfl, hcc, hr⟩ := kind_cons hc.2.2 (by decide)
          obtain rfl : c = 117 := UInt8.toNat_inj.1 (by show c.toNat = 117; omega)
          have h8 := right_num hr (.inr rfl)
          unfold valueE
          rw [if_pos (.inr hc.2.2)]
          show countedT 117 ((valE r : Nat) : Int) = _
          unfold countedT
          rw [bytes_valE h8]
        refine ⟨by rw [List.map_cons, i1, ht], ?_⟩
        intro n hn
        rcases List.mem_cons.1 hn with q | q
        · rw [q]; exact ⟨value_int t, hc.2.1⟩
        · exact i2 n q
    · cases h
theorem unrow_row {items : List (List UInt8)} {ns : List Int} {t : List UInt8} (h : rowO items ns = some t) : unrowE ns.length t = some (ns, items) := by
  obtain ⟨h1, h2, rfl, h4, h5, h6⟩ := rowO_ok h
  unfold unrowE
  rw [put_takeL _ 150 h4 h5 (fun _ => h6)]
  simp only
  have e1 : (ns.map numT ++ items).take ns.length = ns.map numT := by rw [show ns.length = (ns.map numT).length by simp, List.take_left]
  have e2 : (ns.map numT ++ items).drop ns.length = items := by rw [show ns.length = (ns.map numT).length by simp, List.drop_left]
  rw [if_neg (by simp; omega), e1, e2, numsE_num h1]
  rfl
theorem row_unrow {many : Nat} {items : List (List UInt8)} {ns : List Int} {t : List UInt8} (h : unrowE many t = some (ns, items)) : rowO items ns = some t ∧ ns.length = many := by
  have hlen := unrowE_len h
  unfold unrowE at h
  cases hl : takeL 150 t with
  | none => rw [hl] at h; cases h
  | some l =>
    rw [hl] at h
    simp only at h
    obtain ⟨h1, h2, h3, h4⟩ := takeL_put 150 t l hl
    split at h
    · cases h
    · rename_i hm
      cases hn : numsE (l.take many) with
      | none => rw [hn] at h; cases h
      | some zs =>
        rw [hn] at h
        cases h
        obtain ⟨i1, i2⟩ := num_numsE hn
        have e : ns.map numT ++ l.drop many = l := by rw [i1, List.take_append_drop]
        refine ⟨?_, hlen⟩
        have := ok_rowO (items := l.drop many) i2 (by rw [List.length_drop]; omega) (by rw [e]; exact h2) (by rw [e]; exact h3) (by rw [e, ← h1]; exact h4 (by omega))
        rw [this, e, ← h1]
theorem logs_take : ∀ {last : Int} {l : List D_cut_Log} {x : List (List UInt8)}, logsE last l = some x → takeLogs last x = some l
  | last, [], x, h => by cases h; rfl
  | last, g :: gs, x, h => by
    unfold logsE at h
    cases hr : rowO g.2 [g.1] with
    | none => rw [hr] at h; cases h
    | some t =>
      rw [hr] at h
      simp only at h
      split at h
      · cases h
      · rename_i hc
        cases hm : logsE g.1 gs with
        | none => rw [hm] at h; cases h
        | some zs =>
          rw [hm] at h
          cases h
          rw [takeLogs_cons (unrow_row hr), if_neg hc, logs_take hm]
          rfl
theorem take_logs : ∀ {last : Int} {ts : List (List UInt8)} {x : List D_cut_Log}, takeLogs last ts = some x → logsE last x = some ts
  | last, [], x, h => by cases h; rfl
  | last, t :: ts, x, h => by
    cases hu : unrowE 1 t with
    | none => rw [takeLogs_none hu] at h; cases h
    | some q =>
      obtain ⟨ns, items⟩ := q
      obtain ⟨hr, hlen⟩ := row_unrow hu
      obtain ⟨n, rfl⟩ : ∃ n, ns = [n] := List.length_eq_one_iff.1 hlen
      rw [takeLogs_cons hu] at h
      split at h
      · cases h
      · rename_i hc
        cases hm : takeLogs n ts with
        | none => rw [hm] at h; cases h
        | some zs =>
          rw [hm] at h
          cases h
          unfold logsE
          rw [show rowO (n, items).2 [(n, items).1] = some t from hr]
          simp only
          rw [if_neg hc, take_logs hm]
          rfl
theorem parts_take : ∀ {l : List D_cut_Part} {x : List (List UInt8)}, mapO partO l = some x → mapO unpartO x = some l
  | [], x, h => by cases h; rfl
  | p :: ps, x, h => by
    unfold mapO at h
    cases hr : partO p with
    | none => rw [hr] at h; cases h
    | some t =>
      rw [hr] at h
      cases hm : mapO partO ps with
      | none => rw [hm] at h; cases h
      | some zs =>
        rw [hm] at h
        cases h
        unfold mapO
        have hu : unpartO t = some p := by
          unfold unpartO
          rw [show unrowE 3 t = some ([p.1.1, p.1.2, p.2.1], p.2.2) from unrow_row hr]
          rfl
        rw [hu, parts_take hm]
        rfl
theorem take_parts : ∀ {ts : List (List UInt8)} {x : List D_cut_Part}, mapO unpartO ts = some x → mapO partO x = some ts
  | [], x, h => by cases h; rfl
  | t :: ts, x, h => by
    unfold mapO at h
    cases hu : unpartO t with
    | none => rw [hu] at h; cases h
    | some p =>
      rw [hu] at h
      cases hm : mapO unpartO ts with
      | none => rw [hm] at h; cases h
      | some zs =>
        rw [hm] at h
        cases h
        have hr : partO p = some t := by
          unfold unpartO at hu
          cases hE : unrowE 3 t with
          | none => rw [hE] at hu; cases hu
          | some q =>
            obtain ⟨ns, items⟩ := q
            obtain ⟨hr, hlen⟩ := row_unrow hE
            obtain ⟨a, b, c, rfl⟩ := three hlen
            rw [hE] at hu
            cases hu
            exact hr
        unfold mapO
        rw [hr, take_parts hm]
        rfl
theorem rowO_items {items : List (List UInt8)} {ns : List Int} {t : List UInt8} (h : rowO items ns = some t) : items.length ≤ 150 ∧ (∀ x ∈ items, x.length ≤ 20000) ∧ t.length ≤ 20000 := by
  obtain ⟨h1, h2, h3, h4, h5, h6⟩ := rowO_ok h
  refine ⟨by rw [List.length_append] at h4; omega, fun x hx => (rightB_len (h5 x (List.mem_append_right _ hx))).2, (rightB_len h6).2⟩
theorem logs_bounds : ∀ {last : Int} {l : List D_cut_Log} {x : List (List UInt8)}, logsE last l = some x → x.length = l.length ∧ (∀ g ∈ l, g.2.length ≤ 150 ∧ ∀ t ∈ g.2, t.length ≤ 20000) ∧ ∀ t ∈ x, t.length ≤ 20000
  | last, [], x, h => by cases h; exact ⟨rfl, fun g hg => by simp at hg, fun t ht => by simp at ht⟩
  | last, g :: gs, x, h => by
    unfold logsE at h
    cases hr : rowO g.2 [g.1] with
    | none => rw [hr] at h; cases h
    | some t =>
      rw [hr] at h
      simp only at h
      split at h
      · cases h
      · cases hm : logsE g.1 gs with
        | none => rw [hm] at h; cases h
        | some zs =>
          rw [hm] at h
          cases h
          obtain ⟨i1, i2, i3⟩ := logs_bounds hm
          have hb := rowO_items hr
          refine ⟨by simp [i1], ?_, ?_⟩
          · intro y hy
            rcases List.mem_cons.1 hy with q | q
            · rw [q]; exact ⟨hb.1, hb.2.1⟩
            · exact i2 y q
          · intro y hy
            rcases List.mem_cons.1 hy with q | q
            · rw [q]; exact hb.2.2
            · exact i3 y q
theorem parts_bounds : ∀ {l : List D_cut_Part} {x : List (List UInt8)}, mapO partO l = some x → (∀ g ∈ l, g.2.2.length ≤ 150 ∧ ∀ t ∈ g.2.2, t.length ≤ 20000) ∧ ∀ t ∈ x, t.length ≤ 20000
  | [], x, h => by cases h; exact ⟨fun g hg => by simp at hg, fun t ht => by simp at ht⟩
  | g :: gs, x, h => by
    unfold mapO at h
    cases hr : partO g with
    | none => rw [hr] at h; cases h
    | some t =>
      rw [hr] at h
      cases hm : mapO partO gs with
      | none => rw [hm] at h; cases h
      | some zs =>
        rw [hm] at h
        cases h
        obtain ⟨i2, i3⟩ := parts_bounds hm
        have hb := rowO_items hr
        refine ⟨?_, ?_⟩
        · intro y hy
          rcases List.mem_cons.1 hy with q | q
          · rw [q]; exact ⟨hb.1, hb.2.1⟩
          · exact i2 y q
        · intro y hy
          rcases List.mem_cons.1 hy with q | q
          · rw [q]; exact hb.2.2
          · exact i3 y q
end Go.Proofs.Ytgomlcfoifkdiaa.G
