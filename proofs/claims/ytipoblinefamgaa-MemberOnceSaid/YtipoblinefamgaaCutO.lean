/- Terms: their kinds, what a number is worth, rows of terms put and taken. -/
import Derived.Test.YtipoblinefamgaaMbK
namespace Go.Proofs.Ytipoblinefamgaa.G
open Go.RowKit Go.Eng Go.Proofs Go.Proofs.Ytipoblinefamgaa.Cut
set_option linter.unusedVariables false
set_option linter.unusedSimpArgs false
theorem take_map {α β : Type} (f : α → β) {xs : List α} {i : Nat} (h : i < xs.length) : (xs.take i).map f ++ [f xs[i]] = (xs.take (i + 1)).map f := by rw [← take_snoc h, List.map_append]; rfl
def numT (n : Int) : List UInt8 := countedT 117 n
def okN (n : Int) : Bool := decide (0 ≤ n ∧ n ≤ 2147483647)
theorem num_right (n : Int) : rightB (numT n) = true := by
  unfold rightB
  rw [decide_eq_true_eq, specE_succ]
  have hl : (bytesOf n 8).length = 8 := bytesOf_length n 8
  show (if leafN 117 (bytesOf n 8) ≠ 0 then _ else _ : Int × Int).1 = _ ∧ _
  have hleaf : leafN 117 (bytesOf n 8) = 9 := by
    unfold leafN
    rw [if_neg (by decide), if_pos (by decide), if_pos (by omega)]
  rw [hleaf, if_pos (by decide)]
  unfold numT countedT
  rw [List.length_cons, hl]
  exact ⟨rfl, by omega⟩
theorem num_len (n : Int) : (numT n).length = 9 := by simp [numT, countedT, bytesOf_length]
/-- A row, by the program: in order, or none. -/
def rowE (items : List (List UInt8)) (ns : List Int) : List UInt8 × Bool :=
  if ns.all okN = true then ((putE (ns.map numT ++ items)).1, decide ((putE (ns.map numT ++ items)).2 = 0 ∧ 0 < items.length)) else ([], false)
theorem row_spec {items : List (List UInt8)} {ns : List Int} (hb : ∀ t ∈ items, t.length ≤ 140737488355328) (hi : items.length ≤ 8796093022000) (hn : ns.length ≤ 100) : cut_row.f items ns = some (rowE items ns) := by
  unfold cut_row.f rowE
  have step : ∀ i, (hi : i < ns.length) → cut_row.b1 items ns ((ns.take i).map numT) (i : Int) = if okN ns[i] = true then some (.inl (((ns.take (i + 1)).map numT), ((i + 1 : Nat) : Int))) else some (.inr (.inr (([] : List UInt8), false))) := by
    intro i hi
    unfold cut_row.b1 term_Number.f
    rw [cond_t (by omega), idxL_lt hi, Option.bind_some]
    by_cases h : okN ns[i] = true
    · have h' := h
      unfold okN at h'
      rw [decide_eq_true_eq] at h'
      rw [if_pos h, show (cond (decide (ns[i] < (0 : Int))) true (decide (ns[i] > (2147483647 : Int)))) = false by rw [decide_eq_false (by omega), decide_eq_false (by omega)]; rfl, cond_false, Option.bind_some, room_of (by simp; omega), wrap1 i (by omega), Eng.u64_id (by omega) (by omega)]
      rw [← take_map numT hi]; rfl
    · have h' := h
      unfold okN at h'
      rw [decide_eq_true_eq] at h'
      rw [if_neg h, show (cond (decide (ns[i] < (0 : Int))) true (decide (ns[i] > (2147483647 : Int)))) = true by
        by_cases q : ns[i] < 0
        · rw [decide_eq_true q]; rfl
        · rw [decide_eq_false q, decide_eq_true (by omega)]; rfl, cond_true]
  by_cases hall : ns.all okN = true
  · rw [if_pos hall]
    have hL : loopM (fun s247 : (List (List UInt8)) × Int => cut_row.b1 items ns s247.1 s247.2) (([] : List (List UInt8)), (0 : Int)) = some (Sum.inl (ns.map numT)) := by
      refine loop_count (fun i => ((ns.take i).map numT, (i : Int))) ns.length (fun i hi => ?_) ?_
      · show cut_row.b1 items ns ((ns.take i).map numT) (i : Int) = _
        rw [step i hi, if_pos (List.all_eq_true.1 hall _ (List.getElem_mem hi))]
      · show cut_row.b1 items ns ((ns.take ns.length).map numT) (ns.length : Int) = _
        unfold cut_row.b1
        rw [cond_f (by omega), List.take_length]
    rw [hL, Option.bind_some]
    show cut_row.k2 items (ns.map numT) = _
    unfold cut_row.k2
    rw [room_of (by simp; omega), put_spec (by
      intro t ht
      rcases List.mem_append.1 ht with q | q
      · obtain ⟨n, _, rfl⟩ := List.mem_map.1 q; rw [num_len]; omega
      · exact hb t q), Option.bind_some]
    congr 2
    by_cases h0 : (putE (ns.map numT ++ items)).2 = 0
    · rw [h0, show ((0 : Int) == 0) = true from rfl, cond_true]
      simp
    · rw [show ((putE (ns.map numT ++ items)).2 == 0) = false from beq_eq_false_iff_ne.2 h0, cond_false]
      simp [h0]
  · rw [if_neg hall]
    obtain ⟨i, hi, hbad, hgood⟩ : ∃ i, ∃ hi : i < ns.length, okN ns[i] = false ∧ ∀ j (hj : j < ns.length), j < i → okN ns[j] = true := by
      clear step
      induction ns with
      | nil => simp at hall
      | cons n ns ih =>
        by_cases h : okN n = true
        · have : ¬ ns.all okN = true := fun q => hall (by rw [List.all_cons, h, q]; rfl)
          obtain ⟨i, hi, h1, h2⟩ := ih (by simp at hn; omega) this
          refine ⟨i + 1, by simpa using hi, h1, ?_⟩
          intro j hj hji
          cases j with
          | zero => exact h
          | succ j => exact h2 j (by simpa using hj) (by omega)
        · exact ⟨0, by simp, by simpa using h, fun j _ hj => by omega⟩
    have hL : loopM (fun s247 : (List (List UInt8)) × Int => cut_row.b1 items ns s247.1 s247.2) (([] : List (List UInt8)), (0 : Int)) = some (Sum.inr (([] : List UInt8), false)) := by
      refine loop_count (fun i => ((ns.take i).map numT, (i : Int))) i (fun j hj => ?_) ?_
      · show cut_row.b1 items ns ((ns.take j).map numT) (j : Int) = _
        rw [step j (by omega), if_pos (hgood j (by omega) hj)]
      · show cut_row.b1 items ns ((ns.take i).map numT) (i : Int) = _
        rw [step i hi, if_neg (by rw [hbad]; decide)]
    rw [hL]; rfl
end Go.Proofs.Ytipoblinefamgaa.G
/- Logs and parts as terms, and of terms. -/
namespace Go.Proofs.Ytipoblinefamgaa.G
open Go.RowKit Go.Eng Go.Proofs Go.Proofs.Ytipoblinefamgaa.Cut
set_option linter.unusedVariables false
set_option linter.unusedSimpArgs false
theorem least_not {p : Nat → Prop} : ∀ {n : Nat}, ¬ (∀ i, i < n → p i) → ∃ j, j < n ∧ ¬ p j ∧ ∀ i, i < j → p i := by
  intro n
  induction n with
  | zero => intro h; exact absurd (fun i hi => absurd hi (Nat.not_lt_zero i)) h
  | succ n ih =>
    intro h
    by_cases h2 : ∀ i, i < n → p i
    · refine ⟨n, Nat.lt_succ_self n, fun hp => h fun i hi => ?_, h2⟩
      rcases Nat.lt_or_ge i n with h3 | h3
      · exact h2 i h3
      · obtain rfl : i = n := by omega
        exact hp
    · obtain ⟨j, h3, h4, h5⟩ := ih h2
      exact ⟨j, by omega, h4, h5⟩
/-- A loop that goes on as long as p holds, and has an end for each case. -/
theorem whileLoop {S O : Type} {body : S → Option (S ⊕ O)} (st : Nat → S) (n : Nat) (p : Nat → Prop) {o1 o2 : O} (hs : ∀ i, i < n → (p i ∧ body (st i) = some (.inl (st (i + 1)))) ∨ (¬ p i ∧ body (st i) = some (.inr o2))) (he : body (st n) = some (.inr o1)) :
    ((∀ i, i < n → p i) ∧ loopM body (st 0) = some o1) ∨ (¬ (∀ i, i < n → p i) ∧ loopM body (st 0) = some o2) := by
  by_cases h : ∀ i, i < n → p i
  · exact .inl ⟨h, loop_count st n (fun i hi => (hs i hi).elim (fun q => q.2) (fun q => absurd (h i hi) q.1)) he⟩
  · obtain ⟨j, hj, hn, hb⟩ := least_not h
    exact .inr ⟨h, loop_count st j (fun i hi => (hs i (by omega)).elim (fun q => q.2) (fun q => absurd (hb i hi) q.1)) ((hs j hj).elim (fun q => absurd q.1 hn) (fun q => q.2))⟩
theorem idLt_dec (e c e' c' : Int) : idLt e c e' c' = decide (e < e' ∨ (e = e' ∧ c < c')) := by
  unfold idLt cmpI
  rw [Bool.eq_iff_iff]
  simp only [decide_eq_true_eq]
  by_cases h1 : e < e'
  · simp [h1]
  · by_cases h2 : e' < e
    · simp [h1, h2]; omega
    · have : e = e' := by omega
      subst this
      by_cases h3 : c < c'
      · simp [h3]
      · by_cases h4 : c' < c
        · simp [h3, h4]
        · simp [h3, h4]
def mapO {α β : Type} (f : α → Option β) : List α → Option (List β)
  | [] => some []
  | x :: xs => match f x with | none => none | some y => (mapO f xs).map (y :: ·)
theorem each_loop {α β O : Type} {body : List β × Int → Option ((List β × Int) ⊕ O)} (xs : List α) (f : α → Option β) (bad : O) (good : List β → O)
    (hs : ∀ (i : Nat) (hi : i < xs.length) (acc : List β), acc.length = i → body (acc, (i : Int)) = some (match f xs[i] with | some y => .inl (acc ++ [y], ((i + 1 : Nat) : Int)) | none => .inr bad))
    (he : ∀ acc, body (acc, (xs.length : Int)) = some (.inr (good acc))) : loopM body (([] : List β), (0 : Int)) = some (match mapO f xs with | some ys => good ys | none => bad) := by
  have key : ∀ k i acc, i + k = xs.length → acc.length = i → loopM body (acc, (i : Int)) = some (match mapO f (xs.drop i) with | some ys => good (acc ++ ys) | none => bad) := by
    intro k
    induction k with
    | zero =>
      intro i acc hi ha
      obtain rfl : i = xs.length := by omega
      rw [List.drop_length]
      refine loop_end ?_
      rw [he]; simp [mapO]
    | succ k ih =>
      intro i acc hi ha
      have hil : i < xs.length := by omega
      have hb := hs i hil acc ha
      rw [List.drop_eq_getElem_cons hil]
      unfold mapO
      cases hf : f xs[i] with
      | none => rw [hf] at hb; exact loop_end hb
      | some y =>
        rw [hf] at hb
        refine loop_step hb ?_
        rw [ih (i + 1) (acc ++ [y]) (by omega) (by simp; omega)]
        cases mapO f (xs.drop (i + 1)) with
        | none => rfl
        | some ys => simp
  exact key xs.length 0 [] (by omega) rfl
def rowO (items : List (List UInt8)) (ns : List Int) : Option (List UInt8) := if (rowE items ns).2 = true then some (rowE items ns).1 else none
theorem row_O {items : List (List UInt8)} {ns : List Int} (hb : ∀ t ∈ items, t.length ≤ 140737488355328) (hi : items.length ≤ 8796093022000) (hn : ns.length ≤ 100) : ∃ t ok, cut_row.f items ns = some (t, ok) ∧ rowO items ns = if ok = true then some t else none := by
  refine ⟨_, _, row_spec hb hi hn, ?_⟩
  rfl
def ltK (x y : D_cut_Part) : Prop := x.1.1 < y.1.1 ∨ (x.1.1 = y.1.1 ∧ (x.1.2 < y.1.2 ∨ (x.1.2 = y.1.2 ∧ x.2.1 < y.2.1)))
instance (x y : D_cut_Part) : Decidable (ltK x y) := by unfold ltK; infer_instance
theorem against_spec (x y : D_cut_Part) : ∃ r, cut_place_against.f ((x.1.1, x.1.2), x.2.1) ((y.1.1, y.1.2), y.2.1) = some r ∧ (r ≥ 0 ↔ ¬ ltK x y) := by
  unfold cut_place_against.f view_Less.f ltK
  simp only [idLt_dec, Option.bind_some]
  by_cases h1 : x.1.1 < y.1.1 ∨ (x.1.1 = y.1.1 ∧ x.1.2 < y.1.2)
  · rw [decide_eq_true h1]
    exact ⟨-1, rfl, by omega⟩
  · rw [decide_eq_false h1, cond_false]
    by_cases h2 : y.1.1 < x.1.1 ∨ (y.1.1 = x.1.1 ∧ y.1.2 < x.1.2)
    · rw [decide_eq_true h2]
      exact ⟨1, rfl, by omega⟩
    · rw [decide_eq_false h2, cond_false]
      unfold cmp_Compare_int.f cmp_isNaN_int.f
      simp only [Option.bind_some, bne_self_eq_false, cond_false]
      by_cases h3 : x.2.1 < y.2.1
      · rw [cond_t h3]; exact ⟨-1, rfl, by omega⟩
      · rw [cond_f h3]
        by_cases h4 : x.2.1 > y.2.1
        · rw [cond_t h4]; exact ⟨1, rfl, by omega⟩
        · rw [cond_f h4]; exact ⟨0, rfl, by omega⟩
def rightAt (l : List D_cut_Part) (i : Nat) : Prop := ∃ hi : i < l.length, (1 ≤ l[i].2.1 ∧ l[i].2.1 ≤ 8 ∧ l[i].1.2 ≤ 8) ∧ (0 < i → ∃ hj : i - 1 < l.length, ltK l[i - 1] l[i])
def rightPs (l : List D_cut_Part) : Prop := ∀ i, i < l.length → rightAt l i
theorem cutRight_spec {l : List D_cut_Part} (hl : l.length ≤ 1000000000) : (rightPs l ∧ cut_right.f l = some true) ∨ (¬ rightPs l ∧ cut_right.f l = some false) := by
  have key := whileLoop (body := fun s1274 : Int => cut_right.b2 l s1274) (fun i => (i : Int)) l.length (rightAt l) (o1 := Sum.inl ()) (o2 := Sum.inr false) (fun i hi => by
    have hbody : ∀ P : Prop, (P ↔ rightAt l i) → [Decidable P] → cut_right.b2 l (i : Int) = some (if P then .inl ((i + 1 : Nat) : Int) else .inr (.inr false)) → (rightAt l i ∧ (fun s1274 : Int => cut_right.b2 l s1274) (i : Int) = some (.inl ((i + 1 : Nat) : Int))) ∨ (¬ rightAt l i ∧ (fun s1274 : Int => cut_right.b2 l s1274) (i : Int) = some (.inr (.inr false))) := by
      intro P hP _ hb
      by_cases h : P
      · rw [if_pos h] at hb; exact .inl ⟨hP.1 h, hb⟩
      · rw [if_neg h] at hb; exact .inr ⟨fun q => h (hP.2 q), hb⟩
    by_cases hA : 1 ≤ l[i].2.1 ∧ l[i].2.1 ≤ 8 ∧ l[i].1.2 ≤ 8
    · have e1 : (cond (cond (decide (l[i].2.1 < (1 : Int))) true (decide (l[i].2.1 > (8 : Int)))) true (decide (l[i].1.2 > (8 : Int)))) = false := by
        rw [decide_eq_false (by omega), decide_eq_false (by omega), decide_eq_false (by omega)]; rfl
      cases i with
      | zero =>
        refine hbody True ⟨fun _ => ⟨hi, hA, fun h => absurd h (by omega)⟩, fun _ => trivial⟩ ?_
        unfold cut_right.b2 cut_right.k1
        rw [cond_t (by omega), idxL_lt hi, Option.bind_some, wrap1 0 (by omega)]
        simp only [e1, cond_false]
        rfl
      | succ j =>
        have hj : j < l.length := by omega
        have ew : IntKind.i64.wrap (((j + 1 : Nat) : Int) - (1 : Int)) = (j : Int) := by rw [Eng.i64_id (by omega) (by omega)]; omega
        obtain ⟨r, hr, hr2⟩ := against_spec l[j] l[j + 1]
        refine hbody (ltK l[j] l[j + 1]) ⟨fun h => ⟨hi, hA, fun _ => ⟨hj, h⟩⟩, fun ⟨_, _, h⟩ => (h (by omega)).2⟩ ?_
        unfold cut_right.b2 cut_right.k1
        rw [cond_t (by omega), idxL_lt hi, Option.bind_some, wrap1 (j + 1) (by omega)]
        simp only [e1, cond_false]
        rw [cond_t (by omega), ew, idxL_lt hj, Option.bind_some]
        unfold cut_Part_place.f
        simp only [Option.bind_some]
        rw [hr, Option.bind_some, decide_eq_true (show ((j + 1 : Nat) : Int) > 0 by omega), cond_true]
        by_cases hlt : ltK l[j] l[j + 1]
        · rw [if_pos hlt, decide_eq_false (fun q => (hr2.1 q) hlt)]; rfl
        · rw [if_neg hlt, decide_eq_true (hr2.2 hlt)]; rfl
    · have e1 : (cond (cond (decide (l[i].2.1 < (1 : Int))) true (decide (l[i].2.1 > (8 : Int)))) true (decide (l[i].1.2 > (8 : Int)))) = true := by
        by_cases q1 : l[i].2.1 < 1
        · rw [decide_eq_true q1]; rfl
        · by_cases q2 : l[i].2.1 > 8
          · rw [decide_eq_true q2]
            cases decide (l[i].2.1 < 1) <;> rfl
          · rw [decide_eq_true (show l[i].1.2 > 8 by omega)]
            cases decide (l[i].2.1 < 1) <;> cases decide (l[i].2.1 > 8) <;> rfl
      refine hbody False ⟨fun h => h.elim, fun ⟨_, h, _⟩ => hA h⟩ ?_
      unfold cut_right.b2 cut_right.k1
      rw [cond_t (by omega), idxL_lt hi, Option.bind_some]
      simp only [e1, cond_true]
      rfl) (by
    show cut_right.b2 l (l.length : Int) = _
    unfold cut_right.b2
    rw [cond_f (by omega)])
  unfold cut_right.f
  rcases key with ⟨h1, h2⟩ | ⟨h1, h2⟩
  · exact .inl ⟨h1, by rw [show loopM (fun s1274 : Int => cut_right.b2 l s1274) (0 : Int) = _ from h2]; rfl⟩
  · exact .inr ⟨h1, by rw [show loopM (fun s1274 : Int => cut_right.b2 l s1274) (0 : Int) = _ from h2]; rfl⟩
def partO (x : D_cut_Part) : Option (List UInt8) := rowO x.2.2 [x.1.1, x.1.2, x.2.1]
theorem cutParts_spec {l : List D_cut_Part} (hl : l.length ≤ 1000000) (h1 : ∀ x ∈ l, x.2.2.length ≤ 8796093022000) (h2 : ∀ x ∈ l, ∀ t ∈ x.2.2, t.length ≤ 140737488355328) :
    (rightPs l ∧ cut_Parts.f l = some (match mapO partO l with | some x => (x, 0) | none => ([], 1))) ∨ (¬ rightPs l ∧ cut_Parts.f l = some ([], 1)) := by
  unfold cut_Parts.f
  rcases cutRight_spec (l := l) (by omega) with ⟨hr, e⟩ | ⟨hr, e⟩
  · refine .inl ⟨hr, ?_⟩
    rw [e, Option.bind_some]
    simp only [Bool.not_true, cond_false]
    have hL := each_loop (body := fun s340 : (List (List UInt8)) × Int => cut_Parts.b1 l s340.1 s340.2) l partO (Sum.inr (([] : List (List UInt8)), (1 : Int))) Sum.inl (fun i hi acc ha => by
      have hm := List.getElem_mem hi
      obtain ⟨t, ok, hrw, hO⟩ := row_O (ns := [l[i].1.1, l[i].1.2, l[i].2.1]) (h2 _ hm) (h1 _ hm) (by simp)
      show cut_Parts.b1 l acc (i : Int) = _
      unfold cut_Parts.b1 partO
      rw [cond_t (by omega), idxL_lt hi, Option.bind_some, hrw, Option.bind_some, hO]
      cases ok with
      | false => rfl
      | true =>
        simp only [Bool.not_true, cond_false, if_pos]
        rw [room_of (by omega), wrap1 i (by omega)]) (fun acc => by
      show cut_Parts.b1 l acc (l.length : Int) = _
      unfold cut_Parts.b1
      rw [cond_f (by omega)])
    rw [hL]
    cases mapO partO l with
    | none => rfl
    | some x => rfl
  · refine .inr ⟨hr, ?_⟩
    rw [e]; rfl
end Go.Proofs.Ytipoblinefamgaa.G
/- What is cut of one report, whose senders rise. -/
namespace Go.Proofs.Ytipoblinefamgaa.Cut
open Go.RowKit Go.Eng Go.Proofs
set_option linter.unusedVariables false
theorem getA_none {β : Type} {p : Pl} : ∀ {m : List (Pl × β)}, p ∉ m.map (·.1) → getA p m = none := by
  intro m
  induction m with
  | nil => intro _; rfl
  | cons e m ih =>
    intro h
    simp only [List.map_cons, List.mem_cons, not_or] at h
    simp only [getA]
    rw [if_neg h.1]
    exact ih h.2
theorem putA_none {β : Type} {p : Pl} {v : β} : ∀ {m : List (Pl × β)}, p ∉ m.map (·.1) → putA p v m = m ++ [(p, v)] := by
  intro m
  induction m with
  | nil => intro _; rfl
  | cons e m ih =>
    intro h
    simp only [List.map_cons, List.mem_cons, not_or] at h
    simp only [putA]
    rw [if_neg h.1, ih h.2]
    rfl
/-- Logs of one report whose senders are others, and none of which is empty: each stands as it is. -/
theorem foldG (id : Int × Int) : ∀ (logs : List LogD) (m : MapD), (∀ g ∈ logs, 0 < g.2.length) → (logs.map (·.1)).Nodup → (∀ g ∈ logs, (id.1, id.2, g.1) ∉ m.map (·.1)) →
    logs.foldl (stepG id) m = m ++ logs.map fun g => ((id.1, id.2, g.1), g.2) := by
  intro logs
  induction logs with
  | nil => intro m _ _ _; simp
  | cons g logs ih =>
    intro m hp hn hf
    have hg := hf g (by simp)
    have h1 : stepG id m g = m ++ [((id.1, id.2, g.1), g.2)] := by
      unfold stepG
      rw [getA_none hg, if_pos (show ((none : Option (List Tx)).getD []).length < g.2.length from hp g (by simp)), putA_none hg]
    rw [List.foldl_cons, h1, ih _ (fun x hx => hp x (List.mem_cons_of_mem _ hx)) (List.nodup_cons.1 hn).2]
    · simp
    · intro x hx
      simp only [List.map_append, List.map_cons, List.map_nil, List.mem_append, List.mem_singleton, not_or]
      refine ⟨hf x (List.mem_cons_of_mem _ hx), fun h => ?_⟩
      have : x.1 = g.1 := by have := congrArg (fun q : Pl => q.2.2) h; exact this
      exact (List.nodup_cons.1 hn).1 (List.mem_map.2 ⟨x, hx, this⟩)
def partsOf (id : Int × Int) (logs : List LogD) : List PartD := logs.map fun g => (id, g.1, g.2)
theorem missL_own (id : Int × Int) (logs ps : List LogD) (h : ∀ g ∈ ps, ownOf logs g.1 = g.2) : missL (partsOf id ps) id logs = [] := by
  unfold missL partsOf
  rw [List.filterMap_eq_nil_iff]
  intro x hx
  obtain ⟨g, hg, rfl⟩ := List.mem_map.1 hx
  unfold missOne
  rw [if_neg (by simp)]
  simp only [h g hg]
  rw [if_neg]
  simp
/-- A list that rises is sorted. -/
theorem sortPl_up {ps : List Pl} (h : ps.Pairwise fun x y => Go.Proofs.ltOf plCmp y x = false) : sortPl ps = ps := by
  unfold sortPl
  refine List.mergeSort_of_pairwise (h.imp ?_)
  intro a b hab
  simp [hab]
theorem getA_map (id : Int × Int) : ∀ (logs : List LogD) (g : LogD), (logs.map (·.1)).Nodup → g ∈ logs → getA (id.1, id.2, g.1) (logs.map fun g => (((id.1, id.2, g.1) : Pl), g.2)) = some g.2 := by
  intro logs
  induction logs with
  | nil => intro g _ h; cases h
  | cons x logs ih =>
    intro g hn hg
    simp only [List.map_cons, getA]
    rcases List.mem_cons.1 hg with rfl | hg'
    · simp
    · have hx : g.1 ≠ x.1 := fun e => (List.nodup_cons.1 hn).1 (List.mem_map.2 ⟨g, hg', e⟩)
      rw [if_neg (fun e => hx (by have := congrArg (fun q : Pl => q.2.2) e; first | exact this | exact this.symm))]
      exact ih g (List.nodup_cons.1 hn).2 hg'
/-- What is cut of one report whose senders rise, and none of whose logs is empty: its logs as they stand. -/
theorem cutL_one {r : ReportD} (hp : ∀ g ∈ r.2.2, 0 < g.2.length) (hr : (r.2.2.map (·.1)).Pairwise (· < ·)) :
    cutL [r] = r.2.2.map fun g => ((r.2.1.1, r.2.1.2), g.1, g.2) := by
  have hn : (r.2.2.map (·.1)).Nodup := hr.imp fun h => Int.ne_of_lt h
  have h1 : cutM [r] = r.2.2.map fun g => (((r.2.1.1, r.2.1.2, g.1) : Pl), g.2) := by
    show r.2.2.foldl (stepG r.2.1) [] = _
    rw [foldG r.2.1 r.2.2 [] hp hn (fun _ _ h => by cases h)]
    simp
  have h2 : sortPl ((cutM [r]).map (·.1)) = r.2.2.map fun g => ((r.2.1.1, r.2.1.2, g.1) : Pl) := by
    rw [h1, List.map_map]
    refine sortPl_up ?_
    rw [List.pairwise_map] at hr ⊢
    refine hr.imp fun h => ?_
    simp only [Function.comp, ltPl_no]
    omega
  unfold cutL
  rw [h2, List.map_map]
  refine List.map_congr_left fun g hg => ?_
  simp only [Function.comp, partOf, h1]
  rw [getA_map r.2.1 r.2.2 g hn hg]
  rfl
/-- Of logs whose senders are others, the one with a log's sender is that log. -/
theorem ownOf_mem : ∀ (logs : List LogD) (g : LogD), (logs.map (·.1)).Nodup → g ∈ logs → ownOf logs g.1 = g.2 := by
  intro logs
  induction logs with
  | nil => intro g _ h; cases h
  | cons x logs ih =>
    intro g hn hg
    have hn' := List.nodup_cons.1 hn
    rcases List.mem_cons.1 hg with rfl | hg'
    · unfold ownOf
      rw [List.findIdx?_cons]
      simp
    · have hx : ¬ (x.1 == g.1) = true := fun e => hn'.1 (List.mem_map.2 ⟨g, hg', by simpa using (beq_iff_eq.1 e).symm⟩)
      have := ih g hn'.2 hg'
      unfold ownOf at this ⊢
      rw [List.findIdx?_cons, if_neg hx]
      cases hf : logs.findIdx? (fun y => y.1 == g.1) with
      | none => rw [hf] at this; exact this
      | some i => rw [hf] at this; simpa using this
end Go.Proofs.Ytipoblinefamgaa.Cut
namespace Go.Proofs.Ytipoblinefamgaa.G
open Go.RowKit Go.Eng Go.Proofs Go.Proofs.Ytipoblinefamgaa.Cut
set_option linter.unusedVariables false
theorem cut_of {rs : List D_cut_Report} (hr : rs.length ≤ 1000000000) (hl : ∀ r ∈ rs, r.2.2.length ≤ 1000000000) (hk : (cutM rs).length ≤ 1000000000) (hx : ∀ e ∈ cutM rs, e.2.length ≤ 8796093022208) (hg : ∀ r ∈ rs, ∀ g ∈ r.2.2, g.2.length ≤ 8796093022208) : cut_Cut.f rs = some (cutL rs) := given_of ⟨hr, hl, hk, hx, hg⟩ _
theorem miss_of {ps : List D_cut_Part} {id : D_api_Id} {logs : List D_cut_Log} (h1 : ps.length ≤ 1000000000) (h2 : logs.length ≤ 1000000000) (h3 : ∀ x ∈ ps, x.2.2.length ≤ 8796093022208) (h4 : ∀ x ∈ logs, x.2.length ≤ 8796093022208) : cut_Missing.f ps id logs = some (missL ps id logs) := given_of ⟨h1, h2, h3, h4⟩ _
theorem cutM_one {r : D_cut_Report} (hp : ∀ g ∈ r.2.2, 0 < g.2.length) (hr : (r.2.2.map (·.1)).Pairwise (· < ·)) : cutM [r] = r.2.2.map fun g => (((r.2.1.1, r.2.1.2, g.1) : Pl), g.2) := by
  have hn : (r.2.2.map (·.1)).Nodup := hr.imp fun h => Int.ne_of_lt h
  show r.2.2.foldl (Cut.stepG r.2.1) [] = _
  rw [foldG r.2.1 r.2.2 [] hp hn (fun _ _ h => by cases h)]
  simp
theorem cut_one (r : D_cut_Report) (h0 : r.2.2.length ≤ 1000) (h1 : ∀ g ∈ r.2.2, 0 < g.2.length ∧ g.2.length ≤ 1000) (hr : (r.2.2.map (·.1)).Pairwise (· < ·)) : cut_Cut.f [r] = some (partsOf r.2.1 r.2.2) := by
  have hp : ∀ g ∈ r.2.2, 0 < g.2.length := fun g hg => (h1 g hg).1
  rw [cut_of (by simp) (by intro x hx; simp at hx; subst hx; omega) (by rw [cutM_one hp hr]; simp; omega) (by
    rw [cutM_one hp hr]
    intro e he
    obtain ⟨g, hg, rfl⟩ := List.mem_map.1 he
    have := (h1 g hg).2
    show g.2.length ≤ _
    omega) (by
    intro x hx g hg
    simp at hx
    subst hx
    have := (h1 g hg).2
    omega), cutL_one hp hr]
  rfl
end Go.Proofs.Ytipoblinefamgaa.G
