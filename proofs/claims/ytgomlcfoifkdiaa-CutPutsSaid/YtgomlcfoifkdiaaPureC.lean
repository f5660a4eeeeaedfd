/- What the printed helpers of chapter 11 answer: reports, parts; the reference's cut and what is missing. -/
import Derived.Test.YtgomlcfoifkdiaaPureB
namespace Go.Proofs.Ytgomlcfoifkdiaa.G
open Go.RowKit Go.Eng Go.Proofs Go.Proofs.Ytgomlcfoifkdiaa.Cut
set_option linter.unusedVariables false
set_option linter.unusedSimpArgs false

/-- A loop that goes on as long as p holds, and has an end for each case. -/
theorem whileLoop {S O : Type} {body : S → Option (S ⊕ O)} (st : Nat → S) (n : Nat) (p : Nat → Prop) {o1 o2 : O} (hs : ∀ i, i < n → (p i ∧ body (st i) = some (.inl (st (i + 1)))) ∨ (¬ p i ∧ body (st i) = some (.inr o2))) (he : body (st n) = some (.inr o1)) :
    ((∀ i, i < n → p i) ∧ loopM body (st 0) = some o1) ∨ (¬ (∀ i, i < n → p i) ∧ loopM body (st 0) = some o2) := by
  by_cases h : ∀ i, i < n → p i
  · exact .inl ⟨h, loop_count st n (fun i hi => (hs i hi).elim (fun q => q.2) (fun q => absurd (h i hi) q.1)) he⟩
  · obtain ⟨j, hj, hn, hb⟩ := least_not h
    exact .inr ⟨h, loop_count st j (fun i hi => (hs i (by omega)).elim (fun q => q.2) (fun q => absurd (hb i hi) q.1)) ((hs j hj).elim (fun q => absurd q.1 hn) (fun q => q.2))⟩

theorem asReports_some (l : List D_cut_Report) (h : l.length * 48 ≤ 140737488355328) (h1 : ∀ r ∈ l, r.2.2.length * 32 ≤ 140737488355328) (h2 : ∀ r ∈ l, ∀ g ∈ r.2.2, g.2.length ≤ 8796093022208) :
    ∃ q b, gemotlaw11_asReports.f l = some (q, b) ∧ (b = true → q = l ∧ l.length < 12 ∧ ∀ r ∈ l, r.2.2.length < 20) := by
  unfold gemotlaw11_asReports.f
  have key := whileLoop (body := fun s : (List D_gemotref11_Report) × Int => gemotlaw11_asReports.b1 l s.1 s.2) (fun i => (l.take i, (i : Int))) l.length (fun i => ∃ (hi : i < l.length), gemotlaw11_shortLogs.f l[i].2.2 = some true) (o1 := Sum.inl l) (o2 := Sum.inr ([], false)) (fun i hi => by
    have hm := List.getElem_mem hi
    obtain ⟨b, hb, _⟩ := shortLogs_some l[i].2.2 (by have := h1 _ hm; omega) (fun g hg => by have := h2 _ hm g hg; omega)
    show _ ∨ (_ ∧ gemotlaw11_asReports.b1 l (l.take i) (i : Int) = _)
    cases b with
    | true =>
      refine .inl ⟨⟨hi, hb⟩, ?_⟩
      show gemotlaw11_asReports.b1 l (l.take i) (i : Int) = _
      unfold gemotlaw11_asReports.b1
      rw [cond_t (by omega), idxL_lt hi, Option.bind_some, hb, Option.bind_some]
      simp only [Bool.not_true, cond_false, Option.bind_some]
      rw [asLogs_eq _ (h1 _ hm) (h2 _ hm), Option.bind_some, room_of (by simp; omega), wrap1 i (by omega), ← take_snoc hi]
    | false =>
      refine .inr ⟨fun ⟨_, hc⟩ => (by rw [hb] at hc; cases hc), ?_⟩
      unfold gemotlaw11_asReports.b1
      rw [cond_t (by omega), idxL_lt hi, Option.bind_some, hb, Option.bind_some]
      rfl) (by
    show gemotlaw11_asReports.b1 l (l.take l.length) (l.length : Int) = _
    unfold gemotlaw11_asReports.b1
    rw [cond_f (by omega), List.take_length])
  rcases key with ⟨ha, hk⟩ | ⟨_, hk⟩
  · have hk : loopM (fun s : (List D_gemotref11_Report) × Int => gemotlaw11_asReports.b1 l s.1 s.2) (([] : List D_gemotref11_Report), (0 : Int)) = some (Sum.inl l) := hk
    rw [hk]
    refine ⟨l, _, rfl, fun hb => ⟨rfl, by have := of_decide_eq_true hb; omega, fun r hr => ?_⟩⟩
    obtain ⟨i, hi, rfl⟩ := List.mem_iff_getElem.1 hr
    obtain ⟨_, hc⟩ := ha i hi
    obtain ⟨b, hb', hlt⟩ := shortLogs_some l[i].2.2 (by have := h1 _ hr; omega) (fun g hg => by have := h2 _ hr g hg; omega)
    rw [hb'] at hc
    cases hc
    exact hlt rfl
  · have hk : loopM (fun s : (List D_gemotref11_Report) × Int => gemotlaw11_asReports.b1 l s.1 s.2) (([] : List D_gemotref11_Report), (0 : Int)) = some (Sum.inr ([], false)) := hk
    rw [hk]
    exact ⟨[], false, rfl, fun h => by cases h⟩

theorem asParts_some (l : List D_cut_Part) (h : l.length * 48 ≤ 140737488355328) (h2 : ∀ r ∈ l, r.2.2.length ≤ 8796093022208) :
    ∃ q b, gemotlaw11_asParts.f l = some (q, b) ∧ (b = true → q = l ∧ l.length < 20) := by
  unfold gemotlaw11_asParts.f
  have key := whileLoop (body := fun s : (List D_gemotref11_Part) × Int => gemotlaw11_asParts.b1 l s.1 s.2) (fun i => (l.take i, (i : Int))) l.length (fun i => ∃ (hi : i < l.length), gemotlaw11_shortLogs.f [((0 : Int), l[i].2.2)] = some true) (o1 := Sum.inl l) (o2 := Sum.inr ([], false)) (fun i hi => by
    have hm := List.getElem_mem hi
    obtain ⟨b, hb, _⟩ := shortLogs_some [((0 : Int), l[i].2.2)] (by simp) (fun g hg => by simp at hg; subst hg; have := h2 _ hm; simp; omega)
    show _ ∨ (_ ∧ gemotlaw11_asParts.b1 l (l.take i) (i : Int) = _)
    cases b with
    | true =>
      refine .inl ⟨⟨hi, hb⟩, ?_⟩
      show gemotlaw11_asParts.b1 l (l.take i) (i : Int) = _
      unfold gemotlaw11_asParts.b1
      rw [cond_t (by omega), idxL_lt hi, Option.bind_some, hb, Option.bind_some]
      simp only [Bool.not_true, cond_false, Option.bind_some]
      rw [texts_eq _ (h2 _ hm), Option.bind_some, room_of (by simp; omega), wrap1 i (by omega), ← take_snoc hi]
    | false =>
      refine .inr ⟨fun ⟨_, hc⟩ => (by rw [hb] at hc; cases hc), ?_⟩
      unfold gemotlaw11_asParts.b1
      rw [cond_t (by omega), idxL_lt hi, Option.bind_some, hb, Option.bind_some]
      rfl) (by
    show gemotlaw11_asParts.b1 l (l.take l.length) (l.length : Int) = _
    unfold gemotlaw11_asParts.b1
    rw [cond_f (by omega), List.take_length])
  rcases key with ⟨ha, hk⟩ | ⟨_, hk⟩
  · have hk : loopM (fun s : (List D_gemotref11_Part) × Int => gemotlaw11_asParts.b1 l s.1 s.2) (([] : List D_gemotref11_Part), (0 : Int)) = some (Sum.inl l) := hk
    rw [hk]
    exact ⟨l, _, rfl, fun hb => ⟨rfl, by have := of_decide_eq_true hb; omega⟩⟩
  · have hk : loopM (fun s : (List D_gemotref11_Part) × Int => gemotlaw11_asParts.b1 l s.1 s.2) (([] : List D_gemotref11_Part), (0 : Int)) = some (Sum.inr ([], false)) := hk
    rw [hk]
    exact ⟨[], false, rfl, fun h => by cases h⟩

/-! What one has not, in the reference. -/
theorem ownOf_cons (g : D_cut_Log) (l : List D_cut_Log) (s : Int) : ownOf (g :: l) s = if g.1 = s then g.2 else ownOf l s := by
  unfold ownOf
  rw [List.findIdx?_cons]
  by_cases h : g.1 = s
  · rw [if_pos h, if_pos (by simpa using h)]; rfl
  · rw [if_neg h, if_neg (by simpa using h)]
    cases hf : l.findIdx? (fun y => y.1 == s) with
    | none => rfl
    | some i => simp
theorem ownOf_len (l : List D_cut_Log) (s : Int) (b : Nat) (h : ∀ g ∈ l, g.2.length ≤ b) : (ownOf l s).length ≤ b := by
  induction l with
  | nil => exact Nat.zero_le _
  | cons g l ih =>
    rw [ownOf_cons]
    split
    · exact h g List.mem_cons_self
    · exact ih fun g hg => h g (List.mem_cons_of_mem _ hg)
theorem refOwn (ps : List D_cut_Part) (id : D_api_Id) (logs : List D_cut_Log) (v : List D_cut_Log) (i : Nat) (hi : i < ps.length) (hl : logs.length ≤ 4611686018427387904) :
    loopM (fun s : (List (List UInt8)) × Int => gemotref11_Missing.b2 ps id logs v (i : Int) s.1 s.2) (([] : List (List UInt8)), (IntKind.i64.wrap ((logs.length : Int) - (1 : Int)))) = some (ownOf logs ps[i].2.1) := by
  rw [Eng.i64_id (by omega) (by omega)]
  have key := loop_count (body := fun s : (List (List UInt8)) × Int => gemotref11_Missing.b2 ps id logs v (i : Int) s.1 s.2) (fun j => (ownOf (logs.drop (logs.length - j)) ps[i].2.1, (logs.length : Int) - 1 - (j : Int))) logs.length (o := ownOf logs ps[i].2.1) (fun j hj => by
    show gemotref11_Missing.b2 ps id logs v (i : Int) (ownOf (logs.drop (logs.length - j)) ps[i].2.1) ((logs.length : Int) - 1 - (j : Int)) = _
    have hk : logs.length - (j + 1) < logs.length := by omega
    have e : (logs.length : Int) - 1 - (j : Int) = ((logs.length - (j + 1) : Nat) : Int) := by omega
    have e2 : IntKind.i64.wrap (((logs.length - (j + 1) : Nat) : Int) - (1 : Int)) = (logs.length : Int) - 1 - ((j + 1 : Nat) : Int) := by rw [Eng.i64_id (by omega) (by omega)]; omega
    have hd : logs.drop (logs.length - (j + 1)) = logs[logs.length - (j + 1)] :: logs.drop (logs.length - j) := by
      rw [List.drop_eq_getElem_cons hk]
      have : logs.length - (j + 1) + 1 = logs.length - j := by omega
      rw [this]
    unfold gemotref11_Missing.b2 gemotref11_Missing.k1
    rw [e, cond_t (by omega), idxL_lt hk, Option.bind_some, idxL_lt hi, Option.bind_some, Option.bind_some, e2, hd, ownOf_cons]
    by_cases hc : logs[logs.length - (j + 1)].1 = ps[i].2.1
    · rw [if_pos hc, hc]; simp
    · rw [if_neg hc, beq_false_of_ne hc]; rfl) (by
    show gemotref11_Missing.b2 ps id logs v (i : Int) (ownOf (logs.drop (logs.length - logs.length)) ps[i].2.1) ((logs.length : Int) - 1 - (logs.length : Int)) = _
    unfold gemotref11_Missing.b2
    rw [cond_f (by omega), Nat.sub_self, List.drop_zero])
  have e0 : (ownOf (logs.drop (logs.length - 0)) ps[i].2.1, (logs.length : Int) - 1 - ((0 : Nat) : Int)) = (([] : List (List UInt8)), (logs.length : Int) - 1) := by
    rw [Nat.sub_zero, List.drop_length]
    simp [ownOf]
  rw [e0] at key
  exact key
theorem refMissing_eq (ps : List D_cut_Part) (id : D_api_Id) (logs : List D_cut_Log) (hp : ps.length ≤ 1000000000) (hl : logs.length ≤ 4611686018427387904) (hx : ∀ x ∈ ps, x.2.2.length ≤ 8796093022208) (hg : ∀ g ∈ logs, g.2.length ≤ 8796093022208) :
    gemotref11_Missing.f ps id logs = some (missL ps id logs) := by
  unfold gemotref11_Missing.f
  have hL : loopM (fun s : (List D_gemotref11_Log) × Int => gemotref11_Missing.b6 ps id logs s.1 s.2) (([] : List D_gemotref11_Log), (0 : Int)) = some (missL ps id logs) := by
    refine loop_count (fun i => (missL (ps.take i) id logs, (i : Int))) ps.length (fun i hi => ?_) ?_
    · show gemotref11_Missing.b6 ps id logs (missL (ps.take i) id logs) (i : Int) = _
      have hm := missL_snoc (ps.take i) ps[i] id logs
      rw [take_snoc hi] at hm
      have hml := missL_le (ps.take i) id logs
      have hml2 : (ps.take i).length ≤ i := by simp; omega
      have hxl := hx _ (List.getElem_mem hi)
      have hol := ownOf_len logs ps[i].2.1 8796093022208 hg
      have hone : missOne id logs ps[i] = if ps[i].1 ≠ id then none else if ((ownOf logs ps[i].2.1).length < ps[i].2.2.length && beg (ownOf logs ps[i].2.1) ps[i].2.2) = true then some (ps[i].2.1, ps[i].2.2.drop (ownOf logs ps[i].2.1).length) else none := rfl
      unfold gemotref11_Missing.b6
      rw [cond_t (by omega), idxL_lt hi, Option.bind_some, refOwn ps id logs _ i hi hl, Option.bind_some]
      unfold gemotref11_Missing.k5 gemotref11_Missing.k4 gemotref11_Missing.k3
      rw [wrap1 i (by omega), idxL_lt hi, Option.bind_some, begins_eq _ _ (by omega)]
      simp only [Option.bind_some]
      rw [hm, hone]
      clear hm hone
      generalize missL (ps.take i) id logs = v at *
      generalize ownOf logs ps[i].2.1 = own at *
      generalize ps[i] = x at *
      obtain ⟨⟨x0, x1⟩, xs, items⟩ := x
      obtain ⟨i0, i1⟩ := id
      simp only at hxl hol ⊢
      by_cases h0 : x0 = i0
      · by_cases h1 : x1 = i1
        · subst h0 h1
          simp only [beq_self_eq_true, Bool.and_self, Bool.not_true, cond_false, ne_eq, not_true_eq_false, if_false]
          cases hb : beg own items with
          | false => simp
          | true =>
            have hle : own.length ≤ items.length := by
              unfold beg at hb
              rw [Bool.and_eq_true, decide_eq_true_eq] at hb
              exact hb.1
            have hsl : slcM items (own.length : Int) (items.length : Int) = some (items.drop own.length) := by
              unfold slcM
              rw [if_pos ⟨by omega, by omega, by omega⟩, Int.toNat_natCast, Int.toNat_natCast, List.take_of_length_le (by simp)]
            simp only [cond_true, hsl, Option.bind_some, Bool.and_true]
            by_cases hlt : own.length < items.length
            · rw [cond_t (by omega), room_of (by omega), if_pos (by simpa using hlt)]; rfl
            · rw [cond_f (by omega), if_neg (by simpa using hlt)]; simp
        · simp [h1, beq_false_of_ne h1]
      · simp [h0, beq_false_of_ne h0]
    · show gemotref11_Missing.b6 ps id logs (missL (ps.take ps.length) id logs) (ps.length : Int) = _
      unfold gemotref11_Missing.b6
      rw [cond_f (by omega), List.take_length]
  rw [hL]; rfl
end Go.Proofs.Ytgomlcfoifkdiaa.G
