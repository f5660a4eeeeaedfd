/- What the printed helpers of chapter 11 answer: rows of logs, of parts. -/
import Derived.Test.YtgomlcfoifkdiaaPure11
namespace Go.Proofs.Ytgomlcfoifkdiaa.G
open Go.RowKit Go.Eng Go.Proofs Go.Proofs.Ytgomlcfoifkdiaa.Cut
set_option linter.unusedVariables false

theorem least_not {p : Nat → Prop} : ∀ {n : Nat}, ¬ (∀ i, i < n → p i) → ∃ j, j < n ∧ ¬ p j ∧ ∀ i, i < j → p i := by
  intro n
  induction n with
  | zero => intro h; exact absurd (fun i hi => absurd hi (Nat.not_lt_zero i)) h
  | succ n ih =>
    intro h
    by_cases h2 : ∀ i, i < n → p i
    · refine ⟨n, Nat.lt_succ_self n, fun hp => h fun i hi => ?_, h2⟩
      rcases Nat.lt_or_ge i n with h3 | h3
      · exact h2 i h3
      · obtain rfl : i = n := by omega
        exact hp
    · obtain ⟨j, h3, h4, h5⟩ := ih h2
      exact ⟨j, by omega, h4, h5⟩
/-- A loop that looks at one after the other, and is done at the first that is not so. -/
theorem allLoop {body : Int → Option (Int ⊕ (Unit ⊕ Bool))} (n : Nat) (p : Nat → Prop) (hs : ∀ i, i < n → (p i ∧ body (i : Int) = some (.inl ((i + 1 : Nat) : Int))) ∨ (¬ p i ∧ body (i : Int) = some (.inr (Sum.inr false)))) (he : body (n : Int) = some (.inr (Sum.inl ()))) :
    ((∀ i, i < n → p i) ∧ loopM body (0 : Int) = some (Sum.inl ())) ∨ (¬ (∀ i, i < n → p i) ∧ loopM body (0 : Int) = some (Sum.inr false)) := by
  by_cases h : ∀ i, i < n → p i
  · exact .inl ⟨h, loop_count (fun i => (i : Int)) n (fun i hi => (hs i hi).elim (fun q => q.2) (fun q => absurd (h i hi) q.1)) he⟩
  · obtain ⟨j, hj, hn, hb⟩ := least_not h
    exact .inr ⟨h, loop_count (fun i => (i : Int)) j (fun i hi => (hs i (by omega)).elim (fun q => q.2) (fun q => absurd (hb i hi) q.1)) ((hs j hj).elim (fun q => absurd q.1 hn) (fun q => q.2))⟩
theorem rows_eq_iff {α : Type} {a b : List α} (hl : a.length = b.length) : (∀ i, i < a.length → a[i]? = b[i]?) ↔ a = b := by
  refine ⟨fun h => ?_, fun h => by subst h; exact fun _ _ => rfl⟩
  apply List.ext_getElem?
  intro i
  rcases Nat.lt_or_ge i a.length with h1 | h1
  · exact h i h1
  · rw [List.getElem?_eq_none h1, List.getElem?_eq_none (by omega)]
theorem begins_eq (a b : List (List UInt8)) (h : a.length ≤ 4611686018427387904) : gemotref11_Begins.f a b = some (beg a b) := by
  unfold gemotref11_Begins.f beg
  by_cases hl : (a.length : Int) > (b.length : Int)
  · rw [cond_t hl, decide_eq_false (by omega : ¬ a.length ≤ b.length)]; rfl
  · rw [cond_f hl, decide_eq_true (by omega : a.length ≤ b.length), Bool.true_and]
    have key := allLoop (body := fun s => gemotref11_Begins.b1 a b s) a.length (fun i => a[i]? = b[i]?) (fun i hi => by
      unfold gemotref11_Begins.b1
      rw [cond_t (by omega), idxL_lt hi, idxL_lt (xs := b) (by omega), Option.bind_some, Option.bind_some, strEq_eq, wrap1 i (by omega), List.getElem?_eq_getElem hi, List.getElem?_eq_getElem (by omega : i < b.length)]
      by_cases e : a[i] = b[i]
      · exact .inl ⟨by rw [e], by simp [e]⟩
      · exact .inr ⟨fun h => e (Option.some.inj h), by simp [e]⟩) (by
      unfold gemotref11_Begins.b1
      rw [cond_f (by omega)])
    have : (∀ i, i < a.length → a[i]? = b[i]?) ↔ a = b.take a.length := by
      rw [← rows_eq_iff (by simp; omega)]
      refine forall_congr' fun i => forall_congr' fun hi => ?_
      rw [List.getElem?_take_of_lt hi]
    rcases key with ⟨hc, hk⟩ | ⟨hc, hk⟩
    · rw [hk, decide_eq_true (this.1 hc)]; rfl
    · rw [hk, decide_eq_false (fun e => hc (this.2 e))]; rfl

theorem asLogs_eq (l : List D_cut_Log) (h : l.length * 32 ≤ 140737488355328) (hi : ∀ g ∈ l, g.2.length ≤ 8796093022208) : gemotlaw11_asLogs.f l = some l := by
  unfold gemotlaw11_asLogs.f
  have hl : loopM (fun s : (List D_gemotref11_Log) × Int => gemotlaw11_asLogs.b1 l s.1 s.2) (([] : List D_gemotref11_Log), (0 : Int)) = some l := by
    refine loop_count (fun i => (l.take i, (i : Int))) l.length (fun i hlt => ?_) ?_
    · show gemotlaw11_asLogs.b1 l (l.take i) (i : Int) = _
      unfold gemotlaw11_asLogs.b1
      rw [cond_t (by omega), idxL_lt hlt, Option.bind_some, Option.bind_some, texts_eq _ (hi _ (List.getElem_mem hlt)), Option.bind_some, room_of (by simp; omega), wrap1 i (by omega), ← take_snoc hlt]
    · show gemotlaw11_asLogs.b1 l (l.take l.length) (l.length : Int) = _
      unfold gemotlaw11_asLogs.b1
      rw [cond_f (by omega), List.take_length]
  rw [hl]; rfl

theorem sameLogs_eq (a : List D_cut_Log) (b : List D_gemotref11_Log) (h : a.length ≤ 4611686018427387904) (hi : ∀ g ∈ a, g.2.length ≤ 140737488355328) : gemotlaw11_sameLogs.f a b = some (decide (a = b)) := by
  unfold gemotlaw11_sameLogs.f
  rw [int_ne]
  by_cases hl : a.length = b.length
  · rw [cond_f (by simpa using hl)]
    have key := allLoop (body := fun s => gemotlaw11_sameLogs.b2 a b s) a.length (fun i => a[i]? = b[i]?) (fun i hlt => by
      unfold gemotlaw11_sameLogs.b2 gemotlaw11_sameLogs.k1
      have hlb : i < b.length := by omega
      rw [cond_t (by omega), idxL_lt hlt, idxL_lt hlb, wrap1 i (by omega), List.getElem?_eq_getElem hlt, List.getElem?_eq_getElem hlb]
      simp only [Option.bind_some]
      rw [same_eq _ _ (hi _ (List.getElem_mem hlt))]
      generalize a[i] = x
      generalize b[i] = y
      obtain ⟨x1, x2⟩ := x
      obtain ⟨y1, y2⟩ := y
      by_cases e1 : x1 = y1
      · by_cases e2 : x2 = y2
        · subst e1 e2; exact .inl ⟨rfl, by simp⟩
        · subst e1; exact .inr ⟨by simp [e2], by simp [e2]⟩
      · exact .inr ⟨by simp [e1], by simp [e1, bne, show (x1 == y1) = false from beq_false_of_ne e1]⟩) (by
      unfold gemotlaw11_sameLogs.b2
      rw [cond_f (by omega)])
    rcases key with ⟨hc, hk⟩ | ⟨hc, hk⟩
    · rw [hk, decide_eq_true ((rows_eq_iff hl).1 hc)]; rfl
    · rw [hk, decide_eq_false (fun e => hc ((rows_eq_iff hl).2 e))]; rfl
  · rw [cond_t (by simpa using hl), decide_eq_false (fun e => hl (by rw [e]))]

theorem sameParts_eq (a : List D_cut_Part) (b : List D_gemotref11_Part) (h : a.length ≤ 4611686018427387904) (hi : ∀ g ∈ a, g.2.2.length ≤ 140737488355328) : gemotlaw11_sameParts.f a b = some (decide (a = b)) := by
  unfold gemotlaw11_sameParts.f
  rw [int_ne]
  by_cases hl : a.length = b.length
  · rw [cond_f (by simpa using hl)]
    have key := allLoop (body := fun s => gemotlaw11_sameParts.b2 a b s) a.length (fun i => a[i]? = b[i]?) (fun i hlt => by
      unfold gemotlaw11_sameParts.b2 gemotlaw11_sameParts.k1
      have hlb : i < b.length := by omega
      have hii := hi _ (List.getElem_mem hlt)
      rw [cond_t (by omega), idxL_lt hlt, idxL_lt hlb, wrap1 i (by omega), List.getElem?_eq_getElem hlt, List.getElem?_eq_getElem hlb]
      simp only [Option.bind_some]
      rw [same_eq _ _ hii]
      generalize a[i] = x
      generalize b[i] = y
      obtain ⟨⟨x0, x1⟩, x2, x3⟩ := x
      obtain ⟨⟨y0, y1⟩, y2, y3⟩ := y
      by_cases e0 : x0 = y0
      · by_cases e1 : x1 = y1
        · by_cases e2 : x2 = y2
          · by_cases e3 : x3 = y3
            · subst e0 e1 e2 e3; exact .inl ⟨rfl, by simp⟩
            · subst e0 e1 e2; exact .inr ⟨by simp [e3], by simp [e3]⟩
          · subst e0 e1; exact .inr ⟨by simp [e2], by simp [e2, bne, show (x2 == y2) = false from beq_false_of_ne e2]⟩
        · subst e0; exact .inr ⟨by simp [e1], by simp [e1, bne, show (x1 == y1) = false from beq_false_of_ne e1]⟩
      · exact .inr ⟨by simp [e0], by simp [e0, bne, show (x0 == y0) = false from beq_false_of_ne e0]⟩) (by
      unfold gemotlaw11_sameParts.b2
      rw [cond_f (by omega)])
    rcases key with ⟨hc, hk⟩ | ⟨hc, hk⟩
    · rw [hk, decide_eq_true ((rows_eq_iff hl).1 hc)]; rfl
    · rw [hk, decide_eq_false (fun e => hc ((rows_eq_iff hl).2 e))]; rfl
  · rw [cond_t (by simpa using hl), decide_eq_false (fun e => hl (by rw [e]))]

/-- Whether logs are short: some bool; if so they are few. -/
theorem shortLogs_some (l : List D_cut_Log) (h : l.length ≤ 4611686018427387904) (hi : ∀ g ∈ l, g.2.length ≤ 4611686018427387904) : ∃ b, gemotlaw11_shortLogs.f l = some b ∧ (b = true → l.length < 20) := by
  unfold gemotlaw11_shortLogs.f
  have inner : ∀ (i : Nat) (hlt : i < l.length) (n : Int), ∃ m, loopM (fun s : Int × Int => gemotlaw11_shortLogs.b1 l (i : Int) s.1 s.2) (n, (0 : Int)) = some m := by
    intro i hlt n
    have hg := hi _ (List.getElem_mem hlt)
    have go : ∀ k j n, j + k = l[i].2.length → ∃ m, loopM (fun s : Int × Int => gemotlaw11_shortLogs.b1 l (i : Int) s.1 s.2) (n, (j : Int)) = some m := by
      intro k
      induction k with
      | zero =>
        intro j n hj
        have hj0 : ¬ ((j : Int) < (l[i].2.length : Int)) := by omega
        exact ⟨n, loop_end (by show gemotlaw11_shortLogs.b1 l (i : Int) n (j : Int) = _; unfold gemotlaw11_shortLogs.b1; rw [idxL_lt hlt, Option.bind_some, cond_f hj0])⟩
      | succ k ih =>
        intro j n hj
        have hjl : j < l[i].2.length := by omega
        have hj1 : (j : Int) < (l[i].2.length : Int) := by omega
        have hj2 : j ≤ 4611686018427387904 := by omega
        obtain ⟨m, hm⟩ := ih (j + 1) (IntKind.i64.wrap ((IntKind.i64.wrap (n + (1 : Int))) + (l[i].2[j].length : Int))) (by omega)
        refine ⟨m, loop_step ?_ hm⟩
        show gemotlaw11_shortLogs.b1 l (i : Int) n (j : Int) = _
        unfold gemotlaw11_shortLogs.b1
        rw [idxL_lt hlt, Option.bind_some, cond_t hj1, Option.bind_some, idxL_lt hjl, Option.bind_some, wrap1 j hj2]
    exact go l[i].2.length 0 n (Nat.zero_add _)
  have outer : ∀ k i n, i + k = l.length → ∃ m, loopM (fun s : Int × Int => gemotlaw11_shortLogs.b3 l s.1 s.2) (n, (i : Int)) = some m := by
    intro k
    induction k with
    | zero =>
      intro i n hi
      exact ⟨n, loop_end (by show gemotlaw11_shortLogs.b3 l n (i : Int) = _; unfold gemotlaw11_shortLogs.b3; rw [cond_f (by omega)])⟩
    | succ k ih =>
      intro i n hik
      have hlt : i < l.length := by omega
      obtain ⟨n', hn'⟩ := inner i hlt n
      obtain ⟨m, hm⟩ := ih (i + 1) n' (by omega)
      refine ⟨m, loop_step ?_ hm⟩
      show gemotlaw11_shortLogs.b3 l n (i : Int) = _
      unfold gemotlaw11_shortLogs.b3
      rw [cond_t (by omega), hn', Option.bind_some]
      unfold gemotlaw11_shortLogs.k2
      rw [wrap1 i (by omega)]
  obtain ⟨m, hm⟩ := outer l.length 0 0 (Nat.zero_add _)
  have hm : loopM (fun s : Int × Int => gemotlaw11_shortLogs.b3 l s.1 s.2) ((0 : Int), (0 : Int)) = some m := hm
  rw [hm]
  refine ⟨_, rfl, fun hb => ?_⟩
  by_cases hl : (l.length : Int) < 20
  · omega
  · rw [decide_eq_false hl] at hb; cases hb
end Go.Proofs.Ytgomlcfoifkdiaa.G
