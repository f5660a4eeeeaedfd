/- CutBack, as it is reckoned. -/
import Derived.Test.YtgomlcfoifkdiaaPureX
import Derived.Test.YtgomlcfoifkdiaaOwn11
namespace Go.Proofs.Ytgomlcfoifkdiaa.G
open Go.RowKit Go.Eng Go.Proofs Go.Proofs.Ytgomlcfoifkdiaa.Cut
set_option linter.unusedVariables false
set_option linter.unusedSimpArgs false

/-! CutBack, as it is reckoned. -/
theorem rightPs_nil : rightPs [] := fun i hi => absurd hi (Nat.not_lt_zero i)
theorem back_k3 (s : List (List UInt8)) (hs : s.length ≤ 20) (hb : ∀ t ∈ s, t.length ≤ 1000) : gemotlaw11_CutBack.k3 s s = some true := by
  have hb' : ∀ t ∈ s, t.length ≤ 140737488355328 := fun t ht => by have := hb t ht; omega
  have hsame : gemotlaw11_same.f s s = some true := by rw [same_eq _ _ (by omega), decide_eq_true rfl]
  have hput0 : cut_Put.f [] = some ([], 0) := by
    rw [cutPut_spec (l := []) (by simp) (fun g hg => by simp at hg) (fun g hg => by simp at hg)]; rfl
  have hparts0 : cut_Parts.f [] = some ([], 0) := by
    rcases cutParts_spec (l := []) (by simp) (fun g hg => by simp at hg) (fun g hg => by simp at hg) with ⟨_, e⟩ | ⟨h, _⟩
    · rw [e]; rfl
    · exact absurd rightPs_nil h
  -- logs
  have hA : ∃ x i j y, cut_Take.f s = some (x, i) ∧ cut_Put.f x = some (y, j) ∧ ((x = [] ∧ i = 2) ∨ (i = 0 ∧ j = 0 ∧ y = s)) := by
    rw [cutTake_spec (by omega) hb']
    cases ht : takeLogs 0 s with
    | none => exact ⟨[], 2, 0, [], rfl, hput0, .inl ⟨rfl, rfl⟩⟩
    | some x =>
      have hl := take_logs ht
      obtain ⟨h1, h2, h3⟩ := logs_bounds hl
      refine ⟨x, 0, 0, s, rfl, ?_, .inr ⟨rfl, rfl, rfl⟩⟩
      rw [cutPut_spec (by omega) (fun g hg => by have := (h2 g hg).1; omega) (fun g hg t ht => by have := (h2 g hg).2 t ht; omega), hl]
  have hB : ∃ x i j y, cut_Unpart.f s = some (x, i) ∧ cut_Parts.f x = some (y, j) ∧ ((x = [] ∧ i = 2) ∨ (i = 0 ∧ j = 0 ∧ y = s)) := by
    have hU := cutUnpart_spec (l := s) (by omega) hb'
    cases hm : mapO unpartO s with
    | none =>
      rw [hm] at hU
      exact ⟨[], 2, 0, [], hU, hparts0, .inl ⟨rfl, rfl⟩⟩
    | some ps =>
      rw [hm] at hU
      rcases hU with ⟨hr, e⟩ | ⟨hr, e⟩
      · have hp := take_parts hm
        obtain ⟨h2, h3⟩ := parts_bounds hp
        have hlen := mapO_len hm
        refine ⟨ps, 0, 0, s, e, ?_, .inr ⟨rfl, rfl, rfl⟩⟩
        rcases cutParts_spec (l := ps) (by omega) (fun g hg => by have := (h2 g hg).1; omega) (fun g hg t ht => by have := (h2 g hg).2 t ht; omega) with ⟨_, e2⟩ | ⟨hn, _⟩
        · rw [e2, hp]
        · exact absurd hr hn
      · exact ⟨[], 2, 0, [], e, hparts0, .inl ⟨rfl, rfl⟩⟩
  obtain ⟨x, i, j, y, e1, e2, hc1⟩ := hA
  obtain ⟨z, k, m, u, e3, e4, hc2⟩ := hB
  unfold gemotlaw11_CutBack.k3
  rw [e1, Option.bind_some, e2, Option.bind_some, e3, Option.bind_some, e4, Option.bind_some]
  rcases hc1 with ⟨rfl, rfl⟩ | ⟨rfl, rfl, rfl⟩
  · rcases hc2 with ⟨rfl, rfl⟩ | ⟨rfl, rfl, rfl⟩
    · rfl
    · simp only [hsame]; rfl
  · rcases hc2 with ⟨rfl, rfl⟩ | ⟨rfl, rfl, rfl⟩
    · simp only [hsame]; rfl
    · simp only [hsame]; rfl
theorem back_eq (l : List D_cut_Log) (p : List D_cut_Part) (s : List (List UInt8)) (hl : l.length * 32 ≤ 140737488355328) (hl1 : ∀ g ∈ l, g.2.length ≤ 8796093022000) (hl2 : ∀ g ∈ l, ∀ t ∈ g.2, t.length ≤ 140737488355328)
    (hp : p.length * 48 ≤ 140737488355328) (hp1 : ∀ g ∈ p, g.2.2.length ≤ 8796093022000) (hp2 : ∀ g ∈ p, ∀ t ∈ g.2.2, t.length ≤ 140737488355328) : gemotlaw11_CutBack.f l p s = some true := by
  unfold gemotlaw11_CutBack.f
  obtain ⟨q, b, h2, h2'⟩ := asParts_some p hp (fun g hg => by have := hp1 g hg; omega)
  obtain ⟨b3, h3, h3'⟩ := shortLogs_some l (by omega) (fun g hg => by have := hl1 g hg; omega)
  rw [shown_eq, Option.bind_some, h2, Option.bind_some, Bool.not_true, cond_false, h3, Option.bind_some]
  cases b3 with
  | false => rfl
  | true =>
    cases b with
    | false => rfl
    | true =>
      obtain ⟨rfl, hp20⟩ := h2' rfl
      have hl20 := h3' rfl
      by_cases hs : s.length > 20
      · rw [decide_eq_true (show (s.length : Int) > 20 by omega)]; rfl
      rw [decide_eq_false (show ¬ (s.length : Int) > 20 by omega)]
      show gemotlaw11_CutBack.k8 l q s true (q, true) false = _
      unfold gemotlaw11_CutBack.k8
      rw [cond_false, cutPut_spec (by omega) hl1 hl2, Option.bind_some]
      -- texts
      have k4 : gemotlaw11_CutBack.k4 s = some true := by
        unfold gemotlaw11_CutBack.k4
        have key := whileLoop (body := fun s514 : (List (List UInt8)) × Int => gemotlaw11_CutBack.b1 s s514.1 s514.2) (fun i => (s.take i, (i : Int))) s.length (fun i => ∃ hi : i < s.length, s[i].length ≤ 1000) (o1 := Sum.inl s) (o2 := Sum.inr true) (fun i hi => by
          show (_ ∧ gemotlaw11_CutBack.b1 s (s.take i) (i : Int) = _) ∨ (_ ∧ gemotlaw11_CutBack.b1 s (s.take i) (i : Int) = _)
          unfold gemotlaw11_CutBack.b1
          rw [cond_t (by omega), idxL_lt hi, Option.bind_some]
          by_cases h : s[i].length ≤ 1000
          · refine .inl ⟨⟨hi, h⟩, ?_⟩
            rw [cond_f (by omega), Option.bind_some, room_of (by rw [List.length_take]; omega), take_snoc hi, wrap1 i (by omega)]
          · refine .inr ⟨fun ⟨_, q⟩ => h q, ?_⟩
            rw [cond_t (by omega)]) (by
          show gemotlaw11_CutBack.b1 s (s.take s.length) (s.length : Int) = _
          unfold gemotlaw11_CutBack.b1
          rw [cond_f (by omega), List.take_length])
        rcases key with ⟨g1, g2⟩ | ⟨g1, g2⟩
        · rw [show loopM (fun s514 : (List (List UInt8)) × Int => gemotlaw11_CutBack.b1 s s514.1 s514.2) (([] : List (List UInt8)), (0 : Int)) = _ from g2]
          show gemotlaw11_CutBack.k3 s s = _
          refine back_k3 s (by omega) fun t ht => ?_
          obtain ⟨i, hi, rfl⟩ := List.getElem_of_mem ht
          exact (g1 i hi).2
        · rw [show loopM (fun s514 : (List (List UInt8)) × Int => gemotlaw11_CutBack.b1 s s514.1 s514.2) (([] : List (List UInt8)), (0 : Int)) = _ from g2]
          rfl
      have k6 : gemotlaw11_CutBack.k6 q s (q, true) = some true := by
        unfold gemotlaw11_CutBack.k6
        rcases cutParts_spec (l := q) (by omega) hp1 hp2 with ⟨hr, e⟩ | ⟨hr, e⟩
        · rw [e, Option.bind_some]
          cases hm : mapO partO q with
          | none => exact k4
          | some x =>
            obtain ⟨b2, b3⟩ := parts_bounds hm
            have hlen := mapO_len hm
            have hU := cutUnpart_spec (l := x) (by omega) (fun t ht => by have := b3 t ht; omega)
            rw [parts_take hm] at hU
            rcases hU with ⟨_, e2⟩ | ⟨hn, _⟩
            · show (cut_Unpart.f x).bind _ = _
              rw [e2, Option.bind_some]
              show (gemotlaw11_sameParts.f q q).bind _ = _
              rw [sameParts_eq q q (by omega) (fun g hg => by have := hp1 g hg; omega), decide_eq_true rfl]
              exact k4
            · exact absurd hr hn
        · rw [e]; exact k4
      cases hx : logsE 0 l with
      | none => exact k6
      | some x =>
        obtain ⟨b1, b2, b3⟩ := logs_bounds hx
        show (cut_Take.f x).bind _ = _
        rw [cutTake_spec (by omega) (fun t ht => by have := b3 t ht; omega), logs_take hx, Option.bind_some]
        show (gemotlaw11_asLogs.f l).bind _ = _
        rw [asLogs_eq l hl (fun g hg => by have := hl1 g hg; omega), Option.bind_some, sameLogs_eq l l (by omega) (fun g hg => by have := hl1 g hg; omega), decide_eq_true rfl]
        exact k6
/-- As the row wants it. -/
theorem backLaw_row {ok : Nat → Prop} {w : World} {v0 v1 v2 : Value} {l : List D_cut_Log} {p : List D_cut_Part} {s : List (List UInt8)}
    (h0 : slR t_cut_Log w ok v0 l) (l0 : l.length * 32 ≤ 140737488351232) (p0 : ∀ g ∈ l, inKind .i64 g.1 ∧ (g.2.length * 16 ≤ 140737488351232 ∧ ∀ t ∈ g.2, t.length ≤ 140737488351232))
    (h1 : slR t_cut_Part w ok v1 p) (l1 : p.length * 48 ≤ 140737488351232) (p1 : ∀ x ∈ p, (inKind .i64 x.1.1 ∧ inKind .i64 x.1.2) ∧ inKind .i64 x.2.1 ∧ (x.2.2.length * 16 ≤ 140737488351232 ∧ ∀ t ∈ x.2.2, t.length ≤ 140737488351232))
    (h2 : slR tStr w ok v2 s) :
    Calls Try.prog 10 #[v0, v1, v2] w fun e w' => ∃ v, e = .returned v ∧ (v = .bool true ∧ Below w.heap.size w w') :=
  (gemotlaw11_CutBack_ok h0 h1 h2 (back_eq l p s (by omega) (fun g hg => by have := (p0 g hg).2.1; omega) (fun g hg t ht => by have := (p0 g hg).2.2 t ht; omega) (by omega) (fun x hx => by have := (p1 x hx).2.2.1; omega) (fun x hx t ht => by have := (p1 x hx).2.2.2 t ht; omega))).mono fun e w' ⟨v, h1, h2, h3⟩ => ⟨v, h1, h2, h3.toBelow⟩
end Go.Proofs.Ytgomlcfoifkdiaa.G
