/- CutPuts, as it is reckoned. -/
import Derived.Test.YtgomlcfoifkdiaaPureZ
import Derived.Test.YtgomlcfoifkdiaaOwn11
namespace Go.Proofs.Ytgomlcfoifkdiaa.G
open Go.RowKit Go.Eng Go.Proofs Go.Proofs.Ytgomlcfoifkdiaa.Cut
set_option linter.unusedVariables false
set_option linter.unusedSimpArgs false

/-! CutPuts, as it is reckoned. -/
theorem same_self (a : List (List UInt8)) (h : a.length ≤ 140737488355328) : gemotlaw11_same.f a a = some true := by rw [same_eq _ _ h, decide_eq_true rfl]
theorem take_both {l : List (List UInt8)} (hl : l.length ≤ 1000000) (h1 : ∀ t ∈ l, t.length ≤ 140737488355328) : ∃ x, cut_Take.f l = some x ∧ gemotref11_Take.f l = some x ∧ x.1.length ≤ l.length ∧ ∀ g ∈ x.1, g.2.length ≤ 150 := by
  refine ⟨_, cutTake_spec hl h1, rcutTake_spec hl h1, ?_, ?_⟩
  · cases ht : takeLogs 0 l with
    | none => simp
    | some y => have := (logs_bounds (take_logs ht)).1; simp only; omega
  · cases ht : takeLogs 0 l with
    | none => intro g hg; simp at hg
    | some y => exact fun g hg => ((logs_bounds (take_logs ht)).2.1 g hg).1
theorem put_both {l : List D_cut_Log} (hl : l.length ≤ 1000000) (h1 : ∀ g ∈ l, g.2.length ≤ 8796093022000) (h2 : ∀ g ∈ l, ∀ t ∈ g.2, t.length ≤ 140737488355328) : ∃ x, cut_Put.f l = some x ∧ gemotref11_Put.f l = some x ∧ x.1.length ≤ l.length := by
  refine ⟨_, cutPut_spec hl h1 h2, rcutPut_spec hl h1 h2, ?_⟩
  cases hm : logsE 0 l with
  | none => simp
  | some y => have := (logs_bounds hm).1; simp only; omega
theorem puts_k3 (s : List (List UInt8)) (hs : s.length ≤ 20) (hb : ∀ t ∈ s, t.length ≤ 1000) : gemotlaw11_CutPuts.k3 s s false = some true := by
  have hb' : ∀ t ∈ s, t.length ≤ 140737488355328 := fun t ht => by have := hb t ht; omega
  unfold gemotlaw11_CutPuts.k3
  obtain ⟨r, e1, e2⟩ := rcutUnpart_spec (l := s) (by omega) hb'
  obtain ⟨x, x1, x2, x3, x4⟩ := take_both (l := s) (by omega) hb'
  rw [cond_false, x1, x2, Option.bind_some, Option.bind_some, e1, Option.bind_some, e2, Option.bind_some]
  have hx : gemotlaw11_sameLogs.f x.1 x.1 = some true := by
    rw [sameLogs_eq _ _ (by omega) (fun g hg => by have := x4 g hg; omega), decide_eq_true rfl]
  have hr : gemotlaw11_sameParts.f r.1 r.1 = some true := by
    have hU := cutUnpart_spec (l := s) (by omega) hb'
    have hrb : r.1.length ≤ 20 ∧ ∀ g ∈ r.1, g.2.2.length ≤ 150 := by
      cases hm : mapO unpartO s with
      | none =>
        rw [hm] at hU
        obtain rfl : r = ([], 2) := by
          have hU : cut_Unpart.f s = some ([], 2) := hU
          rw [e1] at hU; exact Option.some.inj hU
        exact ⟨by simp, fun g hg => by simp at hg⟩
      | some ps =>
        rw [hm] at hU
        rcases hU with ⟨_, e⟩ | ⟨_, e⟩
        · obtain rfl : r = (ps, 0) := by rw [e1] at e; exact Option.some.inj e
          have := mapO_len hm
          exact ⟨by simp only; omega, fun g hg => ((parts_bounds (take_parts hm)).1 g hg).1⟩
        · obtain rfl : r = ([], 2) := by rw [e1] at e; exact Option.some.inj e
          exact ⟨by simp, fun g hg => by simp at hg⟩
    rw [sameParts_eq _ _ (by omega) (fun g hg => by have := hrb.2 g hg; omega), decide_eq_true rfl]
  rw [hx, Option.bind_some, beq_self_eq_true, cond_true, cond_true, hr, Option.bind_some]
  unfold gemotlaw11_CutPuts.k2
  rw [beq_self_eq_true]; rfl
theorem puts_eq (l : List D_cut_Log) (p : List D_cut_Part) (s : List (List UInt8)) (hl : l.length * 32 ≤ 140737488355328) (hl1 : ∀ g ∈ l, g.2.length ≤ 8796093022000) (hl2 : ∀ g ∈ l, ∀ t ∈ g.2, t.length ≤ 140737488355328)
    (hp : p.length * 48 ≤ 140737488355328) (hp1 : ∀ g ∈ p, g.2.2.length ≤ 8796093022000) (hp2 : ∀ g ∈ p, ∀ t ∈ g.2.2, t.length ≤ 140737488355328) : gemotlaw11_CutPuts.f l p s = some true := by
  unfold gemotlaw11_CutPuts.f
  obtain ⟨q, b, h2, h2'⟩ := asParts_some p hp (fun g hg => by have := hp1 g hg; omega)
  obtain ⟨b3, h3, h3'⟩ := shortLogs_some l (by omega) (fun g hg => by have := hl1 g hg; omega)
  rw [shown_eq, Option.bind_some, h3, Option.bind_some, h2, Option.bind_some]
  cases b3 with
  | false => rfl
  | true =>
    cases b with
    | false => rfl
    | true =>
      obtain ⟨rfl, hp20⟩ := h2' rfl
      have hl20 := h3' rfl
      by_cases hs : s.length > 20
      · rw [decide_eq_true (show (s.length : Int) > 20 by omega)]; rfl
      rw [decide_eq_false (show ¬ (s.length : Int) > 20 by omega), show (cond (cond (cond (!true) true (!true)) true (!true)) true false) = false from rfl, cond_false]
      have key := whileLoop (body := fun s277 : (List (List UInt8)) × Int => gemotlaw11_CutPuts.b1 l q s (q, true) s277.1 s277.2) (fun i => (s.take i, (i : Int))) s.length (fun i => ∃ hi : i < s.length, s[i].length ≤ 1000) (o1 := Sum.inl s) (o2 := Sum.inr true) (fun i hi => by
        show (_ ∧ gemotlaw11_CutPuts.b1 l q s (q, true) (s.take i) (i : Int) = _) ∨ (_ ∧ gemotlaw11_CutPuts.b1 l q s (q, true) (s.take i) (i : Int) = _)
        unfold gemotlaw11_CutPuts.b1
        rw [cond_t (by omega), idxL_lt hi, Option.bind_some]
        by_cases h : s[i].length ≤ 1000
        · refine .inl ⟨⟨hi, h⟩, ?_⟩
          rw [cond_f (by omega), Option.bind_some, room_of (by rw [List.length_take]; omega), take_snoc hi, wrap1 i (by omega)]
        · refine .inr ⟨fun ⟨_, q⟩ => h q, ?_⟩
          rw [cond_t (by omega)]) (by
        show gemotlaw11_CutPuts.b1 l q s (q, true) (s.take s.length) (s.length : Int) = _
        unfold gemotlaw11_CutPuts.b1
        rw [cond_f (by omega), List.take_length])
      rcases key with ⟨g1, g2⟩ | ⟨g1, g2⟩
      · rw [show loopM (fun s277 : (List (List UInt8)) × Int => gemotlaw11_CutPuts.b1 l q s (q, true) s277.1 s277.2) (([] : List (List UInt8)), (0 : Int)) = _ from g2, Option.bind_some]
        show gemotlaw11_CutPuts.k4 l q s (q, true) s = _
        unfold gemotlaw11_CutPuts.k4
        have k3 := puts_k3 s (by omega) (fun t ht => by
          obtain ⟨i, hi, rfl⟩ := List.getElem_of_mem ht
          exact (g1 i hi).2)
        obtain ⟨r, e1, e2⟩ := rcutParts_spec (l := q) (by omega) hp1 hp2
        have hr1 : r.1.length ≤ 20 := by
          rcases cutParts_spec (l := q) (by omega) hp1 hp2 with ⟨_, e⟩ | ⟨_, e⟩
          · rw [e1] at e
            cases hm : mapO partO q with
            | none => rw [hm] at e; rw [Option.some.inj e]; simp
            | some x => rw [hm] at e; rw [Option.some.inj e]; have := mapO_len hm; simp only; omega
          · rw [e1] at e; rw [Option.some.inj e]; simp
        obtain ⟨x, x1, x2, x3⟩ := put_both (l := l) (by omega) hl1 hl2
        rw [x1, Option.bind_some, asLogs_eq l hl (fun g hg => by have := hl1 g hg; omega), Option.bind_some, x2, Option.bind_some, e1, Option.bind_some]
        show (gemotref11_Parts.f q).bind _ = _
        rw [e2, Option.bind_some, same_self _ (by omega), Option.bind_some, bne_self_eq_false, Bool.not_true, cond_false, cond_false, same_self _ (by omega), Option.bind_some, bne_self_eq_false]
        exact k3
      · rw [show loopM (fun s277 : (List (List UInt8)) × Int => gemotlaw11_CutPuts.b1 l q s (q, true) s277.1 s277.2) (([] : List (List UInt8)), (0 : Int)) = _ from g2]
        rfl
/-- As the row wants it. -/
theorem putsLaw_row {ok : Nat → Prop} {w : World} {v0 v1 v2 : Value} {l : List D_cut_Log} {p : List D_cut_Part} {s : List (List UInt8)}
    (h0 : slR t_cut_Log w ok v0 l) (l0 : l.length * 32 ≤ 140737488351232) (p0 : ∀ g ∈ l, inKind .i64 g.1 ∧ (g.2.length * 16 ≤ 140737488351232 ∧ ∀ t ∈ g.2, t.length ≤ 140737488351232))
    (h1 : slR t_cut_Part w ok v1 p) (l1 : p.length * 48 ≤ 140737488351232) (p1 : ∀ x ∈ p, (inKind .i64 x.1.1 ∧ inKind .i64 x.1.2) ∧ inKind .i64 x.2.1 ∧ (x.2.2.length * 16 ≤ 140737488351232 ∧ ∀ t ∈ x.2.2, t.length ≤ 140737488351232))
    (h2 : slR tStr w ok v2 s) :
    Calls Try.prog 9 #[v0, v1, v2] w fun e w' => ∃ v, e = .returned v ∧ (v = .bool true ∧ Below w.heap.size w w') :=
  (gemotlaw11_CutPuts_ok h0 h1 h2 (puts_eq l p s (by omega) (fun g hg => by have := (p0 g hg).2.1; omega) (fun g hg t ht => by have := (p0 g hg).2.2 t ht; omega) (by omega) (fun x hx => by have := (p1 x hx).2.2.1; omega) (fun x hx t ht => by have := (p1 x hx).2.2.2 t ht; omega))).mono fun e w' ⟨v, h1, h2, h3⟩ => ⟨v, h1, h2, h3.toBelow⟩
end Go.Proofs.Ytgomlcfoifkdiaa.G
