/- CutCuts, as it is reckoned: what all are to have, what one has not, which row is another one's beginning, are as the reference says. -/
import Derived.Test.YtgomlcfoifkdiaaPureD
import Derived.Test.YtgomlcfoifkdiaaOwn11
namespace Go.Proofs.Ytgomlcfoifkdiaa.G
open Go.RowKit Go.Eng Go.Proofs Go.Proofs.Ytgomlcfoifkdiaa.Cut
set_option linter.unusedVariables false
set_option linter.unusedSimpArgs false

theorem beg_self (a : List (List UInt8)) : beg a a = true := by unfold beg; simp
/-- What is cut has no items that were not reported. -/
theorem stepG_vals (p : List (List UInt8) → Prop) (id : D_api_Id) (m : MapD) (g : D_cut_Log) (hm : ∀ e ∈ m, p e.2) (hg : p g.2) : ∀ e ∈ Cut.stepG id m g, p e.2 := by
  have key : ∀ (q : Pl) (v : List (List UInt8)) (m : MapD), (∀ e ∈ m, p e.2) → p v → ∀ e ∈ putA q v m, p e.2 := by
    intro q v m
    induction m with
    | nil => intro _ hv e he; simp only [putA, List.mem_singleton] at he; subst he; exact hv
    | cons x m ih =>
      intro hm hv e he
      simp only [putA] at he
      split at he
      · rcases List.mem_cons.1 he with k | k
        · subst k; exact hv
        · exact hm e (List.mem_cons_of_mem _ k)
      · rcases List.mem_cons.1 he with k | k
        · rw [k]; exact hm x List.mem_cons_self
        · exact ih (fun e he => hm e (List.mem_cons_of_mem _ he)) hv e k
  unfold Cut.stepG
  split
  · exact key _ _ _ hm hg
  · exact hm
theorem stepG_len (id : D_api_Id) (m : MapD) (g : D_cut_Log) : (Cut.stepG id m g).length ≤ m.length + 1 := by
  have key : ∀ (q : Pl) (v : List (List UInt8)) (m : MapD), (putA q v m).length ≤ m.length + 1 := by
    intro q v m
    induction m with
    | nil => simp [putA]
    | cons x m ih => simp only [putA]; split <;> simp <;> omega
  unfold Cut.stepG
  split
  · exact key _ _ _
  · omega
theorem cutM_vals (p : List (List UInt8) → Prop) (rs : List D_cut_Report) (h : ∀ r ∈ rs, ∀ g ∈ r.2.2, p g.2) : ∀ e ∈ cutM rs, p e.2 := by
  have logs : ∀ (id : D_api_Id) (gs : List D_cut_Log) (m : MapD), (∀ g ∈ gs, p g.2) → (∀ e ∈ m, p e.2) → ∀ e ∈ gs.foldl (Cut.stepG id) m, p e.2 := by
    intro id gs
    induction gs with
    | nil => intro m _ hm; exact hm
    | cons g gs ih => intro m hg hm; exact ih _ (fun x hx => hg x (List.mem_cons_of_mem _ hx)) (stepG_vals p id m g hm (hg g List.mem_cons_self))
  have all : ∀ (rs : List D_cut_Report) (m : MapD), (∀ r ∈ rs, ∀ g ∈ r.2.2, p g.2) → (∀ e ∈ m, p e.2) → ∀ e ∈ rs.foldl stepR m, p e.2 := by
    intro rs
    induction rs with
    | nil => intro m _ hm; exact hm
    | cons r rs ih => intro m hg hm; exact ih _ (fun x hx => hg x (List.mem_cons_of_mem _ hx)) (logs r.2.1 r.2.2 m (hg r List.mem_cons_self) hm)
  exact all rs [] h (fun e he => by cases he)
theorem cutM_len (rs : List D_cut_Report) (n : Nat) (h : ∀ r ∈ rs, r.2.2.length ≤ n) : (cutM rs).length ≤ n * rs.length := by
  have logs : ∀ (id : D_api_Id) (gs : List D_cut_Log) (m : MapD), (gs.foldl (Cut.stepG id) m).length ≤ m.length + gs.length := by
    intro id gs
    induction gs with
    | nil => intro m; simp
    | cons g gs ih => intro m; have := ih (Cut.stepG id m g); have := stepG_len id m g; simp only [List.foldl_cons, List.length_cons]; omega
  have all : ∀ (rs : List D_cut_Report) (m : MapD), (∀ r ∈ rs, r.2.2.length ≤ n) → (rs.foldl stepR m).length ≤ m.length + n * rs.length := by
    intro rs
    induction rs with
    | nil => intro m _; simp
    | cons r rs ih =>
      intro m hg
      have h1 := ih (stepR m r) (fun x hx => hg x (List.mem_cons_of_mem _ hx))
      have h2 : (stepR m r).length ≤ m.length + r.2.2.length := logs _ _ _
      have h3 := hg r List.mem_cons_self
      simp only [List.foldl_cons, List.length_cons, Nat.mul_succ]
      omega
  have := all rs [] h
  simpa [cutM] using this
theorem cutL_vals (p : List (List UInt8) → Prop) (h0 : p []) (rs : List D_cut_Report) (h : ∀ r ∈ rs, ∀ g ∈ r.2.2, p g.2) : ∀ x ∈ cutL rs, p x.2.2 := by
  intro x hx
  obtain ⟨k, hk, rfl⟩ := List.mem_map.1 hx
  show p ((getA k (cutM rs)).getD [])
  cases hv : getA k (cutM rs) with
  | none => exact h0
  | some v => exact cutM_vals p rs h _ (getA_mem hv)
theorem cutL_len (rs : List D_cut_Report) : (cutL rs).length = (cutM rs).length := by
  unfold cutL
  rw [List.length_map, show (sortPl ((cutM rs).map (·.1))).length = ((cutM rs).map (·.1)).length from (List.mergeSort_perm _ _).length_eq, List.length_map]
theorem missL_vals (ps : List D_cut_Part) (id : D_api_Id) (logs : List D_cut_Log) (n : Nat) (h : ∀ x ∈ ps, x.2.2.length ≤ n) : ∀ g ∈ missL ps id logs, g.2.length ≤ n := by
  intro g hg
  obtain ⟨x, hx, hm⟩ := List.mem_filterMap.1 hg
  have hxl := h x hx
  unfold missOne at hm
  split at hm
  · cases hm
  · split at hm
    · cases hm; show (x.2.2.drop _).length ≤ n; rw [List.length_drop]; omega
    · cases hm

theorem cuts_eq (r : List D_cut_Report) (p : List D_cut_Part) (old : D_api_Id) (l : List D_cut_Log)
    (hr : r.length * 48 ≤ 140737488355328) (hr1 : ∀ x ∈ r, x.2.2.length * 32 ≤ 140737488355328) (hr2 : ∀ x ∈ r, ∀ g ∈ x.2.2, g.2.length ≤ 8796093022208)
    (hp : p.length * 48 ≤ 140737488355328) (hp2 : ∀ x ∈ p, x.2.2.length ≤ 8796093022208) (hl : l.length * 32 ≤ 140737488355328) (hl2 : ∀ g ∈ l, g.2.length ≤ 8796093022208) :
    gemotlaw11_CutCuts.f r p old l = some true := by
  unfold gemotlaw11_CutCuts.f
  obtain ⟨q1, b1, h1, h1'⟩ := asReports_some r hr hr1 hr2
  obtain ⟨q2, b2, h2, h2'⟩ := asParts_some p hp hp2
  obtain ⟨b3, h3, h3'⟩ := shortLogs_some l (by omega) (fun g hg => by have := hl2 g hg; omega)
  rw [shown_eq, Option.bind_some, h1, Option.bind_some, h2, Option.bind_some]
  cases b1 with
  | false => rfl
  | true =>
    cases b2 with
    | false => rfl
    | true =>
      show (gemotlaw11_shortLogs.f l).bind _ = _
      rw [h3, Option.bind_some]
      cases b3 with
      | false => rfl
      | true =>
        obtain ⟨e1, hr12, hr20⟩ := h1' rfl
        obtain ⟨e2, hp20⟩ := h2' rfl
        have hl20 := h3' rfl
        subst e1 e2
        show gemotlaw11_CutCuts.k5 q1 q2 old l true (q1, true) (q2, true) false = _
        unfold gemotlaw11_CutCuts.k5
        have hcm := cutM_len q1 20 (fun x hx => by have := hr20 x hx; omega)
        have hcut : cut_Cut.f q1 = some (cutL q1) := cut_of (by omega) (fun x hx => by have := hr20 x hx; omega) (by omega) (cutM_vals (fun t => t.length ≤ 8796093022208) q1 hr2) hr2
        have hcv := cutL_vals (fun t => t.length ≤ 8796093022208) (by simp) q1 hr2
        have hcl : (cutL q1).length ≤ 1000 := by rw [cutL_len]; omega
        have hL : loopM (fun s : Int => gemotlaw11_CutCuts.b2 q1 q2 old l (q1, true) (q2, true) s) (0 : Int) = some (Sum.inl ()) := by
          refine loop_count (fun i => (i : Int)) (q2.length - 1) (fun i hi => ?_) ?_
          · have hi1 : i < q2.length := by omega
            have hi2 : i + 1 < q2.length := by omega
            have a1 := hp2 _ (List.getElem_mem hi1)
            have a2 := hp2 _ (List.getElem_mem hi2)
            show gemotlaw11_CutCuts.b2 q1 q2 old l (q1, true) (q2, true) (i : Int) = _
            unfold gemotlaw11_CutCuts.b2
            rw [wrap1 i (by omega), cond_t (by omega), idxL_lt hi1, Option.bind_some, idxL_lt hi2, Option.bind_some]
            have g1 : cut_Begins.f q2[i].2.2 q2[i + 1].2.2 = some (beg q2[i].2.2 q2[i + 1].2.2) := given_of (by omega) _
            have g2 : cut_Begins.f q2[i].2.2 q2[i].2.2 = some (beg q2[i].2.2 q2[i].2.2) := given_of (by omega) _
            rw [g1, Option.bind_some, texts_eq _ a1, Option.bind_some, texts_eq _ a2, Option.bind_some, begins_eq _ _ (by omega), Option.bind_some, g2, beg_self]
            unfold gemotlaw11_CutCuts.k1
            rw [wrap1 i (by omega)]
            simp
          · show gemotlaw11_CutCuts.b2 q1 q2 old l (q1, true) (q2, true) ((q2.length - 1 : Nat) : Int) = _
            unfold gemotlaw11_CutCuts.b2
            rw [wrap1 _ (by omega), cond_f (by omega)]
        rw [cond_false, hL]
        show gemotlaw11_CutCuts.k4 q1 q2 old l (q1, true) (q2, true) = _
        unfold gemotlaw11_CutCuts.k4
        rw [hcut, Option.bind_some]
        show (gemotref11_Cut.f q1).bind _ = _
        rw [refCut_eq q1 hr12 hr20, Option.bind_some, refCut_cutL, sameParts_eq _ _ (by omega) (fun g hg => by have := hcv g hg; omega), Option.bind_some, decide_eq_true rfl]
        simp only [cond_true]
        have m1 : cut_Missing.f q2 (old.1, old.2) l = some (missL q2 old l) := miss_of (by omega) (by omega) hp2 hl2
        have m2 : gemotref11_Missing.f q2 (old.1, old.2) l = some (missL q2 old l) := refMissing_eq q2 old l (by omega) (by omega) hp2 hl2
        have m3 : cut_Missing.f (cutL q1) (old.1, old.2) l = some (missL (cutL q1) old l) := miss_of (by omega) (by omega) hcv hl2
        have m4 : gemotref11_Missing.f (cutL q1) (old.1, old.2) l = some (missL (cutL q1) old l) := refMissing_eq (cutL q1) old l (by omega) (by omega) hcv hl2
        have s1 := missL_le q2 old l
        have s2 := missL_le (cutL q1) old l
        rw [m1, Option.bind_some, asLogs_eq l hl hl2, Option.bind_some, m2, Option.bind_some, sameLogs_eq _ _ (by omega) (fun g hg => by have := missL_vals q2 old l _ hp2 g hg; omega), Option.bind_some, decide_eq_true rfl]
        simp only [cond_true, Option.bind_some]
        rw [m3, Option.bind_some, m4, Option.bind_some, sameLogs_eq _ _ (by omega) (fun g hg => by have := missL_vals (cutL q1) old l _ hcv g hg; omega), Option.bind_some, decide_eq_true rfl]
        rfl

/-- As the row wants it. -/
theorem cutsLaw_row {ok : Nat → Prop} {w : World} {v0 v1 v3 : Value} {q : Array Value} {r : List D_cut_Report} {p : List D_cut_Part} {old : D_api_Id} {l : List D_cut_Log}
    (h0 : slR t_cut_Report w ok v0 r) (l0 : r.length * 48 ≤ 140737488351232) (p0 : ∀ x ∈ r, inKind .i64 x.1 ∧ (inKind .i64 x.2.1.1 ∧ inKind .i64 x.2.1.2) ∧ (x.2.2.length * 32 ≤ 140737488351232 ∧ ∀ g ∈ x.2.2, inKind .i64 g.1 ∧ (g.2.length * 16 ≤ 140737488351232 ∧ ∀ t ∈ g.2, t.length ≤ 140737488351232)))
    (h1 : slR t_cut_Part w ok v1 p) (l1 : p.length * 48 ≤ 140737488351232) (p1 : ∀ x ∈ p, (inKind .i64 x.1.1 ∧ inKind .i64 x.1.2) ∧ inKind .i64 x.2.1 ∧ (x.2.2.length * 16 ≤ 140737488351232 ∧ ∀ t ∈ x.2.2, t.length ≤ 140737488351232))
    (h2 : (t_api_Id).R w ok old q.toList)
    (h3 : slR t_cut_Log w ok v3 l) (l3 : l.length * 32 ≤ 140737488351232) (p3 : ∀ g ∈ l, inKind .i64 g.1 ∧ (g.2.length * 16 ≤ 140737488351232 ∧ ∀ t ∈ g.2, t.length ≤ 140737488351232)) :
    Calls Try.prog 3 #[v0, v1, .agg q, v3] w fun e w' => ∃ v, e = .returned v ∧ (v = .bool true ∧ Below w.heap.size w w') := by
  have hq : q = #[.int .i64 old.1, .int .i64 old.2] := by
    have := api_Id_cells h2
    exact Array.toList_inj.1 this
  subst hq
  exact (gemotlaw11_CutCuts_ok h0 h1 h3 (cuts_eq r p old l (by omega) (fun x hx => by have := (p0 x hx).2.2.1; omega) (fun x hx g hg => by have := ((p0 x hx).2.2.2 g hg).2.1; omega) (by omega) (fun x hx => by have := (p1 x hx).2.2.1; omega) (by omega) (fun g hg => by have := (p3 g hg).2.1; omega))).mono fun e w' ⟨v, h1, h2, h3⟩ => ⟨v, h1, h2, h3.toBelow⟩
end Go.Proofs.Ytgomlcfoifkdiaa.G
