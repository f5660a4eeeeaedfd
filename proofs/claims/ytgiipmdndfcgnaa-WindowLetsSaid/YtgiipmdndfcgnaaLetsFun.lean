/- The window's functions by what is owned: what the print tells of them, in the engine's words. -/
import Derived.Test.YtgiipmdndfcgnaaLetsPure
import Derived.Test.YtgiipmdndfcgnaaPieces
namespace Go.Proofs.Ytgiipmdndfcgnaa.Lets
open Go.RowKit Go.Eng Go.Proofs Go.Proofs.Ytgiipmdndfcgnaa.Win Go.Proofs.Ytgiipmdndfcgnaa.Pure Go.Proofs.Ytgiipmdndfcgnaa.PWindowLets
open Go.Proofs.YtgiipmdndfcgnaaW.PrintWords (Kd ReadsOf)
set_option linter.unusedVariables false

def win (T B : Nat) : Value := .agg #[.int .u64 (T : Int), .int .u64 (B : Int)]
theorem seen_eng (T B n : Nat) (hT : T < 2 ^ 64) (hB : B < 2 ^ 64) (w : World) : Calls Try.prog 20 #[win T B, .int .u64 (n : Int)] w fun e w' => ∃ v, e = .returned v ∧ (v = .bool (wseen T B n) ∧ Below w.heap.size w w') :=
  (window_Seen.calls _ _ _ _ w (seen_tells T B n hT hB)).mono fun e w' ⟨h1, h2⟩ => ⟨_, h1, rfl, h2⟩
def letV (T B n : Nat) : Value := if wseen T B n then .tuple #[win 0 0, .int .i64 7] else .tuple #[win (nextT T n) (nextB T B n), .int .i64 0]
theorem let_eng (T B n : Nat) (hT : T < 2 ^ 64) (hn : n < 2 ^ 64) (hB : B < 2 ^ 64) (w : World) : Calls Try.prog 22 #[win T B, .int .u64 (n : Int)] w fun e w' => ∃ v, e = .returned v ∧ (v = letV T B n ∧ Below w.heap.size w w') := by
  cases hs : wseen T B n with
  | true => exact (window_Let.calls _ _ _ _ _ _ w (let_old T B n hT hB hs)).mono fun e w' ⟨h1, h2⟩ => ⟨_, h1, by unfold letV; rw [if_pos hs]; rfl, h2⟩
  | false => exact (window_Let.calls _ _ _ _ _ _ w (let_new T B n hT hn hB hs)).mono fun e w' ⟨h1, h2⟩ => ⟨_, h1, by unfold letV; rw [if_neg (by rw [hs]; simp)]; rfl, h2⟩

theorem reads_of {w : World} {ok : Nat → Prop} {A : Option Addr} {c : Nat} {xs : List Int} (h : slR (tInt .u64) w ok (.slice A xs.length c) xs) (hl : xs.length ≤ 9223372036854775807) : Kd.C (Kd.int .u64) w A xs.length xs := by
  refine Kd.C_of_reads (d := (0 : Int)) ⟨rfl, hl, fun hn => ?_⟩
  obtain ⟨A', c', hv, _, hr⟩ := h
  cases hv
  rcases hr with ⟨h0, _⟩ | ⟨a, ha, _, _, hc⟩
  · subst h0; exact absurd hn (Nat.lt_irrefl 0)
  · refine ⟨a, ha, fun j hj => ?_⟩
    obtain ⟨cs, h1, h2⟩ := hc j xs[j] (List.getElem?_eq_getElem hj)
    have h1 : cs = [.int .u64 xs[j]] := h1
    subst h1
    have := h2.1
    rw [add_add] at this
    show w.cell? (a.add j) = some (Value.int .u64 (xs.getD j 0))
    rw [List.getD_eq_getElem?_getD, List.getElem?_eq_getElem hj]
    have e : j * (tInt .u64).sz + 0 = j := by show j * 1 + 0 = j; omega
    rw [e] at this
    exact this
theorem of_made {w : World} {base : Nat} {v : Value} {xs : List Int} (h : Kd.R (Kd.int .u64) 37 w base (fun _ => True) v xs) : slR (tInt .u64) w (fun b => base ≤ b) v xs := by
  obtain ⟨A, c, hv, hc, hr⟩ := Kd.R_reads h
  obtain ⟨_, inner, hown, _⟩ := h
  subst hv
  refine ⟨A, c, rfl, hc, ?_⟩
  rcases hown.2 with ⟨he, h0⟩ | ⟨g, cap, cur, he, hb, hg, _⟩
  · have hx : xs = [] := List.eq_nil_of_length_eq_zero h0
    injection he with e1 _ e3
    exact .inl ⟨hx, fun _ => e3⟩
  · injection he with e1 _ e3
    subst e1 e3
    refine .inr ⟨_, rfl, hb, (Array.getElem?_eq_some_iff.1 hg).1, fun j x hj => ?_⟩
    have hjl := (List.getElem?_eq_some_iff.1 hj).1
    obtain ⟨_, _, hcell⟩ := (Go.Proofs.YtgiipmdndfcgnaaW.PrintWords.Kd.reads_of_C (d := (0 : Int)) hr)
    obtain ⟨ad, had, hcell⟩ := hcell (by omega)
    cases had
    refine ⟨[.int .u64 x], rfl, ?_, trivial⟩
    have := hcell j hjl
    rw [List.getD_eq_getElem?_getD, hj] at this
    rw [add_add]
    have e : j * (tInt .u64).sz + 0 = j := by show j * 1 + 0 = j; omega
    rw [e]; exact this

theorem all_eng {ok : Nat → Prop} {w : World} {v : Value} {l : List Nat} (hv : slR (tInt .u64) w ok v (zs l)) (hl : l.length ≤ 17592186044416) (hw : ∀ x ∈ l, x < 2 ^ 64) :
    Calls Try.prog 27 #[v] w fun e w' => ∃ u, e = .returned u ∧ slR (tInt .u64) w' (fun b => w.heap.size ≤ b) u (zs (all 0 0 l)) ∧ Below w.heap.size w w' := by
  obtain ⟨A, c, rfl, hc, hr⟩ := id hv
  exact (window_All.calls (l.length + 1) A c (zs l) _ w (reads_of hv (by rw [zs_len]; omega)) hc (all_ev l hl hw _ (by omega))).mono fun e w' ⟨u, h1, h2, h3⟩ => ⟨u, h1, of_made h2, h3⟩
theorem same_eng {ok ok' : Nat → Prop} {w : World} {u v : Value} {l : List Nat} (hu : slR (tInt .u64) w ok u (zs l)) (hv : slR (tInt .u64) w ok' v (zs l)) (hl : l.length ≤ 17592186044416) :
    Calls Try.prog 26 #[u, v] w fun e w' => ∃ r, e = .returned r ∧ (r = .bool true ∧ Below w.heap.size w w') := by
  obtain ⟨A, c, rfl, hc, hr⟩ := id hu
  obtain ⟨A', c', rfl, hc', hr'⟩ := id hv
  exact (gemotlaw5_same.calls (l.length + 1) A c (zs l) A' c' (zs l) true w (reads_of hu (by rw [zs_len]; omega)) hc (reads_of hv (by rw [zs_len]; omega)) hc' (same_ev l hl _ (by omega))).mono fun e w' ⟨h1, h2⟩ => ⟨_, h1, rfl, h2.below⟩
theorem shown_eng (w : World) : Calls Try.prog 19 #[] w fun e w' => ∃ r, e = .returned r ∧ (r = .bool true ∧ Below w.heap.size w w') :=
  (gemotlaw5_shown.calls 8 true w (shown_ev 8 (Nat.le_refl _))).mono fun e w' ⟨h1, h2⟩ => ⟨_, h1, rfl, h2⟩
end Go.Proofs.Ytgiipmdndfcgnaa.Lets
