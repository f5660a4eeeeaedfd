/- What all are to have: cut.Cut. -/
import Derived.Test.YtipoblinefamgaaMissing
import Derived.Test.YtipoblinefamgaaSorted
namespace Go.Proofs.Ytipoblinefamgaa.Cut
open Go.RowKit Go.Eng Go.Proofs
set_option linter.unusedVariables false
set_option maxRecDepth 20000

variable {ok : Nat → Prop} {w0 w : World} {L : List Eng.Item}

abbrev ReportD := Int × (Int × Int) × List LogD
abbrev tReport : Ty ReportD := tPair (tInt .i64) (tPair (tPair (tInt .i64) (tInt .i64)) (tSl tLog))
theorem report_cells {w : World} {ok : Nat → Prop} {x : ReportD} {cs : List Value} (h : tReport.R w ok x cs) : ∃ v, cs = [.int .i64 x.1, .int .i64 x.2.1.1, .int .i64 x.2.1.2, v] ∧ slR tLog w ok v x.2.2 := by
  obtain ⟨c1, c2, rfl, h1, c3, c4, rfl, ⟨c5, c6, rfl, h2, h3⟩, v, rfl, h4⟩ := h
  have h1 : c1 = [.int .i64 x.1] := h1
  have h2 : c5 = [.int .i64 x.2.1.1] := h2
  have h3 : c6 = [.int .i64 x.2.1.2] := h3
  subst h1 h2 h3
  exact ⟨v, rfl, h4⟩
abbrev tPl : Ty Pl := tPair (tInt .i64) (tPair (tInt .i64) (tInt .i64))
theorem pl_cells {w : World} {ok : Nat → Prop} {x : Pl} {cs : List Value} (h : tPl.R w ok x cs) : cs = plC x := by
  obtain ⟨c1, c2, rfl, h1, c3, c4, rfl, h2, h3⟩ := h
  have h1 : c1 = [.int .i64 x.1] := h1
  have h2 : c3 = [.int .i64 x.2.1] := h2
  have h3 : c4 = [.int .i64 x.2.2] := h3
  subst h1 h2 h3
  rfl
theorem pl_in {w : World} {ok : Nat → Prop} (x : Pl) : tPl.R w ok x (plC x) := ⟨[_], [_, _], rfl, rfl, [_], [_], rfl, rfl, rfl⟩
theorem rows_pl {w : World} {ok : Nat → Prop} : ∀ l : List Pl, rowsR tPl w ok l (plsC l)
  | [] => rfl
  | x :: l => ⟨plC x, plsC l, by simp [plsC], pl_in x, rows_pl l⟩

/-! ### What is reckoned -/
abbrev MapD := List (Pl × List Tx)
def stepG (id : Int × Int) (m : MapD) (g : LogD) : MapD := if ((getA (id.1, id.2, g.1) m).getD []).length < g.2.length then putA (id.1, id.2, g.1) g.2 m else m
def stepR (m : MapD) (r : ReportD) : MapD := r.2.2.foldl (stepG r.2.1) m
def cutM (rs : List ReportD) : MapD := rs.foldl stepR []
def partOf (m : MapD) (p : Pl) : PartD := ((p.1, p.2.1), p.2.2, (getA p m).getD [])
def cutL (rs : List ReportD) : List PartD := (sortPl ((cutM rs).map (·.1))).map (partOf (cutM rs))

def lens (m : MapD) : List (Pl × Value) := m.map fun e => (e.1, .int .i64 (e.2.length : Int))
theorem get_lens (p : Pl) : ∀ m : MapD, (getA p (lens m)).getD (.int .i64 0) = .int .i64 (((getA p m).getD []).length : Int) := by
  intro m
  induction m with
  | nil => rfl
  | cons e m ih =>
    simp only [lens, List.map_cons, getA]
    split
    · rfl
    · exact ih
theorem put_lens (p : Pl) (x : List Tx) : ∀ m : MapD, putA p (Value.int .i64 (x.length : Int)) (lens m) = lens (putA p x m) := by
  intro m
  induction m with
  | nil => rfl
  | cons e m ih =>
    simp only [lens, List.map_cons, putA]
    split
    · rfl
    · simp only [lens] at ih; rw [ih]; rfl
def valsR (w : World) (ok : Nat → Prop) : MapD → List (Pl × Value) → Prop
  | [], [] => True
  | (p, x) :: m, (q, v) :: r => p = q ∧ slR tStr w ok v x ∧ valsR w ok m r
  | _, _ => False
theorem valsR_imp {w w' : World} {ok ok' : Nat → Prop} (h : ∀ v x, slR tStr w ok v x → slR tStr w' ok' v x) : ∀ {m : MapD} {r : List (Pl × Value)}, valsR w ok m r → valsR w' ok' m r := by
  intro m
  induction m with
  | nil => intro r hr; cases r with
    | nil => trivial
    | cons _ _ => exact hr
  | cons e m ih => intro r hr; cases r with
    | nil => exact hr
    | cons q r => obtain ⟨p, x⟩ := e; obtain ⟨q, v⟩ := q; exact ⟨hr.1, h _ _ hr.2.1, ih hr.2.2⟩
def dVals (m : MapD) (r : List (Pl × Value)) : Dat := ⟨fun w ok => valsR w ok m r, fun hk h => valsR_imp (fun v x hx => (dSl tStr v x).mono hk hx) h, fun hk h => valsR_imp (fun v x hx => (dSl tStr v x).step hk hx) h, fun {w ok} h => valsR_imp (w := w) (w' := w) (ok := ok) (ok' := fun b => ok b ∧ b < w.heap.size) (fun v x hx => (dSl tStr v x).bound hx) h⟩
theorem vals_put {w : World} {ok : Nat → Prop} {p : Pl} {x : List Tx} {v : Value} (hv : slR tStr w ok v x) : ∀ {m : MapD} {r : List (Pl × Value)}, valsR w ok m r → valsR w ok (putA p x m) (putA p v r) := by
  intro m
  induction m with
  | nil => intro r hr; cases r with
    | nil => exact ⟨rfl, hv, trivial⟩
    | cons _ _ => exact hr.elim
  | cons e m ih => intro r hr; cases r with
    | nil => exact hr.elim
    | cons q r =>
      obtain ⟨p', x'⟩ := e; obtain ⟨q, v'⟩ := q
      obtain ⟨rfl, h2, h3⟩ := hr
      simp only [putA]
      split
      · exact ⟨rfl, hv, h3⟩
      · exact ⟨rfl, h2, ih h3⟩
theorem vals_get {w : World} {ok : Nat → Prop} {p : Pl} : ∀ {m : MapD} {r : List (Pl × Value)}, valsR w ok m r → p ∈ m.map (·.1) → ∃ x v, getA p m = some x ∧ getA p r = some v ∧ slR tStr w ok v x := by
  intro m
  induction m with
  | nil => intro r _ h; simp at h
  | cons e m ih => intro r hr hp; cases r with
    | nil => exact hr.elim
    | cons q r =>
      obtain ⟨p', x'⟩ := e; obtain ⟨q, v'⟩ := q
      obtain ⟨rfl, h2, h3⟩ := hr
      simp only [getA]
      by_cases e : p = p'
      · exact ⟨x', v', by rw [if_pos e], by rw [if_pos e], h2⟩
      · have hp' : p ∈ m.map (·.1) := by simp at hp ⊢; rcases hp with h | h; exact absurd h e; exact h
        obtain ⟨x, v, g1, g2, g3⟩ := ih h3 hp'
        exact ⟨x, v, by rw [if_neg e]; exact g1, by rw [if_neg e]; exact g2, g3⟩
theorem vals_keys {w : World} {ok : Nat → Prop} : ∀ {m : MapD} {r : List (Pl × Value)}, valsR w ok m r → r.map (·.1) = m.map (·.1) := by
  intro m
  induction m with
  | nil => intro r hr; cases r with
    | nil => rfl
    | cons _ _ => exact hr.elim
  | cons e m ih => intro r hr; cases r with
    | nil => exact hr.elim
    | cons q r =>
      obtain ⟨p', x'⟩ := e; obtain ⟨q, v'⟩ := q
      obtain ⟨rfl, h2, h3⟩ := hr
      simp only [List.map_cons, ih h3]

theorem keyP : MKey Try.prog 106 plV where
  check em a w := run_keyB (P := Try.prog) (w := w) (em := em) 4 10000 106 (plV a) (by decide) (by kernel_rfl)
  eq a b w := by
    have h := run_eqB (P := Try.prog) (w := w) 4 10000 106 (plV a) (plV b) (((a.1 == b.1) && (a.2.1 == b.2.1)) && (a.2.2 == b.2.2)) (by decide) (by kernel_rfl)
    have e : (((a.1 == b.1) && (a.2.1 == b.2.1)) && (a.2.2 == b.2.2)) = decide (a = b) := by
      obtain ⟨a1, a2, a3⟩ := a
      obtain ⟨b1, b2, b3⟩ := b
      rw [Bool.eq_iff_iff]
      simp
      omega
    rw [e] at h
    exact h
  desc := by
    have h : (match Try.prog.underlying 106 with | some (.struct _) => true | _ => false) = true := by kernel_rfl
    split at h
    · rename_i fs hu
      exact ⟨_, hu, .inr fun a b => rfl⟩
    · cases h
  stays a := by
    show Instr.sameBits (9999 + 1) (.agg (plC a).toArray) (.agg (plC a).toArray) = true
    simp [Instr.sameBits, plC]
end Go.Proofs.Ytipoblinefamgaa.Cut
