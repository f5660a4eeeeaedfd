/- Terms that have none in them: how long they are, to the program and to the reference. -/
import Derived.Test.YtgomlcfoifkdiaaPureS
import Derived.Test.YtgomlcfoifkdiaaGG
namespace Go.Proofs.Ytgomlcfoifkdiaa.G
open Go.RowKit Go.Eng Go.Proofs Go.Proofs.Ytgomlcfoifkdiaa.Cut
set_option linter.unusedVariables false
set_option linter.unusedSimpArgs false

def leafI (r : List UInt8) : Nat := match r with | d :: _ => if 1 ≤ d.toNat ∧ d.toNat ≤ 8 then 2 else 0 | [] => 0
def leafT (r : List UInt8) : Nat := match r with | d :: e :: _ => if d.toNat = 0 ∧ e.toNat ≤ 100 ∧ e.toNat + 1 ≤ r.length - 1 then 3 + e.toNat else 0 | _ => 0
theorem leafI_cons (d : UInt8) (r : List UInt8) : leafI (d :: r) = if 1 ≤ d.toNat ∧ d.toNat ≤ 8 then 2 else 0 := rfl
theorem leafT_cons (d e : UInt8) (r : List UInt8) : leafT (d :: e :: r) = if d.toNat = 0 ∧ e.toNat ≤ 100 ∧ e.toNat + 1 ≤ (d :: e :: r).length - 1 then 3 + e.toNat else 0 := rfl
/-- How many bytes such a term has; 0: it is none. -/
def leafN (c : UInt8) (r : List UInt8) : Nat :=
  if c = 103 then 1 else if c = 110 ∨ c = 117 then (if 8 ≤ r.length then 9 else 0) else if c = 105 then leafI r else if c = 116 then leafT r else 0
theorem byte_ne {c k : UInt8} (h : c ≠ k) : ((c.toNat : Int) == (k.toNat : Int)) = false := by
  rw [beq_eq_false_iff_ne]
  intro q
  exact h (UInt8.toNat_inj.1 (by omega))
theorem idxS0 (c : UInt8) (r : List UInt8) : idxS (c :: r) (0 : Int) = some (c.toNat : Int) := rfl
theorem idxS1 (c d : UInt8) (r : List UInt8) : idxS (c :: d :: r) (1 : Int) = some (d.toNat : Int) := rfl
theorem idxS2 (c d e : UInt8) (r : List UInt8) : idxS (c :: d :: e :: r) (2 : Int) = some (e.toNat : Int) := rfl
theorem leaf_eq (c : UInt8) (r : List UInt8) : term_leaf.f (c :: r) = some (leafN c r : Int) := by
  have h256 : ∀ d : UInt8, d.toNat < 256 := fun d => UInt8.toNat_lt d
  unfold term_leaf.f leafN
  rw [idxS0, Option.bind_some]
  by_cases h1 : c = 103
  · subst h1
    rw [if_pos rfl]
    show term_leaf.k1 (103 :: r) 1 = _
    unfold term_leaf.k1
    rw [cond_f (by simp; omega)]; rfl
  rw [if_neg h1, show ((c.toNat : Int) == (103 : Int)) = false from byte_ne h1, cond_false]
  by_cases h2 : c = 110 ∨ c = 117
  · rw [if_pos h2]
    have : (cond ((c.toNat : Int) == (110 : Int)) (term_leaf.k4 (c :: r) (c.toNat : Int) ((c.toNat : Int) == (110 : Int))) (term_leaf.k4 (c :: r) (c.toNat : Int) ((c.toNat : Int) == (117 : Int)))) = term_leaf.k1 (c :: r) 9 := by
      rcases h2 with rfl | rfl <;> rfl
    rw [this]
    unfold term_leaf.k1
    by_cases h9 : 8 ≤ r.length
    · rw [if_pos h9, cond_f (by simp; omega)]; rfl
    · rw [if_neg h9, cond_t (by simp; omega)]; rfl
  rw [if_neg h2, show ((c.toNat : Int) == (110 : Int)) = false from byte_ne (fun q => h2 (.inl q)), cond_false, show ((c.toNat : Int) == (117 : Int)) = false from byte_ne (fun q => h2 (.inr q))]
  unfold term_leaf.k4
  rw [cond_false]
  by_cases h3 : c = 105
  · subst h3
    rw [if_pos rfl, show (((105 : UInt8).toNat : Int) == (105 : Int)) = true from rfl, cond_true]
    cases r with
    | nil => rfl
    | cons d r =>
      have hd := h256 d
      rw [cond_t (by simp; omega), idxS1, Option.bind_some]
      rw [leafI_cons]
      by_cases q1 : 1 ≤ d.toNat
      · rw [cond_t (by omega), Option.bind_some, decide_eq_true (show ((105 :: d :: r : List UInt8).length : Int) > 1 by simp; omega), decide_eq_true (show (d.toNat : Int) ≥ 1 by omega)]
        unfold term_leaf.k2 term_leaf.k1
        by_cases q2 : d.toNat ≤ 8
        · simp only [if_pos (And.intro q1 q2), cond_true, decide_eq_true (show (d.toNat : Int) ≤ 8 by omega)]
          rw [cond_f (by simp; omega)]; rfl
        · simp only [if_neg (fun q : 1 ≤ d.toNat ∧ d.toNat ≤ 8 => q2 q.2), cond_true, decide_eq_false (show ¬ (d.toNat : Int) ≤ 8 by omega), cond_false]
          rw [cond_f (by simp; omega)]; rfl
      · rw [cond_f (by omega), if_neg (fun q => q1 q.1), decide_eq_true (show ((105 :: d :: r : List UInt8).length : Int) > 1 by simp; omega), decide_eq_false (show ¬ (d.toNat : Int) ≥ 1 by omega)]
        unfold term_leaf.k2 term_leaf.k1
        simp only [cond_true, cond_false]
        rw [cond_f (by simp; omega)]; rfl
  rw [if_neg h3, show ((c.toNat : Int) == (105 : Int)) = false from byte_ne h3, cond_false]
  by_cases h4 : c = 116
  · subst h4
    rw [if_pos rfl, show (((116 : UInt8).toNat : Int) == (116 : Int)) = true from rfl, cond_true]
    match r with
    | [] => rfl
    | [d] => rfl
    | d :: e :: r =>
      have hd := h256 d
      have he := h256 e
      have hl : decide (((116 :: d :: e :: r : List UInt8).length : Int) ≥ 3) = true := decide_eq_true (by simp; omega)
      rw [hl, cond_true, idxS1, Option.bind_some]
      rw [leafT_cons]
      by_cases q1 : d.toNat = 0
      · rw [show ((d.toNat : Int) == (0 : Int)) = true by rw [q1]; rfl, cond_true, idxS2, Option.bind_some]
        unfold term_leaf.k3
        by_cases q2 : e.toNat ≤ 100
        · rw [decide_eq_true (show (e.toNat : Int) ≤ 100 by omega)]
          simp only [cond_true]
          rw [idxS2, Option.bind_some, Eng.i64_id (x := (e.toNat : Int)) (by omega) (by omega), Eng.i64_id (by omega) (by omega)]
          unfold term_leaf.k1
          by_cases q3 : e.toNat + 1 ≤ (d :: e :: r).length - 1
          · rw [if_pos ⟨q1, q2, q3⟩, cond_f (by simp at q3 ⊢; omega)]; simp
          · rw [if_neg (fun q => q3 q.2.2), cond_t (by simp at q3 ⊢; omega)]; rfl
        · rw [decide_eq_false (show ¬ (e.toNat : Int) ≤ 100 by omega), if_neg (fun q => q2 q.2.1)]
          simp only [cond_true, cond_false]
          unfold term_leaf.k1
          rw [cond_f (by simp; omega)]; rfl
      · rw [show ((d.toNat : Int) == (0 : Int)) = false from beq_eq_false_iff_ne.2 (by omega), cond_false, if_neg (fun q => q1 q.1)]
        unfold term_leaf.k3 term_leaf.k1
        simp only [cond_true, cond_false]
        rw [cond_f (by simp; omega)]; rfl
  rw [if_neg h4, show ((c.toNat : Int) == (116 : Int)) = false from byte_ne h4, cond_false]
  unfold term_leaf.k1
  rw [cond_f (by simp; omega)]; rfl

/-- To the reference: below 0 it is none. -/
def leafZ (c : UInt8) (r : List UInt8) : Int := if leafN c r = 0 then -1 else (leafN c r : Int)
theorem rleaf_k1 (s : List UInt8) (v : Int) : gemotref1_leaf.k1 s v = some (if v > (s.length : Int) then -1 else v) := by
  unfold gemotref1_leaf.k1
  by_cases h : v > (s.length : Int)
  · rw [cond_t h, if_pos h]
  · rw [cond_f h, if_neg h]
theorem rleaf_eq (c : UInt8) (r : List UInt8) : gemotref1_leaf.f (c :: r) = some (leafZ c r) := by
  have h256 : ∀ d : UInt8, d.toNat < 256 := fun d => UInt8.toNat_lt d
  unfold gemotref1_leaf.f leafZ leafN
  rw [idxS0, Option.bind_some]
  by_cases h2 : c = 110 ∨ c = 117
  · have : (cond ((c.toNat : Int) == (110 : Int)) (gemotref1_leaf.k4 (c :: r) (c.toNat : Int) ((c.toNat : Int) == (110 : Int))) (gemotref1_leaf.k4 (c :: r) (c.toNat : Int) ((c.toNat : Int) == (117 : Int)))) = gemotref1_leaf.k1 (c :: r) 9 := by
      rcases h2 with rfl | rfl <;> rfl
    have h1 : c ≠ 103 := by rcases h2 with rfl | rfl <;> decide
    rw [this, if_neg h1, if_pos h2, rleaf_k1]
    by_cases h9 : 8 ≤ r.length
    · rw [if_pos h9, if_neg (by simp; omega)]; rfl
    · rw [if_neg h9, if_pos (by simp; omega)]; rfl
  rw [if_neg h2, show ((c.toNat : Int) == (110 : Int)) = false from byte_ne (fun q => h2 (.inl q)), cond_false, show ((c.toNat : Int) == (117 : Int)) = false from byte_ne (fun q => h2 (.inr q))]
  unfold gemotref1_leaf.k4
  rw [cond_false]
  by_cases h1 : c = 103
  · subst h1
    rw [if_pos rfl]
    show gemotref1_leaf.k1 (103 :: r) 1 = _
    rw [rleaf_k1, if_neg (by simp; omega)]; rfl
  rw [if_neg h1, show ((c.toNat : Int) == (103 : Int)) = false from byte_ne h1, cond_false]
  by_cases h3 : c = 105
  · subst h3
    rw [if_pos rfl, show (((105 : UInt8).toNat : Int) == (105 : Int)) = true from rfl, cond_true]
    cases r with
    | nil => rfl
    | cons d r =>
      have hd := h256 d
      have hl : decide (((105 :: d :: r : List UInt8).length : Int) > 1) = true := decide_eq_true (by simp; omega)
      rw [hl, cond_true, idxS1, Option.bind_some]
      by_cases q1 : 1 ≤ d.toNat
      · rw [cond_f (by omega), Option.bind_some, decide_eq_false (show ¬ (d.toNat : Int) < 1 by omega)]
        unfold gemotref1_leaf.k2
        by_cases q2 : d.toNat ≤ 8
        · rw [show leafI (d :: r) = 2 from if_pos (And.intro q1 q2), decide_eq_false (show ¬ (d.toNat : Int) > 8 by omega)]
          simp only [cond_true, cond_false]
          rw [rleaf_k1, if_neg (by simp; omega)]; rfl
        · rw [show leafI (d :: r) = 0 from if_neg (fun q : 1 ≤ d.toNat ∧ d.toNat ≤ 8 => q2 q.2), decide_eq_true (show (d.toNat : Int) > 8 by omega)]
          simp only [cond_true, cond_false]
          rw [rleaf_k1, if_neg (by simp; omega)]; rfl
      · rw [cond_t (by omega), show leafI (d :: r) = 0 from if_neg (fun q : 1 ≤ d.toNat ∧ d.toNat ≤ 8 => q1 q.1), decide_eq_true (show (d.toNat : Int) < 1 by omega)]
        unfold gemotref1_leaf.k2
        simp only [cond_true]
        rw [rleaf_k1, if_neg (by simp; omega)]; rfl
  rw [if_neg h3, show ((c.toNat : Int) == (105 : Int)) = false from byte_ne h3, cond_false]
  by_cases h4 : c = 116
  · subst h4
    rw [if_pos rfl, show (((116 : UInt8).toNat : Int) == (116 : Int)) = true from rfl, cond_true]
    match r with
    | [] => rfl
    | [d] => rfl
    | d :: e :: r =>
      have hd := h256 d
      have he := h256 e
      have hl : decide (((116 :: d :: e :: r : List UInt8).length : Int) ≥ 3) = true := decide_eq_true (by simp; omega)
      rw [hl, cond_true, idxS1, Option.bind_some, idxS2, Option.bind_some]
      rw [Eng.i64_id (x := (d.toNat : Int)) (by omega) (by omega), Eng.i64_id (x := (256 : Int) * (d.toNat : Int)) (by omega) (by omega), Eng.i64_id (x := (3 : Int) + (256 : Int) * (d.toNat : Int)) (by omega) (by omega), Eng.i64_id (x := (e.toNat : Int)) (by omega) (by omega), Eng.i64_id (by omega) (by omega)]
      unfold gemotref1_leaf.k3
      by_cases q1 : d.toNat = 0 ∧ e.toNat ≤ 100
      · rw [cond_f (by omega), rleaf_k1]
        by_cases q3 : e.toNat + 1 ≤ (d :: e :: r).length - 1
        · rw [show leafT (d :: e :: r) = 3 + e.toNat from if_pos ⟨q1.1, q1.2, q3⟩, if_neg (by simp at q3 ⊢; omega), if_neg (by omega), q1.1]
          congr 1
        · rw [show leafT (d :: e :: r) = 0 from if_neg (fun q : d.toNat = 0 ∧ e.toNat ≤ 100 ∧ e.toNat + 1 ≤ (d :: e :: r).length - 1 => q3 q.2.2), if_pos (by simp at q3 ⊢; omega)]; rfl
      · rw [cond_t (by omega), show leafT (d :: e :: r) = 0 from if_neg (fun q : d.toNat = 0 ∧ e.toNat ≤ 100 ∧ e.toNat + 1 ≤ (d :: e :: r).length - 1 => q1 ⟨q.1, q.2.1⟩), rleaf_k1, if_neg (by simp; omega)]; rfl
  rw [if_neg h4, show ((c.toNat : Int) == (116 : Int)) = false from byte_ne h4, cond_false, rleaf_k1, if_neg (by simp; omega)]; rfl

/-- What a term begins with that has others in it: how many, whether they are in order, and behind how many bytes they begin. -/
def openT (c : UInt8) (r : List UInt8) : Option (Nat × Bool × Nat) :=
  if c = 107 then (match r with | d :: _ => if d = 103 ∨ d = 101 then some (1, false, 1) else none | [] => none) else
  if c = 104 then some (1, false, 1) else if c = 112 ∨ c = 120 then some (2, false, 1) else if c = 115 then some (3, false, 1) else
  if c = 101 then (match r with | d :: _ => if 1 ≤ d.toNat ∧ d.toNat ≤ 32 then some (d.toNat, true, 2) else none | [] => none) else none
theorem drop_at {s : List UInt8} {a : Nat} {c : UInt8} {r : List UInt8} (h : s.drop a = c :: r) : s[a]? = some c ∧ s.length = a + 1 + r.length := by
  have h1 := congrArg (fun l => l[0]?) h
  have h2 := congrArg List.length h
  simp only [List.getElem?_drop, List.getElem?_cons_zero, Nat.add_zero] at h1
  simp only [List.length_drop, List.length_cons] at h2
  exact ⟨h1, by omega⟩
theorem drop_at1 {s : List UInt8} {a : Nat} {c d : UInt8} {r : List UInt8} (h : s.drop a = c :: d :: r) : s[a + 1]? = some d := by
  have h1 := congrArg (fun l => l[1]?) h
  simpa only [List.getElem?_drop, List.getElem?_cons_succ, List.getElem?_cons_zero] using h1
def openV (a : Nat) : Option (Nat × Bool × Nat) → D_term_open × Int × Bool
  | some (n, p, o) => (((n : Int), (0 : Int), p, ((a + o : Nat) : Int), []), ((a + o : Nat) : Int), true)
  | none => (((0 : Int), (0 : Int), false, ((a + 1 : Nat) : Int), []), (0 : Int), false)
theorem begin_eq {s : List UInt8} {a : Nat} {c : UInt8} {r : List UInt8} (h : s.drop a = c :: r) (ha : a ≤ 4611686018427387904) : term_begin.f s (a : Int) = some (openV a (openT c r)) := by
  have h256 : ∀ d : UInt8, d.toNat < 256 := fun d => UInt8.toNat_lt d
  obtain ⟨hc, hl⟩ := drop_at h
  have e2 : IntKind.i64.wrap ((a : Int) + (2 : Int)) = ((a + 2 : Nat) : Int) := by rw [Eng.i64_id (by omega) (by omega)]; omega
  unfold term_begin.f openT
  rw [idxS_at hc, Option.bind_some, wrap1 a (by omega)]
  by_cases h1 : c = 107
  · subst h1
    rw [if_pos rfl, show (((107 : UInt8).toNat : Int) == (107 : Int)) = true from rfl, cond_true]
    cases r with
    | nil =>
      rw [cond_t (by simp at hl; omega), decide_eq_true (show ((a + 1 : Nat) : Int) ≥ (s.length : Int) by simp at hl; omega)]
      unfold term_begin.k2
      rw [wrap1 a (by omega)]; rfl
    | cons d r =>
      have hd1 := drop_at1 h
      rw [cond_f (by simp at hl; omega), idxS_at hd1, Option.bind_some, Option.bind_some, decide_eq_false (show ¬ ((a + 1 : Nat) : Int) ≥ (s.length : Int) by simp at hl; omega)]
      unfold term_begin.k2 term_begin.k1
      rw [wrap1 a (by omega)]
      by_cases q1 : d = 103
      · subst q1; rfl
      · by_cases q2 : d = 101
        · subst q2; rfl
        · have b1 := byte_ne (k := 103) q1
          have b2 := byte_ne (k := 101) q2
          simp only [bne, show ((d.toNat : Int) == (103 : Int)) = false from b1, show ((d.toNat : Int) == (101 : Int)) = false from b2, Bool.not_false, cond_true, cond_false]
          rw [if_neg (fun q => q.elim q1 q2)]; rfl
  rw [if_neg h1, show ((c.toNat : Int) == (107 : Int)) = false from byte_ne h1, cond_false]
  by_cases h2 : c = 104
  · subst h2
    rw [if_pos rfl]
    rfl
  rw [if_neg h2, show ((c.toNat : Int) == (104 : Int)) = false from byte_ne h2, cond_false]
  unfold term_begin.k4 term_begin.k3 term_begin.k1
  rw [wrap1 a (by omega), e2]
  by_cases h3 : c = 112 ∨ c = 120
  · rw [if_pos h3]
    rcases h3 with rfl | rfl <;> rfl
  rw [if_neg h3, show ((c.toNat : Int) == (112 : Int)) = false from byte_ne (fun q => h3 (.inl q)), show ((c.toNat : Int) == (120 : Int)) = false from byte_ne (fun q => h3 (.inr q))]
  simp only [cond_false]
  by_cases h4 : c = 115
  · subst h4; rfl
  rw [if_neg h4, show ((c.toNat : Int) == (115 : Int)) = false from byte_ne h4, cond_false]
  by_cases h5 : c = 101
  · subst h5
    rw [if_pos rfl, show (((101 : UInt8).toNat : Int) == (101 : Int)) = true from rfl, cond_true]
    cases r with
    | nil =>
      rw [cond_t (by simp at hl; omega), decide_eq_true (show ((a + 1 : Nat) : Int) ≥ (s.length : Int) by simp at hl; omega)]
      rfl
    | cons d r =>
      have hd := h256 d
      have hd1 := drop_at1 h
      rw [cond_f (by simp at hl; omega), idxS_at hd1, Option.bind_some, Option.bind_some, Option.bind_some, decide_eq_false (show ¬ ((a + 1 : Nat) : Int) ≥ (s.length : Int) by simp at hl; omega)]
      by_cases q1 : 1 ≤ d.toNat
      · rw [cond_f (by omega), decide_eq_false (show ¬ (d.toNat : Int) < 1 by omega)]
        by_cases q2 : d.toNat ≤ 32
        · rw [decide_eq_false (show ¬ (d.toNat : Int) > 32 by omega), Eng.i64_id (by omega) (by omega)]
          simp only [cond_true, cond_false]
          rw [if_pos ⟨q1, q2⟩]; rfl
        · rw [decide_eq_true (show (d.toNat : Int) > 32 by omega)]
          simp only [cond_true, cond_false]
          rw [if_neg (fun q => q2 q.2)]; rfl
      · rw [cond_t (by omega), decide_eq_true (show (d.toNat : Int) < 1 by omega)]
        simp only [cond_true, cond_false]
        rw [if_neg (fun q => q1 q.1)]; rfl
  rw [if_neg h5, show ((c.toNat : Int) == (101 : Int)) = false from byte_ne h5, cond_false]
  rfl
end Go.Proofs.Ytgomlcfoifkdiaa.G
