/- The engine's rule for a statement whose order Go leaves open: it is enough to go through it in the text's order, if what has an effect stands in one order and what only reads may stand anywhere. Proved once, over any program. -/
import Derived.Test.YtipoblinefamgaaOwn
set_option linter.unusedVariables false
namespace Go.Eng
open Go.RowKit
set_option linter.unusedSectionVars false
variable [Inhabited Keep]
/-- Functions whose calls change what is owned. -/
structure Hard where
  l : List FuncId
variable [Inhabited Hard]

/-- What operations must come ahead of each: a certificate, as bits. -/
def befs : List Oper → List Nat → List Nat
  | [], acc => acc
  | o :: r, acc => befs r (acc ++ [o.after.toList.foldl (fun s e => if Region.binds .any e then s ||| 2 ^ e.on ||| acc.getD e.on 0 else s) 0])
def bit (B : List Nat) (j i : Nat) : Bool := (B.getD j 0).testBit i

def hasF : List FuncId → FuncId → Bool
  | [], _ => false
  | g :: r, f => match Nat.beq g f with | true => true | false => hasF r f
/-- Calls of these functions only read, and hand back what is known. -/
def quiet (QF : List FuncId) (o : Oper) : Bool := match o.op with
  | .call { callee := .value (.func f), .. } => hasF QF f
  | _ => false
/-- Has it an effect, or hangs it on one? -/
def isEvent (QF : List FuncId) (o : Oper) : Bool :=
  match o.op with
  | .call { callee := .value (.func f), .. } => !hasF QF f
  | .move _ | .assign _ | .pick .. | .load .. | .nilCheck _ | .binOp .. | .unOp .. | .makeInterface .. | .makeFunc .. | .build .. | .extract .. | .field .. | .fieldAddr .. | .indexAddr .. | .index .. | .lookup .. | .slice .. => false
  | .convert .. => false
  | .call { callee := .builtin b, .. } => match b with | .len | .cap | .max | .min => false | _ => true
  | _ => true
def isHard (o : Oper) : Bool :=
  match o.op with
  | .store .. | .mapUpdate .. | .insert .. | .entryStore .. => true
  | .call { callee := .builtin _, .. } => true
  | .call { callee := .value (.func f), .. } => hasF (default : Hard).l f
  | .call { callee := .value _, .. } => true
  | _ => false
def reads (o : Oper) : Bool :=
  match o.op with
  | .load .. | .lookup .. => true
  | .call _ => true
  | .convert .. => true
  | .binOp .. => true
  | _ => false

def tmpsOf (l : List Operand) : List Nat := l.filterMap fun | .tmp t => some t | _ => none
def guardSlot (ops : List Oper) (o : Oper) : List Nat := match o.guard with
  | some (g, _) => match ops[g]? with | some og => og.dst.toList | none => []
  | none => []
def looks (ops : List Oper) (o : Oper) : List Nat := tmpsOf o.op.operands.toList ++ guardSlot ops o
def apartB (ops : List Oper) (o p : Oper) : Bool :=
  match o.dst with
  | some d => !((looks ops p).contains d) && !(p.dst == some d) && (match p.dst with | some d' => !((looks ops o).contains d') | none => true)
  | none => match p.dst with | some d' => !((looks ops o).contains d') | none => true

def rank (QF : List FuncId) (ops : List Oper) (i : Nat) : Nat := ((List.range i).filter fun k => match ops[k]? with | some o => isEvent QF o | none => false).length

/-- Does it look at what stands through the whole statement? -/
def freeN (NT : List Nat) (j : Nat) : Bool := Nat.beq (NT.getD j 0) 1000
/-- What is asked of a pair, the first one ahead in the text (i, o; j, p), that is not bound to that order. -/
def pairOk (QF : List FuncId) (ops : List Oper) (NT : List Nat) (i : Nat) (o : Oper) (j : Nat) (p : Oper) : Bool :=
  apartB ops o p && !(isEvent QF o && isEvent QF p) && (!(isHard o && isEvent QF o && reads p) || freeN NT j) && (!(isHard p && isEvent QF p && reads o) || freeN NT i) &&
  (!(isEvent QF o) || (!(reads p) || (freeN NT j || Nat.ble (NT.getD j 0) (rank QF ops i))))
def noSel (o : Oper) : Bool := match o.op with | .select .. => false | .defer .. => false | _ => true

def rowOk (QF : List FuncId) (ops : List Oper) (B NT : List Nat) (j : Nat) (o : Oper) : Bool :=
  noSel o &&
  (o.after.toList.all fun e => !Region.binds .any e || Nat.blt e.on j) &&
  ((List.range ops.length).all fun i => match ops[i]? with
    | none => true
    | some p => if Nat.blt i j then
        (if bit B j i then ((B.getD i 0 ||| B.getD j 0) == B.getD j 0) && (o.after.toList.any fun e => Region.binds .any e && (Nat.beq e.on i || bit B e.on i)) else pairOk QF ops NT i p j o) &&
        (!(isHard p && isEvent QF p && reads o) || (freeN NT j || Nat.blt (rank QF ops i) (NT.getD j 0))) &&
        (match p.dst with | some d => !(o.dst == some d) | none => true)
      else !bit B j i) &&
  (match o.guard with
   | none => true
   | some (g, _) => bit B j g && (match ops[g]? with | some og => og.dst.isSome | none => false))
def drawOk (QF : List FuncId) (n : Nat) (ops : List Oper) (B NT : List Nat) : Bool := dstsOk n ops && ((List.range ops.length).all fun j => match ops[j]? with | none => true | some o => rowOk QF ops B NT j o)

/-! ### The frame, as a function -/
abbrev FEnv := Nat → Option (Gs × Value)
structure FitsF (n : Nat) (F : FEnv) (a : Act) : Prop where
  size : a.tmps.size = n
  yes : ∀ t gs v, F t = some (gs, v) → holds a gs → a.tmps.getD t undef = v
  no : ∀ t gs v, F t = some (gs, v) → ¬ holds a gs → a.tmps.getD t undef = undef

def fput (F : FEnv) (dst : Option Tmp) (gs : Gs) (v : Value) : FEnv := match dst with
  | some d => fun t => if t = d then some (gs, v) else F t
  | none => F
def fgof (ops : List Oper) (F : FEnv) (o : Oper) : Gs :=
  match o.guard with
  | none => []
  | some (j, want) => match ops[j]? with
    | none => []
    | some oj => match oj.dst with
      | none => []
      | some s => match F s with
        | some (gs, _) => (s, want) :: gs
        | none => [(s, want)]

/-- No entry's guards name the slot. -/
def freeOf (F : FEnv) (d : Nat) : Prop := ∀ t gs v, F t = some (gs, v) → ∀ p ∈ gs, p.1 ≠ d

theorem holds_put' {a : Act} {d : Nat} {v : Value} {gs : Gs} (h : ∀ p ∈ gs, p.1 ≠ d) : holds (a.put (some d) v) gs ↔ holds a gs := by
  have key : ∀ p ∈ gs, (a.put (some d) v).tmps.getD p.1 undef = a.tmps.getD p.1 undef := fun p hp => getD_put_ne (Ne.symm (h p hp))
  exact ⟨fun hh p hp => (key p hp) ▸ hh p hp, fun hh p hp => (key p hp).trans (hh p hp)⟩

theorem FitsF.put {n : Nat} {F : FEnv} {a : Act} {dst : Option Tmp} {gs : Gs} {u v : Value} (h : FitsF n F a) (hd : ∀ d, dst = some d → d < n ∧ freeOf F d ∧ ∀ p ∈ gs, p.1 ≠ d)
    (hu : (holds a gs → u = v) ∧ (¬ holds a gs → u = undef)) : FitsF n (fput F dst gs v) (a.put dst u) := by
  cases dst with
  | none => exact h
  | some d =>
    obtain ⟨h1, h2, h3⟩ := hd d rfl
    have hda : d < a.tmps.size := by rw [h.size]; exact h1
    refine ⟨by rw [put_size]; exact h.size, fun t gs' x hx hh => ?_, fun t gs' x hx hh => ?_⟩
    · simp only [fput] at hx
      split at hx
      · subst_vars; cases hx; rw [getD_put_same hda]; exact hu.1 ((holds_put' h3).1 hh)
      · rename_i hne; rw [getD_put_ne (Ne.symm hne)]; exact h.yes t gs' x hx ((holds_put' (h2 t gs' x hx)).1 hh)
    · simp only [fput] at hx
      split at hx
      · subst_vars; cases hx; rw [getD_put_same hda]; exact hu.2 (fun k => hh ((holds_put' h3).2 k))
      · rename_i hne; rw [getD_put_ne (Ne.symm hne)]; exact h.no t gs' x hx (fun k => hh ((holds_put' (h2 t gs' x hx)).2 k))

/-- The list that a float looks at. -/
def lsAt (NT : List Nat) (Lb : List Item) (Ls : List (List Item)) (j : Nat) : Option (List Item) := match freeN NT j with | true => some Lb | false => Ls[NT.getD j 0]?
theorem lsAt_append {NT : List Nat} {Lb : List Item} {Ls X : List (List Item)} {j : Nat} (h : freeN NT j = true ∨ NT.getD j 0 < Ls.length) : lsAt NT Lb (Ls ++ X) j = lsAt NT Lb Ls j := by
  unfold lsAt
  cases hf : freeN NT j with
  | true => rfl
  | false =>
    rcases h with h | h
    · rw [hf] at h; cases h
    · exact List.getElem?_append_left h
/-! ### Through the text -/
section
variable (P : Program) (QF : List FuncId) (QV : Nat → Value) (n : Nat) (ops : List Oper) (NT : List Nat) (Lb : List Item) (ok : Nat → Prop) (w0 : World) (KF : FEnv → World → Prop)


def yieldsAt (F : FEnv) (Ls : List (List Item)) (j : Nat) (o : Oper) (c : Value) : Prop :=
  ∀ a, FitsF n F a → holds a (fgof ops F o) → ∀ w, (reads o = true → ∃ L, lsAt NT Lb Ls j = some L ∧ Own ok w0 w L) →
    match quiet QF o with
    | false => (execOp a.eval o).run P w = .ok (.value c) w
    | true => upon P (fun v w' => v = c ∧ Bel w.heap.size w w') ((execOp a.eval o).run P w)
def actsAt (F : FEnv) (L : List Item) (o : Oper) (G : Value → List Item → Prop) : Prop :=
  ∀ a, FitsF n F a → ∀ w, Own ok w0 w L → ((holds a (fgof ops F o) → upon P (fun v w' => ∃ L', G v L' ∧ Own ok w0 w' L') ((execOp a.eval o).run P w)) ∧ (¬ holds a (fgof ops F o) → ∃ v L', G v L' ∧ Own ok w0 w L'))

/-- What the frame says of an operation's guards is the same in each that fits. -/
def detAt (F : FEnv) (o : Oper) : Prop := (∀ a, FitsF n F a → holds a (fgof ops F o)) ∨ ∀ a, FitsF n F a → ¬ holds a (fgof ops F o)

def lexC : List (Nat × Oper) → FEnv → List (List Item) → Prop
  | [], F, Ls => ∀ L, Ls.getLast? = some L → ∀ w, Own ok w0 w L → KF F w
  | (j, o) :: R, F, Ls => match isEvent QF o with
    | false => ∃ c, (quiet QF o = true → c = QV j) ∧ (reads o = true → freeN NT j = true ∨ NT.getD j 0 < Ls.length) ∧ yieldsAt P QF n ops NT Lb ok w0 F Ls j o c ∧ detAt n ops F o ∧ lexC R (fput F o.dst (fgof ops F o) c) Ls
    | true => ∃ L G, Ls.getLast? = some L ∧ (isHard o = false → ∀ v L', G v L' → L.Sublist L') ∧ (∀ v L', G v L' → (∃ w, Own ok w0 w L') → Lb.Sublist L') ∧ actsAt P n ops ok w0 F L o G ∧
        ∀ v L', G v L' → (∃ w, Own ok w0 w L') → lexC R (fput F o.dst (fgof ops F o) v) (Ls ++ [L'])
end

/-! ### The static facts -/
structure Stat (QF : List FuncId) (n : Nat) (ops : List Oper) (B NT : List Nat) : Prop where
  dst_lt : ∀ (j : Nat) (o : Oper) (d : Nat), ops[j]? = some o → o.dst = some d → d < n
  nosel : ∀ (j : Nat) (o : Oper), ops[j]? = some o → ∀ cs b, o.op ≠ .select cs b
  nodef : ∀ (j : Nat) (o : Oper), ops[j]? = some o → ∀ c, o.op ≠ .defer c
  edge_lt : ∀ (j : Nat) (o : Oper), ops[j]? = some o → ∀ e ∈ o.after, Region.binds .any e = true → e.on < j
  bound : ∀ (j i : Nat) (o p : Oper), ops[j]? = some o → ops[i]? = some p → bit B j i = true → i < j ∧ (∃ e ∈ o.after, Region.binds .any e = true ∧ (e.on = i ∨ bit B e.on i = true)) ∧ (∀ k, bit B i k = true → bit B j k = true)
  pair : ∀ (j i : Nat) (o p : Oper), ops[j]? = some o → ops[i]? = some p → i < j → bit B j i = false → pairOk QF ops NT i p j o = true
  hard : ∀ (j i : Nat) (o p : Oper), ops[j]? = some o → ops[i]? = some p → i < j → isHard p = true → isEvent QF p = true → reads o = true → freeN NT j = true ∨ rank QF ops i < NT.getD j 0
  dist : ∀ (j i : Nat) (o p : Oper) (d : Nat), ops[j]? = some o → ops[i]? = some p → i < j → p.dst = some d → o.dst ≠ some d
  guard : ∀ (j : Nat) (o : Oper) (g : Nat) (b : Bool), ops[j]? = some o → o.guard = some (g, b) → bit B j g = true ∧ ∃ og s, ops[g]? = some og ∧ og.dst = some s

theorem stat_of {QF : List FuncId} {n : Nat} {ops : List Oper} {B NT : List Nat} (h : drawOk QF n ops B NT = true) : Stat QF n ops B NT := by
  simp only [drawOk, Bool.and_eq_true, List.all_eq_true, List.mem_range] at h
  obtain ⟨h1, h2⟩ := h
  have row : ∀ (j : Nat) (o : Oper), ops[j]? = some o → rowOk QF ops B NT j o = true := fun j o ho => by
    have := h2 j (List.getElem?_eq_some_iff.1 ho).1
    simpa [ho] using this
  have parts : ∀ (j : Nat) (o : Oper), ops[j]? = some o → _ := fun j o ho => by
    have := row j o ho
    simp only [rowOk, Bool.and_eq_true, List.all_eq_true, List.mem_range] at this
    exact this
  refine ⟨dstsOk_spec h1, fun j o ho cs b he => ?_, fun j o ho c he => ?_, fun j o ho e he hb => ?_, fun j i o p ho hp hb => ?_, fun j i o p ho hp hlt hb => ?_, fun j i o p ho hp hlt hh he hr => ?_, fun j i o p d ho hp hlt hd hd' => ?_, fun j o g b ho hg => ?_⟩
  · have := (parts j o ho).1.1.1
    simp [noSel, he] at this
  · have := (parts j o ho).1.1.1
    simp [noSel, he] at this
  · have := (parts j o ho).1.1.2 e (by simpa using he)
    rw [hb] at this
    simpa [Nat.blt_eq] using this
  · have := (parts j o ho).1.2 i (List.getElem?_eq_some_iff.1 hp).1
    rw [hp] at this
    simp only at this
    split at this
    · rename_i hlt
      have hlt' : i < j := by simpa [Nat.blt_eq] using hlt
      simp only [Bool.and_eq_true, List.any_eq_true, Bool.or_eq_true, beq_iff_eq] at this
      obtain ⟨⟨⟨h3, e, he, hbe, h4⟩, _⟩, _⟩ := this
      refine ⟨hlt', ⟨e, by simpa using he, hbe, h4.imp Nat.eq_of_beq_eq_true id⟩, fun k hk => ?_⟩
      unfold bit at hk ⊢
      rw [← h3, Nat.testBit_or, hk]; rfl
    · simp [hb] at this
  · have := (parts j o ho).1.2 i (List.getElem?_eq_some_iff.1 hp).1
    rw [hp] at this
    simp only [show Nat.blt i j = true by simpa [Nat.blt_eq] using hlt, if_true, hb, Bool.false_eq_true, if_false, Bool.and_eq_true] at this
    exact this.1.1
  · have := (parts j o ho).1.2 i (List.getElem?_eq_some_iff.1 hp).1
    rw [hp] at this
    simp only [show Nat.blt i j = true by simpa [Nat.blt_eq] using hlt, if_true, Bool.and_eq_true] at this
    have h5 := this.1.2
    simp only [hh, he, hr, Bool.and_self, Bool.not_true, Bool.false_or, Bool.or_eq_true] at h5
    exact h5.imp id fun h => by simpa [Nat.blt_eq] using h
  · have := (parts j o ho).1.2 i (List.getElem?_eq_some_iff.1 hp).1
    rw [hp] at this
    simp only [show Nat.blt i j = true by simpa [Nat.blt_eq] using hlt, if_true, Bool.and_eq_true] at this
    have h5 := this.2
    rw [hd] at h5
    simp [hd'] at h5
  · have := (parts j o ho).2
    rw [hg] at this
    simp only [Bool.and_eq_true] at this
    refine ⟨this.1, ?_⟩
    have h6 := this.2
    split at h6
    · rename_i og hog
      obtain ⟨s, hs⟩ := Option.isSome_iff_exists.1 h6
      exact ⟨og, s, hog, hs⟩
    · cases h6

/-! ### Two that stand side by side may change places -/
theorem apart_spec {ops : List Oper} {o p : Oper} (h : apartB ops o p = true) : (∀ d, o.dst = some d → d ∉ looks ops p ∧ p.dst ≠ some d) ∧ (∀ d, p.dst = some d → d ∉ looks ops o) := by
  unfold apartB at h
  cases ho : o.dst with
  | none =>
    rw [ho] at h
    refine ⟨fun d hd => (by cases hd), fun d hd => ?_⟩
    rw [hd] at h; simpa using h
  | some x =>
    rw [ho] at h
    simp only [Bool.and_eq_true, Bool.not_eq_true'] at h
    obtain ⟨⟨h1, h2⟩, h3⟩ := h
    refine ⟨fun d hd => ?_, fun d hd => ?_⟩
    · cases hd
      exact ⟨by simpa using h1, by simpa using h2⟩
    · rw [hd] at h3; simpa using h3

theorem mem_tmpsOf {t : Nat} {l : List Operand} (h : Operand.tmp t ∈ l) : t ∈ tmpsOf l := by
  unfold tmpsOf
  exact List.mem_filterMap.2 ⟨_, h, rfl⟩
theorem exec_put {ops : List Oper} {o : Oper} (hs : ∀ cs b, o.op ≠ .select cs b) (a : Act) (dst : Option Tmp) (v : Value) (h : ∀ d, dst = some d → d ∉ looks ops o) : execOp (a.put dst v).eval o = execOp a.eval o :=
  execOp_congr o hs fun x hx => Act.eval_put fun d hd hxd => h d hd (by
    subst hxd
    exact List.mem_append_left _ (mem_tmpsOf (by simpa using hx)))

theorem fgof_put {ops : List Oper} {F : FEnv} {o : Oper} {dst : Option Tmp} {gs : Gs} {v : Value} (h : ∀ d, dst = some d → d ∉ guardSlot ops o) : fgof ops (fput F dst gs v) o = fgof ops F o := by
  cases dst with
  | none => rfl
  | some d =>
    have := h d rfl
    unfold fgof
    cases hg : o.guard with
    | none => rfl
    | some gw =>
      obtain ⟨g, want⟩ := gw
      simp only
      cases hog : ops[g]? with
      | none => rfl
      | some og =>
        simp only
        cases hd : og.dst with
        | none => rfl
        | some s =>
          simp only [guardSlot, hg, hog, hd, Option.toList, List.mem_singleton] at this
          simp only [fput]
          rw [if_neg (Ne.symm this)]

/-- The guards of an operation do not name a slot that is none of its guards'. -/
theorem fgof_free {ops : List Oper} {F : FEnv} {o : Oper} {d : Nat} (h : d ∉ guardSlot ops o) (hf : freeOf F d) : ∀ p ∈ fgof ops F o, p.1 ≠ d := by
  intro p hp
  unfold fgof at hp
  cases hg : o.guard with
  | none => rw [hg] at hp; cases hp
  | some gw =>
    obtain ⟨g, want⟩ := gw
    rw [hg] at hp
    simp only at hp
    cases hog : ops[g]? with
    | none => rw [hog] at hp; cases hp
    | some og =>
      rw [hog] at hp
      simp only at hp
      cases hd : og.dst with
      | none => rw [hd] at hp; cases hp
      | some s =>
        rw [hd] at hp
        simp only at hp
        simp only [guardSlot, hg, hog, hd, Option.toList, List.mem_singleton] at h
        cases hF : F s with
        | none =>
          rw [hF] at hp
          simp only [List.mem_singleton] at hp
          subst hp; exact fun e => h e.symm
        | some gv =>
          obtain ⟨gs', v'⟩ := gv
          rw [hF] at hp
          rcases List.mem_cons.1 hp with k | k
          · subst k; exact fun e => h e.symm
          · exact hf s gs' v' hF p k

theorem FitsF.unput {n : Nat} {F : FEnv} {a : Act} {dst : Option Tmp} {gs : Gs} {v : Value} (h : FitsF n (fput F dst gs v) a) (hd : ∀ d, dst = some d → d < n ∧ freeOf F d) : ∃ u, FitsF n F (a.put dst u) := by
  cases dst with
  | none => exact ⟨undef, h⟩
  | some d =>
    obtain ⟨h1, h2⟩ := hd d rfl
    have hda : d < a.tmps.size := by rw [h.size]; exact h1
    have key : ∀ u, (∀ gs' x, F d = some (gs', x) → (holds a gs' → u = x) ∧ (¬ holds a gs' → u = undef)) → FitsF n F (a.put (some d) u) := by
      intro u hu
      refine ⟨by rw [put_size]; exact h.size, fun t gs' x hx hh => ?_, fun t gs' x hx hh => ?_⟩
      · by_cases e : t = d
        · subst e; rw [getD_put_same hda]; exact (hu gs' x hx).1 ((holds_put' (h2 t gs' x hx)).1 hh)
        · rw [getD_put_ne (Ne.symm e)]; exact h.yes t gs' x (by simp only [fput]; rw [if_neg e]; exact hx) ((holds_put' (h2 t gs' x hx)).1 hh)
      · by_cases e : t = d
        · subst e; rw [getD_put_same hda]; exact (hu gs' x hx).2 (fun k => hh ((holds_put' (h2 t gs' x hx)).2 k))
        · rw [getD_put_ne (Ne.symm e)]; exact h.no t gs' x (by simp only [fput]; rw [if_neg e]; exact hx) (fun k => hh ((holds_put' (h2 t gs' x hx)).2 k))
    cases hF : F d with
    | none => exact ⟨undef, key undef (fun gs' x hx => by rw [hF] at hx; cases hx)⟩
    | some gv =>
      obtain ⟨gs', x⟩ := gv
      by_cases hh : holds a gs'
      · exact ⟨x, key x (fun gs2 x2 hx => by rw [hF] at hx; cases hx; exact ⟨fun _ => rfl, fun k => absurd hh k⟩)⟩
      · exact ⟨undef, key undef (fun gs2 x2 hx => by rw [hF] at hx; cases hx; exact ⟨fun k => absurd k hh, fun _ => rfl⟩)⟩

theorem fput_comm {F : FEnv} {d d' : Option Tmp} {gs gs' : Gs} {v v' : Value} (h : ∀ x, d = some x → d' ≠ some x) : fput (fput F d gs v) d' gs' v' = fput (fput F d' gs' v') d gs v := by
  cases d with
  | none => cases d' <;> rfl
  | some x =>
    cases d' with
    | none => rfl
    | some y =>
      have hne : x ≠ y := fun e => h x rfl (by rw [e])
      funext t
      simp only [fput]
      by_cases h1 : t = y
      · subst h1; rw [if_pos rfl, if_neg (Ne.symm hne), if_pos rfl]
      · rw [if_neg h1]
        by_cases h2 : t = x
        · rw [if_pos h2, if_pos h2]
        · rw [if_neg h2, if_neg h2, if_neg h1]

theorem upon_ex {P : Program} {K : Value → World → Prop} {r : Result Next} (h : upon P K r) : ∃ v w, K v w := by
  cases r with
  | halt x w => exact h.elim
  | ok x w =>
    cases x <;> simp only [upon] at h
    case value v => exact ⟨_, _, h⟩
    case skip => exact ⟨_, _, h⟩
    case enter f args =>
      obtain ⟨e, w', fr, he, _⟩ := h []
      cases e <;> first | exact ⟨_, _, he⟩ | exact he.elim
    case row r args =>
      obtain ⟨v, w', hv, _⟩ := h default [] (room_wide _)
      exact ⟨v, w', hv⟩
    case round l f tmps assign body =>
      obtain ⟨e, w', he, _⟩ := h.2 default [] (room_wide _)
      cases e <;> first | exact ⟨_, _, he⟩ | exact he.elim

section
variable {P : Program} {QF : List FuncId} {QV : Nat → Value} {n : Nat} {ops : List Oper} {B NT : List Nat} {Lb : List Item} {ok : Nat → Prop} {w0 : World} {KF : FEnv → World → Prop}

/-- The value put, by whether the guards hold. -/
theorem pick_u (a : Act) (gs : Gs) (c : Value) : ∃ u, (holds a gs → u = c) ∧ (¬ holds a gs → u = undef) := by
  by_cases h : holds a gs
  · exact ⟨c, fun _ => rfl, fun k => absurd h k⟩
  · exact ⟨undef, fun k => absurd k h, fun _ => rfl⟩

/-- An operation apart from another one: it looks the same whether the other one has been or not. -/
theorem yields_back {F : FEnv} {Ls : List (List Item)} {j : Nat} {p : Oper} {c v : Value} {dst : Option Tmp} {gs : Gs} (hs : ∀ cs b, p.op ≠ .select cs b) (hl : ∀ d, dst = some d → d ∉ looks ops p) (hd : ∀ d, dst = some d → d < n ∧ freeOf F d ∧ ∀ q ∈ gs, q.1 ≠ d)
    (h : yieldsAt P QF n ops NT Lb ok w0 (fput F dst gs v) Ls j p c) : yieldsAt P QF n ops NT Lb ok w0 F Ls j p c := by
  intro a hf hh w hw
  obtain ⟨u, hu⟩ := pick_u a gs v
  have hf' := hf.put (dst := dst) (gs := gs) hd hu
  have hg : ∀ d, dst = some d → d ∉ guardSlot ops p := fun d e k => hl d e (List.mem_append_right _ k)
  have := h (a.put dst u) hf' (by
    rw [fgof_put hg]
    cases dst with
    | none => exact hh
    | some d => exact (holds_put' (fgof_free (hg d rfl) (hd d rfl).2.1)).2 hh) w hw
  rwa [exec_put hs a dst u hl] at this
theorem yields_on {F : FEnv} {Ls : List (List Item)} {j : Nat} {p : Oper} {c v : Value} {dst : Option Tmp} {gs : Gs} (hs : ∀ cs b, p.op ≠ .select cs b) (hl : ∀ d, dst = some d → d ∉ looks ops p) (hd : ∀ d, dst = some d → d < n ∧ freeOf F d)
    (h : yieldsAt P QF n ops NT Lb ok w0 F Ls j p c) : yieldsAt P QF n ops NT Lb ok w0 (fput F dst gs v) Ls j p c := by
  intro a hf hh w hw
  obtain ⟨u, hf'⟩ := hf.unput hd
  have hg : ∀ d, dst = some d → d ∉ guardSlot ops p := fun d e k => hl d e (List.mem_append_right _ k)
  rw [fgof_put hg] at hh
  have := h (a.put dst u) hf' (by
    cases dst with
    | none => exact hh
    | some d => exact (holds_put' (fgof_free (hg d rfl) (hd d rfl).2)).2 hh) w hw
  rwa [exec_put hs a dst u hl] at this
theorem acts_back {F : FEnv} {L : List Item} {p : Oper} {G : Value → List Item → Prop} {v : Value} {dst : Option Tmp} {gs : Gs} (hs : ∀ cs b, p.op ≠ .select cs b) (hl : ∀ d, dst = some d → d ∉ looks ops p) (hd : ∀ d, dst = some d → d < n ∧ freeOf F d ∧ ∀ q ∈ gs, q.1 ≠ d)
    (h : actsAt P n ops ok w0 (fput F dst gs v) L p G) : actsAt P n ops ok w0 F L p G := by
  intro a hf w hw
  obtain ⟨u, hu⟩ := pick_u a gs v
  have hf' := hf.put (dst := dst) (gs := gs) hd hu
  have hg : ∀ d, dst = some d → d ∉ guardSlot ops p := fun d e k => hl d e (List.mem_append_right _ k)
  have hiff : holds (a.put dst u) (fgof ops F p) ↔ holds a (fgof ops F p) := by
    cases dst with
    | none => exact Iff.rfl
    | some d => exact holds_put' (fgof_free (hg d rfl) (hd d rfl).2.1)
  have := h (a.put dst u) hf' w hw
  rw [fgof_put hg, hiff, exec_put hs a dst u hl] at this
  exact this
theorem det_back {F : FEnv} {p : Oper} {v : Value} {dst : Option Tmp} {gs : Gs} (hl : ∀ d, dst = some d → d ∉ guardSlot ops p) (hd : ∀ d, dst = some d → d < n ∧ freeOf F d ∧ ∀ q ∈ gs, q.1 ≠ d)
    (h : detAt n ops (fput F dst gs v) p) : detAt n ops F p := by
  have key : ∀ a, FitsF n F a → ∃ a', FitsF n (fput F dst gs v) a' ∧ (holds a' (fgof ops F p) ↔ holds a (fgof ops F p)) := by
    intro a hf
    obtain ⟨u, hu⟩ := pick_u a gs v
    refine ⟨_, hf.put (dst := dst) (gs := gs) hd hu, ?_⟩
    cases dst with
    | none => exact Iff.rfl
    | some d => exact holds_put' (fgof_free (hl d rfl) (hd d rfl).2.1)
  unfold detAt at h ⊢
  rw [fgof_put hl] at h
  rcases h with h | h
  · exact .inl fun a hf => by obtain ⟨a', h1, h2⟩ := key a hf; exact h2.1 (h a' h1)
  · exact .inr fun a hf k => by obtain ⟨a', h1, h2⟩ := key a hf; exact h a' h1 (h2.2 k)
theorem det_on {F : FEnv} {p : Oper} {v : Value} {dst : Option Tmp} {gs : Gs} (hl : ∀ d, dst = some d → d ∉ guardSlot ops p) (hd : ∀ d, dst = some d → d < n ∧ freeOf F d)
    (h : detAt n ops F p) : detAt n ops (fput F dst gs v) p := by
  have key : ∀ a, FitsF n (fput F dst gs v) a → ∃ a', FitsF n F a' ∧ (holds a' (fgof ops F p) ↔ holds a (fgof ops F p)) := by
    intro a hf
    obtain ⟨u, hf'⟩ := hf.unput hd
    refine ⟨_, hf', ?_⟩
    cases dst with
    | none => exact Iff.rfl
    | some d => exact holds_put' (fgof_free (hl d rfl) (hd d rfl).2)
  unfold detAt at h ⊢
  rw [fgof_put hl]
  rcases h with h | h
  · exact .inl fun a hf => by obtain ⟨a', h1, h2⟩ := key a hf; exact h2.1 (h a' h1)
  · exact .inr fun a hf k => by obtain ⟨a', h1, h2⟩ := key a hf; exact h a' h1 (h2.2 k)

/-- Two frames that no act tells apart. -/
structure Sim (n : Nat) (F1 F2 : FEnv) : Prop where
  same : ∀ t, (F1 t).map (·.1) = (F2 t).map (·.1)
  bare : ∀ t v, F1 t = some ([], v) → F2 t = some ([], v)
  fits : ∀ a, FitsF n F1 a ↔ FitsF n F2 a
theorem Sim.free {F1 F2 : FEnv} (h : Sim n F1 F2) {d : Nat} (hf : freeOf F1 d) : freeOf F2 d := by
  intro t gs v hv q hq
  have := h.same t
  rw [hv] at this
  cases h1 : F1 t with
  | none => rw [h1] at this; cases this
  | some gv =>
    obtain ⟨gs', v'⟩ := gv
    rw [h1] at this
    simp at this
    subst this
    exact hf t _ v' h1 q hq
theorem Sim.gof {F1 F2 : FEnv} (h : Sim n F1 F2) (o : Oper) : fgof ops F2 o = fgof ops F1 o := by
  unfold fgof
  split
  · rfl
  · split
    · rfl
    · split
      · rfl
      · rename_i s _
        have := h.same s
        cases h1 : F1 s with
        | none => rw [h1] at this; cases h2 : F2 s with
          | none => rfl
          | some gv => rw [h2] at this; cases this
        | some gv =>
          rw [h1] at this
          cases h2 : F2 s with
          | none => rw [h2] at this; cases this
          | some gv' => rw [h2] at this; simp at this; simp [this]
theorem set_back {t : Array Value} {d : Nat} {u : Value} (hd : d < t.size) : (t.setIfInBounds d u).setIfInBounds d (t.getD d undef) = t := by
  apply Array.ext_getElem?
  intro i
  rw [Array.getElem?_setIfInBounds, Array.getElem?_setIfInBounds]
  by_cases e : d = i
  · subst e
    simp [hd, Array.getD]
  · simp [e]
theorem put_put (a : Act) (d : Nat) (u : Value) (hd : d < a.tmps.size) : (a.put (some d) u).put (some d) (a.tmps.getD d undef) = a := by
  obtain ⟨t, df⟩ := a
  show (⟨(t.setIfInBounds d u).setIfInBounds d (t.getD d undef), df⟩ : Act) = ⟨t, df⟩
  rw [set_back hd]
theorem fits_swap {F1 F2 : FEnv} (hS : ∀ a, FitsF n F1 a → FitsF n F2 a) {d : Nat} {gs : Gs} {v : Value} (hdn : d < n) (h1 : freeOf F1 d) (h2 : freeOf F2 d) (hg : ∀ q ∈ gs, q.1 ≠ d) {a : Act} (h : FitsF n (fput F1 (some d) gs v) a) : FitsF n (fput F2 (some d) gs v) a := by
  obtain ⟨u, hu⟩ := h.unput (fun x hx => by cases hx; exact ⟨hdn, h1⟩)
  have hda : d < a.tmps.size := by rw [h.size]; exact hdn
  have := (hS _ hu).put (dst := some d) (gs := gs) (u := a.tmps.getD d undef) (v := v) (fun x hx => by cases hx; exact ⟨hdn, h2, hg⟩)
    ⟨fun hh => h.yes d gs v (by simp [fput]) ((holds_put' hg).1 hh), fun hh => h.no d gs v (by simp [fput]) (fun k => hh ((holds_put' hg).2 k))⟩
  rwa [put_put a d u hda] at this
theorem Sim.put {F1 F2 : FEnv} (h : Sim n F1 F2) {dst : Option Tmp} {gs : Gs} {v : Value} (hd : ∀ d, dst = some d → d < n ∧ freeOf F1 d ∧ ∀ q ∈ gs, q.1 ≠ d) : Sim n (fput F1 dst gs v) (fput F2 dst gs v) := by
  cases dst with
  | none => exact h
  | some d =>
    obtain ⟨h1, h2, h3⟩ := hd d rfl
    refine ⟨fun t => ?_, fun t x hx => ?_, fun a => ⟨fits_swap (fun a => (h.fits a).1) h1 h2 (h.free h2) h3, fits_swap (fun a => (h.fits a).2) h1 (h.free h2) h2 h3⟩⟩
    · by_cases e : t = d
      · simp only [fput]; rw [if_pos e, if_pos e]
      · simp only [fput]; rw [if_neg e, if_neg e]; exact h.same t
    · simp only [fput] at hx ⊢
      split
      · rename_i e; rw [if_pos e] at hx; exact hx
      · rename_i e; rw [if_neg e] at hx; exact h.bare t x hx


def evList (QF : List FuncId) (ops : List Oper) : List Nat := (List.range ops.length).filter fun i => match ops[i]? with | some o => isEvent QF o | none => false

theorem evList_rank {i : Nat} {o : Oper} (hi : ops[i]? = some o) (he : isEvent QF o = true) : (evList QF ops)[rank QF ops i]? = some i := by
  have hlt : i < ops.length := (List.getElem?_eq_some_iff.1 hi).1
  let p : Nat → Bool := fun k => match ops[k]? with | some o => isEvent QF o | none => false
  have hp : p i = true := by show (match ops[i]? with | some o => isEvent QF o | none => false) = true; rw [hi]; exact he
  have hr : List.range ops.length = List.range i ++ i :: (List.range' (i + 1) (ops.length - i - 1)) := by
    have e : ops.length = i + (1 + (ops.length - i - 1)) := by omega
    rw [List.range_eq_range', List.range_eq_range', e, ← List.range'_append_1, ← List.range'_append_1]
    simp [List.range'_succ]
  have hf : evList QF ops = (List.range i).filter p ++ i :: (List.range' (i + 1) (ops.length - i - 1)).filter p := by
    show (List.range ops.length).filter p = _
    rw [hr, List.filter_append, List.filter_cons, if_pos hp]
  rw [hf]
  have : rank QF ops i = ((List.range i).filter p).length := rfl
  rw [this, List.getElem?_append_right (Nat.le_refl _)]
  simp
theorem evList_nodup : (evList QF ops).Nodup := List.nodup_range.filter _
theorem evList_inj {r r' m : Nat} (h : (evList QF ops)[r]? = some m) (h' : (evList QF ops)[r']? = some m) : r = r' := by
  obtain ⟨h1, h2⟩ := List.getElem?_eq_some_iff.1 h
  obtain ⟨h1', h2'⟩ := List.getElem?_eq_some_iff.1 h'
  exact (List.getElem_inj (h₀ := h1) (h₁ := h1') (evList_nodup (ops := ops))).1 (h2.trans h2'.symm)
theorem evList_sorted : (evList QF ops).Pairwise (· < ·) := List.pairwise_lt_range.filter _
theorem evList_mem {m : Nat} (h : m ∈ evList QF ops) : ∃ o, ops[m]? = some o ∧ isEvent QF o = true := by
  have := (List.mem_filter.1 h).2
  cases ho : ops[m]? with
  | none => rw [ho] at this; cases this
  | some o => rw [ho] at this; exact ⟨o, rfl, this⟩

/-- What stands of a list of operations that are still to come. -/
structure RInv (QF : List FuncId) (n : Nat) (ops : List Oper) (B : List Nat) (Lb : List Item) (ok : Nat → Prop) (w0 : World) (R : List (Nat × Oper)) (F : FEnv) (Ls : List (List Item)) : Prop where
  mem : ∀ q ∈ R, ops[q.1]? = some q.2
  compat : R.Pairwise (fun x y => bit B x.1 y.1 = false)
  free : ∀ q ∈ R, ∀ d, q.2.dst = some d → freeOf F d
  act : ∃ a, FitsF n F a
  world : ∃ L, Ls.getLast? = some L ∧ Lb.Sublist L ∧ ∃ w, Own ok w0 w L
  evs : ∃ k, ((R.filter fun q => isEvent QF q.2).map (·.1)) = (evList QF ops).drop k ∧ Ls.length = k + 1
  chain : ∀ r A C, Ls[r]? = some A → Ls[r + 1]? = some C → (∀ m o, (evList QF ops)[r]? = some m → ops[m]? = some o → isHard o = false) → A.Sublist C

theorem own_gs (st : Stat QF n ops B NT) {F : FEnv} {j : Nat} {o : Oper} (hj : ops[j]? = some o) (hf : ∀ d, o.dst = some d → freeOf F d) : ∀ d, o.dst = some d → d < n ∧ freeOf F d ∧ ∀ q ∈ fgof ops F o, q.1 ≠ d := by
  intro d hd
  refine ⟨st.dst_lt j o d hj hd, hf d hd, fgof_free (fun k => ?_) (hf d hd)⟩
  unfold guardSlot at k
  split at k
  · rename_i g b hg
    obtain ⟨hb, og, s, hog, hs⟩ := st.guard j o g b hj hg
    rw [hog] at k
    simp only [hs, Option.toList, List.mem_singleton] at k
    subst k
    exact st.dist j g o og d hj hog (st.bound j g o og hj hog hb).1 hs hd
  · cases k

theorem freeOf_put (st : Stat QF n ops B NT) {F : FEnv} {i j : Nat} {o p : Oper} {v : Value} (hi : ops[i]? = some o) (hj : ops[j]? = some p) (hb : bit B i j = false) {d : Nat} (hd : p.dst = some d) (hf : freeOf F d) : freeOf (fput F o.dst (fgof ops F o) v) d := by
  have hgs : d ∉ guardSlot ops o := by
    intro k
    unfold guardSlot at k
    split at k
    · rename_i g b hg
      obtain ⟨hbg, og, s, hog, hs⟩ := st.guard i o g b hi hg
      rw [hog] at k
      simp only [hs, Option.toList, List.mem_singleton] at k
      subst k
      have hne : g ≠ j := fun e => by rw [e, hb] at hbg; cases hbg
      rcases Nat.lt_or_gt_of_ne hne with h | h
      · exact st.dist j g p og d hj hog h hs hd
      · exact st.dist g j og p d hog hj h hd hs
    · cases k
  intro t gs x hx q hq
  cases hdo : o.dst with
  | none => rw [hdo] at hx; exact hf t gs x hx q hq
  | some e =>
    rw [hdo] at hx
    simp only [fput] at hx
    split at hx
    · cases hx; exact fgof_free hgs hf q hq
    · exact hf t gs x hx q hq

theorem RInv.float (st : Stat QF n ops B NT) {i : Nat} {o : Oper} {R : List (Nat × Oper)} {F : FEnv} {Ls : List (List Item)} {c : Value} (h : RInv QF n ops B Lb ok w0 ((i, o) :: R) F Ls) (he : isEvent QF o = false) : RInv QF n ops B Lb ok w0 R (fput F o.dst (fgof ops F o) c) Ls := by
  have hi := h.mem (i, o) (by simp)
  have hs := List.pairwise_cons.1 h.compat
  refine ⟨fun q hq => h.mem q (List.mem_cons_of_mem _ hq), hs.2, fun q hq d hd => ?_, ?_, h.world, ?_, h.chain⟩
  · have hq' := h.mem q (List.mem_cons_of_mem _ hq)
    exact freeOf_put st hi hq' (hs.1 q hq) hd (h.free q (List.mem_cons_of_mem _ hq) d hd)
  · obtain ⟨a, ha⟩ := h.act
    obtain ⟨u, hu⟩ := pick_u a (fgof ops F o) c
    exact ⟨_, ha.put (own_gs st hi (h.free (i, o) (by simp))) hu⟩
  · obtain ⟨k, h1, h2⟩ := h.evs
    exact ⟨k, by rw [← h1, List.filter_cons]; simp [he], h2⟩

theorem RInv.rank_eq {i : Nat} {o : Oper} {R : List (Nat × Oper)} {F : FEnv} {Ls : List (List Item)} (h : RInv QF n ops B Lb ok w0 ((i, o) :: R) F Ls) (he : isEvent QF o = true) : Ls.length = rank QF ops i + 1 := by
  obtain ⟨k, h1, h2⟩ := h.evs
  have hi := h.mem (i, o) (by simp)
  rw [List.filter_cons] at h1
  simp only [he, if_true, List.map_cons] at h1
  have hk : (evList QF ops)[k]? = some i := by
    have : ((evList QF ops).drop k)[0]? = some i := by rw [← h1]; rfl
    rw [List.getElem?_drop] at this; simpa using this
  have := evList_inj hk (evList_rank hi he)
  omega

theorem RInv.event (st : Stat QF n ops B NT) {i : Nat} {o : Oper} {R : List (Nat × Oper)} {F : FEnv} {Ls : List (List Item)} {v : Value} {L L' : List Item} (h : RInv QF n ops B Lb ok w0 ((i, o) :: R) F Ls) (he : isEvent QF o = true) (hL : Ls.getLast? = some L) (hsub : isHard o = false → L.Sublist L') (hbs : Lb.Sublist L') (hw : ∃ w, Own ok w0 w L') : RInv QF n ops B Lb ok w0 R (fput F o.dst (fgof ops F o) v) (Ls ++ [L']) := by
  have hi := h.mem (i, o) (by simp)
  have hs := List.pairwise_cons.1 h.compat
  have hrk := h.rank_eq he
  refine ⟨fun q hq => h.mem q (List.mem_cons_of_mem _ hq), hs.2, fun q hq d hd => ?_, ?_, ⟨L', by simp, hbs, hw⟩, ?_, fun r A C hA hC hh => ?_⟩
  · have hq' := h.mem q (List.mem_cons_of_mem _ hq)
    exact freeOf_put st hi hq' (hs.1 q hq) hd (h.free q (List.mem_cons_of_mem _ hq) d hd)
  · obtain ⟨a, ha⟩ := h.act
    obtain ⟨u, hu⟩ := pick_u a (fgof ops F o) v
    exact ⟨_, ha.put (own_gs st hi (h.free (i, o) (by simp))) hu⟩
  · obtain ⟨k, h1, h2⟩ := h.evs
    refine ⟨k + 1, ?_, by simp [h2]⟩
    rw [List.filter_cons] at h1
    simp only [he, if_true, List.map_cons] at h1
    rw [← List.drop_drop, ← h1]; rfl
  · by_cases hr : r + 1 < Ls.length
    · rw [List.getElem?_append_left hr] at hC
      rw [List.getElem?_append_left (by omega)] at hA
      exact h.chain r A C hA hC hh
    · have hlt : r + 1 < (Ls ++ [L']).length := (List.getElem?_eq_some_iff.1 hC).1
      simp only [List.length_append, List.length_cons, List.length_nil] at hlt
      have e : r + 1 = Ls.length := by omega
      rw [e, List.getElem?_append_right (Nat.le_refl _)] at hC
      simp only [Nat.sub_self, List.getElem?_cons_zero, Option.some.injEq] at hC
      subst hC
      rw [List.getElem?_append_left (by omega)] at hA
      have hA' : A = L := by
        rw [List.getLast?_eq_getElem?] at hL
        have : Ls.length - 1 = r := by omega
        rw [this, hA] at hL; exact Option.some.inj hL
      subst hA'
      refine hsub (hh i o ?_ hi)
      have : r = rank QF ops i := by omega
      rw [this]; exact evList_rank hi he

/-- What holds now holds as it was said before what has come since, if that only added. -/
theorem RInv.class_of {R : List (Nat × Oper)} {F : FEnv} {Ls : List (List Item)} (h : RInv QF n ops B Lb ok w0 R F Ls) {w : World} {L : List Item} (hL : Ls.getLast? = some L) (hw : Own ok w0 w L) (r : Nat) (hr : r < Ls.length)
    (hh : ∀ r' m o, r ≤ r' → r' + 1 < Ls.length → (evList QF ops)[r']? = some m → ops[m]? = some o → isHard o = false) : ∃ L', Ls[r]? = some L' ∧ Own ok w0 w L' := by
  obtain ⟨d, hd⟩ : ∃ d, r + d + 1 = Ls.length := ⟨Ls.length - 1 - r, by omega⟩
  induction d generalizing r with
  | zero =>
    refine ⟨L, ?_, hw⟩
    rw [List.getLast?_eq_getElem?] at hL
    have : Ls.length - 1 = r := by omega
    rwa [this] at hL
  | succ d ih =>
    obtain ⟨L', h1, h2⟩ := ih (r + 1) (by omega) (fun r' m o hr' => hh r' m o (by omega)) (by omega)
    have hA := List.getElem?_eq_getElem hr
    exact ⟨Ls[r], hA, h2.less (h.chain r _ _ hA h1 (fun m o hm ho => hh r m o (Nat.le_refl _) (by omega) hm ho))⟩

theorem lexC_sim (st : Stat QF n ops B NT) (hKF : ∀ F1 F2 w, Sim n F1 F2 → KF F1 w → KF F2 w) : ∀ (R : List (Nat × Oper)) {F1 F2 : FEnv} {Ls : List (List Item)}, RInv QF n ops B Lb ok w0 R F1 Ls → Sim n F1 F2 → lexC P QF QV n ops NT Lb ok w0 KF R F1 Ls → lexC P QF QV n ops NT Lb ok w0 KF R F2 Ls := by
  intro R
  induction R with
  | nil => intro F1 F2 Ls _ hS h L hL w hw; exact hKF F1 F2 w hS (h L hL w hw)
  | cons q R ih =>
    obtain ⟨i, o⟩ := q
    intro F1 F2 Ls inv hS h
    have hi := inv.mem (i, o) (by simp)
    have hfo := own_gs st hi (inv.free (i, o) (by simp))
    have hg : fgof ops F2 o = fgof ops F1 o := hS.gof o
    simp only [lexC] at h ⊢
    cases he : isEvent QF o with
    | false =>
      rw [he] at h
      obtain ⟨c, hq, h1, h2, h3, h4⟩ := h
      refine ⟨c, hq, h1, fun a hf hh w hw => h2 a ((hS.fits a).2 hf) (by rw [hg] at hh; exact hh) w hw, ?_, ?_⟩
      · unfold detAt at h3 ⊢
        rw [hg]
        exact h3.imp (fun k a hf => k a ((hS.fits a).2 hf)) (fun k a hf => k a ((hS.fits a).2 hf))
      · rw [hg]; exact ih (inv.float st he) (hS.put hfo) h4
    | true =>
      rw [he] at h
      obtain ⟨L, G, h1, h2, hbs, h3, h4⟩ := h
      refine ⟨L, G, h1, h2, hbs, fun a hf w hw => ?_, fun v L' hG hw => ?_⟩
      · rw [hg]; exact h3 a ((hS.fits a).2 hf) w hw
      · rw [hg]; exact ih (inv.event st he h1 (fun hh => h2 hh v L' hG) (hbs v L' hG hw) hw) (hS.put hfo) (h4 v L' hG hw)

theorem lexC_swap (st : Stat QF n ops B NT) (hKF : ∀ F1 F2 w, Sim n F1 F2 → KF F1 w → KF F2 w) {i j : Nat} {o p : Oper} {R : List (Nat × Oper)} {F : FEnv} {Ls : List (List Item)} (inv : RInv QF n ops B Lb ok w0 ((i, o) :: (j, p) :: R) F Ls) (hb : bit B j i = false) (hlt : i < j)
    (h : lexC P QF QV n ops NT Lb ok w0 KF ((i, o) :: (j, p) :: R) F Ls) : lexC P QF QV n ops NT Lb ok w0 KF ((j, p) :: (i, o) :: R) F Ls := by
  have hi := inv.mem (i, o) (by simp)
  have hj := inv.mem (j, p) (by simp)
  have hpair := st.pair j i p o hj hi hlt hb
  simp only [pairOk, Bool.and_eq_true] at hpair
  obtain ⟨⟨⟨⟨hap, hee⟩, hhr⟩, hhr'⟩, hef⟩ := hpair
  obtain ⟨ha1, ha2⟩ := apart_spec hap
  have hso := st.nosel i o hi
  have hsp := st.nosel j p hj
  have hlo : ∀ d, o.dst = some d → d ∉ looks ops p := fun d hd => (ha1 d hd).1
  have hlp : ∀ d, p.dst = some d → d ∉ looks ops o := fun d hd => ha2 d hd
  have hgo : ∀ d, o.dst = some d → d ∉ guardSlot ops p := fun d e k => hlo d e (List.mem_append_right _ k)
  have hgp : ∀ d, p.dst = some d → d ∉ guardSlot ops o := fun d e k => hlp d e (List.mem_append_right _ k)
  have hfo := own_gs st hi (inv.free (i, o) (by simp))
  have hfp := own_gs st hj (inv.free (j, p) (by simp))
  have hdne : ∀ x, o.dst = some x → p.dst ≠ some x := fun x hx => (ha1 x hx).2
  simp only [lexC] at h ⊢
  cases heo : isEvent QF o with
  | false =>
    rw [heo] at h
    obtain ⟨c, hcq, hc1, hc2, hcd, h⟩ := h
    cases hep : isEvent QF p with
    | false =>
      rw [hep] at h
      obtain ⟨c', hcq', hc1', hc2', hcd', h⟩ := h
      rw [fgof_put hgo] at h
      refine ⟨c', hcq', hc1', yields_back hsp hlo hfo hc2', det_back hgo hfo hcd', ?_⟩
      refine ⟨c, hcq, hc1, yields_on hso hlp (fun d hd => ⟨(hfp d hd).1, (hfp d hd).2.1⟩) hc2, det_on hgp (fun d hd => ⟨(hfp d hd).1, (hfp d hd).2.1⟩) hcd, ?_⟩
      rw [fgof_put hgp, fput_comm (fun x hx => fun k => hdne x k hx)]
      exact h
    | true =>
      rw [hep] at h
      obtain ⟨L, G, hL, hsub, hbs, hact, h⟩ := h
      refine ⟨L, G, hL, hsub, hbs, acts_back hsp hlo hfo hact, fun v L' hG hw => ?_⟩
      have h := h v L' hG hw
      rw [fgof_put hgo] at h
      refine ⟨c, hcq, fun hr => (hc1 hr).imp id fun this => by rw [List.length_append]; omega, ?_, det_on hgp (fun d hd => ⟨(hfp d hd).1, (hfp d hd).2.1⟩) hcd, ?_⟩
      · have hy := yields_on (gs := fgof ops F p) (v := v) hso hlp (fun d hd => ⟨(hfp d hd).1, (hfp d hd).2.1⟩) hc2
        intro a hf hh w hw'
        refine hy a hf hh w fun hr => ?_
        obtain ⟨L2, h1, h2⟩ := hw' hr
        refine ⟨L2, ?_, h2⟩
        rwa [lsAt_append (hc1 hr)] at h1
      · rw [fgof_put hgp, fput_comm (fun x hx => fun k => hdne x k hx)]
        exact h
  | true =>
    rw [heo] at h
    obtain ⟨L, G, hL, hsub, hbs, hact, h⟩ := h
    cases hep : isEvent QF p with
    | true => rw [heo, hep] at hee; simp at hee
    | false =>
      simp only [heo, Bool.not_true, Bool.false_or, Bool.or_eq_true, Bool.not_eq_true'] at hef
      have hrk := hef
      have hlen := inv.rank_eq heo
      have hNT : reads p = true → freeN NT j = true ∨ NT.getD j 0 < Ls.length := fun hr => by
        rcases hrk with k | k | k
        · rw [hr] at k; cases k
        · exact .inl k
        · have := Nat.le_of_ble_eq_true k; exact .inr (by omega)
      have hcl : ∀ L', reads p = true → lsAt NT Lb (Ls ++ [L']) j = lsAt NT Lb Ls j := fun L' hr => lsAt_append (hNT hr)
      -- one way that it may come out
      obtain ⟨a, ha⟩ := inv.act
      obtain ⟨L2, hL2, hbL, w, hw⟩ := inv.world
      rw [hL] at hL2; cases hL2
      have hex : ∃ v L', G v L' ∧ ∃ w', Own ok w0 w' L' := by
        by_cases hh : holds a (fgof ops F o)
        · obtain ⟨v, w', L', hG, ho⟩ := upon_ex ((hact a ha w hw).1 hh); exact ⟨v, L', hG, w', ho⟩
        · obtain ⟨v, L', hG, ho⟩ := (hact a ha w hw).2 hh; exact ⟨v, L', hG, w, ho⟩
      obtain ⟨v0, L0, hG0, hw0⟩ := hex
      have h0 := h v0 L0 hG0 hw0
      rw [hep] at h0
      obtain ⟨c, hcq, _, hc2, hcd0, _⟩ := h0
      have hdet : detAt n ops F p := det_back hgo hfo hcd0
      have hy0 : yieldsAt P QF n ops NT Lb ok w0 F (Ls ++ [L0]) j p c := yields_back hsp hlo hfo hc2
      have hy : yieldsAt P QF n ops NT Lb ok w0 F Ls j p c := by
        intro a hf hh w hw'
        refine hy0 a hf hh w fun hr => ?_
        obtain ⟨L2, h1, h2⟩ := hw' hr
        exact ⟨L2, by rw [hcl L0 hr]; exact h1, h2⟩
      refine ⟨c, hcq, hNT, hy, hdet, ?_⟩
      refine ⟨L, G, hL, hsub, hbs, ?_, fun v L' hG hw' => ?_⟩
      · intro a hf w hw
        obtain ⟨u, hf'⟩ := hf.unput (fun d hd => ⟨(hfp d hd).1, (hfp d hd).2.1⟩)
        have := hact (a.put p.dst u) hf' w hw
        have hiff : holds (a.put p.dst u) (fgof ops F o) ↔ holds a (fgof ops F o) := by
          cases hd : p.dst with
          | none => exact Iff.rfl
          | some d => exact holds_put' (fgof_free (hgp d hd) (hfp d hd).2.1)
        rw [hiff, exec_put hso a p.dst u hlp] at this
        rw [fgof_put hgp]
        exact this
      · have h1 := h v L' hG hw'
        rw [hep] at h1
        obtain ⟨c', hcq', hc1', hc2', hcd', h1⟩ := h1
        rcases hdet with hdet | hdet
        rotate_left
        · -- it is not carried out: no act tells the values apart
          rw [fgof_put hgo] at h1
          rw [fgof_put hgp, fput_comm (fun x hx => fun k => hdne x k hx)]
          have inve := inv.event (v := v) st heo hL (fun hh => hsub hh v L' hG) (hbs v L' hG hw') hw'
          have invf := inve.float (c := c') st hep
          rw [fgof_put hgo] at invf
          refine lexC_sim st hKF R invf ?_ h1
          cases hd : p.dst with
          | none => exact ⟨fun _ => rfl, fun _ _ hx => hx, fun _ => Iff.rfl⟩
          | some d =>
            obtain ⟨hdn, hdf, hdg⟩ := hfp d hd
            have hdf' : freeOf (fput F o.dst (fgof ops F o) v) d := inve.free (j, p) (by simp) d hd
            have hne : fgof ops F p ≠ [] := fun e => hdet a ha (by rw [e]; intro q hq; cases hq)
            have hnot : ∀ x a', FitsF n (fput (fput F o.dst (fgof ops F o) v) (some d) (fgof ops F p) x) a' → ¬ holds a' (fgof ops F p) := by
              intro x a' hf' hh
              obtain ⟨u, hu⟩ := hf'.unput (fun y hy => by cases hy; exact ⟨hdn, hdf'⟩)
              have hh1 : holds (a'.put (some d) u) (fgof ops F p) := (holds_put' hdg).2 hh
              obtain ⟨u2, hu2⟩ := hu.unput (fun y hy => ⟨(hfo y hy).1, (hfo y hy).2.1⟩)
              refine hdet _ hu2 ?_
              cases hod : o.dst with
              | none => exact hh1
              | some y => exact (holds_put' (fgof_free (hgo y hod) (hfo y hod).2.1)).2 hh1
            have hfit : ∀ x y a', FitsF n (fput (fput F o.dst (fgof ops F o) v) (some d) (fgof ops F p) x) a' → FitsF n (fput (fput F o.dst (fgof ops F o) v) (some d) (fgof ops F p) y) a' := by
              intro x y a' hf'
              have hno := hnot x a' hf'
              refine ⟨hf'.size, fun t gs z hz hh => ?_, fun t gs z hz hh => ?_⟩
              · by_cases e : t = d
                · simp only [fput] at hz; rw [if_pos e] at hz; cases hz; exact absurd hh hno
                · exact hf'.yes t gs z (by simp only [fput] at hz ⊢; rw [if_neg e] at hz ⊢; exact hz) hh
              · by_cases e : t = d
                · simp only [fput] at hz; rw [if_pos e] at hz; cases hz; exact hf'.no t _ x (by simp only [fput]; rw [if_pos e]) hh
                · exact hf'.no t gs z (by simp only [fput] at hz ⊢; rw [if_neg e] at hz ⊢; exact hz) hh
            refine ⟨fun t => ?_, fun t z hz => ?_, fun a' => ⟨hfit c' c a', hfit c c' a'⟩⟩
            · simp only [fput]; split <;> rfl
            · simp only [fput] at hz ⊢
              split
              · rename_i e; rw [if_pos e] at hz; injection hz with hz; exact absurd (congrArg Prod.fst hz) hne
              · rename_i e; rw [if_neg e] at hz; exact hz
        -- the same value
        have hy' : yieldsAt P QF n ops NT Lb ok w0 F (Ls ++ [L']) j p c' := yields_back hsp hlo hfo hc2'
        have hsame : c' = c := by
          -- a world of the class that is asked for
          have hcond : ∃ w, reads p = true → ∃ L2, lsAt NT Lb Ls j = some L2 ∧ Own ok w0 w L2 := by
            unfold lsAt
            cases hfr : freeN NT j with
            | true => exact ⟨w, fun _ => ⟨Lb, rfl, hw.less hbL⟩⟩
            | false =>
              refine ⟨w, fun hr => inv.class_of hL hw (NT.getD j 0) ((hNT hr).resolve_left (by rw [hfr]; simp)) fun r' m om hr' hlt' hm hom => ?_⟩
              cases hhard : isHard om with
              | false => rfl
              | true =>
                obtain ⟨om', hom', hev⟩ := evList_mem (List.mem_of_getElem? hm)
                rw [hom] at hom'; cases hom'
                have hrm := evList_inj hm (evList_rank hom hev)
                have hri := evList_rank hi heo
                have hmi : m < i := by
                  obtain ⟨g1, g2⟩ := List.getElem?_eq_some_iff.1 hm
                  obtain ⟨g3, g4⟩ := List.getElem?_eq_some_iff.1 hri
                  have := List.pairwise_iff_getElem.1 (evList_sorted (QF := QF) (ops := ops)) r' (rank QF ops i) g1 g3 (by omega)
                  rw [g2, g4] at this; exact this
                have := (st.hard j m p om hj hom (by omega) hhard hev hr).resolve_left (by rw [hfr]; simp)
                omega
          obtain ⟨w, hw2⟩ := hcond
          have e1 := hy a ha (hdet a ha) w hw2
          have e2 := hy' a ha (hdet a ha) w (fun hr => by
            obtain ⟨L2, h1, h2⟩ := hw2 hr
            exact ⟨L2, by rw [hcl L' hr]; exact h1, h2⟩)
          cases hqp : quiet QF p with
          | true => rw [hcq hqp, hcq' hqp]
          | false =>
            rw [hqp] at e1 e2
            simp only at e1 e2
            rw [e1] at e2; cases e2; rfl
        subst hsame
        rw [fgof_put hgo] at h1
        rw [fgof_put hgp, fput_comm (fun x hx => fun k => hdne x k hx)]
        exact h1

/-- What may come up now may come first. -/
theorem RInv.perm (st : Stat QF n ops B NT) {i j : Nat} {o p : Oper} {r0 r1 : List (Nat × Oper)} {F : FEnv} {Ls : List (List Item)} (h : RInv QF n ops B Lb ok w0 ((i, o) :: r0 ++ (j, p) :: r1) F Ls) (hb : ∀ q ∈ r0, bit B j q.1 = false)
    (he : isEvent QF p = true → ∀ q ∈ r0, isEvent QF q.2 = false) : RInv QF n ops B Lb ok w0 ((i, o) :: (j, p) :: (r0 ++ r1)) F Ls := by
  have hm : ∀ q, q ∈ (i, o) :: (j, p) :: (r0 ++ r1) → q ∈ (i, o) :: r0 ++ (j, p) :: r1 := by
    intro q hq
    simp only [List.cons_append, List.mem_cons, List.mem_append] at hq ⊢
    rcases hq with k | k | k | k
    · exact .inl k
    · exact .inr (.inr (.inl k))
    · exact .inr (.inl k)
    · exact .inr (.inr (.inr k))
  have hc := h.compat
  rw [List.cons_append, List.pairwise_cons, List.pairwise_append, List.pairwise_cons] at hc
  obtain ⟨c1, c2, ⟨c3, c4⟩, c5⟩ := hc
  refine ⟨fun q hq => h.mem q (hm q hq), ?_, fun q hq => h.free q (hm q hq), h.act, h.world, ?_, h.chain⟩
  · rw [List.pairwise_cons, List.pairwise_cons, List.pairwise_append]
    refine ⟨fun q hq => c1 q ?_, fun q hq => ?_, c2, c4, fun x hx y hy => c5 x hx y (List.mem_cons_of_mem _ hy)⟩
    · simp only [List.mem_cons, List.mem_append] at hq ⊢
      rcases hq with k | k | k
      · exact .inr (.inl k)
      · exact .inl k
      · exact .inr (.inr k)
    · rcases List.mem_append.1 hq with k | k
      · exact hb q k
      · exact c3 q k
  · obtain ⟨k, h1, h2⟩ := h.evs
    refine ⟨k, ?_, h2⟩
    rw [← h1]
    congr 1
    simp only [List.cons_append, List.filter_cons, List.filter_append]
    cases hep : isEvent QF p with
    | false => simp
    | true =>
      have : r0.filter (fun q => isEvent QF q.2) = [] := List.filter_eq_nil_iff.2 fun q hq => by rw [he hep q hq]; simp
      rw [this]; simp

theorem lexC_front (st : Stat QF n ops B NT) (hKF : ∀ F1 F2 w, Sim n F1 F2 → KF F1 w → KF F2 w) {j : Nat} {p : Oper} {r1 : List (Nat × Oper)} : ∀ (r0 : List (Nat × Oper)) {F : FEnv} {Ls : List (List Item)}, RInv QF n ops B Lb ok w0 (r0 ++ (j, p) :: r1) F Ls → (∀ q ∈ r0, bit B j q.1 = false) → (∀ q ∈ r0, q.1 < j) → (isEvent QF p = true → ∀ q ∈ r0, isEvent QF q.2 = false) →
    lexC P QF QV n ops NT Lb ok w0 KF (r0 ++ (j, p) :: r1) F Ls → lexC P QF QV n ops NT Lb ok w0 KF ((j, p) :: (r0 ++ r1)) F Ls := by
  intro r0
  induction r0 with
  | nil => intro F Ls _ _ _ _ h; exact h
  | cons q r0 ih =>
    obtain ⟨i, o⟩ := q
    intro F Ls inv hb hlt hev h
    have hb' : ∀ q ∈ r0, bit B j q.1 = false := fun q hq => hb q (List.mem_cons_of_mem _ hq)
    have hlt' : ∀ q ∈ r0, q.1 < j := fun q hq => hlt q (List.mem_cons_of_mem _ hq)
    have hev' : isEvent QF p = true → ∀ q ∈ r0, isEvent QF q.2 = false := fun e q hq => hev e q (List.mem_cons_of_mem _ hq)
    have h1 : lexC P QF QV n ops NT Lb ok w0 KF ((i, o) :: (j, p) :: (r0 ++ r1)) F Ls := by
      simp only [List.cons_append, lexC] at h
      rw [lexC]
      cases he : isEvent QF o with
      | false =>
        rw [he] at h
        obtain ⟨c, hq, h1, h2, hd, h3⟩ := h
        exact ⟨c, hq, h1, h2, hd, ih (inv.float st he) hb' hlt' hev' h3⟩
      | true =>
        rw [he] at h
        obtain ⟨L, G, h1, h2, hbs, h3, h4⟩ := h
        exact ⟨L, G, h1, h2, hbs, h3, fun v L' hG hw => ih (inv.event st he h1 (fun hh => h2 hh v L' hG) (hbs v L' hG hw) hw) hb' hlt' hev' (h4 v L' hG hw)⟩
    exact lexC_swap st hKF (inv.perm st hb' hev') (hb (i, o) (by simp)) (hlt (i, o) (by simp)) h1

/-! ### Whatever order is picked -/
def rem (ops : List Oper) (listed : Array Bool) : List (Nat × Oper) := (ops.zipIdx.map fun q => (q.2, q.1)).filter fun q => !listed.getD q.1 true

theorem mem_rem {listed : Array Bool} {q : Nat × Oper} : q ∈ rem ops listed ↔ ops[q.1]? = some q.2 ∧ listed.getD q.1 true = false := by
  unfold rem
  rw [List.mem_filter, List.mem_map]
  simp only [Bool.not_eq_true']
  constructor
  · rintro ⟨⟨x, hx, rfl⟩, h⟩
    exact ⟨by have := List.mem_zipIdx_iff_getElem?.1 hx; simpa using this, h⟩
  · rintro ⟨h1, h2⟩
    exact ⟨⟨(q.2, q.1), List.mem_zipIdx_iff_getElem?.2 (by simpa using h1), rfl⟩, h2⟩

theorem rem_sorted {listed : Array Bool} : (rem ops listed).Pairwise (fun x y => x.1 < y.1) := by
  unfold rem
  refine List.Pairwise.filter _ ?_
  rw [List.pairwise_map]
  have key : ∀ (l : List Oper) (k : Nat), (l.zipIdx k).Pairwise (fun x y => x.2 < y.2) := by
    intro l
    induction l with
    | nil => intro k; simp
    | cons a l ih =>
      intro k
      rw [List.zipIdx_cons, List.pairwise_cons]
      refine ⟨fun q hq => ?_, ih (k + 1)⟩
      have := List.mem_zipIdx hq
      simp only; omega
  exact key ops 0

theorem rem_split {listed : Array Bool} {j : Nat} {p : Oper} (hj : (j, p) ∈ rem ops listed) : ∃ r0 r1, rem ops listed = r0 ++ (j, p) :: r1 ∧ rem ops (listed.setIfInBounds j true) = r0 ++ r1 := by
  obtain ⟨r0, r1, h⟩ := List.append_of_mem hj
  refine ⟨r0, r1, h, ?_⟩
  have hsize : j < listed.size ∨ listed.size ≤ j := Nat.lt_or_ge _ _
  have hlj := (mem_rem.1 hj).2
  have hjs : j < listed.size := by
    rcases hsize with k | k
    · exact k
    · rw [Array.getD_eq_getD_getElem?, Array.getElem?_eq_none k] at hlj; simp at hlj
  have hget : ∀ x, (listed.setIfInBounds j true).getD x true = if x = j then true else listed.getD x true := by
    intro x
    by_cases e : x = j
    · subst e; rw [if_pos rfl]; simp [Array.getD_eq_getD_getElem?, hjs]
    · rw [if_neg e]; simp [Array.getD_eq_getD_getElem?, Array.getElem?_setIfInBounds_ne (Ne.symm e)]
  have h2 : rem ops (listed.setIfInBounds j true) = (rem ops listed).filter fun q => !(q.1 == j) := by
    unfold rem
    rw [List.filter_filter]
    congr 1
    funext q
    rw [hget]
    by_cases e : q.1 = j <;> simp [e]
  rw [h2, h, List.filter_append, List.filter_cons]
  have hs := rem_sorted (ops := ops) (listed := listed)
  rw [h, List.pairwise_append, List.pairwise_cons] at hs
  have e0 : r0.filter (fun q => !(q.1 == j)) = r0 := List.filter_eq_self.2 fun q hq => by
    have := hs.2.2 q hq (j, p) (by simp)
    have : ¬ q.1 = j := by simp only at this; omega
    simpa using this
  have e1 : r1.filter (fun q => !(q.1 == j)) = r1 := List.filter_eq_self.2 fun q hq => by
    have := hs.2.1.1 q hq
    have : ¬ q.1 = j := by simp only at this; omega
    simpa using this
  rw [e0, e1]; simp

theorem wanted_F (st : Stat QF n ops B NT) {F : FEnv} {a : Act} {j : Nat} {o : Oper} (hf : FitsF n F a) (hj : ops[j]? = some o) :
    (Region.wanted o (yielded ops.toArray a.tmps) = true ↔ holds a (fgof ops F o)) := by
  unfold fgof Region.wanted
  cases hg : o.guard with
  | none => exact ⟨fun _ p hp => (by cases hp), fun _ => rfl⟩
  | some gw =>
    obtain ⟨g, want⟩ := gw
    obtain ⟨_, og, s, hog, hd⟩ := st.guard j o g want hj hg
    simp only [hog, hd]
    have hsn : s < a.tmps.size := by rw [hf.size]; exact st.dst_lt g og s hog hd
    have hy : yielded ops.toArray a.tmps g = match a.tmps.getD s undef with | .bool b => some b | _ => none := by
      unfold yielded
      simp only [List.getElem?_toArray, hog, Option.bind_some, hd]
      rw [Array.getElem?_eq_getElem hsn]
      have : a.tmps.getD s undef = a.tmps[s] := by simp [Array.getD, hsn]
      rw [this]
      cases a.tmps[s] <;> rfl
    have key : (yielded ops.toArray a.tmps g == some want) = true ↔ a.tmps.getD s undef = .bool want := by
      rw [hy]
      cases hv : a.tmps.getD s undef <;> simp
    rw [key]
    cases hF : F s with
    | none => exact ⟨fun hb p hp => (by rw [List.mem_singleton] at hp; subst hp; exact hb), fun hh => hh (s, want) (by simp)⟩
    | some gv =>
      obtain ⟨gs, v⟩ := gv
      simp only
      constructor
      · intro hb p hp
        rcases List.mem_cons.1 hp with k | k
        · subst k; exact hb
        · by_cases hh : holds a gs
          · exact hh p k
          · have := hf.no s gs v hF hh
            rw [this] at hb; simp [undef] at hb
      · intro hh; exact hh (s, want) (by simp)

theorem RInv.perm0 {j : Nat} {p : Oper} {r0 r1 : List (Nat × Oper)} {F : FEnv} {Ls : List (List Item)} (h : RInv QF n ops B Lb ok w0 (r0 ++ (j, p) :: r1) F Ls) (hb : ∀ q ∈ r0, bit B j q.1 = false)
    (he : isEvent QF p = true → ∀ q ∈ r0, isEvent QF q.2 = false) : RInv QF n ops B Lb ok w0 ((j, p) :: (r0 ++ r1)) F Ls := by
  have hm : ∀ q, q ∈ (j, p) :: (r0 ++ r1) → q ∈ r0 ++ (j, p) :: r1 := by
    intro q hq
    simp only [List.mem_cons, List.mem_append] at hq ⊢
    rcases hq with k | k | k
    · exact .inr (.inl k)
    · exact .inl k
    · exact .inr (.inr k)
  have hc := h.compat
  rw [List.pairwise_append, List.pairwise_cons] at hc
  obtain ⟨c2, ⟨c3, c4⟩, c5⟩ := hc
  refine ⟨fun q hq => h.mem q (hm q hq), ?_, fun q hq => h.free q (hm q hq), h.act, h.world, ?_, h.chain⟩
  · rw [List.pairwise_cons, List.pairwise_append]
    refine ⟨fun q hq => ?_, c2, c4, fun x hx y hy => c5 x hx y (List.mem_cons_of_mem _ hy)⟩
    rcases List.mem_append.1 hq with k | k
    · exact hb q k
    · exact c3 q k
  · obtain ⟨k, h1, h2⟩ := h.evs
    refine ⟨k, ?_, h2⟩
    rw [← h1]
    congr 1
    simp only [List.filter_cons, List.filter_append]
    cases hep : isEvent QF p with
    | false => simp
    | true =>
      have : r0.filter (fun q => isEvent QF q.2) = [] := List.filter_eq_nil_iff.2 fun q hq => by rw [he hep q hq]; simp
      rw [this]; simp

theorem getD_tf {listed : Array Bool} {i : Nat} (h : i < listed.size) : listed.getD i true = listed.getD i false := by
  simp [Array.getD_eq_getD_getElem?, h]
theorem getD_set {listed : Array Bool} {j x : Nat} (h : j < listed.size) (b : Bool) : (listed.setIfInBounds j true).getD x b = if x = j then true else listed.getD x b := by
  by_cases e : x = j
  · subst e; rw [if_pos rfl]; simp [Array.getD_eq_getD_getElem?, h]
  · rw [if_neg e]; simp [Array.getD_eq_getD_getElem?, Array.getElem?_setIfInBounds_ne (Ne.symm e)]

theorem draw_any {ro : Option Nat} (st : Stat QF n ops B NT) (hKF : ∀ F1 F2 w, Sim n F1 F2 → KF F1 w → KF F2 w) {Q : Exit → Act → World → Prop} {ds : List Nat} (hQ : ∀ F a w, FitsF n F a → a.defers = marks ds → KF F w → Q .normal a w) :
    ∀ (fuel : Nat) (listed : Array Bool) (a : Act) (w : World) (F : FEnv) (Ls : List (List Item)), listed.size = ops.length → RInv QF n ops B Lb ok w0 (rem ops listed) F Ls → FitsF n F a → a.defers = marks ds → (∃ L, Ls.getLast? = some L ∧ Lb.Sublist L ∧ Own ok w0 w L) →
      (∀ (m i : Nat) (om oi : Oper), ops[m]? = some om → ops[i]? = some oi → bit B m i = true → listed.getD m true = true → listed.getD i true = true) →
      (rem ops listed).length ≤ fuel → lexC P QF QV n ops NT Lb ok w0 KF (rem ops listed) F Ls → wpAnyIn (Fw ro) 0 P .any ops.toArray Q fuel listed a w := by
  intro fuel
  have hend : ∀ (listed : Array Bool) (a : Act) (w : World) (F : FEnv) (Ls : List (List Item)), listed.size = ops.length → FitsF n F a → a.defers = marks ds → (∃ L, Ls.getLast? = some L ∧ Own ok w0 w L) →
      lexC P QF QV n ops NT Lb ok w0 KF (rem ops listed) F Ls → Region.ready .any ops.toArray listed = [] → Q .normal a w := by
    intro listed a w F Ls hsz hf hdf hw h hr
    have hnil : rem ops listed = [] := by
      cases hrem : rem ops listed with
      | nil => rfl
      | cons q R =>
        exfalso
        obtain ⟨j, p⟩ := q
        have hjm : (j, p) ∈ rem ops listed := by rw [hrem]; simp
        obtain ⟨hj, hjl⟩ := mem_rem.1 hjm
        have hsorted := rem_sorted (ops := ops) (listed := listed)
        rw [hrem, List.pairwise_cons] at hsorted
        have : j ∈ Region.ready .any ops.toArray listed := by
          rw [mem_ready]
          refine ⟨hjl, p, by simpa using hj, fun e he hb => ?_⟩
          have hlt := st.edge_lt j p hj e he hb
          have hlen : e.on < ops.length := Nat.lt_trans hlt (List.getElem?_eq_some_iff.1 hj).1
          rw [← getD_tf (by omega)]
          cases hl : listed.getD e.on true with
          | true => rfl
          | false =>
            exfalso
            have hm : (e.on, ops[e.on]) ∈ rem ops listed := mem_rem.2 ⟨List.getElem?_eq_getElem hlen, hl⟩
            rw [hrem] at hm
            rcases List.mem_cons.1 hm with k | k
            · have := congrArg Prod.fst k; simp only at this; omega
            · have := hsorted.1 _ k; simp only at this; omega
        rw [hr] at this; cases this
    rw [hnil] at h
    obtain ⟨L, hL, ho⟩ := hw
    exact hQ F a w hf hdf (h L hL w ho)
  induction fuel with
  | zero =>
    intro listed a w F Ls hsz inv hf hdf hw hcl hlen h
    have hr : Region.ready .any ops.toArray listed = [] := by
      rw [List.eq_nil_iff_forall_not_mem]
      intro j hj
      obtain ⟨hl, p, hp, _⟩ := mem_ready.1 hj
      have hm : (j, p) ∈ rem ops listed := mem_rem.2 ⟨by simpa using hp, hl⟩
      have : (rem ops listed).length ≠ 0 := by
        intro e; rw [List.eq_nil_of_length_eq_zero e] at hm; cases hm
      omega
    exact ⟨hr, hend listed a w F Ls hsz hf hdf (by obtain ⟨L, h1, _, h2⟩ := hw; exact ⟨L, h1, h2⟩) h hr⟩
  | succ fuel ih =>
    intro listed a w F Ls hsz inv hf hdf hw hcl hlen h
    refine ⟨fun hr => hend listed a w F Ls hsz hf hdf (by obtain ⟨L, h1, _, h2⟩ := hw; exact ⟨L, h1, h2⟩) h hr, fun j hj => ?_⟩
    obtain ⟨hl, p, hp, hedges⟩ := mem_ready.1 hj
    have hp : ops[j]? = some p := by simpa using hp
    have hjlen : j < ops.length := (List.getElem?_eq_some_iff.1 hp).1
    have hm : (j, p) ∈ rem ops listed := mem_rem.2 ⟨hp, hl⟩
    obtain ⟨r0, r1, hs1, hs2⟩ := rem_split hm
    have hsorted := rem_sorted (ops := ops) (listed := listed)
    rw [hs1, List.pairwise_append] at hsorted
    rw [hs1] at inv h hlen
    -- what must come ahead of it has come
    have hahead : ∀ (i : Nat) (oi : Oper), ops[i]? = some oi → bit B j i = true → listed.getD i true = true := by
      intro i oi hoi hb
      obtain ⟨_, ⟨e, he, hbe, h4⟩, _⟩ := st.bound j i p oi hp hoi hb
      have hlt := st.edge_lt j p hp e he hbe
      have hel := hedges e he hbe
      rw [← getD_tf (by omega)] at hel
      rcases h4 with k | k
      · rw [← k]; exact hel
      · exact hcl e.on i _ oi (List.getElem?_eq_getElem (by omega)) hoi k hel
    have hb0 : ∀ q ∈ r0, bit B j q.1 = false := by
      intro q hq
      have hqm : q ∈ rem ops listed := by rw [hs1]; exact List.mem_append_left _ hq
      obtain ⟨h1, h2⟩ := mem_rem.1 hqm
      cases hb : bit B j q.1 with
      | false => rfl
      | true => rw [hahead q.1 q.2 h1 hb] at h2; cases h2
    have hlt0 : ∀ q ∈ r0, q.1 < j := fun q hq => hsorted.2.2 q hq (j, p) (by simp)
    have hev0 : isEvent QF p = true → ∀ q ∈ r0, isEvent QF q.2 = false := by
      intro he q hq
      have hqm : q ∈ rem ops listed := by rw [hs1]; exact List.mem_append_left _ hq
      cases hqe : isEvent QF q.2 with
      | false => rfl
      | true =>
        have := st.pair j q.1 p q.2 hp (mem_rem.1 hqm).1 (hlt0 q hq) (hb0 q hq)
        simp only [pairOk, Bool.and_eq_true] at this
        have := this.1.1.1.2
        rw [hqe, he] at this; simp at this
    have h' := lexC_front st hKF r0 inv hb0 hlt0 hev0 h
    have inv' := inv.perm0 hb0 hev0
    have hjs : j < listed.size := by omega
    have hsz' : (listed.setIfInBounds j true).size = ops.length := by simpa using hsz
    have hcl' : ∀ (m i : Nat) (om oi : Oper), ops[m]? = some om → ops[i]? = some oi → bit B m i = true → (listed.setIfInBounds j true).getD m true = true → (listed.setIfInBounds j true).getD i true = true := by
      intro m i om oi hom hoi hb hlm
      rw [getD_set hjs] at hlm ⊢
      by_cases ei : i = j
      · rw [if_pos ei]
      · rw [if_neg ei]
        by_cases em : m = j
        · subst em; exact hahead i oi hoi hb
        · rw [if_neg em] at hlm; exact hcl m i om oi hom hoi hb hlm
    have hlen' : (r0 ++ r1).length ≤ fuel := by simp only [List.length_append, List.length_cons] at hlen ⊢; omega
    have hnd := st.nodef j p hp
    have hwt := wanted_F st hf hp
    have hgs := own_gs st hp (inv'.free (j, p) (by simp))
    unfold wpOpIn
    have hp' : ops.toArray[j]? = some p := by simpa using hp
    simp only [hp']
    rw [lexC] at h'
    cases hep : isEvent QF p with
    | false =>
      rw [hep] at h'
      obtain ⟨c, _, hc1, hc2, _, h'⟩ := h'
      have next : ∀ u w', Bel w.heap.size w w' → ((holds a (fgof ops F p) → u = c) ∧ (¬ holds a (fgof ops F p) → u = undef)) → wpAnyIn (Fw ro) 0 P .any ops.toArray Q fuel (listed.setIfInBounds j true) (a.put p.dst u) w' := by
        intro u w' hbel hu
        refine ih _ _ w' _ Ls hsz' ?_ (hf.put hgs hu) (by rw [put_defers]; exact hdf) (by obtain ⟨L, hL, hbL, ho⟩ := hw; exact ⟨L, hL, hbL, ho.call hbel⟩) hcl' ?_ ?_
        · rw [hs2]; exact inv'.float st hep
        · rw [hs2]; exact hlen'
        · rw [hs2]; exact h'
      split
      · rename_i hwanted
        have hh := hwt.1 hwanted
        have hrun := hc2 a hf hh w fun hr => by
          obtain ⟨L, hL, hbL, ho⟩ := hw
          unfold lsAt
          cases hfr : freeN NT j with
          | true => exact ⟨Lb, rfl, ho.less hbL⟩
          | false =>
            refine inv'.class_of hL ho _ ((hc1 hr).resolve_left (by rw [hfr]; simp)) fun r' m om hr' hlt' hm' hom => ?_
            cases hhard : isHard om with
            | false => rfl
            | true =>
              exfalso
              obtain ⟨om', hom', hev⟩ := evList_mem (List.mem_of_getElem? hm')
              rw [hom] at hom'; cases hom'
              have hrm := evList_inj hm' (evList_rank hom hev)
              have hlm : listed.getD m true = true := by
                cases hx : listed.getD m true with
                | true => rfl
                | false =>
                  exfalso
                  obtain ⟨k, h1, h2⟩ := inv'.evs
                  have hmm : (m, om) ∈ rem ops listed := mem_rem.2 ⟨hom, hx⟩
                  have hmm2 : (m, om) ∈ (j, p) :: (r0 ++ r1) := by
                    rw [hs1] at hmm
                    simp only [List.mem_cons, List.mem_append] at hmm ⊢
                    rcases hmm with k | k | k
                    · exact .inr (.inl k)
                    · exact .inl k
                    · exact .inr (.inr k)
                  have : m ∈ (evList QF ops).drop k := by
                    rw [← h1]
                    exact List.mem_map.2 ⟨(m, om), List.mem_filter.2 ⟨hmm2, hev⟩, rfl⟩
                  obtain ⟨x, hx2⟩ := List.mem_iff_getElem?.1 this
                  rw [List.getElem?_drop] at hx2
                  have := evList_inj hm' hx2
                  omega
              rcases Nat.lt_trichotomy m j with hlt | heq | hgt
              · have := (st.hard j m p om hp hom hlt hhard hev hr).resolve_left (by rw [hfr]; simp)
                omega
              · subst heq; rw [hp] at hom; cases hom; rw [hep] at hev; cases hev
              · have hbm : bit B m j = true := by
                  cases hb : bit B m j with
                  | true => rfl
                  | false =>
                    have := st.pair m j om p hom hp hgt hb
                    simp only [pairOk, Bool.and_eq_true] at this
                    have := this.1.2
                    rw [hhard, hev, hr] at this; simp at this; rw [hfr] at this; cases this
                have := hcl m j om p hom hp hbm hlm
                rw [hl] at this; cases this
        unfold Oper.wpIn
        refine ⟨fun _ _ => trivial, ?_⟩
        rw [Oper.semAt_eq _ _ _ hnd]
        cases hqp : quiet QF p with
        | false =>
          rw [hqp] at hrun
          simp only at hrun
          rw [hrun]
          exact next c w (Bel.refl _ _) ⟨fun _ => rfl, fun k => absurd hh k⟩
        | true =>
          rw [hqp] at hrun
          simp only at hrun
          refine upon_wp (upon_mono (fun v w' hv => ?_) hrun)
          obtain ⟨hv1, hv2⟩ := hv
          subst hv1
          exact next v w' hv2 ⟨fun _ => rfl, fun k => absurd hh k⟩
      · rename_i hwanted
        exact ⟨fun _ _ => trivial, next undef w (Bel.refl _ _) ⟨fun k => absurd (hwt.2 k) hwanted, fun _ => rfl⟩⟩
    | true =>
      rw [hep] at h'
      obtain ⟨L, G, hL, hsub, hbs, hact, h'⟩ := h'
      obtain ⟨L2, hL2, hbL, ho⟩ := hw
      rw [hL] at hL2; cases hL2
      have next : ∀ u v w' L', G v L' → Own ok w0 w' L' → ((holds a (fgof ops F p) → u = v) ∧ (¬ holds a (fgof ops F p) → u = undef)) → wpAnyIn (Fw ro) 0 P .any ops.toArray Q fuel (listed.setIfInBounds j true) (a.put p.dst u) w' := by
        intro u v w' L' hG ho' hu
        refine ih _ _ w' _ (Ls ++ [L']) hsz' ?_ (hf.put hgs hu) (by rw [put_defers]; exact hdf) ⟨L', by simp, hbs v L' hG ⟨w', ho'⟩, ho'⟩ hcl' ?_ ?_
        · rw [hs2]; exact inv'.event st hep hL (fun hh => hsub hh v L' hG) (hbs v L' hG ⟨w', ho'⟩) ⟨w', ho'⟩
        · rw [hs2]; exact hlen'
        · rw [hs2]; exact h' v L' hG ⟨w', ho'⟩
      split
      · rename_i hwanted
        have hh := hwt.1 hwanted
        unfold Oper.wpIn
        refine ⟨fun _ _ => trivial, ?_⟩
        rw [Oper.semAt_eq _ _ _ hnd]
        refine upon_wp (upon_mono (fun v w' hv => ?_) ((hact a hf w ho).1 hh))
        obtain ⟨L', hG, ho'⟩ := hv
        exact next v v w' L' hG ho' ⟨fun _ => rfl, fun k => absurd hh k⟩
      · rename_i hwanted
        have hh : ¬ holds a (fgof ops F p) := fun k => hwanted (hwt.2 k)
        obtain ⟨v, L', hG, ho'⟩ := (hact a hf w ho).2 hh
        exact ⟨fun _ _ => trivial, next undef v w L' hG ho' ⟨fun k => absurd k hh, fun _ => rfl⟩⟩
end

/-! ### As the walk wants it: lists -/
@[irreducible] def cFloat (P : Program) (g : Bool) (s : Sem Next) (C : World → Prop) (K : Value → Prop) : Prop := ∃ c, (g = true → ∀ w, C w → s.run P w = .ok (.value c) w) ∧ K c
@[irreducible] def cLoad (P : Program) (g : Bool) (t : TypeId) (a : Value) (C : World → Prop) (K : Value → Prop) : Prop := cFloat P g (sv (Instr.loadAt t a)) C K
@[irreducible] def cIndexAddr (P : Program) (g : Bool) (t : TypeId) (x i : Value) (C : World → Prop) (K : Value → Prop) : Prop := cFloat P g (sv (Instr.indexAt t x i)) C K
@[irreducible] def cIndex (P : Program) (g : Bool) (t : TypeId) (x i : Value) (C : World → Prop) (K : Value → Prop) : Prop := cFloat P g (sv (Instr.index t x i)) C K
@[irreducible] def cSlice (P : Program) (g : Bool) (t : TypeId) (x : Value) (lo hi mx : Option Value) (C : World → Prop) (K : Value → Prop) : Prop := cFloat P g (sv (Instr.sliceAt t x lo hi mx)) C K
@[irreducible] def cLookup (P : Program) (g : Bool) (t : TypeId) (x i : Value) (b : Bool) (C : World → Prop) (K : Value → Prop) : Prop := cFloat P g (sv (Instr.lookup t x i b)) C K
@[irreducible] def cBin (P : Program) (g : Bool) (op : BinOp) (t : TypeId) (xo yo : Operand) (x y : Value) (C : World → Prop) (K : Value → Prop) : Prop := cFloat P g (sv (do eqGuard op t xo yo x y; binOp op t x y)) C K
@[irreducible] def cConvert (P : Program) (g : Bool) (s d : TypeId) (x : Value) (C : World → Prop) (K : Value → Prop) : Prop := cFloat P g (sv (convert s d x)) C K
def cPure (P : Program) (g : Bool) (s : Sem Next) (C : World → Prop) (K : Value → Prop) : Prop := match pv P s with | some v => K v | none => cFloat P g s C K

/-- An effect: from the list L, with the value and the list that it leaves. -/
@[irreducible] def cEv (P : Program) (hard : Bool) (g : Bool) (s : Sem Next) (ok : Nat → Prop) (w0 : World) (L : List Item) (K : Value → List Item → Prop) : Prop :=
  ∃ G : Value → List Item → Prop, (hard = false → ∀ v L', G v L' → L.Sublist L') ∧ (∀ w, Own ok w0 w L → Steps1 P g s w fun v w' => ∃ L', G v L' ∧ Own ok w0 w' L') ∧ ∀ v L', G v L' → (∃ w, Own ok w0 w L') → K v L'
@[irreducible] def cQuiet (P : Program) (g : Bool) (f : FuncId) (args : List Value) (C : World → Prop) (qv : Value) (K : Prop) : Prop :=
  (g = true → ∀ w, C w → upon P (fun v w' => v = qv ∧ Bel w.heap.size w w') ((callFunc f args.toArray).run P w)) ∧ K
@[irreducible] def cAlloc (P : Program) (g : Bool) (t : TypeId) (ok : Nat → Prop) (w0 : World) (L : List Item) (K : Value → List Item → Prop) : Prop := cEv P false g (sv (Instr.alloc t true (.tuple #[]))) ok w0 L K
@[irreducible] def cBox (P : Program) (g : Bool) (t : TypeId) (x : Value) (ok : Nat → Prop) (w0 : World) (L : List Item) (K : Value → List Item → Prop) : Prop := cEv P false g (sv (Instr.box t x)) ok w0 L K
@[irreducible] def cCall (P : Program) (g : Bool) (f : FuncId) (args : List Value) (ok : Nat → Prop) (w0 : World) (L : List Item) (K : Value → List Item → Prop) : Prop := cEv P (hasF (default : Hard).l f) g (callFunc f args.toArray) ok w0 L K
@[irreducible] def cCallV (P : Program) (g : Bool) (f : Value) (args : List Value) (ok : Nat → Prop) (w0 : World) (L : List Item) (K : Value → List Item → Prop) : Prop := cEv P true g (do let d ← Deferred.ofValue f args.toArray; invoke d.target d.args) ok w0 L K
@[irreducible] def cBuildSlice (P : Program) (g : Bool) (t : TypeId) (len : Nat) (parts : List (Nat × Value)) (ok : Nat → Prop) (w0 : World) (L : List Item) (K : Value → List Item → Prop) : Prop := cEv P false g (sv (Instr.buildSlice t len parts.toArray)) ok w0 L K
@[irreducible] def cStore (P : Program) (g : Bool) (t : TypeId) (a x : Value) (ok : Nat → Prop) (w0 : World) (L : List Item) (K : Value → List Item → Prop) : Prop := cEv P true g (su (Instr.storeAt t a x)) ok w0 L K
@[irreducible] def cBuiltin (P : Program) (g : Bool) (b : Builtin) (ts : List TypeId) (t : TypeId) (args : List Value) (consts : Array Bool) (ok : Nat → Prop) (w0 : World) (L : List Item) (K : Value → List Item → Prop) : Prop := cEv P true g (builtin b ts.toArray t consts args.toArray) ok w0 L K
@[irreducible] def cMapUpdate (P : Program) (g : Bool) (t : TypeId) (m k x : Value) (ok : Nat → Prop) (w0 : World) (L : List Item) (K : Value → List Item → Prop) : Prop := cEv P true g (su (Instr.mapUpdate t m k x)) ok w0 L K

@[irreducible] def cMakeMap (P : Program) (g : Bool) (t : TypeId) (r : Option Value) (ok : Nat → Prop) (w0 : World) (L : List Item) (K : Value → List Item → Prop) : Prop := cEv P false g (sv (Instr.makeMap t r)) ok w0 L K

def stepC (P : Program) (QF : List FuncId) (qv : Value) (o : Oper) (ρ : Operand → Value) (g : Bool) (C : World → Prop) (ok : Nat → Prop) (w0 : World) (L : List Item) (KF : Value → Prop) (KE : Value → List Item → Prop) : Prop :=
  match o.op with
  | .move x | .assign x => KF (ρ x)
  | .load t a => cLoad P g t (ρ a) C KF
  | .indexAddr t x i => cIndexAddr P g t (ρ x) (ρ i) C KF
  | .index t x i => cIndex P g t (ρ x) (ρ i) C KF
  | .slice t x lo hi mx => cSlice P g t (ρ x) (lo.map ρ) (hi.map ρ) (mx.map ρ) C KF
  | .lookup t x i b => cLookup P g t (ρ x) (ρ i) b C KF
  | .convert s d x => match ρ x with
    | .int .. => cPure P g (execOp ρ o) C KF
    | _ => cConvert P g s d (ρ x) C KF
  | .binOp op t x y _ => match plainBin op (ρ x) (ρ y) with
    | true => cPure P g (execOp ρ o) C KF
    | false => cBin P g op t x y (ρ x) (ρ y) C KF
  | .build t parts => match buildV P t (mapP ρ parts.toList) with
    | some v => KF v
    | none => cFloat P g (execOp ρ o) C KF
  | .makeFunc fn first captured => KF (.func fn (mapL ρ first.toList).toArray (mapL ρ captured.toList).toArray)
  | .extract .. | .field .. | .fieldAddr .. | .unOp .. | .makeInterface .. | .nilCheck .. => cPure P g (execOp ρ o) C KF
  | .pick .. => False
  | .select .. => False
  | .call { callee := .builtin b, args, argTypes } => match b with
    | .len | .cap | .max | .min => match plainBuiltin b ((mapL ρ args.toList).headD undef) with
      | true => cPure P g (sv (builtinV b argTypes o.type (mapL ρ args.toList).toArray)) C KF
      | false => cFloat P g (execOp ρ o) C KF
    | _ => cBuiltin P g b argTypes.toList o.type (mapL ρ args.toList) (args.map fun | .const _ => true | _ => false) ok w0 L KE
  | .call { callee := .value (.func f), args, .. } => match hasF QF f with
    | true => cQuiet P g f (mapL ρ args.toList) C qv (KF qv)
    | false => cCall P g f (mapL ρ args.toList) ok w0 L KE
  | .call { callee := .value f, args, .. } => cCallV P g (ρ f) (mapL ρ args.toList) ok w0 L KE
  | .buildSlice t len parts => cBuildSlice P g t len (mapP ρ parts.toList) ok w0 L KE
  | .store t a x => cStore P g t (ρ a) (ρ x) ok w0 L KE
  | .mapUpdate t m k x | .insert t m k x => cMapUpdate P g t (ρ m) (ρ k) (ρ x) ok w0 L KE
  | .makeMap t r => cMakeMap P g t (r.map ρ) ok w0 L KE
  | .alloc t => cAlloc P g t ok w0 L KE
  | .box t x => cBox P g t (ρ x) ok w0 L KE
  | _ => cEv P (isHard o) g (execOp ρ o) ok w0 L KE

def lastL : List (List Item) → List Item
  | [] => []
  | [L] => L
  | _ :: r => lastL r
theorem lastL_last : ∀ {Ls : List (List Item)}, Ls ≠ [] → Ls.getLast? = some (lastL Ls) := by
  intro Ls
  induction Ls with
  | nil => intro h; exact absurd rfl h
  | cons L r ih =>
    intro _
    cases r with
    | nil => rfl
    | cons L2 r => rw [List.getLast?_cons_cons]; exact ih (by simp)
def nthL : List (List Item) → Nat → Option (List Item)
  | [], _ => none
  | L :: _, 0 => some L
  | _ :: r, k + 1 => nthL r k
theorem nthL_eq : ∀ {Ls : List (List Item)} {k : Nat}, nthL Ls k = Ls[k]? := by
  intro Ls
  induction Ls with
  | nil => intro k; cases k <;> rfl
  | cons L r ih => intro k; cases k with
    | zero => rfl
    | succ k => simp only [nthL]; rw [ih]; simp
def nthN : List Nat → Nat → Nat
  | [], _ => 0
  | x :: _, 0 => x
  | _ :: r, k + 1 => nthN r k
theorem nthN_eq : ∀ {l : List Nat} {k : Nat}, nthN l k = l.getD k 0 := by
  intro l
  induction l with
  | nil => intro k; cases k <;> rfl
  | cons x r ih => intro k; cases k with
    | zero => rfl
    | succ k => simp only [nthN]; rw [ih]; simp

/-- Behind an effect: what stands through the whole statement stands on. -/
def subLb (Lb L' : List Item) (X : Prop) : Prop := match Lb with | [] => X | _ :: _ => Lb.Sublist L' ∧ X
theorem subLb_out {Lb L' : List Item} {X : Prop} (h : subLb Lb L' X) : Lb.Sublist L' ∧ X := by
  cases Lb with
  | nil => exact ⟨List.nil_sublist _, h⟩
  | cons _ _ => exact h
def runC (P : Program) (QF : List FuncId) (QV : Nat → Value) (n : Nat) (ops : List Oper) (NT : List Nat) (Lb : List Item) (ok : Nat → Prop) (w0 : World) (K : Env → World → Prop) : Nat → List Oper → Env → GEnv → List (List Item) → Prop
  | _, [], e, ge, Ls => ∀ w, Own ok w0 w (lastL Ls) → K (endEnv ge e) w
  | i, o :: rest, e, ge, Ls =>
    match gof ops ge o with
    | none => False
    | some gs => match gknown e ge gs with
      | false => False
      | true => match o.op with
        | .pick c a b => match opnd e ge gs c, opnd e ge (pickGs gs c true) a, opnd e ge (pickGs gs c false) b with
          | some cv, some av, some bv => match pickV cv av bv with
            | some v => putIn n gs o.dst v e ge fun e' ge' => runC P QF QV n ops NT Lb ok w0 K (i + 1) rest e' ge' Ls
            | none => False
          | _, _, _ => False
        | .move x => match opnd e ge gs x with
          | some v => putIn n gs o.dst v e ge fun e' ge' => runC P QF QV n ops NT Lb ok w0 K (i + 1) rest e' ge' Ls
          | none => False
        | .assign x => match opnd e ge gs x with
          | some v => putIn n gs o.dst v e ge fun e' ge' => runC P QF QV n ops NT Lb ok w0 K (i + 1) rest e' ge' Ls
          | none => False
        | _ => match covers e ge gs o with
          | false => False
          | true => match (match reads o with | true => (match Nat.beq (nthN NT i) 1000 with | true => some Lb | false => nthL Ls (nthN NT i)) | false => some []) with
            | none => False
            | some Lc => stepC P QF (QV i) o (rho e ge gs) (gb e ge gs) (fun w => match reads o with | true => Own ok w0 w Lc | false => True) ok w0 (lastL Ls)
                (fun v => putIn n gs o.dst v e ge fun e' ge' => runC P QF QV n ops NT Lb ok w0 K (i + 1) rest e' ge' Ls)
                (fun v L' => subLb Lb L' (putIn n gs o.dst v e ge fun e' ge' => runC P QF QV n ops NT Lb ok w0 K (i + 1) rest e' ge' (Ls ++ [L'])))

def fenv (e : Env) (ge : GEnv) : FEnv := fun t => match look ge t with
  | some (gs, v) => some (gs, v)
  | none => match look e t with | some v => some ([], v) | none => none

theorem fenv_fits {n : Nat} {e : Env} {ge : GEnv} {a : Act} (h : FitsF n (fenv e ge) a) : FitsG n e ge a :=
  ⟨h.size, fun t v hg he => h.yes t [] v (by simp [fenv, hg, he]) (fun p hp => by cases hp), fun t gs v hg => h.yes t gs v (by simp [fenv, hg]), fun t gs v hg => h.no t gs v (by simp [fenv, hg])⟩
theorem fits_fenv {n : Nat} {ds : List Nat} {e : Env} {a : Act} (h : Fits n ds e a) : FitsF n (fenv e []) a := by
  refine ⟨h.size, fun t gs v hv hh => ?_, fun t gs v hv hh => ?_⟩
  · simp only [fenv, look] at hv
    split at hv
    · rename_i u hu; cases hv; exact h.at_ t v hu
    · cases hv
  · simp only [fenv, look] at hv
    split at hv
    · cases hv; exact absurd (fun p hp => by cases hp) hh
    · cases hv

theorem fgof_eq {ops : List Oper} {e : Env} {ge : GEnv} {o : Oper} {gs : Gs} (h : gof ops ge o = some gs) : fgof ops (fenv e ge) o = gs := by
  unfold gof at h
  unfold fgof
  cases hg : o.guard with
  | none => rw [hg] at h; cases h; rfl
  | some gw =>
    obtain ⟨j, want⟩ := gw
    rw [hg] at h
    simp only at h ⊢
    cases hj : ops[j]? with
    | none => rw [hj] at h; cases h
    | some oj =>
      rw [hj] at h
      simp only at h ⊢
      cases hd : oj.dst with
      | none => rw [hd] at h; cases h
      | some s =>
        rw [hd] at h
        simp only at h ⊢
        cases hl : look ge s with
        | some gv => obtain ⟨gs', v⟩ := gv; rw [hl] at h; cases h; simp [fenv, hl]
        | none =>
          rw [hl] at h; cases h
          cases he : look e s <;> simp [fenv, hl, he]

theorem putIn_f {n : Nat} {e : Env} {ge : GEnv} {gs : Gs} {dst : Option Tmp} {v : Value} {K : Env → GEnv → Prop} (hcl : closedG ge) (hch : chained ge gs) (h : putIn n gs dst v e ge K) :
    ∃ e' ge', fenv e' ge' = fput (fenv e ge) dst gs v ∧ closedG ge' ∧ K e' ge' := by
  unfold putIn at h
  split at h
  · exact ⟨e, ge, rfl, hcl, h⟩
  · rename_i d
    split at h
    · exact h.elim
    · rename_i hb
      simp only [Bool.and_eq_true, Bool.not_eq_true'] at hb
      obtain ⟨⟨h1, h2⟩, h3⟩ := hb
      split at h
      · refine ⟨_, _, ?_, hcl, h⟩
        funext t
        simp only [fenv, fput, look]
        have hkey : look ge d = none := by
          cases hl : look ge d with
          | none => rfl
          | some gv => obtain ⟨gs', v'⟩ := gv; exact absurd rfl (noClash_look h2 d gs' v' hl).1
        by_cases e' : t = d
        · subst e'
          rw [if_pos rfl, hkey]
          simp
        · rw [if_neg e']
          have : Nat.beq d t = false := by cases hb : Nat.beq d t with
            | false => rfl
            | true => exact absurd (Nat.eq_of_beq_eq_true hb).symm e'
          rw [this]
      · refine ⟨_, _, ?_, closedG_cons hcl h2 h3 hch, h⟩
        funext t
        simp only [fenv, fput, look]
        by_cases e' : t = d
        · subst e'
          rw [if_pos rfl]
          simp
        · rw [if_neg e']
          have : Nat.beq d t = false := by cases hb : Nat.beq d t with
            | false => rfl
            | true => exact absurd (Nat.eq_of_beq_eq_true hb).symm e'
          rw [this]

theorem cFloat_out {P : Program} {g : Bool} {s : Sem Next} {C : World → Prop} {K : Value → Prop} (h : cFloat P g s C K) : ∃ c, (g = true → ∀ w, C w → s.run P w = .ok (.value c) w) ∧ K c := by unfold cFloat at h; exact h
theorem cFloat_in {P : Program} {g : Bool} {s : Sem Next} {C : World → Prop} {K : Value → Prop} (c : Value) (h : g = true → ∀ w, C w → s.run P w = .ok (.value c) w) (hk : K c) : cFloat P g s C K := by unfold cFloat; exact ⟨c, h, hk⟩
theorem cPure_out {P : Program} {g : Bool} {s : Sem Next} {C : World → Prop} {K : Value → Prop} (h : cPure P g s C K) : ∃ c, (g = true → ∀ w, C w → s.run P w = .ok (.value c) w) ∧ K c := by
  unfold cPure at h
  split at h
  · rename_i v hv; exact ⟨v, fun _ w _ => pv_run hv w, h⟩
  · exact cFloat_out h
def CEv (P : Program) (hard : Bool) (g : Bool) (s : Sem Next) (ok : Nat → Prop) (w0 : World) (L : List Item) (K : Value → List Item → Prop) : Prop :=
  ∃ G : Value → List Item → Prop, (hard = false → ∀ v L', G v L' → L.Sublist L') ∧ (∀ w, Own ok w0 w L → Steps1 P g s w fun v w' => ∃ L', G v L' ∧ Own ok w0 w' L') ∧ ∀ v L', G v L' → (∃ w, Own ok w0 w L') → K v L'
theorem cEv_out {P : Program} {hard : Bool} {g : Bool} {s : Sem Next} {ok : Nat → Prop} {w0 : World} {L : List Item} {K : Value → List Item → Prop} (h : cEv P hard g s ok w0 L K) : CEv P hard g s ok w0 L K := by unfold cEv at h; exact h
theorem cEv_in {P : Program} {hard : Bool} {g : Bool} {s : Sem Next} {ok : Nat → Prop} {w0 : World} {L : List Item} {K : Value → List Item → Prop} (h : CEv P hard g s ok w0 L K) : cEv P hard g s ok w0 L K := by unfold cEv; exact h

theorem stepC_float {P : Program} {QF : List FuncId} {qv : Value} {o : Oper} {ρ : Operand → Value} {g : Bool} {C : World → Prop} {ok : Nat → Prop} {w0 : World} {L : List Item} {KF : Value → Prop} {KE : Value → List Item → Prop} (he : isEvent QF o = false) (hρ : ∀ f, ρ (.func f) = .func (.func f) #[] #[]) (h : stepC P QF qv o ρ g C ok w0 L KF KE) :
    ∃ c, (quiet QF o = true → c = qv) ∧ (g = true → ∀ w, C w → match quiet QF o with
      | false => (execOp ρ o).run P w = .ok (.value c) w
      | true => upon P (fun v w' => v = c ∧ Bel w.heap.size w w') ((execOp ρ o).run P w)) ∧ KF c := by
  have plain : quiet QF o = false → (∃ c, (g = true → ∀ w, C w → (execOp ρ o).run P w = .ok (.value c) w) ∧ KF c) → ∃ c, (quiet QF o = true → c = qv) ∧ (g = true → ∀ w, C w → match quiet QF o with
      | false => (execOp ρ o).run P w = .ok (.value c) w
      | true => upon P (fun v w' => v = c ∧ Bel w.heap.size w w') ((execOp ρ o).run P w)) ∧ KF c := by
    rintro hq ⟨c, h1, h2⟩
    refine ⟨c, fun k => (by rw [hq] at k; cases k), ?_, h2⟩
    rw [hq]; exact h1
  obtain ⟨dst, op, type, pos, after, guard⟩ := o
  cases op <;> simp only [isEvent] at he <;> (try (cases he; done)) <;> unfold stepC at h <;> dsimp only at h <;> (try refine plain rfl ?_)
  case move x => exact ⟨_, fun _ w _ => rfl, h⟩
  case assign x => exact ⟨_, fun _ w _ => rfl, h⟩
  case load t a => simp only [cLoad] at h; exact cFloat_out h
  case indexAddr t x i => simp only [cIndexAddr] at h; exact cFloat_out h
  case index t x i => simp only [cIndex] at h; exact cFloat_out h
  case slice t x lo hi mx => simp only [cSlice] at h; exact cFloat_out h
  case lookup t x i b => simp only [cLookup] at h; exact cFloat_out h
  case convert s d x =>
    split at h
    · exact cPure_out h
    · simp only [cConvert] at h; exact cFloat_out h
  case binOp op t x y yt =>
    split at h
    · exact cPure_out h
    · simp only [cBin] at h; exact cFloat_out h
  case build t p =>
    split at h
    · rename_i v hv
      refine ⟨v, fun _ w _ => ?_, h⟩
      have e := build_run hv w
      rw [← mapP_arr] at e
      show (sv (Instr.build t (p.map fun (i, x) => (i, ρ x)))).run P w = _
      unfold sv
      rw [Sem.run_bind, e]; rfl
    · exact cFloat_out h
  case makeFunc fn first captured =>
    refine ⟨_, fun _ w _ => ?_, h⟩
    show Result.ok (Next.value (.func fn (first.map ρ) (captured.map ρ))) w = _
    rw [mapL_arr, mapL_arr]
  case call c =>
    obtain ⟨callee, args, ts⟩ := c
    cases callee with
    | builtin b =>
      have e : execOp ρ ⟨dst, .call ⟨.builtin b, args, ts⟩, type, pos, after, guard⟩ = builtin b ts type (args.map fun | .const _ => true | _ => false) (args.map ρ) := rfl
      cases b <;> simp only at he <;> (try (cases he; done)) <;> dsimp only at h <;> refine plain rfl ?_ <;> rw [e, mapL_arr] <;> split at h
      all_goals first | exact cPure_out h | (rw [e, mapL_arr] at h; exact cFloat_out h)
    | value f =>
      cases f with
      | func f =>
        simp only [Bool.not_eq_false'] at he
        have hq : quiet QF ⟨dst, .call ⟨.value (.func f), args, ts⟩, type, pos, after, guard⟩ = true := he
        dsimp only at h
        rw [he] at h
        simp only [cQuiet] at h
        have e : execOp ρ ⟨dst, .call ⟨.value (.func f), args, ts⟩, type, pos, after, guard⟩ = (do let d ← Deferred.ofValue (ρ (.func f)) (args.map ρ); invoke d.target d.args) := rfl
        have e2 : (do let d ← Deferred.ofValue (.func (.func f) #[] #[]) (mapL ρ args.toList).toArray; invoke d.target d.args : Sem Next) = callFunc f (mapL ρ args.toList).toArray := by
          show callFunc f ((#[] ++ (mapL ρ args.toList).toArray) ++ #[]) = _
          simp
        refine ⟨qv, fun _ => rfl, ?_, h.2⟩
        rw [hq]
        intro hg w hw
        rw [e, hρ, mapL_arr, e2]
        exact h.1 hg w hw
      | tmp x => simp only at he; cases he
      | const x => simp only at he; cases he
      | global x => simp only at he; cases he
    | invoke r m => simp only at he; cases he
  all_goals exact cPure_out h

theorem stepC_event {P : Program} {QF : List FuncId} {qv : Value} {o : Oper} {ρ : Operand → Value} {g : Bool} {C : World → Prop} {ok : Nat → Prop} {w0 : World} {L : List Item} {KF : Value → Prop} {KE : Value → List Item → Prop} (hρ : ∀ f, ρ (.func f) = .func (.func f) #[] #[]) (he : isEvent QF o = true) (h : stepC P QF qv o ρ g C ok w0 L KF KE) :
    CEv P (isHard o) g (execOp ρ o) ok w0 L KE := by
  obtain ⟨dst, op, type, pos, after, guard⟩ := o
  cases op <;> simp only [isEvent] at he <;> (try (cases he; done)) <;> unfold stepC at h <;> dsimp only at h
  case store t a x => simp only [cStore] at h; exact cEv_out h
  case mapUpdate t m k x => simp only [cMapUpdate] at h; exact cEv_out h
  case insert t m k x => simp only [cMapUpdate] at h; exact cEv_out h
  case makeMap t r => simp only [cMakeMap] at h; exact cEv_out h
  case buildSlice t l p => simp only [cBuildSlice] at h; rw [← mapP_arr] at h; exact cEv_out h
  case alloc t => simp only [cAlloc] at h; exact cEv_out h
  case box t x => simp only [cBox] at h; exact cEv_out h
  case call c =>
    obtain ⟨callee, args, ts⟩ := c
    cases callee with
    | builtin b =>
      have e : execOp ρ ⟨dst, .call ⟨.builtin b, args, ts⟩, type, pos, after, guard⟩ = builtin b ts type (args.map fun | .const _ => true | _ => false) (args.map ρ) := rfl
      cases b <;> simp only at he <;> (try (cases he; done)) <;> dsimp only at h <;> rw [e, mapL_arr] <;> simp only [cBuiltin] at h <;> exact cEv_out h
    | value f =>
      cases f with
      | func f =>
        have e : execOp ρ ⟨dst, .call ⟨.value (.func f), args, ts⟩, type, pos, after, guard⟩ = (do let d ← Deferred.ofValue (ρ (.func f)) (args.map ρ); invoke d.target d.args) := rfl
        rw [e, hρ, mapL_arr]
        have hq : hasF QF f = false := by simpa using he
        dsimp only at h
        rw [hq] at h
        simp only [cCall] at h
        have := cEv_out h
        have e2 : (do let d ← Deferred.ofValue (.func (.func f) #[] #[]) (mapL ρ args.toList).toArray; invoke d.target d.args : Sem Next) = callFunc f (mapL ρ args.toList).toArray := by
          show callFunc f ((#[] ++ (mapL ρ args.toList).toArray) ++ #[]) = _
          simp
        rw [e2]; exact this
      | tmp x => rw [show execOp ρ ⟨dst, .call ⟨.value (.tmp x), args, ts⟩, type, pos, after, guard⟩ = (do let d ← Deferred.ofValue (ρ (.tmp x)) (args.map ρ); invoke d.target d.args) from rfl, mapL_arr]; simp only [cCallV] at h; exact cEv_out h
      | const x => rw [show execOp ρ ⟨dst, .call ⟨.value (.const x), args, ts⟩, type, pos, after, guard⟩ = (do let d ← Deferred.ofValue (ρ (.const x)) (args.map ρ); invoke d.target d.args) from rfl, mapL_arr]; simp only [cCallV] at h; exact cEv_out h
      | global x => rw [show execOp ρ ⟨dst, .call ⟨.value (.global x), args, ts⟩, type, pos, after, guard⟩ = (do let d ← Deferred.ofValue (ρ (.global x)) (args.map ρ); invoke d.target d.args) from rfl, mapL_arr]; simp only [cCallV] at h; exact cEv_out h
    | invoke r m => exact cEv_out h
  all_goals exact cEv_out h


theorem runC_lexC {P : Program} {QF : List FuncId} {QV : Nat → Value} {n : Nat} {ops : List Oper} {NT : List Nat} {Lb : List Item} {ok : Nat → Prop} {w0 : World} {K : Env → World → Prop} (hn : ∀ (j : Nat) (oj : Oper) (s : Nat), ops[j]? = some oj → oj.dst = some s → s < n) :
    ∀ (rest : List Oper) (i : Nat) (e : Env) (ge : GEnv) (Ls : List (List Item)), Ls ≠ [] → closedG ge → (∀ o ∈ rest, ∀ cs b, o.op ≠ .select cs b) → runC P QF QV n ops NT Lb ok w0 K i rest e ge Ls →
      lexC P QF QV n ops NT Lb ok w0 (fun F w => ∃ e', (∀ t v, look e' t = some v → F t = some ([], v)) ∧ K e' w) ((rest.zipIdx i).map fun q => (q.2, q.1)) (fenv e ge) Ls := by
  intro rest
  induction rest with
  | nil =>
    intro i e ge Ls hne hcl _ h
    simp only [List.zipIdx_nil, List.map_nil, lexC]
    intro L hL w hw
    rw [lastL_last hne] at hL
    cases hL
    refine ⟨endEnv ge e, fun t v hv => ?_, h w hw⟩
    unfold endEnv at hv
    split at hv
    · simp [fenv, look, hv]
    · have := look_dropG hv
      simp [fenv, this.1, this.2]
  | cons o rest ih =>
    intro i e ge Ls hne hcl hsel h
    simp only [List.zipIdx_cons, List.map_cons, lexC]
    simp only [runC] at h
    have hsel' : ∀ o ∈ rest, ∀ cs b, o.op ≠ .select cs b := fun o ho => hsel o (List.mem_cons_of_mem _ ho)
    split at h
    · exact h.elim
    · rename_i gs hgs
      have hch := gof_chained hcl hgs
      have hfg := fgof_eq (e := e) hgs
      split at h
      · exact h.elim
      · rename_i hk
        split at h
        · rename_i c x y hop
          split at h
          · rename_i cv av bv hc hx hy
            split at h
            · rename_i v hv
              obtain ⟨b, p, q, rfl, rfl, rfl, rfl⟩ := pickV_spec hv
              have hev : isEvent QF o = false := by unfold isEvent; rw [hop]
              have hqo : quiet QF o = false := by unfold quiet; rw [hop]
              have hrd : reads o = false := by unfold reads; rw [hop]
              rw [hev]
              have hdet : detAt n ops (fenv e ge) o := by
                unfold detAt
                rw [hfg]
                cases hb : gb e ge gs with
                | true => exact .inl fun a ha => (gb_holds (fenv_fits ha) hch hk).1 hb
                | false => exact .inr fun a ha k => by rw [(gb_holds (fenv_fits ha) hch hk).2 k] at hb; cases hb
              refine ⟨.bool (bif b then p else q), fun k => (by rw [hqo] at k; cases k), fun hr => (by rw [hrd] at hr; cases hr), fun a ha hh w _ => ?_, hdet, ?_⟩
              · rw [hfg] at hh
                rw [hqo]
                have hf := fenv_fits ha
                have ec : a.eval c = .bool b := opnd_at hf hh hc
                have hh' : holds a (pickGs gs c b) := by
                  cases c with
                  | tmp t =>
                    intro p' hp'
                    rcases List.mem_cons.1 hp' with k | k
                    · subst k; exact ec
                    · exact hh p' k
                  | const _ => exact hh
                  | global _ => exact hh
                  | func _ => exact hh
                obtain ⟨dst, op, type, pos, after, guard⟩ := o
                simp only at hop
                subst hop
                show (do pure (.value (if ← asBool (a.eval c) then a.eval x else a.eval y)) : Sem Next).run P w = _
                rw [ec]
                cases b with
                | true => have := opnd_at hf hh' hx; simp only [cond_true]; rw [this]; rfl
                | false => have := opnd_at hf hh' hy; simp only [cond_false]; rw [this]; rfl
              · rw [hfg]
                obtain ⟨e', ge', hF, hcl', hr⟩ := putIn_f hcl hch h
                rw [← hF]
                exact ih (i + 1) e' ge' Ls hne hcl' hsel' hr
            · exact h.elim
          · exact h.elim
        · rename_i x hop
          split at h
          · rename_i v hx
            have hev : isEvent QF o = false := by unfold isEvent; rw [hop]
            have hqo : quiet QF o = false := by unfold quiet; rw [hop]
            have hrd : reads o = false := by unfold reads; rw [hop]
            rw [hev]
            have hdet : detAt n ops (fenv e ge) o := by
              unfold detAt
              rw [hfg]
              cases hb : gb e ge gs with
              | true => exact .inl fun a ha => (gb_holds (fenv_fits ha) hch hk).1 hb
              | false => exact .inr fun a ha k => by rw [(gb_holds (fenv_fits ha) hch hk).2 k] at hb; cases hb
            refine ⟨v, fun k => (by rw [hqo] at k; cases k), fun hr => (by rw [hrd] at hr; cases hr), fun a ha hh w _ => ?_, hdet, ?_⟩
            · rw [hfg] at hh
              rw [hqo]
              have ex : a.eval x = v := opnd_at (fenv_fits ha) hh hx
              obtain ⟨dst, op, type, pos, after, guard⟩ := o
              simp only at hop
              subst hop
              show (pure (.value (a.eval x)) : Sem Next).run P w = _
              rw [ex]; rfl
            · rw [hfg]
              obtain ⟨e', ge', hF, hcl', hr⟩ := putIn_f hcl hch h
              rw [← hF]
              exact ih (i + 1) e' ge' Ls hne hcl' hsel' hr
          · exact h.elim
        · rename_i x hop
          split at h
          · rename_i v hx
            have hev : isEvent QF o = false := by unfold isEvent; rw [hop]
            have hqo : quiet QF o = false := by unfold quiet; rw [hop]
            have hrd : reads o = false := by unfold reads; rw [hop]
            rw [hev]
            have hdet : detAt n ops (fenv e ge) o := by
              unfold detAt
              rw [hfg]
              cases hb : gb e ge gs with
              | true => exact .inl fun a ha => (gb_holds (fenv_fits ha) hch hk).1 hb
              | false => exact .inr fun a ha k => by rw [(gb_holds (fenv_fits ha) hch hk).2 k] at hb; cases hb
            refine ⟨v, fun k => (by rw [hqo] at k; cases k), fun hr => (by rw [hrd] at hr; cases hr), fun a ha hh w _ => ?_, hdet, ?_⟩
            · rw [hfg] at hh
              rw [hqo]
              have ex : a.eval x = v := opnd_at (fenv_fits ha) hh hx
              obtain ⟨dst, op, type, pos, after, guard⟩ := o
              simp only at hop
              subst hop
              show (pure (.value (a.eval x)) : Sem Next).run P w = _
              rw [ex]; rfl
            · rw [hfg]
              obtain ⟨e', ge', hF, hcl', hr⟩ := putIn_f hcl hch h
              rw [← hF]
              exact ih (i + 1) e' ge' Ls hne hcl' hsel' hr
          · exact h.elim
        · split at h
          · exact h.elim
          · rename_i hcov
            split at h
            · exact h.elim
            · rename_i Lc hLc
              have hexec : ∀ a, FitsF n (fenv e ge) a → holds a gs → execOp a.eval o = execOp (rho e ge gs) o := by
                intro a ha hh
                refine execOp_congr o (hsel o (by simp)) fun x hx => ?_
                obtain ⟨v, hv⟩ := allIn_at hcov x (by simpa using hx)
                rw [opnd_at (fenv_fits ha) hh hv]
                simp [rho, hv]
              have hgb : ∀ a, FitsF n (fenv e ge) a → (gb e ge gs = true ↔ holds a gs) := fun a ha => gb_holds (fenv_fits ha) hch hk
              cases hev : isEvent QF o with
              | false =>
                obtain ⟨c, hcq, hc, hk2⟩ := stepC_float hev (fun f => rfl) h
                have hdet : detAt n ops (fenv e ge) o := by
                  unfold detAt
                  rw [hfg]
                  cases hb : gb e ge gs with
                  | true => exact .inl fun a ha => (hgb a ha).1 hb
                  | false => exact .inr fun a ha k => by rw [(hgb a ha).2 k] at hb; cases hb
                refine ⟨c, hcq, fun hr => ?_, fun a ha hh w hw => ?_, hdet, ?_⟩
                · rw [hr] at hLc
                  simp only at hLc
                  rw [nthN_eq] at hLc
                  unfold freeN
                  cases hfr : Nat.beq (NT.getD i 0) 1000 with
                  | true => exact .inl rfl
                  | false =>
                    rw [hfr] at hLc
                    simp only at hLc
                    rw [nthL_eq] at hLc
                    exact .inr (List.getElem?_eq_some_iff.1 hLc).1
                · rw [hfg] at hh
                  rw [hexec a ha hh]
                  refine hc ((hgb a ha).2 hh) w ?_
                  cases hr : reads o with
                  | false => trivial
                  | true =>
                    obtain ⟨L2, h1, h2⟩ := hw hr
                    rw [hr] at hLc
                    simp only at hLc
                    rw [nthN_eq] at hLc
                    unfold lsAt freeN at h1
                    cases hfr : Nat.beq (NT.getD i 0) 1000 with
                    | true =>
                      rw [hfr] at hLc h1
                      cases hLc; cases h1
                      exact h2
                    | false =>
                      rw [hfr] at hLc h1
                      simp only at hLc h1
                      rw [nthL_eq, h1] at hLc
                      cases hLc
                      exact h2
                · rw [hfg]
                  obtain ⟨e', ge', hF, hcl', hr⟩ := putIn_f hcl hch hk2
                  rw [← hF]
                  exact ih (i + 1) e' ge' Ls hne hcl' hsel' hr
              | true =>
                obtain ⟨G, hsub, hst, hk2⟩ := stepC_event (fun f => rfl) hev h
                refine ⟨lastL Ls, G, lastL_last hne, fun hh v L' hG => hsub hh v L' hG, fun v L' hG hw => (subLb_out (hk2 v L' hG hw)).1, fun a ha w hw => ?_, fun v L' hG hw => ?_⟩
                · rw [hfg]
                  have hs := hst w hw
                  refine ⟨fun hh => ?_, fun hh => ?_⟩
                  · rw [hexec a ha hh]; exact hs.1 ((hgb a ha).2 hh)
                  · have hg : gb e ge gs = false := by
                      cases hb : gb e ge gs with
                      | false => rfl
                      | true => exact absurd ((hgb a ha).1 hb) hh
                    obtain ⟨v, L', h1, h2⟩ := hs.2 hg
                    exact ⟨v, L', h1, h2⟩
                · rw [hfg]
                  obtain ⟨e', ge', hF, hcl', hr⟩ := putIn_f hcl hch (subLb_out (hk2 v L' hG hw)).2
                  rw [← hF]
                  exact ih (i + 1) e' ge' (Ls ++ [L']) (by simp) hcl' hsel' hr

/-- A statement whose order is open: once through the text. -/
theorem draw_ruleB {P : Program} {ro : Option Nat} {ds : List Nat} (Lb : List Item) (QF : List FuncId) (QV : Nat → Value) {n : Nat} {id : Nat} {ops : Array Oper} {e : Env} {w w0 : World} {K : EK} {ok : Nat → Prop} {L : List Item} (NT : List Nat) (hm : P.follows .mixedOrders = true) (hck : drawOk QF n ops.toList (befs ops.toList []) NT = true) (H : Own ok w0 w L) (hLb : Lb.Sublist L)
    (h : runC P QF QV n ops.toList NT Lb ok w0 (K .normal ds) 0 ops.toList e [] [L]) : nDrawn P ro n ds id ops e w K := by
  unfold nDrawn
  refine nCode_in fun a hf => ?_
  have st := stat_of hck
  have hsel : ∀ o ∈ ops.toList, ∀ cs b, o.op ≠ .select cs b := fun o ho => by
    obtain ⟨j, hj⟩ := List.mem_iff_getElem?.1 ho
    exact st.nosel j o hj
  have hlex := runC_lexC (P := P) (K := K .normal ds) st.dst_lt ops.toList 0 e [] [L] (by simp) (fun t gs v hl => by simp [look] at hl) hsel h
  refine wpIn_region_any hm ?_
  have hrem : rem ops.toList (Array.replicate ops.size false) = (ops.toList.zipIdx 0).map fun q => (q.2, q.1) := by
    unfold rem
    refine List.filter_eq_self.2 fun q hq => ?_
    obtain ⟨x, hx, rfl⟩ := List.mem_map.1 hq
    have := List.mem_zipIdx hx
    have hlt : x.2 < ops.size := by
      have h2 := this.2.1
      simpa using h2
    simp [Array.getD_eq_getD_getElem?, hlt]
  have hfits := fits_fenv hf
  have inv : RInv QF n ops.toList (befs ops.toList []) Lb ok w0 (rem ops.toList (Array.replicate ops.size false)) (fenv e []) [L] := by
    refine ⟨fun q hq => (mem_rem.1 hq).1, ?_, fun q hq d hd t gs v hv p hp => ?_, ⟨a, hfits⟩, ⟨L, rfl, hLb, w, H⟩, ⟨0, ?_, rfl⟩, fun r A C hA hC => ?_⟩
    · refine (rem_sorted (ops := ops.toList)).imp_of_mem fun {x y} hx hy hlt => ?_
      cases hb : bit (befs ops.toList []) x.1 y.1 with
      | false => rfl
      | true => have := (st.bound x.1 y.1 x.2 y.2 (mem_rem.1 hx).1 (mem_rem.1 hy).1 hb).1; omega
    · simp only [fenv, look] at hv
      split at hv
      · cases hv; cases hp
      · cases hv
    · rw [hrem]
      simp only [List.drop_zero]
      have key : ∀ (l : List Oper) (k : Nat), ((((l.zipIdx k).map fun q => (q.2, q.1)).filter fun q => isEvent QF q.2).map (·.1)) = ((List.range' k l.length).filter fun i => match l[i - k]? with | some o => isEvent QF o | none => false) := by
        intro l
        induction l with
        | nil => intro k; rfl
        | cons x l ih =>
          intro k
          rw [List.zipIdx_cons, List.map_cons, List.filter_cons, List.length_cons, List.range'_succ, List.filter_cons]
          have e1 : ((List.range' (k + 1) l.length).filter fun i => match (x :: l)[i - k]? with | some o => isEvent QF o | none => false) = ((List.range' (k + 1) l.length).filter fun i => match l[i - (k + 1)]? with | some o => isEvent QF o | none => false) := by
            refine List.filter_congr fun i hi => ?_
            have := List.mem_range'_1.1 hi
            obtain ⟨d, rfl⟩ : ∃ d, i = k + 1 + d := ⟨i - (k + 1), by omega⟩
            have e3 : k + 1 + d - k = d + 1 := by omega
            have e4 : k + 1 + d - (k + 1) = d := by omega
            rw [e3, e4]; rfl
          rw [e1, ← ih (k + 1)]
          simp only [Nat.sub_self, List.getElem?_cons_zero]
          split <;> rfl
      have := key ops.toList 0
      rw [this]
      unfold evList
      rw [List.range_eq_range']
      simp only [Nat.sub_zero]
    · have := (List.getElem?_eq_some_iff.1 hC).1
      simp at this
  refine draw_any (QV := QV) (KF := fun F w => ∃ e', (∀ t v, look e' t = some v → F t = some ([], v)) ∧ K .normal ds e' w) st (fun F1 F2 w hS ⟨e', he, hk⟩ => ⟨e', fun t v hv => hS.bare t v (he t v hv), hk⟩) ?_ ops.size (Array.replicate ops.size false) a _ (fenv e []) [L] (by simp) inv hfits hf.defers ⟨L, rfl, hLb, H.drew⟩ ?_ ?_ ?_
  · intro F a w hF hdf hk
    obtain ⟨e', he, hk⟩ := hk
    exact ⟨ds, e', ⟨hF.size, hdf, fun t v hv => hF.yes t [] v (he t v hv) (fun p hp => by cases hp)⟩, hk⟩
  · intro m i om oi hm' hi hb hl
    have : m < ops.size := by simpa using (List.getElem?_eq_some_iff.1 hm').1
    simp [Array.getD_eq_getD_getElem?, this] at hl
  · rw [hrem]; simp
  · rw [hrem]; exact hlex
theorem draw_ruleQ {P : Program} {ro : Option Nat} {ds : List Nat} (QF : List FuncId) (QV : Nat → Value) {n : Nat} {id : Nat} {ops : Array Oper} {e : Env} {w w0 : World} {K : EK} {ok : Nat → Prop} {L : List Item} (NT : List Nat) (hm : P.follows .mixedOrders = true) (hck : drawOk QF n ops.toList (befs ops.toList []) NT = true) (H : Own ok w0 w L)
    (h : runC P QF QV n ops.toList NT [] ok w0 (K .normal ds) 0 ops.toList e [] [L]) : nDrawn P ro n ds id ops e w K := draw_ruleB [] QF QV NT hm hck H (List.nil_sublist _) h
theorem draw_rule {P : Program} {ro : Option Nat} {ds : List Nat} {n : Nat} {id : Nat} {ops : Array Oper} {e : Env} {w w0 : World} {K : EK} {ok : Nat → Prop} {L : List Item} (NT : List Nat) (hm : P.follows .mixedOrders = true) (hck : drawOk [] n ops.toList (befs ops.toList []) NT = true) (H : Own ok w0 w L)
    (h : runC P [] (fun _ => undef) n ops.toList NT [] ok w0 (K .normal ds) 0 ops.toList e [] [L]) : nDrawn P ro n ds id ops e w K := draw_ruleQ [] _ NT hm hck H h
instance noHard : Inhabited Hard := ⟨⟨[]⟩⟩
end Go.Eng
