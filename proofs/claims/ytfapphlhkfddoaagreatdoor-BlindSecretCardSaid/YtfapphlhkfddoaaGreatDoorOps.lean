/- An engine for walks: a call's text is run over a list of known slots; what has no effect is reckoned by Lean itself, each effect stands as a goal of its own. Proved once, over any program. -/
import Derived.WalkKit
import Derived.Orders
import Derived.Below
import Derived.KernelRfl
import Derived.Deep.LoopGhost
import Derived.Laws.AppendOwn
import Derived.TacticsIn
import Derived.OrdersIn
import Derived.Sort.LoopGhostIn
import Derived.RangeFuncLeaves
import Derived.RangeFuncNested
import Derived.WalkSmall
import Derived.Maps.AppendAt
import Derived.Laws.OwnMore
import Derived.Laws.IdiomStrings
import Derived.Laws.IdiomCopy
import Derived.ArgAppend
set_option linter.unusedVariables false
namespace Go.Eng
open Go.RowKit

abbrev Env := List (Nat × Value)
abbrev Gs := List (Nat × Bool)
abbrev GEnv := List (Nat × (Gs × Value))

/-- The marks that ranges over functions leave on the call's own list: of no effect. -/
def marks (ds : List Nat) : List Deferred := ds.map fun D => { target := .collected D, args := #[] }
/-- Every machine is let in; the frame is a call's (none), or a round's of loop l. -/
abbrev Fw (ro : Option Nat) : Fence := { Fence.wide with round := ro }
theorem callsIn_fw {ro : Option Nat} {n : Nat} {P : Program} {f : FuncId} {args : Array Value} {w : World} {R : Ending → World → Prop} : CallsIn (Fw ro) n P f args w R ↔ Calls P f args w R :=
  Iff.trans Iff.rfl (callsIn_wide (n := n) (P := P) (f := f) (args := args) (w := w) (R := R))
theorem roomFw (ro : Option Nat) (n : Nat) : (Fw ro).room n := fun d h => by cases h
theorem wpIn_any {ro : Option Nat} {n m : Nat} {P : Program} {c : Code} {Q : Exit → Act → World → Prop} {a : Act} {w : World} (h : c.wpIn (Fw ro) n P Q a w) : c.wpIn (Fw ro) m P Q a w :=
  fun b k cs hb hf _ => h b k cs hb hf (roomFw ro _)

def look {α : Type} : List (Nat × α) → Nat → Option α
  | [], _ => none
  | (t, v) :: e, n => match Nat.beq t n with | true => some v | false => look e n

def gmem (p : Nat × Bool) : Gs → Bool
  | [] => false
  | q :: r => match Nat.beq p.1 q.1 && (p.2 == q.2) with | true => true | false => gmem p r
def gsub : Gs → Gs → Bool
  | [], _ => true
  | p :: r, gs => match gmem p gs with | true => gsub r gs | false => false

def opnd (e : Env) (ge : GEnv) (gs : Gs) : Operand → Option Value
  | .const v => some v
  | .global g => some (.pointer (some ⟨g, 0, none⟩))
  | .func f => some (.func (.func f) #[] #[])
  | .tmp t => match look ge t with
    | some (gs', v) => match gsub gs' gs with | true => some v | false => none
    | none => look e t
def rho (e : Env) (ge : GEnv) (gs : Gs) (x : Operand) : Value := match opnd e ge gs x with | some v => v | none => undef
def allIn (e : Env) (ge : GEnv) (gs : Gs) : List Operand → Bool
  | [] => true
  | x :: r => match opnd e ge gs x with | some _ => allIn e ge gs r | none => false

/-- The value of a guard's slot. -/
def gval (e : Env) (ge : GEnv) (s : Nat) : Option Value := match look ge s with | some (_, v) => some v | none => look e s
def gknown (e : Env) (ge : GEnv) : Gs → Bool
  | [] => true
  | (s, _) :: r => match gval e ge s with | some (.bool _) => gknown e ge r | _ => false
def gb (e : Env) (ge : GEnv) : Gs → Bool
  | [] => true
  | (s, want) :: r => match gval e ge s with | some (.bool b) => (match want with | true => b | false => !b) && gb e ge r | _ => false

def gof (ops : List Oper) (ge : GEnv) (o : Oper) : Option Gs :=
  match o.guard with
  | none => some []
  | some (j, want) => match ops[j]? with
    | none => none
    | some oj => match oj.dst with
      | none => none
      | some s => match look ge s with
        | some (gs, _) => some ((s, want) :: gs)
        | none => some [(s, want)]

def gclash (t : Nat) : Gs → Bool
  | [] => false
  | (s, _) :: r => match Nat.beq s t with | true => true | false => gclash t r
def noClash (t : Nat) : GEnv → Bool
  | [] => true
  | (k, (gs, _)) :: r => match Nat.beq k t || gclash t gs with | true => false | false => noClash t r
def dropG (ge : GEnv) : Env → Env
  | [] => []
  | (t, v) :: e => match look ge t with | some _ => dropG ge e | none => (t, v) :: dropG ge e
def endEnv (ge : GEnv) (e : Env) : Env := match ge with | [] => e | _ => dropG ge e

/-! ### One operation -/

def pv (P : Program) : Sem Next → Option Value
  | .pure (.value v) => some v
  | .program k => pv P (k P)
  | _ => none

/-- What an operation's run comes to. -/
def upon (P : Program) (K : Value → World → Prop) : Result Next → Prop
  | .ok (.value v) w' => K v w'
  | .ok .skip w' => K undef w'
  | .ok (.enter f args) w' => Calls P f args w' fun | .returned v, w'' => K v w'' | _, _ => False
  | .ok (.row r args) w' => RowsIn Fence.wide 0 P r args w' K
  | .ok (.round l f tmps assign body) w' => RoundIn Fence.wide 0 P l f tmps assign body w' fun | .returned v, w'' => K v w'' | _, _ => False
  | _ => False

/-- An operation, carried out if g. -/
@[irreducible] def nOp (P : Program) (g : Bool) (s : Sem Next) (w : World) (K : Value → World → Prop) : Prop :=
  (g = true → upon P K (s.run P w)) ∧ (g = false → ∃ v, K v w)

def mapL (ρ : Operand → Value) : List Operand → List Value
  | [] => []
  | x :: r => ρ x :: mapL ρ r
def mapP (ρ : Operand → Value) : List (Nat × Operand) → List (Nat × Value)
  | [] => []
  | (i, x) :: r => (i, ρ x) :: mapP ρ r
theorem mapL_arr (ρ : Operand → Value) (xs : Array Operand) : xs.map ρ = (mapL ρ xs.toList).toArray := by
  have : ∀ l : List Operand, l.map ρ = mapL ρ l := fun l => by induction l with
    | nil => rfl
    | cons x r ih => simp [mapL, ih]
  rw [← this]; apply Array.ext'; simp
theorem mapP_arr (ρ : Operand → Value) (xs : Array (Nat × Operand)) : (xs.map fun (i, x) => (i, ρ x)) = (mapP ρ xs.toList).toArray := by
  have : ∀ l : List (Nat × Operand), (l.map fun (i, x) => (i, ρ x)) = mapP ρ l := fun l => by induction l with
    | nil => rfl
    | cons x r ih => obtain ⟨i, x⟩ := x; simp [mapP, ih]
  rw [← this]; apply Array.ext'; simp

/-- A row of cells, some of them another's. -/
def setRange : List Value → Nat → List Value → List Value
  | cs, _, [] => cs
  | cs, off, v :: r => setRange (cs.set off v) (off + 1) r
def placeL (P : Program) (fields : List Field) (i : Nat) : Option (Nat × Nat) := match fields[i]? with
  | some f => match P.info? f.type with
    | some inf => some (f.offset, inf.size)
    | none => none
  | none => none
def fillL (place : Nat → Option (Nat × Nat)) : List Value → List (Nat × Value) → Option (List Value)
  | cs, [] => some cs
  | cs, (i, v) :: r => match place i with
    | none => none
    | some (off, size) => match Nat.beq v.cells.toList.length size && Nat.ble (off + size) cs.length with
      | true => fillL place (setRange cs off v.cells.toList) r
      | false => none
def allInfo (P : Program) : List Field → Bool
  | [] => true
  | f :: r => match P.info? f.type with | some _ => allInfo P r | none => false
def buildV (P : Program) (t : TypeId) (parts : List (Nat × Value)) : Option Value :=
  match P.info? t with
  | some inf => match inf.zero with
    | some z => match P.underlying t with
      | some (.struct fields) => match allInfo P fields.toList with
        | true => match fillL (placeL P fields.toList) z.cells.toList parts with
          | some cs => some (.agg cs.toArray)
          | none => none
        | false => none
      | _ => none
    | none => none
  | none => none

def sv (s : Sem Value) : Sem Next := do pure (.value (← s))
def su (s : Sem Unit) : Sem Next := do s; pure .skip

@[irreducible] def nLoad (P : Program) (g : Bool) (t : TypeId) (a : Value) (w : World) (K : Value → World → Prop) : Prop := nOp P g (sv (Instr.loadAt t a)) w K
@[irreducible] def nStore (P : Program) (g : Bool) (t : TypeId) (a x : Value) (w : World) (K : Value → World → Prop) : Prop := nOp P g (su (Instr.storeAt t a x)) w K
@[irreducible] def nAlloc (P : Program) (g : Bool) (t : TypeId) (w : World) (K : Value → World → Prop) : Prop := nOp P g (sv (Instr.alloc t true (.tuple #[]))) w K
@[irreducible] def nBox (P : Program) (g : Bool) (t : TypeId) (x : Value) (w : World) (K : Value → World → Prop) : Prop := nOp P g (sv (Instr.box t x)) w K
@[irreducible] def nIndexAddr (P : Program) (g : Bool) (t : TypeId) (x i : Value) (w : World) (K : Value → World → Prop) : Prop := nOp P g (sv (Instr.indexAt t x i)) w K
@[irreducible] def nIndex (P : Program) (g : Bool) (t : TypeId) (x i : Value) (w : World) (K : Value → World → Prop) : Prop := nOp P g (sv (Instr.index t x i)) w K
@[irreducible] def nSlice (P : Program) (g : Bool) (t : TypeId) (x : Value) (lo hi mx : Option Value) (w : World) (K : Value → World → Prop) : Prop := nOp P g (sv (Instr.sliceAt t x lo hi mx)) w K
@[irreducible] def nBuildSlice (P : Program) (g : Bool) (t : TypeId) (len : Nat) (parts : List (Nat × Value)) (w : World) (K : Value → World → Prop) : Prop := nOp P g (sv (Instr.buildSlice t len parts.toArray)) w K
@[irreducible] def nMakeSlice (P : Program) (g : Bool) (t : TypeId) (l c : Value) (w : World) (K : Value → World → Prop) : Prop := nOp P g (sv (Instr.makeSlice t l c)) w K
@[irreducible] def nMakeMap (P : Program) (g : Bool) (t : TypeId) (r : Option Value) (w : World) (K : Value → World → Prop) : Prop := nOp P g (sv (Instr.makeMap t r)) w K
@[irreducible] def nBin (P : Program) (g : Bool) (op : BinOp) (t : TypeId) (xo yo : Operand) (x y : Value) (w : World) (K : Value → World → Prop) : Prop := nOp P g (sv (do eqGuard op t xo yo x y; binOp op t x y)) w K
@[irreducible] def nConvert (P : Program) (g : Bool) (s d : TypeId) (x : Value) (w : World) (K : Value → World → Prop) : Prop := nOp P g (sv (convert s d x)) w K
@[irreducible] def nCall (P : Program) (g : Bool) (f : FuncId) (args : List Value) (w : World) (K : Value → World → Prop) : Prop := nOp P g (callFunc f args.toArray) w K
@[irreducible] def nCallV (P : Program) (g : Bool) (f : Value) (args : List Value) (w : World) (K : Value → World → Prop) : Prop := nOp P g (do let d ← Deferred.ofValue f args.toArray; invoke d.target d.args) w K
@[irreducible] def nLookup (P : Program) (g : Bool) (t : TypeId) (x i : Value) (b : Bool) (w : World) (K : Value → World → Prop) : Prop := nOp P g (sv (Instr.lookup t x i b)) w K
@[irreducible] def nMapUpdate (P : Program) (g : Bool) (t : TypeId) (m k x : Value) (w : World) (K : Value → World → Prop) : Prop := nOp P g (su (Instr.mapUpdate t m k x)) w K
@[irreducible] def nRange (P : Program) (g : Bool) (t : TypeId) (x : Value) (w : World) (K : Value → World → Prop) : Prop := nOp P g (sv (Instr.range t x)) w K
@[irreducible] def nNext (P : Program) (g : Bool) (it : Value) (b : Bool) (t : TypeId) (w : World) (K : Value → World → Prop) : Prop := nOp P g (sv (Instr.next it b t)) w K
@[irreducible] def nEntry (P : Program) (g : Bool) (it : Value) (w : World) (K : Value → World → Prop) : Prop := nOp P g (sv (Instr.entry it)) w K
/-- A builtin: its run, spelt with the list of its arguments. -/
@[irreducible] def nBuiltin (P : Program) (g : Bool) (b : Builtin) (ts : List TypeId) (t : TypeId) (args : List Value) (consts : Array Bool) (w : World) (K : Value → World → Prop) : Prop := nOp P g (builtin b ts.toArray t consts args.toArray) w K

/-- Operations on numbers, bools and texts that cannot fail. -/
def plainBin : BinOp → Value → Value → Bool
  | .add, .int .., .int .. | .sub, .int .., .int .. | .mul, .int .., .int .. | .and, .int .., .int .. | .or, .int .., .int .. | .xor, .int .., .int .. | .andNot, .int .., .int .. => true
  | .eql, .int .., .int .. | .neq, .int .., .int .. | .lss, .int .., .int .. | .leq, .int .., .int .. | .gtr, .int .., .int .. | .geq, .int .., .int .. => true
  | .eql, .string .., .string .. | .neq, .string .., .string .. | .lss, .string .., .string .. | .leq, .string .., .string .. | .gtr, .string .., .string .. | .geq, .string .., .string .. => true
  | .eql, .bool .., .bool .. | .neq, .bool .., .bool .. => true
  | _, _, _ => false
def plainBuiltin : Builtin → Value → Bool
  | .len, .string .. | .len, .slice .. | .cap, .slice .. => true
  | .max, .int .. | .min, .int .. => true
  | _, _ => false

def builtinV (b : Builtin) (ts : Array TypeId) (t : TypeId) (args : Array Value) : Sem Value :=
  match b with
  | .len => Builtin.len_ ts t args
  | .cap => Builtin.cap_ ts t args
  | .max => Builtin.max_ ts t args
  | .min => Builtin.min_ ts t args
  | _ => stuck ""

def pickV (c a b : Value) : Option Value :=
  match c with
  | .bool x => match a, b with
    | .bool p, .bool q => some (.bool (bif x then p else q))
    | _, _ => none
  | _ => none

def nPure (P : Program) (g : Bool) (s : Sem Next) (w : World) (K : Value → World → Prop) : Prop :=
  match pv P s with
  | some v => K v w
  | none => nOp P g s w K

def stepOp (P : Program) (o : Oper) (ρ : Operand → Value) (g : Bool) (w : World) (K : Value → World → Prop) : Prop :=
  match o.op with
  | .move x | .assign x => K (ρ x) w
  | .load t a => nLoad P g t (ρ a) w K
  | .store t a x => nStore P g t (ρ a) (ρ x) w K
  | .alloc t => nAlloc P g t w K
  | .box t x => nBox P g t (ρ x) w K
  | .indexAddr t x i => nIndexAddr P g t (ρ x) (ρ i) w K
  | .index t x i => nIndex P g t (ρ x) (ρ i) w K
  | .slice t x lo hi mx => nSlice P g t (ρ x) (lo.map ρ) (hi.map ρ) (mx.map ρ) w K
  | .buildSlice t len parts => nBuildSlice P g t len (mapP ρ parts.toList) w K
  | .build t parts => match buildV P t (mapP ρ parts.toList) with
    | some v => K v w
    | none => nOp P g (execOp ρ o) w K
  | .makeFunc fn first captured => K (.func fn (mapL ρ first.toList).toArray (mapL ρ captured.toList).toArray) w
  | .makeSlice t l c => nMakeSlice P g t (ρ l) (ρ c) w K
  | .makeMap t r => nMakeMap P g t (r.map ρ) w K
  | .lookup t x i b => nLookup P g t (ρ x) (ρ i) b w K
  | .mapUpdate t m k x => nMapUpdate P g t (ρ m) (ρ k) (ρ x) w K
  | .range t x => nRange P g t (ρ x) w K
  | .next it b => nNext P g (ρ it) b o.type w K
  | .entry it => nEntry P g (ρ it) w K
  | .convert s d x => match ρ x with
    | .int .. => nPure P g (execOp ρ o) w K
    | _ => nConvert P g s d (ρ x) w K
  | .binOp op t x y _ => match plainBin op (ρ x) (ρ y) with
    | true => nPure P g (execOp ρ o) w K
    | false => nBin P g op t x y (ρ x) (ρ y) w K
  | .extract .. | .field .. | .fieldAddr .. | .unOp .. | .makeInterface .. | .nilCheck .. => nPure P g (execOp ρ o) w K
  | .call c => match c.callee with
    | .builtin b => match plainBuiltin b ((mapL ρ c.args.toList).headD undef) with
      | true => nPure P g (sv (builtinV b c.argTypes o.type (mapL ρ c.args.toList).toArray)) w K
      | false => nBuiltin P g b c.argTypes.toList o.type (mapL ρ c.args.toList) (c.args.map fun | .const _ => true | _ => false) w K
    | .value (.func f) => nCall P g f (mapL ρ c.args.toList) w K
    | .value f => nCallV P g (ρ f) (mapL ρ c.args.toList) w K
    | .invoke .. => nOp P g (execOp ρ o) w K
  | .select .. => False
  | .defer .. => False
  | _ => nOp P g (execOp ρ o) w K

/-- What a step must come to. -/
def Steps1 (P : Program) (g : Bool) (s : Sem Next) (w : World) (K : Value → World → Prop) : Prop :=
  (g = true → upon P K (s.run P w)) ∧ (g = false → ∃ v, K v w)

theorem nOp_out {P : Program} {g : Bool} {s : Sem Next} {w : World} {K : Value → World → Prop} (h : nOp P g s w K) : Steps1 P g s w K := by unfold nOp at h; exact h
theorem nOp_in {P : Program} {g : Bool} {s : Sem Next} {w : World} {K : Value → World → Prop} (h : Steps1 P g s w K) : nOp P g s w K := by unfold nOp; exact h

theorem pv_run {P : Program} : ∀ {s : Sem Next} {v : Value}, pv P s = some v → ∀ w, s.run P w = .ok (.value v) w := by
  intro s
  induction s with
  | pure a => intro v h w; cases a <;> simp [pv] at h; subst h; rfl
  | program k ih => intro v h w; simp only [pv] at h; simp only [Sem.run]; exact ih P h w
  | _ => intro v h w; simp [pv] at h

theorem nPure_out {P : Program} {g : Bool} {s : Sem Next} {w : World} {K : Value → World → Prop} (h : nPure P g s w K) : Steps1 P g s w K := by
  unfold nPure at h
  split at h
  · rename_i v hv
    exact ⟨fun _ => by rw [pv_run hv w]; exact h, fun _ => ⟨v, h⟩⟩
  · exact nOp_out h

theorem setRange_arr : ∀ (vs : List Value) (cs : Array Value) (off k : Nat), ((vs.zipIdx k).foldl (fun cs (c, j) => cs.setIfInBounds (off + j) c) cs) = (setRange cs.toList (off + k) vs).toArray := by
  intro vs
  induction vs with
  | nil => intro cs off k; simp [setRange]
  | cons v r ih =>
    intro cs off k
    simp only [List.zipIdx_cons, List.foldl_cons, setRange]
    rw [ih]
    simp [Nat.add_assoc]

theorem fillL_run {place place' : Nat → Option (Nat × Nat)} (hp : ∀ i x, place i = some x → place' i = some x) : ∀ (parts : List (Nat × Value)) (cs : Array Value) (out : List Value), fillL place cs.toList parts = some out → Instr.fill place' cs parts = some out.toArray := by
  intro parts
  induction parts with
  | nil => intro cs out h; simp only [fillL, Option.some.injEq] at h; subst h; simp [Instr.fill]
  | cons p r ih =>
    obtain ⟨i, v⟩ := p
    intro cs out h
    simp only [fillL] at h
    split at h
    · cases h
    · rename_i off size hpl
      split at h
      · rename_i hb
        simp only [Bool.and_eq_true] at hb
        have h1 := Nat.eq_of_beq_eq_true hb.1
        have h2 := Nat.le_of_ble_eq_true hb.2
        simp only [Instr.fill, hp i _ hpl]
        have h1' : v.cells.size = size := by simpa using h1
        have h2' : off + size ≤ cs.size := by simpa using h2
        rw [if_neg (by simp; omega)]
        have e : (Array.foldl (fun cs x => match x with | (c, j) => cs.setIfInBounds (off + j) c) cs v.cells.zipIdx) = (setRange cs.toList off v.cells.toList).toArray := by
          have := setRange_arr v.cells.toList cs off 0
          rw [Nat.add_zero] at this
          rw [← this, ← Array.foldl_toList, Array.toList_zipIdx]
        have e2 := ih (setRange cs.toList off v.cells.toList).toArray out (by simpa using h)
        rw [← e] at e2
        exact e2
      · cases h

theorem allInfo_run {P : Program} (w : World) : ∀ (fields : List Field), allInfo P fields = true →
    (fields.mapM fun f => do pure (f.offset, ← sizeOf f.type) : Sem (List (Nat × Nat))).run P w = .ok (fields.map fun f => (f.offset, ((P.info? f.type).map (·.size)).getD 0)) w := by
  intro fields
  induction fields with
  | nil => intro _; rfl
  | cons f r ih =>
    intro h
    simp only [allInfo] at h
    split at h
    · rename_i inf hi
      rw [List.mapM_cons]
      have hs : (sizeOf f.type).run P w = .ok inf.size w := by simp [sizeOf, typeInfo, program, Sem.run, hi]
      simp only [Sem.run_bind, hs, Result.andThen_ok, Sem.run_pure, ih h, List.map_cons, hi]
      rfl
    · cases h

theorem build_run {P : Program} {t : TypeId} {parts : List (Nat × Value)} {v : Value} (h : buildV P t parts = some v) (w : World) : (Instr.build t parts.toArray).run P w = .ok v w := by
  unfold buildV at h
  split at h <;> try (cases h; done)
  rename_i inf hinf
  split at h <;> try (cases h; done)
  rename_i z hz
  split at h <;> try (cases h; done)
  rename_i fields hu
  split at h <;> try (cases h; done)
  rename_i hall
  split at h <;> try (cases h; done)
  rename_i cs hcs
  cases h
  have h1 : (zeroValue t).run P w = .ok z w := by simp [zeroValue, typeInfo, program, Sem.run, hinf, hz]
  have h2 : (underlying t).run P w = .ok (.struct fields) w := by simp [underlying, program, Sem.run, hu]
  have h3 := allInfo_run w fields.toList hall
  have h4 : (fields.mapM fun f => do pure (f.offset, ← sizeOf f.type) : Sem (Array (Nat × Nat))).run P w = .ok (fields.toList.map fun f => (f.offset, ((P.info? f.type).map (·.size)).getD 0)).toArray w := by
    rw [Array.mapM_eq_mapM_toList]
    simp only [Sem.run_map, h3, Result.andThen_ok]
  have h5 : Instr.fill ((fields.toList.map fun f => (f.offset, ((P.info? f.type).map (·.size)).getD 0)).toArray[·]?) z.cells parts = some cs.toArray := by
    refine fillL_run (fun i x hx => ?_) parts z.cells cs hcs
    unfold placeL at hx
    split at hx
    · rename_i f hf
      split at hx
      · rename_i i2 hi2
        cases hx
        simp at hf
        simp [hf, hi2]
      · cases hx
    · cases hx
  unfold Instr.build
  simp only [Sem.run_bind, h1, h2, Result.andThen_ok, h4, h5, Sem.run_pure]

theorem stepOp_out {P : Program} {o : Oper} {ρ : Operand → Value} {g : Bool} {w : World} {K : Value → World → Prop} (hρ : ∀ f, ρ (.func f) = .func (.func f) #[] #[]) (h : stepOp P o ρ g w K) : Steps1 P g (execOp ρ o) w K := by
  obtain ⟨dst, op, type, pos, after, guard⟩ := o
  unfold stepOp at h
  cases op
  case move x => exact ⟨fun _ => h, fun _ => ⟨_, h⟩⟩
  case assign x => exact ⟨fun _ => h, fun _ => ⟨_, h⟩⟩
  case load t a => simp only [nLoad] at h; exact nOp_out h
  case store t a x => simp only [nStore] at h; exact nOp_out h
  case alloc t => simp only [nAlloc] at h; exact nOp_out h
  case box t x => simp only [nBox] at h; exact nOp_out h
  case indexAddr t x i => simp only [nIndexAddr] at h; exact nOp_out h
  case index t x i => simp only [nIndex] at h; exact nOp_out h
  case slice t x lo hi mx => simp only [nSlice] at h; exact nOp_out h
  case buildSlice t l p => simp only [nBuildSlice] at h; rw [← mapP_arr] at h; exact nOp_out h
  case build t p =>
    dsimp only at h
    split at h
    · rename_i v hv
      have e := build_run hv w
      rw [← mapP_arr] at e
      refine ⟨fun _ => ?_, fun _ => ⟨v, h⟩⟩
      show upon P K ((sv (Instr.build t (p.map fun (i, x) => (i, ρ x)))).run P w)
      unfold sv
      rw [Sem.run_bind, e]; exact h
    · exact nOp_out h
  case makeFunc fn first captured =>
    dsimp only at h
    refine ⟨fun _ => ?_, fun _ => ⟨_, h⟩⟩
    show K (.func fn (first.map ρ) (captured.map ρ)) w
    rw [mapL_arr, mapL_arr]; exact h
  case makeSlice t l c => simp only [nMakeSlice] at h; exact nOp_out h
  case makeMap t r => simp only [nMakeMap] at h; exact nOp_out h
  case lookup t x i b => simp only [nLookup] at h; exact nOp_out h
  case mapUpdate t m k x => simp only [nMapUpdate] at h; exact nOp_out h
  case range t x => simp only [nRange] at h; exact nOp_out h
  case next it b => simp only [nNext] at h; exact nOp_out h
  case entry it => simp only [nEntry] at h; exact nOp_out h
  case convert s d x =>
    dsimp only at h
    split at h
    · exact nPure_out h
    · simp only [nConvert] at h; exact nOp_out h
  case binOp op t x y yt =>
    dsimp only at h
    split at h
    · exact nPure_out h
    · simp only [nBin] at h; exact nOp_out h
  case call c =>
    dsimp only at h
    obtain ⟨callee, args, ts⟩ := c
    dsimp only at h
    split at h
    · rename_i b
      have e : execOp ρ ⟨dst, .call ⟨.builtin b, args, ts⟩, type, pos, after, guard⟩ = builtin b ts type (args.map fun | .const _ => true | _ => false) (args.map ρ) := rfl
      rw [e, mapL_arr]
      split at h
      · rename_i hp
        have := nPure_out h
        cases b <;> simp only [plainBuiltin] at hp <;> first | exact this | (revert hp; cases (mapL ρ args.toList).headD undef <;> intro hp <;> first | exact this | cases hp)
      · simp only [nBuiltin] at h; exact nOp_out h
    · rename_i f
      have e : execOp ρ ⟨dst, .call ⟨.value (.func f), args, ts⟩, type, pos, after, guard⟩ = (do let d ← Deferred.ofValue (ρ (.func f)) (args.map ρ); invoke d.target d.args) := rfl
      rw [e, hρ, mapL_arr]
      simp only [nCall] at h
      have := nOp_out h
      have e2 : (do let d ← Deferred.ofValue (.func (.func f) #[] #[]) (mapL ρ args.toList).toArray; invoke d.target d.args : Sem Next) = callFunc f (mapL ρ args.toList).toArray := by
        show callFunc f ((#[] ++ (mapL ρ args.toList).toArray) ++ #[]) = _
        simp
      rw [e2]; exact this
    · rename_i f _
      have e : execOp ρ ⟨dst, .call ⟨.value f, args, ts⟩, type, pos, after, guard⟩ = (do let d ← Deferred.ofValue (ρ f) (args.map ρ); invoke d.target d.args) := rfl
      rw [e, mapL_arr]
      simp only [nCallV] at h; exact nOp_out h
    · exact nOp_out h
  case select => exact h.elim
  case defer => exact h.elim
  all_goals first | exact nPure_out h | exact nOp_out h

/-! ### A list of operations -/

def pickGs (gs : Gs) (c : Operand) (b : Bool) : Gs := match c with | .tmp t => (t, b) :: gs | _ => gs
def covers (e : Env) (ge : GEnv) (gs : Gs) (o : Oper) : Bool := allIn e ge gs o.op.operands.toList

def putIn (n : Nat) (gs : Gs) (dst : Option Tmp) (v : Value) (e : Env) (ge : GEnv) (K : Env → GEnv → Prop) : Prop :=
  match dst with
  | none => K e ge
  | some d => match Nat.blt d n && noClash d ge && !gclash d gs with
    | false => False
    | true => match gs with
      | [] => K ((d, v) :: e) ge
      | _ => K e ((d, (gs, v)) :: ge)

def runOps (P : Program) (n : Nat) (ops : List Oper) : List Oper → Env → GEnv → World → (Env → World → Prop) → Prop
  | [], e, ge, w, K => K (endEnv ge e) w
  | o :: rest, e, ge, w, K =>
    match gof ops ge o with
    | none => False
    | some gs => match gknown e ge gs with
      | false => False
      | true => match o.op with
        | .pick c a b => match opnd e ge gs c, opnd e ge (pickGs gs c true) a, opnd e ge (pickGs gs c false) b with
          | some cv, some av, some bv => match pickV cv av bv with
            | some v => putIn n gs o.dst v e ge fun e' ge' => runOps P n ops rest e' ge' w K
            | none => False
          | _, _, _ => False
        | .move x => match opnd e ge gs x with
          | some v => putIn n gs o.dst v e ge fun e' ge' => runOps P n ops rest e' ge' w K
          | none => False
        | .assign x => match opnd e ge gs x with
          | some v => putIn n gs o.dst v e ge fun e' ge' => runOps P n ops rest e' ge' w K
          | none => False
        | _ => match covers e ge gs o with
          | false => False
          | true => stepOp P o (rho e ge gs) (gb e ge gs) w fun v w' => putIn n gs o.dst v e ge fun e' ge' => runOps P n ops rest e' ge' w' K

/-- The frame holds what the list says. -/
structure Fits (n : Nat) (ds : List Nat) (e : Env) (a : Act) : Prop where
  size : a.tmps.size = n
  defers : a.defers = marks ds
  at_ : ∀ t v, look e t = some v → a.tmps.getD t undef = v

def holds (a : Act) (gs : Gs) : Prop := ∀ p ∈ gs, a.tmps.getD p.1 undef = .bool p.2

structure FitsG (n : Nat) (e : Env) (ge : GEnv) (a : Act) : Prop where
  size : a.tmps.size = n
  at_ : ∀ t v, look ge t = none → look e t = some v → a.tmps.getD t undef = v
  yes : ∀ t gs v, look ge t = some (gs, v) → holds a gs → a.tmps.getD t undef = v
  no : ∀ t gs v, look ge t = some (gs, v) → ¬ holds a gs → a.tmps.getD t undef = undef

theorem Fits.g {n : Nat} {ds : List Nat} {e : Env} {a : Act} (h : Fits n ds e a) : FitsG n e [] a :=
  ⟨h.size, fun t v _ => h.at_ t v, fun t gs v h => by simp [look] at h, fun t gs v h => by simp [look] at h⟩

theorem look_dropG {ge : GEnv} : ∀ {e : Env} {t : Nat} {v : Value}, look (dropG ge e) t = some v → look ge t = none ∧ look e t = some v := by
  intro e
  induction e with
  | nil => intro t v h; simp [dropG, look] at h
  | cons p e ih =>
    intro t v h
    obtain ⟨k, u⟩ := p
    simp only [dropG] at h
    cases hk : look ge k with
    | some x =>
      rw [hk] at h
      have := ih h
      refine ⟨this.1, ?_⟩
      simp only [look]
      cases hb : Nat.beq k t with
      | true => rw [Nat.eq_of_beq_eq_true hb] at hk; rw [this.1] at hk; cases hk
      | false => exact this.2
    | none =>
      rw [hk] at h
      simp only [look] at h ⊢
      cases hb : Nat.beq k t with
      | true => rw [hb] at h; rw [← Nat.eq_of_beq_eq_true hb]; exact ⟨hk, h⟩
      | false => rw [hb] at h; exact ih h

theorem FitsG.end_ {n : Nat} {ds : List Nat} {e : Env} {ge : GEnv} {a : Act} (h : FitsG n e ge a) (hd : a.defers = marks ds) : Fits n ds (endEnv ge e) a := by
  refine ⟨h.size, hd, fun t v hv => ?_⟩
  unfold endEnv at hv
  split at hv
  · exact h.at_ t v rfl hv
  · have := look_dropG hv; exact h.at_ t v this.1 this.2

theorem gmem_mem {p : Nat × Bool} : ∀ {gs : Gs}, gmem p gs = true → p ∈ gs := by
  intro gs
  induction gs with
  | nil => intro h; simp [gmem] at h
  | cons q r ih =>
    intro h
    simp only [gmem] at h
    split at h
    · rename_i hb
      simp only [Bool.and_eq_true, beq_iff_eq] at hb
      have e1 := Nat.eq_of_beq_eq_true hb.1
      obtain ⟨p1, p2⟩ := p; obtain ⟨q1, q2⟩ := q
      simp at e1 hb
      simp [e1, hb.2]
    · exact List.mem_cons_of_mem _ (ih h)
theorem gsub_holds {a : Act} {gs : Gs} : ∀ {gs' : Gs}, gsub gs' gs = true → holds a gs → holds a gs' := by
  intro gs'
  induction gs' with
  | nil => intro _ _ p hp; cases hp
  | cons q r ih =>
    intro h hh p hp
    simp only [gsub] at h
    split at h
    · rename_i hm
      rcases List.mem_cons.1 hp with k | k
      · subst k; exact hh _ (gmem_mem hm)
      · exact ih h hh p k
    · cases h

theorem opnd_at {n : Nat} {e : Env} {ge : GEnv} {a : Act} {gs : Gs} (h : FitsG n e ge a) (hh : holds a gs) : ∀ {x : Operand} {v : Value}, opnd e ge gs x = some v → a.eval x = v := by
  intro x v hx
  cases x with
  | const v' => simp [opnd] at hx; subst hx; rfl
  | global g => simp [opnd] at hx; subst hx; rfl
  | func f => simp [opnd] at hx; subst hx; rfl
  | tmp t =>
    simp only [opnd] at hx
    show a.tmps.getD t undef = v
    split at hx
    · rename_i gs' v' hl
      split at hx
      · rename_i hs
        cases hx
        exact h.yes t gs' v hl (gsub_holds hs hh)
      · cases hx
    · rename_i hl; exact h.at_ t v hl hx

theorem allIn_at {e : Env} {ge : GEnv} {gs : Gs} : ∀ {l : List Operand}, allIn e ge gs l = true → ∀ x ∈ l, ∃ v, opnd e ge gs x = some v := by
  intro l
  induction l with
  | nil => intro _ x hx; cases hx
  | cons y r ih =>
    intro h x hx
    simp only [allIn] at h
    split at h
    · rename_i v hv
      rcases List.mem_cons.1 hx with k | k
      · subst k; exact ⟨v, hv⟩
      · exact ih h x k
    · cases h

/-- A chain of guards that is looked at from within is closed: behind a slot that is itself guarded stand its own guards. -/
def chained (ge : GEnv) : Gs → Prop
  | [] => True
  | (s, _) :: r => (∀ gs v, look ge s = some (gs, v) → ∀ p ∈ gs, p ∈ r) ∧ chained ge r

theorem gb_holds {n : Nat} {e : Env} {ge : GEnv} {a : Act} (h : FitsG n e ge a) : ∀ {gs : Gs}, chained ge gs → gknown e ge gs = true → (gb e ge gs = true ↔ holds a gs) := by
  intro gs
  induction gs with
  | nil => intro _ _; exact ⟨fun _ p hp => (by cases hp), fun _ => rfl⟩
  | cons q r ih =>
    obtain ⟨s, want⟩ := q
    intro hc hk
    obtain ⟨hc1, hc2⟩ := hc
    simp only [gknown] at hk
    split at hk
    · rename_i b hb
      have ih := ih hc2 hk
      have hs : holds a r → a.tmps.getD s undef = .bool b := by
        intro hr
        unfold gval at hb
        split at hb
        · rename_i gs v hl
          cases hb
          exact h.yes s gs _ hl (fun p hp => hr p (hc1 gs _ hl p hp))
        · rename_i hl
          exact h.at_ s _ hl hb
      have e1 : gb e ge ((s, want) :: r) = ((match want with | true => b | false => !b) && gb e ge r) := by
        simp only [gb, hb]
      rw [e1, Bool.and_eq_true]
      constructor
      · rintro ⟨h1, h2⟩ p hp
        rcases List.mem_cons.1 hp with k | k
        · subst k
          rw [hs (ih.1 h2)]
          cases want <;> simp_all
        · exact ih.1 h2 p k
      · intro hh
        have hr : holds a r := fun p hp => hh p (List.mem_cons_of_mem _ hp)
        refine ⟨?_, ih.2 hr⟩
        have h1 := hh (s, want) (by simp)
        rw [hs hr] at h1
        cases want <;> simp_all
    · cases hk

/-- All chains in the list are closed. -/
def closedG (ge : GEnv) : Prop := ∀ t gs v, look ge t = some (gs, v) → chained ge gs

theorem gof_chained {ops : List Oper} {ge : GEnv} {o : Oper} {gs : Gs} (hcl : closedG ge) (h : gof ops ge o = some gs) : chained ge gs := by
  unfold gof at h
  split at h
  · cases h; trivial
  · split at h
    · cases h
    · split at h
      · cases h
      · split at h
        · rename_i s _ gs' v hl
          cases h
          refine ⟨fun gs v h' p hp => ?_, hcl _ _ _ hl⟩
          rw [hl] at h'; cases h'; exact hp
        · rename_i s _ hl
          cases h
          refine ⟨fun gs v h' => ?_, trivial⟩
          rw [hl] at h'; cases h'

theorem gof_wanted {n : Nat} {e : Env} {ge : GEnv} {a : Act} {ops : List Oper} {o : Oper} {gs : Gs} (hf : FitsG n e ge a) (h : gof ops ge o = some gs)
    (hn : ∀ (j : Nat) (oj : Oper) (s : Nat), ops[j]? = some oj → oj.dst = some s → s < n) : (Region.wanted o (yielded ops.toArray a.tmps) = true ↔ holds a gs) := by
  unfold gof at h
  unfold Region.wanted
  split at h
  · rename_i hg
    cases h
    rw [hg]
    exact ⟨fun _ p hp => (by cases hp), fun _ => rfl⟩
  · rename_i j want hg
    rw [hg]
    split at h
    · cases h
    · rename_i oj hj
      split at h
      · cases h
      · rename_i s hd
        have hs : s < a.tmps.size := by rw [hf.size]; exact hn j oj s hj hd
        have hy : yielded ops.toArray a.tmps j = match a.tmps.getD s undef with | .bool b => some b | _ => none := by
          unfold yielded
          simp only [List.getElem?_toArray, hj, Option.bind_some, hd]
          rw [Array.getElem?_eq_getElem hs]
          have : a.tmps.getD s undef = a.tmps[s] := by simp [Array.getD, hs]
          rw [this]
          cases a.tmps[s] <;> rfl
        have key : (yielded ops.toArray a.tmps j == some want) = true ↔ a.tmps.getD s undef = .bool want := by
          rw [hy]
          cases hv : a.tmps.getD s undef <;> simp
        split at h
        · rename_i gs' v hl
          cases h
          rw [key]
          constructor
          · intro hb p hp
            rcases List.mem_cons.1 hp with k | k
            · subst k; exact hb
            · by_cases hh : holds a gs'
              · exact hh p k
              · have := hf.no s gs' v hl hh
                rw [this] at hb; simp [undef] at hb
          · intro hh; exact hh (s, want) (by simp)
        · cases h
          rw [key]
          exact ⟨fun hb p hp => by rw [List.mem_singleton] at hp; subst hp; exact hb, fun hh => hh (s, want) (by simp)⟩


theorem getD_put_same {a : Act} {d : Nat} {v : Value} (h : d < a.tmps.size) : (a.put (some d) v).tmps.getD d undef = v := by
  simp [Act.put, Array.getD, h]
theorem getD_put_ne {a : Act} {d t : Nat} {v : Value} (h : d ≠ t) : (a.put (some d) v).tmps.getD t undef = a.tmps.getD t undef := by
  simp [Act.put, Array.getD_eq_getD_getElem?, Array.getElem?_setIfInBounds_ne h]
theorem put_size (a : Act) (d : Option Tmp) (v : Value) : (a.put d v).tmps.size = a.tmps.size := by
  cases d <;> simp [Act.put]
theorem put_defers (a : Act) (d : Option Tmp) (v : Value) : (a.put d v).defers = a.defers := by
  cases d <;> rfl

theorem gclash_ne {d : Nat} : ∀ {gs : Gs}, gclash d gs = false → ∀ p ∈ gs, p.1 ≠ d := by
  intro gs
  induction gs with
  | nil => intro _ p hp; cases hp
  | cons q r ih =>
    obtain ⟨s, b⟩ := q
    intro h p hp
    simp only [gclash] at h
    split at h
    · cases h
    · rename_i hb
      rcases List.mem_cons.1 hp with k | k
      · subst k; intro e; simp only at e; subst e; simp at hb
      · exact ih h p k
theorem noClash_look {d : Nat} : ∀ {ge : GEnv}, noClash d ge = true → ∀ t gs v, look ge t = some (gs, v) → t ≠ d ∧ gclash d gs = false := by
  intro ge
  induction ge with
  | nil => intro _ t gs v h; simp [look] at h
  | cons q r ih =>
    obtain ⟨k, gs', v'⟩ := q
    intro h t gs v hl
    simp only [noClash] at h
    split at h
    · cases h
    · rename_i hb
      simp only [Bool.or_eq_false_iff] at hb
      simp only [look] at hl
      split at hl
      · rename_i hk
        cases hl
        have := Nat.eq_of_beq_eq_true hk
        subst this
        refine ⟨fun e => ?_, hb.2⟩
        subst e; simp at hb
      · exact ih h t gs v hl
theorem holds_put {a : Act} {d : Nat} {v : Value} {gs : Gs} (h : gclash d gs = false) : holds (a.put (some d) v) gs ↔ holds a gs := by
  have key : ∀ p ∈ gs, (a.put (some d) v).tmps.getD p.1 undef = a.tmps.getD p.1 undef := fun p hp => getD_put_ne (Ne.symm (gclash_ne h p hp))
  exact ⟨fun hh p hp => (key p hp) ▸ hh p hp, fun hh p hp => (key p hp).trans (hh p hp)⟩

theorem FitsG.put {n : Nat} {e : Env} {ge : GEnv} {a : Act} {d : Nat} {v : Value} (h : FitsG n e ge a) (hd : d < n) (hc : noClash d ge = true) : FitsG n ((d, v) :: e) ge (a.put (some d) v) := by
  have hda : d < a.tmps.size := by rw [h.size]; exact hd
  refine ⟨by rw [put_size]; exact h.size, fun t u hg hl => ?_, fun t gs u hl hh => ?_, fun t gs u hl hh => ?_⟩
  · simp only [look] at hl
    split at hl
    · rename_i hb
      cases hl
      have := Nat.eq_of_beq_eq_true hb
      subst this
      exact getD_put_same hda
    · rename_i hb
      rw [getD_put_ne (fun e => by subst e; simp at hb)]
      exact h.at_ t u hg hl
  · have := noClash_look hc t gs u hl
    rw [getD_put_ne (Ne.symm this.1)]
    exact h.yes t gs u hl ((holds_put this.2).1 hh)
  · have := noClash_look hc t gs u hl
    rw [getD_put_ne (Ne.symm this.1)]
    exact h.no t gs u hl (fun k => hh ((holds_put this.2).2 k))

theorem FitsG.putG {n : Nat} {e : Env} {ge : GEnv} {a : Act} {d : Nat} {v : Value} {gs : Gs} (h : FitsG n e ge a) (hd : d < n) (hc : noClash d ge = true) (hg : gclash d gs = false)
    {u : Value} (hu : (holds a gs → u = v) ∧ (¬ holds a gs → u = undef)) : FitsG n e ((d, (gs, v)) :: ge) (a.put (some d) u) := by
  have hda : d < a.tmps.size := by rw [h.size]; exact hd
  refine ⟨by rw [put_size]; exact h.size, fun t x hl hx => ?_, fun t gs' x hl hh => ?_, fun t gs' x hl hh => ?_⟩
  · simp only [look] at hl
    split at hl
    · cases hl
    · rename_i hb
      rw [getD_put_ne (fun e => by subst e; simp at hb)]
      exact h.at_ t x hl hx
  · simp only [look] at hl
    split at hl
    · rename_i hb
      cases hl
      have := Nat.eq_of_beq_eq_true hb
      subst this
      rw [getD_put_same hda]; exact hu.1 ((holds_put hg).1 hh)
    · have := noClash_look hc t gs' x hl
      rw [getD_put_ne (Ne.symm this.1)]
      exact h.yes t gs' x hl ((holds_put this.2).1 hh)
  · simp only [look] at hl
    split at hl
    · rename_i hb
      cases hl
      have := Nat.eq_of_beq_eq_true hb
      subst this
      rw [getD_put_same hda]; exact hu.2 (fun k => hh ((holds_put hg).2 k))
    · have := noClash_look hc t gs' x hl
      rw [getD_put_ne (Ne.symm this.1)]
      exact h.no t gs' x hl (fun k => hh ((holds_put this.2).2 k))

theorem chained_cons {ge : GEnv} {d : Nat} {x : Gs × Value} : ∀ {gs : Gs}, gclash d gs = false → chained ge gs → chained ((d, x) :: ge) gs := by
  intro gs
  induction gs with
  | nil => intro _ _; trivial
  | cons q r ih =>
    obtain ⟨s, b⟩ := q
    intro h hc
    simp only [gclash] at h
    split at h
    · cases h
    · rename_i hb
      refine ⟨fun gs' v hl => hc.1 gs' v ?_, ih h hc.2⟩
      simp only [look] at hl
      split at hl
      · rename_i hb'
        have := Nat.eq_of_beq_eq_true hb'
        subst this; simp at hb
      · exact hl
theorem closedG_cons {ge : GEnv} {d : Nat} {gs : Gs} {v : Value} (h : closedG ge) (hc : noClash d ge = true) (hg : gclash d gs = false) (hch : chained ge gs) : closedG ((d, (gs, v)) :: ge) := by
  intro t gs' x hl
  simp only [look] at hl
  split at hl
  · cases hl; exact chained_cons hg hch
  · exact chained_cons (noClash_look hc t gs' x hl).2 (h t gs' x hl)

theorem not_select {e : Env} {ge : GEnv} {gs : Gs} {P : Program} {o : Oper} {g : Bool} {w : World} {K : Value → World → Prop} (h : stepOp P o (rho e ge gs) g w K) : ∀ cs b, o.op ≠ .select cs b := by
  intro cs b e'
  obtain ⟨dst, op, type, pos, after, guard⟩ := o
  simp only at e'
  subst e'
  exact h

theorem not_defer {e : Env} {ge : GEnv} {gs : Gs} {P : Program} {o : Oper} {g : Bool} {w : World} {K : Value → World → Prop} (h : stepOp P o (rho e ge gs) g w K) : ∀ c, o.op ≠ .defer c := by
  intro c e'
  obtain ⟨dst, op, type, pos, after, guard⟩ := o
  simp only at e'
  subst e'
  exact h

theorem upon_mono {P : Program} {K K' : Value → World → Prop} (hk : ∀ v w, K v w → K' v w) : ∀ {r : Result Next}, upon P K r → upon P K' r := by
  intro r h
  cases r with
  | halt x w => exact h
  | ok x w =>
    cases x <;> simp only [upon] at h ⊢
    case value v => exact hk _ _ h
    case skip => exact hk _ _ h
    case enter f args =>
      refine Calls.mono h fun e w' he => ?_
      cases e <;> first | exact hk _ _ he | exact he
    case row r args => exact RowsIn.mono h fun v w' hv => hk _ _ hv
    case round l f tmps assign body =>
      refine RoundIn.mono h fun e w' he => ?_
      cases e <;> first | exact hk _ _ he | exact he

theorem upon_wp {ro : Option Nat} {P : Program} {o : Oper} {a : Act} {next : Act → World → Prop} {Q : Exit → Act → World → Prop} : ∀ {r : Result Next}, upon P (fun v w' => next (a.put o.dst v) w') r → o.uponIn (Fw ro) 0 P a next Q r := by
  intro r h
  cases r with
  | halt x w => exact h.elim
  | ok x w =>
    cases x <;> simp only [upon, Oper.uponIn] at h ⊢
    case value v => exact h
    case skip => exact h
    case enter f args =>
      refine ⟨fun h => (by cases h), callsIn_fw.2 (Calls.mono h fun e w' he => ?_)⟩
      cases e <;> first | exact he | exact he.elim
    case row r args => exact ⟨fun h => (by cases h), h⟩
    case round l f tmps assign body =>
      refine ⟨fun h => (by cases h), RoundIn.mono (F := Fw ro) h fun e w' he => ?_⟩
      cases e <;> first | exact he | exact he.elim

/-- Putting a value: what the list says fits the new frame. -/
theorem putIn_out {n : Nat} {e : Env} {ge : GEnv} {a : Act} {gs : Gs} {dst : Option Tmp} {v u : Value} {K : Env → GEnv → Prop} (hf : FitsG n e ge a) (hcl : closedG ge) (hch : chained ge gs)
    (hu : (holds a gs → u = v) ∧ (¬ holds a gs → u = undef)) (h : putIn n gs dst v e ge K) : ∃ e' ge', FitsG n e' ge' (a.put dst u) ∧ closedG ge' ∧ K e' ge' := by
  unfold putIn at h
  split at h
  · exact ⟨e, ge, hf, hcl, h⟩
  · rename_i d
    split at h
    · exact h.elim
    · rename_i hb
      simp only [Bool.and_eq_true, Bool.not_eq_true'] at hb
      obtain ⟨⟨h1, h2⟩, h3⟩ := hb
      have hd : d < n := by simpa [Nat.blt_eq] using h1
      split at h
      · have : u = v := hu.1 (fun p hp => by cases hp)
        subst this
        exact ⟨_, _, hf.put hd h2, hcl, h⟩
      · exact ⟨_, _, hf.putG hd h2 h3 hu, closedG_cons hcl h2 h3 hch, h⟩

theorem pickV_spec {c a b v : Value} (h : pickV c a b = some v) : ∃ x p q, c = .bool x ∧ a = .bool p ∧ b = .bool q ∧ v = .bool (bif x then p else q) := by
  cases c <;> simp only [pickV] at h <;> try (cases h; done)
  rename_i x
  split at h
  · cases h; exact ⟨_, _, _, rfl, rfl, rfl, rfl⟩
  · cases h

theorem runOps_sound {ro : Option Nat} {P : Program} {n : Nat} {ds : List Nat} {Q : Exit → Act → World → Prop} {ops : List Oper} (hn : ∀ (j : Nat) (oj : Oper) (s : Nat), ops[j]? = some oj → oj.dst = some s → s < n) {K : Env → World → Prop} (hQ : ∀ e a w, Fits n ds e a → K e w → Q .normal a w) :
    ∀ (rest : List Oper) (e : Env) (ge : GEnv) (a : Act) (w : World), FitsG n e ge a → a.defers = marks ds → closedG ge → runOps P n ops rest e ge w K → wpListIn (Fw ro) 0 P ops.toArray Q rest a w := by
  intro rest
  induction rest with
  | nil => intro e ge a w hf hd _ h; exact hQ _ _ _ (hf.end_ hd) h
  | cons o rest ih =>
    intro e ge a w hf hdf hcl h
    simp only [runOps] at h
    split at h
    · exact h.elim
    · rename_i gs hgs
      have hch := gof_chained hcl hgs
      have hw := gof_wanted hf hgs hn
      split at h
      · exact h.elim
      · rename_i hk
        have hgb := gb_holds hf hch hk
        -- the two ways
        have fin : ∀ (u v : Value) (w' : World), ((holds a gs → u = v) ∧ (¬ holds a gs → u = undef)) → (putIn n gs o.dst v e ge fun e' ge' => runOps P n ops rest e' ge' w' K) → wpListIn (Fw ro) 0 P ops.toArray Q rest (a.put o.dst u) w' := by
          intro u v w' hu hp
          obtain ⟨e', ge', hf', hcl', hr⟩ := putIn_out hf hcl hch hu hp
          exact ih e' ge' _ _ hf' (by rw [put_defers]; exact hdf) hcl' hr
        have go : ∀ (s : Sem Next), (∀ c, o.op ≠ .defer c) → (holds a gs → execOp a.eval o = s) → Steps1 P (gb e ge gs) s w (fun v w' => putIn n gs o.dst v e ge fun e' ge' => runOps P n ops rest e' ge' w' K) → wpListIn (Fw ro) 0 P ops.toArray Q (o :: rest) a w := by
          intro s hnd hs hst
          simp only [wpListIn]
          split
          · rename_i hwt
            have hh := hw.1 hwt
            unfold Oper.wpIn
            refine ⟨fun _ _ => trivial, ?_⟩
            rw [Oper.semAt_eq _ _ _ hnd, hs hh]
            exact upon_wp (upon_mono (fun v w' hp => fin v v w' ⟨fun _ => rfl, fun k => absurd hh k⟩ hp) (hst.1 (hgb.2 hh)))
          · rename_i hwt
            have hh : ¬ holds a gs := fun k => hwt (hw.2 k)
            have hg : gb e ge gs = false := by
              cases hb : gb e ge gs with
              | false => rfl
              | true => exact absurd (hgb.1 hb) hh
            obtain ⟨v, hv⟩ := hst.2 hg
            exact ⟨fun _ _ => trivial, fin undef v w ⟨fun k => absurd k hh, fun _ => rfl⟩ hv⟩
        split at h
        · rename_i c x y hop
          split at h
          · rename_i cv av bv hc hx hy
            split at h
            · rename_i v hv
              obtain ⟨b, p, q, rfl, rfl, rfl, rfl⟩ := pickV_spec hv
              refine go (.pure (.value (.bool (bif b then p else q)))) (fun c => by rw [hop]; intro k; cases k) (fun hh => ?_) ⟨fun _ => h, fun _ => ⟨_, h⟩⟩
              have ec : a.eval c = .bool b := opnd_at hf hh hc
              have hh' : holds a (pickGs gs c b) := by
                cases c with
                | tmp t =>
                  intro p' hp'
                  rcases List.mem_cons.1 hp' with k | k
                  · subst k; exact ec
                  · exact hh p' k
                | const _ => exact hh
                | global _ => exact hh
                | func _ => exact hh
              obtain ⟨dst, op, type, pos, after, guard⟩ := o
              simp only at hop
              subst hop
              show (do pure (.value (if ← asBool (a.eval c) then a.eval x else a.eval y)) : Sem Next) = _
              rw [ec]
              cases b with
              | true => have := opnd_at hf hh' hx; simp only [cond_true]; rw [this]; rfl
              | false => have := opnd_at hf hh' hy; simp only [cond_false]; rw [this]; rfl
            · exact h.elim
          · exact h.elim
        · rename_i x hop
          split at h
          · rename_i v hx
            refine go (.pure (.value v)) (fun c => by rw [hop]; intro k; cases k) (fun hh => ?_) ⟨fun _ => h, fun _ => ⟨_, h⟩⟩
            have ex : a.eval x = v := opnd_at hf hh hx
            obtain ⟨dst, op, type, pos, after, guard⟩ := o
            simp only at hop
            subst hop
            show (pure (.value (a.eval x)) : Sem Next) = _
            rw [ex]; rfl
          · exact h.elim
        · rename_i x hop
          split at h
          · rename_i v hx
            refine go (.pure (.value v)) (fun c => by rw [hop]; intro k; cases k) (fun hh => ?_) ⟨fun _ => h, fun _ => ⟨_, h⟩⟩
            have ex : a.eval x = v := opnd_at hf hh hx
            obtain ⟨dst, op, type, pos, after, guard⟩ := o
            simp only at hop
            subst hop
            show (pure (.value (a.eval x)) : Sem Next) = _
            rw [ex]; rfl
          · exact h.elim
        · split at h
          · exact h.elim
          · rename_i hcov
            have hst := stepOp_out (fun f => rfl) h
            refine go _ (not_defer h) (fun hh => ?_) hst
            refine execOp_congr o (not_select h) fun x hx => ?_
            obtain ⟨v, hv⟩ := allIn_at hcov x (by simpa using hx)
            rw [opnd_at hf hh hv]
            simp [rho, hv]

/-! ### Code -/

abbrev EK := Exit → List Nat → Env → World → Prop
def lift (n : Nat) (K : EK) : Exit → Act → World → Prop := fun x a w => ∃ ds e, Fits n ds e a ∧ K x ds e w

/-- Whatever frame fits the list: the code comes to K. -/
@[irreducible] def nCode (P : Program) (ro : Option Nat) (n : Nat) (ds : List Nat) (c : Code) (e : Env) (w : World) (K : EK) : Prop := ∀ a, Fits n ds e a → c.wpIn (Fw ro) 0 P (lift n K) a w
theorem nCode_out {P : Program} {ro : Option Nat} {n : Nat} {ds : List Nat} {c : Code} {e : Env} {w : World} {K : EK} (h : nCode P ro n ds c e w K) : ∀ a, Fits n ds e a → c.wpIn (Fw ro) 0 P (lift n K) a w := by unfold nCode at h; exact h
theorem nCode_in {P : Program} {ro : Option Nat} {n : Nat} {ds : List Nat} {c : Code} {e : Env} {w : World} {K : EK} (h : ∀ a, Fits n ds e a → c.wpIn (Fw ro) 0 P (lift n K) a w) : nCode P ro n ds c e w K := by unfold nCode; exact h

@[irreducible] def nCond (v : Value) (A B : Prop) : Prop := ∃ b, v = .bool b ∧ (b = true → A) ∧ (b = false → B)

def dstsOk (n : Nat) : List Oper → Bool
  | [] => true
  | o :: r => match o.dst with
    | none => dstsOk n r
    | some d => match Nat.blt d n with | true => dstsOk n r | false => false

def thenK (P : Program) (ro : Option Nat) (n : Nat) (b : Code) (K : EK) : EK
  | .normal, ds, e, w => nCode P ro n ds b e w K
  | x, ds, e, w => K x ds e w
def blockK (id : Nat) (K : EK) : EK
  | .exit id', ds, e, w => match Nat.beq id' id with | true => K .normal ds e w | false => K (.exit id') ds e w
  | x, ds, e, w => K x ds e w

@[irreducible] def nDrawn (P : Program) (ro : Option Nat) (n : Nat) (ds : List Nat) (id : Nat) (ops : Array Oper) (e : Env) (w : World) (K : EK) : Prop := nCode P ro n ds (.region id ops true) e w K
@[irreducible] def nLoop (P : Program) (ro : Option Nat) (n : Nat) (ds : List Nat) (body : Code) (e : Env) (w : World) (K : EK) : Prop := nCode P ro n ds (.loop body) e w K

def run (P : Program) (ro : Option Nat) (n : Nat) : List Nat → Code → Env → World → EK → Prop
  | ds, .skip, e, w, K => K .normal ds e w
  | ds, .label _, e, w, K => K .normal ds e w
  | ds, .region id ops draw, e, w, K => match draw with
    | true => nDrawn P ro n ds id ops e w K
    | false => match dstsOk n ops.toList with
      | true => runOps P n ops.toList ops.toList e [] w (K .normal ds)
      | false => False
  | ds, .seq a b, e, w, K => run P ro n ds a e w (thenK P ro n b K)
  | ds, .cond c a b, e, w, K => match opnd e [] [] c with
    | some v => nCond v (run P ro n ds a e w K) (run P ro n ds b e w K)
    | none => False
  | ds, .block id body, e, w, K => run P ro n ds body e w (blockK id K)
  | ds, .loop body, e, w, K => nLoop P ro n ds body e w K
  | ds, .exit id, e, w, K => K (.exit id) ds e w
  | ds, .goto l, e, w, K => K (.goto l) ds e w
  | ds, .ret, e, w, K => K .ret ds e w
  | ds, c, e, w, K => nCode P ro n ds c e w K

theorem dstsOk_spec {n : Nat} : ∀ {l : List Oper}, dstsOk n l = true → ∀ (j : Nat) (oj : Oper) (s : Nat), l[j]? = some oj → oj.dst = some s → s < n := by
  intro l
  induction l with
  | nil => intro _ j oj s h; simp at h
  | cons o r ih =>
    intro h j oj s hj hd
    simp only [dstsOk] at h
    cases j with
    | zero =>
      simp at hj
      subst hj
      rw [hd] at h
      simp only at h
      split at h
      · rename_i hb; simpa [Nat.blt_eq] using hb
      · cases h
    | succ j =>
      simp at hj
      refine ih ?_ j oj s hj hd
      split at h
      · exact h
      · split at h
        · exact h
        · cases h

theorem run_sound {P : Program} {ro : Option Nat} {n : Nat} : ∀ (c : Code) {ds : List Nat} {e : Env} {w : World} {K : EK}, run P ro n ds c e w K → ∀ a, Fits n ds e a → c.wpIn (Fw ro) 0 P (lift n K) a w := by
  intro c
  induction c with
  | skip => intro ds e w K h a hf; exact wpIn_skip ⟨ds, e, hf, h⟩
  | label l => intro ds e w K h a hf; exact wpIn_label ⟨ds, e, hf, h⟩
  | region id ops draw =>
    intro ds e w K h a hf
    simp only [run] at h
    split at h
    · simp only [nDrawn] at h; exact nCode_out h a hf
    · split at h
      · rename_i hd
        have := runOps_sound (ro := ro) (Q := lift n K) (dstsOk_spec hd) (fun e a w hf hk => ⟨ds, e, hf, hk⟩) ops.toList e [] a w hf.g hf.defers (fun t gs v hl => by simp [look] at hl) h
        exact wpIn_region_list (by simpa using this)
      · exact h.elim
  | seq x y ihx ihy =>
    intro ds e w K h a hf
    refine wpIn_seq (wpIn_mono (ihx h a hf) fun ex a' w' hq => ?_)
    obtain ⟨ds', e', hf', hk⟩ := hq
    cases ex with
    | normal => exact nCode_out hk a' hf'
    | _ => exact ⟨ds', e', hf', hk⟩
  | cond c x y ihx ihy =>
    intro ds e w K h a hf
    simp only [run] at h
    split at h
    · rename_i v hv
      unfold nCond at h
      obtain ⟨b, rfl, ht, hff⟩ := h
      have hc : a.eval c = .bool b := opnd_at hf.g (fun p hp => by cases hp) hv
      cases b with
      | true => exact wpIn_cond_true hc (ihx (ht rfl) a hf)
      | false => exact wpIn_cond_false hc (ihy (hff rfl) a hf)
    · exact h.elim
  | block id body ih =>
    intro ds e w K h a hf
    refine wpIn_block (wpIn_mono (ih h a hf) fun ex a' w' hq => ?_)
    obtain ⟨ds', e', hf', hk⟩ := hq
    cases ex with
    | exit id' =>
      simp only [blockK] at hk
      simp only [Exit.inBlock]
      split at hk
      · rename_i hb
        have := Nat.eq_of_beq_eq_true hb
        rw [if_pos this]; exact ⟨ds', e', hf', hk⟩
      · rename_i hb
        rw [if_neg (fun he => by subst he; simp at hb)]
        exact ⟨ds', e', hf', hk⟩
    | _ => exact ⟨ds', e', hf', hk⟩
  | loop body _ => intro ds e w K h a hf; simp only [run, nLoop] at h; exact nCode_out h a hf
  | exit id => intro ds e w K h a hf; exact wpIn_exit ⟨ds, e, hf, h⟩
  | goto l => intro ds e w K h a hf; exact wpIn_goto ⟨ds, e, hf, h⟩
  | ret => intro ds e w K h a hf; exact wpIn_ret ⟨ds, e, hf, h⟩
  | rangeFunc f ps x y _ _ => intro ds e w K h a hf; exact nCode_out h a hf
  | scope x _ => intro ds e w K h a hf; exact nCode_out h a hf
  | refuse why => intro ds e w K h a hf; exact nCode_out h a hf

/-- On with the code. -/
theorem nc {P : Program} {ro : Option Nat} {n : Nat} {ds : List Nat} {c : Code} {e : Env} {w : World} {K : EK} (h : run P ro n ds c e w K) : nCode P ro n ds c e w K := nCode_in fun a hf => run_sound c h a hf

theorem cond_of {b : Bool} {A B : Prop} (ht : b = true → A) (hf : b = false → B) : nCond (.bool b) A B := by unfold nCond; exact ⟨b, rfl, ht, hf⟩
theorem cond_yes {b : Bool} {A B : Prop} (hb : b = true) (h : A) : nCond (.bool b) A B := cond_of (fun _ => h) (fun k => by rw [hb] at k; cases k)
theorem cond_no {b : Bool} {A B : Prop} (hb : b = false) (h : B) : nCond (.bool b) A B := cond_of (fun k => by rw [hb] at k; cases k) (fun _ => h)

/-- What a list says is said by another one. -/
def subE : Env → Env → Prop
  | [], _ => True
  | (t, v) :: r, e => look e t = some v ∧ subE r e
theorem subE_look {e : Env} : ∀ {e' : Env}, subE e' e → ∀ t v, look e' t = some v → look e t = some v := by
  intro e'
  induction e' with
  | nil => intro _ t v h; simp [look] at h
  | cons p r ih =>
    obtain ⟨k, u⟩ := p
    intro h t v hl
    simp only [look] at hl
    split at hl
    · rename_i hb
      cases hl
      rw [← Nat.eq_of_beq_eq_true hb]; exact h.1
    · exact ih h.2 t v hl
theorem Fits.weak {n : Nat} {ds : List Nat} {e e' : Env} {a : Act} (h : Fits n ds e a) (hs : subE e' e) : Fits n ds e' a := ⟨h.size, h.defers, fun t v hl => h.at_ t v (subE_look hs t v hl)⟩

/-- Less need be known. -/
theorem nc_weak {P : Program} {ro : Option Nat} {n : Nat} {ds : List Nat} {c : Code} {e e' : Env} {w : World} {K : EK} (hs : subE e' e) (h : nCode P ro n ds c e' w K) : nCode P ro n ds c e w K :=
  nCode_in fun a hf => nCode_out h a (hf.weak hs)
theorem nc_mono {P : Program} {ro : Option Nat} {n : Nat} {ds : List Nat} {c : Code} {e : Env} {w : World} {K K' : EK} (h : nCode P ro n ds c e w K) (hk : ∀ x ds e w, K x ds e w → K' x ds e w) : nCode P ro n ds c e w K' :=
  nCode_in fun a hf => wpIn_mono (nCode_out h a hf) fun x a w ⟨ds, e, hf, hq⟩ => ⟨ds, e, hf, hk _ _ _ _ hq⟩

/-- A cut: what a statement leaves. -/
@[irreducible] def cutAt (ds ds' : List Nat) (I : Env → World → Prop) (e : Env) (w : World) : Prop := ds' = ds ∧ ∃ e', subE e' e ∧ I e' w
def cutK (ds : List Nat) (I : Env → World → Prop) (K : EK) : EK
  | .normal, ds', e, w => cutAt ds ds' I e w
  | x, ds', e, w => K x ds' e w
theorem nc_cut {P : Program} {ro : Option Nat} {n : Nat} {ds : List Nat} {x y : Code} {e : Env} {w : World} {K : EK} (I : Env → World → Prop) (hx : nCode P ro n ds x e w (cutK ds I K)) (hy : ∀ e w, I e w → nCode P ro n ds y e w K) : nCode P ro n ds (.seq x y) e w K :=
  nCode_in fun a hf => wpIn_seq (wpIn_mono (nCode_out hx a hf) fun ex a' w' hq => by
    obtain ⟨ds', e', hf', hk⟩ := hq
    cases ex with
    | normal => simp only [cutK, cutAt] at hk; obtain ⟨rfl, e'', hs, hi⟩ := hk; exact nCode_out (hy e'' w' hi) a' (hf'.weak hs)
    | _ => exact ⟨ds', e', hf', hk⟩)
theorem cut_in {ds : List Nat} {I : Env → World → Prop} {e e' : Env} {w : World} (hs : subE e' e) (h : I e' w) : cutAt ds ds I e w := by unfold cutAt; exact ⟨rfl, e', hs, h⟩
/-- .. where marks may have been left. -/
@[irreducible] def cutAtD (ds' : List Nat) (I : List Nat → Env → World → Prop) (e : Env) (w : World) : Prop := ∃ e', subE e' e ∧ I ds' e' w
def cutKD (I : List Nat → Env → World → Prop) (K : EK) : EK
  | .normal, ds', e, w => cutAtD ds' I e w
  | x, ds', e, w => K x ds' e w
theorem nc_cutD {P : Program} {ro : Option Nat} {n : Nat} {ds : List Nat} {x y : Code} {e : Env} {w : World} {K : EK} (I : List Nat → Env → World → Prop) (hx : nCode P ro n ds x e w (cutKD I K)) (hy : ∀ ds e w, I ds e w → nCode P ro n ds y e w K) : nCode P ro n ds (.seq x y) e w K :=
  nCode_in fun a hf => wpIn_seq (wpIn_mono (nCode_out hx a hf) fun ex a' w' hq => by
    obtain ⟨ds', e', hf', hk⟩ := hq
    cases ex with
    | normal => simp only [cutKD, cutAtD] at hk; obtain ⟨e'', hs, hi⟩ := hk; exact nCode_out (hy ds' e'' w' hi) a' (hf'.weak hs)
    | _ => exact ⟨ds', e', hf', hk⟩)
theorem cutD_in {ds : List Nat} {I : List Nat → Env → World → Prop} {e e' : Env} {w : World} (hs : subE e' e) (h : I ds e' w) : cutAtD ds I e w := by unfold cutAtD; exact ⟨e', hs, h⟩

/-- Once more round. -/
@[irreducible] def again (ds ds' : List Nat) (I : Nat → Env → World → Prop) (k : Nat) (e : Env) (w : World) : Prop := ds' = ds ∧ ∃ k', k' < k ∧ ∃ e', subE e' e ∧ I k' e' w
theorem again_in {ds : List Nat} {I : Nat → Env → World → Prop} {k : Nat} {e : Env} {w : World} (k' : Nat) (hk : k' < k) (e' : Env) (hs : subE e' e) (h : I k' e' w) : again ds ds I k e w := by
  unfold again; exact ⟨rfl, k', hk, e', hs, h⟩
def loopK (ds : List Nat) (I : Nat → Env → World → Prop) (k : Nat) (K : EK) : EK
  | .normal, ds', e, w => again ds ds' I k e w
  | x, ds', e, w => K x ds' e w
theorem loop_rule {P : Program} {ro : Option Nat} {n : Nat} {ds : List Nat} {body : Code} {e : Env} {w : World} {K : EK} (I : Nat → Env → World → Prop) (k₀ : Nat) (e₀ : Env) (hs : subE e₀ e) (h₀ : I k₀ e₀ w)
    (round : ∀ k e w, I k e w → nCode P ro n ds body e w (loopK ds I k K)) : nLoop P ro n ds body e w K := by
  unfold nLoop
  refine nCode_in fun a hf => ?_
  refine wpIn_loop_ghost (fun k a w => ∃ e, Fits n ds e a ∧ I k e w) k₀ ⟨e₀, hf.weak hs, h₀⟩ ?_
  intro k a w h
  obtain ⟨e, hf, hi⟩ := h
  refine wpIn_mono (nCode_out (round _ e w hi) a hf) fun ex a' w' hq => ?_
  obtain ⟨ds', e', hf', hk⟩ := hq
  cases ex with
  | normal =>
    simp only [loopK, again] at hk
    obtain ⟨rfl, k', hlt, e'', hs, hi'⟩ := hk
    exact ⟨k', hlt, e'', hf'.weak hs, hi'⟩
  | _ => exact ⟨ds', e', hf', hk⟩

/-! ### A call -/

def initEnv : Nat → List Value → Env
  | _, [] => []
  | i, v :: r => (i, v) :: initEnv (i + 1) r

def resAt (P : Program) (e : Env) (w : World) : List ResultVar → List Value → Prop
  | [], [] => True
  | .tmp t :: r, v :: vs => look e t = some v ∧ resAt P e w r vs
  | .cell a t :: r, v :: vs => (∃ ad, look e a = some (.pointer (some ad)) ∧ (loadVar t ad).run P w = .ok v w) ∧ resAt P e w r vs
  | _, _ => False
def tupV : List Value → Value
  | [v] => v
  | vs => .tuple vs.toArray

/-- The marks are taken, one by one: none of them has anything to do. -/
def takes : List Nat → World → (World → Prop) → Prop
  | [], w, K => K w
  | D :: ds, w, K => w.heap[D]? = some (.deferred (some [])) ∧ takes ds (w.putObj D (.deferred none)) K
@[irreducible] def nRet (P : Program) (n : Nat) (ds : List Nat) (rs : List ResultVar) (e : Env) (w : World) (R : Ending → World → Prop) : Prop := takes ds w fun w' => ∃ vs, resAt P e w' rs vs ∧ R (.returned (tupV vs)) w'
theorem ret_of {P : Program} {n : Nat} {rs : List ResultVar} {e : Env} {w : World} {R : Ending → World → Prop} (vs : List Value) (h : resAt P e w rs vs) (hR : R (.returned (tupV vs)) w) : nRet P n [] rs e w R := by
  unfold nRet; exact ⟨vs, h, hR⟩
theorem ret_mark {P : Program} {n D : Nat} {ds : List Nat} {rs : List ResultVar} {e : Env} {w : World} {R : Ending → World → Prop} (h : w.heap[D]? = some (.deferred (some []))) (hk : nRet P n ds rs e (w.putObj D (.deferred none)) R) : nRet P n (D :: ds) rs e w R := by
  unfold nRet at hk ⊢; exact ⟨h, hk⟩

def retK (P : Program) (n : Nat) (rs : List ResultVar) (R : Ending → World → Prop) : EK
  | .normal, ds, e, w => nRet P n ds rs e w R
  | .ret, ds, e, w => nRet P n ds rs e w R
  | _, _, _, _ => False

def resOp (tmps : Array Value) : ResultVar → Sem Value
  | .tmp t => pure (tmps.getD t undef)
  | .cell p t => do loadVar t (← asAddr (tmps.getD p undef))

theorem resAt_run {P : Program} {n : Nat} {ds : List Nat} {e : Env} {a : Act} {w : World} (hf : Fits n ds e a) : ∀ {rs : List ResultVar} {vs : List Value}, resAt P e w rs vs → (rs.mapM (resOp a.tmps)).run P w = .ok vs w := by
  intro rs
  induction rs with
  | nil => intro vs h; cases vs <;> first | exact h.elim | rfl
  | cons r rs ih =>
    intro vs h
    cases vs with
    | nil => cases r <;> exact h.elim
    | cons v vs =>
      rw [List.mapM_cons]
      cases r with
      | tmp t =>
        obtain ⟨h1, h2⟩ := h
        have h3 : (resOp a.tmps (.tmp t)).run P w = .ok v w := by show (pure (a.tmps.getD t undef) : Sem Value).run P w = _; rw [hf.at_ t v h1]; rfl
        simp only [Sem.run_bind, Sem.run_pure, Result.andThen_ok, h3, ih h2]
      | cell p t =>
        obtain ⟨⟨ad, h0, h1⟩, h2⟩ := h
        have h3 : (resOp a.tmps (.cell p t)).run P w = .ok v w := by show (do loadVar t (← asAddr (a.tmps.getD p undef)) : Sem Value).run P w = _; rw [hf.at_ p _ h0]; exact h1
        simp only [Sem.run_bind, Sem.run_pure, Result.andThen_ok, h3, ih h2]

theorem results_run {P : Program} {n : Nat} {ds : List Nat} {e : Env} {a : Act} {w : World} (hf : Fits n ds e a) {fn : Func} {vs : List Value} (h : resAt P e w fn.results.toList vs) : (results fn a.tmps).run P w = .ok (tupV vs) w := by
  have h1 := resAt_run hf h
  have h2 : results fn a.tmps = (do let vs ← fn.results.mapM (resOp a.tmps); pure (if h : vs.size = 1 then vs[0] else .tuple vs)) := by
    unfold results
    congr 2
  rw [h2, Array.mapM_eq_mapM_toList]
  simp only [Sem.run_bind, Sem.run_map, Sem.run_pure, Result.andThen_ok, h1]
  congr 1
  match vs with
  | [] => rfl
  | [v] => rfl
  | v :: u :: vs => simp [tupV]

theorem takes_leaves {P : Program} {fn : Func} {tmps : Array Value} {R : Ending → World → Prop} {K : World → Prop} (hk : ∀ w, K w → ∃ v, (results fn tmps).run P w = .ok v w ∧ R (.returned v) w) : ∀ {ds : List Nat} {w : World}, takes ds w K → LeavesInM (Fw none) 0 P fn tmps R (marks ds) .returning w := by
  intro ds
  induction ds with
  | nil => intro w h; exact hk w h
  | cons D ds ih => intro w h; exact ⟨by simp, .inl ⟨D, _, rfl, run_takeDeferred h.1, ih h.2⟩⟩
theorem marks_post {P : Program} {fn : Func} {ds : List Nat} {e : Env} {a : Act} {w : World} {R : Ending → World → Prop} (hf : Fits fn.ntmps ds e a) (h : nRet P fn.ntmps ds fn.results.toList e w R) : LeavesInM (Fw none) 0 P fn a.tmps R a.defers .returning w := by
  rw [hf.defers]
  unfold nRet at h
  exact takes_leaves (fun w' ⟨vs, hr, hR⟩ => ⟨_, results_run hf hr, hR⟩) h

/-- A function's text is run over its arguments. -/
theorem enterN {P : Program} {f : FuncId} {fn : Func} {args : List Value} {w : World} {R : Ending → World → Prop} (hf : P.funcs[f]? = some fn) {c : Code} {n : Nat} {rs : List ResultVar} (hb : fn.body = some c) (hn : fn.ntmps = n) (hrs : fn.results.toList = rs) (hlen : Nat.ble args.length n = true)
    (h : nCode P none n [] c (initEnv 0 args) w (retK P n rs R)) : Calls P f args.toArray w R := by
  subst hn hrs
  have hlen : args.length ≤ fn.ntmps := Nat.le_of_ble_eq_true hlen
  refine (callsIn_wide (n := 0)).1 (callsIn_of_wp_marks (F := Fw none) hf hb trivial ?_)
  have hfit : Fits fn.ntmps [] (initEnv 0 args) { tmps := args.toArray ++ Array.replicate (fn.ntmps - args.toArray.size) undef, defers := [] } := by
    refine ⟨by simp; omega, rfl, fun t v hl => ?_⟩
    have key : ∀ (l : List Value) (k : Nat), look (initEnv k l) t = some v → ∃ j, t = k + j ∧ l[j]? = some v := by
      intro l
      induction l with
      | nil => intro k h; simp [initEnv, look] at h
      | cons x r ih =>
        intro k h
        simp only [initEnv, look] at h
        split at h
        · rename_i hb
          cases h
          exact ⟨0, by have := Nat.eq_of_beq_eq_true hb; omega, rfl⟩
        · obtain ⟨j, hj, h2⟩ := ih (k + 1) h
          exact ⟨j + 1, by omega, h2⟩
    obtain ⟨j, hj, h2⟩ := key args 0 hl
    have : j < args.length := (List.getElem?_eq_some_iff.1 h2).1
    subst hj
    simp only [Nat.zero_add]
    rw [Array.getD_eq_getD_getElem?, Array.getElem?_append_left (by simpa using this)]
    simp [h2]
  refine wpIn_mono (nCode_out h _ hfit) fun x a w' hq => ?_
  obtain ⟨ds, e, hf', hk⟩ := hq
  cases x with
  | normal => exact marks_post hf' hk
  | ret => exact marks_post hf' hk
  | _ => exact hk.elim
theorem enter {P : Program} {f : FuncId} {fn : Func} {args : List Value} {w : World} {R : Ending → World → Prop} (hf : P.funcs[f]? = some fn) {c : Code} {n : Nat} {rs : List ResultVar} (hb : fn.body = some c) (hn : fn.ntmps = n) (hrs : fn.results.toList = rs) (hlen : Nat.ble args.length n = true)
    (h : run P none n [] c (initEnv 0 args) w (retK P n rs R)) : Calls P f args.toArray w R := enterN hf hb hn hrs hlen (nc h)

end Go.Eng
/- The engine's rules for memory: what a call owns stands in one list; each effect hands the list on. Proved once, over any program. -/
set_option linter.unusedVariables false
set_option linter.unusedSimpArgs false
namespace Go.Eng
open Go.RowKit

/-- Does the frame tell that no draw is taken back? (Sorts with a comparator want it; a contract of the kit may not tell it.) -/
structure Keep where
  b : Bool
set_option linter.unusedSectionVars false
variable [Inhabited Keep]
/-- Below a bound nothing has turned; no draw is taken back, where that is kept. -/
structure Bel (B : Nat) (w w' : World) : Prop extends Below B w w' where
  drawn : (default : Keep).b = true → w.drawn ≤ w'.drawn
theorem Bel.refl (B : Nat) (w : World) : Bel B w w := ⟨Below.refl B w, fun _ => Nat.le_refl _⟩
theorem Bel.trans {B : Nat} {a b c : World} (h : Bel B a b) (k : Bel B b c) : Bel B a c := ⟨h.toBelow.trans k.toBelow, fun q => Nat.le_trans (h.drawn q) (k.drawn q)⟩
theorem Bel.mono {B B' : Nat} {w w' : World} (h : Bel B w w') (hB : B' ≤ B) : Bel B' w w' := ⟨h.toBelow.mono hB, h.drawn⟩
theorem Bel.drew {B : Nat} {a w : World} (h : Bel B a w) : Bel B a w.drew := ⟨h.toBelow.drew, fun q => Nat.le_trans (h.drawn q) (Nat.le_succ _)⟩
theorem Bel.alloc {B : Nat} {a w : World} (h : Bel B a w) (hB : B ≤ w.heap.size) (o : Obj) : Bel B a (w.alloc o) := ⟨h.toBelow.alloc hB o, h.drawn⟩
theorem Bel.setCell {B : Nat} {a w : World} (h : Bel B a w) {p : Addr} (hp : B ≤ p.block) (u : Value) : Bel B a (w.setCell p u) := ⟨h.toBelow.setCell hp u, h.drawn⟩
theorem Bel.grown {B : Nat} {a w w' : World} {row : Option Nat} (h : Bel B a w) (hg : w.grownBy w' row) (hd : w.drawn ≤ w'.drawn) (hB : B ≤ w.heap.size) (hr : ∀ k, row = some k → B ≤ k) : Bel B a w' := ⟨h.toBelow.grown hg hB hr, fun q => Nat.le_trans (h.drawn q) hd⟩

theorem ask_drawn {α : Type} : ∀ (s : Ask α) (w : World), w.drawn ≤ (w.ask s).2.drawn := by
  intro s
  induction s with
  | done a => intro w; exact Nat.le_refl _
  | ask what range k ih =>
    intro w
    simp only [World.ask]
    split
    · exact ih _ w
    · exact Nat.le_trans (Nat.le_succ w.drawn) (ih ((Question.extern what range).cut (w.tape w.drawn (Question.extern what range))) ({ w with drawn := w.drawn + 1 } : World))
theorem farStore_drawn {P : Program} {w w' : World} {a : Addr} {v : Value} {b : Bool} {l : List Addr} (h : w.farStore P a v b = .ok (w', l)) : w'.drawn = w.drawn := by
  unfold World.farStore at h
  split at h
  · split at h
    · rename_i r hr
      cases h
      unfold World.viewStore at hr
      simp only [bind, Except.bind, pure, Except.pure, throw, throwThe, MonadExceptOf.throw] at hr
      repeat' split at hr
      all_goals first | (cases hr; done) | (cases hr; rfl)
    · cases h
  · cases h
/-- No draw is taken back. -/
theorem run_drawn {P : Program} {α : Type} : ∀ {s : Sem α} {w w' : World} {a : α}, s.run P w = .ok a w' → w.drawn ≤ w'.drawn := by
  intro s
  induction s with
  | pure a => intro w w' x h; simp only [Sem.run] at h; cases h; exact Nat.le_refl _
  | load m a k ih =>
    intro w w' x h
    simp only [Sem.run] at h
    split at h
    · exact ih _ h
    · split at h
      · exact ih _ h
      · cases h
  | store m a v k ih =>
    intro w w' x h
    cases v
    case agg => simp [Sem.run] at h
    case tuple => simp [Sem.run] at h
    all_goals
      simp only [Sem.run] at h
      split at h
      · split at h
        · cases h
        · have := ih h; exact this
      · split at h
        · rename_i hf
          have := ih h
          rw [farStore_drawn hf] at this
          exact this
        · cases h
  | new o k ih => intro w w' x h; simp only [Sem.run] at h; have := ih _ h; exact this
  | shape r k ih => intro w w' x h; simp only [Sem.run] at h; exact ih _ h
  | freeze a n k ih =>
    intro w w' x h
    simp only [Sem.run] at h
    have := ih h
    unfold World.freeze at this
    split at this <;> exact this
  | frozen a k ih => intro w w' x h; simp only [Sem.run] at h; exact ih _ h
  | getObj r k ih =>
    intro w w' x h
    simp only [Sem.run] at h
    split at h
    · cases h
    · exact ih _ h
    · cases h
  | setObj r o k ih =>
    intro w w' x h
    simp only [Sem.run] at h
    split at h
    · cases h
    · have := ih h; exact this
    · cases h
  | choose q k ih =>
    intro w w' x h
    simp only [Sem.run] at h
    split at h
    · exact ih _ h
    · have := ih _ h; exact Nat.le_trans (Nat.le_succ _) this
  | sys c k ih =>
    intro w w' x h
    simp only [Sem.run] at h
    have h3 := ih _ h
    refine Nat.le_trans ?_ h3
    unfold World.sys
    have := ask_drawn (Kernel.perform c w.os) w
    split
    · exact Nat.le_refl _
    · rename_i h2; rw [h2] at this; exact this
  | program k ih => intro w w' x h; simp only [Sem.run] at h; exact ih _ h
  | mark m k ih => intro w w' x h; simp only [Sem.run] at h; exact ih h
  | halt x => intro w w' x h; simp [Sem.run] at h

/-- What lies in memory and is never written again: it is said over a set of blocks that it may hang on. -/
structure Dat where
  φ : World → (Nat → Prop) → Prop
  mono : ∀ {w ok ok'}, (∀ b, ok b → ok' b) → φ w ok → φ w ok'
  step : ∀ {w w' : World} {ok}, (∀ b, ok b → b < w.heap.size → w'.heap[b]? = w.heap[b]?) → φ w ok → φ w' ok
  bound : ∀ {w : World} {ok}, φ w ok → φ w (fun b => ok b ∧ b < w.heap.size)

/-- A row of the call's own; it may begin inside its block. -/
def qRow (w : World) (e : TypeId) (size : Nat) (v : Value) (n : Nat) (xs : List Value) : Prop :=
  xs.length = n * size ∧
  ((n = 0 ∧ ∃ A, v = .slice A 0 0 ∧ ∀ a, A = some a → a.spot = none ∧ ∃ cur, w.heap[a.block]? = some (.cells cur e (0, 0))) ∨
   ∃ g off cap cur, v = .slice (some ⟨g, off * size, none⟩) n cap ∧ w.heap[g]? = some (.cells cur e (0, 0)) ∧ n ≤ cap ∧ off + cap ≤ maxLen ∧ cur.size = (off + cap) * size ∧ (cur.toList.drop (off * size)).take (n * size) = xs)
theorem qRow_of {w : World} {base : Nat} {e : TypeId} {size : Nat} {v : Value} {n : Nat} {xs : List Value} (h : w.ownsRow base e size v n xs) : qRow w e size v n xs := by
  refine ⟨h.1, ?_⟩
  rcases h.2 with ⟨hv, h0⟩ | ⟨g, cap, cur, hv, _, hh, hnc, hcm, hcs, ht⟩
  · subst h0; exact .inl ⟨rfl, none, hv, fun a ha => by cases ha⟩
  · exact .inr ⟨g, 0, cap, cur, by rw [Nat.zero_mul]; exact hv, hh, hnc, by omega, by rw [Nat.zero_add]; exact hcs, by rw [Nat.zero_mul, List.drop_zero]; exact ht⟩
theorem qRow.lt {w : World} {e : TypeId} {size : Nat} {v : Value} {n : Nat} {xs : List Value} (h : qRow w e size v n xs) : ∀ k, v.ownBlock = some k → k < w.heap.size := by
  intro k hk
  rcases h.2 with ⟨_, A, hv, hA⟩ | ⟨g, off, cap, cur, hv, hh, _⟩
  · subst hv
    cases A with
    | none => cases hk
    | some a =>
      have : a.block = k := Option.some.inj hk
      subst this
      obtain ⟨_, cur, hc⟩ := hA a rfl
      exact (Array.getElem?_eq_some_iff.1 hc).1
  · subst hv
    have : g = k := Option.some.inj hk
    subst this
    exact (Array.getElem?_eq_some_iff.1 hh).1
theorem qRow.move {w w' : World} {e : TypeId} {size : Nat} {v : Value} {n : Nat} {xs : List Value} (h : qRow w e size v n xs) (hm : ∀ k, v.ownBlock = some k → w'.heap[k]? = w.heap[k]?) : qRow w' e size v n xs := by
  refine ⟨h.1, ?_⟩
  rcases h.2 with ⟨h0, A, hv, hA⟩ | ⟨g, off, cap, cur, hv, hh, r⟩
  · refine .inl ⟨h0, A, hv, fun a ha => ?_⟩
    obtain ⟨hs, cur, hc⟩ := hA a ha
    exact ⟨hs, cur, (hm a.block (by rw [hv, ha]; rfl)).trans hc⟩
  · exact .inr ⟨g, off, cap, cur, hv, (hm g (by rw [hv]; rfl)).trans hh, r⟩

inductive Item where
  | blk (g : Nat) (cs : List Value) (t : TypeId)
  | row (v : Value) (e : TypeId) (sz n : Nat) (xs : List Value)
  | dat (d : Dat)
  | obj (g : Nat) (φ : Obj → Prop)

def Item.muts : Item → List Nat
  | .blk g _ _ => [g]
  | .row v _ _ _ _ => v.ownBlock.toList
  | .dat _ => []
  | .obj g _ => [g]
def Item.holds (w : World) (ok : Nat → Prop) : Item → Prop
  | .blk g cs t => w.heap[g]? = some (.cells cs.toArray t (0, 0))
  | .row v e sz n xs => qRow w e sz v n xs
  | .dat d => d.φ w ok
  | .obj g φ => ∃ o, w.heap[g]? = some o ∧ φ o

def muts (L : List Item) : List Nat := L.flatMap Item.muts
def okOf (ok : Nat → Prop) (w0 : World) (L : List Item) (b : Nat) : Prop := (ok b ∨ w0.heap.size ≤ b) ∧ b ∉ muts L

structure Own (ok : Nat → Prop) (w0 w : World) (L : List Item) : Prop where
  below : Bel w0.heap.size w0 w
  nd : (muts L).Nodup
  ge : ∀ g ∈ muts L, w0.heap.size ≤ g
  all : ∀ it ∈ L, it.holds w (okOf ok w0 L)

theorem Item.holds_lt {w : World} {ok : Nat → Prop} {it : Item} (h : it.holds w ok) : ∀ g ∈ it.muts, g < w.heap.size := by
  cases it with
  | blk g cs t => intro x hx; simp [Item.muts] at hx; subst hx; exact (Array.getElem?_eq_some_iff.1 h).1
  | row v e sz n xs =>
    intro x hx
    simp only [Item.muts, Option.mem_toList] at hx
    exact qRow.lt h x hx
  | dat d => intro x hx; simp [Item.muts] at hx
  | obj g φ => intro x hx; simp [Item.muts] at hx; subst hx; obtain ⟨o, ho, _⟩ := h; exact (Array.getElem?_eq_some_iff.1 ho).1

theorem mem_muts {L : List Item} {g : Nat} : g ∈ muts L ↔ ∃ it ∈ L, g ∈ it.muts := by simp [muts]
theorem Own.lt {ok : Nat → Prop} {w0 w : World} {L : List Item} (h : Own ok w0 w L) : ∀ g ∈ muts L, g < w.heap.size := by
  intro g hg
  obtain ⟨it, hi, hm⟩ := mem_muts.1 hg
  exact Item.holds_lt (h.all it hi) g hm

/-- An item stands on, if its own block does, and those that it may hang on. -/
theorem Item.holds_step {w w' : World} {ok ok' : Nat → Prop} {it : Item} (h : it.holds w ok) (hm : ∀ g ∈ it.muts, w'.heap[g]? = w.heap[g]?)
    (hd : ∀ b, ok b → b < w.heap.size → w'.heap[b]? = w.heap[b]?) (hk : ∀ b, ok b → b < w.heap.size → ok' b) : it.holds w' ok' := by
  cases it with
  | blk g cs t => exact (hm g (by simp [Item.muts])).trans h
  | row v e sz n xs =>
    exact qRow.move h (fun k hk => hm k (by simp [Item.muts, hk]))
  | dat d => exact d.mono (fun b hb => hk b hb.1 hb.2) (d.step (fun b hb hlt => hd b hb.1 hlt) (d.bound h))
  | obj g φ => obtain ⟨o, ho, hp⟩ := h; exact ⟨o, (hm g (by simp [Item.muts])).trans ho, hp⟩

/-- From one world and list to another: what is still there is as it was; what is new is given. -/
theorem Own.move {ok : Nat → Prop} {w0 w w' : World} {L L' : List Item} (h : Own ok w0 w L) (hb : Bel w0.heap.size w0 w') (hsz : w.heap.size ≤ w'.heap.size) (hnd : (muts L').Nodup)
    (hge : ∀ g ∈ muts L', g ∈ muts L ∨ w.heap.size ≤ g)
    (hold : ∀ b, (b ∉ muts L') → b < w.heap.size → b ∉ muts L → w'.heap[b]? = w.heap[b]?)
    (hall : ∀ it ∈ L', (it ∈ L ∧ ∀ g ∈ it.muts, w'.heap[g]? = w.heap[g]?) ∨ it.holds w' (okOf ok w0 L')) : Own ok w0 w' L' := by
  have hw : w0.heap.size ≤ w.heap.size := h.below.size
  refine ⟨hb, hnd, fun g hg => ?_, fun it hi => ?_⟩
  · rcases hge g hg with k | k
    · exact h.ge g k
    · omega
  · rcases hall it hi with ⟨hin, hm⟩ | k
    · refine Item.holds_step (h.all it hin) hm (fun b hb hlt => hold b (fun hm' => ?_) hlt hb.2) (fun b hb hlt => ⟨hb.1, fun hm' => ?_⟩)
      · rcases hge b hm' with k | k
        · exact hb.2 k
        · omega
      · rcases hge b hm' with k | k
        · exact hb.2 k
        · omega
    · exact k

theorem Own.start {ok : Nat → Prop} {w : World} {ds : List Dat} (hok : ∀ d ∈ ds, d.φ w ok) : Own ok w w (ds.map .dat) := by
  have hm : muts (ds.map Item.dat) = [] := by simp [muts, Item.muts]
  refine ⟨Bel.refl _ _, by rw [hm]; exact List.nodup_nil, by rw [hm]; simp, fun it hi => ?_⟩
  obtain ⟨d, hd, rfl⟩ := List.mem_map.1 hi
  exact d.mono (fun b hb => ⟨.inl hb, by rw [hm]; simp⟩) (hok d hd)

theorem Own.nil (ok : Nat → Prop) (w : World) : Own ok w w [] := Own.start (ds := []) (by simp)

/-- Of what was there before nothing has turned. -/
theorem Own.frame {ok : Nat → Prop} {w0 w : World} {L : List Item} (h : Own ok w0 w L) : Bel w0.heap.size w0 w := h.below

theorem heap_drew (w : World) : w.drew.heap = w.heap := rfl
theorem Own.drew {ok : Nat → Prop} {w0 w : World} {L : List Item} (h : Own ok w0 w L) : Own ok w0 w.drew L :=
  h.move h.below.drew (Nat.le_refl _) h.nd (fun g hg => .inl hg) (fun _ _ _ _ => rfl) (fun it hi => .inl ⟨hi, fun _ _ => rfl⟩)

theorem Own.fresh {ok : Nat → Prop} {w0 w : World} {L : List Item} (h : Own ok w0 w L) : w.heap.size ∉ muts L := fun k => Nat.lt_irrefl _ (h.lt _ k)

theorem Own.alloc {ok : Nat → Prop} {w0 w : World} {L : List Item} (h : Own ok w0 w L) (cs : List Value) (t : TypeId) : Own ok w0 (w.alloc (.cells cs.toArray t)) (.blk w.heap.size cs t :: L) := by
  have hw : w0.heap.size ≤ w.heap.size := h.below.size
  refine h.move (h.below.alloc hw _) (by simp) ?_ (fun g hg => ?_) (fun b _ hlt _ => Below.heap_alloc _ _ _ hlt) (fun it hi => ?_)
  · show (w.heap.size :: muts L).Nodup
    exact List.nodup_cons.2 ⟨h.fresh, h.nd⟩
  · rcases List.mem_cons.1 (show g ∈ w.heap.size :: muts L from hg) with k | k
    · exact .inr (by omega)
    · exact .inl k
  · rcases List.mem_cons.1 hi with k | k
    · subst k; exact .inr (heap_alloc_new w _)
    · exact .inl ⟨k, fun g hg => Below.heap_alloc _ _ _ (h.lt g (mem_muts.2 ⟨it, k, hg⟩))⟩

/-- A call that leaves all that was there as it was. -/
theorem Own.call {ok : Nat → Prop} {w0 w w' : World} {L : List Item} (h : Own ok w0 w L) (hb : Bel w.heap.size w w') : Own ok w0 w' L :=
  h.move (h.below.trans (hb.mono h.below.size)) hb.size h.nd (fun g hg => .inl hg) (fun b _ hlt _ => hb.block b hlt) (fun it hi => .inl ⟨hi, fun g hg => hb.block g (h.lt g (mem_muts.2 ⟨it, hi, hg⟩))⟩)

/-- .. and hands back something new. -/
theorem Own.callDat {ok : Nat → Prop} {w0 w w' : World} {L : List Item} (h : Own ok w0 w L) (hb : Bel w.heap.size w w') (d : Dat) (hd : d.φ w' (fun b => okOf ok w0 L b ∨ w.heap.size ≤ b)) : Own ok w0 w' (.dat d :: L) := by
  have h' := h.call hb
  refine ⟨h'.below, h'.nd, h'.ge, fun it hi => ?_⟩
  have he : okOf ok w0 (.dat d :: L) = okOf ok w0 L := rfl
  rw [he]
  rcases List.mem_cons.1 hi with k | k
  · subst k
    refine d.mono (fun b hb => ?_) hd
    rcases hb with hb | hb
    · exact hb
    · exact ⟨.inr (by have := h.below.size; omega), fun k => by have := h.lt b k; omega⟩
  · exact h'.all it k

/-- A datum that is reckoned of what is there. -/
theorem Own.addDat {ok : Nat → Prop} {w0 w : World} {L : List Item} (h : Own ok w0 w L) (d : Dat) (hd : d.φ w (okOf ok w0 L)) : Own ok w0 w (.dat d :: L) :=
  ⟨h.below, h.nd, h.ge, fun it hi => by
    rcases List.mem_cons.1 hi with k | k
    · subst k; exact hd
    · exact h.all it k⟩

/-- Items may be forgotten, and stand in another order. -/
theorem Own.sub {ok : Nat → Prop} {w0 w : World} {L L' : List Item} (h : Own ok w0 w L) (hs : ∀ it ∈ L', it ∈ L) (hnd : (muts L').Nodup) : Own ok w0 w L' := by
  have hm : ∀ g ∈ muts L', g ∈ muts L := fun g hg => by
    obtain ⟨it, hi, hg⟩ := mem_muts.1 hg
    exact mem_muts.2 ⟨it, hs it hi, hg⟩
  exact h.move h.below (Nat.le_refl _) hnd (fun g hg => .inl (hm g hg)) (fun _ _ _ _ => rfl) (fun it hi => .inl ⟨hs it hi, fun _ _ => rfl⟩)
theorem muts_sublist {L L' : List Item} (h : L'.Sublist L) : (muts L').Sublist (muts L) := by
  induction h with
  | slnil => exact List.Sublist.refl _
  | cons a _ ih => simp only [muts, List.flatMap_cons] at ih ⊢; exact ih.trans (List.sublist_append_right _ _)
  | cons_cons a _ ih => simp only [muts, List.flatMap_cons] at ih ⊢; exact (List.Sublist.refl _).append ih
theorem Own.less {ok : Nat → Prop} {w0 w : World} {L L' : List Item} (h : Own ok w0 w L) (hs : L'.Sublist L) : Own ok w0 w L' :=
  h.sub (fun it hi => hs.subset hi) ((muts_sublist hs).nodup h.nd)
theorem Own.tail {ok : Nat → Prop} {w0 w : World} {L : List Item} {x : Item} (h : Own ok w0 w (x :: L)) : Own ok w0 w L := h.less (List.sublist_cons_self _ _)

theorem Own.at {ok : Nat → Prop} {w0 w : World} {L : List Item} (h : Own ok w0 w L) {i : Nat} {it : Item} (hi : L[i]? = some it) : it.holds w (okOf ok w0 L) := h.all it (List.mem_of_getElem? hi)
theorem Own.blk {ok : Nat → Prop} {w0 w : World} {L : List Item} (h : Own ok w0 w L) (i : Nat) {g : Nat} {cs : List Value} {t : TypeId} (hi : L[i]? = some (.blk g cs t)) : w.heap[g]? = some (.cells cs.toArray t (0, 0)) := h.at hi
theorem Own.dat {ok : Nat → Prop} {w0 w : World} {L : List Item} (h : Own ok w0 w L) (i : Nat) {d : Dat} (hi : L[i]? = some (.dat d)) : d.φ w (okOf ok w0 L) := h.at hi
theorem Own.cell {ok : Nat → Prop} {w0 w : World} {L : List Item} (h : Own ok w0 w L) (i : Nat) {g : Nat} {cs : List Value} {t : TypeId} (hi : L[i]? = some (.blk g cs t)) (j : Nat) {v : Value} (hj : cs[j]? = some v) : w.cell? ⟨g, j, none⟩ = some v := by
  rw [cell_of_row w g j cs.toArray t (0, 0) (h.blk i hi)]; simpa using hj
theorem Own.free {ok : Nat → Prop} {w0 w : World} {L : List Item} (h : Own ok w0 w L) (i : Nat) {g : Nat} {cs : List Value} {t : TypeId} (hi : L[i]? = some (.blk g cs t)) (j : Nat) : w.frozen? ⟨g, j, none⟩ = false := by
  simp [World.frozen?, h.blk i hi]

theorem muts_split (A B : List Item) : muts (A ++ B) = muts A ++ muts B := by simp [muts]

/-- An item that stands on one block is another one on that block. -/
theorem Own.setOne {ok : Nat → Prop} {w0 w w' : World} {A B : List Item} {g : Nat} {x y : Item} (hx : x.muts = [g]) (hy : y.muts = [g]) (h : Own ok w0 w (A ++ x :: B)) (hb : Bel w0.heap.size w0 w') (hsz : w'.heap.size = w.heap.size)
    (hg : ∀ ok', y.holds w' ok') (ho : ∀ k, k ≠ g → w'.heap[k]? = w.heap[k]?) : Own ok w0 w' (A ++ y :: B) := by
  have hm : muts (A ++ y :: B) = muts (A ++ x :: B) := by simp [muts, hx, hy]
  have hnd := h.nd
  have hgm : g ∈ muts (A ++ x :: B) := by simp [muts, hx]
  refine h.move hb (by omega) (by rw [hm]; exact hnd) (fun x hx => .inl (by rw [← hm]; exact hx)) (fun b hb _ _ => ho b (fun e => hb (by rw [hm, e]; exact hgm))) (fun it hi => ?_)
  rw [muts_split] at hnd
  simp only [muts, List.flatMap_cons, hx, List.cons_append, List.nil_append] at hnd
  rcases List.mem_append.1 hi with k | k
  · refine .inl ⟨List.mem_append.2 (.inl k), fun u hu => ho u (fun e => ?_)⟩
    subst e
    have := (List.nodup_append.1 hnd).2.2 u (by simp only [List.mem_flatMap]; exact ⟨it, k, hu⟩) u (by simp)
    exact this rfl
  · rcases List.mem_cons.1 k with k2 | k2
    · subst k2; exact .inr (hg _)
    · refine .inl ⟨List.mem_append.2 (.inr (List.mem_cons_of_mem _ k2)), fun u hu => ho u (fun e => ?_)⟩
      subst e
      have := (List.nodup_append.1 hnd).2.1
      rw [List.nodup_cons] at this
      exact this.1 (by simp only [List.mem_flatMap]; exact ⟨it, k2, hu⟩)
/-- One block is another one behind a store into it. -/
theorem Own.setBlk {ok : Nat → Prop} {w0 w w' : World} {A B : List Item} {g : Nat} {cs cs' : List Value} {t : TypeId} (h : Own ok w0 w (A ++ .blk g cs t :: B)) (hb : Bel w0.heap.size w0 w') (hsz : w'.heap.size = w.heap.size)
    (hg : w'.heap[g]? = some (.cells cs'.toArray t (0, 0))) (ho : ∀ k, k ≠ g → w'.heap[k]? = w.heap[k]?) : Own ok w0 w' (A ++ .blk g cs' t :: B) :=
  h.setOne (g := g) rfl rfl hb hsz (fun _ => hg) ho

theorem list_split {α : Type} : ∀ {L : List α} {i : Nat} {x : α}, L[i]? = some x → ∃ A B, L = A ++ x :: B ∧ ∀ y, L.set i y = A ++ y :: B := by
  intro L
  induction L with
  | nil => intro i x h; simp at h
  | cons a L ih =>
    intro i x h
    cases i with
    | zero => simp at h; subst h; exact ⟨[], L, rfl, fun y => rfl⟩
    | succ i =>
      simp at h
      obtain ⟨A, B, e, hs⟩ := ih h
      exact ⟨a :: A, B, by rw [e]; rfl, fun y => by simp [hs]⟩

theorem Own.store {ok : Nat → Prop} {w0 w : World} {L : List Item} (h : Own ok w0 w L) (i : Nat) {g : Nat} {cs : List Value} {t : TypeId} (hi : L[i]? = some (.blk g cs t)) (j : Nat) (u : Value) : Own ok w0 (w.setCell ⟨g, j, none⟩ u) (L.set i (.blk g (cs.set j u) t)) := by
  obtain ⟨A, B, e, hs⟩ := list_split hi
  have hgm : g ∈ muts L := mem_muts.2 ⟨_, List.mem_of_getElem? hi, by simp [Item.muts]⟩
  have hblk := h.blk i hi
  rw [hs]
  subst e
  refine h.setBlk (h.below.setCell (h.ge g hgm) u) (by simp [World.setCell]) ?_ (fun k hk => Below.heap_setCell _ _ _ _ hk)
  simp only [World.setCell, Array.getElem?_modify, hblk]
  simp

theorem Own.obj {ok : Nat → Prop} {w0 w : World} {L : List Item} (h : Own ok w0 w L) (i : Nat) {g : Nat} {φ : Obj → Prop} (hi : L[i]? = some (.obj g φ)) : ∃ o, w.heap[g]? = some o ∧ φ o := h.at hi
theorem Own.mine {ok : Nat → Prop} {w0 w : World} {L : List Item} (h : Own ok w0 w L) (i : Nat) {g : Nat} {φ : Obj → Prop} (hi : L[i]? = some (.obj g φ)) : w0.heap.size ≤ g := h.ge g (mem_muts.2 ⟨_, List.mem_of_getElem? hi, by simp [Item.muts]⟩)
/-- What stands in one block is put anew. -/
theorem Own.setObj {ok : Nat → Prop} {w0 w w' : World} {L : List Item} (h : Own ok w0 w L) (i : Nat) {g : Nat} {φ φ' : Obj → Prop} (hi : L[i]? = some (.obj g φ)) (hb : Bel w0.heap.size w0 w') (hsz : w'.heap.size = w.heap.size)
    (hg : ∃ o, w'.heap[g]? = some o ∧ φ' o) (ho : ∀ k, k ≠ g → w'.heap[k]? = w.heap[k]?) : Own ok w0 w' (L.set i (.obj g φ')) := by
  obtain ⟨A, B, e, hs⟩ := list_split hi
  rw [hs]
  subst e
  exact h.setOne (g := g) rfl rfl hb hsz (fun _ => hg) ho
theorem Own.allocObj {ok : Nat → Prop} {w0 w : World} {L : List Item} (h : Own ok w0 w L) (o : Obj) {φ : Obj → Prop} (ho : φ o) : Own ok w0 (w.alloc o) (.obj w.heap.size φ :: L) := by
  have hw : w0.heap.size ≤ w.heap.size := h.below.size
  refine h.move (h.below.alloc hw _) (by simp) ?_ (fun g hg => ?_) (fun b _ hlt _ => Below.heap_alloc _ _ _ hlt) (fun it hi => ?_)
  · show (w.heap.size :: muts L).Nodup
    exact List.nodup_cons.2 ⟨h.fresh, h.nd⟩
  · rcases List.mem_cons.1 (show g ∈ w.heap.size :: muts L from hg) with k | k
    · exact .inr (by omega)
    · exact .inl k
  · rcases List.mem_cons.1 hi with k | k
    · subst k; exact .inr ⟨o, heap_alloc_new w _, ho⟩
    · exact .inl ⟨k, fun g hg => Below.heap_alloc _ _ _ (h.lt g (mem_muts.2 ⟨it, k, hg⟩))⟩

/-- What is put behind an own row. -/
theorem Own.setRow {ok : Nat → Prop} {w0 w w' : World} {A B : List Item} {v v' : Value} {e : TypeId} {sz n n' : Nat} {xs xs' : List Value} (h : Own ok w0 w (A ++ .row v e sz n xs :: B)) (hg : w.grownBy w' v.ownBlock) (hdr : w.drawn ≤ w'.drawn)
    (hr : qRow w' e sz v' n' xs') (hat : v'.ownBlock = v.ownBlock ∨ ∃ b, v'.ownBlock = some b ∧ w.heap.size ≤ b) : Own ok w0 w' (A ++ .row v' e sz n' xs' :: B) := by
  have hnd := h.nd
  have hw : w0.heap.size ≤ w.heap.size := h.below.size
  have hge0 : ∀ k, v.ownBlock = some k → w0.heap.size ≤ k := fun k hk => h.ge k (by simp [muts, Item.muts, hk])
  have hlt : ∀ it ∈ A ++ B, ∀ g ∈ it.muts, g < w.heap.size := fun it hi g hg' => h.lt g (mem_muts.2 ⟨it, by
    rcases List.mem_append.1 hi with k | k
    · exact List.mem_append.2 (.inl k)
    · exact List.mem_append.2 (.inr (List.mem_cons_of_mem _ k)), hg'⟩)
  have apart : ∀ it ∈ A ++ B, ∀ g ∈ it.muts, some g ≠ v.ownBlock := by
    intro it hi g hg' e'
    rw [muts_split] at hnd
    simp only [muts, List.flatMap_cons, Item.muts, ← e', Option.toList, List.cons_append, List.nil_append] at hnd
    rcases List.mem_append.1 hi with k | k
    · exact (List.nodup_append.1 hnd).2.2 g (by simp only [List.mem_flatMap]; exact ⟨it, k, hg'⟩) g (by simp) rfl
    · have := (List.nodup_append.1 hnd).2.1
      rw [List.nodup_cons] at this
      exact this.1 (by simp only [List.mem_flatMap]; exact ⟨it, k, hg'⟩)
  refine h.move (h.below.grown hg hdr hw hge0) hg.size ?_ (fun g hg' => ?_) (fun b hb hlt hb2 => ?_) (fun it hi => ?_)
  · rcases hat with k | ⟨b, hb, hb2⟩
    · have : muts (A ++ .row v' e sz n' xs' :: B) = muts (A ++ .row v e sz n xs :: B) := by simp [muts, Item.muts, k]
      rw [this]; exact hnd
    · rw [muts_split] at hnd ⊢
      simp only [muts, List.flatMap_cons, Item.muts, hb, Option.toList, List.cons_append, List.nil_append] at hnd ⊢
      rw [List.nodup_append] at hnd ⊢
      obtain ⟨h1, h2, h3⟩ := hnd
      have hB : (B.flatMap Item.muts).Nodup := (List.nodup_append.1 h2).2.1
      refine ⟨h1, List.nodup_cons.2 ⟨fun k => ?_, hB⟩, fun x hx y hy => ?_⟩
      · simp only [List.mem_flatMap] at k
        obtain ⟨it, hi, hm⟩ := k
        have := hlt it (List.mem_append.2 (.inr hi)) b hm; omega
      · rcases List.mem_cons.1 hy with k | k
        · subst k
          simp only [List.mem_flatMap] at hx
          obtain ⟨it, hi, hm⟩ := hx
          have := hlt it (List.mem_append.2 (.inl hi)) x hm
          omega
        · exact h3 x hx y (List.mem_append.2 (.inr k))
  · simp only [muts, List.flatMap_append, List.flatMap_cons, Item.muts, List.mem_append, Option.mem_toList] at hg' ⊢
    rcases hg' with k | k | k
    · exact .inl (.inl k)
    · rcases hat with k2 | ⟨b, hb, hb2⟩
      · exact .inl (.inr (.inl (k2 ▸ k)))
      · rw [hb] at k; cases k; exact .inr hb2
    · exact .inl (.inr (.inr k))
  · refine hg.block b hlt (fun e' => hb2 ?_)
    simp [muts, Item.muts, ← e']
  · rcases List.mem_append.1 hi with k | k
    · exact .inl ⟨List.mem_append.2 (.inl k), fun g hg' => hg.block g (hlt it (List.mem_append.2 (.inl k)) g hg') (apart it (List.mem_append.2 (.inl k)) g hg')⟩
    · rcases List.mem_cons.1 k with k | k
      · subst k; exact .inr hr
      · exact .inl ⟨List.mem_append.2 (.inr (List.mem_cons_of_mem _ k)), fun g hg' => hg.block g (hlt it (List.mem_append.2 (.inr k)) g hg') (apart it (List.mem_append.2 (.inr k)) g hg')⟩


/-! ### The rules: an effect at a time -/
section rules
variable {P : Program} {w w0 : World} {K : Value → World → Prop} {g : Bool} {ok : Nat → Prop} {L : List Item}

theorem nOp_val {s : Sem Next} {v : Value} {w' : World} (h : g = true → s.run P w = .ok (.value v) w') (hk : g = true → K v w') (hn : g = false → K v w) : nOp P g s w K :=
  nOp_in ⟨fun hg => by rw [h hg]; exact hk hg, fun hg => ⟨v, hn hg⟩⟩
theorem nOp_now {s : Sem Next} {v : Value} (h : g = true → s.run P w = .ok (.value v) w) (hk : K v w) : nOp P g s w K := nOp_val h (fun _ => hk) (fun _ => hk)
theorem sv_run {s : Sem Value} {v : Value} {w' : World} (h : s.run P w = .ok v w') : (sv s).run P w = .ok (.value v) w' := by unfold sv; rw [Sem.run_bind, h]; rfl
theorem su_run {s : Sem Unit} {w' : World} (h : s.run P w = .ok () w') : (su s).run P w = .ok .skip w' := by unfold su; rw [Sem.run_bind, h]; rfl

def bodyB (P : Program) (f : FuncId) : Bool := match P.funcs[f]? with
  | some fn => fn.body.isSome && !(fn.name == "runtime.NumGoroutine")
  | none => false
theorem run_callFunc {f : FuncId} {args : Array Value} (hb : bodyB P f = true) : (callFunc f args).run P w = .ok (.enter f args) w := by
  unfold bodyB at hb
  split at hb
  · rename_i fn hf
    simp only [Bool.and_eq_true, Bool.not_eq_true', Option.isSome_iff_exists] at hb
    obtain ⟨⟨c, hc⟩, hn⟩ := hb
    have : ¬ fn.name = "runtime.NumGoroutine" := by simpa using hn
    simp [callFunc, program, Sem.run, hf, hc, this]
  · cases hb

/-- A call by a contract. -/
theorem call_rule {f : FuncId} {args : List Value} {φ : Value → World → Prop} (hb : bodyB P f = true) (hc : Calls P f args.toArray w fun e w' => ∃ v, e = .returned v ∧ φ v w') (hk : ∀ v w', φ v w' → K v w') : nCall P true f args w K := by
  unfold nCall
  refine nOp_in ⟨fun _ => ?_, fun h => by cases h⟩
  rw [run_callFunc hb]
  refine Calls.mono hc fun e w' ⟨v, he, hv⟩ => ?_
  subst he
  exact hk _ _ hv
/-- .. that is made only if g. -/
theorem call_guard {f : FuncId} {args : List Value} {φ : Value → World → Prop} (hb : bodyB P f = true) (hc : g = true → Calls P f args.toArray w fun e w' => ∃ v, e = .returned v ∧ φ v w') (hk : ∀ v w', (g = true → φ v w') → (g = false → w' = w) → K v w') : nCall P g f args w K := by
  unfold nCall
  refine nOp_in ⟨fun hg => ?_, fun hg => ⟨undef, hk _ _ (fun h => by rw [hg] at h; cases h) (fun _ => rfl)⟩⟩
  rw [run_callFunc hb]
  refine Calls.mono (hc hg) fun e w' ⟨v, he, hv⟩ => ?_
  subst he
  exact hk _ _ (fun _ => hv) (fun h => by rw [hg] at h; cases h)

/-! Loads and stores. -/
def aggB (P : Program) (t : TypeId) : Option Bool := match P.underlying t with
  | some (.struct _) => some true
  | some (.array _ _) => some true
  | some _ => some false
  | none => none
def sizeB (P : Program) (t : TypeId) : Option Nat := match P.info? t with | some i => some i.size | none => none
theorem run_isAgg {t : TypeId} {b : Bool} (h : aggB P t = some b) : (isAgg t).run P w = .ok b w := by
  unfold aggB at h
  unfold isAgg underlying
  simp only [program, Sem.run_bind, Sem.run, Result.andThen_ok]
  split at h
  · rename_i hu; cases h; rw [hu]; rfl
  · rename_i hu; cases h; rw [hu]; rfl
  · rename_i d hn1 hn2 hu
    cases h; rw [hu]
    cases d <;> first | rfl | exact (hn1 _ rfl).elim | exact (hn2 _ _ rfl).elim
  · cases h
theorem run_sizeOf {t : TypeId} {m : Nat} (h : sizeB P t = some m) : (sizeOf t).run P w = .ok m w := by
  unfold sizeB at h
  split at h
  · rename_i i hi; cases h; simp [sizeOf, typeInfo, program, Sem.run, hi]
  · cases h

def cellsAt (w : World) (a : Addr) : Nat → List Value → Prop
  | _, [] => True
  | i, v :: r => w.cell? (a.add i) = some v ∧ cellsAt w a (i + 1) r
theorem run_loadCellsFrom {a : Addr} : ∀ (vs : List Value) (i : Nat) (acc : Array Value), cellsAt w a i vs → (loadCellsFrom a i vs.length acc).run P w = .ok (acc ++ vs.toArray) w := by
  intro vs
  induction vs with
  | nil => intro i acc _; simp [loadCellsFrom]
  | cons v r ih =>
    intro i acc h
    have hl : (load (a.add i)).run P w = .ok v w := by simp [load, Sem.run, h.1]
    simp only [List.length_cons, loadCellsFrom, Sem.run_bind, hl, Result.andThen_ok]
    rw [ih (i + 1) _ h.2]
    congr 1
    apply Array.ext'; simp

theorem load_rule {t : TypeId} {ad : Addr} {v : Value} (ha : aggB P t = some false) (hc : g = true → w.cell? ad = some v) (hk : K v w) : nLoad P g t (.pointer (some ad)) w K := by
  unfold nLoad
  refine nOp_now (fun hg => sv_run ?_) hk
  simp only [Instr.loadAt, Instr.sureAddr, Sem.run_bind, Sem.run_pure, Result.andThen_ok, loadVar, run_isAgg ha]
  simp [load, Sem.run, hc hg]
theorem loadA_run {t : TypeId} {ad : Addr} {m : Nat} {vs : List Value} (ha : aggB P t = some true) (hs : sizeB P t = some m) (hl : vs.length = m) (hc : cellsAt w ad 0 vs) : (loadVar t ad).run P w = .ok (.agg vs.toArray) w := by
  subst hl
  have := run_loadCellsFrom (P := P) vs 0 #[] hc
  simp only [loadVar, Sem.run_bind, run_isAgg ha, Result.andThen_ok, if_true, run_sizeOf hs, loadCells, this, Sem.run_pure]
  simp
theorem load1_run {t : TypeId} {ad : Addr} {v : Value} (ha : aggB P t = some false) (hc : w.cell? ad = some v) : (loadVar t ad).run P w = .ok v w := by
  simp only [loadVar, Sem.run_bind, run_isAgg ha, Result.andThen_ok]
  simp [load, Sem.run, hc]
theorem loadA_rule {t : TypeId} {ad : Addr} {m : Nat} (vs : List Value) (ha : aggB P t = some true) (hs : sizeB P t = some m) (hl : vs.length = m) (hc : g = true → cellsAt w ad 0 vs) (hk : K (.agg vs.toArray) w) : nLoad P g t (.pointer (some ad)) w K := by
  unfold nLoad
  exact nOp_now (fun hg => sv_run (loadA_run ha hs hl (hc hg))) hk

def oneV : Value → Bool
  | .agg _ => false
  | .tuple _ => false
  | _ => true
def setCells (w : World) (a : Addr) : Nat → List Value → World
  | _, [] => w
  | i, v :: r => setCells (w.setCell (a.add i) v) a (i + 1) r
theorem run_store {ad : Addr} {u v : Value} (hc : w.cell? ad = some u) (hf : w.frozen? ad = false) (hv : oneV v = true) : (store ad v).run P w = .ok () (w.setCell ad v) := by
  cases v <;> first | (simp [oneV] at hv; done) | simp [store, Sem.run, hc, hf]
theorem cells_one {v : Value} (h : oneV v = true) : v.cells = #[v] := by cases v <;> first | rfl | (simp [oneV] at h)
theorem store_rule {t : TypeId} {ad : Addr} {u v : Value} (hs : sizeB P t = some 1) (hc : w.cell? ad = some u) (hf : w.frozen? ad = false) (hv : oneV v = true) (hk : K undef (w.setCell ad v)) : nStore P true t (.pointer (some ad)) v w K := by
  unfold nStore
  refine nOp_in ⟨fun _ => ?_, fun h => by cases h⟩
  rw [su_run (w' := w.setCell ad v)]
  · exact hk
  · have e : ad.add 0 = ad := rfl
    simp only [Instr.storeAt, Instr.sureAddr, Sem.run_bind, Sem.run_pure, Result.andThen_ok, storeVar, run_sizeOf hs, cells_one hv]
    simp [storeCells, e, run_store hc hf hv]

theorem box_rule {t : TypeId} {x : Value} (hk : K (.pointer (some ⟨w.heap.size, 0, none⟩)) (w.alloc (.cells x.cells t))) : nBox P true t x w K := by
  unfold nBox
  refine nOp_in ⟨fun _ => ?_, fun h => by cases h⟩
  rw [sv_run (v := .pointer (some ⟨w.heap.size, 0, none⟩)) (w' := w.alloc (.cells x.cells t))]
  · exact hk
  · simp [Instr.box, newVar, newRow, newObj, Sem.run]
def zeroB (P : Program) (t : TypeId) : Option Value := match P.info? t with | some i => i.zero | none => none
theorem run_zero {t : TypeId} {z : Value} (h : zeroB P t = some z) : (zeroValue t).run P w = .ok z w := by
  unfold zeroB at h
  split at h
  · rename_i i hi; simp [zeroValue, typeInfo, program, Sem.run, hi, h]
  · cases h
theorem alloc_rule {t : TypeId} {z : Value} (hz : zeroB P t = some z) (hk : K (.pointer (some ⟨w.heap.size, 0, none⟩)) (w.alloc (.cells z.cells t))) : nAlloc P true t w K := by
  unfold nAlloc
  refine nOp_in ⟨fun _ => ?_, fun h => by cases h⟩
  rw [sv_run (v := .pointer (some ⟨w.heap.size, 0, none⟩)) (w' := w.alloc (.cells z.cells t))]
  · exact hk
  · simp [Instr.alloc, run_zero hz, newVar, newRow, newObj, Sem.run]

/-! The same over what is owned. -/
theorem own_box {t : TypeId} {x : Value} (H : Own ok w0 w L) (cs : List Value) (hx : x.cells = cs.toArray) (hk : ∀ g w', Own ok w0 w' (.blk g cs t :: L) → K (.pointer (some ⟨g, 0, none⟩)) w') : nBox P true t x w K :=
  box_rule (hk _ _ (by rw [hx]; exact H.alloc cs t))
theorem own_alloc {t : TypeId} {z : Value} (H : Own ok w0 w L) (hz : zeroB P t = some z) (cs : List Value) (hx : z.cells = cs.toArray) (hk : ∀ g w', Own ok w0 w' (.blk g cs t :: L) → K (.pointer (some ⟨g, 0, none⟩)) w') : nAlloc P true t w K :=
  alloc_rule hz (hk _ _ (by rw [hx]; exact H.alloc cs t))
theorem own_load {t t' : TypeId} {b j : Nat} {cs : List Value} {v : Value} (H : Own ok w0 w L) (i : Nat) (hi : L[i]? = some (.blk b cs t')) (ha : aggB P t = some false) (hj : cs[j]? = some v) (hk : K v w) : nLoad P g t (.pointer (some ⟨b, j, none⟩)) w K :=
  load_rule ha (fun _ => H.cell i hi j hj) hk
theorem add_at (b j k : Nat) : (⟨b, j, none⟩ : Addr).add k = ⟨b, j + k, none⟩ := by unfold Addr.add; split <;> simp_all
theorem cellsAt_blk {w : World} {b : Nat} {cs : List Value} {t : TypeId} (h : w.heap[b]? = some (.cells cs.toArray t (0, 0))) (off : Nat) : ∀ (vs : List Value) (k : Nat), (∀ j v, vs[j]? = some v → cs[off + k + j]? = some v) → cellsAt w ⟨b, off, none⟩ k vs := by
  intro vs
  induction vs with
  | nil => intro k _; trivial
  | cons v r ih =>
    intro k hv
    refine ⟨?_, ih (k + 1) fun j u hu => ?_⟩
    · rw [add_at, cell_of_row w b (off + k) cs.toArray t (0, 0) h]
      have := hv 0 v rfl
      simpa using this
    · have := hv (j + 1) u (by simpa using hu)
      rw [← this]; congr 1; omega
theorem own_loadA {t t' : TypeId} {b off m : Nat} {cs : List Value} (H : Own ok w0 w L) (i : Nat) (hi : L[i]? = some (.blk b cs t')) (ha : aggB P t = some true) (hs : sizeB P t = some m) (vs : List Value) (hv : (cs.drop off).take m = vs) (hl : vs.length = m) (hk : K (.agg vs.toArray) w) : nLoad P g t (.pointer (some ⟨b, off, none⟩)) w K := by
  refine loadA_rule vs ha hs hl (fun _ => cellsAt_blk (H.blk i hi) off vs 0 fun j v hj => ?_) hk
  subst hv
  rw [List.getElem?_take] at hj
  split at hj
  · simpa using hj
  · cases hj
theorem own_store {t t' : TypeId} {b j : Nat} {cs : List Value} {u v : Value} (H : Own ok w0 w L) (i : Nat) (hi : L[i]? = some (.blk b cs t')) (hs : sizeB P t = some 1) (hj : cs[j]? = some u) (hv : oneV v = true) (hk : ∀ w', Own ok w0 w' (L.set i (.blk b (cs.set j v) t')) → K undef w') : nStore P true t (.pointer (some ⟨b, j, none⟩)) v w K :=
  store_rule hs (H.cell i hi j hj) (H.free i hi j) hv (hk _ (H.store i hi j v))

theorem own_setCells {t' : TypeId} {b : Nat} (i : Nat) : ∀ (vs : List Value) (w : World) (L : List Item) (cs : List Value) (off k : Nat), Own ok w0 w L → L[i]? = some (.blk b cs t') → Own ok w0 (setCells w ⟨b, off, none⟩ k vs) (L.set i (.blk b (setRange cs (off + k) vs) t')) := by
  intro vs
  induction vs with
  | nil =>
    intro w L cs off k H hi
    have : L.set i (.blk b cs t') = L := by
      apply List.ext_getElem?
      intro j
      rw [List.getElem?_set]
      split
      · subst_vars
        split
        · exact hi.symm
        · rename_i h1; rw [List.getElem?_eq_none (by omega)] at hi; cases hi
      · rfl
    simp only [setCells, setRange]; rw [this]; exact H
  | cons v r ih =>
    intro w L cs off k H hi
    have h1 := H.store i hi (off + k) v
    have hlen : i < L.length := (List.getElem?_eq_some_iff.1 hi).1
    have h2 := ih _ _ (cs.set (off + k) v) off (k + 1) h1 (by simp [hlen])
    rw [List.set_set] at h2
    simp only [setCells, setRange, add_at]
    exact h2
theorem run_storeCells {a : Addr} : ∀ (vs : List Value) (k : Nat) (w : World), (∀ v ∈ vs, oneV v = true) → (∀ j v, vs[j]? = some v → (∃ u, w.cell? (a.add (k + j)) = some u) ∧ w.frozen? (a.add (k + j)) = false) → (storeCells a vs k).run P w = .ok () (setCells w a k vs) := by
  intro vs
  induction vs with
  | nil => intro k w _ _; rfl
  | cons v r ih =>
    intro k w h1 h2
    obtain ⟨⟨u, hu⟩, hf⟩ := h2 0 v rfl
    rw [Nat.add_zero] at hu hf
    simp only [storeCells, Sem.run_bind, run_store hu hf (h1 v (by simp)), Result.andThen_ok, setCells]
    refine ih (k + 1) _ (fun x hx => h1 x (List.mem_cons_of_mem _ hx)) fun j x hx => ?_
    obtain ⟨⟨u', hu'⟩, hf'⟩ := h2 (j + 1) x (by simpa using hx)
    have e : k + 1 + j = k + (j + 1) := by omega
    rw [e]
    refine ⟨?_, ?_⟩
    · obtain ⟨v', hv'⟩ := cell?_setCell_some (w := w) (p := a.add k) (x := v) (q := a.add (k + (j + 1))) (v := u') hu'
      exact ⟨_, hv'⟩
    · rw [World.frozen?_setCell]; exact hf'
theorem own_storeA {t t' : TypeId} {b off m : Nat} {cs : List Value} {x : Value} (H : Own ok w0 w L) (i : Nat) (hi : L[i]? = some (.blk b cs t')) (hs : sizeB P t = some m) (vs : List Value) (hx : x.cells = vs.toArray) (hl : vs.length = m) (ho : ∀ v ∈ vs, oneV v = true) (hr : off + m ≤ cs.length)
    (hk : ∀ w', Own ok w0 w' (L.set i (.blk b (setRange cs off vs) t')) → K undef w') : nStore P true t (.pointer (some ⟨b, off, none⟩)) x w K := by
  unfold nStore
  refine nOp_in ⟨fun _ => ?_, fun h => by cases h⟩
  rw [su_run (w' := setCells w ⟨b, off, none⟩ 0 vs)]
  · have := own_setCells (t' := t') i vs w L cs off 0 H hi
    exact hk _ this
  · have hsz : x.cells.size = m := by rw [hx]; simpa using hl
    simp only [Instr.storeAt, Instr.sureAddr, Sem.run_bind, Sem.run_pure, Result.andThen_ok, storeVar, run_sizeOf hs, hsz]
    simp only [ne_eq, not_true, if_false, hx]
    refine run_storeCells vs 0 w ho fun j v hj => ?_
    have hjl : j < vs.length := (List.getElem?_eq_some_iff.1 hj).1
    rw [add_at]
    exact ⟨⟨_, H.cell i hi _ (List.getElem?_eq_getElem (by omega))⟩, H.free i hi _⟩
end rules
/-- Where nothing else is said the frame tells nothing of draws. -/
instance noKeep : Inhabited Keep := ⟨⟨false⟩⟩
end Go.Eng
/- The engine's rule for a statement whose order Go leaves open: it is enough to go through it in the text's order, if what has an effect stands in one order and what only reads may stand anywhere. Proved once, over any program. -/
set_option linter.unusedVariables false
namespace Go.Eng
open Go.RowKit
set_option linter.unusedSectionVars false
variable [Inhabited Keep]

/-- What operations must come ahead of each: a certificate, as bits. -/
def befs : List Oper → List Nat → List Nat
  | [], acc => acc
  | o :: r, acc => befs r (acc ++ [o.after.toList.foldl (fun s e => if Region.binds .any e then s ||| 2 ^ e.on ||| acc.getD e.on 0 else s) 0])
def bit (B : List Nat) (j i : Nat) : Bool := (B.getD j 0).testBit i

def hasF : List FuncId → FuncId → Bool
  | [], _ => false
  | g :: r, f => match Nat.beq g f with | true => true | false => hasF r f
/-- Calls of these functions only read, and hand back what is known. -/
def quiet (QF : List FuncId) (o : Oper) : Bool := match o.op with
  | .call { callee := .value (.func f), .. } => hasF QF f
  | _ => false
/-- Has it an effect, or hangs it on one? -/
def isEvent (QF : List FuncId) (o : Oper) : Bool :=
  match o.op with
  | .call { callee := .value (.func f), .. } => !hasF QF f
  | .move _ | .assign _ | .pick .. | .load .. | .nilCheck _ | .binOp .. | .unOp .. | .makeInterface .. | .makeFunc .. | .build .. | .extract .. | .field .. | .fieldAddr .. | .indexAddr .. | .index .. | .lookup .. | .slice .. => false
  | .convert .. => false
  | .call { callee := .builtin b, .. } => match b with | .len | .cap | .max | .min => false | _ => true
  | _ => true
def isHard (o : Oper) : Bool :=
  match o.op with
  | .store .. | .mapUpdate .. | .insert .. | .entryStore .. => true
  | .call { callee := .builtin _, .. } => true
  | .call { callee := .value (.func _), .. } => false
  | .call { callee := .value _, .. } => true
  | _ => false
def reads (o : Oper) : Bool :=
  match o.op with
  | .load .. | .lookup .. => true
  | .call _ => true
  | .convert .. => true
  | .binOp .. => true
  | _ => false

def tmpsOf (l : List Operand) : List Nat := l.filterMap fun | .tmp t => some t | _ => none
def guardSlot (ops : List Oper) (o : Oper) : List Nat := match o.guard with
  | some (g, _) => match ops[g]? with | some og => og.dst.toList | none => []
  | none => []
def looks (ops : List Oper) (o : Oper) : List Nat := tmpsOf o.op.operands.toList ++ guardSlot ops o
def apartB (ops : List Oper) (o p : Oper) : Bool :=
  match o.dst with
  | some d => !((looks ops p).contains d) && !(p.dst == some d) && (match p.dst with | some d' => !((looks ops o).contains d') | none => true)
  | none => match p.dst with | some d' => !((looks ops o).contains d') | none => true

def rank (QF : List FuncId) (ops : List Oper) (i : Nat) : Nat := ((List.range i).filter fun k => match ops[k]? with | some o => isEvent QF o | none => false).length

/-- Does it look at what stands through the whole statement? -/
def freeN (NT : List Nat) (j : Nat) : Bool := Nat.beq (NT.getD j 0) 1000
/-- What is asked of a pair, the first one ahead in the text (i, o; j, p), that is not bound to that order. -/
def pairOk (QF : List FuncId) (ops : List Oper) (NT : List Nat) (i : Nat) (o : Oper) (j : Nat) (p : Oper) : Bool :=
  apartB ops o p && !(isEvent QF o && isEvent QF p) && (!(isHard o && isEvent QF o && reads p) || freeN NT j) && (!(isHard p && isEvent QF p && reads o) || freeN NT i) &&
  (!(isEvent QF o) || (!(reads p) || (freeN NT j || Nat.ble (NT.getD j 0) (rank QF ops i))))
def noSel (o : Oper) : Bool := match o.op with | .select .. => false | .defer .. => false | _ => true

def rowOk (QF : List FuncId) (ops : List Oper) (B NT : List Nat) (j : Nat) (o : Oper) : Bool :=
  noSel o &&
  (o.after.toList.all fun e => !Region.binds .any e || Nat.blt e.on j) &&
  ((List.range ops.length).all fun i => match ops[i]? with
    | none => true
    | some p => if Nat.blt i j then
        (if bit B j i then ((B.getD i 0 ||| B.getD j 0) == B.getD j 0) && (o.after.toList.any fun e => Region.binds .any e && (Nat.beq e.on i || bit B e.on i)) else pairOk QF ops NT i p j o) &&
        (!(isHard p && isEvent QF p && reads o) || (freeN NT j || Nat.blt (rank QF ops i) (NT.getD j 0))) &&
        (match p.dst with | some d => !(o.dst == some d) | none => true)
      else !bit B j i) &&
  (match o.guard with
   | none => true
   | some (g, _) => bit B j g && (match ops[g]? with | some og => og.dst.isSome | none => false))
def drawOk (QF : List FuncId) (n : Nat) (ops : List Oper) (B NT : List Nat) : Bool := dstsOk n ops && ((List.range ops.length).all fun j => match ops[j]? with | none => true | some o => rowOk QF ops B NT j o)

/-! ### The frame, as a function -/
abbrev FEnv := Nat → Option (Gs × Value)
structure FitsF (n : Nat) (F : FEnv) (a : Act) : Prop where
  size : a.tmps.size = n
  yes : ∀ t gs v, F t = some (gs, v) → holds a gs → a.tmps.getD t undef = v
  no : ∀ t gs v, F t = some (gs, v) → ¬ holds a gs → a.tmps.getD t undef = undef

def fput (F : FEnv) (dst : Option Tmp) (gs : Gs) (v : Value) : FEnv := match dst with
  | some d => fun t => if t = d then some (gs, v) else F t
  | none => F
def fgof (ops : List Oper) (F : FEnv) (o : Oper) : Gs :=
  match o.guard with
  | none => []
  | some (j, want) => match ops[j]? with
    | none => []
    | some oj => match oj.dst with
      | none => []
      | some s => match F s with
        | some (gs, _) => (s, want) :: gs
        | none => [(s, want)]

/-- No entry's guards name the slot. -/
def freeOf (F : FEnv) (d : Nat) : Prop := ∀ t gs v, F t = some (gs, v) → ∀ p ∈ gs, p.1 ≠ d

theorem holds_put' {a : Act} {d : Nat} {v : Value} {gs : Gs} (h : ∀ p ∈ gs, p.1 ≠ d) : holds (a.put (some d) v) gs ↔ holds a gs := by
  have key : ∀ p ∈ gs, (a.put (some d) v).tmps.getD p.1 undef = a.tmps.getD p.1 undef := fun p hp => getD_put_ne (Ne.symm (h p hp))
  exact ⟨fun hh p hp => (key p hp) ▸ hh p hp, fun hh p hp => (key p hp).trans (hh p hp)⟩

theorem FitsF.put {n : Nat} {F : FEnv} {a : Act} {dst : Option Tmp} {gs : Gs} {u v : Value} (h : FitsF n F a) (hd : ∀ d, dst = some d → d < n ∧ freeOf F d ∧ ∀ p ∈ gs, p.1 ≠ d)
    (hu : (holds a gs → u = v) ∧ (¬ holds a gs → u = undef)) : FitsF n (fput F dst gs v) (a.put dst u) := by
  cases dst with
  | none => exact h
  | some d =>
    obtain ⟨h1, h2, h3⟩ := hd d rfl
    have hda : d < a.tmps.size := by rw [h.size]; exact h1
    refine ⟨by rw [put_size]; exact h.size, fun t gs' x hx hh => ?_, fun t gs' x hx hh => ?_⟩
    · simp only [fput] at hx
      split at hx
      · subst_vars; cases hx; rw [getD_put_same hda]; exact hu.1 ((holds_put' h3).1 hh)
      · rename_i hne; rw [getD_put_ne (Ne.symm hne)]; exact h.yes t gs' x hx ((holds_put' (h2 t gs' x hx)).1 hh)
    · simp only [fput] at hx
      split at hx
      · subst_vars; cases hx; rw [getD_put_same hda]; exact hu.2 (fun k => hh ((holds_put' h3).2 k))
      · rename_i hne; rw [getD_put_ne (Ne.symm hne)]; exact h.no t gs' x hx (fun k => hh ((holds_put' (h2 t gs' x hx)).2 k))

/-- The list that a float looks at. -/
def lsAt (NT : List Nat) (Lb : List Item) (Ls : List (List Item)) (j : Nat) : Option (List Item) := match freeN NT j with | true => some Lb | false => Ls[NT.getD j 0]?
theorem lsAt_append {NT : List Nat} {Lb : List Item} {Ls X : List (List Item)} {j : Nat} (h : freeN NT j = true ∨ NT.getD j 0 < Ls.length) : lsAt NT Lb (Ls ++ X) j = lsAt NT Lb Ls j := by
  unfold lsAt
  cases hf : freeN NT j with
  | true => rfl
  | false =>
    rcases h with h | h
    · rw [hf] at h; cases h
    · exact List.getElem?_append_left h
/-! ### Through the text -/
section
variable (P : Program) (QF : List FuncId) (QV : Nat → Value) (n : Nat) (ops : List Oper) (NT : List Nat) (Lb : List Item) (ok : Nat → Prop) (w0 : World) (KF : FEnv → World → Prop)


def yieldsAt (F : FEnv) (Ls : List (List Item)) (j : Nat) (o : Oper) (c : Value) : Prop :=
  ∀ a, FitsF n F a → holds a (fgof ops F o) → ∀ w, (reads o = true → ∃ L, lsAt NT Lb Ls j = some L ∧ Own ok w0 w L) →
    match quiet QF o with
    | false => (execOp a.eval o).run P w = .ok (.value c) w
    | true => upon P (fun v w' => v = c ∧ Bel w.heap.size w w') ((execOp a.eval o).run P w)
def actsAt (F : FEnv) (L : List Item) (o : Oper) (G : Value → List Item → Prop) : Prop :=
  ∀ a, FitsF n F a → ∀ w, Own ok w0 w L → ((holds a (fgof ops F o) → upon P (fun v w' => ∃ L', G v L' ∧ Own ok w0 w' L') ((execOp a.eval o).run P w)) ∧ (¬ holds a (fgof ops F o) → ∃ v L', G v L' ∧ Own ok w0 w L'))

/-- What the frame says of an operation's guards is the same in each that fits. -/
def detAt (F : FEnv) (o : Oper) : Prop := (∀ a, FitsF n F a → holds a (fgof ops F o)) ∨ ∀ a, FitsF n F a → ¬ holds a (fgof ops F o)

def lexC : List (Nat × Oper) → FEnv → List (List Item) → Prop
  | [], F, Ls => ∀ L, Ls.getLast? = some L → ∀ w, Own ok w0 w L → KF F w
  | (j, o) :: R, F, Ls => match isEvent QF o with
    | false => ∃ c, (quiet QF o = true → c = QV j) ∧ (reads o = true → freeN NT j = true ∨ NT.getD j 0 < Ls.length) ∧ yieldsAt P QF n ops NT Lb ok w0 F Ls j o c ∧ detAt n ops F o ∧ lexC R (fput F o.dst (fgof ops F o) c) Ls
    | true => ∃ L G, Ls.getLast? = some L ∧ (isHard o = false → ∀ v L', G v L' → L.Sublist L') ∧ (∀ v L', G v L' → (∃ w, Own ok w0 w L') → Lb.Sublist L') ∧ actsAt P n ops ok w0 F L o G ∧
        ∀ v L', G v L' → (∃ w, Own ok w0 w L') → lexC R (fput F o.dst (fgof ops F o) v) (Ls ++ [L'])
end

/-! ### The static facts -/
structure Stat (QF : List FuncId) (n : Nat) (ops : List Oper) (B NT : List Nat) : Prop where
  dst_lt : ∀ (j : Nat) (o : Oper) (d : Nat), ops[j]? = some o → o.dst = some d → d < n
  nosel : ∀ (j : Nat) (o : Oper), ops[j]? = some o → ∀ cs b, o.op ≠ .select cs b
  nodef : ∀ (j : Nat) (o : Oper), ops[j]? = some o → ∀ c, o.op ≠ .defer c
  edge_lt : ∀ (j : Nat) (o : Oper), ops[j]? = some o → ∀ e ∈ o.after, Region.binds .any e = true → e.on < j
  bound : ∀ (j i : Nat) (o p : Oper), ops[j]? = some o → ops[i]? = some p → bit B j i = true → i < j ∧ (∃ e ∈ o.after, Region.binds .any e = true ∧ (e.on = i ∨ bit B e.on i = true)) ∧ (∀ k, bit B i k = true → bit B j k = true)
  pair : ∀ (j i : Nat) (o p : Oper), ops[j]? = some o → ops[i]? = some p → i < j → bit B j i = false → pairOk QF ops NT i p j o = true
  hard : ∀ (j i : Nat) (o p : Oper), ops[j]? = some o → ops[i]? = some p → i < j → isHard p = true → isEvent QF p = true → reads o = true → freeN NT j = true ∨ rank QF ops i < NT.getD j 0
  dist : ∀ (j i : Nat) (o p : Oper) (d : Nat), ops[j]? = some o → ops[i]? = some p → i < j → p.dst = some d → o.dst ≠ some d
  guard : ∀ (j : Nat) (o : Oper) (g : Nat) (b : Bool), ops[j]? = some o → o.guard = some (g, b) → bit B j g = true ∧ ∃ og s, ops[g]? = some og ∧ og.dst = some s

theorem stat_of {QF : List FuncId} {n : Nat} {ops : List Oper} {B NT : List Nat} (h : drawOk QF n ops B NT = true) : Stat QF n ops B NT := by
  simp only [drawOk, Bool.and_eq_true, List.all_eq_true, List.mem_range] at h
  obtain ⟨h1, h2⟩ := h
  have row : ∀ (j : Nat) (o : Oper), ops[j]? = some o → rowOk QF ops B NT j o = true := fun j o ho => by
    have := h2 j (List.getElem?_eq_some_iff.1 ho).1
    simpa [ho] using this
  have parts : ∀ (j : Nat) (o : Oper), ops[j]? = some o → _ := fun j o ho => by
    have := row j o ho
    simp only [rowOk, Bool.and_eq_true, List.all_eq_true, List.mem_range] at this
    exact this
  refine ⟨dstsOk_spec h1, fun j o ho cs b he => ?_, fun j o ho c he => ?_, fun j o ho e he hb => ?_, fun j i o p ho hp hb => ?_, fun j i o p ho hp hlt hb => ?_, fun j i o p ho hp hlt hh he hr => ?_, fun j i o p d ho hp hlt hd hd' => ?_, fun j o g b ho hg => ?_⟩
  · have := (parts j o ho).1.1.1
    simp [noSel, he] at this
  · have := (parts j o ho).1.1.1
    simp [noSel, he] at this
  · have := (parts j o ho).1.1.2 e (by simpa using he)
    rw [hb] at this
    simpa [Nat.blt_eq] using this
  · have := (parts j o ho).1.2 i (List.getElem?_eq_some_iff.1 hp).1
    rw [hp] at this
    simp only at this
    split at this
    · rename_i hlt
      have hlt' : i < j := by simpa [Nat.blt_eq] using hlt
      simp only [Bool.and_eq_true, List.any_eq_true, Bool.or_eq_true, beq_iff_eq] at this
      obtain ⟨⟨⟨h3, e, he, hbe, h4⟩, _⟩, _⟩ := this
      refine ⟨hlt', ⟨e, by simpa using he, hbe, h4.imp Nat.eq_of_beq_eq_true id⟩, fun k hk => ?_⟩
      unfold bit at hk ⊢
      rw [← h3, Nat.testBit_or, hk]; rfl
    · simp [hb] at this
  · have := (parts j o ho).1.2 i (List.getElem?_eq_some_iff.1 hp).1
    rw [hp] at this
    simp only [show Nat.blt i j = true by simpa [Nat.blt_eq] using hlt, if_true, hb, Bool.false_eq_true, if_false, Bool.and_eq_true] at this
    exact this.1.1
  · have := (parts j o ho).1.2 i (List.getElem?_eq_some_iff.1 hp).1
    rw [hp] at this
    simp only [show Nat.blt i j = true by simpa [Nat.blt_eq] using hlt, if_true, Bool.and_eq_true] at this
    have h5 := this.1.2
    simp only [hh, he, hr, Bool.and_self, Bool.not_true, Bool.false_or, Bool.or_eq_true] at h5
    exact h5.imp id fun h => by simpa [Nat.blt_eq] using h
  · have := (parts j o ho).1.2 i (List.getElem?_eq_some_iff.1 hp).1
    rw [hp] at this
    simp only [show Nat.blt i j = true by simpa [Nat.blt_eq] using hlt, if_true, Bool.and_eq_true] at this
    have h5 := this.2
    rw [hd] at h5
    simp [hd'] at h5
  · have := (parts j o ho).2
    rw [hg] at this
    simp only [Bool.and_eq_true] at this
    refine ⟨this.1, ?_⟩
    have h6 := this.2
    split at h6
    · rename_i og hog
      obtain ⟨s, hs⟩ := Option.isSome_iff_exists.1 h6
      exact ⟨og, s, hog, hs⟩
    · cases h6

/-! ### Two that stand side by side may change places -/
theorem apart_spec {ops : List Oper} {o p : Oper} (h : apartB ops o p = true) : (∀ d, o.dst = some d → d ∉ looks ops p ∧ p.dst ≠ some d) ∧ (∀ d, p.dst = some d → d ∉ looks ops o) := by
  unfold apartB at h
  cases ho : o.dst with
  | none =>
    rw [ho] at h
    refine ⟨fun d hd => (by cases hd), fun d hd => ?_⟩
    rw [hd] at h; simpa using h
  | some x =>
    rw [ho] at h
    simp only [Bool.and_eq_true, Bool.not_eq_true'] at h
    obtain ⟨⟨h1, h2⟩, h3⟩ := h
    refine ⟨fun d hd => ?_, fun d hd => ?_⟩
    · cases hd
      exact ⟨by simpa using h1, by simpa using h2⟩
    · rw [hd] at h3; simpa using h3

theorem mem_tmpsOf {t : Nat} {l : List Operand} (h : Operand.tmp t ∈ l) : t ∈ tmpsOf l := by
  unfold tmpsOf
  exact List.mem_filterMap.2 ⟨_, h, rfl⟩
theorem exec_put {ops : List Oper} {o : Oper} (hs : ∀ cs b, o.op ≠ .select cs b) (a : Act) (dst : Option Tmp) (v : Value) (h : ∀ d, dst = some d → d ∉ looks ops o) : execOp (a.put dst v).eval o = execOp a.eval o :=
  execOp_congr o hs fun x hx => Act.eval_put fun d hd hxd => h d hd (by
    subst hxd
    exact List.mem_append_left _ (mem_tmpsOf (by simpa using hx)))

theorem fgof_put {ops : List Oper} {F : FEnv} {o : Oper} {dst : Option Tmp} {gs : Gs} {v : Value} (h : ∀ d, dst = some d → d ∉ guardSlot ops o) : fgof ops (fput F dst gs v) o = fgof ops F o := by
  cases dst with
  | none => rfl
  | some d =>
    have := h d rfl
    unfold fgof
    cases hg : o.guard with
    | none => rfl
    | some gw =>
      obtain ⟨g, want⟩ := gw
      simp only
      cases hog : ops[g]? with
      | none => rfl
      | some og =>
        simp only
        cases hd : og.dst with
        | none => rfl
        | some s =>
          simp only [guardSlot, hg, hog, hd, Option.toList, List.mem_singleton] at this
          simp only [fput]
          rw [if_neg (Ne.symm this)]

/-- The guards of an operation do not name a slot that is none of its guards'. -/
theorem fgof_free {ops : List Oper} {F : FEnv} {o : Oper} {d : Nat} (h : d ∉ guardSlot ops o) (hf : freeOf F d) : ∀ p ∈ fgof ops F o, p.1 ≠ d := by
  intro p hp
  unfold fgof at hp
  cases hg : o.guard with
  | none => rw [hg] at hp; cases hp
  | some gw =>
    obtain ⟨g, want⟩ := gw
    rw [hg] at hp
    simp only at hp
    cases hog : ops[g]? with
    | none => rw [hog] at hp; cases hp
    | some og =>
      rw [hog] at hp
      simp only at hp
      cases hd : og.dst with
      | none => rw [hd] at hp; cases hp
      | some s =>
        rw [hd] at hp
        simp only at hp
        simp only [guardSlot, hg, hog, hd, Option.toList, List.mem_singleton] at h
        cases hF : F s with
        | none =>
          rw [hF] at hp
          simp only [List.mem_singleton] at hp
          subst hp; exact fun e => h e.symm
        | some gv =>
          obtain ⟨gs', v'⟩ := gv
          rw [hF] at hp
          rcases List.mem_cons.1 hp with k | k
          · subst k; exact fun e => h e.symm
          · exact hf s gs' v' hF p k

theorem FitsF.unput {n : Nat} {F : FEnv} {a : Act} {dst : Option Tmp} {gs : Gs} {v : Value} (h : FitsF n (fput F dst gs v) a) (hd : ∀ d, dst = some d → d < n ∧ freeOf F d) : ∃ u, FitsF n F (a.put dst u) := by
  cases dst with
  | none => exact ⟨undef, h⟩
  | some d =>
    obtain ⟨h1, h2⟩ := hd d rfl
    have hda : d < a.tmps.size := by rw [h.size]; exact h1
    have key : ∀ u, (∀ gs' x, F d = some (gs', x) → (holds a gs' → u = x) ∧ (¬ holds a gs' → u = undef)) → FitsF n F (a.put (some d) u) := by
      intro u hu
      refine ⟨by rw [put_size]; exact h.size, fun t gs' x hx hh => ?_, fun t gs' x hx hh => ?_⟩
      · by_cases e : t = d
        · subst e; rw [getD_put_same hda]; exact (hu gs' x hx).1 ((holds_put' (h2 t gs' x hx)).1 hh)
        · rw [getD_put_ne (Ne.symm e)]; exact h.yes t gs' x (by simp only [fput]; rw [if_neg e]; exact hx) ((holds_put' (h2 t gs' x hx)).1 hh)
      · by_cases e : t = d
        · subst e; rw [getD_put_same hda]; exact (hu gs' x hx).2 (fun k => hh ((holds_put' (h2 t gs' x hx)).2 k))
        · rw [getD_put_ne (Ne.symm e)]; exact h.no t gs' x (by simp only [fput]; rw [if_neg e]; exact hx) (fun k => hh ((holds_put' (h2 t gs' x hx)).2 k))
    cases hF : F d with
    | none => exact ⟨undef, key undef (fun gs' x hx => by rw [hF] at hx; cases hx)⟩
    | some gv =>
      obtain ⟨gs', x⟩ := gv
      by_cases hh : holds a gs'
      · exact ⟨x, key x (fun gs2 x2 hx => by rw [hF] at hx; cases hx; exact ⟨fun _ => rfl, fun k => absurd hh k⟩)⟩
      · exact ⟨undef, key undef (fun gs2 x2 hx => by rw [hF] at hx; cases hx; exact ⟨fun k => absurd k hh, fun _ => rfl⟩)⟩

theorem fput_comm {F : FEnv} {d d' : Option Tmp} {gs gs' : Gs} {v v' : Value} (h : ∀ x, d = some x → d' ≠ some x) : fput (fput F d gs v) d' gs' v' = fput (fput F d' gs' v') d gs v := by
  cases d with
  | none => cases d' <;> rfl
  | some x =>
    cases d' with
    | none => rfl
    | some y =>
      have hne : x ≠ y := fun e => h x rfl (by rw [e])
      funext t
      simp only [fput]
      by_cases h1 : t = y
      · subst h1; rw [if_pos rfl, if_neg (Ne.symm hne), if_pos rfl]
      · rw [if_neg h1]
        by_cases h2 : t = x
        · rw [if_pos h2, if_pos h2]
        · rw [if_neg h2, if_neg h2, if_neg h1]

theorem upon_ex {P : Program} {K : Value → World → Prop} {r : Result Next} (h : upon P K r) : ∃ v w, K v w := by
  cases r with
  | halt x w => exact h.elim
  | ok x w =>
    cases x <;> simp only [upon] at h
    case value v => exact ⟨_, _, h⟩
    case skip => exact ⟨_, _, h⟩
    case enter f args =>
      obtain ⟨e, w', fr, he, _⟩ := h []
      cases e <;> first | exact ⟨_, _, he⟩ | exact he.elim
    case row r args =>
      obtain ⟨v, w', hv, _⟩ := h default [] (room_wide _)
      exact ⟨v, w', hv⟩
    case round l f tmps assign body =>
      obtain ⟨e, w', he, _⟩ := h.2 default [] (room_wide _)
      cases e <;> first | exact ⟨_, _, he⟩ | exact he.elim

section
variable {P : Program} {QF : List FuncId} {QV : Nat → Value} {n : Nat} {ops : List Oper} {B NT : List Nat} {Lb : List Item} {ok : Nat → Prop} {w0 : World} {KF : FEnv → World → Prop}

/-- The value put, by whether the guards hold. -/
theorem pick_u (a : Act) (gs : Gs) (c : Value) : ∃ u, (holds a gs → u = c) ∧ (¬ holds a gs → u = undef) := by
  by_cases h : holds a gs
  · exact ⟨c, fun _ => rfl, fun k => absurd h k⟩
  · exact ⟨undef, fun k => absurd k h, fun _ => rfl⟩

/-- An operation apart from another one: it looks the same whether the other one has been or not. -/
theorem yields_back {F : FEnv} {Ls : List (List Item)} {j : Nat} {p : Oper} {c v : Value} {dst : Option Tmp} {gs : Gs} (hs : ∀ cs b, p.op ≠ .select cs b) (hl : ∀ d, dst = some d → d ∉ looks ops p) (hd : ∀ d, dst = some d → d < n ∧ freeOf F d ∧ ∀ q ∈ gs, q.1 ≠ d)
    (h : yieldsAt P QF n ops NT Lb ok w0 (fput F dst gs v) Ls j p c) : yieldsAt P QF n ops NT Lb ok w0 F Ls j p c := by
  intro a hf hh w hw
  obtain ⟨u, hu⟩ := pick_u a gs v
  have hf' := hf.put (dst := dst) (gs := gs) hd hu
  have hg : ∀ d, dst = some d → d ∉ guardSlot ops p := fun d e k => hl d e (List.mem_append_right _ k)
  have := h (a.put dst u) hf' (by
    rw [fgof_put hg]
    cases dst with
    | none => exact hh
    | some d => exact (holds_put' (fgof_free (hg d rfl) (hd d rfl).2.1)).2 hh) w hw
  rwa [exec_put hs a dst u hl] at this
theorem yields_on {F : FEnv} {Ls : List (List Item)} {j : Nat} {p : Oper} {c v : Value} {dst : Option Tmp} {gs : Gs} (hs : ∀ cs b, p.op ≠ .select cs b) (hl : ∀ d, dst = some d → d ∉ looks ops p) (hd : ∀ d, dst = some d → d < n ∧ freeOf F d)
    (h : yieldsAt P QF n ops NT Lb ok w0 F Ls j p c) : yieldsAt P QF n ops NT Lb ok w0 (fput F dst gs v) Ls j p c := by
  intro a hf hh w hw
  obtain ⟨u, hf'⟩ := hf.unput hd
  have hg : ∀ d, dst = some d → d ∉ guardSlot ops p := fun d e k => hl d e (List.mem_append_right _ k)
  rw [fgof_put hg] at hh
  have := h (a.put dst u) hf' (by
    cases dst with
    | none => exact hh
    | some d => exact (holds_put' (fgof_free (hg d rfl) (hd d rfl).2)).2 hh) w hw
  rwa [exec_put hs a dst u hl] at this
theorem acts_back {F : FEnv} {L : List Item} {p : Oper} {G : Value → List Item → Prop} {v : Value} {dst : Option Tmp} {gs : Gs} (hs : ∀ cs b, p.op ≠ .select cs b) (hl : ∀ d, dst = some d → d ∉ looks ops p) (hd : ∀ d, dst = some d → d < n ∧ freeOf F d ∧ ∀ q ∈ gs, q.1 ≠ d)
    (h : actsAt P n ops ok w0 (fput F dst gs v) L p G) : actsAt P n ops ok w0 F L p G := by
  intro a hf w hw
  obtain ⟨u, hu⟩ := pick_u a gs v
  have hf' := hf.put (dst := dst) (gs := gs) hd hu
  have hg : ∀ d, dst = some d → d ∉ guardSlot ops p := fun d e k => hl d e (List.mem_append_right _ k)
  have hiff : holds (a.put dst u) (fgof ops F p) ↔ holds a (fgof ops F p) := by
    cases dst with
    | none => exact Iff.rfl
    | some d => exact holds_put' (fgof_free (hg d rfl) (hd d rfl).2.1)
  have := h (a.put dst u) hf' w hw
  rw [fgof_put hg, hiff, exec_put hs a dst u hl] at this
  exact this
theorem det_back {F : FEnv} {p : Oper} {v : Value} {dst : Option Tmp} {gs : Gs} (hl : ∀ d, dst = some d → d ∉ guardSlot ops p) (hd : ∀ d, dst = some d → d < n ∧ freeOf F d ∧ ∀ q ∈ gs, q.1 ≠ d)
    (h : detAt n ops (fput F dst gs v) p) : detAt n ops F p := by
  have key : ∀ a, FitsF n F a → ∃ a', FitsF n (fput F dst gs v) a' ∧ (holds a' (fgof ops F p) ↔ holds a (fgof ops F p)) := by
    intro a hf
    obtain ⟨u, hu⟩ := pick_u a gs v
    refine ⟨_, hf.put (dst := dst) (gs := gs) hd hu, ?_⟩
    cases dst with
    | none => exact Iff.rfl
    | some d => exact holds_put' (fgof_free (hl d rfl) (hd d rfl).2.1)
  unfold detAt at h ⊢
  rw [fgof_put hl] at h
  rcases h with h | h
  · exact .inl fun a hf => by obtain ⟨a', h1, h2⟩ := key a hf; exact h2.1 (h a' h1)
  · exact .inr fun a hf k => by obtain ⟨a', h1, h2⟩ := key a hf; exact h a' h1 (h2.2 k)
theorem det_on {F : FEnv} {p : Oper} {v : Value} {dst : Option Tmp} {gs : Gs} (hl : ∀ d, dst = some d → d ∉ guardSlot ops p) (hd : ∀ d, dst = some d → d < n ∧ freeOf F d)
    (h : detAt n ops F p) : detAt n ops (fput F dst gs v) p := by
  have key : ∀ a, FitsF n (fput F dst gs v) a → ∃ a', FitsF n F a' ∧ (holds a' (fgof ops F p) ↔ holds a (fgof ops F p)) := by
    intro a hf
    obtain ⟨u, hf'⟩ := hf.unput hd
    refine ⟨_, hf', ?_⟩
    cases dst with
    | none => exact Iff.rfl
    | some d => exact holds_put' (fgof_free (hl d rfl) (hd d rfl).2)
  unfold detAt at h ⊢
  rw [fgof_put hl]
  rcases h with h | h
  · exact .inl fun a hf => by obtain ⟨a', h1, h2⟩ := key a hf; exact h2.1 (h a' h1)
  · exact .inr fun a hf k => by obtain ⟨a', h1, h2⟩ := key a hf; exact h a' h1 (h2.2 k)

/-- Two frames that no act tells apart. -/
structure Sim (n : Nat) (F1 F2 : FEnv) : Prop where
  same : ∀ t, (F1 t).map (·.1) = (F2 t).map (·.1)
  bare : ∀ t v, F1 t = some ([], v) → F2 t = some ([], v)
  fits : ∀ a, FitsF n F1 a ↔ FitsF n F2 a
theorem Sim.free {F1 F2 : FEnv} (h : Sim n F1 F2) {d : Nat} (hf : freeOf F1 d) : freeOf F2 d := by
  intro t gs v hv q hq
  have := h.same t
  rw [hv] at this
  cases h1 : F1 t with
  | none => rw [h1] at this; cases this
  | some gv =>
    obtain ⟨gs', v'⟩ := gv
    rw [h1] at this
    simp at this
    subst this
    exact hf t _ v' h1 q hq
theorem Sim.gof {F1 F2 : FEnv} (h : Sim n F1 F2) (o : Oper) : fgof ops F2 o = fgof ops F1 o := by
  unfold fgof
  split
  · rfl
  · split
    · rfl
    · split
      · rfl
      · rename_i s _
        have := h.same s
        cases h1 : F1 s with
        | none => rw [h1] at this; cases h2 : F2 s with
          | none => rfl
          | some gv => rw [h2] at this; cases this
        | some gv =>
          rw [h1] at this
          cases h2 : F2 s with
          | none => rw [h2] at this; cases this
          | some gv' => rw [h2] at this; simp at this; simp [this]
theorem set_back {t : Array Value} {d : Nat} {u : Value} (hd : d < t.size) : (t.setIfInBounds d u).setIfInBounds d (t.getD d undef) = t := by
  apply Array.ext_getElem?
  intro i
  rw [Array.getElem?_setIfInBounds, Array.getElem?_setIfInBounds]
  by_cases e : d = i
  · subst e
    simp [hd, Array.getD]
  · simp [e]
theorem put_put (a : Act) (d : Nat) (u : Value) (hd : d < a.tmps.size) : (a.put (some d) u).put (some d) (a.tmps.getD d undef) = a := by
  obtain ⟨t, df⟩ := a
  show (⟨(t.setIfInBounds d u).setIfInBounds d (t.getD d undef), df⟩ : Act) = ⟨t, df⟩
  rw [set_back hd]
theorem fits_swap {F1 F2 : FEnv} (hS : ∀ a, FitsF n F1 a → FitsF n F2 a) {d : Nat} {gs : Gs} {v : Value} (hdn : d < n) (h1 : freeOf F1 d) (h2 : freeOf F2 d) (hg : ∀ q ∈ gs, q.1 ≠ d) {a : Act} (h : FitsF n (fput F1 (some d) gs v) a) : FitsF n (fput F2 (some d) gs v) a := by
  obtain ⟨u, hu⟩ := h.unput (fun x hx => by cases hx; exact ⟨hdn, h1⟩)
  have hda : d < a.tmps.size := by rw [h.size]; exact hdn
  have := (hS _ hu).put (dst := some d) (gs := gs) (u := a.tmps.getD d undef) (v := v) (fun x hx => by cases hx; exact ⟨hdn, h2, hg⟩)
    ⟨fun hh => h.yes d gs v (by simp [fput]) ((holds_put' hg).1 hh), fun hh => h.no d gs v (by simp [fput]) (fun k => hh ((holds_put' hg).2 k))⟩
  rwa [put_put a d u hda] at this
theorem Sim.put {F1 F2 : FEnv} (h : Sim n F1 F2) {dst : Option Tmp} {gs : Gs} {v : Value} (hd : ∀ d, dst = some d → d < n ∧ freeOf F1 d ∧ ∀ q ∈ gs, q.1 ≠ d) : Sim n (fput F1 dst gs v) (fput F2 dst gs v) := by
  cases dst with
  | none => exact h
  | some d =>
    obtain ⟨h1, h2, h3⟩ := hd d rfl
    refine ⟨fun t => ?_, fun t x hx => ?_, fun a => ⟨fits_swap (fun a => (h.fits a).1) h1 h2 (h.free h2) h3, fits_swap (fun a => (h.fits a).2) h1 (h.free h2) h2 h3⟩⟩
    · by_cases e : t = d
      · simp only [fput]; rw [if_pos e, if_pos e]
      · simp only [fput]; rw [if_neg e, if_neg e]; exact h.same t
    · simp only [fput] at hx ⊢
      split
      · rename_i e; rw [if_pos e] at hx; exact hx
      · rename_i e; rw [if_neg e] at hx; exact h.bare t x hx


def evList (QF : List FuncId) (ops : List Oper) : List Nat := (List.range ops.length).filter fun i => match ops[i]? with | some o => isEvent QF o | none => false

theorem evList_rank {i : Nat} {o : Oper} (hi : ops[i]? = some o) (he : isEvent QF o = true) : (evList QF ops)[rank QF ops i]? = some i := by
  have hlt : i < ops.length := (List.getElem?_eq_some_iff.1 hi).1
  let p : Nat → Bool := fun k => match ops[k]? with | some o => isEvent QF o | none => false
  have hp : p i = true := by show (match ops[i]? with | some o => isEvent QF o | none => false) = true; rw [hi]; exact he
  have hr : List.range ops.length = List.range i ++ i :: (List.range' (i + 1) (ops.length - i - 1)) := by
    have e : ops.length = i + (1 + (ops.length - i - 1)) := by omega
    rw [List.range_eq_range', List.range_eq_range', e, ← List.range'_append_1, ← List.range'_append_1]
    simp [List.range'_succ]
  have hf : evList QF ops = (List.range i).filter p ++ i :: (List.range' (i + 1) (ops.length - i - 1)).filter p := by
    show (List.range ops.length).filter p = _
    rw [hr, List.filter_append, List.filter_cons, if_pos hp]
  rw [hf]
  have : rank QF ops i = ((List.range i).filter p).length := rfl
  rw [this, List.getElem?_append_right (Nat.le_refl _)]
  simp
theorem evList_nodup : (evList QF ops).Nodup := List.nodup_range.filter _
theorem evList_inj {r r' m : Nat} (h : (evList QF ops)[r]? = some m) (h' : (evList QF ops)[r']? = some m) : r = r' := by
  obtain ⟨h1, h2⟩ := List.getElem?_eq_some_iff.1 h
  obtain ⟨h1', h2'⟩ := List.getElem?_eq_some_iff.1 h'
  exact (List.getElem_inj (h₀ := h1) (h₁ := h1') (evList_nodup (ops := ops))).1 (h2.trans h2'.symm)
theorem evList_sorted : (evList QF ops).Pairwise (· < ·) := List.pairwise_lt_range.filter _
theorem evList_mem {m : Nat} (h : m ∈ evList QF ops) : ∃ o, ops[m]? = some o ∧ isEvent QF o = true := by
  have := (List.mem_filter.1 h).2
  cases ho : ops[m]? with
  | none => rw [ho] at this; cases this
  | some o => rw [ho] at this; exact ⟨o, rfl, this⟩

/-- What stands of a list of operations that are still to come. -/
structure RInv (QF : List FuncId) (n : Nat) (ops : List Oper) (B : List Nat) (Lb : List Item) (ok : Nat → Prop) (w0 : World) (R : List (Nat × Oper)) (F : FEnv) (Ls : List (List Item)) : Prop where
  mem : ∀ q ∈ R, ops[q.1]? = some q.2
  compat : R.Pairwise (fun x y => bit B x.1 y.1 = false)
  free : ∀ q ∈ R, ∀ d, q.2.dst = some d → freeOf F d
  act : ∃ a, FitsF n F a
  world : ∃ L, Ls.getLast? = some L ∧ Lb.Sublist L ∧ ∃ w, Own ok w0 w L
  evs : ∃ k, ((R.filter fun q => isEvent QF q.2).map (·.1)) = (evList QF ops).drop k ∧ Ls.length = k + 1
  chain : ∀ r A C, Ls[r]? = some A → Ls[r + 1]? = some C → (∀ m o, (evList QF ops)[r]? = some m → ops[m]? = some o → isHard o = false) → A.Sublist C

theorem own_gs (st : Stat QF n ops B NT) {F : FEnv} {j : Nat} {o : Oper} (hj : ops[j]? = some o) (hf : ∀ d, o.dst = some d → freeOf F d) : ∀ d, o.dst = some d → d < n ∧ freeOf F d ∧ ∀ q ∈ fgof ops F o, q.1 ≠ d := by
  intro d hd
  refine ⟨st.dst_lt j o d hj hd, hf d hd, fgof_free (fun k => ?_) (hf d hd)⟩
  unfold guardSlot at k
  split at k
  · rename_i g b hg
    obtain ⟨hb, og, s, hog, hs⟩ := st.guard j o g b hj hg
    rw [hog] at k
    simp only [hs, Option.toList, List.mem_singleton] at k
    subst k
    exact st.dist j g o og d hj hog (st.bound j g o og hj hog hb).1 hs hd
  · cases k

theorem freeOf_put (st : Stat QF n ops B NT) {F : FEnv} {i j : Nat} {o p : Oper} {v : Value} (hi : ops[i]? = some o) (hj : ops[j]? = some p) (hb : bit B i j = false) {d : Nat} (hd : p.dst = some d) (hf : freeOf F d) : freeOf (fput F o.dst (fgof ops F o) v) d := by
  have hgs : d ∉ guardSlot ops o := by
    intro k
    unfold guardSlot at k
    split at k
    · rename_i g b hg
      obtain ⟨hbg, og, s, hog, hs⟩ := st.guard i o g b hi hg
      rw [hog] at k
      simp only [hs, Option.toList, List.mem_singleton] at k
      subst k
      have hne : g ≠ j := fun e => by rw [e, hb] at hbg; cases hbg
      rcases Nat.lt_or_gt_of_ne hne with h | h
      · exact st.dist j g p og d hj hog h hs hd
      · exact st.dist g j og p d hog hj h hd hs
    · cases k
  intro t gs x hx q hq
  cases hdo : o.dst with
  | none => rw [hdo] at hx; exact hf t gs x hx q hq
  | some e =>
    rw [hdo] at hx
    simp only [fput] at hx
    split at hx
    · cases hx; exact fgof_free hgs hf q hq
    · exact hf t gs x hx q hq

theorem RInv.float (st : Stat QF n ops B NT) {i : Nat} {o : Oper} {R : List (Nat × Oper)} {F : FEnv} {Ls : List (List Item)} {c : Value} (h : RInv QF n ops B Lb ok w0 ((i, o) :: R) F Ls) (he : isEvent QF o = false) : RInv QF n ops B Lb ok w0 R (fput F o.dst (fgof ops F o) c) Ls := by
  have hi := h.mem (i, o) (by simp)
  have hs := List.pairwise_cons.1 h.compat
  refine ⟨fun q hq => h.mem q (List.mem_cons_of_mem _ hq), hs.2, fun q hq d hd => ?_, ?_, h.world, ?_, h.chain⟩
  · have hq' := h.mem q (List.mem_cons_of_mem _ hq)
    exact freeOf_put st hi hq' (hs.1 q hq) hd (h.free q (List.mem_cons_of_mem _ hq) d hd)
  · obtain ⟨a, ha⟩ := h.act
    obtain ⟨u, hu⟩ := pick_u a (fgof ops F o) c
    exact ⟨_, ha.put (own_gs st hi (h.free (i, o) (by simp))) hu⟩
  · obtain ⟨k, h1, h2⟩ := h.evs
    exact ⟨k, by rw [← h1, List.filter_cons]; simp [he], h2⟩

theorem RInv.rank_eq {i : Nat} {o : Oper} {R : List (Nat × Oper)} {F : FEnv} {Ls : List (List Item)} (h : RInv QF n ops B Lb ok w0 ((i, o) :: R) F Ls) (he : isEvent QF o = true) : Ls.length = rank QF ops i + 1 := by
  obtain ⟨k, h1, h2⟩ := h.evs
  have hi := h.mem (i, o) (by simp)
  rw [List.filter_cons] at h1
  simp only [he, if_true, List.map_cons] at h1
  have hk : (evList QF ops)[k]? = some i := by
    have : ((evList QF ops).drop k)[0]? = some i := by rw [← h1]; rfl
    rw [List.getElem?_drop] at this; simpa using this
  have := evList_inj hk (evList_rank hi he)
  omega

theorem RInv.event (st : Stat QF n ops B NT) {i : Nat} {o : Oper} {R : List (Nat × Oper)} {F : FEnv} {Ls : List (List Item)} {v : Value} {L L' : List Item} (h : RInv QF n ops B Lb ok w0 ((i, o) :: R) F Ls) (he : isEvent QF o = true) (hL : Ls.getLast? = some L) (hsub : isHard o = false → L.Sublist L') (hbs : Lb.Sublist L') (hw : ∃ w, Own ok w0 w L') : RInv QF n ops B Lb ok w0 R (fput F o.dst (fgof ops F o) v) (Ls ++ [L']) := by
  have hi := h.mem (i, o) (by simp)
  have hs := List.pairwise_cons.1 h.compat
  have hrk := h.rank_eq he
  refine ⟨fun q hq => h.mem q (List.mem_cons_of_mem _ hq), hs.2, fun q hq d hd => ?_, ?_, ⟨L', by simp, hbs, hw⟩, ?_, fun r A C hA hC hh => ?_⟩
  · have hq' := h.mem q (List.mem_cons_of_mem _ hq)
    exact freeOf_put st hi hq' (hs.1 q hq) hd (h.free q (List.mem_cons_of_mem _ hq) d hd)
  · obtain ⟨a, ha⟩ := h.act
    obtain ⟨u, hu⟩ := pick_u a (fgof ops F o) v
    exact ⟨_, ha.put (own_gs st hi (h.free (i, o) (by simp))) hu⟩
  · obtain ⟨k, h1, h2⟩ := h.evs
    refine ⟨k + 1, ?_, by simp [h2]⟩
    rw [List.filter_cons] at h1
    simp only [he, if_true, List.map_cons] at h1
    rw [← List.drop_drop, ← h1]; rfl
  · by_cases hr : r + 1 < Ls.length
    · rw [List.getElem?_append_left hr] at hC
      rw [List.getElem?_append_left (by omega)] at hA
      exact h.chain r A C hA hC hh
    · have hlt : r + 1 < (Ls ++ [L']).length := (List.getElem?_eq_some_iff.1 hC).1
      simp only [List.length_append, List.length_cons, List.length_nil] at hlt
      have e : r + 1 = Ls.length := by omega
      rw [e, List.getElem?_append_right (Nat.le_refl _)] at hC
      simp only [Nat.sub_self, List.getElem?_cons_zero, Option.some.injEq] at hC
      subst hC
      rw [List.getElem?_append_left (by omega)] at hA
      have hA' : A = L := by
        rw [List.getLast?_eq_getElem?] at hL
        have : Ls.length - 1 = r := by omega
        rw [this, hA] at hL; exact Option.some.inj hL
      subst hA'
      refine hsub (hh i o ?_ hi)
      have : r = rank QF ops i := by omega
      rw [this]; exact evList_rank hi he

/-- What holds now holds as it was said before what has come since, if that only added. -/
theorem RInv.class_of {R : List (Nat × Oper)} {F : FEnv} {Ls : List (List Item)} (h : RInv QF n ops B Lb ok w0 R F Ls) {w : World} {L : List Item} (hL : Ls.getLast? = some L) (hw : Own ok w0 w L) (r : Nat) (hr : r < Ls.length)
    (hh : ∀ r' m o, r ≤ r' → r' + 1 < Ls.length → (evList QF ops)[r']? = some m → ops[m]? = some o → isHard o = false) : ∃ L', Ls[r]? = some L' ∧ Own ok w0 w L' := by
  obtain ⟨d, hd⟩ : ∃ d, r + d + 1 = Ls.length := ⟨Ls.length - 1 - r, by omega⟩
  induction d generalizing r with
  | zero =>
    refine ⟨L, ?_, hw⟩
    rw [List.getLast?_eq_getElem?] at hL
    have : Ls.length - 1 = r := by omega
    rwa [this] at hL
  | succ d ih =>
    obtain ⟨L', h1, h2⟩ := ih (r + 1) (by omega) (fun r' m o hr' => hh r' m o (by omega)) (by omega)
    have hA := List.getElem?_eq_getElem hr
    exact ⟨Ls[r], hA, h2.less (h.chain r _ _ hA h1 (fun m o hm ho => hh r m o (Nat.le_refl _) (by omega) hm ho))⟩

theorem lexC_sim (st : Stat QF n ops B NT) (hKF : ∀ F1 F2 w, Sim n F1 F2 → KF F1 w → KF F2 w) : ∀ (R : List (Nat × Oper)) {F1 F2 : FEnv} {Ls : List (List Item)}, RInv QF n ops B Lb ok w0 R F1 Ls → Sim n F1 F2 → lexC P QF QV n ops NT Lb ok w0 KF R F1 Ls → lexC P QF QV n ops NT Lb ok w0 KF R F2 Ls := by
  intro R
  induction R with
  | nil => intro F1 F2 Ls _ hS h L hL w hw; exact hKF F1 F2 w hS (h L hL w hw)
  | cons q R ih =>
    obtain ⟨i, o⟩ := q
    intro F1 F2 Ls inv hS h
    have hi := inv.mem (i, o) (by simp)
    have hfo := own_gs st hi (inv.free (i, o) (by simp))
    have hg : fgof ops F2 o = fgof ops F1 o := hS.gof o
    simp only [lexC] at h ⊢
    cases he : isEvent QF o with
    | false =>
      rw [he] at h
      obtain ⟨c, hq, h1, h2, h3, h4⟩ := h
      refine ⟨c, hq, h1, fun a hf hh w hw => h2 a ((hS.fits a).2 hf) (by rw [hg] at hh; exact hh) w hw, ?_, ?_⟩
      · unfold detAt at h3 ⊢
        rw [hg]
        exact h3.imp (fun k a hf => k a ((hS.fits a).2 hf)) (fun k a hf => k a ((hS.fits a).2 hf))
      · rw [hg]; exact ih (inv.float st he) (hS.put hfo) h4
    | true =>
      rw [he] at h
      obtain ⟨L, G, h1, h2, hbs, h3, h4⟩ := h
      refine ⟨L, G, h1, h2, hbs, fun a hf w hw => ?_, fun v L' hG hw => ?_⟩
      · rw [hg]; exact h3 a ((hS.fits a).2 hf) w hw
      · rw [hg]; exact ih (inv.event st he h1 (fun hh => h2 hh v L' hG) (hbs v L' hG hw) hw) (hS.put hfo) (h4 v L' hG hw)

theorem lexC_swap (st : Stat QF n ops B NT) (hKF : ∀ F1 F2 w, Sim n F1 F2 → KF F1 w → KF F2 w) {i j : Nat} {o p : Oper} {R : List (Nat × Oper)} {F : FEnv} {Ls : List (List Item)} (inv : RInv QF n ops B Lb ok w0 ((i, o) :: (j, p) :: R) F Ls) (hb : bit B j i = false) (hlt : i < j)
    (h : lexC P QF QV n ops NT Lb ok w0 KF ((i, o) :: (j, p) :: R) F Ls) : lexC P QF QV n ops NT Lb ok w0 KF ((j, p) :: (i, o) :: R) F Ls := by
  have hi := inv.mem (i, o) (by simp)
  have hj := inv.mem (j, p) (by simp)
  have hpair := st.pair j i p o hj hi hlt hb
  simp only [pairOk, Bool.and_eq_true] at hpair
  obtain ⟨⟨⟨⟨hap, hee⟩, hhr⟩, hhr'⟩, hef⟩ := hpair
  obtain ⟨ha1, ha2⟩ := apart_spec hap
  have hso := st.nosel i o hi
  have hsp := st.nosel j p hj
  have hlo : ∀ d, o.dst = some d → d ∉ looks ops p := fun d hd => (ha1 d hd).1
  have hlp : ∀ d, p.dst = some d → d ∉ looks ops o := fun d hd => ha2 d hd
  have hgo : ∀ d, o.dst = some d → d ∉ guardSlot ops p := fun d e k => hlo d e (List.mem_append_right _ k)
  have hgp : ∀ d, p.dst = some d → d ∉ guardSlot ops o := fun d e k => hlp d e (List.mem_append_right _ k)
  have hfo := own_gs st hi (inv.free (i, o) (by simp))
  have hfp := own_gs st hj (inv.free (j, p) (by simp))
  have hdne : ∀ x, o.dst = some x → p.dst ≠ some x := fun x hx => (ha1 x hx).2
  simp only [lexC] at h ⊢
  cases heo : isEvent QF o with
  | false =>
    rw [heo] at h
    obtain ⟨c, hcq, hc1, hc2, hcd, h⟩ := h
    cases hep : isEvent QF p with
    | false =>
      rw [hep] at h
      obtain ⟨c', hcq', hc1', hc2', hcd', h⟩ := h
      rw [fgof_put hgo] at h
      refine ⟨c', hcq', hc1', yields_back hsp hlo hfo hc2', det_back hgo hfo hcd', ?_⟩
      refine ⟨c, hcq, hc1, yields_on hso hlp (fun d hd => ⟨(hfp d hd).1, (hfp d hd).2.1⟩) hc2, det_on hgp (fun d hd => ⟨(hfp d hd).1, (hfp d hd).2.1⟩) hcd, ?_⟩
      rw [fgof_put hgp, fput_comm (fun x hx => fun k => hdne x k hx)]
      exact h
    | true =>
      rw [hep] at h
      obtain ⟨L, G, hL, hsub, hbs, hact, h⟩ := h
      refine ⟨L, G, hL, hsub, hbs, acts_back hsp hlo hfo hact, fun v L' hG hw => ?_⟩
      have h := h v L' hG hw
      rw [fgof_put hgo] at h
      refine ⟨c, hcq, fun hr => (hc1 hr).imp id fun this => by rw [List.length_append]; omega, ?_, det_on hgp (fun d hd => ⟨(hfp d hd).1, (hfp d hd).2.1⟩) hcd, ?_⟩
      · have hy := yields_on (gs := fgof ops F p) (v := v) hso hlp (fun d hd => ⟨(hfp d hd).1, (hfp d hd).2.1⟩) hc2
        intro a hf hh w hw'
        refine hy a hf hh w fun hr => ?_
        obtain ⟨L2, h1, h2⟩ := hw' hr
        refine ⟨L2, ?_, h2⟩
        rwa [lsAt_append (hc1 hr)] at h1
      · rw [fgof_put hgp, fput_comm (fun x hx => fun k => hdne x k hx)]
        exact h
  | true =>
    rw [heo] at h
    obtain ⟨L, G, hL, hsub, hbs, hact, h⟩ := h
    cases hep : isEvent QF p with
    | true => rw [heo, hep] at hee; simp at hee
    | false =>
      simp only [heo, Bool.not_true, Bool.false_or, Bool.or_eq_true, Bool.not_eq_true'] at hef
      have hrk := hef
      have hlen := inv.rank_eq heo
      have hNT : reads p = true → freeN NT j = true ∨ NT.getD j 0 < Ls.length := fun hr => by
        rcases hrk with k | k | k
        · rw [hr] at k; cases k
        · exact .inl k
        · have := Nat.le_of_ble_eq_true k; exact .inr (by omega)
      have hcl : ∀ L', reads p = true → lsAt NT Lb (Ls ++ [L']) j = lsAt NT Lb Ls j := fun L' hr => lsAt_append (hNT hr)
      -- one way that it may come out
      obtain ⟨a, ha⟩ := inv.act
      obtain ⟨L2, hL2, hbL, w, hw⟩ := inv.world
      rw [hL] at hL2; cases hL2
      have hex : ∃ v L', G v L' ∧ ∃ w', Own ok w0 w' L' := by
        by_cases hh : holds a (fgof ops F o)
        · obtain ⟨v, w', L', hG, ho⟩ := upon_ex ((hact a ha w hw).1 hh); exact ⟨v, L', hG, w', ho⟩
        · obtain ⟨v, L', hG, ho⟩ := (hact a ha w hw).2 hh; exact ⟨v, L', hG, w, ho⟩
      obtain ⟨v0, L0, hG0, hw0⟩ := hex
      have h0 := h v0 L0 hG0 hw0
      rw [hep] at h0
      obtain ⟨c, hcq, _, hc2, hcd0, _⟩ := h0
      have hdet : detAt n ops F p := det_back hgo hfo hcd0
      have hy0 : yieldsAt P QF n ops NT Lb ok w0 F (Ls ++ [L0]) j p c := yields_back hsp hlo hfo hc2
      have hy : yieldsAt P QF n ops NT Lb ok w0 F Ls j p c := by
        intro a hf hh w hw'
        refine hy0 a hf hh w fun hr => ?_
        obtain ⟨L2, h1, h2⟩ := hw' hr
        exact ⟨L2, by rw [hcl L0 hr]; exact h1, h2⟩
      refine ⟨c, hcq, hNT, hy, hdet, ?_⟩
      refine ⟨L, G, hL, hsub, hbs, ?_, fun v L' hG hw' => ?_⟩
      · intro a hf w hw
        obtain ⟨u, hf'⟩ := hf.unput (fun d hd => ⟨(hfp d hd).1, (hfp d hd).2.1⟩)
        have := hact (a.put p.dst u) hf' w hw
        have hiff : holds (a.put p.dst u) (fgof ops F o) ↔ holds a (fgof ops F o) := by
          cases hd : p.dst with
          | none => exact Iff.rfl
          | some d => exact holds_put' (fgof_free (hgp d hd) (hfp d hd).2.1)
        rw [hiff, exec_put hso a p.dst u hlp] at this
        rw [fgof_put hgp]
        exact this
      · have h1 := h v L' hG hw'
        rw [hep] at h1
        obtain ⟨c', hcq', hc1', hc2', hcd', h1⟩ := h1
        rcases hdet with hdet | hdet
        rotate_left
        · -- it is not carried out: no act tells the values apart
          rw [fgof_put hgo] at h1
          rw [fgof_put hgp, fput_comm (fun x hx => fun k => hdne x k hx)]
          have inve := inv.event (v := v) st heo hL (fun hh => hsub hh v L' hG) (hbs v L' hG hw') hw'
          have invf := inve.float (c := c') st hep
          rw [fgof_put hgo] at invf
          refine lexC_sim st hKF R invf ?_ h1
          cases hd : p.dst with
          | none => exact ⟨fun _ => rfl, fun _ _ hx => hx, fun _ => Iff.rfl⟩
          | some d =>
            obtain ⟨hdn, hdf, hdg⟩ := hfp d hd
            have hdf' : freeOf (fput F o.dst (fgof ops F o) v) d := inve.free (j, p) (by simp) d hd
            have hne : fgof ops F p ≠ [] := fun e => hdet a ha (by rw [e]; intro q hq; cases hq)
            have hnot : ∀ x a', FitsF n (fput (fput F o.dst (fgof ops F o) v) (some d) (fgof ops F p) x) a' → ¬ holds a' (fgof ops F p) := by
              intro x a' hf' hh
              obtain ⟨u, hu⟩ := hf'.unput (fun y hy => by cases hy; exact ⟨hdn, hdf'⟩)
              have hh1 : holds (a'.put (some d) u) (fgof ops F p) := (holds_put' hdg).2 hh
              obtain ⟨u2, hu2⟩ := hu.unput (fun y hy => ⟨(hfo y hy).1, (hfo y hy).2.1⟩)
              refine hdet _ hu2 ?_
              cases hod : o.dst with
              | none => exact hh1
              | some y => exact (holds_put' (fgof_free (hgo y hod) (hfo y hod).2.1)).2 hh1
            have hfit : ∀ x y a', FitsF n (fput (fput F o.dst (fgof ops F o) v) (some d) (fgof ops F p) x) a' → FitsF n (fput (fput F o.dst (fgof ops F o) v) (some d) (fgof ops F p) y) a' := by
              intro x y a' hf'
              have hno := hnot x a' hf'
              refine ⟨hf'.size, fun t gs z hz hh => ?_, fun t gs z hz hh => ?_⟩
              · by_cases e : t = d
                · simp only [fput] at hz; rw [if_pos e] at hz; cases hz; exact absurd hh hno
                · exact hf'.yes t gs z (by simp only [fput] at hz ⊢; rw [if_neg e] at hz ⊢; exact hz) hh
              · by_cases e : t = d
                · simp only [fput] at hz; rw [if_pos e] at hz; cases hz; exact hf'.no t _ x (by simp only [fput]; rw [if_pos e]) hh
                · exact hf'.no t gs z (by simp only [fput] at hz ⊢; rw [if_neg e] at hz ⊢; exact hz) hh
            refine ⟨fun t => ?_, fun t z hz => ?_, fun a' => ⟨hfit c' c a', hfit c c' a'⟩⟩
            · simp only [fput]; split <;> rfl
            · simp only [fput] at hz ⊢
              split
              · rename_i e; rw [if_pos e] at hz; injection hz with hz; exact absurd (congrArg Prod.fst hz) hne
              · rename_i e; rw [if_neg e] at hz; exact hz
        -- the same value
        have hy' : yieldsAt P QF n ops NT Lb ok w0 F (Ls ++ [L']) j p c' := yields_back hsp hlo hfo hc2'
        have hsame : c' = c := by
          -- a world of the class that is asked for
          have hcond : ∃ w, reads p = true → ∃ L2, lsAt NT Lb Ls j = some L2 ∧ Own ok w0 w L2 := by
            unfold lsAt
            cases hfr : freeN NT j with
            | true => exact ⟨w, fun _ => ⟨Lb, rfl, hw.less hbL⟩⟩
            | false =>
              refine ⟨w, fun hr => inv.class_of hL hw (NT.getD j 0) ((hNT hr).resolve_left (by rw [hfr]; simp)) fun r' m om hr' hlt' hm hom => ?_⟩
              cases hhard : isHard om with
              | false => rfl
              | true =>
                obtain ⟨om', hom', hev⟩ := evList_mem (List.mem_of_getElem? hm)
                rw [hom] at hom'; cases hom'
                have hrm := evList_inj hm (evList_rank hom hev)
                have hri := evList_rank hi heo
                have hmi : m < i := by
                  obtain ⟨g1, g2⟩ := List.getElem?_eq_some_iff.1 hm
                  obtain ⟨g3, g4⟩ := List.getElem?_eq_some_iff.1 hri
                  have := List.pairwise_iff_getElem.1 (evList_sorted (QF := QF) (ops := ops)) r' (rank QF ops i) g1 g3 (by omega)
                  rw [g2, g4] at this; exact this
                have := (st.hard j m p om hj hom (by omega) hhard hev hr).resolve_left (by rw [hfr]; simp)
                omega
          obtain ⟨w, hw2⟩ := hcond
          have e1 := hy a ha (hdet a ha) w hw2
          have e2 := hy' a ha (hdet a ha) w (fun hr => by
            obtain ⟨L2, h1, h2⟩ := hw2 hr
            exact ⟨L2, by rw [hcl L' hr]; exact h1, h2⟩)
          cases hqp : quiet QF p with
          | true => rw [hcq hqp, hcq' hqp]
          | false =>
            rw [hqp] at e1 e2
            simp only at e1 e2
            rw [e1] at e2; cases e2; rfl
        subst hsame
        rw [fgof_put hgo] at h1
        rw [fgof_put hgp, fput_comm (fun x hx => fun k => hdne x k hx)]
        exact h1

/-- What may come up now may come first. -/
theorem RInv.perm (st : Stat QF n ops B NT) {i j : Nat} {o p : Oper} {r0 r1 : List (Nat × Oper)} {F : FEnv} {Ls : List (List Item)} (h : RInv QF n ops B Lb ok w0 ((i, o) :: r0 ++ (j, p) :: r1) F Ls) (hb : ∀ q ∈ r0, bit B j q.1 = false)
    (he : isEvent QF p = true → ∀ q ∈ r0, isEvent QF q.2 = false) : RInv QF n ops B Lb ok w0 ((i, o) :: (j, p) :: (r0 ++ r1)) F Ls := by
  have hm : ∀ q, q ∈ (i, o) :: (j, p) :: (r0 ++ r1) → q ∈ (i, o) :: r0 ++ (j, p) :: r1 := by
    intro q hq
    simp only [List.cons_append, List.mem_cons, List.mem_append] at hq ⊢
    rcases hq with k | k | k | k
    · exact .inl k
    · exact .inr (.inr (.inl k))
    · exact .inr (.inl k)
    · exact .inr (.inr (.inr k))
  have hc := h.compat
  rw [List.cons_append, List.pairwise_cons, List.pairwise_append, List.pairwise_cons] at hc
  obtain ⟨c1, c2, ⟨c3, c4⟩, c5⟩ := hc
  refine ⟨fun q hq => h.mem q (hm q hq), ?_, fun q hq => h.free q (hm q hq), h.act, h.world, ?_, h.chain⟩
  · rw [List.pairwise_cons, List.pairwise_cons, List.pairwise_append]
    refine ⟨fun q hq => c1 q ?_, fun q hq => ?_, c2, c4, fun x hx y hy => c5 x hx y (List.mem_cons_of_mem _ hy)⟩
    · simp only [List.mem_cons, List.mem_append] at hq ⊢
      rcases hq with k | k | k
      · exact .inr (.inl k)
      · exact .inl k
      · exact .inr (.inr k)
    · rcases List.mem_append.1 hq with k | k
      · exact hb q k
      · exact c3 q k
  · obtain ⟨k, h1, h2⟩ := h.evs
    refine ⟨k, ?_, h2⟩
    rw [← h1]
    congr 1
    simp only [List.cons_append, List.filter_cons, List.filter_append]
    cases hep : isEvent QF p with
    | false => simp
    | true =>
      have : r0.filter (fun q => isEvent QF q.2) = [] := List.filter_eq_nil_iff.2 fun q hq => by rw [he hep q hq]; simp
      rw [this]; simp

theorem lexC_front (st : Stat QF n ops B NT) (hKF : ∀ F1 F2 w, Sim n F1 F2 → KF F1 w → KF F2 w) {j : Nat} {p : Oper} {r1 : List (Nat × Oper)} : ∀ (r0 : List (Nat × Oper)) {F : FEnv} {Ls : List (List Item)}, RInv QF n ops B Lb ok w0 (r0 ++ (j, p) :: r1) F Ls → (∀ q ∈ r0, bit B j q.1 = false) → (∀ q ∈ r0, q.1 < j) → (isEvent QF p = true → ∀ q ∈ r0, isEvent QF q.2 = false) →
    lexC P QF QV n ops NT Lb ok w0 KF (r0 ++ (j, p) :: r1) F Ls → lexC P QF QV n ops NT Lb ok w0 KF ((j, p) :: (r0 ++ r1)) F Ls := by
  intro r0
  induction r0 with
  | nil => intro F Ls _ _ _ _ h; exact h
  | cons q r0 ih =>
    obtain ⟨i, o⟩ := q
    intro F Ls inv hb hlt hev h
    have hb' : ∀ q ∈ r0, bit B j q.1 = false := fun q hq => hb q (List.mem_cons_of_mem _ hq)
    have hlt' : ∀ q ∈ r0, q.1 < j := fun q hq => hlt q (List.mem_cons_of_mem _ hq)
    have hev' : isEvent QF p = true → ∀ q ∈ r0, isEvent QF q.2 = false := fun e q hq => hev e q (List.mem_cons_of_mem _ hq)
    have h1 : lexC P QF QV n ops NT Lb ok w0 KF ((i, o) :: (j, p) :: (r0 ++ r1)) F Ls := by
      simp only [List.cons_append, lexC] at h
      rw [lexC]
      cases he : isEvent QF o with
      | false =>
        rw [he] at h
        obtain ⟨c, hq, h1, h2, hd, h3⟩ := h
        exact ⟨c, hq, h1, h2, hd, ih (inv.float st he) hb' hlt' hev' h3⟩
      | true =>
        rw [he] at h
        obtain ⟨L, G, h1, h2, hbs, h3, h4⟩ := h
        exact ⟨L, G, h1, h2, hbs, h3, fun v L' hG hw => ih (inv.event st he h1 (fun hh => h2 hh v L' hG) (hbs v L' hG hw) hw) hb' hlt' hev' (h4 v L' hG hw)⟩
    exact lexC_swap st hKF (inv.perm st hb' hev') (hb (i, o) (by simp)) (hlt (i, o) (by simp)) h1

/-! ### Whatever order is picked -/
def rem (ops : List Oper) (listed : Array Bool) : List (Nat × Oper) := (ops.zipIdx.map fun q => (q.2, q.1)).filter fun q => !listed.getD q.1 true

theorem mem_rem {listed : Array Bool} {q : Nat × Oper} : q ∈ rem ops listed ↔ ops[q.1]? = some q.2 ∧ listed.getD q.1 true = false := by
  unfold rem
  rw [List.mem_filter, List.mem_map]
  simp only [Bool.not_eq_true']
  constructor
  · rintro ⟨⟨x, hx, rfl⟩, h⟩
    exact ⟨by have := List.mem_zipIdx_iff_getElem?.1 hx; simpa using this, h⟩
  · rintro ⟨h1, h2⟩
    exact ⟨⟨(q.2, q.1), List.mem_zipIdx_iff_getElem?.2 (by simpa using h1), rfl⟩, h2⟩

theorem rem_sorted {listed : Array Bool} : (rem ops listed).Pairwise (fun x y => x.1 < y.1) := by
  unfold rem
  refine List.Pairwise.filter _ ?_
  rw [List.pairwise_map]
  have key : ∀ (l : List Oper) (k : Nat), (l.zipIdx k).Pairwise (fun x y => x.2 < y.2) := by
    intro l
    induction l with
    | nil => intro k; simp
    | cons a l ih =>
      intro k
      rw [List.zipIdx_cons, List.pairwise_cons]
      refine ⟨fun q hq => ?_, ih (k + 1)⟩
      have := List.mem_zipIdx hq
      simp only; omega
  exact key ops 0

theorem rem_split {listed : Array Bool} {j : Nat} {p : Oper} (hj : (j, p) ∈ rem ops listed) : ∃ r0 r1, rem ops listed = r0 ++ (j, p) :: r1 ∧ rem ops (listed.setIfInBounds j true) = r0 ++ r1 := by
  obtain ⟨r0, r1, h⟩ := List.append_of_mem hj
  refine ⟨r0, r1, h, ?_⟩
  have hsize : j < listed.size ∨ listed.size ≤ j := Nat.lt_or_ge _ _
  have hlj := (mem_rem.1 hj).2
  have hjs : j < listed.size := by
    rcases hsize with k | k
    · exact k
    · rw [Array.getD_eq_getD_getElem?, Array.getElem?_eq_none k] at hlj; simp at hlj
  have hget : ∀ x, (listed.setIfInBounds j true).getD x true = if x = j then true else listed.getD x true := by
    intro x
    by_cases e : x = j
    · subst e; rw [if_pos rfl]; simp [Array.getD_eq_getD_getElem?, hjs]
    · rw [if_neg e]; simp [Array.getD_eq_getD_getElem?, Array.getElem?_setIfInBounds_ne (Ne.symm e)]
  have h2 : rem ops (listed.setIfInBounds j true) = (rem ops listed).filter fun q => !(q.1 == j) := by
    unfold rem
    rw [List.filter_filter]
    congr 1
    funext q
    rw [hget]
    by_cases e : q.1 = j <;> simp [e]
  rw [h2, h, List.filter_append, List.filter_cons]
  have hs := rem_sorted (ops := ops) (listed := listed)
  rw [h, List.pairwise_append, List.pairwise_cons] at hs
  have e0 : r0.filter (fun q => !(q.1 == j)) = r0 := List.filter_eq_self.2 fun q hq => by
    have := hs.2.2 q hq (j, p) (by simp)
    have : ¬ q.1 = j := by simp only at this; omega
    simpa using this
  have e1 : r1.filter (fun q => !(q.1 == j)) = r1 := List.filter_eq_self.2 fun q hq => by
    have := hs.2.1.1 q hq
    have : ¬ q.1 = j := by simp only at this; omega
    simpa using this
  rw [e0, e1]; simp

theorem wanted_F (st : Stat QF n ops B NT) {F : FEnv} {a : Act} {j : Nat} {o : Oper} (hf : FitsF n F a) (hj : ops[j]? = some o) :
    (Region.wanted o (yielded ops.toArray a.tmps) = true ↔ holds a (fgof ops F o)) := by
  unfold fgof Region.wanted
  cases hg : o.guard with
  | none => exact ⟨fun _ p hp => (by cases hp), fun _ => rfl⟩
  | some gw =>
    obtain ⟨g, want⟩ := gw
    obtain ⟨_, og, s, hog, hd⟩ := st.guard j o g want hj hg
    simp only [hog, hd]
    have hsn : s < a.tmps.size := by rw [hf.size]; exact st.dst_lt g og s hog hd
    have hy : yielded ops.toArray a.tmps g = match a.tmps.getD s undef with | .bool b => some b | _ => none := by
      unfold yielded
      simp only [List.getElem?_toArray, hog, Option.bind_some, hd]
      rw [Array.getElem?_eq_getElem hsn]
      have : a.tmps.getD s undef = a.tmps[s] := by simp [Array.getD, hsn]
      rw [this]
      cases a.tmps[s] <;> rfl
    have key : (yielded ops.toArray a.tmps g == some want) = true ↔ a.tmps.getD s undef = .bool want := by
      rw [hy]
      cases hv : a.tmps.getD s undef <;> simp
    rw [key]
    cases hF : F s with
    | none => exact ⟨fun hb p hp => (by rw [List.mem_singleton] at hp; subst hp; exact hb), fun hh => hh (s, want) (by simp)⟩
    | some gv =>
      obtain ⟨gs, v⟩ := gv
      simp only
      constructor
      · intro hb p hp
        rcases List.mem_cons.1 hp with k | k
        · subst k; exact hb
        · by_cases hh : holds a gs
          · exact hh p k
          · have := hf.no s gs v hF hh
            rw [this] at hb; simp [undef] at hb
      · intro hh; exact hh (s, want) (by simp)

theorem RInv.perm0 {j : Nat} {p : Oper} {r0 r1 : List (Nat × Oper)} {F : FEnv} {Ls : List (List Item)} (h : RInv QF n ops B Lb ok w0 (r0 ++ (j, p) :: r1) F Ls) (hb : ∀ q ∈ r0, bit B j q.1 = false)
    (he : isEvent QF p = true → ∀ q ∈ r0, isEvent QF q.2 = false) : RInv QF n ops B Lb ok w0 ((j, p) :: (r0 ++ r1)) F Ls := by
  have hm : ∀ q, q ∈ (j, p) :: (r0 ++ r1) → q ∈ r0 ++ (j, p) :: r1 := by
    intro q hq
    simp only [List.mem_cons, List.mem_append] at hq ⊢
    rcases hq with k | k | k
    · exact .inr (.inl k)
    · exact .inl k
    · exact .inr (.inr k)
  have hc := h.compat
  rw [List.pairwise_append, List.pairwise_cons] at hc
  obtain ⟨c2, ⟨c3, c4⟩, c5⟩ := hc
  refine ⟨fun q hq => h.mem q (hm q hq), ?_, fun q hq => h.free q (hm q hq), h.act, h.world, ?_, h.chain⟩
  · rw [List.pairwise_cons, List.pairwise_append]
    refine ⟨fun q hq => ?_, c2, c4, fun x hx y hy => c5 x hx y (List.mem_cons_of_mem _ hy)⟩
    rcases List.mem_append.1 hq with k | k
    · exact hb q k
    · exact c3 q k
  · obtain ⟨k, h1, h2⟩ := h.evs
    refine ⟨k, ?_, h2⟩
    rw [← h1]
    congr 1
    simp only [List.filter_cons, List.filter_append]
    cases hep : isEvent QF p with
    | false => simp
    | true =>
      have : r0.filter (fun q => isEvent QF q.2) = [] := List.filter_eq_nil_iff.2 fun q hq => by rw [he hep q hq]; simp
      rw [this]; simp

theorem getD_tf {listed : Array Bool} {i : Nat} (h : i < listed.size) : listed.getD i true = listed.getD i false := by
  simp [Array.getD_eq_getD_getElem?, h]
theorem getD_set {listed : Array Bool} {j x : Nat} (h : j < listed.size) (b : Bool) : (listed.setIfInBounds j true).getD x b = if x = j then true else listed.getD x b := by
  by_cases e : x = j
  · subst e; rw [if_pos rfl]; simp [Array.getD_eq_getD_getElem?, h]
  · rw [if_neg e]; simp [Array.getD_eq_getD_getElem?, Array.getElem?_setIfInBounds_ne (Ne.symm e)]

theorem draw_any {ro : Option Nat} (st : Stat QF n ops B NT) (hKF : ∀ F1 F2 w, Sim n F1 F2 → KF F1 w → KF F2 w) {Q : Exit → Act → World → Prop} {ds : List Nat} (hQ : ∀ F a w, FitsF n F a → a.defers = marks ds → KF F w → Q .normal a w) :
    ∀ (fuel : Nat) (listed : Array Bool) (a : Act) (w : World) (F : FEnv) (Ls : List (List Item)), listed.size = ops.length → RInv QF n ops B Lb ok w0 (rem ops listed) F Ls → FitsF n F a → a.defers = marks ds → (∃ L, Ls.getLast? = some L ∧ Lb.Sublist L ∧ Own ok w0 w L) →
      (∀ (m i : Nat) (om oi : Oper), ops[m]? = some om → ops[i]? = some oi → bit B m i = true → listed.getD m true = true → listed.getD i true = true) →
      (rem ops listed).length ≤ fuel → lexC P QF QV n ops NT Lb ok w0 KF (rem ops listed) F Ls → wpAnyIn (Fw ro) 0 P .any ops.toArray Q fuel listed a w := by
  intro fuel
  have hend : ∀ (listed : Array Bool) (a : Act) (w : World) (F : FEnv) (Ls : List (List Item)), listed.size = ops.length → FitsF n F a → a.defers = marks ds → (∃ L, Ls.getLast? = some L ∧ Own ok w0 w L) →
      lexC P QF QV n ops NT Lb ok w0 KF (rem ops listed) F Ls → Region.ready .any ops.toArray listed = [] → Q .normal a w := by
    intro listed a w F Ls hsz hf hdf hw h hr
    have hnil : rem ops listed = [] := by
      cases hrem : rem ops listed with
      | nil => rfl
      | cons q R =>
        exfalso
        obtain ⟨j, p⟩ := q
        have hjm : (j, p) ∈ rem ops listed := by rw [hrem]; simp
        obtain ⟨hj, hjl⟩ := mem_rem.1 hjm
        have hsorted := rem_sorted (ops := ops) (listed := listed)
        rw [hrem, List.pairwise_cons] at hsorted
        have : j ∈ Region.ready .any ops.toArray listed := by
          rw [mem_ready]
          refine ⟨hjl, p, by simpa using hj, fun e he hb => ?_⟩
          have hlt := st.edge_lt j p hj e he hb
          have hlen : e.on < ops.length := Nat.lt_trans hlt (List.getElem?_eq_some_iff.1 hj).1
          rw [← getD_tf (by omega)]
          cases hl : listed.getD e.on true with
          | true => rfl
          | false =>
            exfalso
            have hm : (e.on, ops[e.on]) ∈ rem ops listed := mem_rem.2 ⟨List.getElem?_eq_getElem hlen, hl⟩
            rw [hrem] at hm
            rcases List.mem_cons.1 hm with k | k
            · have := congrArg Prod.fst k; simp only at this; omega
            · have := hsorted.1 _ k; simp only at this; omega
        rw [hr] at this; cases this
    rw [hnil] at h
    obtain ⟨L, hL, ho⟩ := hw
    exact hQ F a w hf hdf (h L hL w ho)
  induction fuel with
  | zero =>
    intro listed a w F Ls hsz inv hf hdf hw hcl hlen h
    have hr : Region.ready .any ops.toArray listed = [] := by
      rw [List.eq_nil_iff_forall_not_mem]
      intro j hj
      obtain ⟨hl, p, hp, _⟩ := mem_ready.1 hj
      have hm : (j, p) ∈ rem ops listed := mem_rem.2 ⟨by simpa using hp, hl⟩
      have : (rem ops listed).length ≠ 0 := by
        intro e; rw [List.eq_nil_of_length_eq_zero e] at hm; cases hm
      omega
    exact ⟨hr, hend listed a w F Ls hsz hf hdf (by obtain ⟨L, h1, _, h2⟩ := hw; exact ⟨L, h1, h2⟩) h hr⟩
  | succ fuel ih =>
    intro listed a w F Ls hsz inv hf hdf hw hcl hlen h
    refine ⟨fun hr => hend listed a w F Ls hsz hf hdf (by obtain ⟨L, h1, _, h2⟩ := hw; exact ⟨L, h1, h2⟩) h hr, fun j hj => ?_⟩
    obtain ⟨hl, p, hp, hedges⟩ := mem_ready.1 hj
    have hp : ops[j]? = some p := by simpa using hp
    have hjlen : j < ops.length := (List.getElem?_eq_some_iff.1 hp).1
    have hm : (j, p) ∈ rem ops listed := mem_rem.2 ⟨hp, hl⟩
    obtain ⟨r0, r1, hs1, hs2⟩ := rem_split hm
    have hsorted := rem_sorted (ops := ops) (listed := listed)
    rw [hs1, List.pairwise_append] at hsorted
    rw [hs1] at inv h hlen
    -- what must come ahead of it has come
    have hahead : ∀ (i : Nat) (oi : Oper), ops[i]? = some oi → bit B j i = true → listed.getD i true = true := by
      intro i oi hoi hb
      obtain ⟨_, ⟨e, he, hbe, h4⟩, _⟩ := st.bound j i p oi hp hoi hb
      have hlt := st.edge_lt j p hp e he hbe
      have hel := hedges e he hbe
      rw [← getD_tf (by omega)] at hel
      rcases h4 with k | k
      · rw [← k]; exact hel
      · exact hcl e.on i _ oi (List.getElem?_eq_getElem (by omega)) hoi k hel
    have hb0 : ∀ q ∈ r0, bit B j q.1 = false := by
      intro q hq
      have hqm : q ∈ rem ops listed := by rw [hs1]; exact List.mem_append_left _ hq
      obtain ⟨h1, h2⟩ := mem_rem.1 hqm
      cases hb : bit B j q.1 with
      | false => rfl
      | true => rw [hahead q.1 q.2 h1 hb] at h2; cases h2
    have hlt0 : ∀ q ∈ r0, q.1 < j := fun q hq => hsorted.2.2 q hq (j, p) (by simp)
    have hev0 : isEvent QF p = true → ∀ q ∈ r0, isEvent QF q.2 = false := by
      intro he q hq
      have hqm : q ∈ rem ops listed := by rw [hs1]; exact List.mem_append_left _ hq
      cases hqe : isEvent QF q.2 with
      | false => rfl
      | true =>
        have := st.pair j q.1 p q.2 hp (mem_rem.1 hqm).1 (hlt0 q hq) (hb0 q hq)
        simp only [pairOk, Bool.and_eq_true] at this
        have := this.1.1.1.2
        rw [hqe, he] at this; simp at this
    have h' := lexC_front st hKF r0 inv hb0 hlt0 hev0 h
    have inv' := inv.perm0 hb0 hev0
    have hjs : j < listed.size := by omega
    have hsz' : (listed.setIfInBounds j true).size = ops.length := by simpa using hsz
    have hcl' : ∀ (m i : Nat) (om oi : Oper), ops[m]? = some om → ops[i]? = some oi → bit B m i = true → (listed.setIfInBounds j true).getD m true = true → (listed.setIfInBounds j true).getD i true = true := by
      intro m i om oi hom hoi hb hlm
      rw [getD_set hjs] at hlm ⊢
      by_cases ei : i = j
      · rw [if_pos ei]
      · rw [if_neg ei]
        by_cases em : m = j
        · subst em; exact hahead i oi hoi hb
        · rw [if_neg em] at hlm; exact hcl m i om oi hom hoi hb hlm
    have hlen' : (r0 ++ r1).length ≤ fuel := by simp only [List.length_append, List.length_cons] at hlen ⊢; omega
    have hnd := st.nodef j p hp
    have hwt := wanted_F st hf hp
    have hgs := own_gs st hp (inv'.free (j, p) (by simp))
    unfold wpOpIn
    have hp' : ops.toArray[j]? = some p := by simpa using hp
    simp only [hp']
    rw [lexC] at h'
    cases hep : isEvent QF p with
    | false =>
      rw [hep] at h'
      obtain ⟨c, _, hc1, hc2, _, h'⟩ := h'
      have next : ∀ u w', Bel w.heap.size w w' → ((holds a (fgof ops F p) → u = c) ∧ (¬ holds a (fgof ops F p) → u = undef)) → wpAnyIn (Fw ro) 0 P .any ops.toArray Q fuel (listed.setIfInBounds j true) (a.put p.dst u) w' := by
        intro u w' hbel hu
        refine ih _ _ w' _ Ls hsz' ?_ (hf.put hgs hu) (by rw [put_defers]; exact hdf) (by obtain ⟨L, hL, hbL, ho⟩ := hw; exact ⟨L, hL, hbL, ho.call hbel⟩) hcl' ?_ ?_
        · rw [hs2]; exact inv'.float st hep
        · rw [hs2]; exact hlen'
        · rw [hs2]; exact h'
      split
      · rename_i hwanted
        have hh := hwt.1 hwanted
        have hrun := hc2 a hf hh w fun hr => by
          obtain ⟨L, hL, hbL, ho⟩ := hw
          unfold lsAt
          cases hfr : freeN NT j with
          | true => exact ⟨Lb, rfl, ho.less hbL⟩
          | false =>
            refine inv'.class_of hL ho _ ((hc1 hr).resolve_left (by rw [hfr]; simp)) fun r' m om hr' hlt' hm' hom => ?_
            cases hhard : isHard om with
            | false => rfl
            | true =>
              exfalso
              obtain ⟨om', hom', hev⟩ := evList_mem (List.mem_of_getElem? hm')
              rw [hom] at hom'; cases hom'
              have hrm := evList_inj hm' (evList_rank hom hev)
              have hlm : listed.getD m true = true := by
                cases hx : listed.getD m true with
                | true => rfl
                | false =>
                  exfalso
                  obtain ⟨k, h1, h2⟩ := inv'.evs
                  have hmm : (m, om) ∈ rem ops listed := mem_rem.2 ⟨hom, hx⟩
                  have hmm2 : (m, om) ∈ (j, p) :: (r0 ++ r1) := by
                    rw [hs1] at hmm
                    simp only [List.mem_cons, List.mem_append] at hmm ⊢
                    rcases hmm with k | k | k
                    · exact .inr (.inl k)
                    · exact .inl k
                    · exact .inr (.inr k)
                  have : m ∈ (evList QF ops).drop k := by
                    rw [← h1]
                    exact List.mem_map.2 ⟨(m, om), List.mem_filter.2 ⟨hmm2, hev⟩, rfl⟩
                  obtain ⟨x, hx2⟩ := List.mem_iff_getElem?.1 this
                  rw [List.getElem?_drop] at hx2
                  have := evList_inj hm' hx2
                  omega
              rcases Nat.lt_trichotomy m j with hlt | heq | hgt
              · have := (st.hard j m p om hp hom hlt hhard hev hr).resolve_left (by rw [hfr]; simp)
                omega
              · subst heq; rw [hp] at hom; cases hom; rw [hep] at hev; cases hev
              · have hbm : bit B m j = true := by
                  cases hb : bit B m j with
                  | true => rfl
                  | false =>
                    have := st.pair m j om p hom hp hgt hb
                    simp only [pairOk, Bool.and_eq_true] at this
                    have := this.1.2
                    rw [hhard, hev, hr] at this; simp at this; rw [hfr] at this; cases this
                have := hcl m j om p hom hp hbm hlm
                rw [hl] at this; cases this
        unfold Oper.wpIn
        refine ⟨fun _ _ => trivial, ?_⟩
        rw [Oper.semAt_eq _ _ _ hnd]
        cases hqp : quiet QF p with
        | false =>
          rw [hqp] at hrun
          simp only at hrun
          rw [hrun]
          exact next c w (Bel.refl _ _) ⟨fun _ => rfl, fun k => absurd hh k⟩
        | true =>
          rw [hqp] at hrun
          simp only at hrun
          refine upon_wp (upon_mono (fun v w' hv => ?_) hrun)
          obtain ⟨hv1, hv2⟩ := hv
          subst hv1
          exact next v w' hv2 ⟨fun _ => rfl, fun k => absurd hh k⟩
      · rename_i hwanted
        exact ⟨fun _ _ => trivial, next undef w (Bel.refl _ _) ⟨fun k => absurd (hwt.2 k) hwanted, fun _ => rfl⟩⟩
    | true =>
      rw [hep] at h'
      obtain ⟨L, G, hL, hsub, hbs, hact, h'⟩ := h'
      obtain ⟨L2, hL2, hbL, ho⟩ := hw
      rw [hL] at hL2; cases hL2
      have next : ∀ u v w' L', G v L' → Own ok w0 w' L' → ((holds a (fgof ops F p) → u = v) ∧ (¬ holds a (fgof ops F p) → u = undef)) → wpAnyIn (Fw ro) 0 P .any ops.toArray Q fuel (listed.setIfInBounds j true) (a.put p.dst u) w' := by
        intro u v w' L' hG ho' hu
        refine ih _ _ w' _ (Ls ++ [L']) hsz' ?_ (hf.put hgs hu) (by rw [put_defers]; exact hdf) ⟨L', by simp, hbs v L' hG ⟨w', ho'⟩, ho'⟩ hcl' ?_ ?_
        · rw [hs2]; exact inv'.event st hep hL (fun hh => hsub hh v L' hG) (hbs v L' hG ⟨w', ho'⟩) ⟨w', ho'⟩
        · rw [hs2]; exact hlen'
        · rw [hs2]; exact h' v L' hG ⟨w', ho'⟩
      split
      · rename_i hwanted
        have hh := hwt.1 hwanted
        unfold Oper.wpIn
        refine ⟨fun _ _ => trivial, ?_⟩
        rw [Oper.semAt_eq _ _ _ hnd]
        refine upon_wp (upon_mono (fun v w' hv => ?_) ((hact a hf w ho).1 hh))
        obtain ⟨L', hG, ho'⟩ := hv
        exact next v v w' L' hG ho' ⟨fun _ => rfl, fun k => absurd hh k⟩
      · rename_i hwanted
        have hh : ¬ holds a (fgof ops F p) := fun k => hwanted (hwt.2 k)
        obtain ⟨v, L', hG, ho'⟩ := (hact a hf w ho).2 hh
        exact ⟨fun _ _ => trivial, next undef v w L' hG ho' ⟨fun k => absurd k hh, fun _ => rfl⟩⟩
end

/-! ### As the walk wants it: lists -/
@[irreducible] def cFloat (P : Program) (g : Bool) (s : Sem Next) (C : World → Prop) (K : Value → Prop) : Prop := ∃ c, (g = true → ∀ w, C w → s.run P w = .ok (.value c) w) ∧ K c
@[irreducible] def cLoad (P : Program) (g : Bool) (t : TypeId) (a : Value) (C : World → Prop) (K : Value → Prop) : Prop := cFloat P g (sv (Instr.loadAt t a)) C K
@[irreducible] def cIndexAddr (P : Program) (g : Bool) (t : TypeId) (x i : Value) (C : World → Prop) (K : Value → Prop) : Prop := cFloat P g (sv (Instr.indexAt t x i)) C K
@[irreducible] def cIndex (P : Program) (g : Bool) (t : TypeId) (x i : Value) (C : World → Prop) (K : Value → Prop) : Prop := cFloat P g (sv (Instr.index t x i)) C K
@[irreducible] def cSlice (P : Program) (g : Bool) (t : TypeId) (x : Value) (lo hi mx : Option Value) (C : World → Prop) (K : Value → Prop) : Prop := cFloat P g (sv (Instr.sliceAt t x lo hi mx)) C K
@[irreducible] def cLookup (P : Program) (g : Bool) (t : TypeId) (x i : Value) (b : Bool) (C : World → Prop) (K : Value → Prop) : Prop := cFloat P g (sv (Instr.lookup t x i b)) C K
@[irreducible] def cBin (P : Program) (g : Bool) (op : BinOp) (t : TypeId) (xo yo : Operand) (x y : Value) (C : World → Prop) (K : Value → Prop) : Prop := cFloat P g (sv (do eqGuard op t xo yo x y; binOp op t x y)) C K
@[irreducible] def cConvert (P : Program) (g : Bool) (s d : TypeId) (x : Value) (C : World → Prop) (K : Value → Prop) : Prop := cFloat P g (sv (convert s d x)) C K
def cPure (P : Program) (g : Bool) (s : Sem Next) (C : World → Prop) (K : Value → Prop) : Prop := match pv P s with | some v => K v | none => cFloat P g s C K

/-- An effect: from the list L, with the value and the list that it leaves. -/
@[irreducible] def cEv (P : Program) (hard : Bool) (g : Bool) (s : Sem Next) (ok : Nat → Prop) (w0 : World) (L : List Item) (K : Value → List Item → Prop) : Prop :=
  ∃ G : Value → List Item → Prop, (hard = false → ∀ v L', G v L' → L.Sublist L') ∧ (∀ w, Own ok w0 w L → Steps1 P g s w fun v w' => ∃ L', G v L' ∧ Own ok w0 w' L') ∧ ∀ v L', G v L' → (∃ w, Own ok w0 w L') → K v L'
@[irreducible] def cQuiet (P : Program) (g : Bool) (f : FuncId) (args : List Value) (C : World → Prop) (qv : Value) (K : Prop) : Prop :=
  (g = true → ∀ w, C w → upon P (fun v w' => v = qv ∧ Bel w.heap.size w w') ((callFunc f args.toArray).run P w)) ∧ K
@[irreducible] def cAlloc (P : Program) (g : Bool) (t : TypeId) (ok : Nat → Prop) (w0 : World) (L : List Item) (K : Value → List Item → Prop) : Prop := cEv P false g (sv (Instr.alloc t true (.tuple #[]))) ok w0 L K
@[irreducible] def cBox (P : Program) (g : Bool) (t : TypeId) (x : Value) (ok : Nat → Prop) (w0 : World) (L : List Item) (K : Value → List Item → Prop) : Prop := cEv P false g (sv (Instr.box t x)) ok w0 L K
@[irreducible] def cCall (P : Program) (g : Bool) (f : FuncId) (args : List Value) (ok : Nat → Prop) (w0 : World) (L : List Item) (K : Value → List Item → Prop) : Prop := cEv P false g (callFunc f args.toArray) ok w0 L K
@[irreducible] def cCallV (P : Program) (g : Bool) (f : Value) (args : List Value) (ok : Nat → Prop) (w0 : World) (L : List Item) (K : Value → List Item → Prop) : Prop := cEv P true g (do let d ← Deferred.ofValue f args.toArray; invoke d.target d.args) ok w0 L K
@[irreducible] def cBuildSlice (P : Program) (g : Bool) (t : TypeId) (len : Nat) (parts : List (Nat × Value)) (ok : Nat → Prop) (w0 : World) (L : List Item) (K : Value → List Item → Prop) : Prop := cEv P false g (sv (Instr.buildSlice t len parts.toArray)) ok w0 L K
@[irreducible] def cStore (P : Program) (g : Bool) (t : TypeId) (a x : Value) (ok : Nat → Prop) (w0 : World) (L : List Item) (K : Value → List Item → Prop) : Prop := cEv P true g (su (Instr.storeAt t a x)) ok w0 L K
@[irreducible] def cBuiltin (P : Program) (g : Bool) (b : Builtin) (ts : List TypeId) (t : TypeId) (args : List Value) (consts : Array Bool) (ok : Nat → Prop) (w0 : World) (L : List Item) (K : Value → List Item → Prop) : Prop := cEv P true g (builtin b ts.toArray t consts args.toArray) ok w0 L K
@[irreducible] def cMapUpdate (P : Program) (g : Bool) (t : TypeId) (m k x : Value) (ok : Nat → Prop) (w0 : World) (L : List Item) (K : Value → List Item → Prop) : Prop := cEv P true g (su (Instr.mapUpdate t m k x)) ok w0 L K

def stepC (P : Program) (QF : List FuncId) (qv : Value) (o : Oper) (ρ : Operand → Value) (g : Bool) (C : World → Prop) (ok : Nat → Prop) (w0 : World) (L : List Item) (KF : Value → Prop) (KE : Value → List Item → Prop) : Prop :=
  match o.op with
  | .move x | .assign x => KF (ρ x)
  | .load t a => cLoad P g t (ρ a) C KF
  | .indexAddr t x i => cIndexAddr P g t (ρ x) (ρ i) C KF
  | .index t x i => cIndex P g t (ρ x) (ρ i) C KF
  | .slice t x lo hi mx => cSlice P g t (ρ x) (lo.map ρ) (hi.map ρ) (mx.map ρ) C KF
  | .lookup t x i b => cLookup P g t (ρ x) (ρ i) b C KF
  | .convert s d x => match ρ x with
    | .int .. => cPure P g (execOp ρ o) C KF
    | _ => cConvert P g s d (ρ x) C KF
  | .binOp op t x y _ => match plainBin op (ρ x) (ρ y) with
    | true => cPure P g (execOp ρ o) C KF
    | false => cBin P g op t x y (ρ x) (ρ y) C KF
  | .build t parts => match buildV P t (mapP ρ parts.toList) with
    | some v => KF v
    | none => cFloat P g (execOp ρ o) C KF
  | .makeFunc fn first captured => KF (.func fn (mapL ρ first.toList).toArray (mapL ρ captured.toList).toArray)
  | .extract .. | .field .. | .fieldAddr .. | .unOp .. | .makeInterface .. | .nilCheck .. => cPure P g (execOp ρ o) C KF
  | .pick .. => False
  | .select .. => False
  | .call { callee := .builtin b, args, argTypes } => match b with
    | .len | .cap | .max | .min => match plainBuiltin b ((mapL ρ args.toList).headD undef) with
      | true => cPure P g (sv (builtinV b argTypes o.type (mapL ρ args.toList).toArray)) C KF
      | false => cFloat P g (execOp ρ o) C KF
    | _ => cBuiltin P g b argTypes.toList o.type (mapL ρ args.toList) (args.map fun | .const _ => true | _ => false) ok w0 L KE
  | .call { callee := .value (.func f), args, .. } => match hasF QF f with
    | true => cQuiet P g f (mapL ρ args.toList) C qv (KF qv)
    | false => cCall P g f (mapL ρ args.toList) ok w0 L KE
  | .call { callee := .value f, args, .. } => cCallV P g (ρ f) (mapL ρ args.toList) ok w0 L KE
  | .buildSlice t len parts => cBuildSlice P g t len (mapP ρ parts.toList) ok w0 L KE
  | .store t a x => cStore P g t (ρ a) (ρ x) ok w0 L KE
  | .mapUpdate t m k x => cMapUpdate P g t (ρ m) (ρ k) (ρ x) ok w0 L KE
  | .alloc t => cAlloc P g t ok w0 L KE
  | .box t x => cBox P g t (ρ x) ok w0 L KE
  | _ => cEv P (isHard o) g (execOp ρ o) ok w0 L KE

def lastL : List (List Item) → List Item
  | [] => []
  | [L] => L
  | _ :: r => lastL r
theorem lastL_last : ∀ {Ls : List (List Item)}, Ls ≠ [] → Ls.getLast? = some (lastL Ls) := by
  intro Ls
  induction Ls with
  | nil => intro h; exact absurd rfl h
  | cons L r ih =>
    intro _
    cases r with
    | nil => rfl
    | cons L2 r => rw [List.getLast?_cons_cons]; exact ih (by simp)
def nthL : List (List Item) → Nat → Option (List Item)
  | [], _ => none
  | L :: _, 0 => some L
  | _ :: r, k + 1 => nthL r k
theorem nthL_eq : ∀ {Ls : List (List Item)} {k : Nat}, nthL Ls k = Ls[k]? := by
  intro Ls
  induction Ls with
  | nil => intro k; cases k <;> rfl
  | cons L r ih => intro k; cases k with
    | zero => rfl
    | succ k => simp only [nthL]; rw [ih]; simp
def nthN : List Nat → Nat → Nat
  | [], _ => 0
  | x :: _, 0 => x
  | _ :: r, k + 1 => nthN r k
theorem nthN_eq : ∀ {l : List Nat} {k : Nat}, nthN l k = l.getD k 0 := by
  intro l
  induction l with
  | nil => intro k; cases k <;> rfl
  | cons x r ih => intro k; cases k with
    | zero => rfl
    | succ k => simp only [nthN]; rw [ih]; simp

/-- Behind an effect: what stands through the whole statement stands on. -/
def subLb (Lb L' : List Item) (X : Prop) : Prop := match Lb with | [] => X | _ :: _ => Lb.Sublist L' ∧ X
theorem subLb_out {Lb L' : List Item} {X : Prop} (h : subLb Lb L' X) : Lb.Sublist L' ∧ X := by
  cases Lb with
  | nil => exact ⟨List.nil_sublist _, h⟩
  | cons _ _ => exact h
def runC (P : Program) (QF : List FuncId) (QV : Nat → Value) (n : Nat) (ops : List Oper) (NT : List Nat) (Lb : List Item) (ok : Nat → Prop) (w0 : World) (K : Env → World → Prop) : Nat → List Oper → Env → GEnv → List (List Item) → Prop
  | _, [], e, ge, Ls => ∀ w, Own ok w0 w (lastL Ls) → K (endEnv ge e) w
  | i, o :: rest, e, ge, Ls =>
    match gof ops ge o with
    | none => False
    | some gs => match gknown e ge gs with
      | false => False
      | true => match o.op with
        | .pick c a b => match opnd e ge gs c, opnd e ge (pickGs gs c true) a, opnd e ge (pickGs gs c false) b with
          | some cv, some av, some bv => match pickV cv av bv with
            | some v => putIn n gs o.dst v e ge fun e' ge' => runC P QF QV n ops NT Lb ok w0 K (i + 1) rest e' ge' Ls
            | none => False
          | _, _, _ => False
        | .move x => match opnd e ge gs x with
          | some v => putIn n gs o.dst v e ge fun e' ge' => runC P QF QV n ops NT Lb ok w0 K (i + 1) rest e' ge' Ls
          | none => False
        | .assign x => match opnd e ge gs x with
          | some v => putIn n gs o.dst v e ge fun e' ge' => runC P QF QV n ops NT Lb ok w0 K (i + 1) rest e' ge' Ls
          | none => False
        | _ => match covers e ge gs o with
          | false => False
          | true => match (match reads o with | true => (match Nat.beq (nthN NT i) 1000 with | true => some Lb | false => nthL Ls (nthN NT i)) | false => some []) with
            | none => False
            | some Lc => stepC P QF (QV i) o (rho e ge gs) (gb e ge gs) (fun w => match reads o with | true => Own ok w0 w Lc | false => True) ok w0 (lastL Ls)
                (fun v => putIn n gs o.dst v e ge fun e' ge' => runC P QF QV n ops NT Lb ok w0 K (i + 1) rest e' ge' Ls)
                (fun v L' => subLb Lb L' (putIn n gs o.dst v e ge fun e' ge' => runC P QF QV n ops NT Lb ok w0 K (i + 1) rest e' ge' (Ls ++ [L'])))

def fenv (e : Env) (ge : GEnv) : FEnv := fun t => match look ge t with
  | some (gs, v) => some (gs, v)
  | none => match look e t with | some v => some ([], v) | none => none

theorem fenv_fits {n : Nat} {e : Env} {ge : GEnv} {a : Act} (h : FitsF n (fenv e ge) a) : FitsG n e ge a :=
  ⟨h.size, fun t v hg he => h.yes t [] v (by simp [fenv, hg, he]) (fun p hp => by cases hp), fun t gs v hg => h.yes t gs v (by simp [fenv, hg]), fun t gs v hg => h.no t gs v (by simp [fenv, hg])⟩
theorem fits_fenv {n : Nat} {ds : List Nat} {e : Env} {a : Act} (h : Fits n ds e a) : FitsF n (fenv e []) a := by
  refine ⟨h.size, fun t gs v hv hh => ?_, fun t gs v hv hh => ?_⟩
  · simp only [fenv, look] at hv
    split at hv
    · rename_i u hu; cases hv; exact h.at_ t v hu
    · cases hv
  · simp only [fenv, look] at hv
    split at hv
    · cases hv; exact absurd (fun p hp => by cases hp) hh
    · cases hv

theorem fgof_eq {ops : List Oper} {e : Env} {ge : GEnv} {o : Oper} {gs : Gs} (h : gof ops ge o = some gs) : fgof ops (fenv e ge) o = gs := by
  unfold gof at h
  unfold fgof
  cases hg : o.guard with
  | none => rw [hg] at h; cases h; rfl
  | some gw =>
    obtain ⟨j, want⟩ := gw
    rw [hg] at h
    simp only at h ⊢
    cases hj : ops[j]? with
    | none => rw [hj] at h; cases h
    | some oj =>
      rw [hj] at h
      simp only at h ⊢
      cases hd : oj.dst with
      | none => rw [hd] at h; cases h
      | some s =>
        rw [hd] at h
        simp only at h ⊢
        cases hl : look ge s with
        | some gv => obtain ⟨gs', v⟩ := gv; rw [hl] at h; cases h; simp [fenv, hl]
        | none =>
          rw [hl] at h; cases h
          cases he : look e s <;> simp [fenv, hl, he]

theorem putIn_f {n : Nat} {e : Env} {ge : GEnv} {gs : Gs} {dst : Option Tmp} {v : Value} {K : Env → GEnv → Prop} (hcl : closedG ge) (hch : chained ge gs) (h : putIn n gs dst v e ge K) :
    ∃ e' ge', fenv e' ge' = fput (fenv e ge) dst gs v ∧ closedG ge' ∧ K e' ge' := by
  unfold putIn at h
  split at h
  · exact ⟨e, ge, rfl, hcl, h⟩
  · rename_i d
    split at h
    · exact h.elim
    · rename_i hb
      simp only [Bool.and_eq_true, Bool.not_eq_true'] at hb
      obtain ⟨⟨h1, h2⟩, h3⟩ := hb
      split at h
      · refine ⟨_, _, ?_, hcl, h⟩
        funext t
        simp only [fenv, fput, look]
        have hkey : look ge d = none := by
          cases hl : look ge d with
          | none => rfl
          | some gv => obtain ⟨gs', v'⟩ := gv; exact absurd rfl (noClash_look h2 d gs' v' hl).1
        by_cases e' : t = d
        · subst e'
          rw [if_pos rfl, hkey]
          simp
        · rw [if_neg e']
          have : Nat.beq d t = false := by cases hb : Nat.beq d t with
            | false => rfl
            | true => exact absurd (Nat.eq_of_beq_eq_true hb).symm e'
          rw [this]
      · refine ⟨_, _, ?_, closedG_cons hcl h2 h3 hch, h⟩
        funext t
        simp only [fenv, fput, look]
        by_cases e' : t = d
        · subst e'
          rw [if_pos rfl]
          simp
        · rw [if_neg e']
          have : Nat.beq d t = false := by cases hb : Nat.beq d t with
            | false => rfl
            | true => exact absurd (Nat.eq_of_beq_eq_true hb).symm e'
          rw [this]

theorem cFloat_out {P : Program} {g : Bool} {s : Sem Next} {C : World → Prop} {K : Value → Prop} (h : cFloat P g s C K) : ∃ c, (g = true → ∀ w, C w → s.run P w = .ok (.value c) w) ∧ K c := by unfold cFloat at h; exact h
theorem cFloat_in {P : Program} {g : Bool} {s : Sem Next} {C : World → Prop} {K : Value → Prop} (c : Value) (h : g = true → ∀ w, C w → s.run P w = .ok (.value c) w) (hk : K c) : cFloat P g s C K := by unfold cFloat; exact ⟨c, h, hk⟩
theorem cPure_out {P : Program} {g : Bool} {s : Sem Next} {C : World → Prop} {K : Value → Prop} (h : cPure P g s C K) : ∃ c, (g = true → ∀ w, C w → s.run P w = .ok (.value c) w) ∧ K c := by
  unfold cPure at h
  split at h
  · rename_i v hv; exact ⟨v, fun _ w _ => pv_run hv w, h⟩
  · exact cFloat_out h
def CEv (P : Program) (hard : Bool) (g : Bool) (s : Sem Next) (ok : Nat → Prop) (w0 : World) (L : List Item) (K : Value → List Item → Prop) : Prop :=
  ∃ G : Value → List Item → Prop, (hard = false → ∀ v L', G v L' → L.Sublist L') ∧ (∀ w, Own ok w0 w L → Steps1 P g s w fun v w' => ∃ L', G v L' ∧ Own ok w0 w' L') ∧ ∀ v L', G v L' → (∃ w, Own ok w0 w L') → K v L'
theorem cEv_out {P : Program} {hard : Bool} {g : Bool} {s : Sem Next} {ok : Nat → Prop} {w0 : World} {L : List Item} {K : Value → List Item → Prop} (h : cEv P hard g s ok w0 L K) : CEv P hard g s ok w0 L K := by unfold cEv at h; exact h
theorem cEv_in {P : Program} {hard : Bool} {g : Bool} {s : Sem Next} {ok : Nat → Prop} {w0 : World} {L : List Item} {K : Value → List Item → Prop} (h : CEv P hard g s ok w0 L K) : cEv P hard g s ok w0 L K := by unfold cEv; exact h

theorem stepC_float {P : Program} {QF : List FuncId} {qv : Value} {o : Oper} {ρ : Operand → Value} {g : Bool} {C : World → Prop} {ok : Nat → Prop} {w0 : World} {L : List Item} {KF : Value → Prop} {KE : Value → List Item → Prop} (he : isEvent QF o = false) (hρ : ∀ f, ρ (.func f) = .func (.func f) #[] #[]) (h : stepC P QF qv o ρ g C ok w0 L KF KE) :
    ∃ c, (quiet QF o = true → c = qv) ∧ (g = true → ∀ w, C w → match quiet QF o with
      | false => (execOp ρ o).run P w = .ok (.value c) w
      | true => upon P (fun v w' => v = c ∧ Bel w.heap.size w w') ((execOp ρ o).run P w)) ∧ KF c := by
  have plain : quiet QF o = false → (∃ c, (g = true → ∀ w, C w → (execOp ρ o).run P w = .ok (.value c) w) ∧ KF c) → ∃ c, (quiet QF o = true → c = qv) ∧ (g = true → ∀ w, C w → match quiet QF o with
      | false => (execOp ρ o).run P w = .ok (.value c) w
      | true => upon P (fun v w' => v = c ∧ Bel w.heap.size w w') ((execOp ρ o).run P w)) ∧ KF c := by
    rintro hq ⟨c, h1, h2⟩
    refine ⟨c, fun k => (by rw [hq] at k; cases k), ?_, h2⟩
    rw [hq]; exact h1
  obtain ⟨dst, op, type, pos, after, guard⟩ := o
  cases op <;> simp only [isEvent] at he <;> (try (cases he; done)) <;> unfold stepC at h <;> dsimp only at h <;> (try refine plain rfl ?_)
  case move x => exact ⟨_, fun _ w _ => rfl, h⟩
  case assign x => exact ⟨_, fun _ w _ => rfl, h⟩
  case load t a => simp only [cLoad] at h; exact cFloat_out h
  case indexAddr t x i => simp only [cIndexAddr] at h; exact cFloat_out h
  case index t x i => simp only [cIndex] at h; exact cFloat_out h
  case slice t x lo hi mx => simp only [cSlice] at h; exact cFloat_out h
  case lookup t x i b => simp only [cLookup] at h; exact cFloat_out h
  case convert s d x =>
    split at h
    · exact cPure_out h
    · simp only [cConvert] at h; exact cFloat_out h
  case binOp op t x y yt =>
    split at h
    · exact cPure_out h
    · simp only [cBin] at h; exact cFloat_out h
  case build t p =>
    split at h
    · rename_i v hv
      refine ⟨v, fun _ w _ => ?_, h⟩
      have e := build_run hv w
      rw [← mapP_arr] at e
      show (sv (Instr.build t (p.map fun (i, x) => (i, ρ x)))).run P w = _
      unfold sv
      rw [Sem.run_bind, e]; rfl
    · exact cFloat_out h
  case makeFunc fn first captured =>
    refine ⟨_, fun _ w _ => ?_, h⟩
    show Result.ok (Next.value (.func fn (first.map ρ) (captured.map ρ))) w = _
    rw [mapL_arr, mapL_arr]
  case call c =>
    obtain ⟨callee, args, ts⟩ := c
    cases callee with
    | builtin b =>
      have e : execOp ρ ⟨dst, .call ⟨.builtin b, args, ts⟩, type, pos, after, guard⟩ = builtin b ts type (args.map fun | .const _ => true | _ => false) (args.map ρ) := rfl
      cases b <;> simp only at he <;> (try (cases he; done)) <;> dsimp only at h <;> refine plain rfl ?_ <;> rw [e, mapL_arr] <;> split at h
      all_goals first | exact cPure_out h | (rw [e, mapL_arr] at h; exact cFloat_out h)
    | value f =>
      cases f with
      | func f =>
        simp only [Bool.not_eq_false'] at he
        have hq : quiet QF ⟨dst, .call ⟨.value (.func f), args, ts⟩, type, pos, after, guard⟩ = true := he
        dsimp only at h
        rw [he] at h
        simp only [cQuiet] at h
        have e : execOp ρ ⟨dst, .call ⟨.value (.func f), args, ts⟩, type, pos, after, guard⟩ = (do let d ← Deferred.ofValue (ρ (.func f)) (args.map ρ); invoke d.target d.args) := rfl
        have e2 : (do let d ← Deferred.ofValue (.func (.func f) #[] #[]) (mapL ρ args.toList).toArray; invoke d.target d.args : Sem Next) = callFunc f (mapL ρ args.toList).toArray := by
          show callFunc f ((#[] ++ (mapL ρ args.toList).toArray) ++ #[]) = _
          simp
        refine ⟨qv, fun _ => rfl, ?_, h.2⟩
        rw [hq]
        intro hg w hw
        rw [e, hρ, mapL_arr, e2]
        exact h.1 hg w hw
      | tmp x => simp only at he; cases he
      | const x => simp only at he; cases he
      | global x => simp only at he; cases he
    | invoke r m => simp only at he; cases he
  all_goals exact cPure_out h

theorem stepC_event {P : Program} {QF : List FuncId} {qv : Value} {o : Oper} {ρ : Operand → Value} {g : Bool} {C : World → Prop} {ok : Nat → Prop} {w0 : World} {L : List Item} {KF : Value → Prop} {KE : Value → List Item → Prop} (hρ : ∀ f, ρ (.func f) = .func (.func f) #[] #[]) (he : isEvent QF o = true) (h : stepC P QF qv o ρ g C ok w0 L KF KE) :
    CEv P (isHard o) g (execOp ρ o) ok w0 L KE := by
  obtain ⟨dst, op, type, pos, after, guard⟩ := o
  cases op <;> simp only [isEvent] at he <;> (try (cases he; done)) <;> unfold stepC at h <;> dsimp only at h
  case store t a x => simp only [cStore] at h; exact cEv_out h
  case mapUpdate t m k x => simp only [cMapUpdate] at h; exact cEv_out h
  case buildSlice t l p => simp only [cBuildSlice] at h; rw [← mapP_arr] at h; exact cEv_out h
  case alloc t => simp only [cAlloc] at h; exact cEv_out h
  case box t x => simp only [cBox] at h; exact cEv_out h
  case call c =>
    obtain ⟨callee, args, ts⟩ := c
    cases callee with
    | builtin b =>
      have e : execOp ρ ⟨dst, .call ⟨.builtin b, args, ts⟩, type, pos, after, guard⟩ = builtin b ts type (args.map fun | .const _ => true | _ => false) (args.map ρ) := rfl
      cases b <;> simp only at he <;> (try (cases he; done)) <;> dsimp only at h <;> rw [e, mapL_arr] <;> simp only [cBuiltin] at h <;> exact cEv_out h
    | value f =>
      cases f with
      | func f =>
        have e : execOp ρ ⟨dst, .call ⟨.value (.func f), args, ts⟩, type, pos, after, guard⟩ = (do let d ← Deferred.ofValue (ρ (.func f)) (args.map ρ); invoke d.target d.args) := rfl
        rw [e, hρ, mapL_arr]
        have hq : hasF QF f = false := by simpa using he
        dsimp only at h
        rw [hq] at h
        simp only [cCall] at h
        have := cEv_out h
        have e2 : (do let d ← Deferred.ofValue (.func (.func f) #[] #[]) (mapL ρ args.toList).toArray; invoke d.target d.args : Sem Next) = callFunc f (mapL ρ args.toList).toArray := by
          show callFunc f ((#[] ++ (mapL ρ args.toList).toArray) ++ #[]) = _
          simp
        rw [e2]; exact this
      | tmp x => rw [show execOp ρ ⟨dst, .call ⟨.value (.tmp x), args, ts⟩, type, pos, after, guard⟩ = (do let d ← Deferred.ofValue (ρ (.tmp x)) (args.map ρ); invoke d.target d.args) from rfl, mapL_arr]; simp only [cCallV] at h; exact cEv_out h
      | const x => rw [show execOp ρ ⟨dst, .call ⟨.value (.const x), args, ts⟩, type, pos, after, guard⟩ = (do let d ← Deferred.ofValue (ρ (.const x)) (args.map ρ); invoke d.target d.args) from rfl, mapL_arr]; simp only [cCallV] at h; exact cEv_out h
      | global x => rw [show execOp ρ ⟨dst, .call ⟨.value (.global x), args, ts⟩, type, pos, after, guard⟩ = (do let d ← Deferred.ofValue (ρ (.global x)) (args.map ρ); invoke d.target d.args) from rfl, mapL_arr]; simp only [cCallV] at h; exact cEv_out h
    | invoke r m => exact cEv_out h
  all_goals exact cEv_out h


theorem runC_lexC {P : Program} {QF : List FuncId} {QV : Nat → Value} {n : Nat} {ops : List Oper} {NT : List Nat} {Lb : List Item} {ok : Nat → Prop} {w0 : World} {K : Env → World → Prop} (hn : ∀ (j : Nat) (oj : Oper) (s : Nat), ops[j]? = some oj → oj.dst = some s → s < n) :
    ∀ (rest : List Oper) (i : Nat) (e : Env) (ge : GEnv) (Ls : List (List Item)), Ls ≠ [] → closedG ge → (∀ o ∈ rest, ∀ cs b, o.op ≠ .select cs b) → runC P QF QV n ops NT Lb ok w0 K i rest e ge Ls →
      lexC P QF QV n ops NT Lb ok w0 (fun F w => ∃ e', (∀ t v, look e' t = some v → F t = some ([], v)) ∧ K e' w) ((rest.zipIdx i).map fun q => (q.2, q.1)) (fenv e ge) Ls := by
  intro rest
  induction rest with
  | nil =>
    intro i e ge Ls hne hcl _ h
    simp only [List.zipIdx_nil, List.map_nil, lexC]
    intro L hL w hw
    rw [lastL_last hne] at hL
    cases hL
    refine ⟨endEnv ge e, fun t v hv => ?_, h w hw⟩
    unfold endEnv at hv
    split at hv
    · simp [fenv, look, hv]
    · have := look_dropG hv
      simp [fenv, this.1, this.2]
  | cons o rest ih =>
    intro i e ge Ls hne hcl hsel h
    simp only [List.zipIdx_cons, List.map_cons, lexC]
    simp only [runC] at h
    have hsel' : ∀ o ∈ rest, ∀ cs b, o.op ≠ .select cs b := fun o ho => hsel o (List.mem_cons_of_mem _ ho)
    split at h
    · exact h.elim
    · rename_i gs hgs
      have hch := gof_chained hcl hgs
      have hfg := fgof_eq (e := e) hgs
      split at h
      · exact h.elim
      · rename_i hk
        split at h
        · rename_i c x y hop
          split at h
          · rename_i cv av bv hc hx hy
            split at h
            · rename_i v hv
              obtain ⟨b, p, q, rfl, rfl, rfl, rfl⟩ := pickV_spec hv
              have hev : isEvent QF o = false := by unfold isEvent; rw [hop]
              have hqo : quiet QF o = false := by unfold quiet; rw [hop]
              have hrd : reads o = false := by unfold reads; rw [hop]
              rw [hev]
              have hdet : detAt n ops (fenv e ge) o := by
                unfold detAt
                rw [hfg]
                cases hb : gb e ge gs with
                | true => exact .inl fun a ha => (gb_holds (fenv_fits ha) hch hk).1 hb
                | false => exact .inr fun a ha k => by rw [(gb_holds (fenv_fits ha) hch hk).2 k] at hb; cases hb
              refine ⟨.bool (bif b then p else q), fun k => (by rw [hqo] at k; cases k), fun hr => (by rw [hrd] at hr; cases hr), fun a ha hh w _ => ?_, hdet, ?_⟩
              · rw [hfg] at hh
                rw [hqo]
                have hf := fenv_fits ha
                have ec : a.eval c = .bool b := opnd_at hf hh hc
                have hh' : holds a (pickGs gs c b) := by
                  cases c with
                  | tmp t =>
                    intro p' hp'
                    rcases List.mem_cons.1 hp' with k | k
                    · subst k; exact ec
                    · exact hh p' k
                  | const _ => exact hh
                  | global _ => exact hh
                  | func _ => exact hh
                obtain ⟨dst, op, type, pos, after, guard⟩ := o
                simp only at hop
                subst hop
                show (do pure (.value (if ← asBool (a.eval c) then a.eval x else a.eval y)) : Sem Next).run P w = _
                rw [ec]
                cases b with
                | true => have := opnd_at hf hh' hx; simp only [cond_true]; rw [this]; rfl
                | false => have := opnd_at hf hh' hy; simp only [cond_false]; rw [this]; rfl
              · rw [hfg]
                obtain ⟨e', ge', hF, hcl', hr⟩ := putIn_f hcl hch h
                rw [← hF]
                exact ih (i + 1) e' ge' Ls hne hcl' hsel' hr
            · exact h.elim
          · exact h.elim
        · rename_i x hop
          split at h
          · rename_i v hx
            have hev : isEvent QF o = false := by unfold isEvent; rw [hop]
            have hqo : quiet QF o = false := by unfold quiet; rw [hop]
            have hrd : reads o = false := by unfold reads; rw [hop]
            rw [hev]
            have hdet : detAt n ops (fenv e ge) o := by
              unfold detAt
              rw [hfg]
              cases hb : gb e ge gs with
              | true => exact .inl fun a ha => (gb_holds (fenv_fits ha) hch hk).1 hb
              | false => exact .inr fun a ha k => by rw [(gb_holds (fenv_fits ha) hch hk).2 k] at hb; cases hb
            refine ⟨v, fun k => (by rw [hqo] at k; cases k), fun hr => (by rw [hrd] at hr; cases hr), fun a ha hh w _ => ?_, hdet, ?_⟩
            · rw [hfg] at hh
              rw [hqo]
              have ex : a.eval x = v := opnd_at (fenv_fits ha) hh hx
              obtain ⟨dst, op, type, pos, after, guard⟩ := o
              simp only at hop
              subst hop
              show (pure (.value (a.eval x)) : Sem Next).run P w = _
              rw [ex]; rfl
            · rw [hfg]
              obtain ⟨e', ge', hF, hcl', hr⟩ := putIn_f hcl hch h
              rw [← hF]
              exact ih (i + 1) e' ge' Ls hne hcl' hsel' hr
          · exact h.elim
        · rename_i x hop
          split at h
          · rename_i v hx
            have hev : isEvent QF o = false := by unfold isEvent; rw [hop]
            have hqo : quiet QF o = false := by unfold quiet; rw [hop]
            have hrd : reads o = false := by unfold reads; rw [hop]
            rw [hev]
            have hdet : detAt n ops (fenv e ge) o := by
              unfold detAt
              rw [hfg]
              cases hb : gb e ge gs with
              | true => exact .inl fun a ha => (gb_holds (fenv_fits ha) hch hk).1 hb
              | false => exact .inr fun a ha k => by rw [(gb_holds (fenv_fits ha) hch hk).2 k] at hb; cases hb
            refine ⟨v, fun k => (by rw [hqo] at k; cases k), fun hr => (by rw [hrd] at hr; cases hr), fun a ha hh w _ => ?_, hdet, ?_⟩
            · rw [hfg] at hh
              rw [hqo]
              have ex : a.eval x = v := opnd_at (fenv_fits ha) hh hx
              obtain ⟨dst, op, type, pos, after, guard⟩ := o
              simp only at hop
              subst hop
              show (pure (.value (a.eval x)) : Sem Next).run P w = _
              rw [ex]; rfl
            · rw [hfg]
              obtain ⟨e', ge', hF, hcl', hr⟩ := putIn_f hcl hch h
              rw [← hF]
              exact ih (i + 1) e' ge' Ls hne hcl' hsel' hr
          · exact h.elim
        · split at h
          · exact h.elim
          · rename_i hcov
            split at h
            · exact h.elim
            · rename_i Lc hLc
              have hexec : ∀ a, FitsF n (fenv e ge) a → holds a gs → execOp a.eval o = execOp (rho e ge gs) o := by
                intro a ha hh
                refine execOp_congr o (hsel o (by simp)) fun x hx => ?_
                obtain ⟨v, hv⟩ := allIn_at hcov x (by simpa using hx)
                rw [opnd_at (fenv_fits ha) hh hv]
                simp [rho, hv]
              have hgb : ∀ a, FitsF n (fenv e ge) a → (gb e ge gs = true ↔ holds a gs) := fun a ha => gb_holds (fenv_fits ha) hch hk
              cases hev : isEvent QF o with
              | false =>
                obtain ⟨c, hcq, hc, hk2⟩ := stepC_float hev (fun f => rfl) h
                have hdet : detAt n ops (fenv e ge) o := by
                  unfold detAt
                  rw [hfg]
                  cases hb : gb e ge gs with
                  | true => exact .inl fun a ha => (hgb a ha).1 hb
                  | false => exact .inr fun a ha k => by rw [(hgb a ha).2 k] at hb; cases hb
                refine ⟨c, hcq, fun hr => ?_, fun a ha hh w hw => ?_, hdet, ?_⟩
                · rw [hr] at hLc
                  simp only at hLc
                  rw [nthN_eq] at hLc
                  unfold freeN
                  cases hfr : Nat.beq (NT.getD i 0) 1000 with
                  | true => exact .inl rfl
                  | false =>
                    rw [hfr] at hLc
                    simp only at hLc
                    rw [nthL_eq] at hLc
                    exact .inr (List.getElem?_eq_some_iff.1 hLc).1
                · rw [hfg] at hh
                  rw [hexec a ha hh]
                  refine hc ((hgb a ha).2 hh) w ?_
                  cases hr : reads o with
                  | false => trivial
                  | true =>
                    obtain ⟨L2, h1, h2⟩ := hw hr
                    rw [hr] at hLc
                    simp only at hLc
                    rw [nthN_eq] at hLc
                    unfold lsAt freeN at h1
                    cases hfr : Nat.beq (NT.getD i 0) 1000 with
                    | true =>
                      rw [hfr] at hLc h1
                      cases hLc; cases h1
                      exact h2
                    | false =>
                      rw [hfr] at hLc h1
                      simp only at hLc h1
                      rw [nthL_eq, h1] at hLc
                      cases hLc
                      exact h2
                · rw [hfg]
                  obtain ⟨e', ge', hF, hcl', hr⟩ := putIn_f hcl hch hk2
                  rw [← hF]
                  exact ih (i + 1) e' ge' Ls hne hcl' hsel' hr
              | true =>
                obtain ⟨G, hsub, hst, hk2⟩ := stepC_event (fun f => rfl) hev h
                refine ⟨lastL Ls, G, lastL_last hne, fun hh v L' hG => hsub hh v L' hG, fun v L' hG hw => (subLb_out (hk2 v L' hG hw)).1, fun a ha w hw => ?_, fun v L' hG hw => ?_⟩
                · rw [hfg]
                  have hs := hst w hw
                  refine ⟨fun hh => ?_, fun hh => ?_⟩
                  · rw [hexec a ha hh]; exact hs.1 ((hgb a ha).2 hh)
                  · have hg : gb e ge gs = false := by
                      cases hb : gb e ge gs with
                      | false => rfl
                      | true => exact absurd ((hgb a ha).1 hb) hh
                    obtain ⟨v, L', h1, h2⟩ := hs.2 hg
                    exact ⟨v, L', h1, h2⟩
                · rw [hfg]
                  obtain ⟨e', ge', hF, hcl', hr⟩ := putIn_f hcl hch (subLb_out (hk2 v L' hG hw)).2
                  rw [← hF]
                  exact ih (i + 1) e' ge' (Ls ++ [L']) (by simp) hcl' hsel' hr

/-- A statement whose order is open: once through the text. -/
theorem draw_ruleB {P : Program} {ro : Option Nat} {ds : List Nat} (Lb : List Item) (QF : List FuncId) (QV : Nat → Value) {n : Nat} {id : Nat} {ops : Array Oper} {e : Env} {w w0 : World} {K : EK} {ok : Nat → Prop} {L : List Item} (NT : List Nat) (hm : P.follows .mixedOrders = true) (hck : drawOk QF n ops.toList (befs ops.toList []) NT = true) (H : Own ok w0 w L) (hLb : Lb.Sublist L)
    (h : runC P QF QV n ops.toList NT Lb ok w0 (K .normal ds) 0 ops.toList e [] [L]) : nDrawn P ro n ds id ops e w K := by
  unfold nDrawn
  refine nCode_in fun a hf => ?_
  have st := stat_of hck
  have hsel : ∀ o ∈ ops.toList, ∀ cs b, o.op ≠ .select cs b := fun o ho => by
    obtain ⟨j, hj⟩ := List.mem_iff_getElem?.1 ho
    exact st.nosel j o hj
  have hlex := runC_lexC (P := P) (K := K .normal ds) st.dst_lt ops.toList 0 e [] [L] (by simp) (fun t gs v hl => by simp [look] at hl) hsel h
  refine wpIn_region_any hm ?_
  have hrem : rem ops.toList (Array.replicate ops.size false) = (ops.toList.zipIdx 0).map fun q => (q.2, q.1) := by
    unfold rem
    refine List.filter_eq_self.2 fun q hq => ?_
    obtain ⟨x, hx, rfl⟩ := List.mem_map.1 hq
    have := List.mem_zipIdx hx
    have hlt : x.2 < ops.size := by
      have h2 := this.2.1
      simpa using h2
    simp [Array.getD_eq_getD_getElem?, hlt]
  have hfits := fits_fenv hf
  have inv : RInv QF n ops.toList (befs ops.toList []) Lb ok w0 (rem ops.toList (Array.replicate ops.size false)) (fenv e []) [L] := by
    refine ⟨fun q hq => (mem_rem.1 hq).1, ?_, fun q hq d hd t gs v hv p hp => ?_, ⟨a, hfits⟩, ⟨L, rfl, hLb, w, H⟩, ⟨0, ?_, rfl⟩, fun r A C hA hC => ?_⟩
    · refine (rem_sorted (ops := ops.toList)).imp_of_mem fun {x y} hx hy hlt => ?_
      cases hb : bit (befs ops.toList []) x.1 y.1 with
      | false => rfl
      | true => have := (st.bound x.1 y.1 x.2 y.2 (mem_rem.1 hx).1 (mem_rem.1 hy).1 hb).1; omega
    · simp only [fenv, look] at hv
      split at hv
      · cases hv; cases hp
      · cases hv
    · rw [hrem]
      simp only [List.drop_zero]
      have key : ∀ (l : List Oper) (k : Nat), ((((l.zipIdx k).map fun q => (q.2, q.1)).filter fun q => isEvent QF q.2).map (·.1)) = ((List.range' k l.length).filter fun i => match l[i - k]? with | some o => isEvent QF o | none => false) := by
        intro l
        induction l with
        | nil => intro k; rfl
        | cons x l ih =>
          intro k
          rw [List.zipIdx_cons, List.map_cons, List.filter_cons, List.length_cons, List.range'_succ, List.filter_cons]
          have e1 : ((List.range' (k + 1) l.length).filter fun i => match (x :: l)[i - k]? with | some o => isEvent QF o | none => false) = ((List.range' (k + 1) l.length).filter fun i => match l[i - (k + 1)]? with | some o => isEvent QF o | none => false) := by
            refine List.filter_congr fun i hi => ?_
            have := List.mem_range'_1.1 hi
            obtain ⟨d, rfl⟩ : ∃ d, i = k + 1 + d := ⟨i - (k + 1), by omega⟩
            have e3 : k + 1 + d - k = d + 1 := by omega
            have e4 : k + 1 + d - (k + 1) = d := by omega
            rw [e3, e4]; rfl
          rw [e1, ← ih (k + 1)]
          simp only [Nat.sub_self, List.getElem?_cons_zero]
          split <;> rfl
      have := key ops.toList 0
      rw [this]
      unfold evList
      rw [List.range_eq_range']
      simp only [Nat.sub_zero]
    · have := (List.getElem?_eq_some_iff.1 hC).1
      simp at this
  refine draw_any (QV := QV) (KF := fun F w => ∃ e', (∀ t v, look e' t = some v → F t = some ([], v)) ∧ K .normal ds e' w) st (fun F1 F2 w hS ⟨e', he, hk⟩ => ⟨e', fun t v hv => hS.bare t v (he t v hv), hk⟩) ?_ ops.size (Array.replicate ops.size false) a _ (fenv e []) [L] (by simp) inv hfits hf.defers ⟨L, rfl, hLb, H.drew⟩ ?_ ?_ ?_
  · intro F a w hF hdf hk
    obtain ⟨e', he, hk⟩ := hk
    exact ⟨ds, e', ⟨hF.size, hdf, fun t v hv => hF.yes t [] v (he t v hv) (fun p hp => by cases hp)⟩, hk⟩
  · intro m i om oi hm' hi hb hl
    have : m < ops.size := by simpa using (List.getElem?_eq_some_iff.1 hm').1
    simp [Array.getD_eq_getD_getElem?, this] at hl
  · rw [hrem]; simp
  · rw [hrem]; exact hlex
theorem draw_ruleQ {P : Program} {ro : Option Nat} {ds : List Nat} (QF : List FuncId) (QV : Nat → Value) {n : Nat} {id : Nat} {ops : Array Oper} {e : Env} {w w0 : World} {K : EK} {ok : Nat → Prop} {L : List Item} (NT : List Nat) (hm : P.follows .mixedOrders = true) (hck : drawOk QF n ops.toList (befs ops.toList []) NT = true) (H : Own ok w0 w L)
    (h : runC P QF QV n ops.toList NT [] ok w0 (K .normal ds) 0 ops.toList e [] [L]) : nDrawn P ro n ds id ops e w K := draw_ruleB [] QF QV NT hm hck H (List.nil_sublist _) h
theorem draw_rule {P : Program} {ro : Option Nat} {ds : List Nat} {n : Nat} {id : Nat} {ops : Array Oper} {e : Env} {w w0 : World} {K : EK} {ok : Nat → Prop} {L : List Item} (NT : List Nat) (hm : P.follows .mixedOrders = true) (hck : drawOk [] n ops.toList (befs ops.toList []) NT = true) (H : Own ok w0 w L)
    (h : runC P [] (fun _ => undef) n ops.toList NT [] ok w0 (K .normal ds) 0 ops.toList e [] [L]) : nDrawn P ro n ds id ops e w K := draw_ruleQ [] _ NT hm hck H h
end Go.Eng
/- The engine's words for data: how values stand for lists, texts, numbers and structs; the rules that read them, and those that make rows. Proved once, over any program. -/
set_option linter.unusedVariables false
namespace Go.Eng
open Go.RowKit
set_option linter.unusedSectionVars false
variable [Inhabited Keep]

theorem one_kit {v : Value} : oneV v = v.oneCell' := by cases v <;> rfl

/-- A kind of data: how many cells it takes, and which cells stand for it. -/
structure Ty (α : Type) where
  sz : Nat
  R : World → (Nat → Prop) → α → List Value → Prop
  len : ∀ {w ok x cs}, R w ok x cs → cs.length = sz
  one : ∀ {w ok x cs}, R w ok x cs → ∀ v ∈ cs, oneV v = true
  mono : ∀ {w ok ok' x cs}, (∀ b, ok b → ok' b) → R w ok x cs → R w ok' x cs
  step : ∀ {w w' : World} {ok x cs}, (∀ b, ok b → b < w.heap.size → w'.heap[b]? = w.heap[b]?) → R w ok x cs → R w' ok x cs
  bound : ∀ {w : World} {ok x cs}, R w ok x cs → R w (fun b => ok b ∧ b < w.heap.size) x cs

def tInt (k : IntKind) : Ty Int := ⟨1, fun _ _ x cs => cs = [.int k x], fun h => by subst h; rfl, fun h v hv => by subst h; simp at hv; subst hv; rfl, fun _ h => h, fun _ h => h, fun h => h⟩
def tBool : Ty Bool := ⟨1, fun _ _ x cs => cs = [.bool x], fun h => by subst h; rfl, fun h v hv => by subst h; simp at hv; subst hv; rfl, fun _ h => h, fun _ h => h, fun h => h⟩
def bs (l : List UInt8) : ByteArray := ⟨l.toArray⟩
def tStr : Ty (List UInt8) := ⟨1, fun _ _ x cs => cs = [.string (bs x)], fun h => by subst h; rfl, fun h v hv => by subst h; simp at hv; subst hv; rfl, fun _ h => h, fun _ h => h, fun h => h⟩
def tPair {α β : Type} (a : Ty α) (b : Ty β) : Ty (α × β) :=
  ⟨a.sz + b.sz, fun w ok x cs => ∃ c d, cs = c ++ d ∧ a.R w ok x.1 c ∧ b.R w ok x.2 d,
   fun ⟨c, d, e, h1, h2⟩ => by subst e; rw [List.length_append, a.len h1, b.len h2],
   fun ⟨c, d, e, h1, h2⟩ v hv => by subst e; exact (List.mem_append.1 hv).elim (a.one h1 v) (b.one h2 v),
   fun hk ⟨c, d, e, h1, h2⟩ => ⟨c, d, e, a.mono hk h1, b.mono hk h2⟩,
   fun hk ⟨c, d, e, h1, h2⟩ => ⟨c, d, e, a.step hk h1, b.step hk h2⟩,
   fun ⟨c, d, e, h1, h2⟩ => ⟨c, d, e, a.bound h1, b.bound h2⟩⟩

theorem add_block (a : Addr) (k : Nat) : (a.add k).block = a.block := by unfold Addr.add; split <;> rfl
theorem cellsAt_step {w w' : World} {a : Addr} (h : w'.heap[a.block]? = w.heap[a.block]?) : ∀ {vs : List Value} {k : Nat}, cellsAt w a k vs → cellsAt w' a k vs := by
  intro vs
  induction vs with
  | nil => intro k _; trivial
  | cons v r ih =>
    intro k hc
    refine ⟨?_, ih hc.2⟩
    exact (World.cell?_of_block (w := w) (by rw [add_block]; exact h)).trans hc.1
theorem add_add (a : Addr) (m k : Nat) : (a.add m).add k = a.add (m + k) := by
  unfold Addr.add
  by_cases h1 : m = 0
  · subst h1; simp
  · by_cases h2 : k = 0
    · subst h2; simp
    · have : m + k ≠ 0 := by omega
      simp [h1, h2, Nat.add_assoc]
theorem cellsAt_lt {w : World} {a : Addr} {vs : List Value} {k : Nat} (h : cellsAt w a k vs) (hv : vs ≠ []) : a.block < w.heap.size := by
  cases vs with
  | nil => exact absurd rfl hv
  | cons v r => have := World.block_lt_of_cell? w _ h.1; rwa [add_block] at this

/-- A slice stands for a list. -/
def slR {α : Type} (k : Ty α) (w : World) (ok : Nat → Prop) (v : Value) (xs : List α) : Prop :=
  ∃ A c, v = .slice A xs.length c ∧ xs.length ≤ c ∧ ((xs = [] ∧ (A = none → c = 0)) ∨ ∃ a, A = some a ∧ ok a.block ∧ a.block < w.heap.size ∧ ∀ (j : Nat) x, xs[j]? = some x → ∃ cs, k.R w ok x cs ∧ cellsAt w (a.add (j * k.sz)) 0 cs)
def tSl {α : Type} (k : Ty α) : Ty (List α) :=
  ⟨1, fun w ok xs cs => ∃ v, cs = [v] ∧ slR k w ok v xs,
   fun ⟨v, e, _⟩ => by subst e; rfl,
   fun ⟨v, e, A, c, hv, _⟩ u hu => by subst e; simp at hu; subst hu; subst hv; rfl,
   fun hk ⟨v, e, A, c, hv, hc, h⟩ => ⟨v, e, A, c, hv, hc, h.imp id fun ⟨a, h1, h2, h3, h4⟩ => ⟨a, h1, hk _ h2, h3, fun j x hx => let ⟨cs, g1, g2⟩ := h4 j x hx; ⟨cs, k.mono hk g1, g2⟩⟩⟩,
   fun {w w' ok xs cs} hk ⟨v, e, A, c, hv, hc, h⟩ => ⟨v, e, A, c, hv, hc, h.imp id fun ⟨a, h1, h2, h3, h4⟩ => ⟨a, h1, h2, by
      have := hk a.block h2 h3
      rw [Array.getElem?_eq_getElem h3] at this
      exact (Array.getElem?_eq_some_iff.1 this).1, fun j x hx => let ⟨cs, g1, g2⟩ := h4 j x hx; ⟨cs, k.step hk g1, cellsAt_step (by rw [add_block]; exact hk a.block h2 h3) g2⟩⟩⟩,
   fun ⟨v, e, A, c, hv, hc, h⟩ => ⟨v, e, A, c, hv, hc, h.imp id fun ⟨a, h1, h2, h3, h4⟩ => ⟨a, h1, ⟨h2, h3⟩, h3, fun j x hx => let ⟨cs, g1, g2⟩ := h4 j x hx; ⟨cs, k.bound g1, g2⟩⟩⟩⟩

/-! Data in the list of what is there. -/
def dR {α : Type} (k : Ty α) (x : α) (cs : List Value) : Dat := ⟨fun w ok => k.R w ok x cs, k.mono, k.step, k.bound⟩
/-- v stands for xs. -/
def dSl {α : Type} (k : Ty α) (v : Value) (xs : List α) : Dat := ⟨fun w ok => slR k w ok v xs,
  fun hk h => let ⟨v', e, h'⟩ := (tSl k).mono (cs := [v]) hk ⟨v, rfl, h⟩; by cases e; exact h',
  fun hk h => let ⟨v', e, h'⟩ := (tSl k).step (cs := [v]) hk ⟨v, rfl, h⟩; by cases e; exact h',
  fun h => let ⟨v', e, h'⟩ := (tSl k).bound (cs := [v]) ⟨v, rfl, h⟩; by cases e; exact h'⟩
/-- These cells stand at an address. -/
def dCells (a : Addr) (cs : List Value) : Dat := ⟨fun w ok => ok a.block ∧ a.block < w.heap.size ∧ cellsAt w a 0 cs,
  fun hk h => ⟨hk _ h.1, h.2.1, h.2.2⟩,
  fun {w w' ok} hk h => ⟨h.1, by
    have := hk a.block h.1 h.2.1
    rw [Array.getElem?_eq_getElem h.2.1] at this
    exact (Array.getElem?_eq_some_iff.1 this).1, cellsAt_step (hk a.block h.1 h.2.1) h.2.2⟩,
  fun h => ⟨⟨h.1, h.2.1⟩, h.2.1, h.2.2⟩⟩
/-- The cells of a row, one value behind the other. -/
def rowsR {α : Type} (k : Ty α) (w : World) (ok : Nat → Prop) : List α → List Value → Prop
  | [], cs => cs = []
  | x :: xs, cs => ∃ c d, cs = c ++ d ∧ k.R w ok x c ∧ rowsR k w ok xs d
theorem rowsR_mono {α : Type} {k : Ty α} {w : World} {ok ok' : Nat → Prop} (hk : ∀ b, ok b → ok' b) : ∀ {xs : List α} {cs : List Value}, rowsR k w ok xs cs → rowsR k w ok' xs cs := by
  intro xs
  induction xs with
  | nil => intro cs h; exact h
  | cons x xs ih => intro cs ⟨c, d, e, h1, h2⟩; exact ⟨c, d, e, k.mono hk h1, ih h2⟩
theorem rowsR_step {α : Type} {k : Ty α} {w w' : World} {ok : Nat → Prop} (hk : ∀ b, ok b → b < w.heap.size → w'.heap[b]? = w.heap[b]?) : ∀ {xs : List α} {cs : List Value}, rowsR k w ok xs cs → rowsR k w' ok xs cs := by
  intro xs
  induction xs with
  | nil => intro cs h; exact h
  | cons x xs ih => intro cs ⟨c, d, e, h1, h2⟩; exact ⟨c, d, e, k.step hk h1, ih h2⟩
theorem rowsR_bound {α : Type} {k : Ty α} {w : World} {ok : Nat → Prop} : ∀ {xs : List α} {cs : List Value}, rowsR k w ok xs cs → rowsR k w (fun b => ok b ∧ b < w.heap.size) xs cs := by
  intro xs
  induction xs with
  | nil => intro cs h; exact h
  | cons x xs ih => intro cs ⟨c, d, e, h1, h2⟩; exact ⟨c, d, e, k.bound h1, ih h2⟩
def dRows {α : Type} (k : Ty α) (xs : List α) (cs : List Value) : Dat := ⟨fun w ok => rowsR k w ok xs cs, fun hk h => rowsR_mono hk h, fun hk h => rowsR_step hk h, fun h => rowsR_bound h⟩
theorem rowsR_snoc {α : Type} {k : Ty α} {w : World} {ok : Nat → Prop} {x : α} {c : List Value} (hx : k.R w ok x c) : ∀ {xs : List α} {cs : List Value}, rowsR k w ok xs cs → rowsR k w ok (xs ++ [x]) (cs ++ c) := by
  intro xs
  induction xs with
  | nil => intro cs h; simp only [rowsR] at h; subst h; exact ⟨c, [], by simp, hx, rfl⟩
  | cons y xs ih => intro cs ⟨c', d, e, h1, h2⟩; subst e; exact ⟨c', d ++ c, by simp, h1, ih h2⟩
theorem rowsR_append {α : Type} {k : Ty α} {w : World} {ok : Nat → Prop} {ys : List α} {ds : List Value} (hy : rowsR k w ok ys ds) : ∀ {xs : List α} {cs : List Value}, rowsR k w ok xs cs → rowsR k w ok (xs ++ ys) (cs ++ ds) := by
  intro xs
  induction xs with
  | nil => intro cs h; simp only [rowsR] at h; subst h; exact hy
  | cons y xs ih => intro cs ⟨c', d, e, h1, h2⟩; subst e; exact ⟨c', d ++ ds, by simp, h1, ih h2⟩
theorem rowsR_length {α : Type} {k : Ty α} {w : World} {ok : Nat → Prop} : ∀ {xs : List α} {cs : List Value}, rowsR k w ok xs cs → cs.length = xs.length * k.sz := by
  intro xs
  induction xs with
  | nil => intro cs h; simp only [rowsR] at h; subst h; simp
  | cons y xs ih => intro cs ⟨c', d, e, h1, h2⟩; subst e; rw [List.length_append, k.len h1, ih h2, List.length_cons, Nat.succ_mul, Nat.add_comm]
theorem rowsR_one {α : Type} {k : Ty α} {w : World} {ok : Nat → Prop} : ∀ {xs : List α} {cs : List Value}, rowsR k w ok xs cs → ∀ v ∈ cs, oneV v = true := by
  intro xs
  induction xs with
  | nil => intro cs h; simp only [rowsR] at h; subst h; simp
  | cons y xs ih => intro cs ⟨c', d, e, h1, h2⟩ v hv; subst e; exact (List.mem_append.1 hv).elim (k.one h1 v) (ih h2 v)
theorem rowsR_get {α : Type} {k : Ty α} {w : World} {ok : Nat → Prop} : ∀ {xs : List α} {cs : List Value}, rowsR k w ok xs cs → ∀ (j : Nat) x, xs[j]? = some x → ∃ c, k.R w ok x c ∧ ∀ i v, c[i]? = some v → cs[j * k.sz + i]? = some v := by
  intro xs
  induction xs with
  | nil => intro cs h j x hx; simp at hx
  | cons y xs ih =>
    intro cs ⟨c', d, e, h1, h2⟩ j x hx
    subst e
    cases j with
    | zero =>
      simp at hx; subst hx
      refine ⟨c', h1, fun i v hv => ?_⟩
      rw [Nat.zero_mul, Nat.zero_add, List.getElem?_append_left (List.getElem?_eq_some_iff.1 hv).1]; exact hv
    | succ j =>
      simp at hx
      obtain ⟨c, g1, g2⟩ := ih h2 j x hx
      refine ⟨c, g1, fun i v hv => ?_⟩
      have hl := k.len h1
      rw [List.getElem?_append_right (by rw [hl, Nat.succ_mul]; omega), hl]
      have : (j + 1) * k.sz + i - k.sz = j * k.sz + i := by rw [Nat.succ_mul]; omega
      rw [this]; exact g2 i v hv

section
variable {P : Program} {w w0 : World} {K : Value → World → Prop} {g : Bool} {ok : Nat → Prop} {L : List Item} {α : Type}

/-- An element of a list that is there: its cells. -/
theorem Own.elem {k : Ty α} (H : Own ok w0 w L) (i : Nat) {v : Value} {xs : List α} (hi : L[i]? = some (.dat (dSl k v xs))) (j : Nat) (hj : j < xs.length) :
    ∃ a c cs, v = .slice (some a) xs.length c ∧ k.R w (okOf ok w0 L) xs[j] cs ∧ Own ok w0 w (.dat (dCells (a.add (j * k.sz)) cs) :: .dat (dR k xs[j] cs) :: L) := by
  obtain ⟨A, c, hv, hc, h⟩ := H.dat i hi
  rcases h with ⟨h, _⟩ | ⟨a, h1, h2, h3, h4⟩
  · subst h; simp at hj
  · subst h1
    obtain ⟨cs, g1, g2⟩ := h4 j xs[j] (List.getElem?_eq_getElem hj)
    exact ⟨a, c, cs, hv, g1, (H.addDat (dR k xs[j] cs) g1).addDat _ ⟨by rw [add_block]; exact h2, by rw [add_block]; exact h3, g2⟩⟩
theorem Own.sl {k : Ty α} (H : Own ok w0 w L) (i : Nat) {v : Value} {xs : List α} (hi : L[i]? = some (.dat (dSl k v xs))) : ∃ A c, v = .slice A xs.length c ∧ xs.length ≤ c := by
  obtain ⟨A, c, hv, hc, h⟩ := H.dat i hi
  exact ⟨A, c, hv, hc⟩

theorem cellsAt_get {a : Addr} : ∀ {vs : List Value} {k j : Nat} {v : Value}, cellsAt w a k vs → vs[j]? = some v → w.cell? (a.add (k + j)) = some v := by
  intro vs
  induction vs with
  | nil => intro k j v _ h; simp at h
  | cons x r ih =>
    intro k j v hc h
    cases j with
    | zero => simp at h; subst h; exact hc.1
    | succ j =>
      simp at h
      have := ih hc.2 h
      rwa [show k + 1 + j = k + (j + 1) by omega] at this
theorem cellsAt_of {a : Addr} : ∀ {vs : List Value} {k : Nat}, (∀ j v, vs[j]? = some v → w.cell? (a.add (k + j)) = some v) → cellsAt w a k vs := by
  intro vs
  induction vs with
  | nil => intro k _; trivial
  | cons x r ih =>
    intro k h
    refine ⟨h 0 x rfl, ih fun j v hj => ?_⟩
    have := h (j + 1) v (by simpa using hj)
    rwa [show k + (j + 1) = k + 1 + j by omega] at this
theorem cellsAt_sub {a : Addr} {cs vs : List Value} {off m : Nat} (hc : cellsAt w a 0 cs) (hv : (cs.drop off).take m = vs) : cellsAt w (a.add off) 0 vs := by
  refine cellsAt_of fun j v hj => ?_
  subst hv
  rw [List.getElem?_take] at hj
  split at hj
  · rw [List.getElem?_drop] at hj
    have := cellsAt_get hc hj
    rw [Nat.zero_add] at this
    rw [add_add, Nat.zero_add]; exact this
  · cases hj

/-! Reading cells that are there. -/
theorem own_loadD {t : TypeId} {a : Addr} {cs : List Value} {v : Value} (H : Own ok w0 w L) (i : Nat) (hi : L[i]? = some (.dat (dCells a cs))) (j : Nat) (ha : aggB P t = some false) (hj : cs[j]? = some v) (hk : K v w) : nLoad P g t (.pointer (some (a.add j))) w K :=
  load_rule ha (fun _ => by have := cellsAt_get (H.dat i hi).2.2 hj; rwa [Nat.zero_add] at this) hk
theorem own_loadDA {t : TypeId} {a : Addr} {cs : List Value} {m : Nat} (H : Own ok w0 w L) (i : Nat) (hi : L[i]? = some (.dat (dCells a cs))) (off : Nat) (ha : aggB P t = some true) (hs : sizeB P t = some m) (vs : List Value) (hv : (cs.drop off).take m = vs) (hl : vs.length = m) (hk : K (.agg vs.toArray) w) : nLoad P g t (.pointer (some (a.add off))) w K :=
  loadA_rule vs ha hs hl (fun _ => cellsAt_sub (H.dat i hi).2.2 hv) hk

/-! Where an element lies; a byte of a text; parts of slices and texts. -/
def sliceB (P : Program) (t : TypeId) : Option TypeId := match P.underlying t with | some (.slice e) => some e | _ => none
theorem run_underlying_slice {t e : TypeId} (h : sliceB P t = some e) : (underlying t).run P w = .ok (.slice e) w := by
  unfold sliceB at h
  split at h
  · rename_i hu; cases h; simp [underlying, program, Sem.run, hu]
  · cases h
theorem indexAddr_run {t e : TypeId} {sz : Nat} {a : Addr} {n c : Nat} {kk : IntKind} {i : Nat} (ht : sliceB P t = some e) (hs : sizeB P e = some sz) (hi : i < n) : (Instr.indexAt t (.slice (some a) n c) (.int kk (i : Int))).run P w = .ok (.pointer (some (a.add (i * sz)))) w := by
  have h1 : (0 : Int) ≤ (i : Int) ∧ (i : Int) < (n : Int) := ⟨by omega, by omega⟩
  simp only [Instr.indexAt, asIntOf, Sem.run_bind, Sem.run_pure, Result.andThen_ok, run_underlying_slice ht, h1, and_self, if_true, run_sizeOf hs, Int.toNat_natCast]
theorem indexAddr_rule {t e : TypeId} (sz : Nat) {a : Addr} {n c : Nat} {kk : IntKind} (i : Nat) (ht : sliceB P t = some e) (hs : sizeB P e = some sz) (hi : g = true → i < n) (hk : K (.pointer (some (a.add (i * sz)))) w) : nIndexAddr P g t (.slice (some a) n c) (.int kk (i : Int)) w K := by
  unfold nIndexAddr
  exact nOp_now (fun hg => sv_run (indexAddr_run ht hs (hi hg))) hk

def strB (P : Program) (t : TypeId) : Bool := match P.underlying t with | some .string => true | _ => false
theorem run_underlying_str {t : TypeId} (h : strB P t = true) : (underlying t).run P w = .ok .string w := by
  unfold strB at h
  split at h
  · rename_i hu; simp [underlying, program, Sem.run, hu]
  · cases h
theorem bs_size (l : List UInt8) : (bs l).size = l.length := by simp [bs, ByteArray.size]
theorem bs_get (l : List UInt8) (i : Nat) : (bs l)[i]? = l[i]? := by
  by_cases h : i < l.length
  · have h' : i < (bs l).size := by rw [bs_size]; exact h
    rw [getElem?_pos (bs l) i h', List.getElem?_eq_getElem h]
    simp [bs, ByteArray.getElem_eq_getElem_data]
  · have h' : ¬ i < (bs l).size := by rw [bs_size]; exact h
    rw [getElem?_neg (bs l) i h', List.getElem?_eq_none (by omega)]
theorem index_run {t : TypeId} {l : List UInt8} {kk : IntKind} {i : Nat} {b : UInt8} (ht : strB P t = true) (hb : l[i]? = some b) : (Instr.index t (.string (bs l)) (.int kk (i : Int))).run P w = .ok (.int .u8 b.toNat) w := by
  have h1 : (0 : Int) ≤ (i : Int) := by omega
  simp only [Instr.index, asIntOf, Sem.run_bind, Sem.run_pure, Result.andThen_ok, run_underlying_str ht, h1, if_true, Int.toNat_natCast, bs_get, hb]
theorem index_rule {t : TypeId} {l : List UInt8} {kk : IntKind} (i : Nat) (b : UInt8) (ht : strB P t = true) (hb : g = true → l[i]? = some b) (hk : K (.int .u8 b.toNat) w) : nIndex P g t (.string (bs l)) (.int kk (i : Int)) w K := by
  unfold nIndex
  exact nOp_now (fun hg => sv_run (index_run ht (hb hg))) hk
end

/-! The same where the order is open. -/
section
variable {P : Program} {w0 : World} {g : Bool} {ok : Nat → Prop} {L : List Item} {α : Type} {C : World → Prop} {KF : Value → Prop} {KE : Value → List Item → Prop}

theorem c_load {t t' : TypeId} {b j : Nat} {cs : List Value} {v : Value} (i : Nat) (hi : L[i]? = some (.blk b cs t')) (ha : aggB P t = some false) (hj : cs[j]? = some v) (hk : KF v) : cLoad P g t (.pointer (some ⟨b, j, none⟩)) (fun w => Own ok w0 w L) KF := by
  unfold cLoad
  exact cFloat_in v (fun _ w H => sv_run (load1_run ha (H.cell i hi j hj))) hk
theorem c_loadA {t t' : TypeId} {b off m : Nat} {cs : List Value} (i : Nat) (hi : L[i]? = some (.blk b cs t')) (ha : aggB P t = some true) (hs : sizeB P t = some m) (vs : List Value) (hv : (cs.drop off).take m = vs) (hl : vs.length = m) (hk : KF (.agg vs.toArray)) : cLoad P g t (.pointer (some ⟨b, off, none⟩)) (fun w => Own ok w0 w L) KF := by
  unfold cLoad
  refine cFloat_in _ (fun _ w H => sv_run (loadA_run ha hs hl (cellsAt_blk (H.blk i hi) off vs 0 fun j v hj => ?_))) hk
  subst hv
  rw [List.getElem?_take] at hj
  split at hj
  · simpa using hj
  · cases hj
theorem c_loadD {t : TypeId} {a : Addr} {cs : List Value} {v : Value} (i : Nat) (hi : L[i]? = some (.dat (dCells a cs))) (j : Nat) (ha : aggB P t = some false) (hj : cs[j]? = some v) (hk : KF v) : cLoad P g t (.pointer (some (a.add j))) (fun w => Own ok w0 w L) KF := by
  unfold cLoad
  exact cFloat_in v (fun _ w H => sv_run (load1_run ha (by have := cellsAt_get (H.dat i hi).2.2 hj; rwa [Nat.zero_add] at this))) hk
theorem c_loadDA {t : TypeId} {a : Addr} {cs : List Value} {m : Nat} (i : Nat) (hi : L[i]? = some (.dat (dCells a cs))) (off : Nat) (ha : aggB P t = some true) (hs : sizeB P t = some m) (vs : List Value) (hv : (cs.drop off).take m = vs) (hl : vs.length = m) (hk : KF (.agg vs.toArray)) : cLoad P g t (.pointer (some (a.add off))) (fun w => Own ok w0 w L) KF := by
  unfold cLoad
  exact cFloat_in _ (fun _ w H => sv_run (loadA_run ha hs hl (cellsAt_sub (H.dat i hi).2.2 hv))) hk
theorem c_indexAddr {t e : TypeId} (sz : Nat) {a : Addr} {n c : Nat} {kk : IntKind} (i : Nat) (ht : sliceB P t = some e) (hs : sizeB P e = some sz) (hi : g = true → i < n) (hk : KF (.pointer (some (a.add (i * sz))))) : cIndexAddr P g t (.slice (some a) n c) (.int kk (i : Int)) C KF := by
  unfold cIndexAddr
  exact cFloat_in _ (fun hg w _ => sv_run (indexAddr_run ht hs (hi hg))) hk
theorem c_index {t : TypeId} {l : List UInt8} {kk : IntKind} (i : Nat) (b : UInt8) (ht : strB P t = true) (hb : g = true → l[i]? = some b) (hk : KF (.int .u8 b.toNat)) : cIndex P g t (.string (bs l)) (.int kk (i : Int)) C KF := by
  unfold cIndex
  exact cFloat_in _ (fun hg w _ => sv_run (index_run ht (hb hg))) hk
/-- A call that hands back a known value and leaves all as it was. -/
theorem c_call {f : FuncId} {args : List Value} (v : Value) (hb : bodyB P f = true) (hc : g = true → ∀ w, Own ok w0 w L → Calls P f args.toArray w fun e w' => ∃ u, e = .returned u ∧ u = v ∧ Bel w.heap.size w w') (hk : KE v L) : cCall P g f args ok w0 L KE := by
  unfold cCall
  refine cEv_in ⟨fun u L' => u = v ∧ L' = L, fun _ u L' h => by rw [h.2]; exact List.Sublist.refl _, fun w H => ⟨fun hg => ?_, fun _ => ⟨v, L, ⟨rfl, rfl⟩, H⟩⟩, fun u L' h _ => by rw [h.1, h.2]; exact hk⟩
  rw [run_callFunc hb]
  refine Calls.mono (hc hg w H) fun e w' ⟨u, he, hu, hbel⟩ => ?_
  subst he
  exact ⟨L, ⟨hu, rfl⟩, H.call hbel⟩
/-- .. that hands back new data. -/
theorem c_callDat {f : FuncId} {args : List Value} (D : Value → Dat) (Q : Value → Prop) (hb : bodyB P f = true) (hc : ∀ w, Own ok w0 w L → Calls P f args.toArray w fun e w' => ∃ u, e = .returned u ∧ Q u ∧ (D u).φ w' (fun b => okOf ok w0 L b ∨ w.heap.size ≤ b) ∧ Bel w.heap.size w w') (hk : ∀ v, Q v → KE v (.dat (D v) :: L)) : cCall P true f args ok w0 L KE := by
  unfold cCall
  refine cEv_in ⟨fun u L' => Q u ∧ L' = .dat (D u) :: L, fun _ u L' h => by rw [h.2]; exact List.sublist_cons_self _ _, fun w H => ⟨fun hg => ?_, fun h => by cases h⟩, fun u L' h _ => by rw [h.2]; exact hk u h.1⟩
  rw [run_callFunc hb]
  refine Calls.mono (hc w H) fun e w' ⟨u, he, hu, hd, hbel⟩ => ?_
  subst he
  exact ⟨_, ⟨hu, rfl⟩, H.callDat hbel (D u) hd⟩
end
end Go.Eng
/- The engine's rules for what may fail, and for rows: shifts, divisions, texts, literals of slices, append, parts. Proved once, over any program. -/
set_option linter.unusedVariables false
namespace Go.Eng
open Go.RowKit
set_option linter.unusedSectionVars false
variable [Inhabited Keep]

section
variable {P : Program} {w w0 : World} {K : Value → World → Prop} {g : Bool} {ok : Nat → Prop} {L : List Item} {α : Type} {C : World → Prop} {KF : Value → Prop} {KE : Value → List Item → Prop}

/-! ### Operators -/
def noEq : BinOp → Bool
  | .eql => false
  | .neq => false
  | _ => true
theorem eqGuard_run {op : BinOp} {t : TypeId} {xo yo : Operand} {x y : Value} (h : noEq op = true) : (eqGuard op t xo yo x y).run P w = .ok () w := by
  cases op <;> first | rfl | (simp [noEq] at h)
theorem bin_run {op : BinOp} {t : TypeId} {xo yo : Operand} {x y v : Value} (h : noEq op = true) (hb : (binOp op t x y).run P w = .ok v w) : (sv (do eqGuard op t xo yo x y; binOp op t x y)).run P w = .ok (.value v) w :=
  sv_run (by rw [Sem.run_bind, eqGuard_run h]; exact hb)
theorem shl_run {t : TypeId} {k k' : IntKind} {a b : Int} (hb : 0 ≤ b) : (binOp .shl t (.int k a) (.int k' b)).run P w = .ok (.int k (k.wrap (a * 2 ^ min b.toNat k.bits))) w := by
  simp only [binOp, Op.shift]; rw [if_neg (by omega)]; rfl
theorem shr_run {t : TypeId} {k k' : IntKind} {a b : Int} (hb : 0 ≤ b) : (binOp .shr t (.int k a) (.int k' b)).run P w = .ok (.int k (a.fdiv (2 ^ min b.toNat k.bits))) w := by
  simp only [binOp, Op.shift]; rw [if_neg (by omega)]; rfl
theorem rem_run {t : TypeId} {k : IntKind} {a b : Int} (hb : b ≠ 0) : (binOp .rem t (.int k a) (.int k b)).run P w = .ok (.int k (a.tmod b)) w := by
  simp only [binOp, Op.intDiv, ne_eq, not_true, if_false]; rw [if_neg hb]; rfl
theorem quo_run {t : TypeId} {k : IntKind} {a b : Int} (hb : b ≠ 0) : (binOp .quo t (.int k a) (.int k b)).run P w = .ok (.int k (k.wrap (a.tdiv b))) w := by
  simp only [binOp, Op.intDiv, ne_eq, not_true, if_false]; rw [if_neg hb]; rfl
theorem bs_toList (a : List UInt8) : (bs a).toList = a := by simp [ByteArray.toList_eq, bs]
theorem bs_append (a b : List UInt8) : bs a ++ bs b = bs (a ++ b) := by
  apply ByteArray.ext; simp [bs]
theorem cat_run {t : TypeId} {a b : List UInt8} (h : a.length + b.length ≤ 9223372036854775807) : (binOp .add t (.string (bs a)) (.string (bs b))).run P w = .ok (.string (bs (a ++ b))) w := by
  have hm : IntKind.i64.max = 9223372036854775807 := rfl
  simp only [binOp, Op.stringOp, bs_size, hm]
  rw [if_neg (by omega), bs_append]; rfl
theorem shl_rule {t : TypeId} {xo yo : Operand} {k k' : IntKind} {a b : Int} (hb : g = true → 0 ≤ b) (hk : K (.int k (k.wrap (a * 2 ^ min b.toNat k.bits))) w) : nBin P g .shl t xo yo (.int k a) (.int k' b) w K := by
  unfold nBin; exact nOp_now (fun hg => bin_run rfl (shl_run (hb hg))) hk
theorem shr_rule {t : TypeId} {xo yo : Operand} {k k' : IntKind} {a b : Int} (hb : g = true → 0 ≤ b) (hk : K (.int k (a.fdiv (2 ^ min b.toNat k.bits))) w) : nBin P g .shr t xo yo (.int k a) (.int k' b) w K := by
  unfold nBin; exact nOp_now (fun hg => bin_run rfl (shr_run (hb hg))) hk
theorem rem_rule {t : TypeId} {xo yo : Operand} {k : IntKind} {a b : Int} (hb : g = true → b ≠ 0) (hk : K (.int k (a.tmod b)) w) : nBin P g .rem t xo yo (.int k a) (.int k b) w K := by
  unfold nBin; exact nOp_now (fun hg => bin_run rfl (rem_run (hb hg))) hk
theorem quo_rule {t : TypeId} {xo yo : Operand} {k : IntKind} {a b : Int} (hb : g = true → b ≠ 0) (hk : K (.int k (k.wrap (a.tdiv b))) w) : nBin P g .quo t xo yo (.int k a) (.int k b) w K := by
  unfold nBin; exact nOp_now (fun hg => bin_run rfl (quo_run (hb hg))) hk
theorem cat_rule {t : TypeId} {xo yo : Operand} {a b : List UInt8} (h : g = true → a.length + b.length ≤ 9223372036854775807) (hk : K (.string (bs (a ++ b))) w) : nBin P g .add t xo yo (.string (bs a)) (.string (bs b)) w K := by
  unfold nBin; exact nOp_now (fun hg => bin_run rfl (cat_run (h hg))) hk
theorem c_shl {t : TypeId} {xo yo : Operand} {k k' : IntKind} {a b : Int} (hb : g = true → 0 ≤ b) (hk : KF (.int k (k.wrap (a * 2 ^ min b.toNat k.bits)))) : cBin P g .shl t xo yo (.int k a) (.int k' b) C KF := by
  unfold cBin; exact cFloat_in _ (fun hg w _ => bin_run rfl (shl_run (hb hg))) hk
theorem c_shr {t : TypeId} {xo yo : Operand} {k k' : IntKind} {a b : Int} (hb : g = true → 0 ≤ b) (hk : KF (.int k (a.fdiv (2 ^ min b.toNat k.bits)))) : cBin P g .shr t xo yo (.int k a) (.int k' b) C KF := by
  unfold cBin; exact cFloat_in _ (fun hg w _ => bin_run rfl (shr_run (hb hg))) hk
theorem c_rem {t : TypeId} {xo yo : Operand} {k : IntKind} {a b : Int} (hb : g = true → b ≠ 0) (hk : KF (.int k (a.tmod b))) : cBin P g .rem t xo yo (.int k a) (.int k b) C KF := by
  unfold cBin; exact cFloat_in _ (fun hg w _ => bin_run rfl (rem_run (hb hg))) hk
theorem c_cat {t : TypeId} {xo yo : Operand} {a b : List UInt8} (h : g = true → a.length + b.length ≤ 9223372036854775807) (hk : KF (.string (bs (a ++ b)))) : cBin P g .add t xo yo (.string (bs a)) (.string (bs b)) C KF := by
  unfold cBin; exact cFloat_in _ (fun hg w _ => bin_run rfl (cat_run (h hg))) hk

/-! ### Literals of slices -/
def zerosL (z : List Value) : Nat → List Value
  | 0 => []
  | n + 1 => z ++ zerosL z n
theorem zerosL_length (z : List Value) (n : Nat) : (zerosL z n).length = n * z.length := by
  induction n with
  | zero => simp [zerosL]
  | succ n ih => simp only [zerosL, List.length_append, ih, Nat.succ_mul]; omega
theorem zerosL_get (z : List Value) : ∀ (n i : Nat), i < n * z.length → (zerosL z n)[i]? = z[i % z.length]? := by
  intro n
  induction n with
  | zero => intro i h; simp at h
  | succ n ih =>
    intro i h
    simp only [zerosL]
    by_cases hi : i < z.length
    · rw [List.getElem?_append_left hi, Nat.mod_eq_of_lt hi]
    · rw [List.getElem?_append_right (by omega), ih _ (by rw [Nat.succ_mul] at h; omega)]
      congr 1
      exact (Nat.mod_eq_sub_mod (by omega)).symm
theorem zeros_arr (z : Value) (len sz : Nat) (hz : z.cells.toList.length = sz) : ((Array.range (len * sz)).map (z.cells[· % z.cells.size]!)) = (zerosL z.cells.toList len).toArray := by
  apply Array.ext'
  simp only [Array.toList_map, Array.toList_range]
  apply List.ext_getElem?
  intro i
  by_cases hi : i < len * sz
  · have hpos : 0 < sz := Nat.pos_of_ne_zero fun e => by subst e; simp at hi
    have hz' : z.cells.size = sz := by simpa using hz
    rw [zerosL_get z.cells.toList len i (by rw [hz]; exact hi), hz]
    have hm : i % sz < z.cells.size := by rw [hz']; exact Nat.mod_lt _ hpos
    rw [List.getElem?_map, List.getElem?_range hi]
    simp only [Option.map_some, hz', Array.getElem?_toList]
    rw [getElem!_pos z.cells _ hm, Array.getElem?_eq_getElem hm]
  · rw [List.getElem?_eq_none (by simp; omega), List.getElem?_eq_none (by rw [zerosL_length, hz]; omega)]

theorem buildSlice_run {t e : TypeId} {sz len : Nat} {z : Value} {parts : List (Nat × Value)} {cs : List Value} (ht : sliceB P t = some e) (hs : sizeB P e = some sz) (hz : zeroB P e = some z) (hzl : z.cells.toList.length = sz) (hlen : Nat.ble (len * sz) 16777216 = true) (hpos : Nat.beq (len * sz) 0 = false)
    (hf : fillL (fun i => some (i * sz, sz)) (zerosL z.cells.toList len) parts = some cs) : (Instr.buildSlice t len parts.toArray).run P w = .ok (.slice (some ⟨w.heap.size, 0, none⟩) len len) (w.alloc (.cells cs.toArray e)) := by
  have h1 : ¬ len * sz > 2 ^ 24 := by have := Nat.le_of_ble_eq_true hlen; omega
  have h2 : ¬ len * sz = 0 := fun h => by rw [h] at hpos; cases hpos
  have h3 := fillL_run (place' := fun i => some (i * sz, sz)) (fun i x h => h) parts (zerosL z.cells.toList len).toArray cs (by simpa using hf)
  unfold Instr.buildSlice
  simp only [Sem.run_bind, run_underlying_slice ht, Result.andThen_ok, run_sizeOf hs, h1, if_false, Sem.run_pure, h2, run_zero hz, zeros_arr z len sz hzl, h3]
  simp [newRow, newObj, Sem.run]
theorem own_buildSlice {t e : TypeId} {sz len : Nat} {z : Value} {parts : List (Nat × Value)} (H : Own ok w0 w L) (cs : List Value) (ht : sliceB P t = some e) (hs : sizeB P e = some sz) (hz : zeroB P e = some z) (hzl : z.cells.toList.length = sz) (hlen : Nat.ble (len * sz) 16777216 = true) (hpos : Nat.beq (len * sz) 0 = false)
    (hf : fillL (fun i => some (i * sz, sz)) (zerosL z.cells.toList len) parts = some cs) (hk : ∀ b w', Own ok w0 w' (.blk b cs e :: L) → K (.slice (some ⟨b, 0, none⟩) len len) w') : nBuildSlice P true t len parts w K := by
  unfold nBuildSlice
  refine nOp_in ⟨fun _ => ?_, fun h => by cases h⟩
  rw [sv_run (buildSlice_run ht hs hz hzl hlen hpos hf)]
  exact hk _ _ (H.alloc cs e)
theorem c_buildSlice {t e : TypeId} {sz len : Nat} {z : Value} {parts : List (Nat × Value)} (cs : List Value) (ht : sliceB P t = some e) (hs : sizeB P e = some sz) (hz : zeroB P e = some z) (hzl : z.cells.toList.length = sz) (hlen : Nat.ble (len * sz) 16777216 = true) (hpos : Nat.beq (len * sz) 0 = false)
    (hf : fillL (fun i => some (i * sz, sz)) (zerosL z.cells.toList len) parts = some cs) (hk : ∀ b, KE (.slice (some ⟨b, 0, none⟩) len len) (.blk b cs e :: L)) : cBuildSlice P true t len parts ok w0 L KE := by
  unfold cBuildSlice
  refine cEv_in ⟨fun v L' => ∃ b, v = .slice (some ⟨b, 0, none⟩) len len ∧ L' = .blk b cs e :: L, fun _ v L' ⟨b, _, h⟩ => by rw [h]; exact List.sublist_cons_self _ _, fun w H => ⟨fun _ => ?_, fun h => by cases h⟩, fun v L' ⟨b, hv, hL⟩ _ => by rw [hv, hL]; exact hk b⟩
  rw [sv_run (buildSlice_run ht hs hz hzl hlen hpos hf)]
  exact ⟨_, ⟨_, rfl, rfl⟩, H.alloc cs e⟩

/-! ### append -/
theorem setCells_other {b : Nat} : ∀ (vs : List Value) (o : Nat) (w : World) (k : Nat), k ≠ b → (World.setCells w b o vs).heap[k]? = w.heap[k]? := by
  intro vs
  induction vs with
  | nil => intro o w k _; rfl
  | cons v r ih =>
    intro o w k hk
    rw [World.setCells, ih _ _ k hk]
    exact Below.heap_setCell w ⟨b, o, none⟩ v k hk
theorem setCells_size {b : Nat} : ∀ (vs : List Value) (o : Nat) (w : World), (World.setCells w b o vs).os = w.os ∧ (World.setCells w b o vs).tape = w.tape ∧ (World.setCells w b o vs).output = w.output ∧ (World.setCells w b o vs).heap.size = w.heap.size := by
  intro vs
  induction vs with
  | nil => intro o w; exact ⟨rfl, rfl, rfl, rfl⟩
  | cons v r ih =>
    intro o w
    obtain ⟨h1, h2, h3, h4⟩ := ih (o + 1) (w.setCell ⟨b, o, none⟩ v)
    rw [World.setCells]
    exact ⟨h1, h2, h3, by rw [h4]; simp [World.setCell]⟩
theorem setCells_at {b : Nat} {e : TypeId} : ∀ (vs : List Value) (o : Nat) (w : World) (cur : Array Value), w.heap[b]? = some (.cells cur e (0, 0)) → (World.setCells w b o vs).heap[b]? = some (.cells (setRange cur.toList o vs).toArray e (0, 0)) := by
  intro vs
  induction vs with
  | nil => intro o w cur h; simpa [World.setCells, setRange] using h
  | cons v r ih =>
    intro o w cur h
    have h2 : (w.setCell ⟨b, o, none⟩ v).heap[b]? = some (.cells (cur.setIfInBounds o v) e (0, 0)) := by
      simp only [World.setCell, Array.getElem?_modify, h]
      simp
    rw [World.setCells, ih _ _ _ h2]
    simp [setRange]
theorem setRange_len : ∀ (vs cs : List Value) (o : Nat), (setRange cs o vs).length = cs.length := by
  intro vs
  induction vs with
  | nil => intro cs o; rfl
  | cons v r ih => intro cs o; simp [setRange, ih]
theorem setRange_eq : ∀ (vs cs : List Value) (o : Nat), o + vs.length ≤ cs.length → setRange cs o vs = cs.take o ++ vs ++ cs.drop (o + vs.length) := by
  intro vs
  induction vs with
  | nil => intro cs o h; simp [setRange]
  | cons v r ih =>
    intro cs o h
    simp only [List.length_cons] at h
    simp only [setRange]
    rw [ih _ _ (by simp; omega)]
    apply List.ext_getElem?
    intro j
    simp only [List.getElem?_append, List.getElem?_take, List.getElem?_drop, List.length_append, List.length_take, List.length_set, List.getElem?_set, List.getElem?_cons, List.length_cons]
    repeat' split
    all_goals first | omega | rfl | (congr 1; omega) | (exfalso; omega) | skip
    all_goals simp_all
    all_goals first | omega | (congr 1; omega)

/-- append to a row that may begin inside its block. -/
theorem qRow_append (w : World) (t ty e : TypeId) (i : TypeInfo) (z : Value) (size bytes : Nat) (ht : P.underlying t = some (.slice e)) (hi : P.info? e = some i) (hz : i.zero = some z)
    (hsize : i.size = size) (hby : i.bytes = bytes) (hzs : z.cells.size = size) (hsz : 0 < size) (v : Value) (n : Nat) (xs : List Value) (hown : qRow w e size v n xs)
    (a : Addr) (m c : Nat) (news : List Value) (hl : news.length = m * size) (hnews : ∀ j u, news[j]? = some u → w.cell? (a.add j) = some u) (h1 : ∀ u ∈ news, u.oneCell' = true)
    (h63 : n + m ≤ maxLen) (hbytes : (n + m) * bytes ≤ 140737488355328) :
    ∃ v' w', (Builtin.append_ #[t, t] ty #[v, .slice (some a) m c]).run P w = .ok v' w' ∧ qRow w' e size v' (n + m) (xs ++ news) ∧ w.grownBy w' v.ownBlock ∧ (v'.ownBlock = v.ownBlock ∨ ∃ b, v'.ownBlock = some b ∧ w.heap.size ≤ b) := by
  have grows : ∀ (b : Addr) (cap : Nat), cap < n + m → (∀ j u, xs[j]? = some u → w.cell? (b.add j) = some u) → v = .slice (some b) n cap →
      ∃ v' w', (Builtin.append_ #[t, t] ty #[v, .slice (some a) m c]).run P w = .ok v' w' ∧ qRow w' e size v' (n + m) (xs ++ news) ∧ w.grownBy w' v.ownBlock ∧ (v'.ownBlock = v.ownBlock ∨ ∃ b, v'.ownBlock = some b ∧ w.heap.size ≤ b) := by
    intro b cap hcap hcells hv
    obtain ⟨v', w', hr, ho, hg⟩ := run_append_arg_grows (P := P) (w := w) t ty e i z size bytes ht hi hz hsize hby hzs hsz b n cap xs hown.1 hcells a m c news hl hnews hcap h63 hbytes
    refine ⟨v', w', by rw [hv]; exact hr, qRow_of ho, ⟨hg.os, hg.tape, hg.output, hg.size, fun k hk _ => hg.block k hk (by simp)⟩, ?_⟩
    rcases ho.2 with ⟨_, h0⟩ | ⟨q, cap', cur, hv', hb, _⟩
    · omega
    · exact .inr ⟨q, by rw [hv']; rfl, hb⟩
  rcases hown.2 with ⟨h0, A, hv, hA⟩ | ⟨g, off, cap, cur, hv, hg, hnc, hcm, hcs, htake⟩
  · have hx : xs = [] := List.eq_nil_of_length_eq_zero (by rw [hown.1, h0, Nat.zero_mul])
    by_cases hA0 : A = none
    · subst hA0
      have ho : w.ownsRow 0 e size v n xs := ⟨hown.1, .inl ⟨hv, h0⟩⟩
      obtain ⟨v', w', hr, ho', hg, _, hat⟩ := run_append_own_at (P := P) w 0 t ty e i z size bytes ht hi hz hsize hby hzs hsz v n xs ho a m c news hl hnews h1 h63 hbytes (Nat.zero_le _)
      refine ⟨v', w', hr, qRow_of ho', hg, ?_⟩
      rcases hat with hat | hat
      · exact .inl hat
      · exact .inr ⟨_, hat, Nat.le_refl _⟩
    · obtain ⟨b, rfl⟩ := Option.ne_none_iff_exists'.1 hA0
      by_cases hm : 0 < m
      · exact grows b 0 (by omega) (fun j u hu => by rw [hx] at hu; simp at hu) (by rw [hv, h0])
      · have hm0 : m = 0 := by omega
        subst hm0
        have hn0 : news = [] := List.eq_nil_of_length_eq_zero (by rw [hl, Nat.zero_mul])
        subst hn0
        subst hsize hv
        obtain ⟨hsp, cur, hc⟩ := hA b rfl
        have eb : b = ⟨b.block, b.off, none⟩ := by cases b; simp at hsp; simp [hsp]
        have hr := run_append_room_cells (P := P) (w := w) t ty e i ht hi b.block b.off 0 0 a 0 c [] (by simp) (fun j u h => by simp at h) h1 (Nat.le_refl _) (fun j h => by simp at h) (fun j h => by simp at h)
        rw [← eb] at hr
        exact ⟨.slice (some b) 0 0, w, hr, ⟨by rw [hx, h0]; simp, .inl ⟨by omega, some b, rfl, hA⟩⟩, ⟨rfl, rfl, rfl, Nat.le_refl _, fun _ _ _ => rfl⟩, .inl rfl⟩
  · by_cases hroom : n + m ≤ cap
    · have hfit : off * size + n * size + news.length ≤ cur.size := by
        rw [hl, hcs, ← Nat.add_mul, ← Nat.add_mul]
        exact Nat.mul_le_mul_right _ (by omega)
      subst hsize
      have hr := run_append_room_cells (P := P) (w := w) t ty e i ht hi g (off * i.size) n cap a m c news hl hnews h1 hroom
        (fun j hj => by rw [cell_of_row w g _ cur e (0, 0) hg]; simp; omega) (fun j _ => by simp [World.frozen?, hg])
      obtain ⟨s1, s2, s3, s4⟩ := setCells_size (b := g) news (off * i.size + n * i.size) w
      refine ⟨_, _, by rw [hv]; exact hr, ⟨by rw [List.length_append, hown.1, hl, Nat.add_mul], .inr ⟨g, off, cap, _, rfl, setCells_at news _ w cur hg, hroom, hcm, by rw [List.size_toArray, setRange_len, Array.length_toList]; exact hcs, ?_⟩⟩,
        ⟨s1, s2, s3, by rw [s4]; exact Nat.le_refl _, fun k _ hk => setCells_other news _ w k (fun he => hk (by rw [hv, he]; rfl))⟩, .inl (by rw [hv]; rfl)⟩
      rw [List.toList_toArray, setRange_eq _ _ _ (by rw [Array.length_toList]; exact hfit)]
      rw [List.append_assoc, List.drop_append_of_le_length (by rw [List.length_take, Array.length_toList]; omega), List.drop_take]
      rw [show off * i.size + n * i.size - off * i.size = n * i.size by omega, htake]
      rw [← List.append_assoc]
      exact List.take_left' (by rw [List.length_append, hown.1, hl, Nat.add_mul])
    · refine grows ⟨g, off * size, none⟩ cap (by omega) (fun j u hu => ?_) hv
      rw [add_at, cell_of_row w g _ cur e (0, 0) hg]
      rw [← htake, List.getElem?_take] at hu
      split at hu
      · rw [List.getElem?_drop] at hu
        rw [← Array.getElem?_toList]
        exact hu
      · cases hu
def infoB (P : Program) (e : TypeId) : Option (Option Value × Nat × Nat) := (P.info? e).map fun i => (i.zero, i.size, i.bytes)
theorem own_rowAppend {t ty e : TypeId} {sz by_ n m c : Nat} {z v : Value} {xs news : List Value} {a : Addr} {consts : Array Bool} (H : Own ok w0 w L) (i : Nat) (hi : L[i]? = some (.row v e sz n xs)) (ht : sliceB P t = some e) (hinfo : infoB P e = some (some z, sz, by_)) (hzl : z.cells.toList.length = sz) (hpos : Nat.blt 0 sz = true)
    (hl : news.length = m * sz) (hc : cellsAt w a 0 news) (ho : ∀ u ∈ news, oneV u = true) (hb : n + m ≤ 140737488355328) (hb2 : (n + m) * by_ ≤ 140737488355328) :
    ∃ v' w', (builtin .append #[t, t] ty consts #[v, .slice (some a) m c]).run P w = .ok (.value v') w' ∧ Own ok w0 w' (L.set i (.row v' e sz (n + m) (xs ++ news))) := by
  have hrow : qRow w e sz v n xs := H.at hi
  unfold infoB at hinfo
  cases hin : P.info? e with
  | none => rw [hin] at hinfo; cases hinfo
  | some inf =>
    rw [hin] at hinfo
    simp only [Option.map_some, Option.some.injEq, Prod.mk.injEq] at hinfo
    obtain ⟨h1, h2, h3⟩ := hinfo
    have hu : P.underlying t = some (.slice e) := by
      unfold sliceB at ht
      split at ht
      · rename_i hu; cases ht; exact hu
      · cases ht
    have hpos' : 0 < sz := by simpa [Nat.blt_eq] using hpos
    obtain ⟨v', w', hrun, hown, hgrow, hat⟩ := qRow_append (P := P) w t ty e inf z sz by_ hu hin h1 h2 h3 (by simpa using hzl) hpos' v n xs hrow a m c news hl
      (fun j u hj => by have := cellsAt_get hc hj; rwa [Nat.zero_add] at this) (fun u hu => by rw [← one_kit]; exact ho u hu) (by unfold maxLen; omega) hb2
    refine ⟨v', w', ?_, ?_⟩
    · show (do pure (.value (← Builtin.append_ #[t, t] ty #[v, .slice (some a) m c])) : Sem Next).run P w = _
      rw [Sem.run_bind, hrun]; rfl
    · obtain ⟨A, B, hL, hs⟩ := list_split hi
      rw [hs]
      subst hL
      exact H.setRow hgrow (run_drawn hrun) hown hat

theorem append_none_run {t ty e : TypeId} {sz by_ n : Nat} {z v : Value} {xs : List Value} {consts : Array Bool} (H : Own ok w0 w L) (i : Nat) (hi : L[i]? = some (.row v e sz n xs)) (ht : sliceB P t = some e) (hinfo : infoB P e = some (some z, sz, by_)) :
    (builtin .append #[t, t] ty consts #[v, .slice none 0 0]).run P w = .ok (.value v) w := by
  have hrow : qRow w e sz v n xs := H.at hi
  unfold infoB at hinfo
  cases hin : P.info? e with
  | none => rw [hin] at hinfo; cases hinfo
  | some inf =>
    have hu : P.underlying t = some (.slice e) := by
      unfold sliceB at ht
      split at ht
      · rename_i hu; cases ht; exact hu
      · cases ht
    show (do pure (.value (← Builtin.append_ #[t, t] ty #[v, .slice none 0 0])) : Sem Next).run P w = _
    have hr : (Builtin.append_ #[t, t] ty #[v, .slice none 0 0]).run P w = .ok v w := by
      rcases hrow.2 with ⟨h0, A, hv, _⟩ | ⟨g, off, cap, cur, hv, _, hnc, _⟩
      · subst hv
        cases A <;> simp [Builtin.append_, run_underlying hu, sizeOf, typeInfo, hin, Builtin.lenOf, Builtin.firstCells, storeCells]
      · subst hv; simp [Builtin.append_, run_underlying hu, sizeOf, typeInfo, hin, Builtin.lenOf, Builtin.firstCells, hnc, storeCells]
    rw [Sem.run_bind, hr]; rfl

/-- append(row, one fresh block). -/
theorem own_appendBlk {t ty e e' : TypeId} {sz by_ n m c b : Nat} {z v : Value} {xs news : List Value} {consts : Array Bool} (H : Own ok w0 w L) (i j : Nat) (hi : L[i]? = some (.row v e sz n xs)) (hj : L[j]? = some (.blk b news e')) (ht : sliceB P t = some e) (hinfo : infoB P e = some (some z, sz, by_)) (hzl : z.cells.toList.length = sz) (hpos : Nat.blt 0 sz = true)
    (hl : news.length = m * sz) (ho : ∀ u ∈ news, oneV u = true) (hb : n + m ≤ 140737488355328) (hb2 : (n + m) * by_ ≤ 140737488355328)
    (hk : ∀ v' w', Own ok w0 w' (L.set i (.row v' e sz (n + m) (xs ++ news))) → K v' w') : nBuiltin P true .append [t, t] ty [v, .slice (some ⟨b, 0, none⟩) m c] consts w K := by
  obtain ⟨v', w', hr, hO⟩ := own_rowAppend (ty := ty) (consts := consts) (c := c) H i hi ht hinfo hzl hpos hl (cellsAt_of fun q u hq => by rw [add_at]; exact H.cell j hj (0 + (0 + q)) (by simpa using hq)) ho hb hb2
  unfold nBuiltin
  exact nOp_val (fun _ => hr) (fun _ => hk _ _ hO) (fun h => by cases h)

theorem c_appendBlk {KE : Value → List Item → Prop} {t ty e e' : TypeId} {sz by_ n m c b : Nat} {z v : Value} {xs news : List Value} {consts : Array Bool} (i j : Nat) (hi : L[i]? = some (.row v e sz n xs)) (hj : L[j]? = some (.blk b news e')) (ht : sliceB P t = some e) (hinfo : infoB P e = some (some z, sz, by_)) (hzl : z.cells.toList.length = sz) (hpos : Nat.blt 0 sz = true)
    (hl : news.length = m * sz) (ho : ∀ u ∈ news, oneV u = true) (hb : n + m ≤ 140737488355328) (hb2 : (n + m) * by_ ≤ 140737488355328)
    (hk : ∀ v', KE v' (L.set i (.row v' e sz (n + m) (xs ++ news)))) : cBuiltin P true .append [t, t] ty [v, .slice (some ⟨b, 0, none⟩) m c] consts ok w0 L KE := by
  unfold cBuiltin
  refine cEv_in ⟨fun v' L' => L' = L.set i (.row v' e sz (n + m) (xs ++ news)), fun h => (by cases h), fun w H => ⟨fun _ => ?_, fun h => by cases h⟩, fun v' L' h _ => by rw [h]; exact hk v'⟩
  obtain ⟨v', w', hr, hO⟩ := own_rowAppend (ty := ty) (consts := consts) (c := c) H i hi ht hinfo hzl hpos hl (cellsAt_of fun q u hq => by rw [add_at]; exact H.cell j hj (0 + (0 + q)) (by simpa using hq)) ho hb hb2
  show upon P _ ((builtin .append #[t, t] ty consts #[v, .slice (some ⟨b, 0, none⟩) m c]).run P w)
  rw [hr]
  exact ⟨_, rfl, hO⟩

/-- The cells of a list that is there. -/
theorem slR_cells {k : Ty α} {ok : Nat → Prop} {a : Addr} : ∀ {ys : List α} {off : Nat}, (∀ (j : Nat) x, ys[j]? = some x → ∃ cs, k.R w ok x cs ∧ cellsAt w (a.add ((off + j) * k.sz)) 0 cs) → ∃ news, rowsR k w ok ys news ∧ cellsAt w (a.add (off * k.sz)) 0 news := by
  intro ys
  induction ys with
  | nil => intro off _; exact ⟨[], rfl, trivial⟩
  | cons y ys ih =>
    intro off h
    obtain ⟨c, g1, g2⟩ := h 0 y rfl
    obtain ⟨d, g3, g4⟩ := ih (off := off + 1) fun j x hx => by
      obtain ⟨cs, h1, h2⟩ := h (j + 1) x (by simpa using hx)
      exact ⟨cs, h1, by rwa [show off + 1 + j = off + (j + 1) by omega]⟩
    refine ⟨c ++ d, ⟨c, d, rfl, g1, g3⟩, cellsAt_of fun j v hj => ?_⟩
    have hl := k.len g1
    by_cases hjl : j < c.length
    · rw [List.getElem?_append_left hjl] at hj
      exact cellsAt_get g2 hj
    · rw [List.getElem?_append_right (by omega)] at hj
      have := cellsAt_get g4 hj
      rw [add_add] at this ⊢
      rwa [show (off + 1) * k.sz + (0 + (j - c.length)) = off * k.sz + (0 + j) by rw [Nat.succ_mul]; omega] at this
/-- append(row, a list that is there ...). -/
theorem own_appendSl {k : Ty α} {t ty e : TypeId} {by_ n : Nat} {z v u : Value} {xs : List Value} {ys : List α} {consts : Array Bool} (H : Own ok w0 w L) (i j : Nat) (hi : L[i]? = some (.row v e k.sz n xs)) (hj : L[j]? = some (.dat (dSl k u ys))) (ht : sliceB P t = some e) (hinfo : infoB P e = some (some z, k.sz, by_)) (hzl : z.cells.toList.length = k.sz) (hpos : Nat.blt 0 k.sz = true)
    (hb : n + ys.length ≤ 140737488355328) (hb2 : (n + ys.length) * by_ ≤ 140737488355328)
    (hk : ∀ v' w' news, rowsR k w (okOf ok w0 L) ys news → Own ok w0 w' (L.set i (.row v' e k.sz (n + ys.length) (xs ++ news))) → K v' w') : nBuiltin P true .append [t, t] ty [v, u] consts w K := by
  obtain ⟨A, c, hv, hc, h⟩ := H.dat j hj
  subst hv
  unfold nBuiltin
  have fin : ∀ a, A = some a → ∀ news, rowsR k w (okOf ok w0 L) ys news → cellsAt w a 0 news → nOp P true (builtin .append #[t, t] ty consts #[v, .slice A ys.length c]) w K := by
    intro a ha news hR hC
    subst ha
    obtain ⟨v', w', hr, hO⟩ := own_rowAppend (ty := ty) (consts := consts) (c := c) H i hi ht hinfo hzl hpos (rowsR_length hR) hC (rowsR_one hR) hb hb2
    exact nOp_val (fun _ => hr) (fun _ => hk _ _ _ hR hO) (fun h => by cases h)
  rcases h with ⟨h, hn⟩ | ⟨a, ha, _, _, h4⟩
  · subst h
    cases A with
    | none =>
      have := hn rfl
      subst this
      refine nOp_now (fun _ => append_none_run H i hi ht hinfo) ?_
      refine hk v w [] rfl ?_
      have e1 : L.set i (.row v e k.sz (n + ([] : List α).length) (xs ++ [])) = L := by
        rw [List.append_nil]
        apply List.ext_getElem?
        intro q
        rw [List.getElem?_set]
        split
        · rename_i e2
          subst e2
          split
          · exact hi.symm
          · rename_i hq
            rw [List.getElem?_eq_none (by omega)] at hi; cases hi
        · rfl
      rw [e1]; exact H
    | some a => exact fin a rfl [] rfl trivial
  · subst ha
    obtain ⟨news, g1, g2⟩ := slR_cells (k := k) (a := a) (ys := ys) (off := 0) (fun j x hx => by rw [Nat.zero_add]; exact h4 j x hx)
    refine fin a rfl news g1 ?_
    have e2 : a.add (0 * k.sz) = a := by rw [Nat.zero_mul]; simp [Addr.add]
    rwa [e2] at g2

/-- A nil slice is an own row. -/
theorem Own.nilRow (H : Own ok w0 w L) (e : TypeId) (sz : Nat) : Own ok w0 w (.row (.slice none 0 0) e sz 0 [] :: L) := by
  have hm : muts (.row (.slice none 0 0) e sz 0 [] :: L) = muts L := by simp [muts, Item.muts, Value.ownBlock]
  refine ⟨H.below, by rw [hm]; exact H.nd, by rw [hm]; exact H.ge, fun it hi => ?_⟩
  have hk : okOf ok w0 (.row (.slice none 0 0) e sz 0 [] :: L) = okOf ok w0 L := by unfold okOf; rw [hm]
  rw [hk]
  rcases List.mem_cons.1 hi with h | h
  · subst h; exact qRow_of (World.ownsRow_nil w 0 e sz)
  · exact H.all it h
def strs (l : List (List UInt8)) : List Value := l.map fun t => .string (bs t)
theorem rows_strs {ok : Nat → Prop} : ∀ (l : List (List UInt8)), rowsR tStr w ok l (strs l)
  | [] => rfl
  | t :: l => ⟨[.string (bs t)], strs l, rfl, rfl, rows_strs l⟩
theorem strs_of {ok : Nat → Prop} : ∀ {l : List (List UInt8)} {cs : List Value}, rowsR tStr w ok l cs → cs = strs l
  | [], _, h => h
  | t :: l, _, ⟨c, d, e, h1, h2⟩ => by
    have h1 : c = [.string (bs t)] := h1
    subst h1
    have := strs_of h2
    subst this
    exact e
theorem strs_append (a b : List (List UInt8)) : strs (a ++ b) = strs a ++ strs b := by simp [strs]
theorem strs_length (a : List (List UInt8)) : (strs a).length = a.length := by simp [strs]
theorem qRow_cell {w : World} {g o m : Nat} {cur : Array Value} {e : TypeId} {xs : List Value} (hg : w.heap[g]? = some (.cells cur e (0, 0))) (ht : (cur.toList.drop o).take m = xs) (j : Nat) (u : Value) (hu : xs[j]? = some u) : w.cell? ((⟨g, o, none⟩ : Addr).add j) = some u := by
  rw [add_at, cell_of_row w g _ cur e (0, 0) hg]
  rw [← ht, List.getElem?_take] at hu
  split at hu
  · rw [List.getElem?_drop] at hu
    rw [← Array.getElem?_toList]
    exact hu
  · cases hu
/-- A row that is not written any more stands for a list. -/
theorem Own.freeze {k : Ty α} {e : TypeId} {v : Value} {xs : List α} {cs : List Value} (H : Own ok w0 w L) (i j : Nat) (hi : L[i]? = some (.row v e k.sz xs.length cs)) (hj : L[j]? = some (.dat (dRows k xs cs))) : Own ok w0 w (L.set i (.dat (dSl k v xs))) := by
  have hrow : qRow w e k.sz v xs.length cs := H.at hi
  have hR : rowsR k w (okOf ok w0 L) xs cs := H.dat j hj
  have hge := H.ge
  have hlt := H.lt
  have hnd := H.nd
  obtain ⟨A, B, hL, hs⟩ := list_split hi
  rw [hs]
  subst hL
  have hm1 : muts (A ++ .dat (dSl k v xs) :: B) = muts A ++ muts B := by simp [muts, Item.muts]
  have hm2 : muts (A ++ .row v e k.sz xs.length cs :: B) = muts A ++ (v.ownBlock.toList ++ muts B) := by simp [muts, Item.muts]
  have hsub : ∀ b, b ∈ muts (A ++ .dat (dSl k v xs) :: B) → b ∈ muts (A ++ .row v e k.sz xs.length cs :: B) := by
    intro b hb
    rw [hm1] at hb; rw [hm2]
    rcases List.mem_append.1 hb with h | h
    · exact List.mem_append.2 (.inl h)
    · exact List.mem_append.2 (.inr (List.mem_append.2 (.inr h)))
  have hok : ∀ b, okOf ok w0 (A ++ .row v e k.sz xs.length cs :: B) b → okOf ok w0 (A ++ .dat (dSl k v xs) :: B) b := fun b hb => ⟨hb.1, fun h => hb.2 (hsub b h)⟩
  refine H.move H.below (Nat.le_refl _) ?_ (fun g hg => .inl (hsub g hg)) (fun _ _ _ _ => rfl) (fun it hit => ?_)
  · rw [hm1]; rw [hm2] at hnd
    exact (List.Sublist.append (List.Sublist.refl _) (List.sublist_append_right _ _)).nodup hnd
  · rcases List.mem_append.1 hit with h | h
    · exact .inl ⟨List.mem_append.2 (.inl h), fun _ _ => rfl⟩
    · rcases List.mem_cons.1 h with h | h
      · subst h
        right
        have hR' := rowsR_mono hok hR
        rcases hrow.2 with ⟨hn, A0, hv, _⟩ | ⟨g, off, cap, cur, hv, hg, hnc, hcm, hcs, htake⟩
        · have : xs = [] := List.eq_nil_of_length_eq_zero hn
          subst this hv
          exact ⟨A0, 0, rfl, Nat.le_refl _, .inl ⟨rfl, fun _ => rfl⟩⟩
        · subst hv
          refine ⟨some ⟨g, off * k.sz, none⟩, cap, rfl, hnc, .inr ⟨_, rfl, ?_, (Array.getElem?_eq_some_iff.1 hg).1, fun q x hq => ?_⟩⟩
          · refine ⟨.inr (hge g (by rw [hm2]; simp [Value.ownBlock])), fun hmem => ?_⟩
            rw [hm1] at hmem
            rw [hm2] at hnd
            simp only [Value.ownBlock, Option.toList, List.cons_append, List.nil_append] at hnd
            rw [List.nodup_append] at hnd
            rcases List.mem_append.1 hmem with h | h
            · exact hnd.2.2 g h g (by simp) rfl
            · exact (List.nodup_cons.1 hnd.2.1).1 h
          · obtain ⟨c, g1, g2⟩ := rowsR_get hR' q x hq
            refine ⟨c, g1, cellsAt_of fun r u hr => ?_⟩
            rw [add_add]
            have := qRow_cell hg htake (q * k.sz + r) u (g2 r u hr)
            rwa [Nat.zero_add]
      · exact .inl ⟨List.mem_append.2 (.inr (List.mem_cons_of_mem _ h)), fun _ _ => rfl⟩

/-- An own row of texts that is not written any more. -/
theorem Own.freezeS {e : TypeId} {v : Value} {l : List (List UInt8)} (H : Own ok w0 w L) (i : Nat) (hi : L[i]? = some (.row v e 1 l.length (strs l))) : Own ok w0 w (L.set i (.dat (dSl tStr v l))) := by
  have H' := H.addDat (dRows tStr l (strs l)) (rows_strs l)
  exact (H'.freeze (k := tStr) (i + 1) 0 hi rfl).tail

/-- A literal is an own row. -/
theorem Own.blkRow {b n sz : Nat} {cs : List Value} {e : TypeId} (H : Own ok w0 w (.blk b cs e :: L)) (hl : cs.length = n * sz) (hn : n ≤ maxLen) : Own ok w0 w (.row (.slice (some ⟨b, 0, none⟩) n n) e sz n cs :: L) := by
  have hm : muts (.row (.slice (some ⟨b, 0, none⟩) n n) e sz n cs :: L) = muts (.blk b cs e :: L) := by simp [muts, Item.muts, Value.ownBlock]
  have hb := H.blk 0 rfl
  refine ⟨H.below, by rw [hm]; exact H.nd, by rw [hm]; exact H.ge, fun it hi => ?_⟩
  have hk : okOf ok w0 (.row (.slice (some ⟨b, 0, none⟩) n n) e sz n cs :: L) = okOf ok w0 (.blk b cs e :: L) := by unfold okOf; rw [hm]
  rw [hk]
  rcases List.mem_cons.1 hi with h | h
  · subst h
    exact qRow_of (base := 0) ⟨hl, .inr ⟨b, n, cs.toArray, rfl, Nat.zero_le _, hb, Nat.le_refl _, hn, by simpa using hl, by rw [← hl]; simp⟩⟩
  · exact H.all it (List.mem_cons_of_mem _ h)
theorem own_buildEmpty {t e : TypeId} {sz : Nat} (H : Own ok w0 w L) (ht : sliceB P t = some e) (hs : sizeB P e = some sz) (hk : ∀ v w', Own ok w0 w' (.row v e sz 0 [] :: L) → K v w') : nBuildSlice P true t 0 [] w K := by
  unfold nBuildSlice
  refine nOp_in ⟨fun _ => ?_, fun h => by cases h⟩
  have hr : (Instr.buildSlice t 0 (#[] : Array (Nat × Value))).run P w = .ok (.slice (some ⟨w.heap.size, 0, none⟩) 0 0) (w.alloc (.cells #[] e)) := by
    unfold Instr.buildSlice
    simp only [Sem.run_bind, run_underlying_slice ht, Result.andThen_ok, run_sizeOf hs, Nat.zero_mul]
    simp [newRow, newObj, Sem.run, Instr.fill]
    congr 2
    apply Array.ext'
    simp
  rw [sv_run hr]
  exact hk _ _ ((H.alloc [] e).blkRow (n := 0) (sz := sz) (by simp) (Nat.zero_le _))

/-! ### Bytes and texts -/
def bytesV (l : List UInt8) : List Value := l.map fun b => .int .u8 (b.toNat : Int)
def b8 (x : Int) : UInt8 := UInt8.ofNat (x % 256).toNat
theorem b8_wrap (x : Int) : IntKind.u8.wrap x = ((b8 x).toNat : Int) := by
  have e : IntKind.u8.wrap x = x % 256 := by simp [IntKind.wrap, IntKind.bits, IntKind.signed]
  rw [e]
  unfold b8
  rw [UInt8.toNat_ofNat']
  omega
theorem bytesV_append (a b : List UInt8) : bytesV (a ++ b) = bytesV a ++ bytesV b := by simp [bytesV]
def byteSl (P : Program) (t : TypeId) : Option TypeId := match sliceB P t with
  | some e => match P.underlying e with | some (.int .u8) => some e | _ => none
  | none => none
theorem own_toStr {s d e : TypeId} {v : Value} {l : List UInt8} (H : Own ok w0 w L) (i : Nat) (hi : L[i]? = some (.row v e 1 l.length (bytesV l))) (hl : l ≠ []) (hs : byteSl P s = some e) (hd : strB P d = true) (hk : K (.string (bs l)) w) : nConvert P g s d v w K := by
  have hrow : qRow w e 1 v l.length (bytesV l) := H.at hi
  unfold byteSl at hs
  split at hs
  · rename_i e' he'
    split at hs
    · rename_i hu8
      cases hs
      have hu : P.underlying s = some (.slice e) := by
        unfold sliceB at he'
        split at he'
        · rename_i hu; cases he'; exact hu
        · cases he'
      have hus : P.underlying d = some .string := by
        unfold strB at hd
        split at hd
        · assumption
        · cases hd
      rcases hrow.2 with ⟨hn, _⟩ | ⟨q, off, cap, cur, hv, hg, _, _, _, ht⟩
      · exact absurd (List.eq_nil_of_length_eq_zero hn) hl
      · subst hv
        unfold nConvert
        refine nOp_now (fun _ => sv_run (run_convert_bytes_back w s d e ⟨q, off * 1, none⟩ cap l hu hu8 hus fun j hj => ?_)) hk
        exact qRow_cell hg ht j _ (by simp [bytesV, hj])
    · cases hs
  · cases hs

/-! ### Pointers against nil -/
def ptrB (P : Program) (t : TypeId) : Bool := match P.underlying t with | some (.pointer _) => true | _ => false
theorem eqNil_run {t : TypeId} {p : Option Addr} (ht : ptrB P t = true) : (Op.equal t (.pointer p) (.pointer none)).run P w = .ok p.isNone w := by
  unfold ptrB at ht
  split at ht
  · rename_i hu
    unfold Op.equal Op.maxDepth Op.equalIn
    rw [Sem.run_bind, run_underlying hu]
    cases p <;> rfl
  · cases ht
theorem eqlNil_run {t : TypeId} {xo yo : Operand} {p : Option Addr} (ht : ptrB P t = true) : (sv (do eqGuard .eql t xo yo (.pointer p) (.pointer none); binOp .eql t (.pointer p) (.pointer none))).run P w = .ok (.value (.bool p.isNone)) w := by
  refine sv_run ?_
  show (do let _ ← (pure () : Sem Unit); (do pure (Value.bool (← Op.equal t (.pointer p) (.pointer none))))).run P w = _
  simp [eqNil_run ht]
theorem neqNil_run {t : TypeId} {xo yo : Operand} {p : Option Addr} (ht : ptrB P t = true) : (sv (do eqGuard .neq t xo yo (.pointer p) (.pointer none); binOp .neq t (.pointer p) (.pointer none))).run P w = .ok (.value (.bool (!p.isNone))) w := by
  refine sv_run ?_
  show (do let _ ← (pure () : Sem Unit); (do pure (Value.bool (!(← Op.equal t (.pointer p) (.pointer none)))))).run P w = _
  simp [eqNil_run ht]
theorem eqlNil_rule {t : TypeId} {xo yo : Operand} {p : Option Addr} (ht : ptrB P t = true) (hk : K (.bool p.isNone) w) : nBin P g .eql t xo yo (.pointer p) (.pointer none) w K := by
  unfold nBin; exact nOp_now (fun _ => eqlNil_run ht) hk
theorem neqNil_rule {t : TypeId} {xo yo : Operand} {p : Option Addr} (ht : ptrB P t = true) (hk : K (.bool (!p.isNone)) w) : nBin P g .neq t xo yo (.pointer p) (.pointer none) w K := by
  unfold nBin; exact nOp_now (fun _ => neqNil_run ht) hk

theorem c_eqlNil {t : TypeId} {xo yo : Operand} {p : Option Addr} (ht : ptrB P t = true) (hk : KF (.bool p.isNone)) : cBin P g .eql t xo yo (.pointer p) (.pointer none) C KF := by
  unfold cBin; exact cFloat_in _ (fun _ w _ => eqlNil_run ht) hk
theorem c_neqNil {t : TypeId} {xo yo : Operand} {p : Option Addr} (ht : ptrB P t = true) (hk : KF (.bool (!p.isNone))) : cBin P g .neq t xo yo (.pointer p) (.pointer none) C KF := by
  unfold cBin; exact cFloat_in _ (fun _ w _ => neqNil_run ht) hk

/-! ### Slices against nil -/
theorem eqSl_run {t : TypeId} {A : Option Addr} {n c : Nat} (ht : (sliceB P t).isSome = true) : (Op.equal t (.slice A n c) (.slice none 0 0)).run P w = .ok A.isNone w := by
  obtain ⟨e, he⟩ := Option.isSome_iff_exists.1 ht
  unfold Op.equal Op.maxDepth Op.equalIn
  rw [Sem.run_bind, run_underlying_slice he]
  cases A <;> rfl
theorem eqlSl_rule {t : TypeId} {xo yo : Operand} {A : Option Addr} {n c : Nat} (ht : (sliceB P t).isSome = true) (hk : K (.bool A.isNone) w) : nBin P g .eql t xo yo (.slice A n c) (.slice none 0 0) w K := by
  unfold nBin
  refine nOp_now (fun _ => sv_run ?_) hk
  show (do let _ ← (pure () : Sem Unit); (do pure (Value.bool (← Op.equal t (.slice A n c) (.slice none 0 0))))).run P w = _
  simp [eqSl_run ht]
theorem neqSl_rule {t : TypeId} {xo yo : Operand} {A : Option Addr} {n c : Nat} (ht : (sliceB P t).isSome = true) (hk : K (.bool (!A.isNone)) w) : nBin P g .neq t xo yo (.slice A n c) (.slice none 0 0) w K := by
  unfold nBin
  refine nOp_now (fun _ => sv_run ?_) hk
  show (do let _ ← (pure () : Sem Unit); (do pure (Value.bool (!(← Op.equal t (.slice A n c) (.slice none 0 0)))))).run P w = _
  simp [eqSl_run ht]
end
end Go.Eng
