/- An engine for walks: a call's text is run over a list of known slots; what has no effect is reckoned by Lean itself, each effect stands as a goal of its own. Proved once, over any program. -/
import Derived.WalkKit
import Derived.Orders
import Derived.Below
import Derived.KernelRfl
import Derived.Deep.LoopGhost
import Derived.Laws.AppendOwn
import Derived.TacticsIn
import Derived.OrdersIn
import Derived.Sort.LoopGhostIn
import Derived.RangeFuncLeaves
import Derived.RangeFuncNested
set_option linter.unusedVariables false
namespace Go.Eng
open Go.RowKit

abbrev Env := List (Nat × Value)
abbrev Gs := List (Nat × Bool)
abbrev GEnv := List (Nat × (Gs × Value))

/-- The marks that ranges over functions leave on the call's own list: of no effect. -/
def marks (ds : List Nat) : List Deferred := ds.map fun D => { target := .collected D, args := #[] }
/-- Every machine is let in; the frame is a call's (none), or a round's of loop l. -/
abbrev Fw (ro : Option Nat) : Fence := { Fence.wide with round := ro }
theorem callsIn_fw {ro : Option Nat} {n : Nat} {P : Program} {f : FuncId} {args : Array Value} {w : World} {R : Ending → World → Prop} : CallsIn (Fw ro) n P f args w R ↔ Calls P f args w R :=
  Iff.trans Iff.rfl (callsIn_wide (n := n) (P := P) (f := f) (args := args) (w := w) (R := R))
theorem roomFw (ro : Option Nat) (n : Nat) : (Fw ro).room n := fun d h => by cases h
theorem wpIn_any {ro : Option Nat} {n m : Nat} {P : Program} {c : Code} {Q : Exit → Act → World → Prop} {a : Act} {w : World} (h : c.wpIn (Fw ro) n P Q a w) : c.wpIn (Fw ro) m P Q a w :=
  fun b k cs hb hf _ => h b k cs hb hf (roomFw ro _)

def look {α : Type} : List (Nat × α) → Nat → Option α
  | [], _ => none
  | (t, v) :: e, n => match Nat.beq t n with | true => some v | false => look e n

def gmem (p : Nat × Bool) : Gs → Bool
  | [] => false
  | q :: r => match Nat.beq p.1 q.1 && (p.2 == q.2) with | true => true | false => gmem p r
def gsub : Gs → Gs → Bool
  | [], _ => true
  | p :: r, gs => match gmem p gs with | true => gsub r gs | false => false

def opnd (e : Env) (ge : GEnv) (gs : Gs) : Operand → Option Value
  | .const v => some v
  | .global g => some (.pointer (some ⟨g, 0, none⟩))
  | .func f => some (.func (.func f) #[] #[])
  | .tmp t => match look ge t with
    | some (gs', v) => match gsub gs' gs with | true => some v | false => none
    | none => look e t
def rho (e : Env) (ge : GEnv) (gs : Gs) (x : Operand) : Value := match opnd e ge gs x with | some v => v | none => undef
def allIn (e : Env) (ge : GEnv) (gs : Gs) : List Operand → Bool
  | [] => true
  | x :: r => match opnd e ge gs x with | some _ => allIn e ge gs r | none => false

/-- The value of a guard's slot. -/
def gval (e : Env) (ge : GEnv) (s : Nat) : Option Value := match look ge s with | some (_, v) => some v | none => look e s
def gknown (e : Env) (ge : GEnv) : Gs → Bool
  | [] => true
  | (s, _) :: r => match gval e ge s with | some (.bool _) => gknown e ge r | _ => false
def gb (e : Env) (ge : GEnv) : Gs → Bool
  | [] => true
  | (s, want) :: r => match gval e ge s with | some (.bool b) => (match want with | true => b | false => !b) && gb e ge r | _ => false

def gof (ops : List Oper) (ge : GEnv) (o : Oper) : Option Gs :=
  match o.guard with
  | none => some []
  | some (j, want) => match ops[j]? with
    | none => none
    | some oj => match oj.dst with
      | none => none
      | some s => match look ge s with
        | some (gs, _) => some ((s, want) :: gs)
        | none => some [(s, want)]

def gclash (t : Nat) : Gs → Bool
  | [] => false
  | (s, _) :: r => match Nat.beq s t with | true => true | false => gclash t r
def noClash (t : Nat) : GEnv → Bool
  | [] => true
  | (k, (gs, _)) :: r => match Nat.beq k t || gclash t gs with | true => false | false => noClash t r
def dropG (ge : GEnv) : Env → Env
  | [] => []
  | (t, v) :: e => match look ge t with | some _ => dropG ge e | none => (t, v) :: dropG ge e
def endEnv (ge : GEnv) (e : Env) : Env := match ge with | [] => e | _ => dropG ge e

/-! ### One operation -/

def pv (P : Program) : Sem Next → Option Value
  | .pure (.value v) => some v
  | .program k => pv P (k P)
  | _ => none

/-- What an operation's run comes to. -/
def upon (P : Program) (K : Value → World → Prop) : Result Next → Prop
  | .ok (.value v) w' => K v w'
  | .ok .skip w' => K undef w'
  | .ok (.enter f args) w' => Calls P f args w' fun | .returned v, w'' => K v w'' | _, _ => False
  | .ok (.row r args) w' => RowsIn Fence.wide 0 P r args w' K
  | .ok (.round l f tmps assign body) w' => RoundIn Fence.wide 0 P l f tmps assign body w' fun | .returned v, w'' => K v w'' | _, _ => False
  | _ => False

/-- An operation, carried out if g. -/
@[irreducible] def nOp (P : Program) (g : Bool) (s : Sem Next) (w : World) (K : Value → World → Prop) : Prop :=
  (g = true → upon P K (s.run P w)) ∧ (g = false → ∃ v, K v w)

def mapL (ρ : Operand → Value) : List Operand → List Value
  | [] => []
  | x :: r => ρ x :: mapL ρ r
def mapP (ρ : Operand → Value) : List (Nat × Operand) → List (Nat × Value)
  | [] => []
  | (i, x) :: r => (i, ρ x) :: mapP ρ r
theorem mapL_arr (ρ : Operand → Value) (xs : Array Operand) : xs.map ρ = (mapL ρ xs.toList).toArray := by
  have : ∀ l : List Operand, l.map ρ = mapL ρ l := fun l => by induction l with
    | nil => rfl
    | cons x r ih => simp [mapL, ih]
  rw [← this]; apply Array.ext'; simp
theorem mapP_arr (ρ : Operand → Value) (xs : Array (Nat × Operand)) : (xs.map fun (i, x) => (i, ρ x)) = (mapP ρ xs.toList).toArray := by
  have : ∀ l : List (Nat × Operand), (l.map fun (i, x) => (i, ρ x)) = mapP ρ l := fun l => by induction l with
    | nil => rfl
    | cons x r ih => obtain ⟨i, x⟩ := x; simp [mapP, ih]
  rw [← this]; apply Array.ext'; simp

/-- A row of cells, some of them another's. -/
def setRange : List Value → Nat → List Value → List Value
  | cs, _, [] => cs
  | cs, off, v :: r => setRange (cs.set off v) (off + 1) r
def placeL (P : Program) (fields : List Field) (i : Nat) : Option (Nat × Nat) := match fields[i]? with
  | some f => match P.info? f.type with
    | some inf => some (f.offset, inf.size)
    | none => none
  | none => none
def fillL (place : Nat → Option (Nat × Nat)) : List Value → List (Nat × Value) → Option (List Value)
  | cs, [] => some cs
  | cs, (i, v) :: r => match place i with
    | none => none
    | some (off, size) => match Nat.beq v.cells.toList.length size && Nat.ble (off + size) cs.length with
      | true => fillL place (setRange cs off v.cells.toList) r
      | false => none
def allInfo (P : Program) : List Field → Bool
  | [] => true
  | f :: r => match P.info? f.type with | some _ => allInfo P r | none => false
def buildV (P : Program) (t : TypeId) (parts : List (Nat × Value)) : Option Value :=
  match P.info? t with
  | some inf => match inf.zero with
    | some z => match P.underlying t with
      | some (.struct fields) => match allInfo P fields.toList with
        | true => match fillL (placeL P fields.toList) z.cells.toList parts with
          | some cs => some (.agg cs.toArray)
          | none => none
        | false => none
      | _ => none
    | none => none
  | none => none

def sv (s : Sem Value) : Sem Next := do pure (.value (← s))
def su (s : Sem Unit) : Sem Next := do s; pure .skip

@[irreducible] def nLoad (P : Program) (g : Bool) (t : TypeId) (a : Value) (w : World) (K : Value → World → Prop) : Prop := nOp P g (sv (Instr.loadAt t a)) w K
@[irreducible] def nStore (P : Program) (g : Bool) (t : TypeId) (a x : Value) (w : World) (K : Value → World → Prop) : Prop := nOp P g (su (Instr.storeAt t a x)) w K
@[irreducible] def nAlloc (P : Program) (g : Bool) (t : TypeId) (w : World) (K : Value → World → Prop) : Prop := nOp P g (sv (Instr.alloc t true (.tuple #[]))) w K
@[irreducible] def nBox (P : Program) (g : Bool) (t : TypeId) (x : Value) (w : World) (K : Value → World → Prop) : Prop := nOp P g (sv (Instr.box t x)) w K
@[irreducible] def nIndexAddr (P : Program) (g : Bool) (t : TypeId) (x i : Value) (w : World) (K : Value → World → Prop) : Prop := nOp P g (sv (Instr.indexAt t x i)) w K
@[irreducible] def nIndex (P : Program) (g : Bool) (t : TypeId) (x i : Value) (w : World) (K : Value → World → Prop) : Prop := nOp P g (sv (Instr.index t x i)) w K
@[irreducible] def nSlice (P : Program) (g : Bool) (t : TypeId) (x : Value) (lo hi mx : Option Value) (w : World) (K : Value → World → Prop) : Prop := nOp P g (sv (Instr.sliceAt t x lo hi mx)) w K
@[irreducible] def nBuildSlice (P : Program) (g : Bool) (t : TypeId) (len : Nat) (parts : List (Nat × Value)) (w : World) (K : Value → World → Prop) : Prop := nOp P g (sv (Instr.buildSlice t len parts.toArray)) w K
@[irreducible] def nMakeSlice (P : Program) (g : Bool) (t : TypeId) (l c : Value) (w : World) (K : Value → World → Prop) : Prop := nOp P g (sv (Instr.makeSlice t l c)) w K
@[irreducible] def nMakeMap (P : Program) (g : Bool) (t : TypeId) (r : Option Value) (w : World) (K : Value → World → Prop) : Prop := nOp P g (sv (Instr.makeMap t r)) w K
@[irreducible] def nBin (P : Program) (g : Bool) (op : BinOp) (t : TypeId) (xo yo : Operand) (x y : Value) (w : World) (K : Value → World → Prop) : Prop := nOp P g (sv (do eqGuard op t xo yo x y; binOp op t x y)) w K
@[irreducible] def nConvert (P : Program) (g : Bool) (s d : TypeId) (x : Value) (w : World) (K : Value → World → Prop) : Prop := nOp P g (sv (convert s d x)) w K
@[irreducible] def nCall (P : Program) (g : Bool) (f : FuncId) (args : List Value) (w : World) (K : Value → World → Prop) : Prop := nOp P g (callFunc f args.toArray) w K
@[irreducible] def nCallV (P : Program) (g : Bool) (f : Value) (args : List Value) (w : World) (K : Value → World → Prop) : Prop := nOp P g (do let d ← Deferred.ofValue f args.toArray; invoke d.target d.args) w K
@[irreducible] def nLookup (P : Program) (g : Bool) (t : TypeId) (x i : Value) (b : Bool) (w : World) (K : Value → World → Prop) : Prop := nOp P g (sv (Instr.lookup t x i b)) w K
@[irreducible] def nMapUpdate (P : Program) (g : Bool) (t : TypeId) (m k x : Value) (w : World) (K : Value → World → Prop) : Prop := nOp P g (su (Instr.mapUpdate t m k x)) w K
@[irreducible] def nRange (P : Program) (g : Bool) (t : TypeId) (x : Value) (w : World) (K : Value → World → Prop) : Prop := nOp P g (sv (Instr.range t x)) w K
@[irreducible] def nNext (P : Program) (g : Bool) (it : Value) (b : Bool) (t : TypeId) (w : World) (K : Value → World → Prop) : Prop := nOp P g (sv (Instr.next it b t)) w K
@[irreducible] def nEntry (P : Program) (g : Bool) (it : Value) (w : World) (K : Value → World → Prop) : Prop := nOp P g (sv (Instr.entry it)) w K
/-- A builtin: its run, spelt with the list of its arguments. -/
@[irreducible] def nBuiltin (P : Program) (g : Bool) (b : Builtin) (ts : List TypeId) (t : TypeId) (args : List Value) (consts : Array Bool) (w : World) (K : Value → World → Prop) : Prop := nOp P g (builtin b ts.toArray t consts args.toArray) w K

/-- Operations on numbers, bools and texts that cannot fail. -/
def plainBin : BinOp → Value → Value → Bool
  | .add, .int .., .int .. | .sub, .int .., .int .. | .mul, .int .., .int .. | .and, .int .., .int .. | .or, .int .., .int .. | .xor, .int .., .int .. | .andNot, .int .., .int .. => true
  | .eql, .int .., .int .. | .neq, .int .., .int .. | .lss, .int .., .int .. | .leq, .int .., .int .. | .gtr, .int .., .int .. | .geq, .int .., .int .. => true
  | .eql, .string .., .string .. | .neq, .string .., .string .. | .lss, .string .., .string .. | .leq, .string .., .string .. | .gtr, .string .., .string .. | .geq, .string .., .string .. => true
  | .eql, .bool .., .bool .. | .neq, .bool .., .bool .. => true
  | _, _, _ => false
def plainBuiltin : Builtin → Value → Bool
  | .len, .string .. | .len, .slice .. | .cap, .slice .. => true
  | .max, .int .. | .min, .int .. => true
  | _, _ => false

def builtinV (b : Builtin) (ts : Array TypeId) (t : TypeId) (args : Array Value) : Sem Value :=
  match b with
  | .len => Builtin.len_ ts t args
  | .cap => Builtin.cap_ ts t args
  | .max => Builtin.max_ ts t args
  | .min => Builtin.min_ ts t args
  | _ => stuck ""

def pickV (c a b : Value) : Option Value :=
  match c with
  | .bool x => match a, b with
    | .bool p, .bool q => some (.bool (bif x then p else q))
    | _, _ => none
  | _ => none

def nPure (P : Program) (g : Bool) (s : Sem Next) (w : World) (K : Value → World → Prop) : Prop :=
  match pv P s with
  | some v => K v w
  | none => nOp P g s w K

def stepOp (P : Program) (o : Oper) (ρ : Operand → Value) (g : Bool) (w : World) (K : Value → World → Prop) : Prop :=
  match o.op with
  | .move x | .assign x => K (ρ x) w
  | .load t a => nLoad P g t (ρ a) w K
  | .store t a x => nStore P g t (ρ a) (ρ x) w K
  | .alloc t => nAlloc P g t w K
  | .box t x => nBox P g t (ρ x) w K
  | .indexAddr t x i => nIndexAddr P g t (ρ x) (ρ i) w K
  | .index t x i => nIndex P g t (ρ x) (ρ i) w K
  | .slice t x lo hi mx => nSlice P g t (ρ x) (lo.map ρ) (hi.map ρ) (mx.map ρ) w K
  | .buildSlice t len parts => nBuildSlice P g t len (mapP ρ parts.toList) w K
  | .build t parts => match buildV P t (mapP ρ parts.toList) with
    | some v => K v w
    | none => nOp P g (execOp ρ o) w K
  | .makeFunc fn first captured => K (.func fn (mapL ρ first.toList).toArray (mapL ρ captured.toList).toArray) w
  | .makeSlice t l c => nMakeSlice P g t (ρ l) (ρ c) w K
  | .makeMap t r => nMakeMap P g t (r.map ρ) w K
  | .lookup t x i b => nLookup P g t (ρ x) (ρ i) b w K
  | .mapUpdate t m k x | .insert t m k x => nMapUpdate P g t (ρ m) (ρ k) (ρ x) w K
  | .range t x => nRange P g t (ρ x) w K
  | .next it b => nNext P g (ρ it) b o.type w K
  | .entry it => nEntry P g (ρ it) w K
  | .convert s d x => match ρ x with
    | .int .. => nPure P g (execOp ρ o) w K
    | _ => nConvert P g s d (ρ x) w K
  | .binOp op t x y _ => match plainBin op (ρ x) (ρ y) with
    | true => nPure P g (execOp ρ o) w K
    | false => nBin P g op t x y (ρ x) (ρ y) w K
  | .extract .. | .field .. | .fieldAddr .. | .unOp .. | .makeInterface .. | .nilCheck .. => nPure P g (execOp ρ o) w K
  | .call c => match c.callee with
    | .builtin b => match plainBuiltin b ((mapL ρ c.args.toList).headD undef) with
      | true => nPure P g (sv (builtinV b c.argTypes o.type (mapL ρ c.args.toList).toArray)) w K
      | false => nBuiltin P g b c.argTypes.toList o.type (mapL ρ c.args.toList) (c.args.map fun | .const _ => true | _ => false) w K
    | .value (.func f) => nCall P g f (mapL ρ c.args.toList) w K
    | .value f => nCallV P g (ρ f) (mapL ρ c.args.toList) w K
    | .invoke .. => nOp P g (execOp ρ o) w K
  | .select .. => False
  | .defer .. => False
  | _ => nOp P g (execOp ρ o) w K

/-- What a step must come to. -/
def Steps1 (P : Program) (g : Bool) (s : Sem Next) (w : World) (K : Value → World → Prop) : Prop :=
  (g = true → upon P K (s.run P w)) ∧ (g = false → ∃ v, K v w)

theorem nOp_out {P : Program} {g : Bool} {s : Sem Next} {w : World} {K : Value → World → Prop} (h : nOp P g s w K) : Steps1 P g s w K := by unfold nOp at h; exact h
theorem nOp_in {P : Program} {g : Bool} {s : Sem Next} {w : World} {K : Value → World → Prop} (h : Steps1 P g s w K) : nOp P g s w K := by unfold nOp; exact h

theorem pv_run {P : Program} : ∀ {s : Sem Next} {v : Value}, pv P s = some v → ∀ w, s.run P w = .ok (.value v) w := by
  intro s
  induction s with
  | pure a => intro v h w; cases a <;> simp [pv] at h; subst h; rfl
  | program k ih => intro v h w; simp only [pv] at h; simp only [Sem.run]; exact ih P h w
  | _ => intro v h w; simp [pv] at h

theorem nPure_out {P : Program} {g : Bool} {s : Sem Next} {w : World} {K : Value → World → Prop} (h : nPure P g s w K) : Steps1 P g s w K := by
  unfold nPure at h
  split at h
  · rename_i v hv
    exact ⟨fun _ => by rw [pv_run hv w]; exact h, fun _ => ⟨v, h⟩⟩
  · exact nOp_out h

theorem setRange_arr : ∀ (vs : List Value) (cs : Array Value) (off k : Nat), ((vs.zipIdx k).foldl (fun cs (c, j) => cs.setIfInBounds (off + j) c) cs) = (setRange cs.toList (off + k) vs).toArray := by
  intro vs
  induction vs with
  | nil => intro cs off k; simp [setRange]
  | cons v r ih =>
    intro cs off k
    simp only [List.zipIdx_cons, List.foldl_cons, setRange]
    rw [ih]
    simp [Nat.add_assoc]

theorem fillL_run {place place' : Nat → Option (Nat × Nat)} (hp : ∀ i x, place i = some x → place' i = some x) : ∀ (parts : List (Nat × Value)) (cs : Array Value) (out : List Value), fillL place cs.toList parts = some out → Instr.fill place' cs parts = some out.toArray := by
  intro parts
  induction parts with
  | nil => intro cs out h; simp only [fillL, Option.some.injEq] at h; subst h; simp [Instr.fill]
  | cons p r ih =>
    obtain ⟨i, v⟩ := p
    intro cs out h
    simp only [fillL] at h
    split at h
    · cases h
    · rename_i off size hpl
      split at h
      · rename_i hb
        simp only [Bool.and_eq_true] at hb
        have h1 := Nat.eq_of_beq_eq_true hb.1
        have h2 := Nat.le_of_ble_eq_true hb.2
        simp only [Instr.fill, hp i _ hpl]
        have h1' : v.cells.size = size := by simpa using h1
        have h2' : off + size ≤ cs.size := by simpa using h2
        rw [if_neg (by simp; omega)]
        have e : (Array.foldl (fun cs x => match x with | (c, j) => cs.setIfInBounds (off + j) c) cs v.cells.zipIdx) = (setRange cs.toList off v.cells.toList).toArray := by
          have := setRange_arr v.cells.toList cs off 0
          rw [Nat.add_zero] at this
          rw [← this, ← Array.foldl_toList, Array.toList_zipIdx]
        have e2 := ih (setRange cs.toList off v.cells.toList).toArray out (by simpa using h)
        rw [← e] at e2
        exact e2
      · cases h

theorem allInfo_run {P : Program} (w : World) : ∀ (fields : List Field), allInfo P fields = true →
    (fields.mapM fun f => do pure (f.offset, ← sizeOf f.type) : Sem (List (Nat × Nat))).run P w = .ok (fields.map fun f => (f.offset, ((P.info? f.type).map (·.size)).getD 0)) w := by
  intro fields
  induction fields with
  | nil => intro _; rfl
  | cons f r ih =>
    intro h
    simp only [allInfo] at h
    split at h
    · rename_i inf hi
      rw [List.mapM_cons]
      have hs : (sizeOf f.type).run P w = .ok inf.size w := by simp [sizeOf, typeInfo, program, Sem.run, hi]
      simp only [Sem.run_bind, hs, Result.andThen_ok, Sem.run_pure, ih h, List.map_cons, hi]
      rfl
    · cases h

theorem build_run {P : Program} {t : TypeId} {parts : List (Nat × Value)} {v : Value} (h : buildV P t parts = some v) (w : World) : (Instr.build t parts.toArray).run P w = .ok v w := by
  unfold buildV at h
  split at h <;> try (cases h; done)
  rename_i inf hinf
  split at h <;> try (cases h; done)
  rename_i z hz
  split at h <;> try (cases h; done)
  rename_i fields hu
  split at h <;> try (cases h; done)
  rename_i hall
  split at h <;> try (cases h; done)
  rename_i cs hcs
  cases h
  have h1 : (zeroValue t).run P w = .ok z w := by simp [zeroValue, typeInfo, program, Sem.run, hinf, hz]
  have h2 : (underlying t).run P w = .ok (.struct fields) w := by simp [underlying, program, Sem.run, hu]
  have h3 := allInfo_run w fields.toList hall
  have h4 : (fields.mapM fun f => do pure (f.offset, ← sizeOf f.type) : Sem (Array (Nat × Nat))).run P w = .ok (fields.toList.map fun f => (f.offset, ((P.info? f.type).map (·.size)).getD 0)).toArray w := by
    rw [Array.mapM_eq_mapM_toList]
    simp only [Sem.run_map, h3, Result.andThen_ok]
  have h5 : Instr.fill ((fields.toList.map fun f => (f.offset, ((P.info? f.type).map (·.size)).getD 0)).toArray[·]?) z.cells parts = some cs.toArray := by
    refine fillL_run (fun i x hx => ?_) parts z.cells cs hcs
    unfold placeL at hx
    split at hx
    · rename_i f hf
      split at hx
      · rename_i i2 hi2
        cases hx
        simp at hf
        simp [hf, hi2]
      · cases hx
    · cases hx
  unfold Instr.build
  simp only [Sem.run_bind, h1, h2, Result.andThen_ok, h4, h5, Sem.run_pure]

theorem stepOp_out {P : Program} {o : Oper} {ρ : Operand → Value} {g : Bool} {w : World} {K : Value → World → Prop} (hρ : ∀ f, ρ (.func f) = .func (.func f) #[] #[]) (h : stepOp P o ρ g w K) : Steps1 P g (execOp ρ o) w K := by
  obtain ⟨dst, op, type, pos, after, guard⟩ := o
  unfold stepOp at h
  cases op
  case move x => exact ⟨fun _ => h, fun _ => ⟨_, h⟩⟩
  case assign x => exact ⟨fun _ => h, fun _ => ⟨_, h⟩⟩
  case load t a => simp only [nLoad] at h; exact nOp_out h
  case store t a x => simp only [nStore] at h; exact nOp_out h
  case alloc t => simp only [nAlloc] at h; exact nOp_out h
  case box t x => simp only [nBox] at h; exact nOp_out h
  case indexAddr t x i => simp only [nIndexAddr] at h; exact nOp_out h
  case index t x i => simp only [nIndex] at h; exact nOp_out h
  case slice t x lo hi mx => simp only [nSlice] at h; exact nOp_out h
  case buildSlice t l p => simp only [nBuildSlice] at h; rw [← mapP_arr] at h; exact nOp_out h
  case build t p =>
    dsimp only at h
    split at h
    · rename_i v hv
      have e := build_run hv w
      rw [← mapP_arr] at e
      refine ⟨fun _ => ?_, fun _ => ⟨v, h⟩⟩
      show upon P K ((sv (Instr.build t (p.map fun (i, x) => (i, ρ x)))).run P w)
      unfold sv
      rw [Sem.run_bind, e]; exact h
    · exact nOp_out h
  case makeFunc fn first captured =>
    dsimp only at h
    refine ⟨fun _ => ?_, fun _ => ⟨_, h⟩⟩
    show K (.func fn (first.map ρ) (captured.map ρ)) w
    rw [mapL_arr, mapL_arr]; exact h
  case makeSlice t l c => simp only [nMakeSlice] at h; exact nOp_out h
  case makeMap t r => simp only [nMakeMap] at h; exact nOp_out h
  case lookup t x i b => simp only [nLookup] at h; exact nOp_out h
  case mapUpdate t m k x => simp only [nMapUpdate] at h; exact nOp_out h
  case insert t m k x => simp only [nMapUpdate] at h; exact nOp_out h
  case range t x => simp only [nRange] at h; exact nOp_out h
  case next it b => simp only [nNext] at h; exact nOp_out h
  case entry it => simp only [nEntry] at h; exact nOp_out h
  case convert s d x =>
    dsimp only at h
    split at h
    · exact nPure_out h
    · simp only [nConvert] at h; exact nOp_out h
  case binOp op t x y yt =>
    dsimp only at h
    split at h
    · exact nPure_out h
    · simp only [nBin] at h; exact nOp_out h
  case call c =>
    dsimp only at h
    obtain ⟨callee, args, ts⟩ := c
    dsimp only at h
    split at h
    · rename_i b
      have e : execOp ρ ⟨dst, .call ⟨.builtin b, args, ts⟩, type, pos, after, guard⟩ = builtin b ts type (args.map fun | .const _ => true | _ => false) (args.map ρ) := rfl
      rw [e, mapL_arr]
      split at h
      · rename_i hp
        have := nPure_out h
        cases b <;> simp only [plainBuiltin] at hp <;> first | exact this | (revert hp; cases (mapL ρ args.toList).headD undef <;> intro hp <;> first | exact this | cases hp)
      · simp only [nBuiltin] at h; exact nOp_out h
    · rename_i f
      have e : execOp ρ ⟨dst, .call ⟨.value (.func f), args, ts⟩, type, pos, after, guard⟩ = (do let d ← Deferred.ofValue (ρ (.func f)) (args.map ρ); invoke d.target d.args) := rfl
      rw [e, hρ, mapL_arr]
      simp only [nCall] at h
      have := nOp_out h
      have e2 : (do let d ← Deferred.ofValue (.func (.func f) #[] #[]) (mapL ρ args.toList).toArray; invoke d.target d.args : Sem Next) = callFunc f (mapL ρ args.toList).toArray := by
        show callFunc f ((#[] ++ (mapL ρ args.toList).toArray) ++ #[]) = _
        simp
      rw [e2]; exact this
    · rename_i f _
      have e : execOp ρ ⟨dst, .call ⟨.value f, args, ts⟩, type, pos, after, guard⟩ = (do let d ← Deferred.ofValue (ρ f) (args.map ρ); invoke d.target d.args) := rfl
      rw [e, mapL_arr]
      simp only [nCallV] at h; exact nOp_out h
    · exact nOp_out h
  case select => exact h.elim
  case defer => exact h.elim
  all_goals first | exact nPure_out h | exact nOp_out h

/-! ### A list of operations -/

def pickGs (gs : Gs) (c : Operand) (b : Bool) : Gs := match c with | .tmp t => (t, b) :: gs | _ => gs
def covers (e : Env) (ge : GEnv) (gs : Gs) (o : Oper) : Bool := allIn e ge gs o.op.operands.toList

def putIn (n : Nat) (gs : Gs) (dst : Option Tmp) (v : Value) (e : Env) (ge : GEnv) (K : Env → GEnv → Prop) : Prop :=
  match dst with
  | none => K e ge
  | some d => match Nat.blt d n && noClash d ge && !gclash d gs with
    | false => False
    | true => match gs with
      | [] => K ((d, v) :: e) ge
      | _ => K e ((d, (gs, v)) :: ge)

def runOps (P : Program) (n : Nat) (ops : List Oper) : List Oper → Env → GEnv → World → (Env → World → Prop) → Prop
  | [], e, ge, w, K => K (endEnv ge e) w
  | o :: rest, e, ge, w, K =>
    match gof ops ge o with
    | none => False
    | some gs => match gknown e ge gs with
      | false => False
      | true => match o.op with
        | .pick c a b => match opnd e ge gs c, opnd e ge (pickGs gs c true) a, opnd e ge (pickGs gs c false) b with
          | some cv, some av, some bv => match pickV cv av bv with
            | some v => putIn n gs o.dst v e ge fun e' ge' => runOps P n ops rest e' ge' w K
            | none => False
          | _, _, _ => False
        | .move x => match opnd e ge gs x with
          | some v => putIn n gs o.dst v e ge fun e' ge' => runOps P n ops rest e' ge' w K
          | none => False
        | .assign x => match opnd e ge gs x with
          | some v => putIn n gs o.dst v e ge fun e' ge' => runOps P n ops rest e' ge' w K
          | none => False
        | _ => match covers e ge gs o with
          | false => False
          | true => stepOp P o (rho e ge gs) (gb e ge gs) w fun v w' => putIn n gs o.dst v e ge fun e' ge' => runOps P n ops rest e' ge' w' K

/-- The frame holds what the list says. -/
structure Fits (n : Nat) (ds : List Nat) (e : Env) (a : Act) : Prop where
  size : a.tmps.size = n
  defers : a.defers = marks ds
  at_ : ∀ t v, look e t = some v → a.tmps.getD t undef = v

def holds (a : Act) (gs : Gs) : Prop := ∀ p ∈ gs, a.tmps.getD p.1 undef = .bool p.2

structure FitsG (n : Nat) (e : Env) (ge : GEnv) (a : Act) : Prop where
  size : a.tmps.size = n
  at_ : ∀ t v, look ge t = none → look e t = some v → a.tmps.getD t undef = v
  yes : ∀ t gs v, look ge t = some (gs, v) → holds a gs → a.tmps.getD t undef = v
  no : ∀ t gs v, look ge t = some (gs, v) → ¬ holds a gs → a.tmps.getD t undef = undef

theorem Fits.g {n : Nat} {ds : List Nat} {e : Env} {a : Act} (h : Fits n ds e a) : FitsG n e [] a :=
  ⟨h.size, fun t v _ => h.at_ t v, fun t gs v h => by simp [look] at h, fun t gs v h => by simp [look] at h⟩

theorem look_dropG {ge : GEnv} : ∀ {e : Env} {t : Nat} {v : Value}, look (dropG ge e) t = some v → look ge t = none ∧ look e t = some v := by
  intro e
  induction e with
  | nil => intro t v h; simp [dropG, look] at h
  | cons p e ih =>
    intro t v h
    obtain ⟨k, u⟩ := p
    simp only [dropG] at h
    cases hk : look ge k with
    | some x =>
      rw [hk] at h
      have := ih h
      refine ⟨this.1, ?_⟩
      simp only [look]
      cases hb : Nat.beq k t with
      | true => rw [Nat.eq_of_beq_eq_true hb] at hk; rw [this.1] at hk; cases hk
      | false => exact this.2
    | none =>
      rw [hk] at h
      simp only [look] at h ⊢
      cases hb : Nat.beq k t with
      | true => rw [hb] at h; rw [← Nat.eq_of_beq_eq_true hb]; exact ⟨hk, h⟩
      | false => rw [hb] at h; exact ih h

theorem FitsG.end_ {n : Nat} {ds : List Nat} {e : Env} {ge : GEnv} {a : Act} (h : FitsG n e ge a) (hd : a.defers = marks ds) : Fits n ds (endEnv ge e) a := by
  refine ⟨h.size, hd, fun t v hv => ?_⟩
  unfold endEnv at hv
  split at hv
  · exact h.at_ t v rfl hv
  · have := look_dropG hv; exact h.at_ t v this.1 this.2

theorem gmem_mem {p : Nat × Bool} : ∀ {gs : Gs}, gmem p gs = true → p ∈ gs := by
  intro gs
  induction gs with
  | nil => intro h; simp [gmem] at h
  | cons q r ih =>
    intro h
    simp only [gmem] at h
    split at h
    · rename_i hb
      simp only [Bool.and_eq_true, beq_iff_eq] at hb
      have e1 := Nat.eq_of_beq_eq_true hb.1
      obtain ⟨p1, p2⟩ := p; obtain ⟨q1, q2⟩ := q
      simp at e1 hb
      simp [e1, hb.2]
    · exact List.mem_cons_of_mem _ (ih h)
theorem gsub_holds {a : Act} {gs : Gs} : ∀ {gs' : Gs}, gsub gs' gs = true → holds a gs → holds a gs' := by
  intro gs'
  induction gs' with
  | nil => intro _ _ p hp; cases hp
  | cons q r ih =>
    intro h hh p hp
    simp only [gsub] at h
    split at h
    · rename_i hm
      rcases List.mem_cons.1 hp with k | k
      · subst k; exact hh _ (gmem_mem hm)
      · exact ih h hh p k
    · cases h

theorem opnd_at {n : Nat} {e : Env} {ge : GEnv} {a : Act} {gs : Gs} (h : FitsG n e ge a) (hh : holds a gs) : ∀ {x : Operand} {v : Value}, opnd e ge gs x = some v → a.eval x = v := by
  intro x v hx
  cases x with
  | const v' => simp [opnd] at hx; subst hx; rfl
  | global g => simp [opnd] at hx; subst hx; rfl
  | func f => simp [opnd] at hx; subst hx; rfl
  | tmp t =>
    simp only [opnd] at hx
    show a.tmps.getD t undef = v
    split at hx
    · rename_i gs' v' hl
      split at hx
      · rename_i hs
        cases hx
        exact h.yes t gs' v hl (gsub_holds hs hh)
      · cases hx
    · rename_i hl; exact h.at_ t v hl hx

theorem allIn_at {e : Env} {ge : GEnv} {gs : Gs} : ∀ {l : List Operand}, allIn e ge gs l = true → ∀ x ∈ l, ∃ v, opnd e ge gs x = some v := by
  intro l
  induction l with
  | nil => intro _ x hx; cases hx
  | cons y r ih =>
    intro h x hx
    simp only [allIn] at h
    split at h
    · rename_i v hv
      rcases List.mem_cons.1 hx with k | k
      · subst k; exact ⟨v, hv⟩
      · exact ih h x k
    · cases h

/-- A chain of guards that is looked at from within is closed: behind a slot that is itself guarded stand its own guards. -/
def chained (ge : GEnv) : Gs → Prop
  | [] => True
  | (s, _) :: r => (∀ gs v, look ge s = some (gs, v) → ∀ p ∈ gs, p ∈ r) ∧ chained ge r

theorem gb_holds {n : Nat} {e : Env} {ge : GEnv} {a : Act} (h : FitsG n e ge a) : ∀ {gs : Gs}, chained ge gs → gknown e ge gs = true → (gb e ge gs = true ↔ holds a gs) := by
  intro gs
  induction gs with
  | nil => intro _ _; exact ⟨fun _ p hp => (by cases hp), fun _ => rfl⟩
  | cons q r ih =>
    obtain ⟨s, want⟩ := q
    intro hc hk
    obtain ⟨hc1, hc2⟩ := hc
    simp only [gknown] at hk
    split at hk
    · rename_i b hb
      have ih := ih hc2 hk
      have hs : holds a r → a.tmps.getD s undef = .bool b := by
        intro hr
        unfold gval at hb
        split at hb
        · rename_i gs v hl
          cases hb
          exact h.yes s gs _ hl (fun p hp => hr p (hc1 gs _ hl p hp))
        · rename_i hl
          exact h.at_ s _ hl hb
      have e1 : gb e ge ((s, want) :: r) = ((match want with | true => b | false => !b) && gb e ge r) := by
        simp only [gb, hb]
      rw [e1, Bool.and_eq_true]
      constructor
      · rintro ⟨h1, h2⟩ p hp
        rcases List.mem_cons.1 hp with k | k
        · subst k
          rw [hs (ih.1 h2)]
          cases want <;> simp_all
        · exact ih.1 h2 p k
      · intro hh
        have hr : holds a r := fun p hp => hh p (List.mem_cons_of_mem _ hp)
        refine ⟨?_, ih.2 hr⟩
        have h1 := hh (s, want) (by simp)
        rw [hs hr] at h1
        cases want <;> simp_all
    · cases hk

/-- All chains in the list are closed. -/
def closedG (ge : GEnv) : Prop := ∀ t gs v, look ge t = some (gs, v) → chained ge gs

theorem gof_chained {ops : List Oper} {ge : GEnv} {o : Oper} {gs : Gs} (hcl : closedG ge) (h : gof ops ge o = some gs) : chained ge gs := by
  unfold gof at h
  split at h
  · cases h; trivial
  · split at h
    · cases h
    · split at h
      · cases h
      · split at h
        · rename_i s _ gs' v hl
          cases h
          refine ⟨fun gs v h' p hp => ?_, hcl _ _ _ hl⟩
          rw [hl] at h'; cases h'; exact hp
        · rename_i s _ hl
          cases h
          refine ⟨fun gs v h' => ?_, trivial⟩
          rw [hl] at h'; cases h'

theorem gof_wanted {n : Nat} {e : Env} {ge : GEnv} {a : Act} {ops : List Oper} {o : Oper} {gs : Gs} (hf : FitsG n e ge a) (h : gof ops ge o = some gs)
    (hn : ∀ (j : Nat) (oj : Oper) (s : Nat), ops[j]? = some oj → oj.dst = some s → s < n) : (Region.wanted o (yielded ops.toArray a.tmps) = true ↔ holds a gs) := by
  unfold gof at h
  unfold Region.wanted
  split at h
  · rename_i hg
    cases h
    rw [hg]
    exact ⟨fun _ p hp => (by cases hp), fun _ => rfl⟩
  · rename_i j want hg
    rw [hg]
    split at h
    · cases h
    · rename_i oj hj
      split at h
      · cases h
      · rename_i s hd
        have hs : s < a.tmps.size := by rw [hf.size]; exact hn j oj s hj hd
        have hy : yielded ops.toArray a.tmps j = match a.tmps.getD s undef with | .bool b => some b | _ => none := by
          unfold yielded
          simp only [List.getElem?_toArray, hj, Option.bind_some, hd]
          rw [Array.getElem?_eq_getElem hs]
          have : a.tmps.getD s undef = a.tmps[s] := by simp [Array.getD, hs]
          rw [this]
          cases a.tmps[s] <;> rfl
        have key : (yielded ops.toArray a.tmps j == some want) = true ↔ a.tmps.getD s undef = .bool want := by
          rw [hy]
          cases hv : a.tmps.getD s undef <;> simp
        split at h
        · rename_i gs' v hl
          cases h
          rw [key]
          constructor
          · intro hb p hp
            rcases List.mem_cons.1 hp with k | k
            · subst k; exact hb
            · by_cases hh : holds a gs'
              · exact hh p k
              · have := hf.no s gs' v hl hh
                rw [this] at hb; simp [undef] at hb
          · intro hh; exact hh (s, want) (by simp)
        · cases h
          rw [key]
          exact ⟨fun hb p hp => by rw [List.mem_singleton] at hp; subst hp; exact hb, fun hh => hh (s, want) (by simp)⟩


theorem getD_put_same {a : Act} {d : Nat} {v : Value} (h : d < a.tmps.size) : (a.put (some d) v).tmps.getD d undef = v := by
  simp [Act.put, Array.getD, h]
theorem getD_put_ne {a : Act} {d t : Nat} {v : Value} (h : d ≠ t) : (a.put (some d) v).tmps.getD t undef = a.tmps.getD t undef := by
  simp [Act.put, Array.getD_eq_getD_getElem?, Array.getElem?_setIfInBounds_ne h]
theorem put_size (a : Act) (d : Option Tmp) (v : Value) : (a.put d v).tmps.size = a.tmps.size := by
  cases d <;> simp [Act.put]
theorem put_defers (a : Act) (d : Option Tmp) (v : Value) : (a.put d v).defers = a.defers := by
  cases d <;> rfl

theorem gclash_ne {d : Nat} : ∀ {gs : Gs}, gclash d gs = false → ∀ p ∈ gs, p.1 ≠ d := by
  intro gs
  induction gs with
  | nil => intro _ p hp; cases hp
  | cons q r ih =>
    obtain ⟨s, b⟩ := q
    intro h p hp
    simp only [gclash] at h
    split at h
    · cases h
    · rename_i hb
      rcases List.mem_cons.1 hp with k | k
      · subst k; intro e; simp only at e; subst e; simp at hb
      · exact ih h p k
theorem noClash_look {d : Nat} : ∀ {ge : GEnv}, noClash d ge = true → ∀ t gs v, look ge t = some (gs, v) → t ≠ d ∧ gclash d gs = false := by
  intro ge
  induction ge with
  | nil => intro _ t gs v h; simp [look] at h
  | cons q r ih =>
    obtain ⟨k, gs', v'⟩ := q
    intro h t gs v hl
    simp only [noClash] at h
    split at h
    · cases h
    · rename_i hb
      simp only [Bool.or_eq_false_iff] at hb
      simp only [look] at hl
      split at hl
      · rename_i hk
        cases hl
        have := Nat.eq_of_beq_eq_true hk
        subst this
        refine ⟨fun e => ?_, hb.2⟩
        subst e; simp at hb
      · exact ih h t gs v hl
theorem holds_put {a : Act} {d : Nat} {v : Value} {gs : Gs} (h : gclash d gs = false) : holds (a.put (some d) v) gs ↔ holds a gs := by
  have key : ∀ p ∈ gs, (a.put (some d) v).tmps.getD p.1 undef = a.tmps.getD p.1 undef := fun p hp => getD_put_ne (Ne.symm (gclash_ne h p hp))
  exact ⟨fun hh p hp => (key p hp) ▸ hh p hp, fun hh p hp => (key p hp).trans (hh p hp)⟩

theorem FitsG.put {n : Nat} {e : Env} {ge : GEnv} {a : Act} {d : Nat} {v : Value} (h : FitsG n e ge a) (hd : d < n) (hc : noClash d ge = true) : FitsG n ((d, v) :: e) ge (a.put (some d) v) := by
  have hda : d < a.tmps.size := by rw [h.size]; exact hd
  refine ⟨by rw [put_size]; exact h.size, fun t u hg hl => ?_, fun t gs u hl hh => ?_, fun t gs u hl hh => ?_⟩
  · simp only [look] at hl
    split at hl
    · rename_i hb
      cases hl
      have := Nat.eq_of_beq_eq_true hb
      subst this
      exact getD_put_same hda
    · rename_i hb
      rw [getD_put_ne (fun e => by subst e; simp at hb)]
      exact h.at_ t u hg hl
  · have := noClash_look hc t gs u hl
    rw [getD_put_ne (Ne.symm this.1)]
    exact h.yes t gs u hl ((holds_put this.2).1 hh)
  · have := noClash_look hc t gs u hl
    rw [getD_put_ne (Ne.symm this.1)]
    exact h.no t gs u hl (fun k => hh ((holds_put this.2).2 k))

theorem FitsG.putG {n : Nat} {e : Env} {ge : GEnv} {a : Act} {d : Nat} {v : Value} {gs : Gs} (h : FitsG n e ge a) (hd : d < n) (hc : noClash d ge = true) (hg : gclash d gs = false)
    {u : Value} (hu : (holds a gs → u = v) ∧ (¬ holds a gs → u = undef)) : FitsG n e ((d, (gs, v)) :: ge) (a.put (some d) u) := by
  have hda : d < a.tmps.size := by rw [h.size]; exact hd
  refine ⟨by rw [put_size]; exact h.size, fun t x hl hx => ?_, fun t gs' x hl hh => ?_, fun t gs' x hl hh => ?_⟩
  · simp only [look] at hl
    split at hl
    · cases hl
    · rename_i hb
      rw [getD_put_ne (fun e => by subst e; simp at hb)]
      exact h.at_ t x hl hx
  · simp only [look] at hl
    split at hl
    · rename_i hb
      cases hl
      have := Nat.eq_of_beq_eq_true hb
      subst this
      rw [getD_put_same hda]; exact hu.1 ((holds_put hg).1 hh)
    · have := noClash_look hc t gs' x hl
      rw [getD_put_ne (Ne.symm this.1)]
      exact h.yes t gs' x hl ((holds_put this.2).1 hh)
  · simp only [look] at hl
    split at hl
    · rename_i hb
      cases hl
      have := Nat.eq_of_beq_eq_true hb
      subst this
      rw [getD_put_same hda]; exact hu.2 (fun k => hh ((holds_put hg).2 k))
    · have := noClash_look hc t gs' x hl
      rw [getD_put_ne (Ne.symm this.1)]
      exact h.no t gs' x hl (fun k => hh ((holds_put this.2).2 k))

theorem chained_cons {ge : GEnv} {d : Nat} {x : Gs × Value} : ∀ {gs : Gs}, gclash d gs = false → chained ge gs → chained ((d, x) :: ge) gs := by
  intro gs
  induction gs with
  | nil => intro _ _; trivial
  | cons q r ih =>
    obtain ⟨s, b⟩ := q
    intro h hc
    simp only [gclash] at h
    split at h
    · cases h
    · rename_i hb
      refine ⟨fun gs' v hl => hc.1 gs' v ?_, ih h hc.2⟩
      simp only [look] at hl
      split at hl
      · rename_i hb'
        have := Nat.eq_of_beq_eq_true hb'
        subst this; simp at hb
      · exact hl
theorem closedG_cons {ge : GEnv} {d : Nat} {gs : Gs} {v : Value} (h : closedG ge) (hc : noClash d ge = true) (hg : gclash d gs = false) (hch : chained ge gs) : closedG ((d, (gs, v)) :: ge) := by
  intro t gs' x hl
  simp only [look] at hl
  split at hl
  · cases hl; exact chained_cons hg hch
  · exact chained_cons (noClash_look hc t gs' x hl).2 (h t gs' x hl)

theorem not_select {e : Env} {ge : GEnv} {gs : Gs} {P : Program} {o : Oper} {g : Bool} {w : World} {K : Value → World → Prop} (h : stepOp P o (rho e ge gs) g w K) : ∀ cs b, o.op ≠ .select cs b := by
  intro cs b e'
  obtain ⟨dst, op, type, pos, after, guard⟩ := o
  simp only at e'
  subst e'
  exact h

theorem not_defer {e : Env} {ge : GEnv} {gs : Gs} {P : Program} {o : Oper} {g : Bool} {w : World} {K : Value → World → Prop} (h : stepOp P o (rho e ge gs) g w K) : ∀ c, o.op ≠ .defer c := by
  intro c e'
  obtain ⟨dst, op, type, pos, after, guard⟩ := o
  simp only at e'
  subst e'
  exact h

theorem upon_mono {P : Program} {K K' : Value → World → Prop} (hk : ∀ v w, K v w → K' v w) : ∀ {r : Result Next}, upon P K r → upon P K' r := by
  intro r h
  cases r with
  | halt x w => exact h
  | ok x w =>
    cases x <;> simp only [upon] at h ⊢
    case value v => exact hk _ _ h
    case skip => exact hk _ _ h
    case enter f args =>
      refine Calls.mono h fun e w' he => ?_
      cases e <;> first | exact hk _ _ he | exact he
    case row r args => exact RowsIn.mono h fun v w' hv => hk _ _ hv
    case round l f tmps assign body =>
      refine RoundIn.mono h fun e w' he => ?_
      cases e <;> first | exact hk _ _ he | exact he

theorem upon_wp {ro : Option Nat} {P : Program} {o : Oper} {a : Act} {next : Act → World → Prop} {Q : Exit → Act → World → Prop} : ∀ {r : Result Next}, upon P (fun v w' => next (a.put o.dst v) w') r → o.uponIn (Fw ro) 0 P a next Q r := by
  intro r h
  cases r with
  | halt x w => exact h.elim
  | ok x w =>
    cases x <;> simp only [upon, Oper.uponIn] at h ⊢
    case value v => exact h
    case skip => exact h
    case enter f args =>
      refine ⟨fun h => (by cases h), callsIn_fw.2 (Calls.mono h fun e w' he => ?_)⟩
      cases e <;> first | exact he | exact he.elim
    case row r args => exact ⟨fun h => (by cases h), h⟩
    case round l f tmps assign body =>
      refine ⟨fun h => (by cases h), RoundIn.mono (F := Fw ro) h fun e w' he => ?_⟩
      cases e <;> first | exact he | exact he.elim

/-- Putting a value: what the list says fits the new frame. -/
theorem putIn_out {n : Nat} {e : Env} {ge : GEnv} {a : Act} {gs : Gs} {dst : Option Tmp} {v u : Value} {K : Env → GEnv → Prop} (hf : FitsG n e ge a) (hcl : closedG ge) (hch : chained ge gs)
    (hu : (holds a gs → u = v) ∧ (¬ holds a gs → u = undef)) (h : putIn n gs dst v e ge K) : ∃ e' ge', FitsG n e' ge' (a.put dst u) ∧ closedG ge' ∧ K e' ge' := by
  unfold putIn at h
  split at h
  · exact ⟨e, ge, hf, hcl, h⟩
  · rename_i d
    split at h
    · exact h.elim
    · rename_i hb
      simp only [Bool.and_eq_true, Bool.not_eq_true'] at hb
      obtain ⟨⟨h1, h2⟩, h3⟩ := hb
      have hd : d < n := by simpa [Nat.blt_eq] using h1
      split at h
      · have : u = v := hu.1 (fun p hp => by cases hp)
        subst this
        exact ⟨_, _, hf.put hd h2, hcl, h⟩
      · exact ⟨_, _, hf.putG hd h2 h3 hu, closedG_cons hcl h2 h3 hch, h⟩

theorem pickV_spec {c a b v : Value} (h : pickV c a b = some v) : ∃ x p q, c = .bool x ∧ a = .bool p ∧ b = .bool q ∧ v = .bool (bif x then p else q) := by
  cases c <;> simp only [pickV] at h <;> try (cases h; done)
  rename_i x
  split at h
  · cases h; exact ⟨_, _, _, rfl, rfl, rfl, rfl⟩
  · cases h

theorem runOps_sound {ro : Option Nat} {P : Program} {n : Nat} {ds : List Nat} {Q : Exit → Act → World → Prop} {ops : List Oper} (hn : ∀ (j : Nat) (oj : Oper) (s : Nat), ops[j]? = some oj → oj.dst = some s → s < n) {K : Env → World → Prop} (hQ : ∀ e a w, Fits n ds e a → K e w → Q .normal a w) :
    ∀ (rest : List Oper) (e : Env) (ge : GEnv) (a : Act) (w : World), FitsG n e ge a → a.defers = marks ds → closedG ge → runOps P n ops rest e ge w K → wpListIn (Fw ro) 0 P ops.toArray Q rest a w := by
  intro rest
  induction rest with
  | nil => intro e ge a w hf hd _ h; exact hQ _ _ _ (hf.end_ hd) h
  | cons o rest ih =>
    intro e ge a w hf hdf hcl h
    simp only [runOps] at h
    split at h
    · exact h.elim
    · rename_i gs hgs
      have hch := gof_chained hcl hgs
      have hw := gof_wanted hf hgs hn
      split at h
      · exact h.elim
      · rename_i hk
        have hgb := gb_holds hf hch hk
        -- the two ways
        have fin : ∀ (u v : Value) (w' : World), ((holds a gs → u = v) ∧ (¬ holds a gs → u = undef)) → (putIn n gs o.dst v e ge fun e' ge' => runOps P n ops rest e' ge' w' K) → wpListIn (Fw ro) 0 P ops.toArray Q rest (a.put o.dst u) w' := by
          intro u v w' hu hp
          obtain ⟨e', ge', hf', hcl', hr⟩ := putIn_out hf hcl hch hu hp
          exact ih e' ge' _ _ hf' (by rw [put_defers]; exact hdf) hcl' hr
        have go : ∀ (s : Sem Next), (∀ c, o.op ≠ .defer c) → (holds a gs → execOp a.eval o = s) → Steps1 P (gb e ge gs) s w (fun v w' => putIn n gs o.dst v e ge fun e' ge' => runOps P n ops rest e' ge' w' K) → wpListIn (Fw ro) 0 P ops.toArray Q (o :: rest) a w := by
          intro s hnd hs hst
          simp only [wpListIn]
          split
          · rename_i hwt
            have hh := hw.1 hwt
            unfold Oper.wpIn
            refine ⟨fun _ _ => trivial, ?_⟩
            rw [Oper.semAt_eq _ _ _ hnd, hs hh]
            exact upon_wp (upon_mono (fun v w' hp => fin v v w' ⟨fun _ => rfl, fun k => absurd hh k⟩ hp) (hst.1 (hgb.2 hh)))
          · rename_i hwt
            have hh : ¬ holds a gs := fun k => hwt (hw.2 k)
            have hg : gb e ge gs = false := by
              cases hb : gb e ge gs with
              | false => rfl
              | true => exact absurd (hgb.1 hb) hh
            obtain ⟨v, hv⟩ := hst.2 hg
            exact ⟨fun _ _ => trivial, fin undef v w ⟨fun k => absurd k hh, fun _ => rfl⟩ hv⟩
        split at h
        · rename_i c x y hop
          split at h
          · rename_i cv av bv hc hx hy
            split at h
            · rename_i v hv
              obtain ⟨b, p, q, rfl, rfl, rfl, rfl⟩ := pickV_spec hv
              refine go (.pure (.value (.bool (bif b then p else q)))) (fun c => by rw [hop]; intro k; cases k) (fun hh => ?_) ⟨fun _ => h, fun _ => ⟨_, h⟩⟩
              have ec : a.eval c = .bool b := opnd_at hf hh hc
              have hh' : holds a (pickGs gs c b) := by
                cases c with
                | tmp t =>
                  intro p' hp'
                  rcases List.mem_cons.1 hp' with k | k
                  · subst k; exact ec
                  · exact hh p' k
                | const _ => exact hh
                | global _ => exact hh
                | func _ => exact hh
              obtain ⟨dst, op, type, pos, after, guard⟩ := o
              simp only at hop
              subst hop
              show (do pure (.value (if ← asBool (a.eval c) then a.eval x else a.eval y)) : Sem Next) = _
              rw [ec]
              cases b with
              | true => have := opnd_at hf hh' hx; simp only [cond_true]; rw [this]; rfl
              | false => have := opnd_at hf hh' hy; simp only [cond_false]; rw [this]; rfl
            · exact h.elim
          · exact h.elim
        · rename_i x hop
          split at h
          · rename_i v hx
            refine go (.pure (.value v)) (fun c => by rw [hop]; intro k; cases k) (fun hh => ?_) ⟨fun _ => h, fun _ => ⟨_, h⟩⟩
            have ex : a.eval x = v := opnd_at hf hh hx
            obtain ⟨dst, op, type, pos, after, guard⟩ := o
            simp only at hop
            subst hop
            show (pure (.value (a.eval x)) : Sem Next) = _
            rw [ex]; rfl
          · exact h.elim
        · rename_i x hop
          split at h
          · rename_i v hx
            refine go (.pure (.value v)) (fun c => by rw [hop]; intro k; cases k) (fun hh => ?_) ⟨fun _ => h, fun _ => ⟨_, h⟩⟩
            have ex : a.eval x = v := opnd_at hf hh hx
            obtain ⟨dst, op, type, pos, after, guard⟩ := o
            simp only at hop
            subst hop
            show (pure (.value (a.eval x)) : Sem Next) = _
            rw [ex]; rfl
          · exact h.elim
        · split at h
          · exact h.elim
          · rename_i hcov
            have hst := stepOp_out (fun f => rfl) h
            refine go _ (not_defer h) (fun hh => ?_) hst
            refine execOp_congr o (not_select h) fun x hx => ?_
            obtain ⟨v, hv⟩ := allIn_at hcov x (by simpa using hx)
            rw [opnd_at hf hh hv]
            simp [rho, hv]

/-! ### Code -/

abbrev EK := Exit → List Nat → Env → World → Prop
def lift (n : Nat) (K : EK) : Exit → Act → World → Prop := fun x a w => ∃ ds e, Fits n ds e a ∧ K x ds e w

/-- Whatever frame fits the list: the code comes to K. -/
@[irreducible] def nCode (P : Program) (ro : Option Nat) (n : Nat) (ds : List Nat) (c : Code) (e : Env) (w : World) (K : EK) : Prop := ∀ a, Fits n ds e a → c.wpIn (Fw ro) 0 P (lift n K) a w
theorem nCode_out {P : Program} {ro : Option Nat} {n : Nat} {ds : List Nat} {c : Code} {e : Env} {w : World} {K : EK} (h : nCode P ro n ds c e w K) : ∀ a, Fits n ds e a → c.wpIn (Fw ro) 0 P (lift n K) a w := by unfold nCode at h; exact h
theorem nCode_in {P : Program} {ro : Option Nat} {n : Nat} {ds : List Nat} {c : Code} {e : Env} {w : World} {K : EK} (h : ∀ a, Fits n ds e a → c.wpIn (Fw ro) 0 P (lift n K) a w) : nCode P ro n ds c e w K := by unfold nCode; exact h

@[irreducible] def nCond (v : Value) (A B : Prop) : Prop := ∃ b, v = .bool b ∧ (b = true → A) ∧ (b = false → B)

def dstsOk (n : Nat) : List Oper → Bool
  | [] => true
  | o :: r => match o.dst with
    | none => dstsOk n r
    | some d => match Nat.blt d n with | true => dstsOk n r | false => false

def thenK (P : Program) (ro : Option Nat) (n : Nat) (b : Code) (K : EK) : EK
  | .normal, ds, e, w => nCode P ro n ds b e w K
  | x, ds, e, w => K x ds e w
def blockK (id : Nat) (K : EK) : EK
  | .exit id', ds, e, w => match Nat.beq id' id with | true => K .normal ds e w | false => K (.exit id') ds e w
  | x, ds, e, w => K x ds e w

@[irreducible] def nDrawn (P : Program) (ro : Option Nat) (n : Nat) (ds : List Nat) (id : Nat) (ops : Array Oper) (e : Env) (w : World) (K : EK) : Prop := nCode P ro n ds (.region id ops true) e w K
@[irreducible] def nLoop (P : Program) (ro : Option Nat) (n : Nat) (ds : List Nat) (body : Code) (e : Env) (w : World) (K : EK) : Prop := nCode P ro n ds (.loop body) e w K

def run (P : Program) (ro : Option Nat) (n : Nat) : List Nat → Code → Env → World → EK → Prop
  | ds, .skip, e, w, K => K .normal ds e w
  | ds, .label _, e, w, K => K .normal ds e w
  | ds, .region id ops draw, e, w, K => match draw with
    | true => nDrawn P ro n ds id ops e w K
    | false => match dstsOk n ops.toList with
      | true => runOps P n ops.toList ops.toList e [] w (K .normal ds)
      | false => False
  | ds, .seq a b, e, w, K => run P ro n ds a e w (thenK P ro n b K)
  | ds, .cond c a b, e, w, K => match opnd e [] [] c with
    | some v => nCond v (run P ro n ds a e w K) (run P ro n ds b e w K)
    | none => False
  | ds, .block id body, e, w, K => run P ro n ds body e w (blockK id K)
  | ds, .loop body, e, w, K => nLoop P ro n ds body e w K
  | ds, .exit id, e, w, K => K (.exit id) ds e w
  | ds, .goto l, e, w, K => K (.goto l) ds e w
  | ds, .ret, e, w, K => K .ret ds e w
  | ds, c, e, w, K => nCode P ro n ds c e w K

theorem dstsOk_spec {n : Nat} : ∀ {l : List Oper}, dstsOk n l = true → ∀ (j : Nat) (oj : Oper) (s : Nat), l[j]? = some oj → oj.dst = some s → s < n := by
  intro l
  induction l with
  | nil => intro _ j oj s h; simp at h
  | cons o r ih =>
    intro h j oj s hj hd
    simp only [dstsOk] at h
    cases j with
    | zero =>
      simp at hj
      subst hj
      rw [hd] at h
      simp only at h
      split at h
      · rename_i hb; simpa [Nat.blt_eq] using hb
      · cases h
    | succ j =>
      simp at hj
      refine ih ?_ j oj s hj hd
      split at h
      · exact h
      · split at h
        · exact h
        · cases h

theorem run_sound {P : Program} {ro : Option Nat} {n : Nat} : ∀ (c : Code) {ds : List Nat} {e : Env} {w : World} {K : EK}, run P ro n ds c e w K → ∀ a, Fits n ds e a → c.wpIn (Fw ro) 0 P (lift n K) a w := by
  intro c
  induction c with
  | skip => intro ds e w K h a hf; exact wpIn_skip ⟨ds, e, hf, h⟩
  | label l => intro ds e w K h a hf; exact wpIn_label ⟨ds, e, hf, h⟩
  | region id ops draw =>
    intro ds e w K h a hf
    simp only [run] at h
    split at h
    · simp only [nDrawn] at h; exact nCode_out h a hf
    · split at h
      · rename_i hd
        have := runOps_sound (ro := ro) (Q := lift n K) (dstsOk_spec hd) (fun e a w hf hk => ⟨ds, e, hf, hk⟩) ops.toList e [] a w hf.g hf.defers (fun t gs v hl => by simp [look] at hl) h
        exact wpIn_region_list (by simpa using this)
      · exact h.elim
  | seq x y ihx ihy =>
    intro ds e w K h a hf
    refine wpIn_seq (wpIn_mono (ihx h a hf) fun ex a' w' hq => ?_)
    obtain ⟨ds', e', hf', hk⟩ := hq
    cases ex with
    | normal => exact nCode_out hk a' hf'
    | _ => exact ⟨ds', e', hf', hk⟩
  | cond c x y ihx ihy =>
    intro ds e w K h a hf
    simp only [run] at h
    split at h
    · rename_i v hv
      unfold nCond at h
      obtain ⟨b, rfl, ht, hff⟩ := h
      have hc : a.eval c = .bool b := opnd_at hf.g (fun p hp => by cases hp) hv
      cases b with
      | true => exact wpIn_cond_true hc (ihx (ht rfl) a hf)
      | false => exact wpIn_cond_false hc (ihy (hff rfl) a hf)
    · exact h.elim
  | block id body ih =>
    intro ds e w K h a hf
    refine wpIn_block (wpIn_mono (ih h a hf) fun ex a' w' hq => ?_)
    obtain ⟨ds', e', hf', hk⟩ := hq
    cases ex with
    | exit id' =>
      simp only [blockK] at hk
      simp only [Exit.inBlock]
      split at hk
      · rename_i hb
        have := Nat.eq_of_beq_eq_true hb
        rw [if_pos this]; exact ⟨ds', e', hf', hk⟩
      · rename_i hb
        rw [if_neg (fun he => by subst he; simp at hb)]
        exact ⟨ds', e', hf', hk⟩
    | _ => exact ⟨ds', e', hf', hk⟩
  | loop body _ => intro ds e w K h a hf; simp only [run, nLoop] at h; exact nCode_out h a hf
  | exit id => intro ds e w K h a hf; exact wpIn_exit ⟨ds, e, hf, h⟩
  | goto l => intro ds e w K h a hf; exact wpIn_goto ⟨ds, e, hf, h⟩
  | ret => intro ds e w K h a hf; exact wpIn_ret ⟨ds, e, hf, h⟩
  | rangeFunc f ps x y _ _ => intro ds e w K h a hf; exact nCode_out h a hf
  | scope x _ => intro ds e w K h a hf; exact nCode_out h a hf
  | refuse why => intro ds e w K h a hf; exact nCode_out h a hf

/-- On with the code. -/
theorem nc {P : Program} {ro : Option Nat} {n : Nat} {ds : List Nat} {c : Code} {e : Env} {w : World} {K : EK} (h : run P ro n ds c e w K) : nCode P ro n ds c e w K := nCode_in fun a hf => run_sound c h a hf

theorem cond_of {b : Bool} {A B : Prop} (ht : b = true → A) (hf : b = false → B) : nCond (.bool b) A B := by unfold nCond; exact ⟨b, rfl, ht, hf⟩
theorem cond_yes {b : Bool} {A B : Prop} (hb : b = true) (h : A) : nCond (.bool b) A B := cond_of (fun _ => h) (fun k => by rw [hb] at k; cases k)
theorem cond_no {b : Bool} {A B : Prop} (hb : b = false) (h : B) : nCond (.bool b) A B := cond_of (fun k => by rw [hb] at k; cases k) (fun _ => h)

/-- What a list says is said by another one. -/
def subE : Env → Env → Prop
  | [], _ => True
  | (t, v) :: r, e => look e t = some v ∧ subE r e
theorem subE_look {e : Env} : ∀ {e' : Env}, subE e' e → ∀ t v, look e' t = some v → look e t = some v := by
  intro e'
  induction e' with
  | nil => intro _ t v h; simp [look] at h
  | cons p r ih =>
    obtain ⟨k, u⟩ := p
    intro h t v hl
    simp only [look] at hl
    split at hl
    · rename_i hb
      cases hl
      rw [← Nat.eq_of_beq_eq_true hb]; exact h.1
    · exact ih h.2 t v hl
theorem Fits.weak {n : Nat} {ds : List Nat} {e e' : Env} {a : Act} (h : Fits n ds e a) (hs : subE e' e) : Fits n ds e' a := ⟨h.size, h.defers, fun t v hl => h.at_ t v (subE_look hs t v hl)⟩

/-- A cut: what a statement leaves. -/
@[irreducible] def cutAt (ds ds' : List Nat) (I : Env → World → Prop) (e : Env) (w : World) : Prop := ds' = ds ∧ ∃ e', subE e' e ∧ I e' w
def cutK (ds : List Nat) (I : Env → World → Prop) (K : EK) : EK
  | .normal, ds', e, w => cutAt ds ds' I e w
  | x, ds', e, w => K x ds' e w
theorem nc_cut {P : Program} {ro : Option Nat} {n : Nat} {ds : List Nat} {x y : Code} {e : Env} {w : World} {K : EK} (I : Env → World → Prop) (hx : nCode P ro n ds x e w (cutK ds I K)) (hy : ∀ e w, I e w → nCode P ro n ds y e w K) : nCode P ro n ds (.seq x y) e w K :=
  nCode_in fun a hf => wpIn_seq (wpIn_mono (nCode_out hx a hf) fun ex a' w' hq => by
    obtain ⟨ds', e', hf', hk⟩ := hq
    cases ex with
    | normal => simp only [cutK, cutAt] at hk; obtain ⟨rfl, e'', hs, hi⟩ := hk; exact nCode_out (hy e'' w' hi) a' (hf'.weak hs)
    | _ => exact ⟨ds', e', hf', hk⟩)
theorem cut_in {ds : List Nat} {I : Env → World → Prop} {e e' : Env} {w : World} (hs : subE e' e) (h : I e' w) : cutAt ds ds I e w := by unfold cutAt; exact ⟨rfl, e', hs, h⟩
/-- .. where marks may have been left. -/
@[irreducible] def cutAtD (ds' : List Nat) (I : List Nat → Env → World → Prop) (e : Env) (w : World) : Prop := ∃ e', subE e' e ∧ I ds' e' w
/-- Once more round. -/
@[irreducible] def again (ds ds' : List Nat) (I : Nat → Env → World → Prop) (k : Nat) (e : Env) (w : World) : Prop := ds' = ds ∧ ∃ k', k' < k ∧ ∃ e', subE e' e ∧ I k' e' w
theorem again_in {ds : List Nat} {I : Nat → Env → World → Prop} {k : Nat} {e : Env} {w : World} (k' : Nat) (hk : k' < k) (e' : Env) (hs : subE e' e) (h : I k' e' w) : again ds ds I k e w := by
  unfold again; exact ⟨rfl, k', hk, e', hs, h⟩
def loopK (ds : List Nat) (I : Nat → Env → World → Prop) (k : Nat) (K : EK) : EK
  | .normal, ds', e, w => again ds ds' I k e w
  | x, ds', e, w => K x ds' e w
theorem loop_rule {P : Program} {ro : Option Nat} {n : Nat} {ds : List Nat} {body : Code} {e : Env} {w : World} {K : EK} (I : Nat → Env → World → Prop) (k₀ : Nat) (e₀ : Env) (hs : subE e₀ e) (h₀ : I k₀ e₀ w)
    (round : ∀ k e w, I k e w → nCode P ro n ds body e w (loopK ds I k K)) : nLoop P ro n ds body e w K := by
  unfold nLoop
  refine nCode_in fun a hf => ?_
  refine wpIn_loop_ghost (fun k a w => ∃ e, Fits n ds e a ∧ I k e w) k₀ ⟨e₀, hf.weak hs, h₀⟩ ?_
  intro k a w h
  obtain ⟨e, hf, hi⟩ := h
  refine wpIn_mono (nCode_out (round _ e w hi) a hf) fun ex a' w' hq => ?_
  obtain ⟨ds', e', hf', hk⟩ := hq
  cases ex with
  | normal =>
    simp only [loopK, again] at hk
    obtain ⟨rfl, k', hlt, e'', hs, hi'⟩ := hk
    exact ⟨k', hlt, e'', hf'.weak hs, hi'⟩
  | _ => exact ⟨ds', e', hf', hk⟩

/-! ### A call -/

def initEnv : Nat → List Value → Env
  | _, [] => []
  | i, v :: r => (i, v) :: initEnv (i + 1) r

def resAt (P : Program) (e : Env) (w : World) : List ResultVar → List Value → Prop
  | [], [] => True
  | .tmp t :: r, v :: vs => look e t = some v ∧ resAt P e w r vs
  | .cell a t :: r, v :: vs => (∃ ad, look e a = some (.pointer (some ad)) ∧ (loadVar t ad).run P w = .ok v w) ∧ resAt P e w r vs
  | _, _ => False
def tupV : List Value → Value
  | [v] => v
  | vs => .tuple vs.toArray

/-- The marks are taken, one by one: none of them has anything to do. -/
def takes : List Nat → World → (World → Prop) → Prop
  | [], w, K => K w
  | D :: ds, w, K => w.heap[D]? = some (.deferred (some [])) ∧ takes ds (w.putObj D (.deferred none)) K
@[irreducible] def nRet (P : Program) (n : Nat) (ds : List Nat) (rs : List ResultVar) (e : Env) (w : World) (R : Ending → World → Prop) : Prop := takes ds w fun w' => ∃ vs, resAt P e w' rs vs ∧ R (.returned (tupV vs)) w'
theorem ret_of {P : Program} {n : Nat} {rs : List ResultVar} {e : Env} {w : World} {R : Ending → World → Prop} (vs : List Value) (h : resAt P e w rs vs) (hR : R (.returned (tupV vs)) w) : nRet P n [] rs e w R := by
  unfold nRet; exact ⟨vs, h, hR⟩
theorem ret_mark {P : Program} {n D : Nat} {ds : List Nat} {rs : List ResultVar} {e : Env} {w : World} {R : Ending → World → Prop} (h : w.heap[D]? = some (.deferred (some []))) (hk : nRet P n ds rs e (w.putObj D (.deferred none)) R) : nRet P n (D :: ds) rs e w R := by
  unfold nRet at hk ⊢; exact ⟨h, hk⟩

def retK (P : Program) (n : Nat) (rs : List ResultVar) (R : Ending → World → Prop) : EK
  | .normal, ds, e, w => nRet P n ds rs e w R
  | .ret, ds, e, w => nRet P n ds rs e w R
  | _, _, _, _ => False

def resOp (tmps : Array Value) : ResultVar → Sem Value
  | .tmp t => pure (tmps.getD t undef)
  | .cell p t => do loadVar t (← asAddr (tmps.getD p undef))

theorem resAt_run {P : Program} {n : Nat} {ds : List Nat} {e : Env} {a : Act} {w : World} (hf : Fits n ds e a) : ∀ {rs : List ResultVar} {vs : List Value}, resAt P e w rs vs → (rs.mapM (resOp a.tmps)).run P w = .ok vs w := by
  intro rs
  induction rs with
  | nil => intro vs h; cases vs <;> first | exact h.elim | rfl
  | cons r rs ih =>
    intro vs h
    cases vs with
    | nil => cases r <;> exact h.elim
    | cons v vs =>
      rw [List.mapM_cons]
      cases r with
      | tmp t =>
        obtain ⟨h1, h2⟩ := h
        have h3 : (resOp a.tmps (.tmp t)).run P w = .ok v w := by show (pure (a.tmps.getD t undef) : Sem Value).run P w = _; rw [hf.at_ t v h1]; rfl
        simp only [Sem.run_bind, Sem.run_pure, Result.andThen_ok, h3, ih h2]
      | cell p t =>
        obtain ⟨⟨ad, h0, h1⟩, h2⟩ := h
        have h3 : (resOp a.tmps (.cell p t)).run P w = .ok v w := by show (do loadVar t (← asAddr (a.tmps.getD p undef)) : Sem Value).run P w = _; rw [hf.at_ p _ h0]; exact h1
        simp only [Sem.run_bind, Sem.run_pure, Result.andThen_ok, h3, ih h2]

theorem results_run {P : Program} {n : Nat} {ds : List Nat} {e : Env} {a : Act} {w : World} (hf : Fits n ds e a) {fn : Func} {vs : List Value} (h : resAt P e w fn.results.toList vs) : (results fn a.tmps).run P w = .ok (tupV vs) w := by
  have h1 := resAt_run hf h
  have h2 : results fn a.tmps = (do let vs ← fn.results.mapM (resOp a.tmps); pure (if h : vs.size = 1 then vs[0] else .tuple vs)) := by
    unfold results
    congr 2
  rw [h2, Array.mapM_eq_mapM_toList]
  simp only [Sem.run_bind, Sem.run_map, Sem.run_pure, Result.andThen_ok, h1]
  congr 1
  match vs with
  | [] => rfl
  | [v] => rfl
  | v :: u :: vs => simp [tupV]

theorem takes_leaves {P : Program} {fn : Func} {tmps : Array Value} {R : Ending → World → Prop} {K : World → Prop} (hk : ∀ w, K w → ∃ v, (results fn tmps).run P w = .ok v w ∧ R (.returned v) w) : ∀ {ds : List Nat} {w : World}, takes ds w K → LeavesInM (Fw none) 0 P fn tmps R (marks ds) .returning w := by
  intro ds
  induction ds with
  | nil => intro w h; exact hk w h
  | cons D ds ih => intro w h; exact ⟨by simp, .inl ⟨D, _, rfl, run_takeDeferred h.1, ih h.2⟩⟩
theorem marks_post {P : Program} {fn : Func} {ds : List Nat} {e : Env} {a : Act} {w : World} {R : Ending → World → Prop} (hf : Fits fn.ntmps ds e a) (h : nRet P fn.ntmps ds fn.results.toList e w R) : LeavesInM (Fw none) 0 P fn a.tmps R a.defers .returning w := by
  rw [hf.defers]
  unfold nRet at h
  exact takes_leaves (fun w' ⟨vs, hr, hR⟩ => ⟨_, results_run hf hr, hR⟩) h

/-- A function's text is run over its arguments. -/
theorem enterN {P : Program} {f : FuncId} {fn : Func} {args : List Value} {w : World} {R : Ending → World → Prop} (hf : P.funcs[f]? = some fn) {c : Code} {n : Nat} {rs : List ResultVar} (hb : fn.body = some c) (hn : fn.ntmps = n) (hrs : fn.results.toList = rs) (hlen : Nat.ble args.length n = true)
    (h : nCode P none n [] c (initEnv 0 args) w (retK P n rs R)) : Calls P f args.toArray w R := by
  subst hn hrs
  have hlen : args.length ≤ fn.ntmps := Nat.le_of_ble_eq_true hlen
  refine (callsIn_wide (n := 0)).1 (callsIn_of_wp_marks (F := Fw none) hf hb trivial ?_)
  have hfit : Fits fn.ntmps [] (initEnv 0 args) { tmps := args.toArray ++ Array.replicate (fn.ntmps - args.toArray.size) undef, defers := [] } := by
    refine ⟨by simp; omega, rfl, fun t v hl => ?_⟩
    have key : ∀ (l : List Value) (k : Nat), look (initEnv k l) t = some v → ∃ j, t = k + j ∧ l[j]? = some v := by
      intro l
      induction l with
      | nil => intro k h; simp [initEnv, look] at h
      | cons x r ih =>
        intro k h
        simp only [initEnv, look] at h
        split at h
        · rename_i hb
          cases h
          exact ⟨0, by have := Nat.eq_of_beq_eq_true hb; omega, rfl⟩
        · obtain ⟨j, hj, h2⟩ := ih (k + 1) h
          exact ⟨j + 1, by omega, h2⟩
    obtain ⟨j, hj, h2⟩ := key args 0 hl
    have : j < args.length := (List.getElem?_eq_some_iff.1 h2).1
    subst hj
    simp only [Nat.zero_add]
    rw [Array.getD_eq_getD_getElem?, Array.getElem?_append_left (by simpa using this)]
    simp [h2]
  refine wpIn_mono (nCode_out h _ hfit) fun x a w' hq => ?_
  obtain ⟨ds, e, hf', hk⟩ := hq
  cases x with
  | normal => exact marks_post hf' hk
  | ret => exact marks_post hf' hk
  | _ => exact hk.elim
theorem enter {P : Program} {f : FuncId} {fn : Func} {args : List Value} {w : World} {R : Ending → World → Prop} (hf : P.funcs[f]? = some fn) {c : Code} {n : Nat} {rs : List ResultVar} (hb : fn.body = some c) (hn : fn.ntmps = n) (hrs : fn.results.toList = rs) (hlen : Nat.ble args.length n = true)
    (h : run P none n [] c (initEnv 0 args) w (retK P n rs R)) : Calls P f args.toArray w R := enterN hf hb hn hrs hlen (nc h)

end Go.Eng
