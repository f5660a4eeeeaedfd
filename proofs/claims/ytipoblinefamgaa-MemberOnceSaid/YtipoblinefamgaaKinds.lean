/- The engine's words for data: how values stand for lists, texts, numbers and structs; the rules that read them, and those that make rows. Proved once, over any program. -/
import Derived.Test.YtipoblinefamgaaDraw
set_option linter.unusedVariables false
namespace Go.Eng
open Go.RowKit
set_option linter.unusedSectionVars false
variable [Inhabited Keep] [Inhabited Hard]

theorem one_kit {v : Value} : oneV v = v.oneCell' := by cases v <;> rfl

/-- A kind of data: how many cells it takes, and which cells stand for it. -/
structure Ty (α : Type) where
  sz : Nat
  R : World → (Nat → Prop) → α → List Value → Prop
  len : ∀ {w ok x cs}, R w ok x cs → cs.length = sz
  one : ∀ {w ok x cs}, R w ok x cs → ∀ v ∈ cs, oneV v = true
  mono : ∀ {w ok ok' x cs}, (∀ b, ok b → ok' b) → R w ok x cs → R w ok' x cs
  step : ∀ {w w' : World} {ok x cs}, (∀ b, ok b → b < w.heap.size → w'.heap[b]? = w.heap[b]?) → R w ok x cs → R w' ok x cs
  bound : ∀ {w : World} {ok x cs}, R w ok x cs → R w (fun b => ok b ∧ b < w.heap.size) x cs

def tInt (k : IntKind) : Ty Int := ⟨1, fun _ _ x cs => cs = [.int k x], fun h => by subst h; rfl, fun h v hv => by subst h; simp at hv; subst hv; rfl, fun _ h => h, fun _ h => h, fun h => h⟩
def tBool : Ty Bool := ⟨1, fun _ _ x cs => cs = [.bool x], fun h => by subst h; rfl, fun h v hv => by subst h; simp at hv; subst hv; rfl, fun _ h => h, fun _ h => h, fun h => h⟩
def bs (l : List UInt8) : ByteArray := ⟨l.toArray⟩
def tStr : Ty (List UInt8) := ⟨1, fun _ _ x cs => cs = [.string (bs x)], fun h => by subst h; rfl, fun h v hv => by subst h; simp at hv; subst hv; rfl, fun _ h => h, fun _ h => h, fun h => h⟩
def tPair {α β : Type} (a : Ty α) (b : Ty β) : Ty (α × β) :=
  ⟨a.sz + b.sz, fun w ok x cs => ∃ c d, cs = c ++ d ∧ a.R w ok x.1 c ∧ b.R w ok x.2 d,
   fun ⟨c, d, e, h1, h2⟩ => by subst e; rw [List.length_append, a.len h1, b.len h2],
   fun ⟨c, d, e, h1, h2⟩ v hv => by subst e; exact (List.mem_append.1 hv).elim (a.one h1 v) (b.one h2 v),
   fun hk ⟨c, d, e, h1, h2⟩ => ⟨c, d, e, a.mono hk h1, b.mono hk h2⟩,
   fun hk ⟨c, d, e, h1, h2⟩ => ⟨c, d, e, a.step hk h1, b.step hk h2⟩,
   fun ⟨c, d, e, h1, h2⟩ => ⟨c, d, e, a.bound h1, b.bound h2⟩⟩

theorem add_block (a : Addr) (k : Nat) : (a.add k).block = a.block := by unfold Addr.add; split <;> rfl
theorem cellsAt_step {w w' : World} {a : Addr} (h : w'.heap[a.block]? = w.heap[a.block]?) : ∀ {vs : List Value} {k : Nat}, cellsAt w a k vs → cellsAt w' a k vs := by
  intro vs
  induction vs with
  | nil => intro k _; trivial
  | cons v r ih =>
    intro k hc
    refine ⟨?_, ih hc.2⟩
    exact (World.cell?_of_block (w := w) (by rw [add_block]; exact h)).trans hc.1
theorem add_add (a : Addr) (m k : Nat) : (a.add m).add k = a.add (m + k) := by
  unfold Addr.add
  by_cases h1 : m = 0
  · subst h1; simp
  · by_cases h2 : k = 0
    · subst h2; simp
    · have : m + k ≠ 0 := by omega
      simp [h1, h2, Nat.add_assoc]
/-- A slice stands for a list. -/
def slR {α : Type} (k : Ty α) (w : World) (ok : Nat → Prop) (v : Value) (xs : List α) : Prop :=
  ∃ A c, v = .slice A xs.length c ∧ xs.length ≤ c ∧ ((xs = [] ∧ (A = none → c = 0)) ∨ ∃ a, A = some a ∧ ok a.block ∧ a.block < w.heap.size ∧ ∀ (j : Nat) x, xs[j]? = some x → ∃ cs, k.R w ok x cs ∧ cellsAt w (a.add (j * k.sz)) 0 cs)
def tSl {α : Type} (k : Ty α) : Ty (List α) :=
  ⟨1, fun w ok xs cs => ∃ v, cs = [v] ∧ slR k w ok v xs,
   fun ⟨v, e, _⟩ => by subst e; rfl,
   fun ⟨v, e, A, c, hv, _⟩ u hu => by subst e; simp at hu; subst hu; subst hv; rfl,
   fun hk ⟨v, e, A, c, hv, hc, h⟩ => ⟨v, e, A, c, hv, hc, h.imp id fun ⟨a, h1, h2, h3, h4⟩ => ⟨a, h1, hk _ h2, h3, fun j x hx => let ⟨cs, g1, g2⟩ := h4 j x hx; ⟨cs, k.mono hk g1, g2⟩⟩⟩,
   fun {w w' ok xs cs} hk ⟨v, e, A, c, hv, hc, h⟩ => ⟨v, e, A, c, hv, hc, h.imp id fun ⟨a, h1, h2, h3, h4⟩ => ⟨a, h1, h2, by
      have := hk a.block h2 h3
      rw [Array.getElem?_eq_getElem h3] at this
      exact (Array.getElem?_eq_some_iff.1 this).1, fun j x hx => let ⟨cs, g1, g2⟩ := h4 j x hx; ⟨cs, k.step hk g1, cellsAt_step (by rw [add_block]; exact hk a.block h2 h3) g2⟩⟩⟩,
   fun ⟨v, e, A, c, hv, hc, h⟩ => ⟨v, e, A, c, hv, hc, h.imp id fun ⟨a, h1, h2, h3, h4⟩ => ⟨a, h1, ⟨h2, h3⟩, h3, fun j x hx => let ⟨cs, g1, g2⟩ := h4 j x hx; ⟨cs, k.bound g1, g2⟩⟩⟩⟩

/-! Data in the list of what is there. -/
def dR {α : Type} (k : Ty α) (x : α) (cs : List Value) : Dat := ⟨fun w ok => k.R w ok x cs, k.mono, k.step, k.bound⟩
/-- v stands for xs. -/
def dSl {α : Type} (k : Ty α) (v : Value) (xs : List α) : Dat := ⟨fun w ok => slR k w ok v xs,
  fun hk h => let ⟨v', e, h'⟩ := (tSl k).mono (cs := [v]) hk ⟨v, rfl, h⟩; by cases e; exact h',
  fun hk h => let ⟨v', e, h'⟩ := (tSl k).step (cs := [v]) hk ⟨v, rfl, h⟩; by cases e; exact h',
  fun h => let ⟨v', e, h'⟩ := (tSl k).bound (cs := [v]) ⟨v, rfl, h⟩; by cases e; exact h'⟩
/-- These cells stand at an address. -/
def dCells (a : Addr) (cs : List Value) : Dat := ⟨fun w ok => ok a.block ∧ a.block < w.heap.size ∧ cellsAt w a 0 cs,
  fun hk h => ⟨hk _ h.1, h.2.1, h.2.2⟩,
  fun {w w' ok} hk h => ⟨h.1, by
    have := hk a.block h.1 h.2.1
    rw [Array.getElem?_eq_getElem h.2.1] at this
    exact (Array.getElem?_eq_some_iff.1 this).1, cellsAt_step (hk a.block h.1 h.2.1) h.2.2⟩,
  fun h => ⟨⟨h.1, h.2.1⟩, h.2.1, h.2.2⟩⟩
/-- The cells of a row, one value behind the other. -/
def rowsR {α : Type} (k : Ty α) (w : World) (ok : Nat → Prop) : List α → List Value → Prop
  | [], cs => cs = []
  | x :: xs, cs => ∃ c d, cs = c ++ d ∧ k.R w ok x c ∧ rowsR k w ok xs d
theorem rowsR_mono {α : Type} {k : Ty α} {w : World} {ok ok' : Nat → Prop} (hk : ∀ b, ok b → ok' b) : ∀ {xs : List α} {cs : List Value}, rowsR k w ok xs cs → rowsR k w ok' xs cs := by
  intro xs
  induction xs with
  | nil => intro cs h; exact h
  | cons x xs ih => intro cs ⟨c, d, e, h1, h2⟩; exact ⟨c, d, e, k.mono hk h1, ih h2⟩
theorem rowsR_step {α : Type} {k : Ty α} {w w' : World} {ok : Nat → Prop} (hk : ∀ b, ok b → b < w.heap.size → w'.heap[b]? = w.heap[b]?) : ∀ {xs : List α} {cs : List Value}, rowsR k w ok xs cs → rowsR k w' ok xs cs := by
  intro xs
  induction xs with
  | nil => intro cs h; exact h
  | cons x xs ih => intro cs ⟨c, d, e, h1, h2⟩; exact ⟨c, d, e, k.step hk h1, ih h2⟩
theorem rowsR_bound {α : Type} {k : Ty α} {w : World} {ok : Nat → Prop} : ∀ {xs : List α} {cs : List Value}, rowsR k w ok xs cs → rowsR k w (fun b => ok b ∧ b < w.heap.size) xs cs := by
  intro xs
  induction xs with
  | nil => intro cs h; exact h
  | cons x xs ih => intro cs ⟨c, d, e, h1, h2⟩; exact ⟨c, d, e, k.bound h1, ih h2⟩
def dRows {α : Type} (k : Ty α) (xs : List α) (cs : List Value) : Dat := ⟨fun w ok => rowsR k w ok xs cs, fun hk h => rowsR_mono hk h, fun hk h => rowsR_step hk h, fun h => rowsR_bound h⟩
theorem rowsR_snoc {α : Type} {k : Ty α} {w : World} {ok : Nat → Prop} {x : α} {c : List Value} (hx : k.R w ok x c) : ∀ {xs : List α} {cs : List Value}, rowsR k w ok xs cs → rowsR k w ok (xs ++ [x]) (cs ++ c) := by
  intro xs
  induction xs with
  | nil => intro cs h; simp only [rowsR] at h; subst h; exact ⟨c, [], by simp, hx, rfl⟩
  | cons y xs ih => intro cs ⟨c', d, e, h1, h2⟩; subst e; exact ⟨c', d ++ c, by simp, h1, ih h2⟩
theorem rowsR_append {α : Type} {k : Ty α} {w : World} {ok : Nat → Prop} {ys : List α} {ds : List Value} (hy : rowsR k w ok ys ds) : ∀ {xs : List α} {cs : List Value}, rowsR k w ok xs cs → rowsR k w ok (xs ++ ys) (cs ++ ds) := by
  intro xs
  induction xs with
  | nil => intro cs h; simp only [rowsR] at h; subst h; exact hy
  | cons y xs ih => intro cs ⟨c', d, e, h1, h2⟩; subst e; exact ⟨c', d ++ ds, by simp, h1, ih h2⟩
theorem rowsR_length {α : Type} {k : Ty α} {w : World} {ok : Nat → Prop} : ∀ {xs : List α} {cs : List Value}, rowsR k w ok xs cs → cs.length = xs.length * k.sz := by
  intro xs
  induction xs with
  | nil => intro cs h; simp only [rowsR] at h; subst h; simp
  | cons y xs ih => intro cs ⟨c', d, e, h1, h2⟩; subst e; rw [List.length_append, k.len h1, ih h2, List.length_cons, Nat.succ_mul, Nat.add_comm]
theorem rowsR_one {α : Type} {k : Ty α} {w : World} {ok : Nat → Prop} : ∀ {xs : List α} {cs : List Value}, rowsR k w ok xs cs → ∀ v ∈ cs, oneV v = true := by
  intro xs
  induction xs with
  | nil => intro cs h; simp only [rowsR] at h; subst h; simp
  | cons y xs ih => intro cs ⟨c', d, e, h1, h2⟩ v hv; subst e; exact (List.mem_append.1 hv).elim (k.one h1 v) (ih h2 v)
theorem rowsR_get {α : Type} {k : Ty α} {w : World} {ok : Nat → Prop} : ∀ {xs : List α} {cs : List Value}, rowsR k w ok xs cs → ∀ (j : Nat) x, xs[j]? = some x → ∃ c, k.R w ok x c ∧ ∀ i v, c[i]? = some v → cs[j * k.sz + i]? = some v := by
  intro xs
  induction xs with
  | nil => intro cs h j x hx; simp at hx
  | cons y xs ih =>
    intro cs ⟨c', d, e, h1, h2⟩ j x hx
    subst e
    cases j with
    | zero =>
      simp at hx; subst hx
      refine ⟨c', h1, fun i v hv => ?_⟩
      rw [Nat.zero_mul, Nat.zero_add, List.getElem?_append_left (List.getElem?_eq_some_iff.1 hv).1]; exact hv
    | succ j =>
      simp at hx
      obtain ⟨c, g1, g2⟩ := ih h2 j x hx
      refine ⟨c, g1, fun i v hv => ?_⟩
      have hl := k.len h1
      rw [List.getElem?_append_right (by rw [hl, Nat.succ_mul]; omega), hl]
      have : (j + 1) * k.sz + i - k.sz = j * k.sz + i := by rw [Nat.succ_mul]; omega
      rw [this]; exact g2 i v hv

section
variable {P : Program} {w w0 : World} {K : Value → World → Prop} {g : Bool} {ok : Nat → Prop} {L : List Item} {α : Type}

/-- An element of a list that is there: its cells. -/
theorem Own.elem {k : Ty α} (H : Own ok w0 w L) (i : Nat) {v : Value} {xs : List α} (hi : L[i]? = some (.dat (dSl k v xs))) (j : Nat) (hj : j < xs.length) :
    ∃ a c cs, v = .slice (some a) xs.length c ∧ k.R w (okOf ok w0 L) xs[j] cs ∧ Own ok w0 w (.dat (dCells (a.add (j * k.sz)) cs) :: .dat (dR k xs[j] cs) :: L) := by
  obtain ⟨A, c, hv, hc, h⟩ := H.dat i hi
  rcases h with ⟨h, _⟩ | ⟨a, h1, h2, h3, h4⟩
  · subst h; simp at hj
  · subst h1
    obtain ⟨cs, g1, g2⟩ := h4 j xs[j] (List.getElem?_eq_getElem hj)
    exact ⟨a, c, cs, hv, g1, (H.addDat (dR k xs[j] cs) g1).addDat _ ⟨by rw [add_block]; exact h2, by rw [add_block]; exact h3, g2⟩⟩
theorem Own.sl {k : Ty α} (H : Own ok w0 w L) (i : Nat) {v : Value} {xs : List α} (hi : L[i]? = some (.dat (dSl k v xs))) : ∃ A c, v = .slice A xs.length c ∧ xs.length ≤ c := by
  obtain ⟨A, c, hv, hc, h⟩ := H.dat i hi
  exact ⟨A, c, hv, hc⟩

theorem cellsAt_get {a : Addr} : ∀ {vs : List Value} {k j : Nat} {v : Value}, cellsAt w a k vs → vs[j]? = some v → w.cell? (a.add (k + j)) = some v := by
  intro vs
  induction vs with
  | nil => intro k j v _ h; simp at h
  | cons x r ih =>
    intro k j v hc h
    cases j with
    | zero => simp at h; subst h; exact hc.1
    | succ j =>
      simp at h
      have := ih hc.2 h
      rwa [show k + 1 + j = k + (j + 1) by omega] at this
theorem cellsAt_of {a : Addr} : ∀ {vs : List Value} {k : Nat}, (∀ j v, vs[j]? = some v → w.cell? (a.add (k + j)) = some v) → cellsAt w a k vs := by
  intro vs
  induction vs with
  | nil => intro k _; trivial
  | cons x r ih =>
    intro k h
    refine ⟨h 0 x rfl, ih fun j v hj => ?_⟩
    have := h (j + 1) v (by simpa using hj)
    rwa [show k + (j + 1) = k + 1 + j by omega] at this
theorem cellsAt_sub {a : Addr} {cs vs : List Value} {off m : Nat} (hc : cellsAt w a 0 cs) (hv : (cs.drop off).take m = vs) : cellsAt w (a.add off) 0 vs := by
  refine cellsAt_of fun j v hj => ?_
  subst hv
  rw [List.getElem?_take] at hj
  split at hj
  · rw [List.getElem?_drop] at hj
    have := cellsAt_get hc hj
    rw [Nat.zero_add] at this
    rw [add_add, Nat.zero_add]; exact this
  · cases hj

/-! Reading cells that are there. -/
theorem own_loadD {t : TypeId} {a : Addr} {cs : List Value} {v : Value} (H : Own ok w0 w L) (i : Nat) (hi : L[i]? = some (.dat (dCells a cs))) (j : Nat) (ha : aggB P t = some false) (hj : cs[j]? = some v) (hk : K v w) : nLoad P g t (.pointer (some (a.add j))) w K :=
  load_rule ha (fun _ => by have := cellsAt_get (H.dat i hi).2.2 hj; rwa [Nat.zero_add] at this) hk
theorem own_loadDA {t : TypeId} {a : Addr} {cs : List Value} {m : Nat} (H : Own ok w0 w L) (i : Nat) (hi : L[i]? = some (.dat (dCells a cs))) (off : Nat) (ha : aggB P t = some true) (hs : sizeB P t = some m) (vs : List Value) (hv : (cs.drop off).take m = vs) (hl : vs.length = m) (hk : K (.agg vs.toArray) w) : nLoad P g t (.pointer (some (a.add off))) w K :=
  loadA_rule vs ha hs hl (fun _ => cellsAt_sub (H.dat i hi).2.2 hv) hk

/-! Where an element lies; a byte of a text; parts of slices and texts. -/
def sliceB (P : Program) (t : TypeId) : Option TypeId := match P.underlying t with | some (.slice e) => some e | _ => none
theorem run_underlying_slice {t e : TypeId} (h : sliceB P t = some e) : (underlying t).run P w = .ok (.slice e) w := by
  unfold sliceB at h
  split at h
  · rename_i hu; cases h; simp [underlying, program, Sem.run, hu]
  · cases h
theorem indexAddr_run {t e : TypeId} {sz : Nat} {a : Addr} {n c : Nat} {kk : IntKind} {i : Nat} (ht : sliceB P t = some e) (hs : sizeB P e = some sz) (hi : i < n) : (Instr.indexAt t (.slice (some a) n c) (.int kk (i : Int))).run P w = .ok (.pointer (some (a.add (i * sz)))) w := by
  have h1 : (0 : Int) ≤ (i : Int) ∧ (i : Int) < (n : Int) := ⟨by omega, by omega⟩
  simp only [Instr.indexAt, asIntOf, Sem.run_bind, Sem.run_pure, Result.andThen_ok, run_underlying_slice ht, h1, and_self, if_true, run_sizeOf hs, Int.toNat_natCast]
theorem indexAddr_rule {t e : TypeId} (sz : Nat) {a : Addr} {n c : Nat} {kk : IntKind} (i : Nat) (ht : sliceB P t = some e) (hs : sizeB P e = some sz) (hi : g = true → i < n) (hk : K (.pointer (some (a.add (i * sz)))) w) : nIndexAddr P g t (.slice (some a) n c) (.int kk (i : Int)) w K := by
  unfold nIndexAddr
  exact nOp_now (fun hg => sv_run (indexAddr_run ht hs (hi hg))) hk

def strB (P : Program) (t : TypeId) : Bool := match P.underlying t with | some .string => true | _ => false
theorem run_underlying_str {t : TypeId} (h : strB P t = true) : (underlying t).run P w = .ok .string w := by
  unfold strB at h
  split at h
  · rename_i hu; simp [underlying, program, Sem.run, hu]
  · cases h
theorem bs_size (l : List UInt8) : (bs l).size = l.length := by simp [bs, ByteArray.size]
theorem bs_get (l : List UInt8) (i : Nat) : (bs l)[i]? = l[i]? := by
  by_cases h : i < l.length
  · have h' : i < (bs l).size := by rw [bs_size]; exact h
    rw [getElem?_pos (bs l) i h', List.getElem?_eq_getElem h]
    simp [bs, ByteArray.getElem_eq_getElem_data]
  · have h' : ¬ i < (bs l).size := by rw [bs_size]; exact h
    rw [getElem?_neg (bs l) i h', List.getElem?_eq_none (by omega)]
theorem index_run {t : TypeId} {l : List UInt8} {kk : IntKind} {i : Nat} {b : UInt8} (ht : strB P t = true) (hb : l[i]? = some b) : (Instr.index t (.string (bs l)) (.int kk (i : Int))).run P w = .ok (.int .u8 b.toNat) w := by
  have h1 : (0 : Int) ≤ (i : Int) := by omega
  simp only [Instr.index, asIntOf, Sem.run_bind, Sem.run_pure, Result.andThen_ok, run_underlying_str ht, h1, if_true, Int.toNat_natCast, bs_get, hb]
theorem index_rule {t : TypeId} {l : List UInt8} {kk : IntKind} (i : Nat) (b : UInt8) (ht : strB P t = true) (hb : g = true → l[i]? = some b) (hk : K (.int .u8 b.toNat) w) : nIndex P g t (.string (bs l)) (.int kk (i : Int)) w K := by
  unfold nIndex
  exact nOp_now (fun hg => sv_run (index_run ht (hb hg))) hk
end

/-! The same where the order is open. -/
section
variable {P : Program} {w0 : World} {g : Bool} {ok : Nat → Prop} {L : List Item} {α : Type} {C : World → Prop} {KF : Value → Prop} {KE : Value → List Item → Prop}

theorem c_load {t t' : TypeId} {b j : Nat} {cs : List Value} {v : Value} (i : Nat) (hi : L[i]? = some (.blk b cs t')) (ha : aggB P t = some false) (hj : cs[j]? = some v) (hk : KF v) : cLoad P g t (.pointer (some ⟨b, j, none⟩)) (fun w => Own ok w0 w L) KF := by
  unfold cLoad
  exact cFloat_in v (fun _ w H => sv_run (load1_run ha (H.cell i hi j hj))) hk
theorem c_loadA {t t' : TypeId} {b off m : Nat} {cs : List Value} (i : Nat) (hi : L[i]? = some (.blk b cs t')) (ha : aggB P t = some true) (hs : sizeB P t = some m) (vs : List Value) (hv : (cs.drop off).take m = vs) (hl : vs.length = m) (hk : KF (.agg vs.toArray)) : cLoad P g t (.pointer (some ⟨b, off, none⟩)) (fun w => Own ok w0 w L) KF := by
  unfold cLoad
  refine cFloat_in _ (fun _ w H => sv_run (loadA_run ha hs hl (cellsAt_blk (H.blk i hi) off vs 0 fun j v hj => ?_))) hk
  subst hv
  rw [List.getElem?_take] at hj
  split at hj
  · simpa using hj
  · cases hj
theorem c_loadD {t : TypeId} {a : Addr} {cs : List Value} {v : Value} (i : Nat) (hi : L[i]? = some (.dat (dCells a cs))) (j : Nat) (ha : aggB P t = some false) (hj : cs[j]? = some v) (hk : KF v) : cLoad P g t (.pointer (some (a.add j))) (fun w => Own ok w0 w L) KF := by
  unfold cLoad
  exact cFloat_in v (fun _ w H => sv_run (load1_run ha (by have := cellsAt_get (H.dat i hi).2.2 hj; rwa [Nat.zero_add] at this))) hk
theorem c_loadDA {t : TypeId} {a : Addr} {cs : List Value} {m : Nat} (i : Nat) (hi : L[i]? = some (.dat (dCells a cs))) (off : Nat) (ha : aggB P t = some true) (hs : sizeB P t = some m) (vs : List Value) (hv : (cs.drop off).take m = vs) (hl : vs.length = m) (hk : KF (.agg vs.toArray)) : cLoad P g t (.pointer (some (a.add off))) (fun w => Own ok w0 w L) KF := by
  unfold cLoad
  exact cFloat_in _ (fun _ w H => sv_run (loadA_run ha hs hl (cellsAt_sub (H.dat i hi).2.2 hv))) hk
theorem c_indexAddr {t e : TypeId} (sz : Nat) {a : Addr} {n c : Nat} {kk : IntKind} (i : Nat) (ht : sliceB P t = some e) (hs : sizeB P e = some sz) (hi : g = true → i < n) (hk : KF (.pointer (some (a.add (i * sz))))) : cIndexAddr P g t (.slice (some a) n c) (.int kk (i : Int)) C KF := by
  unfold cIndexAddr
  exact cFloat_in _ (fun hg w _ => sv_run (indexAddr_run ht hs (hi hg))) hk
/-- A call that hands back a known value and leaves all as it was. -/
theorem c_call {f : FuncId} {args : List Value} (v : Value) (hb : bodyB P f = true) (hc : g = true → ∀ w, Own ok w0 w L → Calls P f args.toArray w fun e w' => ∃ u, e = .returned u ∧ u = v ∧ Bel w.heap.size w w') (hk : KE v L) : cCall P g f args ok w0 L KE := by
  unfold cCall
  refine cEv_in ⟨fun u L' => u = v ∧ L' = L, fun _ u L' h => by rw [h.2]; exact List.Sublist.refl _, fun w H => ⟨fun hg => ?_, fun _ => ⟨v, L, ⟨rfl, rfl⟩, H⟩⟩, fun u L' h _ => by rw [h.1, h.2]; exact hk⟩
  rw [run_callFunc hb]
  refine Calls.mono (hc hg w H) fun e w' ⟨u, he, hu, hbel⟩ => ?_
  subst he
  exact ⟨L, ⟨hu, rfl⟩, H.call hbel⟩
/-- .. that hands back new data. -/
theorem c_callDat {f : FuncId} {args : List Value} (D : Value → Dat) (Q : Value → Prop) (hb : bodyB P f = true) (hc : ∀ w, Own ok w0 w L → Calls P f args.toArray w fun e w' => ∃ u, e = .returned u ∧ Q u ∧ (D u).φ w' (fun b => okOf ok w0 L b ∨ w.heap.size ≤ b) ∧ Bel w.heap.size w w') (hk : ∀ v, Q v → KE v (.dat (D v) :: L)) : cCall P true f args ok w0 L KE := by
  unfold cCall
  refine cEv_in ⟨fun u L' => Q u ∧ L' = .dat (D u) :: L, fun _ u L' h => by rw [h.2]; exact List.sublist_cons_self _ _, fun w H => ⟨fun hg => ?_, fun h => by cases h⟩, fun u L' h _ => by rw [h.2]; exact hk u h.1⟩
  rw [run_callFunc hb]
  refine Calls.mono (hc w H) fun e w' ⟨u, he, hu, hd, hbel⟩ => ?_
  subst he
  exact ⟨_, ⟨hu, rfl⟩, H.callDat hbel (D u) hd⟩
end
end Go.Eng
