/- The engine's rules for memory: what a call owns stands in one list; each effect hands the list on. Proved once, over any program. -/
import Derived.Test.YtipoblinefamgaaEng
import Derived.WalkSmall
set_option linter.unusedVariables false
set_option linter.unusedSimpArgs false
namespace Go.Eng
open Go.RowKit

/-- Does the frame tell that no draw is taken back? (Sorts with a comparator want it; a contract of the kit may not tell it.) -/
structure Keep where
  b : Bool
set_option linter.unusedSectionVars false
variable [Inhabited Keep]
/-- Below a bound nothing has turned; no draw is taken back, where that is kept. -/
structure Bel (B : Nat) (w w' : World) : Prop extends Below B w w' where
  drawn : (default : Keep).b = true → w.drawn ≤ w'.drawn
theorem Bel.refl (B : Nat) (w : World) : Bel B w w := ⟨Below.refl B w, fun _ => Nat.le_refl _⟩
theorem Bel.trans {B : Nat} {a b c : World} (h : Bel B a b) (k : Bel B b c) : Bel B a c := ⟨h.toBelow.trans k.toBelow, fun q => Nat.le_trans (h.drawn q) (k.drawn q)⟩
theorem Bel.mono {B B' : Nat} {w w' : World} (h : Bel B w w') (hB : B' ≤ B) : Bel B' w w' := ⟨h.toBelow.mono hB, h.drawn⟩
theorem Bel.drew {B : Nat} {a w : World} (h : Bel B a w) : Bel B a w.drew := ⟨h.toBelow.drew, fun q => Nat.le_trans (h.drawn q) (Nat.le_succ _)⟩
theorem Bel.alloc {B : Nat} {a w : World} (h : Bel B a w) (hB : B ≤ w.heap.size) (o : Obj) : Bel B a (w.alloc o) := ⟨h.toBelow.alloc hB o, h.drawn⟩
theorem Bel.setCell {B : Nat} {a w : World} (h : Bel B a w) {p : Addr} (hp : B ≤ p.block) (u : Value) : Bel B a (w.setCell p u) := ⟨h.toBelow.setCell hp u, h.drawn⟩
theorem Bel.grown {B : Nat} {a w w' : World} {row : Option Nat} (h : Bel B a w) (hg : w.grownBy w' row) (hd : w.drawn ≤ w'.drawn) (hB : B ≤ w.heap.size) (hr : ∀ k, row = some k → B ≤ k) : Bel B a w' := ⟨h.toBelow.grown hg hB hr, fun q => Nat.le_trans (h.drawn q) hd⟩

theorem ask_drawn {α : Type} : ∀ (s : Ask α) (w : World), w.drawn ≤ (w.ask s).2.drawn := by
  intro s
  induction s with
  | done a => intro w; exact Nat.le_refl _
  | ask what range k ih =>
    intro w
    simp only [World.ask]
    split
    · exact ih _ w
    · exact Nat.le_trans (Nat.le_succ w.drawn) (ih ((Question.extern what range).cut (w.tape w.drawn (Question.extern what range))) ({ w with drawn := w.drawn + 1 } : World))
theorem farStore_drawn {P : Program} {w w' : World} {a : Addr} {v : Value} {b : Bool} {l : List Addr} (h : w.farStore P a v b = .ok (w', l)) : w'.drawn = w.drawn := by
  unfold World.farStore at h
  split at h
  · split at h
    · rename_i r hr
      cases h
      unfold World.viewStore at hr
      simp only [bind, Except.bind, pure, Except.pure, throw, throwThe, MonadExceptOf.throw] at hr
      repeat' split at hr
      all_goals first | (cases hr; done) | (cases hr; rfl)
    · cases h
  · cases h
/-- No draw is taken back. -/
theorem run_drawn {P : Program} {α : Type} : ∀ {s : Sem α} {w w' : World} {a : α}, s.run P w = .ok a w' → w.drawn ≤ w'.drawn := by
  intro s
  induction s with
  | pure a => intro w w' x h; simp only [Sem.run] at h; cases h; exact Nat.le_refl _
  | load m a k ih =>
    intro w w' x h
    simp only [Sem.run] at h
    split at h
    · exact ih _ h
    · split at h
      · exact ih _ h
      · cases h
  | store m a v k ih =>
    intro w w' x h
    cases v
    case agg => simp [Sem.run] at h
    case tuple => simp [Sem.run] at h
    all_goals
      simp only [Sem.run] at h
      split at h
      · split at h
        · cases h
        · have := ih h; exact this
      · split at h
        · rename_i hf
          have := ih h
          rw [farStore_drawn hf] at this
          exact this
        · cases h
  | new o k ih => intro w w' x h; simp only [Sem.run] at h; have := ih _ h; exact this
  | shape r k ih => intro w w' x h; simp only [Sem.run] at h; exact ih _ h
  | freeze a n k ih =>
    intro w w' x h
    simp only [Sem.run] at h
    have := ih h
    unfold World.freeze at this
    split at this <;> exact this
  | frozen a k ih => intro w w' x h; simp only [Sem.run] at h; exact ih _ h
  | getObj r k ih =>
    intro w w' x h
    simp only [Sem.run] at h
    split at h
    · cases h
    · exact ih _ h
    · cases h
  | setObj r o k ih =>
    intro w w' x h
    simp only [Sem.run] at h
    split at h
    · cases h
    · have := ih h; exact this
    · cases h
  | choose q k ih =>
    intro w w' x h
    simp only [Sem.run] at h
    split at h
    · exact ih _ h
    · have := ih _ h; exact Nat.le_trans (Nat.le_succ _) this
  | sys c k ih =>
    intro w w' x h
    simp only [Sem.run] at h
    have h3 := ih _ h
    refine Nat.le_trans ?_ h3
    unfold World.sys
    have := ask_drawn (Kernel.perform c w.os) w
    split
    · exact Nat.le_refl _
    · rename_i h2; rw [h2] at this; exact this
  | program k ih => intro w w' x h; simp only [Sem.run] at h; exact ih _ h
  | mark m k ih => intro w w' x h; simp only [Sem.run] at h; exact ih h
  | halt x => intro w w' x h; simp [Sem.run] at h

/-- What lies in memory and is never written again: it is said over a set of blocks that it may hang on. -/
structure Dat where
  φ : World → (Nat → Prop) → Prop
  mono : ∀ {w ok ok'}, (∀ b, ok b → ok' b) → φ w ok → φ w ok'
  step : ∀ {w w' : World} {ok}, (∀ b, ok b → b < w.heap.size → w'.heap[b]? = w.heap[b]?) → φ w ok → φ w' ok
  bound : ∀ {w : World} {ok}, φ w ok → φ w (fun b => ok b ∧ b < w.heap.size)

/-- A row of the call's own; it may begin inside its block. -/
def qRow (w : World) (e : TypeId) (size : Nat) (v : Value) (n : Nat) (xs : List Value) : Prop :=
  xs.length = n * size ∧
  ((n = 0 ∧ ∃ A, v = .slice A 0 0 ∧ ∀ a, A = some a → a.spot = none ∧ ∃ cur, w.heap[a.block]? = some (.cells cur e (0, 0))) ∨
   ∃ g off cap cur, v = .slice (some ⟨g, off * size, none⟩) n cap ∧ w.heap[g]? = some (.cells cur e (0, 0)) ∧ n ≤ cap ∧ off + cap ≤ maxLen ∧ cur.size = (off + cap) * size ∧ (cur.toList.drop (off * size)).take (n * size) = xs)
theorem qRow_of {w : World} {base : Nat} {e : TypeId} {size : Nat} {v : Value} {n : Nat} {xs : List Value} (h : w.ownsRow base e size v n xs) : qRow w e size v n xs := by
  refine ⟨h.1, ?_⟩
  rcases h.2 with ⟨hv, h0⟩ | ⟨g, cap, cur, hv, _, hh, hnc, hcm, hcs, ht⟩
  · subst h0; exact .inl ⟨rfl, none, hv, fun a ha => by cases ha⟩
  · exact .inr ⟨g, 0, cap, cur, by rw [Nat.zero_mul]; exact hv, hh, hnc, by omega, by rw [Nat.zero_add]; exact hcs, by rw [Nat.zero_mul, List.drop_zero]; exact ht⟩
theorem qRow.lt {w : World} {e : TypeId} {size : Nat} {v : Value} {n : Nat} {xs : List Value} (h : qRow w e size v n xs) : ∀ k, v.ownBlock = some k → k < w.heap.size := by
  intro k hk
  rcases h.2 with ⟨_, A, hv, hA⟩ | ⟨g, off, cap, cur, hv, hh, _⟩
  · subst hv
    cases A with
    | none => cases hk
    | some a =>
      have : a.block = k := Option.some.inj hk
      subst this
      obtain ⟨_, cur, hc⟩ := hA a rfl
      exact (Array.getElem?_eq_some_iff.1 hc).1
  · subst hv
    have : g = k := Option.some.inj hk
    subst this
    exact (Array.getElem?_eq_some_iff.1 hh).1
theorem qRow.move {w w' : World} {e : TypeId} {size : Nat} {v : Value} {n : Nat} {xs : List Value} (h : qRow w e size v n xs) (hm : ∀ k, v.ownBlock = some k → w'.heap[k]? = w.heap[k]?) : qRow w' e size v n xs := by
  refine ⟨h.1, ?_⟩
  rcases h.2 with ⟨h0, A, hv, hA⟩ | ⟨g, off, cap, cur, hv, hh, r⟩
  · refine .inl ⟨h0, A, hv, fun a ha => ?_⟩
    obtain ⟨hs, cur, hc⟩ := hA a ha
    exact ⟨hs, cur, (hm a.block (by rw [hv, ha]; rfl)).trans hc⟩
  · exact .inr ⟨g, off, cap, cur, hv, (hm g (by rw [hv]; rfl)).trans hh, r⟩

/-- Several things, held as one: on which blocks they stand, and what is so. -/
structure Bag where
  m : List Nat
  φ : World → (Nat → Prop) → Prop
  lt : ∀ {w ok}, φ w ok → ∀ g ∈ m, g < w.heap.size
  step : ∀ {w w' : World} {ok ok' : Nat → Prop}, φ w ok → (∀ g ∈ m, w'.heap[g]? = w.heap[g]?) → (∀ b, ok b → b < w.heap.size → w'.heap[b]? = w.heap[b]?) → (∀ b, ok b → b < w.heap.size → ok' b) → φ w' ok'

inductive Item where
  | blk (g : Nat) (cs : List Value) (t : TypeId)
  | row (v : Value) (e : TypeId) (sz n : Nat) (xs : List Value)
  | dat (d : Dat)
  | obj (g : Nat) (φ : Obj → Prop)
  | bag (B : Bag)

def Item.muts : Item → List Nat
  | .blk g _ _ => [g]
  | .row v _ _ _ _ => v.ownBlock.toList
  | .dat _ => []
  | .obj g _ => [g]
  | .bag B => B.m
def Item.holds (w : World) (ok : Nat → Prop) : Item → Prop
  | .blk g cs t => w.heap[g]? = some (.cells cs.toArray t (0, 0))
  | .row v e sz n xs => qRow w e sz v n xs
  | .dat d => d.φ w ok
  | .obj g φ => ∃ o, w.heap[g]? = some o ∧ φ o
  | .bag B => B.φ w ok

def muts (L : List Item) : List Nat := L.flatMap Item.muts
def okOf (ok : Nat → Prop) (w0 : World) (L : List Item) (b : Nat) : Prop := (ok b ∨ w0.heap.size ≤ b) ∧ b ∉ muts L

structure Own (ok : Nat → Prop) (w0 w : World) (L : List Item) : Prop where
  below : Bel w0.heap.size w0 w
  nd : (muts L).Nodup
  ge : ∀ g ∈ muts L, w0.heap.size ≤ g
  all : ∀ it ∈ L, it.holds w (okOf ok w0 L)

theorem Item.holds_lt {w : World} {ok : Nat → Prop} {it : Item} (h : it.holds w ok) : ∀ g ∈ it.muts, g < w.heap.size := by
  cases it with
  | blk g cs t => intro x hx; simp [Item.muts] at hx; subst hx; exact (Array.getElem?_eq_some_iff.1 h).1
  | row v e sz n xs =>
    intro x hx
    simp only [Item.muts, Option.mem_toList] at hx
    exact qRow.lt h x hx
  | dat d => intro x hx; simp [Item.muts] at hx
  | obj g φ => intro x hx; simp [Item.muts] at hx; subst hx; obtain ⟨o, ho, _⟩ := h; exact (Array.getElem?_eq_some_iff.1 ho).1
  | bag B => exact B.lt h

theorem mem_muts {L : List Item} {g : Nat} : g ∈ muts L ↔ ∃ it ∈ L, g ∈ it.muts := by simp [muts]
theorem Own.lt {ok : Nat → Prop} {w0 w : World} {L : List Item} (h : Own ok w0 w L) : ∀ g ∈ muts L, g < w.heap.size := by
  intro g hg
  obtain ⟨it, hi, hm⟩ := mem_muts.1 hg
  exact Item.holds_lt (h.all it hi) g hm

/-- An item stands on, if its own block does, and those that it may hang on. -/
theorem Item.holds_step {w w' : World} {ok ok' : Nat → Prop} {it : Item} (h : it.holds w ok) (hm : ∀ g ∈ it.muts, w'.heap[g]? = w.heap[g]?)
    (hd : ∀ b, ok b → b < w.heap.size → w'.heap[b]? = w.heap[b]?) (hk : ∀ b, ok b → b < w.heap.size → ok' b) : it.holds w' ok' := by
  cases it with
  | blk g cs t => exact (hm g (by simp [Item.muts])).trans h
  | row v e sz n xs =>
    exact qRow.move h (fun k hk => hm k (by simp [Item.muts, hk]))
  | dat d => exact d.mono (fun b hb => hk b hb.1 hb.2) (d.step (fun b hb hlt => hd b hb.1 hlt) (d.bound h))
  | obj g φ => obtain ⟨o, ho, hp⟩ := h; exact ⟨o, (hm g (by simp [Item.muts])).trans ho, hp⟩
  | bag B => exact B.step h hm hd hk

/-- From one world and list to another: what is still there is as it was; what is new is given. -/
theorem Own.move {ok : Nat → Prop} {w0 w w' : World} {L L' : List Item} (h : Own ok w0 w L) (hb : Bel w0.heap.size w0 w') (hsz : w.heap.size ≤ w'.heap.size) (hnd : (muts L').Nodup)
    (hge : ∀ g ∈ muts L', g ∈ muts L ∨ w.heap.size ≤ g)
    (hold : ∀ b, (b ∉ muts L') → b < w.heap.size → b ∉ muts L → w'.heap[b]? = w.heap[b]?)
    (hall : ∀ it ∈ L', (it ∈ L ∧ ∀ g ∈ it.muts, w'.heap[g]? = w.heap[g]?) ∨ it.holds w' (okOf ok w0 L')) : Own ok w0 w' L' := by
  have hw : w0.heap.size ≤ w.heap.size := h.below.size
  refine ⟨hb, hnd, fun g hg => ?_, fun it hi => ?_⟩
  · rcases hge g hg with k | k
    · exact h.ge g k
    · omega
  · rcases hall it hi with ⟨hin, hm⟩ | k
    · refine Item.holds_step (h.all it hin) hm (fun b hb hlt => hold b (fun hm' => ?_) hlt hb.2) (fun b hb hlt => ⟨hb.1, fun hm' => ?_⟩)
      · rcases hge b hm' with k | k
        · exact hb.2 k
        · omega
      · rcases hge b hm' with k | k
        · exact hb.2 k
        · omega
    · exact k

theorem Own.start {ok : Nat → Prop} {w : World} {ds : List Dat} (hok : ∀ d ∈ ds, d.φ w ok) : Own ok w w (ds.map .dat) := by
  have hm : muts (ds.map Item.dat) = [] := by simp [muts, Item.muts]
  refine ⟨Bel.refl _ _, by rw [hm]; exact List.nodup_nil, by rw [hm]; simp, fun it hi => ?_⟩
  obtain ⟨d, hd, rfl⟩ := List.mem_map.1 hi
  exact d.mono (fun b hb => ⟨.inl hb, by rw [hm]; simp⟩) (hok d hd)

theorem Own.nil (ok : Nat → Prop) (w : World) : Own ok w w [] := Own.start (ds := []) (by simp)

/-- Of what was there before nothing has turned. -/
theorem Own.frame {ok : Nat → Prop} {w0 w : World} {L : List Item} (h : Own ok w0 w L) : Bel w0.heap.size w0 w := h.below

theorem Own.drew {ok : Nat → Prop} {w0 w : World} {L : List Item} (h : Own ok w0 w L) : Own ok w0 w.drew L :=
  h.move h.below.drew (Nat.le_refl _) h.nd (fun g hg => .inl hg) (fun _ _ _ _ => rfl) (fun it hi => .inl ⟨hi, fun _ _ => rfl⟩)

theorem Own.fresh {ok : Nat → Prop} {w0 w : World} {L : List Item} (h : Own ok w0 w L) : w.heap.size ∉ muts L := fun k => Nat.lt_irrefl _ (h.lt _ k)

theorem Own.alloc {ok : Nat → Prop} {w0 w : World} {L : List Item} (h : Own ok w0 w L) (cs : List Value) (t : TypeId) : Own ok w0 (w.alloc (.cells cs.toArray t)) (.blk w.heap.size cs t :: L) := by
  have hw : w0.heap.size ≤ w.heap.size := h.below.size
  refine h.move (h.below.alloc hw _) (by simp) ?_ (fun g hg => ?_) (fun b _ hlt _ => Below.heap_alloc _ _ _ hlt) (fun it hi => ?_)
  · show (w.heap.size :: muts L).Nodup
    exact List.nodup_cons.2 ⟨h.fresh, h.nd⟩
  · rcases List.mem_cons.1 (show g ∈ w.heap.size :: muts L from hg) with k | k
    · exact .inr (by omega)
    · exact .inl k
  · rcases List.mem_cons.1 hi with k | k
    · subst k; exact .inr (heap_alloc_new w _)
    · exact .inl ⟨k, fun g hg => Below.heap_alloc _ _ _ (h.lt g (mem_muts.2 ⟨it, k, hg⟩))⟩

/-- A call that leaves all that was there as it was. -/
theorem Own.call {ok : Nat → Prop} {w0 w w' : World} {L : List Item} (h : Own ok w0 w L) (hb : Bel w.heap.size w w') : Own ok w0 w' L :=
  h.move (h.below.trans (hb.mono h.below.size)) hb.size h.nd (fun g hg => .inl hg) (fun b _ hlt _ => hb.block b hlt) (fun it hi => .inl ⟨hi, fun g hg => hb.block g (h.lt g (mem_muts.2 ⟨it, hi, hg⟩))⟩)

/-- .. and hands back something new. -/
theorem Own.callDat {ok : Nat → Prop} {w0 w w' : World} {L : List Item} (h : Own ok w0 w L) (hb : Bel w.heap.size w w') (d : Dat) (hd : d.φ w' (fun b => okOf ok w0 L b ∨ w.heap.size ≤ b)) : Own ok w0 w' (.dat d :: L) := by
  have h' := h.call hb
  refine ⟨h'.below, h'.nd, h'.ge, fun it hi => ?_⟩
  have he : okOf ok w0 (.dat d :: L) = okOf ok w0 L := rfl
  rw [he]
  rcases List.mem_cons.1 hi with k | k
  · subst k
    refine d.mono (fun b hb => ?_) hd
    rcases hb with hb | hb
    · exact hb
    · exact ⟨.inr (by have := h.below.size; omega), fun k => by have := h.lt b k; omega⟩
  · exact h'.all it k

/-- A datum that is reckoned of what is there. -/
theorem Own.addDat {ok : Nat → Prop} {w0 w : World} {L : List Item} (h : Own ok w0 w L) (d : Dat) (hd : d.φ w (okOf ok w0 L)) : Own ok w0 w (.dat d :: L) :=
  ⟨h.below, h.nd, h.ge, fun it hi => by
    rcases List.mem_cons.1 hi with k | k
    · subst k; exact hd
    · exact h.all it k⟩

/-- Items may be forgotten, and stand in another order. -/
theorem Own.sub {ok : Nat → Prop} {w0 w : World} {L L' : List Item} (h : Own ok w0 w L) (hs : ∀ it ∈ L', it ∈ L) (hnd : (muts L').Nodup) : Own ok w0 w L' := by
  have hm : ∀ g ∈ muts L', g ∈ muts L := fun g hg => by
    obtain ⟨it, hi, hg⟩ := mem_muts.1 hg
    exact mem_muts.2 ⟨it, hs it hi, hg⟩
  exact h.move h.below (Nat.le_refl _) hnd (fun g hg => .inl (hm g hg)) (fun _ _ _ _ => rfl) (fun it hi => .inl ⟨hs it hi, fun _ _ => rfl⟩)
theorem muts_sublist {L L' : List Item} (h : L'.Sublist L) : (muts L').Sublist (muts L) := by
  induction h with
  | slnil => exact List.Sublist.refl _
  | cons a _ ih => simp only [muts, List.flatMap_cons] at ih ⊢; exact ih.trans (List.sublist_append_right _ _)
  | cons_cons a _ ih => simp only [muts, List.flatMap_cons] at ih ⊢; exact (List.Sublist.refl _).append ih
theorem Own.less {ok : Nat → Prop} {w0 w : World} {L L' : List Item} (h : Own ok w0 w L) (hs : L'.Sublist L) : Own ok w0 w L' :=
  h.sub (fun it hi => hs.subset hi) ((muts_sublist hs).nodup h.nd)
theorem Own.tail {ok : Nat → Prop} {w0 w : World} {L : List Item} {x : Item} (h : Own ok w0 w (x :: L)) : Own ok w0 w L := h.less (List.sublist_cons_self _ _)

theorem Own.at {ok : Nat → Prop} {w0 w : World} {L : List Item} (h : Own ok w0 w L) {i : Nat} {it : Item} (hi : L[i]? = some it) : it.holds w (okOf ok w0 L) := h.all it (List.mem_of_getElem? hi)
theorem Own.blk {ok : Nat → Prop} {w0 w : World} {L : List Item} (h : Own ok w0 w L) (i : Nat) {g : Nat} {cs : List Value} {t : TypeId} (hi : L[i]? = some (.blk g cs t)) : w.heap[g]? = some (.cells cs.toArray t (0, 0)) := h.at hi
theorem Own.dat {ok : Nat → Prop} {w0 w : World} {L : List Item} (h : Own ok w0 w L) (i : Nat) {d : Dat} (hi : L[i]? = some (.dat d)) : d.φ w (okOf ok w0 L) := h.at hi
theorem Own.cell {ok : Nat → Prop} {w0 w : World} {L : List Item} (h : Own ok w0 w L) (i : Nat) {g : Nat} {cs : List Value} {t : TypeId} (hi : L[i]? = some (.blk g cs t)) (j : Nat) {v : Value} (hj : cs[j]? = some v) : w.cell? ⟨g, j, none⟩ = some v := by
  rw [cell_of_row w g j cs.toArray t (0, 0) (h.blk i hi)]; simpa using hj
theorem Own.free {ok : Nat → Prop} {w0 w : World} {L : List Item} (h : Own ok w0 w L) (i : Nat) {g : Nat} {cs : List Value} {t : TypeId} (hi : L[i]? = some (.blk g cs t)) (j : Nat) : w.frozen? ⟨g, j, none⟩ = false := by
  simp [World.frozen?, h.blk i hi]

theorem muts_split (A B : List Item) : muts (A ++ B) = muts A ++ muts B := by simp [muts]

/-- An item that stands on one block is another one on that block. -/
theorem Own.setOne {ok : Nat → Prop} {w0 w w' : World} {A B : List Item} {g : Nat} {x y : Item} (hx : x.muts = [g]) (hy : y.muts = [g]) (h : Own ok w0 w (A ++ x :: B)) (hb : Bel w0.heap.size w0 w') (hsz : w'.heap.size = w.heap.size)
    (hg : ∀ ok', y.holds w' ok') (ho : ∀ k, k ≠ g → w'.heap[k]? = w.heap[k]?) : Own ok w0 w' (A ++ y :: B) := by
  have hm : muts (A ++ y :: B) = muts (A ++ x :: B) := by simp [muts, hx, hy]
  have hnd := h.nd
  have hgm : g ∈ muts (A ++ x :: B) := by simp [muts, hx]
  refine h.move hb (by omega) (by rw [hm]; exact hnd) (fun x hx => .inl (by rw [← hm]; exact hx)) (fun b hb _ _ => ho b (fun e => hb (by rw [hm, e]; exact hgm))) (fun it hi => ?_)
  rw [muts_split] at hnd
  simp only [muts, List.flatMap_cons, hx, List.cons_append, List.nil_append] at hnd
  rcases List.mem_append.1 hi with k | k
  · refine .inl ⟨List.mem_append.2 (.inl k), fun u hu => ho u (fun e => ?_)⟩
    subst e
    have := (List.nodup_append.1 hnd).2.2 u (by simp only [List.mem_flatMap]; exact ⟨it, k, hu⟩) u (by simp)
    exact this rfl
  · rcases List.mem_cons.1 k with k2 | k2
    · subst k2; exact .inr (hg _)
    · refine .inl ⟨List.mem_append.2 (.inr (List.mem_cons_of_mem _ k2)), fun u hu => ho u (fun e => ?_)⟩
      subst e
      have := (List.nodup_append.1 hnd).2.1
      rw [List.nodup_cons] at this
      exact this.1 (by simp only [List.mem_flatMap]; exact ⟨it, k2, hu⟩)
/-- One block is another one behind a store into it. -/
theorem Own.setBlk {ok : Nat → Prop} {w0 w w' : World} {A B : List Item} {g : Nat} {cs cs' : List Value} {t : TypeId} (h : Own ok w0 w (A ++ .blk g cs t :: B)) (hb : Bel w0.heap.size w0 w') (hsz : w'.heap.size = w.heap.size)
    (hg : w'.heap[g]? = some (.cells cs'.toArray t (0, 0))) (ho : ∀ k, k ≠ g → w'.heap[k]? = w.heap[k]?) : Own ok w0 w' (A ++ .blk g cs' t :: B) :=
  h.setOne (g := g) rfl rfl hb hsz (fun _ => hg) ho

theorem list_split {α : Type} : ∀ {L : List α} {i : Nat} {x : α}, L[i]? = some x → ∃ A B, L = A ++ x :: B ∧ ∀ y, L.set i y = A ++ y :: B := by
  intro L
  induction L with
  | nil => intro i x h; simp at h
  | cons a L ih =>
    intro i x h
    cases i with
    | zero => simp at h; subst h; exact ⟨[], L, rfl, fun y => rfl⟩
    | succ i =>
      simp at h
      obtain ⟨A, B, e, hs⟩ := ih h
      exact ⟨a :: A, B, by rw [e]; rfl, fun y => by simp [hs]⟩

theorem Own.store {ok : Nat → Prop} {w0 w : World} {L : List Item} (h : Own ok w0 w L) (i : Nat) {g : Nat} {cs : List Value} {t : TypeId} (hi : L[i]? = some (.blk g cs t)) (j : Nat) (u : Value) : Own ok w0 (w.setCell ⟨g, j, none⟩ u) (L.set i (.blk g (cs.set j u) t)) := by
  obtain ⟨A, B, e, hs⟩ := list_split hi
  have hgm : g ∈ muts L := mem_muts.2 ⟨_, List.mem_of_getElem? hi, by simp [Item.muts]⟩
  have hblk := h.blk i hi
  rw [hs]
  subst e
  refine h.setBlk (h.below.setCell (h.ge g hgm) u) (by simp [World.setCell]) ?_ (fun k hk => Below.heap_setCell _ _ _ _ hk)
  simp only [World.setCell, Array.getElem?_modify, hblk]
  simp

theorem Own.obj {ok : Nat → Prop} {w0 w : World} {L : List Item} (h : Own ok w0 w L) (i : Nat) {g : Nat} {φ : Obj → Prop} (hi : L[i]? = some (.obj g φ)) : ∃ o, w.heap[g]? = some o ∧ φ o := h.at hi
/-- What stands in one block is put anew. -/
theorem Own.setObj {ok : Nat → Prop} {w0 w w' : World} {L : List Item} (h : Own ok w0 w L) (i : Nat) {g : Nat} {φ φ' : Obj → Prop} (hi : L[i]? = some (.obj g φ)) (hb : Bel w0.heap.size w0 w') (hsz : w'.heap.size = w.heap.size)
    (hg : ∃ o, w'.heap[g]? = some o ∧ φ' o) (ho : ∀ k, k ≠ g → w'.heap[k]? = w.heap[k]?) : Own ok w0 w' (L.set i (.obj g φ')) := by
  obtain ⟨A, B, e, hs⟩ := list_split hi
  rw [hs]
  subst e
  exact h.setOne (g := g) rfl rfl hb hsz (fun _ => hg) ho
theorem Own.allocObj {ok : Nat → Prop} {w0 w : World} {L : List Item} (h : Own ok w0 w L) (o : Obj) {φ : Obj → Prop} (ho : φ o) : Own ok w0 (w.alloc o) (.obj w.heap.size φ :: L) := by
  have hw : w0.heap.size ≤ w.heap.size := h.below.size
  refine h.move (h.below.alloc hw _) (by simp) ?_ (fun g hg => ?_) (fun b _ hlt _ => Below.heap_alloc _ _ _ hlt) (fun it hi => ?_)
  · show (w.heap.size :: muts L).Nodup
    exact List.nodup_cons.2 ⟨h.fresh, h.nd⟩
  · rcases List.mem_cons.1 (show g ∈ w.heap.size :: muts L from hg) with k | k
    · exact .inr (by omega)
    · exact .inl k
  · rcases List.mem_cons.1 hi with k | k
    · subst k; exact .inr ⟨o, heap_alloc_new w _, ho⟩
    · exact .inl ⟨k, fun g hg => Below.heap_alloc _ _ _ (h.lt g (mem_muts.2 ⟨it, k, hg⟩))⟩

/-- What is put behind an own row. -/
theorem Own.setRow {ok : Nat → Prop} {w0 w w' : World} {A B : List Item} {v v' : Value} {e : TypeId} {sz n n' : Nat} {xs xs' : List Value} (h : Own ok w0 w (A ++ .row v e sz n xs :: B)) (hg : w.grownBy w' v.ownBlock) (hdr : w.drawn ≤ w'.drawn)
    (hr : qRow w' e sz v' n' xs') (hat : v'.ownBlock = v.ownBlock ∨ ∃ b, v'.ownBlock = some b ∧ w.heap.size ≤ b) : Own ok w0 w' (A ++ .row v' e sz n' xs' :: B) := by
  have hnd := h.nd
  have hw : w0.heap.size ≤ w.heap.size := h.below.size
  have hge0 : ∀ k, v.ownBlock = some k → w0.heap.size ≤ k := fun k hk => h.ge k (by simp [muts, Item.muts, hk])
  have hlt : ∀ it ∈ A ++ B, ∀ g ∈ it.muts, g < w.heap.size := fun it hi g hg' => h.lt g (mem_muts.2 ⟨it, by
    rcases List.mem_append.1 hi with k | k
    · exact List.mem_append.2 (.inl k)
    · exact List.mem_append.2 (.inr (List.mem_cons_of_mem _ k)), hg'⟩)
  have apart : ∀ it ∈ A ++ B, ∀ g ∈ it.muts, some g ≠ v.ownBlock := by
    intro it hi g hg' e'
    rw [muts_split] at hnd
    simp only [muts, List.flatMap_cons, Item.muts, ← e', Option.toList, List.cons_append, List.nil_append] at hnd
    rcases List.mem_append.1 hi with k | k
    · exact (List.nodup_append.1 hnd).2.2 g (by simp only [List.mem_flatMap]; exact ⟨it, k, hg'⟩) g (by simp) rfl
    · have := (List.nodup_append.1 hnd).2.1
      rw [List.nodup_cons] at this
      exact this.1 (by simp only [List.mem_flatMap]; exact ⟨it, k, hg'⟩)
  refine h.move (h.below.grown hg hdr hw hge0) hg.size ?_ (fun g hg' => ?_) (fun b hb hlt hb2 => ?_) (fun it hi => ?_)
  · rcases hat with k | ⟨b, hb, hb2⟩
    · have : muts (A ++ .row v' e sz n' xs' :: B) = muts (A ++ .row v e sz n xs :: B) := by simp [muts, Item.muts, k]
      rw [this]; exact hnd
    · rw [muts_split] at hnd ⊢
      simp only [muts, List.flatMap_cons, Item.muts, hb, Option.toList, List.cons_append, List.nil_append] at hnd ⊢
      rw [List.nodup_append] at hnd ⊢
      obtain ⟨h1, h2, h3⟩ := hnd
      have hB : (B.flatMap Item.muts).Nodup := (List.nodup_append.1 h2).2.1
      refine ⟨h1, List.nodup_cons.2 ⟨fun k => ?_, hB⟩, fun x hx y hy => ?_⟩
      · simp only [List.mem_flatMap] at k
        obtain ⟨it, hi, hm⟩ := k
        have := hlt it (List.mem_append.2 (.inr hi)) b hm; omega
      · rcases List.mem_cons.1 hy with k | k
        · subst k
          simp only [List.mem_flatMap] at hx
          obtain ⟨it, hi, hm⟩ := hx
          have := hlt it (List.mem_append.2 (.inl hi)) x hm
          omega
        · exact h3 x hx y (List.mem_append.2 (.inr k))
  · simp only [muts, List.flatMap_append, List.flatMap_cons, Item.muts, List.mem_append, Option.mem_toList] at hg' ⊢
    rcases hg' with k | k | k
    · exact .inl (.inl k)
    · rcases hat with k2 | ⟨b, hb, hb2⟩
      · exact .inl (.inr (.inl (k2 ▸ k)))
      · rw [hb] at k; cases k; exact .inr hb2
    · exact .inl (.inr (.inr k))
  · refine hg.block b hlt (fun e' => hb2 ?_)
    simp [muts, Item.muts, ← e']
  · rcases List.mem_append.1 hi with k | k
    · exact .inl ⟨List.mem_append.2 (.inl k), fun g hg' => hg.block g (hlt it (List.mem_append.2 (.inl k)) g hg') (apart it (List.mem_append.2 (.inl k)) g hg')⟩
    · rcases List.mem_cons.1 k with k | k
      · subst k; exact .inr hr
      · exact .inl ⟨List.mem_append.2 (.inr (List.mem_cons_of_mem _ k)), fun g hg' => hg.block g (hlt it (List.mem_append.2 (.inr k)) g hg') (apart it (List.mem_append.2 (.inr k)) g hg')⟩


/-! ### The rules: an effect at a time -/
section rules
variable {P : Program} {w w0 : World} {K : Value → World → Prop} {g : Bool} {ok : Nat → Prop} {L : List Item}

theorem nOp_val {s : Sem Next} {v : Value} {w' : World} (h : g = true → s.run P w = .ok (.value v) w') (hk : g = true → K v w') (hn : g = false → K v w) : nOp P g s w K :=
  nOp_in ⟨fun hg => by rw [h hg]; exact hk hg, fun hg => ⟨v, hn hg⟩⟩
theorem nOp_now {s : Sem Next} {v : Value} (h : g = true → s.run P w = .ok (.value v) w) (hk : K v w) : nOp P g s w K := nOp_val h (fun _ => hk) (fun _ => hk)
theorem sv_run {s : Sem Value} {v : Value} {w' : World} (h : s.run P w = .ok v w') : (sv s).run P w = .ok (.value v) w' := by unfold sv; rw [Sem.run_bind, h]; rfl
theorem su_run {s : Sem Unit} {w' : World} (h : s.run P w = .ok () w') : (su s).run P w = .ok .skip w' := by unfold su; rw [Sem.run_bind, h]; rfl

def bodyB (P : Program) (f : FuncId) : Bool := match P.funcs[f]? with
  | some fn => fn.body.isSome && !(fn.name == "runtime.NumGoroutine")
  | none => false
theorem run_callFunc {f : FuncId} {args : Array Value} (hb : bodyB P f = true) : (callFunc f args).run P w = .ok (.enter f args) w := by
  unfold bodyB at hb
  split at hb
  · rename_i fn hf
    simp only [Bool.and_eq_true, Bool.not_eq_true', Option.isSome_iff_exists] at hb
    obtain ⟨⟨c, hc⟩, hn⟩ := hb
    have : ¬ fn.name = "runtime.NumGoroutine" := by simpa using hn
    simp [callFunc, program, Sem.run, hf, hc, this]
  · cases hb

/-- A call by a contract. -/
theorem call_rule {f : FuncId} {args : List Value} {φ : Value → World → Prop} (hb : bodyB P f = true) (hc : Calls P f args.toArray w fun e w' => ∃ v, e = .returned v ∧ φ v w') (hk : ∀ v w', φ v w' → K v w') : nCall P true f args w K := by
  unfold nCall
  refine nOp_in ⟨fun _ => ?_, fun h => by cases h⟩
  rw [run_callFunc hb]
  refine Calls.mono hc fun e w' ⟨v, he, hv⟩ => ?_
  subst he
  exact hk _ _ hv
/-! Loads and stores. -/
def aggB (P : Program) (t : TypeId) : Option Bool := match P.underlying t with
  | some (.struct _) => some true
  | some (.array _ _) => some true
  | some _ => some false
  | none => none
def sizeB (P : Program) (t : TypeId) : Option Nat := match P.info? t with | some i => some i.size | none => none
theorem run_isAgg {t : TypeId} {b : Bool} (h : aggB P t = some b) : (isAgg t).run P w = .ok b w := by
  unfold aggB at h
  unfold isAgg underlying
  simp only [program, Sem.run_bind, Sem.run, Result.andThen_ok]
  split at h
  · rename_i hu; cases h; rw [hu]; rfl
  · rename_i hu; cases h; rw [hu]; rfl
  · rename_i d hn1 hn2 hu
    cases h; rw [hu]
    cases d <;> first | rfl | exact (hn1 _ rfl).elim | exact (hn2 _ _ rfl).elim
  · cases h
theorem run_sizeOf {t : TypeId} {m : Nat} (h : sizeB P t = some m) : (sizeOf t).run P w = .ok m w := by
  unfold sizeB at h
  split at h
  · rename_i i hi; cases h; simp [sizeOf, typeInfo, program, Sem.run, hi]
  · cases h

def cellsAt (w : World) (a : Addr) : Nat → List Value → Prop
  | _, [] => True
  | i, v :: r => w.cell? (a.add i) = some v ∧ cellsAt w a (i + 1) r
theorem run_loadCellsFrom {a : Addr} : ∀ (vs : List Value) (i : Nat) (acc : Array Value), cellsAt w a i vs → (loadCellsFrom a i vs.length acc).run P w = .ok (acc ++ vs.toArray) w := by
  intro vs
  induction vs with
  | nil => intro i acc _; simp [loadCellsFrom]
  | cons v r ih =>
    intro i acc h
    have hl : (load (a.add i)).run P w = .ok v w := by simp [load, Sem.run, h.1]
    simp only [List.length_cons, loadCellsFrom, Sem.run_bind, hl, Result.andThen_ok]
    rw [ih (i + 1) _ h.2]
    congr 1
    apply Array.ext'; simp

theorem load_rule {t : TypeId} {ad : Addr} {v : Value} (ha : aggB P t = some false) (hc : g = true → w.cell? ad = some v) (hk : K v w) : nLoad P g t (.pointer (some ad)) w K := by
  unfold nLoad
  refine nOp_now (fun hg => sv_run ?_) hk
  simp only [Instr.loadAt, Instr.sureAddr, Sem.run_bind, Sem.run_pure, Result.andThen_ok, loadVar, run_isAgg ha]
  simp [load, Sem.run, hc hg]
theorem loadA_run {t : TypeId} {ad : Addr} {m : Nat} {vs : List Value} (ha : aggB P t = some true) (hs : sizeB P t = some m) (hl : vs.length = m) (hc : cellsAt w ad 0 vs) : (loadVar t ad).run P w = .ok (.agg vs.toArray) w := by
  subst hl
  have := run_loadCellsFrom (P := P) vs 0 #[] hc
  simp only [loadVar, Sem.run_bind, run_isAgg ha, Result.andThen_ok, if_true, run_sizeOf hs, loadCells, this, Sem.run_pure]
  simp
theorem load1_run {t : TypeId} {ad : Addr} {v : Value} (ha : aggB P t = some false) (hc : w.cell? ad = some v) : (loadVar t ad).run P w = .ok v w := by
  simp only [loadVar, Sem.run_bind, run_isAgg ha, Result.andThen_ok]
  simp [load, Sem.run, hc]
theorem loadA_rule {t : TypeId} {ad : Addr} {m : Nat} (vs : List Value) (ha : aggB P t = some true) (hs : sizeB P t = some m) (hl : vs.length = m) (hc : g = true → cellsAt w ad 0 vs) (hk : K (.agg vs.toArray) w) : nLoad P g t (.pointer (some ad)) w K := by
  unfold nLoad
  exact nOp_now (fun hg => sv_run (loadA_run ha hs hl (hc hg))) hk

def oneV : Value → Bool
  | .agg _ => false
  | .tuple _ => false
  | _ => true
def setCells (w : World) (a : Addr) : Nat → List Value → World
  | _, [] => w
  | i, v :: r => setCells (w.setCell (a.add i) v) a (i + 1) r
theorem run_store {ad : Addr} {u v : Value} (hc : w.cell? ad = some u) (hf : w.frozen? ad = false) (hv : oneV v = true) : (store ad v).run P w = .ok () (w.setCell ad v) := by
  cases v <;> first | (simp [oneV] at hv; done) | simp [store, Sem.run, hc, hf]
theorem cells_one {v : Value} (h : oneV v = true) : v.cells = #[v] := by cases v <;> first | rfl | (simp [oneV] at h)
theorem store_rule {t : TypeId} {ad : Addr} {u v : Value} (hs : sizeB P t = some 1) (hc : w.cell? ad = some u) (hf : w.frozen? ad = false) (hv : oneV v = true) (hk : K undef (w.setCell ad v)) : nStore P true t (.pointer (some ad)) v w K := by
  unfold nStore
  refine nOp_in ⟨fun _ => ?_, fun h => by cases h⟩
  rw [su_run (w' := w.setCell ad v)]
  · exact hk
  · have e : ad.add 0 = ad := rfl
    simp only [Instr.storeAt, Instr.sureAddr, Sem.run_bind, Sem.run_pure, Result.andThen_ok, storeVar, run_sizeOf hs, cells_one hv]
    simp [storeCells, e, run_store hc hf hv]

theorem box_rule {t : TypeId} {x : Value} (hk : K (.pointer (some ⟨w.heap.size, 0, none⟩)) (w.alloc (.cells x.cells t))) : nBox P true t x w K := by
  unfold nBox
  refine nOp_in ⟨fun _ => ?_, fun h => by cases h⟩
  rw [sv_run (v := .pointer (some ⟨w.heap.size, 0, none⟩)) (w' := w.alloc (.cells x.cells t))]
  · exact hk
  · simp [Instr.box, newVar, newRow, newObj, Sem.run]
def zeroB (P : Program) (t : TypeId) : Option Value := match P.info? t with | some i => i.zero | none => none
theorem run_zero {t : TypeId} {z : Value} (h : zeroB P t = some z) : (zeroValue t).run P w = .ok z w := by
  unfold zeroB at h
  split at h
  · rename_i i hi; simp [zeroValue, typeInfo, program, Sem.run, hi, h]
  · cases h
theorem alloc_rule {t : TypeId} {z : Value} (hz : zeroB P t = some z) (hk : K (.pointer (some ⟨w.heap.size, 0, none⟩)) (w.alloc (.cells z.cells t))) : nAlloc P true t w K := by
  unfold nAlloc
  refine nOp_in ⟨fun _ => ?_, fun h => by cases h⟩
  rw [sv_run (v := .pointer (some ⟨w.heap.size, 0, none⟩)) (w' := w.alloc (.cells z.cells t))]
  · exact hk
  · simp [Instr.alloc, run_zero hz, newVar, newRow, newObj, Sem.run]

/-! The same over what is owned. -/
theorem own_box {t : TypeId} {x : Value} (H : Own ok w0 w L) (cs : List Value) (hx : x.cells = cs.toArray) (hk : ∀ g w', Own ok w0 w' (.blk g cs t :: L) → K (.pointer (some ⟨g, 0, none⟩)) w') : nBox P true t x w K :=
  box_rule (hk _ _ (by rw [hx]; exact H.alloc cs t))
theorem own_alloc {t : TypeId} {z : Value} (H : Own ok w0 w L) (hz : zeroB P t = some z) (cs : List Value) (hx : z.cells = cs.toArray) (hk : ∀ g w', Own ok w0 w' (.blk g cs t :: L) → K (.pointer (some ⟨g, 0, none⟩)) w') : nAlloc P true t w K :=
  alloc_rule hz (hk _ _ (by rw [hx]; exact H.alloc cs t))
theorem own_load {t t' : TypeId} {b j : Nat} {cs : List Value} {v : Value} (H : Own ok w0 w L) (i : Nat) (hi : L[i]? = some (.blk b cs t')) (ha : aggB P t = some false) (hj : cs[j]? = some v) (hk : K v w) : nLoad P g t (.pointer (some ⟨b, j, none⟩)) w K :=
  load_rule ha (fun _ => H.cell i hi j hj) hk
theorem add_at (b j k : Nat) : (⟨b, j, none⟩ : Addr).add k = ⟨b, j + k, none⟩ := by unfold Addr.add; split <;> simp_all
theorem cellsAt_blk {w : World} {b : Nat} {cs : List Value} {t : TypeId} (h : w.heap[b]? = some (.cells cs.toArray t (0, 0))) (off : Nat) : ∀ (vs : List Value) (k : Nat), (∀ j v, vs[j]? = some v → cs[off + k + j]? = some v) → cellsAt w ⟨b, off, none⟩ k vs := by
  intro vs
  induction vs with
  | nil => intro k _; trivial
  | cons v r ih =>
    intro k hv
    refine ⟨?_, ih (k + 1) fun j u hu => ?_⟩
    · rw [add_at, cell_of_row w b (off + k) cs.toArray t (0, 0) h]
      have := hv 0 v rfl
      simpa using this
    · have := hv (j + 1) u (by simpa using hu)
      rw [← this]; congr 1; omega
theorem own_loadA {t t' : TypeId} {b off m : Nat} {cs : List Value} (H : Own ok w0 w L) (i : Nat) (hi : L[i]? = some (.blk b cs t')) (ha : aggB P t = some true) (hs : sizeB P t = some m) (vs : List Value) (hv : (cs.drop off).take m = vs) (hl : vs.length = m) (hk : K (.agg vs.toArray) w) : nLoad P g t (.pointer (some ⟨b, off, none⟩)) w K := by
  refine loadA_rule vs ha hs hl (fun _ => cellsAt_blk (H.blk i hi) off vs 0 fun j v hj => ?_) hk
  subst hv
  rw [List.getElem?_take] at hj
  split at hj
  · simpa using hj
  · cases hj
theorem own_store {t t' : TypeId} {b j : Nat} {cs : List Value} {u v : Value} (H : Own ok w0 w L) (i : Nat) (hi : L[i]? = some (.blk b cs t')) (hs : sizeB P t = some 1) (hj : cs[j]? = some u) (hv : oneV v = true) (hk : ∀ w', Own ok w0 w' (L.set i (.blk b (cs.set j v) t')) → K undef w') : nStore P true t (.pointer (some ⟨b, j, none⟩)) v w K :=
  store_rule hs (H.cell i hi j hj) (H.free i hi j) hv (hk _ (H.store i hi j v))

theorem own_setCells {t' : TypeId} {b : Nat} (i : Nat) : ∀ (vs : List Value) (w : World) (L : List Item) (cs : List Value) (off k : Nat), Own ok w0 w L → L[i]? = some (.blk b cs t') → Own ok w0 (setCells w ⟨b, off, none⟩ k vs) (L.set i (.blk b (setRange cs (off + k) vs) t')) := by
  intro vs
  induction vs with
  | nil =>
    intro w L cs off k H hi
    have : L.set i (.blk b cs t') = L := by
      apply List.ext_getElem?
      intro j
      rw [List.getElem?_set]
      split
      · subst_vars
        split
        · exact hi.symm
        · rename_i h1; rw [List.getElem?_eq_none (by omega)] at hi; cases hi
      · rfl
    simp only [setCells, setRange]; rw [this]; exact H
  | cons v r ih =>
    intro w L cs off k H hi
    have h1 := H.store i hi (off + k) v
    have hlen : i < L.length := (List.getElem?_eq_some_iff.1 hi).1
    have h2 := ih _ _ (cs.set (off + k) v) off (k + 1) h1 (by simp [hlen])
    rw [List.set_set] at h2
    simp only [setCells, setRange, add_at]
    exact h2
theorem run_storeCells {a : Addr} : ∀ (vs : List Value) (k : Nat) (w : World), (∀ v ∈ vs, oneV v = true) → (∀ j v, vs[j]? = some v → (∃ u, w.cell? (a.add (k + j)) = some u) ∧ w.frozen? (a.add (k + j)) = false) → (storeCells a vs k).run P w = .ok () (setCells w a k vs) := by
  intro vs
  induction vs with
  | nil => intro k w _ _; rfl
  | cons v r ih =>
    intro k w h1 h2
    obtain ⟨⟨u, hu⟩, hf⟩ := h2 0 v rfl
    rw [Nat.add_zero] at hu hf
    simp only [storeCells, Sem.run_bind, run_store hu hf (h1 v (by simp)), Result.andThen_ok, setCells]
    refine ih (k + 1) _ (fun x hx => h1 x (List.mem_cons_of_mem _ hx)) fun j x hx => ?_
    obtain ⟨⟨u', hu'⟩, hf'⟩ := h2 (j + 1) x (by simpa using hx)
    have e : k + 1 + j = k + (j + 1) := by omega
    rw [e]
    refine ⟨?_, ?_⟩
    · obtain ⟨v', hv'⟩ := cell?_setCell_some (w := w) (p := a.add k) (x := v) (q := a.add (k + (j + 1))) (v := u') hu'
      exact ⟨_, hv'⟩
    · rw [World.frozen?_setCell]; exact hf'
theorem own_storeA {t t' : TypeId} {b off m : Nat} {cs : List Value} {x : Value} (H : Own ok w0 w L) (i : Nat) (hi : L[i]? = some (.blk b cs t')) (hs : sizeB P t = some m) (vs : List Value) (hx : x.cells = vs.toArray) (hl : vs.length = m) (ho : ∀ v ∈ vs, oneV v = true) (hr : off + m ≤ cs.length)
    (hk : ∀ w', Own ok w0 w' (L.set i (.blk b (setRange cs off vs) t')) → K undef w') : nStore P true t (.pointer (some ⟨b, off, none⟩)) x w K := by
  unfold nStore
  refine nOp_in ⟨fun _ => ?_, fun h => by cases h⟩
  rw [su_run (w' := setCells w ⟨b, off, none⟩ 0 vs)]
  · have := own_setCells (t' := t') i vs w L cs off 0 H hi
    exact hk _ this
  · have hsz : x.cells.size = m := by rw [hx]; simpa using hl
    simp only [Instr.storeAt, Instr.sureAddr, Sem.run_bind, Sem.run_pure, Result.andThen_ok, storeVar, run_sizeOf hs, hsz]
    simp only [ne_eq, not_true, if_false, hx]
    refine run_storeCells vs 0 w ho fun j v hj => ?_
    have hjl : j < vs.length := (List.getElem?_eq_some_iff.1 hj).1
    rw [add_at]
    exact ⟨⟨_, H.cell i hi _ (List.getElem?_eq_getElem (by omega))⟩, H.free i hi _⟩
end rules
/-- Where nothing else is said the frame tells nothing of draws. -/
instance noKeep : Inhabited Keep := ⟨⟨false⟩⟩
end Go.Eng
