/- Objects: what stands behind a pointer of the call's own, held as one item; shelves of them; maps of data. Proved once, over any program. -/
import Derived.Test.YtipoblinefamgaaGen
set_option linter.unusedVariables false
set_option linter.unusedSectionVars false
set_option linter.unusedSimpArgs false
namespace Go.Eng
open Go.RowKit
variable [Inhabited Keep] [Inhabited Hard]

/-- A list of items, asX one. -/
def Bag.of (M : List Item) : Bag where
  m := muts M
  φ w ok := ∀ it ∈ M, it.holds w ok
  lt h g hg := by obtain ⟨it, hi, hm⟩ := mem_muts.1 hg; exact Item.holds_lt (h it hi) g hm
  step h hm hd hk it hi := Item.holds_step (h it hi) (fun g hg => hm g (mem_muts.2 ⟨it, hi, hg⟩)) hd hk
abbrev box (M : List Item) : Item := .bag (Bag.of M)
/-- A plain truth, carried along. -/
def dProp (p : Prop) : Dat := ⟨fun _ _ => p, fun _ h => h, fun _ h => h, fun h => h⟩

section
variable {P : Program} {w w' w0 : World} {K : Value → World → Prop} {g : Bool} {ok : Nat → Prop} {L M R A B : List Item}

theorem muts_box (M R : List Item) : muts (box M :: R) = muts (M ++ R) := by simp [muts, Item.muts, Bag.of]
theorem Own.shut (H : Own ok w0 w (M ++ R)) : Own ok w0 w (box M :: R) := by
  have e := muts_box M R
  have eo : okOf ok w0 (box M :: R) = okOf ok w0 (M ++ R) := by unfold okOf; rw [e]
  refine ⟨H.below, by rw [e]; exact H.nd, by rw [e]; exact H.ge, fun it hi => ?_⟩
  rw [eo]
  rcases List.mem_cons.1 hi with k | k
  · subst k
    exact fun it hi => H.all it (List.mem_append.2 (.inl hi))
  · exact H.all it (List.mem_append.2 (.inr k))
theorem Own.unshut (H : Own ok w0 w (box M :: R)) : Own ok w0 w (M ++ R) := by
  have e := muts_box M R
  have eo : okOf ok w0 (box M :: R) = okOf ok w0 (M ++ R) := by unfold okOf; rw [e]
  refine ⟨H.below, by rw [← e]; exact H.nd, by rw [← e]; exact H.ge, fun it hi => ?_⟩
  rw [← eo]
  rcases List.mem_append.1 hi with k | k
  · exact (H.all (box M) List.mem_cons_self : (Bag.of M).φ w _) it k
  · exact H.all it (List.mem_cons_of_mem _ k)
theorem Own.box0 (H : Own ok w0 w L) : Own ok w0 w (box [] :: L) := Own.shut (M := []) H
theorem eraseIdx_perm {β : Type} : ∀ {l : List β} {i : Nat} {x : β}, l[i]? = some x → l.Perm (x :: l.eraseIdx i)
  | y :: l, 0, x, h => by simp at h; subst h; exact List.Perm.refl _
  | y :: l, i + 1, x, h => (List.Perm.cons y (eraseIdx_perm (l := l) (i := i) (by simpa using h))).trans (List.Perm.swap _ _ _)
/-- The i-th item to the front. -/
theorem Own.front (H : Own ok w0 w L) (i : Nat) {x : Item} (hi : L[i]? = some x) : Own ok w0 w (x :: L.eraseIdx i) := H.perm (eraseIdx_perm hi)
/-- What is held asX one is laid open, at the front. -/
theorem Own.openAt (H : Own ok w0 w L) (i : Nat) (hi : L[i]? = some (box M)) : Own ok w0 w (M ++ L.eraseIdx i) := (H.front i hi).unshut
theorem Own.openAs (H : Own ok w0 w L) (i : Nat) (M' : List Item) (hi : L[i]? = some (box M)) (e : M = M') : Own ok w0 w (M' ++ L.eraseIdx i) := by subst e; exact H.openAt i hi
/-- The first n items, asX one. -/
theorem Own.shutN (n : Nat) (H : Own ok w0 w L) : Own ok w0 w (box (L.take n) :: L.drop n) := Own.shut (by rw [List.take_append_drop]; exact H)
theorem Own.addProp {p : Prop} (h : p) (H : Own ok w0 w L) : Own ok w0 w (.dat (dProp p) :: L) := H.addDat (dProp p) h
theorem Own.prop {p : Prop} (H : Own ok w0 w L) (i : Nat) (hi : L[i]? = some (.dat (dProp p))) : p := H.at hi

/-! ### What may not be there -/
def optL {α σ : Type} (f : Nat → α → σ → List Item) (g : Nat) (a : α) : Option σ → List Item
  | none => []
  | some s => f g a s
def optA {σ : Type} (g : Nat) : Option σ → Option Addr
  | none => none
  | some _ => some ⟨g, 0, none⟩
theorem optA_isNone {σ : Type} (g : Nat) (s : Option σ) : (optA g s).isNone = s.isNone := by cases s <;> rfl
theorem eqlO_rule {σ : Type} {t : TypeId} {xo yo : Operand} {b : Nat} {s : Option σ} (ht : ptrB P t = true) (hk : K (.bool s.isNone) w) : nBin P g .eql t xo yo (.pointer (optA b s)) (.pointer none) w K := eqlNil_rule ht (by rw [optA_isNone]; exact hk)
theorem neqO_rule {σ : Type} {t : TypeId} {xo yo : Operand} {b : Nat} {s : Option σ} (ht : ptrB P t = true) (hk : K (.bool (!s.isNone)) w) : nBin P g .neq t xo yo (.pointer (optA b s)) (.pointer none) w K := neqNil_rule ht (by rw [optA_isNone]; exact hk)
theorem c_eqlO {σ : Type} {C : World → Prop} {KF : Value → Prop} {t : TypeId} {xo yo : Operand} {b : Nat} {s : Option σ} (ht : ptrB P t = true) (hk : KF (.bool s.isNone)) : cBin P g .eql t xo yo (.pointer (optA b s)) (.pointer none) C KF := c_eqlNil ht (by rw [optA_isNone]; exact hk)
/-- It is there. -/
theorem Own.someAt {α σ : Type} {f : Nat → α → σ → List Item} {b : Nat} {a : α} {s : Option σ} {y : σ} (H : Own ok w0 w L) (i : Nat) (hi : L[i]? = some (box (optL f b a s))) (hy : s = some y) : Own ok w0 w (L.set i (box (f b a y))) := by
  subst hy
  have e : L.set i (box (f b a y)) = L := by
    obtain ⟨A, B, e, hs⟩ := list_split hi
    rw [hs, e]; rfl
  rw [e]; exact H
/-- A cell, in other words. -/
theorem Own.cellAs {b : Nat} {cs : List Value} {t : TypeId} {v v' : Value} (H : Own ok w0 w L) (i j : Nat) (hi : L[i]? = some (.blk b cs t)) (hj : cs[j]? = some v) (e : v = v') : Own ok w0 w (L.set i (.blk b (cs.set j v') t)) := by
  subst e
  have e1 : cs.set j v = cs := by
    obtain ⟨h, e⟩ := List.getElem?_eq_some_iff.1 hj
    rw [← e]; exact List.set_getElem_self h
  have e : L.set i (.blk b (cs.set j v) t) = L := by
    rw [e1]
    obtain ⟨A, B, e, hs⟩ := list_split hi
    rw [hs, e]
  rw [e]; exact H
theorem Own.shutAs (n : Nat) (M : List Item) (H : Own ok w0 w L) (h : L.take n = M) : Own ok w0 w (box M :: L.drop n) := by
  subst h; exact H.shutN n
/-- The rest, asX one, behind the first n. -/
theorem Own.tailBox (n : Nat) (H : Own ok w0 w L) : Own ok w0 w (L.take n ++ [box (L.drop n)]) := by
  have H1 : Own ok w0 w (L.drop n ++ L.take n) := H.perm (by
    have := List.perm_append_comm (l₁ := L.take n) (l₂ := L.drop n)
    rwa [List.take_append_drop] at this)
  exact H1.shut.perm (List.perm_append_comm (l₁ := [box (L.drop n)]) (l₂ := L.take n))
theorem Own.tailOpen (n : Nat) (H : Own ok w0 w L) (h : L.drop n = [box R]) : Own ok w0 w (L.take n ++ R) := by
  have H1 : Own ok w0 w ([box R] ++ L.take n) := H.perm (by
    have := List.perm_append_comm (l₁ := L.take n) (l₂ := [box R])
    rw [← h, List.take_append_drop] at this
    rw [← h]; exact this)
  exact (Own.unshut (M := R) (R := L.take n) H1).perm List.perm_append_comm

/-! ### Shelves: many things of one kind, each with its own blocks -/
variable {α σ κ : Type}
/-- The things of a shelf, one behind the other. -/
def shelf (f : α → σ → List Item) : List α → List σ → List Item
  | a :: asX, s :: ss => f a s ++ shelf f asX ss
  | _, _ => []
def shelfL (f : α → σ → List Item) (asX : List α) (ss : List σ) : List Item := .dat (dProp (asX.length = ss.length)) :: shelf f asX ss
theorem shelf_append (f : α → σ → List Item) : ∀ {asX bs : List α} {ss ts : List σ}, asX.length = ss.length → shelf f (asX ++ bs) (ss ++ ts) = shelf f asX ss ++ shelf f bs ts
  | [], bs, [], ts, _ => rfl
  | a :: asX, bs, s :: ss, ts, h => by
    have ih := shelf_append f (asX := asX) (bs := bs) (ss := ss) (ts := ts) (by simpa using h)
    show f a s ++ shelf f (asX ++ bs) (ss ++ ts) = f a s ++ shelf f asX ss ++ shelf f bs ts
    rw [ih, List.append_assoc]
  | [], _, _ :: _, _, h => by simp at h
  | _ :: _, _, [], _, h => by simp at h
/-- One thing of a shelf is taken off; the others stand on. -/
def gap (f : α → σ → List Item) (as1 : List α) (ss1 : List σ) (as2 : List α) (ss2 : List σ) : List Item := .dat (dProp (as1.length = ss1.length ∧ as2.length = ss2.length)) :: (shelf f as1 ss1 ++ shelf f as2 ss2)
theorem list_cut {β : Type} : ∀ {l : List β} {i : Nat}, i < l.length → ∃ l1 x l2, l = l1 ++ x :: l2 ∧ l1.length = i
  | x :: l, 0, _ => ⟨[], x, l, rfl, rfl⟩
  | x :: l, i + 1, h => by
    obtain ⟨l1, y, l2, e, hl⟩ := list_cut (l := l) (i := i) (by simpa using h)
    exact ⟨x :: l1, y, l2, by rw [e]; rfl, by simp [hl]⟩
theorem Own.takeOff {f : α → σ → List Item} {asX : List α} {ss1 ss2 : List σ} {s : σ} (H : Own ok w0 w (box (shelfL f asX (ss1 ++ s :: ss2)) :: R)) :
    ∃ as1 a as2, asX = as1 ++ a :: as2 ∧ as1.length = ss1.length ∧ as2.length = ss2.length ∧ Own ok w0 w (box (f a s) :: box (gap f as1 ss1 as2 ss2) :: R) := by
  have H1 := H.unshut
  have hl : asX.length = (ss1 ++ s :: ss2).length := H1.prop 0 rfl
  obtain ⟨as1, a, as2, rfl, h1⟩ := list_cut (l := asX) (i := ss1.length) (by rw [hl]; simp)
  have h2 : as2.length = ss2.length := by simp at hl; omega
  refine ⟨as1, a, as2, rfl, h1, h2, ?_⟩
  have H2 : Own ok w0 w (shelf f (as1 ++ a :: as2) (ss1 ++ s :: ss2) ++ R) := H1.tail
  rw [shelf_append f h1] at H2
  have H3 : Own ok w0 w (f a s ++ ((shelf f as1 ss1 ++ shelf f as2 ss2) ++ R)) := by
    refine H2.perm ?_
    show ((shelf f as1 ss1 ++ (f a s ++ shelf f as2 ss2)) ++ R).Perm _
    simp only [List.append_assoc]
    rw [← List.append_assoc, ← List.append_assoc (f a s)]
    exact List.Perm.append_right _ List.perm_append_comm
  have H4 : Own ok w0 w (box (f a s) :: ((shelf f as1 ss1 ++ shelf f as2 ss2) ++ R)) := H3.shut
  have H5 := (H4.addProp (p := as1.length = ss1.length ∧ as2.length = ss2.length) ⟨h1, h2⟩)
  have H6 : Own ok w0 w (gap f as1 ss1 as2 ss2 ++ (box (f a s) :: R)) := by
    refine H5.perm ?_
    show (.dat (dProp _) :: box (f a s) :: ((shelf f as1 ss1 ++ shelf f as2 ss2) ++ R)).Perm (.dat (dProp _) :: ((shelf f as1 ss1 ++ shelf f as2 ss2) ++ box (f a s) :: R))
    exact List.Perm.cons _ List.perm_middle.symm
  exact H6.shut.perm (List.Perm.swap _ _ _)
theorem Own.putBack {f : α → σ → List Item} {as1 as2 : List α} {ss1 ss2 : List σ} {a : α} {s : σ} (H : Own ok w0 w (box (f a s) :: box (gap f as1 ss1 as2 ss2) :: R)) :
    Own ok w0 w (box (shelfL f (as1 ++ a :: as2) (ss1 ++ s :: ss2)) :: R) := by
  have H1 : Own ok w0 w (gap f as1 ss1 as2 ss2 ++ (box (f a s) :: R)) := (H.perm (List.Perm.swap _ _ _)).unshut
  obtain ⟨h1, h2⟩ : as1.length = ss1.length ∧ as2.length = ss2.length := H1.prop 0 rfl
  have H2 : Own ok w0 w ((shelf f as1 ss1 ++ shelf f as2 ss2) ++ (box (f a s) :: R)) := H1.tail
  have H3 : Own ok w0 w (f a s ++ ((shelf f as1 ss1 ++ shelf f as2 ss2) ++ R)) := (H2.perm List.perm_middle).unshut
  have H4 : Own ok w0 w (shelf f (as1 ++ a :: as2) (ss1 ++ s :: ss2) ++ R) := by
    rw [shelf_append f h1]
    refine H3.perm ?_
    show (f a s ++ ((shelf f as1 ss1 ++ shelf f as2 ss2) ++ R)).Perm ((shelf f as1 ss1 ++ (f a s ++ shelf f as2 ss2)) ++ R)
    simp only [List.append_assoc]
    rw [← List.append_assoc (f a s), ← List.append_assoc (shelf f as1 ss1) (f a s)]
    exact List.Perm.append_right _ List.perm_append_comm
  exact Own.shut (M := shelfL f (as1 ++ a :: as2) (ss1 ++ s :: ss2)) (H4.addProp (by simp; omega))
/-- A new thing, behind all others. -/
theorem Own.putNew {f : α → σ → List Item} {asX : List α} {ss : List σ} {a : α} {s : σ} (H : Own ok w0 w (box (f a s) :: box (shelfL f asX ss) :: R)) : Own ok w0 w (box (shelfL f (asX ++ [a]) (ss ++ [s])) :: R) := by
  have H1 : Own ok w0 w (shelfL f asX ss ++ (box (f a s) :: R)) := (H.perm (List.Perm.swap _ _ _)).unshut
  have hl : asX.length = ss.length := H1.prop 0 rfl
  have H2 : Own ok w0 w (f a s ++ (shelf f asX ss ++ R)) := ((show Own ok w0 w (shelf f asX ss ++ box (f a s) :: R) from H1.tail).perm List.perm_middle).unshut
  have H3 : Own ok w0 w (shelf f (asX ++ [a]) (ss ++ [s]) ++ R) := by
    rw [shelf_append f hl]
    show Own ok w0 w ((shelf f asX ss ++ (f a s ++ [])) ++ R)
    rw [List.append_nil]
    refine H2.perm ?_
    rw [← List.append_assoc]
    exact List.Perm.append_right _ List.perm_append_comm
  exact Own.shut (M := shelfL f (asX ++ [a]) (ss ++ [s])) (H3.addProp (by simp; omega))
theorem Own.shelf0 {f : α → σ → List Item} (H : Own ok w0 w L) : Own ok w0 w (box (shelfL f [] []) :: L) := Own.shut (M := shelfL f [] []) (H.addProp rfl)
theorem Own.shelfLen {f : α → σ → List Item} {asX : List α} {ss : List σ} (H : Own ok w0 w L) (i : Nat) (hi : L[i]? = some (box (shelfL f asX ss))) : asX.length = ss.length := (H.openAt i hi).prop 0 rfl

/-! ### Maps whose entries stand on shelves -/
variable [DecidableEq κ]
/-- The entries: keys of the list, values by what stands on the shelf. -/
def shelfE (val : α → σ → Value) : List α → List (κ × σ) → List (κ × Value)
  | a :: asX, p :: ps => (p.1, val a p.2) :: shelfE val asX ps
  | _, _ => []
theorem shelfE_append (val : α → σ → Value) : ∀ {asX bs : List α} {ps qs : List (κ × σ)}, asX.length = ps.length → shelfE val (asX ++ bs) (ps ++ qs) = shelfE val asX ps ++ shelfE val bs qs
  | [], bs, [], qs, _ => rfl
  | a :: asX, bs, p :: ps, qs, h => by
    have ih := shelfE_append val (asX := asX) (bs := bs) (ps := ps) (qs := qs) (by simpa using h)
    show (p.1, val a p.2) :: shelfE val (asX ++ bs) (ps ++ qs) = (p.1, val a p.2) :: shelfE val asX ps ++ shelfE val bs qs
    rw [ih]; rfl
  | [], _, _ :: _, _, h => by simp at h
  | _ :: _, _, [], _, h => by simp at h
theorem getA_split {β : Type} {k : κ} : ∀ {l : List (κ × β)} {v : β}, getA k l = some v → ∃ l1 l2, l = l1 ++ (k, v) :: l2 ∧ getA k l1 = none
  | p :: l, v, h => by
    simp only [getA] at h
    split at h
    · rename_i e; cases h; exact ⟨[], l, by rw [e]; rfl, rfl⟩
    · rename_i e
      obtain ⟨l1, l2, e2, h2⟩ := getA_split h
      refine ⟨p :: l1, l2, by rw [e2]; rfl, ?_⟩
      simp only [getA]; rw [if_neg e]; exact h2
  | [], v, h => by cases h
theorem getA_append {β : Type} {k : κ} {l2 : List (κ × β)} : ∀ {l1 : List (κ × β)}, getA k l1 = none → getA k (l1 ++ l2) = getA k l2
  | [], _ => rfl
  | p :: l1, h => by
    simp only [getA] at h
    split at h
    · cases h
    · rename_i e
      show (if k = p.1 then some p.2 else getA k (l1 ++ l2)) = _
      rw [if_neg e]; exact getA_append h
theorem putA_append {β : Type} {k : κ} {v : β} {l2 : List (κ × β)} : ∀ {l1 : List (κ × β)}, getA k l1 = none → putA k v (l1 ++ l2) = l1 ++ putA k v l2
  | [], _ => rfl
  | p :: l1, h => by
    simp only [getA] at h
    split at h
    · cases h
    · rename_i e
      show (if k = p.1 then (k, v) :: (l1 ++ l2) else p :: putA k v (l1 ++ l2)) = _
      rw [if_neg e, putA_append h]; rfl
theorem putA_at {β : Type} {k : κ} {u v : β} {l1 l2 : List (κ × β)} (h : getA k l1 = none) : putA k v (l1 ++ (k, u) :: l2) = l1 ++ (k, v) :: l2 := by
  rw [putA_append h]; simp [putA]
theorem putA_new {β : Type} {k : κ} {v : β} {l : List (κ × β)} (h : getA k l = none) : putA k v l = l ++ [(k, v)] := by
  have := putA_append (v := v) (l2 := []) h
  rw [List.append_nil] at this
  rw [this]; rfl
theorem shelfE_none (val : α → σ → Value) {k : κ} : ∀ {asX : List α} {ps : List (κ × σ)}, getA k ps = none → getA k (shelfE val asX ps) = none
  | [], ps, _ => by cases ps <;> rfl
  | a :: asX, [], _ => rfl
  | a :: asX, p :: ps, h => by
    simp only [getA] at h
    split at h
    · cases h
    · rename_i e
      show (if k = p.1 then some _ else getA k (shelfE val asX ps)) = none
      rw [if_neg e]; exact shelfE_none val h
theorem shelfE_get (val : α → σ → Value) {k : κ} {as1 as2 : List α} {ps1 ps2 : List (κ × σ)} {a : α} {s : σ} (hl : as1.length = ps1.length) (h : getA k ps1 = none) : getA k (shelfE val (as1 ++ a :: as2) (ps1 ++ (k, s) :: ps2)) = some (val a s) := by
  rw [shelfE_append val hl, getA_append (shelfE_none val h)]
  simp [shelfE, getA]
theorem shelfE_put (val : α → σ → Value) {k : κ} {as1 as2 : List α} {ps1 ps2 : List (κ × σ)} {a a' : α} {s s' : σ} (hl : as1.length = ps1.length) (h : getA k ps1 = none) : putA k (val a' s') (shelfE val (as1 ++ a :: as2) (ps1 ++ (k, s) :: ps2)) = shelfE val (as1 ++ a' :: as2) (ps1 ++ (k, s') :: ps2) := by
  rw [shelfE_append val hl, shelfE_append val hl]
  exact putA_at (shelfE_none val h)
theorem shelfE_new (val : α → σ → Value) {k : κ} {asX : List α} {ps : List (κ × σ)} {a : α} {s : σ} (hl : asX.length = ps.length) (h : getA k ps = none) : putA k (val a s) (shelfE val asX ps) = shelfE val (asX ++ [a]) (ps ++ [(k, s)]) := by
  rw [putA_new (shelfE_none val h), shelfE_append val hl]; rfl

/-! ### Maps of data -/
section
variable {β : Type} {enc : κ → Value} {e : β → Value} {l : List (κ × β)} {KF : Value → Prop} {C : World → Prop}
end

end

section
variable {P : Program} {w0 : World} {g : Bool} {ok : Nat → Prop} {L : List Item}
/-- A call in an open order that changes what is owned. -/
theorem c_callH {KE : Value → List Item → Prop} {f : FuncId} {args : List Value} (G : Value → List Item → Prop) (hg : g = true) (hh : hasF (default : Hard).l f = true) (hb : bodyB P f = true) (hc : ∀ w, Own ok w0 w L → Calls P f args.toArray w fun e w' => ∃ u, e = .returned u ∧ ∃ L', G u L' ∧ Own ok w0 w' L') (hk : ∀ v L', G v L' → KE v L') : cCall P g f args ok w0 L KE := by
  subst hg
  unfold cCall
  refine cEv_in ⟨G, fun h => (by rw [hh] at h; cases h), fun w H => ⟨fun _ => ?_, fun h => by cases h⟩, fun v L' hv _ => hk v L' hv⟩
  rw [run_callFunc hb]
  refine Calls.mono (hc w H) fun e w' ⟨u, he, hu⟩ => ?_
  subst he
  exact hu
end

/-! ### Shelves of rows, and of objects behind pointers -/
abbrev rowVal {α : Type} (a : Option Addr × Nat × List Value) (s : List α) : Value := .slice a.1 s.length a.2.1
def rowI {α κ : Type} (k : Ty α) (e : TypeId) (a : Option Addr × Nat × List Value) (p : κ × List α) : List Item := [.dat (dRows k p.2 a.2.2), .row (.slice a.1 p.2.length a.2.1) e k.sz p.2.length a.2.2]
section
variable {P : Program} {w w' w0 : World} {K : Value → World → Prop} {g : Bool} {ok : Nat → Prop} {L R : List Item} {α σ κ : Type} [DecidableEq κ]
theorem Own.objAs {κ : Type} {enc : κ → Value} {l l' : List (κ × Value)} (H : Own ok w0 w L) (i : Nat) {b : Nat} (hi : L[i]? = some (.obj b (mapOk enc l))) (e : l = l') : Own ok w0 w (L.set i (.obj b (mapOk enc l'))) := by
  subst e
  have e : L.set i (.obj b (mapOk enc l)) = L := by
    obtain ⟨A, B, e, hs⟩ := list_split hi
    rw [hs, e]
  rw [e]; exact H
theorem lookup_rule2V {enc : κ → Value} {l : List (κ × Value)} {t kt et : TypeId} {z : Value} (ht : mapB P t = some (kt, et)) (hz : zeroB P et = some z) (KK : MKey P kt enc) (a : κ) (H : Own ok w0 w L) (i : Nat) {b : Nat} (hi : L[i]? = some (.obj b (mapOk enc l))) (v : Value) (f : Bool) (hv : (getA a l).getD z = v) (hf : (getA a l).isSome = f) (hk : K (.tuple #[v, .bool f]) w) : nLookup P g t (.map (some b)) (enc a) true w K :=
  lookup_rule2 ht hz KK a H i hi (by rw [hv, hf]; exact hk)
theorem makeS_rule {enc : κ → Value} {f : α → (κ × σ) → List Item} (val : α → σ → Value) {t : TypeId} (H : Own ok w0 w L) (hk : ∀ b w', Own ok w0 w' (.obj b (mapOk enc (shelfE val [] [])) :: box (shelfL f [] []) :: L) → K (.map (some b)) w') : nMakeMap P true t none w K :=
  makeMap_rule H.shelf0 hk

/-- A row is taken off a shelf (if there is none: an empty one). -/
theorem Own.rowOff {τ : Type} {k : Ty τ} {e : TypeId} {asX : List (Option Addr × Nat × List Value)} {xs : List (κ × List τ)} (H : Own ok w0 w (box (shelfL (rowI k e) asX xs) :: R)) (key : κ) :
    ∃ A c cs gp, (getA key (shelfE rowVal asX xs)).getD (.slice none 0 0) = .slice A ((getA key xs).getD []).length c ∧
      (∀ {w' : World} {R' : List Item} {A' : Option Addr} {c' : Nat} {cs' : List Value} {ys : List τ}, Own ok w0 w' (.dat (dRows k ys cs') :: .row (.slice A' ys.length c') e k.sz ys.length cs' :: box gp :: R') → ∃ asX', putA key (.slice A' ys.length c') (shelfE rowVal asX xs) = shelfE rowVal asX' (putA key ys xs) ∧ Own ok w0 w' (box (shelfL (rowI k e) asX' (putA key ys xs)) :: R')) ∧
      (∀ {w' : World} {R' : List Item}, Own ok w0 w' (.dat (dRows k ((getA key xs).getD []) cs) :: .row (.slice A ((getA key xs).getD []).length c) e k.sz ((getA key xs).getD []).length cs :: box gp :: R') → Own ok w0 w' (box (shelfL (rowI k e) asX xs) :: R')) ∧
      Own ok w0 w (.dat (dRows k ((getA key xs).getD []) cs) :: .row (.slice A ((getA key xs).getD []).length c) e k.sz ((getA key xs).getD []).length cs :: box gp :: R) := by
  cases hg : getA key xs with
  | none =>
    have hl := H.shelfLen 0 rfl
    refine ⟨none, 0, [], shelfL (rowI k e) asX xs, ?_, fun {w' R' A' c' cs' ys} H' => ?_, fun {w' R'} H' => H'.tail.tail, H.nilRowD k e⟩
    · rw [shelfE_none rowVal hg]; rfl
    · refine ⟨asX ++ [(A', c', cs')], ?_, ?_⟩
      · rw [putA_new hg]; exact shelfE_new rowVal (a := (A', c', cs')) (s := ys) hl hg
      · rw [putA_new hg]
        exact (Own.shut (M := rowI k e (A', c', cs') (key, ys)) (R := box (shelfL (rowI k e) asX xs) :: R') H').putNew
  | some s =>
    obtain ⟨l1, l2, rfl, hn⟩ := getA_split hg
    obtain ⟨as1, a, as2, rfl, h1, h2, H1⟩ := H.takeOff
    refine ⟨a.1, a.2.1, a.2.2, gap (rowI k e) as1 l1 as2 l2, ?_, fun {w' R' A' c' cs' ys} H' => ?_, fun {w' R'} H' => ?_, H1.unshut⟩
    · rw [shelfE_get rowVal h1 hn]; rfl
    · refine ⟨as1 ++ (A', c', cs') :: as2, ?_, ?_⟩
      · rw [putA_at hn]; exact shelfE_put rowVal (a' := (A', c', cs')) (s' := ys) h1 hn
      · rw [putA_at hn]
        exact (Own.shut (M := rowI k e (A', c', cs') (key, ys)) (R := box (gap (rowI k e) as1 l1 as2 l2) :: R') H').putBack
    · exact (Own.shut (M := rowI k e a (key, s)) (R := box (gap (rowI k e) as1 l1 as2 l2) :: R') H').putBack
theorem c_skipLU {g : Bool} {t : TypeId} {x k : Value} {b : Bool} {C : World → Prop} {KF : Value → Prop} (v : Value) (hg : g = false) (hk : KF v) : cLookup P g t x k b C KF := by
  subst hg; unfold cLookup cFloat; exact ⟨v, fun h => (by cases h), hk⟩
theorem c_append1S {KE : Value → List Item → Prop} {α : Type} {k : Ty α} {t ty e e' : TypeId} {n b c : Nat} {z v : Value} {xs : List α} {x : α} {cells news : List Value} {consts : Array Bool} (by_ : Nat) (i j : Nat) (hi : L[i]? = some (.row v e k.sz n cells)) (hj : L[j]? = some (.dat (dRows k xs cells))) (hn : n = xs.length) (hx : ∀ w, Own ok w0 w (.blk b news e' :: L) → k.R w (okOf ok w0 (.blk b news e' :: L)) x news)
    (ht : sliceB P t = some e) (hinfo : infoB P e = some (some z, k.sz, by_)) (hzl : z.cells.toList.length = k.sz) (hpos : Nat.blt 0 k.sz = true) (hb : (xs.length + 1) * by_ ≤ 140737488355328) (hby : Nat.blt 0 by_ = true)
    (hk : ∀ A c cells', KE (.slice A (xs ++ [x]).length c) ((L.set i (.row (.slice A (xs ++ [x]).length c) e k.sz (xs ++ [x]).length cells')).set j (.dat (dRows k (xs ++ [x]) cells')))) : cBuiltin P true .append [t, t] ty [v, .slice (some ⟨b, 0, none⟩) 1 c] consts ok w0 (.blk b news e' :: L) KE := by
  unfold cBuiltin
  refine cEv_in ⟨fun u L' => ∃ A c cells', u = .slice A (xs ++ [x]).length c ∧ L' = (L.set i (.row u e k.sz (xs ++ [x]).length cells')).set j (.dat (dRows k (xs ++ [x]) cells')), fun h => (by cases h), fun w H => ?_, fun u L' h _ => by obtain ⟨A, c, cells', rfl, rfl⟩ := h; exact hk A c cells'⟩
  have hij : i ≠ j := fun h => by subst h; rw [hi] at hj; cases hj
  have h := own_append1 (P := P) (K := fun u w' => ∃ L', (∃ A c cells', u = .slice A (xs ++ [x]).length c ∧ L' = (L.set i (.row u e k.sz (xs ++ [x]).length cells')).set j (.dat (dRows k (xs ++ [x]) cells'))) ∧ Own ok w0 w' L') (c := c) (ty := ty) (consts := consts) by_ H i j hi hj hn (hx w H) ht hinfo hzl hpos hb hby (fun v' cells' w' H' => by
    have hi2 : ((L.set i (.row v' e k.sz (xs ++ [x]).length cells')).set j (.dat (dRows k (xs ++ [x]) cells')))[i]? = some (.row v' e k.sz (xs ++ [x]).length cells') := by
      rw [List.getElem?_set_ne (Ne.symm hij)]
      exact List.getElem?_set_self (List.getElem?_eq_some_iff.1 hi).1
    obtain ⟨A, c, rfl, _, _⟩ := H'.rowSl i hi2
    exact ⟨_, ⟨A, c, cells', rfl, rfl⟩, H'⟩)
  unfold nBuiltin at h
  exact nOp_out h
/-- What stands in a shelf of rows, looked at only. -/
theorem Own.rowPeek {τ : Type} {k : Ty τ} {e : TypeId} {asX : List (Option Addr × Nat × List Value)} {xs : List (κ × List τ)} (H : Own ok w0 w L) (i : Nat) (hi : L[i]? = some (box (shelfL (rowI k e) asX xs))) (key : κ) :
    ∃ A c, (getA key (shelfE rowVal asX xs)).getD (.slice none 0 0) = .slice A ((getA key xs).getD []).length c := by
  obtain ⟨A1, B1, e1, _⟩ := list_split hi
  rw [e1] at H
  obtain ⟨A, c, _, _, h, _⟩ := Own.rowOff (H.perm List.perm_middle) key
  exact ⟨A, c, h⟩
/-! ### Rows of pointers, what stands behind them on a shelf -/
end

/-! ### Maps of data that hang on memory -/
section
variable {P : Program} {w w' w0 : World} {K : Value → World → Prop} {g : Bool} {ok : Nat → Prop} {L R : List Item} {α κ : Type}
/-- Entries, and what they stand for. -/
def entsR (k : Ty α) (w : World) (ok : Nat → Prop) : List (κ × Value) → List (κ × α) → Prop
  | [], [] => True
  | v :: vs, x :: xs => (v.1 = x.1 ∧ ∃ cs, v.2 = .agg cs.toArray ∧ k.R w ok x.2 cs) ∧ entsR k w ok vs xs
  | _, _ => False
theorem entsR_mono {k : Ty α} {w : World} {ok ok' : Nat → Prop} (hk : ∀ b, ok b → ok' b) : ∀ {vs : List (κ × Value)} {xs : List (κ × α)}, entsR k w ok vs xs → entsR k w ok' vs xs
  | [], [], _ => trivial
  | _ :: _, _ :: _, ⟨⟨h1, cs, h2, h3⟩, h4⟩ => ⟨⟨h1, cs, h2, k.mono hk h3⟩, entsR_mono hk h4⟩
  | [], _ :: _, h => h.elim
  | _ :: _, [], h => h.elim
theorem entsR_step {k : Ty α} {w w' : World} {ok : Nat → Prop} (hk : ∀ b, ok b → b < w.heap.size → w'.heap[b]? = w.heap[b]?) : ∀ {vs : List (κ × Value)} {xs : List (κ × α)}, entsR k w ok vs xs → entsR k w' ok vs xs
  | [], [], _ => trivial
  | _ :: _, _ :: _, ⟨⟨h1, cs, h2, h3⟩, h4⟩ => ⟨⟨h1, cs, h2, k.step hk h3⟩, entsR_step hk h4⟩
  | [], _ :: _, h => h.elim
  | _ :: _, [], h => h.elim
theorem entsR_bound {k : Ty α} {w : World} {ok : Nat → Prop} : ∀ {vs : List (κ × Value)} {xs : List (κ × α)}, entsR k w ok vs xs → entsR k w (fun b => ok b ∧ b < w.heap.size) vs xs
  | [], [], _ => trivial
  | _ :: _, _ :: _, ⟨⟨h1, cs, h2, h3⟩, h4⟩ => ⟨⟨h1, cs, h2, k.bound h3⟩, entsR_bound h4⟩
  | [], _ :: _, h => h.elim
  | _ :: _, [], h => h.elim
def dEnts (k : Ty α) (vs : List (κ × Value)) (xs : List (κ × α)) : Dat := ⟨fun w ok => entsR k w ok vs xs, fun hk h => entsR_mono hk h, fun hk h => entsR_step hk h, fun h => entsR_bound h⟩
variable [DecidableEq κ]
theorem entsR_get {k : Ty α} {w : World} {ok : Nat → Prop} (key : κ) {d : α} {zs : List Value} (hz : k.R w ok d zs) : ∀ {vs : List (κ × Value)} {xs : List (κ × α)}, entsR k w ok vs xs → (getA key vs).isSome = (getA key xs).isSome ∧ ∃ cs, (getA key vs).getD (.agg zs.toArray) = .agg cs.toArray ∧ k.R w ok ((getA key xs).getD d) cs
  | [], [], _ => ⟨rfl, zs, rfl, hz⟩
  | v :: vs, x :: xs, ⟨⟨h1, cs, h2, h3⟩, h4⟩ => by
    have ih := entsR_get key hz h4
    simp only [getA]
    rw [h1]
    by_cases h : key = x.1
    · rw [if_pos h, if_pos h]; exact ⟨rfl, cs, h2, h3⟩
    · rw [if_neg h, if_neg h]; exact ih
  | [], _ :: _, h => h.elim
  | _ :: _, [], h => h.elim
theorem entsR_put {k : Ty α} {w : World} {ok : Nat → Prop} (key : κ) {x : α} {cs : List Value} (hx : k.R w ok x cs) : ∀ {vs : List (κ × Value)} {xs : List (κ × α)}, entsR k w ok vs xs → entsR k w ok (putA key (.agg cs.toArray) vs) (putA key x xs)
  | [], [], _ => ⟨⟨rfl, cs, rfl, hx⟩, trivial⟩
  | v :: vs, y :: xs, ⟨⟨h1, cs', h2, h3⟩, h4⟩ => by
    have ih := entsR_put key hx h4
    simp only [putA]
    rw [h1]
    by_cases h : key = y.1
    · rw [if_pos h, if_pos h]; exact ⟨⟨rfl, cs, rfl, hx⟩, h4⟩
    · rw [if_neg h, if_neg h]; exact ⟨⟨h1, cs', h2, h3⟩, ih⟩
  | [], _ :: _, h => h.elim
  | _ :: _, [], h => h.elim
theorem Own.datOff {k : Ty α} {vs : List (κ × Value)} {xs : List (κ × α)} (H : Own ok w0 w L) (i : Nat) (hi : L[i]? = some (.dat (dEnts k vs xs))) (key : κ) {d : α} {zs : List Value} (hz : k.R w (okOf ok w0 L) d zs) :
    (getA key vs).isSome = (getA key xs).isSome ∧ ∃ cs, (getA key vs).getD (.agg zs.toArray) = .agg cs.toArray ∧ k.R w (okOf ok w0 L) ((getA key xs).getD d) cs := entsR_get key hz (H.dat i hi)
theorem Own.datPut {k : Ty α} {vs : List (κ × Value)} {xs : List (κ × α)} {x : α} {cs : List Value} (H : Own ok w0 w L) (i : Nat) (hi : L[i]? = some (.dat (dEnts k vs xs))) (key : κ) (hx : k.R w (okOf ok w0 L) x cs) : Own ok w0 w (L.set i (.dat (dEnts k (putA key (.agg cs.toArray) vs) (putA key x xs)))) :=
  H.setDat i hi (entsR_put key hx (H.dat i hi))
end

/-! ### Calls in an open order -/
def allN : List Nat → Nat → Bool
  | _, 0 => true
  | is, n + 1 => is.contains n && allN is n
theorem allN_ok {is : List Nat} : ∀ {n : Nat}, allN is n = true → ∀ j, j < n → j ∈ is
  | 0, _, j, h => absurd h (Nat.not_lt_zero _)
  | n + 1, h, j, hj => by
    simp only [allN, Bool.and_eq_true] at h
    rcases Nat.lt_or_ge j n with k | k
    · exact allN_ok h.2 j k
    · have : j = n := by omega
      subst this
      exact List.contains_iff_mem.1 h.1
def permB (is : List Nat) (n : Nat) : Bool := nodupB is && is.all (Nat.blt · n) && allN is n
theorem pickI_map : ∀ {L : List Item} {is : List Nat}, (∀ i ∈ is, i < L.length) → pickI L is = is.filterMap (L[·]?)
  | L, [], _ => rfl
  | L, i :: r, h => by
    have hi := h i List.mem_cons_self
    have ih := pickI_map (L := L) (is := r) fun j hj => h j (List.mem_cons_of_mem _ hj)
    simp only [pickI, List.filterMap_cons]
    rw [List.getElem?_eq_getElem hi, ih]
theorem range_map {α : Type} (L : List α) : (List.range L.length).filterMap (L[·]?) = L := by
  induction L with
  | nil => rfl
  | cons x L ih =>
    rw [List.length_cons, List.range_succ_eq_map, List.filterMap_cons]
    simp only [List.getElem?_cons_zero, List.filterMap_map]
    exact congrArg (x :: ·) ih
theorem perm_of_mem : ∀ {a b : List Nat}, a.Nodup → b.Nodup → (∀ x, x ∈ a ↔ x ∈ b) → a.Perm b
  | [], b, _, _, h => by
    cases b with
    | nil => exact List.Perm.refl _
    | cons y b => exact absurd ((h y).2 List.mem_cons_self) (by simp)
  | x :: a, b, ha, hb, h => by
    obtain ⟨h1, h2⟩ := List.nodup_cons.1 ha
    obtain ⟨b1, b2, rfl⟩ := List.append_of_mem ((h x).1 List.mem_cons_self)
    have hb' : (x :: (b1 ++ b2)).Nodup := (List.perm_middle.nodup_iff).1 hb
    obtain ⟨h3, h4⟩ := List.nodup_cons.1 hb'
    refine (List.Perm.cons x (perm_of_mem h2 h4 fun y => ⟨fun hy => ?_, fun hy => ?_⟩)).trans List.perm_middle.symm
    · have := (h y).1 (List.mem_cons_of_mem _ hy)
      have hne : y ≠ x := fun e => h1 (e ▸ hy)
      rcases List.mem_append.1 this with k | k
      · exact List.mem_append.2 (.inl k)
      · rcases List.mem_cons.1 k with k | k
        · exact absurd k hne
        · exact List.mem_append.2 (.inr k)
    · have hne : y ≠ x := fun e => h3 (e ▸ hy)
      have := (h y).2 (by
        rcases List.mem_append.1 hy with k | k
        · exact List.mem_append.2 (.inl k)
        · exact List.mem_append.2 (.inr (List.mem_cons_of_mem _ k)))
      rcases List.mem_cons.1 this with k | k
      · exact absurd k hne
      · exact k
theorem pickI_perm {L : List Item} {is : List Nat} (h : permB is L.length = true) : (pickI L is).Perm L := by
  simp only [permB, Bool.and_eq_true] at h
  obtain ⟨⟨h1, h2⟩, h3⟩ := h
  have hnd := nodupB_ok h1
  have hall := allN_ok h3
  have hlt0 : ∀ i ∈ is, i < L.length := fun i hi => Nat.le_of_ble_eq_true (List.all_eq_true.1 h2 i hi)
  have hp : (List.range L.length).Perm is := perm_of_mem List.nodup_range hnd fun j => ⟨fun h => hall j (List.mem_range.1 h), fun h => List.mem_range.2 (hlt0 j h)⟩
  have hlt : ∀ i ∈ is, i < L.length := fun i hi => List.mem_range.1 (hp.mem_iff.2 hi)
  rw [pickI_map hlt]
  have := hp.symm.filterMap (L[·]?)
  rwa [range_map] at this
section
variable {P : Program} {w0 : World} {g : Bool} {ok : Nat → Prop} {L : List Item}
/-- A call that changes the first n of what is chosen. -/
theorem c_callM {KE : Value → List Item → Prop} {f : FuncId} {args : List Value} (is : List Nat) (n : Nat) (G : Value → List Item → Prop) (hg : g = true) (hh : hasF (default : Hard).l f = true) (hb : bodyB P f = true) (hn : nodupP L is = true)
    (hc : ∀ w, Own ok w0 w (pickI L is) → Calls P f args.toArray w fun e w' => ∃ u, e = .returned u ∧ ∃ X, G u X ∧ Own ok w0 w' (X ++ (pickI L is).drop n)) (hk : ∀ v X, G v X → KE v (X ++ (pickI L is).drop n)) : cCall P g f args ok w0 L KE := by
  refine c_callH (fun v L' => ∃ X, G v X ∧ L' = X ++ (pickI L is).drop n) hg hh hb (fun w H => (hc w (H.pickL is hn)).mono fun e w' ⟨u, he, X, hG, H'⟩ => ⟨u, he, _, ⟨X, hG, rfl⟩, H'⟩) fun v L' ⟨X, hG, hL⟩ => by subst hL; exact hk v X hG
/-- A call that only reads what is chosen, held asX one. -/
theorem c_callRd {KE : Value → List Item → Prop} {f : FuncId} {args : List Value} (is : List Nat) (n : Nat) (M : List Item) (G : Value → List Dat → Prop) (hg : g = true) (hb : bodyB P f = true) (hp : permB is L.length = true) (hM : (pickI L is).take n = M)
    (hc : ∀ w, Own ok w0 w (box M :: (pickI L is).drop n) → Calls P f args.toArray w fun e w' => ∃ u, e = .returned u ∧ ∃ ds : List Dat, G u ds ∧ Own ok w0 w' (ds.map .dat ++ (box M :: (pickI L is).drop n))) (hk : ∀ v ds, G v ds → KE v (ds.map .dat ++ L)) : cCall P g f args ok w0 L KE := by
  have hper := pickI_perm hp
  refine c_callOwn (fun v L' => ∃ ds : List Dat, G v ds ∧ L' = ds.map .dat ++ L) hg hb (fun v L' ⟨ds, _, hL⟩ => by subst hL; exact List.sublist_append_right _ _) (fun w H => ?_) fun v L' ⟨ds, hG, hL⟩ => by subst hL; exact hk v ds hG
  have H1 : Own ok w0 w (box M :: (pickI L is).drop n) := by
    subst hM
    exact Own.shut (by rw [List.take_append_drop]; exact H.perm hper.symm)
  refine (hc w H1).mono fun e w' ⟨u, he, ds, hG, H'⟩ => ⟨u, he, _, ⟨ds, hG, rfl⟩, ?_⟩
  subst hM
  have H2 : Own ok w0 w' ((pickI L is).take n ++ ((pickI L is).drop n ++ ds.map .dat)) := Own.unshut (H'.perm (List.perm_append_comm (l₁ := ds.map Item.dat)))
  rw [← List.append_assoc, List.take_append_drop] at H2
  exact H2.perm ((List.perm_append_comm).trans (List.Perm.append_left _ hper))
end

section
variable {P : Program} {w w0 : World} {K : Value → World → Prop} {g : Bool} {ok : Nat → Prop} {L : List Item}
end
end Go.Eng
