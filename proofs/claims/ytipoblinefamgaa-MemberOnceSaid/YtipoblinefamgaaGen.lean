/- What printed walks lean on: models in Option, loops without a bound on rounds, and the rules in the printed texts' own words. -/
import Derived.Test.YtipoblinefamgaaEqual
import Derived.Test.YtipoblinefamgaaMaps
import Derived.Test.YtipoblinefamgaaPieces
import Derived.Test.YtipoblinefamgaaMore
set_option linter.unusedVariables false
namespace Go.Eng
open Go.RowKit
set_option linter.unusedSectionVars false
variable [Inhabited Keep] [Inhabited Hard]

/-! ### Models -/
theorem bindS {α β : Type} {x : Option α} {f : α → Option β} {r : β} (h : x.bind f = some r) : ∃ y, x = some y ∧ f y = some r := by
  cases x with
  | none => cases h
  | some y => exact ⟨y, rfl, h⟩
theorem condT {α : Type} {c : Bool} {a b x : α} (hc : c = true) (h : cond c a b = x) : a = x := by subst hc; exact h
theorem condF {α : Type} {c : Bool} {a b x : α} (hc : c = false) (h : cond c a b = x) : b = x := by subst hc; exact h
def idxL {α : Type} (xs : List α) : Int → Option α
  | .ofNat n => xs[n]?
  | .negSucc _ => none
theorem idxL_nat {α : Type} (xs : List α) (n : Nat) : idxL xs (n : Int) = xs[n]? := rfl
theorem idxL_some {α : Type} {xs : List α} {x : Int} {y : α} (h : idxL xs x = some y) : 0 ≤ x ∧ x < (xs.length : Int) ∧ xs[x.toNat]? = some y := by
  cases x with
  | ofNat n =>
    have h : xs[n]? = some y := h
    have := (List.getElem?_eq_some_iff.1 h).1
    refine ⟨Int.natCast_nonneg _, ?_, h⟩
    show (n : Int) < _
    omega
  | negSucc n => cases h
def idxS (s : List UInt8) (x : Int) : Option Int := (idxL s x).map fun b => (b.toNat : Int)
theorem idxS_some {s : List UInt8} {x y : Int} (h : idxS s x = some y) : ∃ b, s[x.toNat]? = some b ∧ y = (b.toNat : Int) ∧ 0 ≤ x := by
  unfold idxS at h
  cases hb : idxL s x with
  | none => rw [hb] at h; cases h
  | some b =>
    rw [hb] at h
    cases h
    exact ⟨b, (idxL_some hb).2.2, rfl, (idxL_some hb).1⟩
def roomM {α : Type} (b n : Nat) (x : Option α) : Option α := if n * b ≤ 140737488355328 then x else none
theorem roomS {α : Type} {b n : Nat} {x : Option α} {r : α} (h : roomM b n x = some r) : n * b ≤ 140737488355328 ∧ x = some r := by
  unfold roomM at h
  split at h
  · exact ⟨by assumption, h⟩
  · cases h
def slcM {α : Type} (xs : List α) (lo hi : Int) : Option (List α) := if 0 ≤ lo ∧ lo ≤ hi ∧ hi ≤ (xs.length : Int) then some ((xs.drop lo.toNat).take (hi.toNat - lo.toNat)) else none
theorem slcS {α : Type} {xs y : List α} {lo hi : Int} (h : slcM xs lo hi = some y) : 0 ≤ lo ∧ lo ≤ hi ∧ hi ≤ (xs.length : Int) ∧ y = (xs.drop lo.toNat).take (hi.toNat - lo.toNat) := by
  unfold slcM at h
  split at h
  · rename_i g; cases h; exact ⟨g.1, g.2.1, g.2.2, rfl⟩
  · cases h
def remM (a b : Int) : Option Int := if b = 0 then none else some (a.tmod b)
theorem remS {a b y : Int} (h : remM a b = some y) : b ≠ 0 ∧ y = a.tmod b := by
  unfold remM at h
  split at h
  · cases h
  · cases h; exact ⟨by assumption, rfl⟩
def shlM (k : IntKind) (a b : Int) : Option Int := if 0 ≤ b then some (k.wrap (a * 2 ^ min b.toNat k.bits)) else none
theorem shlS {k : IntKind} {a b y : Int} (h : shlM k a b = some y) : 0 ≤ b ∧ y = k.wrap (a * 2 ^ min b.toNat k.bits) := by
  unfold shlM at h
  split at h
  · cases h; exact ⟨by assumption, rfl⟩
  · cases h
def maxI (x y : Int) : Int := if y > x then y else x
def strEq (a b : List UInt8) : Bool := (bs a).toList == (bs b).toList
def strLt (a b : List UInt8) : Bool := Op.bytesLess (bs a).toList (bs b).toList
theorem strEq_eq (a b : List UInt8) : strEq a b = decide (a = b) := by
  unfold strEq; rw [bs_toList, bs_toList, Bool.eq_iff_iff]; simp
def givenM {α : Type} (p : Prop) [Decidable p] (x : Option α) : Option α := if p then x else none
theorem givenS {α : Type} {p : Prop} [Decidable p] {x : Option α} {r : α} (h : givenM p x = some r) : p ∧ x = some r := by
  unfold givenM at h
  split at h
  · exact ⟨by assumption, h⟩
  · cases h
theorem given_of {α : Type} {p : Prop} [Decidable p] (hp : p) (x : Option α) : givenM p x = x := by unfold givenM; rw [if_pos hp]

/-! Loops: rounds of a body, until it is done. -/
def iterM {S O : Type} (body : S → Option (S ⊕ O)) : Nat → S → Option O
  | 0, _ => none
  | n + 1, s => (body s).bind fun | .inl s' => iterM body n s' | .inr o => some o
theorem iterS {S O : Type} {body : S → Option (S ⊕ O)} {n : Nat} {s : S} {o : O} (h : iterM body n s = some o) : ∃ k, n = k + 1 ∧ ∃ q, body s = some q ∧ (match q with | .inl s' => iterM body k s' = some o | .inr o' => o' = o) := by
  cases n with
  | zero => cases h
  | succ k =>
    obtain ⟨q, hq, h⟩ := bindS h
    refine ⟨k, rfl, q, hq, ?_⟩
    cases q with
    | inl s' => exact h
    | inr o' => exact Option.some.inj h
theorem iterM_up {S O : Type} {body : S → Option (S ⊕ O)} : ∀ {n m : Nat} {s : S} {o : O}, n ≤ m → iterM body n s = some o → iterM body m s = some o := by
  intro n
  induction n with
  | zero => intro m s o _ h; cases h
  | succ n ih =>
    intro m s o hm h
    obtain ⟨m, rfl⟩ : ∃ k, m = k + 1 := ⟨m - 1, by omega⟩
    obtain ⟨k, hk, q, hq, h⟩ := iterS h
    cases hk
    simp only [iterM, hq, Option.bind_some]
    cases q with
    | inl s' => exact ih (by omega) h
    | inr o' => exact congrArg some h
/-- As many rounds as are reckoned out; who goes on longer is told of by what there is. -/
abbrev bigM : Nat := 9223372036854775808
noncomputable def endM {S O : Type} (body : S → Option (S ⊕ O)) (s : S) : Option O := by
  classical
  exact if h : ∃ o n, iterM body n s = some o then some h.choose else none
noncomputable def loopM {S O : Type} (body : S → Option (S ⊕ O)) (s : S) : Option O := (iterM body bigM s).or (endM body s)
theorem loopS {S O : Type} {body : S → Option (S ⊕ O)} {s : S} {o : O} (h : loopM body s = some o) : ∃ n, iterM body n s = some o := by
  unfold loopM at h
  cases hb : iterM body bigM s with
  | some x =>
    rw [hb] at h
    exact ⟨_, hb.trans h⟩
  | none =>
    rw [hb] at h
    replace h : endM body s = some o := h
    unfold endM at h
    split at h
    · rename_i hx
      cases h
      exact hx.choose_spec
    · cases h
theorem iter_one {S O : Type} {body : S → Option (S ⊕ O)} {s : S} {o o' : O} {n m : Nat} (h : iterM body n s = some o) (hm : iterM body m s = some o') : o = o' := by
  have h1 := iterM_up (Nat.le_max_left n m) h
  have h2 := iterM_up (Nat.le_max_right n m) hm
  rw [h1] at h2
  exact Option.some.inj h2
theorem loop_of {S O : Type} {body : S → Option (S ⊕ O)} {s : S} {o : O} (n : Nat) (h : iterM body n s = some o) : loopM body s = some o := by
  unfold loopM
  cases hb : iterM body bigM s with
  | some x => rw [iter_one hb h]; rfl
  | none =>
    show endM body s = some o
    unfold endM
    have hx : ∃ o n, iterM body n s = some o := ⟨o, n, h⟩
    rw [dif_pos hx]
    obtain ⟨m, hm⟩ := hx.choose_spec
    exact congrArg some (iter_one hm h)
theorem loop_step {S O : Type} {body : S → Option (S ⊕ O)} {s s' : S} {o : O} (hb : body s = some (.inl s')) (h : loopM body s' = some o) : loopM body s = some o := by
  obtain ⟨n, hn⟩ := loopS h
  exact loop_of (n + 1) (by simp only [iterM, hb, Option.bind_some]; exact hn)
theorem loop_end {S O : Type} {body : S → Option (S ⊕ O)} {s : S} {o : O} (hb : body s = some (.inr o)) : loopM body s = some o := loop_of 1 (by simp only [iterM, hb, Option.bind_some])
/-- A loop that counts: the state before the i-th round. -/
theorem loop_up {S O : Type} {body : S → Option (S ⊕ O)} (st : Nat → S) (n : Nat) (hs : ∀ i, i < n → body (st i) = some (.inl (st (i + 1)))) {o : O} (he : body (st n) = some (.inr o)) : ∀ k i, i + k = n → loopM body (st i) = some o := by
  intro k
  induction k with
  | zero => intro i hi; obtain rfl : i = n := by omega
            exact loop_end he
  | succ k ih => intro i hi; exact loop_step (hs i (by omega)) (ih (i + 1) (by omega))
theorem loop_count {S O : Type} {body : S → Option (S ⊕ O)} (st : Nat → S) (n : Nat) (hs : ∀ i, i < n → body (st i) = some (.inl (st (i + 1)))) {o : O} (he : body (st n) = some (.inr o)) : loopM body (st 0) = some o := loop_up st n hs he n 0 (by omega)

/-! Functions that call themselves: by how deep. -/
/-! ### Code, a statement at a time -/
section
variable {P : Program} {ro : Option Nat} {n : Nat} {ds : List Nat} {x y : Code} {e : Env} {w : World} {K : EK}
theorem nc_seq (h : nCode P ro n ds x e w (thenK P ro n y K)) : nCode P ro n ds (.seq x y) e w K :=
  nCode_in fun a hf => wpIn_seq (wpIn_mono (nCode_out h a hf) fun ex a' w' hq => by
    obtain ⟨ds', e', hf', hk⟩ := hq
    cases ex with
    | normal => exact nCode_out hk a' hf'
    | _ => exact ⟨ds', e', hf', hk⟩)
theorem nc_block {id : Nat} (h : nCode P ro n ds x e w (blockK id K)) : nCode P ro n ds (.block id x) e w K :=
  nCode_in fun a hf => wpIn_block (wpIn_mono (nCode_out h a hf) fun ex a' w' hq => by
    obtain ⟨ds', e', hf', hk⟩ := hq
    cases ex with
    | exit id' =>
      simp only [blockK] at hk
      simp only [Exit.inBlock]
      split at hk
      · rename_i hb
        have := Nat.eq_of_beq_eq_true hb
        rw [if_pos this]; exact ⟨ds', e', hf', hk⟩
      · rename_i hb
        rw [if_neg (fun he => by subst he; simp at hb)]
        exact ⟨ds', e', hf', hk⟩
    | _ => exact ⟨ds', e', hf', hk⟩)
theorem nc_cond {c : Operand} {b : Bool} (hc : opnd e [] [] c = some (.bool b)) (ht : b = true → nCode P ro n ds x e w K) (hf : b = false → nCode P ro n ds y e w K) : nCode P ro n ds (.cond c x y) e w K :=
  nCode_in fun a hfit => wpIn_cond_split (opnd_at hfit.g (fun _ h => by cases h) hc) (fun h => nCode_out (ht h) a hfit) (fun h => nCode_out (hf h) a hfit)
end

/-! ### What is owned -/
section
variable {ok : Nat → Prop} {w0 w w' : World} {L : List Item}
theorem Own.arg {α : Type} {k : Ty α} {v : Value} {xs : List α} (H : Own ok w w L) (hL : muts L = []) (h : slR k w ok v xs) : ∃ A c, v = .slice A xs.length c ∧ Own ok w w (.dat (dSl k (.slice A xs.length c) xs) :: L) := by
  have H1 := H.addDat (dSl k v xs) ((dSl k v xs).mono (fun b hb => ⟨.inl hb, by rw [hL]; exact List.not_mem_nil⟩) h)
  obtain ⟨A, c, rfl, _⟩ := H1.sl 0 rfl
  exact ⟨A, c, rfl, H1⟩
theorem Own.openD {α : Type} {k : Ty α} {u : Value} {xs : List α} (H : Own ok w0 w L) (hu : slR k w (okOf ok w0 L) u xs) : ∃ A c, u = .slice A xs.length c ∧ Own ok w0 w (.dat (dSl k (.slice A xs.length c) xs) :: L) := by
  have H1 := H.addDat (dSl k u xs) hu
  obtain ⟨A, c, rfl, _⟩ := H1.sl 0 rfl
  exact ⟨A, c, rfl, H1⟩
theorem Own.elemI {α : Type} {k : Ty α} {A : Option Addr} {n c : Nat} {xs : List α} {x : Int} {y : α} (H : Own ok w0 w L) (i : Nat) (hi : L[i]? = some (.dat (dSl k (.slice A n c) xs))) (hx : idxL xs x = some y) :
    ∃ a cs, A = some a ∧ k.R w (okOf ok w0 L) y cs ∧ Own ok w0 w (.dat (dCells (a.add (x.toNat * k.sz)) cs) :: L) := by
  obtain ⟨h0, h1, h2⟩ := idxL_some hx
  have hj : x.toNat < xs.length := by omega
  obtain ⟨a, c', cs, hA, hR, H⟩ := H.elem i hi x.toNat hj
  rw [List.getElem?_eq_getElem hj] at h2
  cases h2
  injection hA with hA
  exact ⟨a, cs, hA, hR, H.less (List.Sublist.cons_cons _ (List.Sublist.cons _ (List.Sublist.refl _)))⟩
theorem Own.slLen {α : Type} {k : Ty α} {A : Option Addr} {n c : Nat} {xs : List α} (H : Own ok w0 w L) (i : Nat) (hi : L[i]? = some (.dat (dSl k (.slice A n c) xs))) : n = xs.length ∧ n ≤ c := by
  obtain ⟨A', c', h, hc⟩ := H.sl i hi
  cases h
  exact ⟨rfl, hc⟩
theorem Own.elemJ {α : Type} {k : Ty α} {a : Addr} {n c : Nat} {xs : List α} {x : Int} {y : α} (H : Own ok w0 w L) (i : Nat) (hi : L[i]? = some (.dat (dSl k (.slice (some a) n c) xs))) (hx : idxL xs x = some y) :
    ∃ cs, k.R w (okOf ok w0 L) y cs ∧ Own ok w0 w (.dat (dCells (a.add (x.toNat * k.sz)) cs) :: L) := by
  obtain ⟨a', cs, h, h1, h2⟩ := H.elemI i hi hx
  cases h
  exact ⟨cs, h1, h2⟩
/-- Some of the items, in whatever order. -/
def nodupB : List Nat → Bool
  | [] => true
  | x :: r => !(r.contains x) && nodupB r
theorem nodupB_ok : ∀ {l : List Nat}, nodupB l = true → l.Nodup
  | [], _ => List.nodup_nil
  | x :: r, h => by
    simp only [nodupB, Bool.and_eq_true, Bool.not_eq_true'] at h
    exact List.nodup_cons.2 ⟨fun hm => by rw [List.contains_iff_mem.2 hm] at h; exact absurd h.1 (by simp), nodupB_ok h.2⟩
def pickI (L : List Item) : List Nat → List Item
  | [] => []
  | i :: r => match L[i]? with
    | some it => it :: pickI L r
    | none => pickI L r
theorem pickI_mem {L : List Item} : ∀ {is : List Nat} {it : Item}, it ∈ pickI L is → ∃ i ∈ is, L[i]? = some it
  | [], it, h => by cases h
  | i :: r, it, h => by
    simp only [pickI] at h
    split at h
    · rename_i it' hi
      rcases List.mem_cons.1 h with h | h
      · subst h; exact ⟨i, List.mem_cons_self, hi⟩
      · obtain ⟨j, hj, h⟩ := pickI_mem h; exact ⟨j, List.mem_cons_of_mem _ hj, h⟩
    · obtain ⟨j, hj, h⟩ := pickI_mem h; exact ⟨j, List.mem_cons_of_mem _ hj, h⟩
theorem muts_apart : ∀ {L : List Item}, (muts L).Nodup → ∀ {i j : Nat} {a b : Item}, L[i]? = some a → L[j]? = some b → i ≠ j → ∀ g ∈ a.muts, g ∉ b.muts
  | [], _, i, j, a, b, hi, _, _ => by simp at hi
  | x :: L, h, i, j, a, b, hi, hj, hij => by
    have h' : (x.muts ++ muts L).Nodup := h
    obtain ⟨h1, h2, h3⟩ := List.nodup_append.1 h'
    intro g ga gb
    cases i with
    | zero =>
      cases j with
      | zero => exact hij rfl
      | succ j => cases hi; exact h3 g ga g (mem_muts.2 ⟨b, List.mem_of_getElem? hj, gb⟩) rfl
    | succ i =>
      cases j with
      | zero => cases hj; exact h3 g gb g (mem_muts.2 ⟨a, List.mem_of_getElem? hi, ga⟩) rfl
      | succ j => exact muts_apart h2 hi hj (fun e => hij (by rw [e])) g ga gb
theorem muts_one : ∀ {L : List Item}, (muts L).Nodup → ∀ {it : Item}, it ∈ L → it.muts.Nodup
  | [], _, it, hi => by cases hi
  | x :: L, h, it, hi => by
    have h' : (x.muts ++ muts L).Nodup := h
    obtain ⟨h1, h2, h3⟩ := List.nodup_append.1 h'
    rcases List.mem_cons.1 hi with k | k
    · subst k; exact h1
    · exact muts_one h2 k
def nodupP (L : List Item) : List Nat → Bool
  | [] => true
  | x :: r => (match L[x]? with | some (.dat _) => true | _ => !(r.contains x)) && nodupP L r
theorem Own.pickL (H : Own ok w0 w L) (is : List Nat) (hn : nodupP L is = true) : Own ok w0 w (pickI L is) := by
  refine H.sub (fun it hit => by obtain ⟨i, _, h⟩ := pickI_mem hit; exact List.mem_of_getElem? h) ?_
  have hnd := H.nd
  clear H
  induction is with
  | nil => exact List.nodup_nil
  | cons i r ih =>
    simp only [nodupP, Bool.and_eq_true] at hn
    obtain ⟨hi, hr⟩ := hn
    have ih := ih hr
    simp only [pickI]
    split
    · rename_i it hit
      show (it.muts ++ muts (pickI L r)).Nodup
      rw [hit] at hi
      cases it with
      | dat d => exact ih
      | _ =>
        simp only [Bool.not_eq_true'] at hi
        refine List.nodup_append.2 ⟨muts_one hnd (List.mem_of_getElem? hit), ih, ?_⟩
        intro g hg b hb hgb
        subst hgb
        obtain ⟨it', hm, hg'⟩ := mem_muts.1 hb
        obtain ⟨j, hj, hj'⟩ := pickI_mem hm
        refine muts_apart hnd hit hj' (fun e => ?_) g hg hg'
        subst e
        rw [List.contains_iff_mem.2 hj] at hi
        cases hi
    · exact ih
/-- A call hands back several things. -/
def allD : List Dat → World → (Nat → Prop) → Prop
  | [], _, _ => True
  | d :: ds, w, ok => d.φ w ok ∧ allD ds w ok
theorem Own.callDats (h : Own ok w0 w L) (hb : Bel w.heap.size w w') : ∀ (ds : List Dat), allD ds w' (fun b => okOf ok w0 L b ∨ w.heap.size ≤ b) → Own ok w0 w' (ds.map .dat ++ L)
  | [], _ => h.call hb
  | d :: ds, hd => by
    have h' := Own.callDats h hb ds hd.2
    have hm : ∀ ds : List Dat, muts (ds.map .dat ++ L) = muts L := fun ds => by
      induction ds with
      | nil => rfl
      | cons d ds ih => exact ih
    refine h'.addDat d (d.mono (fun b hb' => ?_) hd.1)
    unfold okOf
    rw [hm]
    rcases hb' with hb' | hb'
    · exact hb'
    · exact ⟨.inr (by have := h.below.size; omega), fun k => by have := h.lt b k; omega⟩
/-- .. an own row, and perhaps data. -/
def rowOut (w w' : World) (ok : Nat → Prop) {α : Type} (k : Ty α) (e : TypeId) (v : Value) (xs : List α) : Prop :=
  ∃ cells, qRow w' e k.sz v xs.length cells ∧ (∀ g, v.ownBlock = some g → w.heap.size ≤ g) ∧ rowsR k w' (fun b => (ok b ∨ w.heap.size ≤ b) ∧ v.ownBlock ≠ some b) xs cells
theorem Own.callRow {α : Type} {k : Ty α} {e : TypeId} {v : Value} {xs : List α} (h : Own ok w0 w L) (hb : Bel w.heap.size w w') (hr : rowOut w w' (okOf ok w0 L) k e v xs) : ∃ cells, Own ok w0 w' (.dat (dRows k xs cells) :: .row v e k.sz xs.length cells :: L) := by
  obtain ⟨cells, hq, hf, hR⟩ := hr
  have h' := h.call hb
  have hfresh : ∀ g, v.ownBlock = some g → g ∉ muts L := fun g hg hm => by have := hf g hg; have := h.lt g hm; omega
  have hO : Own ok w0 w' (.row v e k.sz xs.length cells :: L) := by
    refine h.move (h.below.trans (hb.mono h.below.size)) hb.size ?_ ?_ (fun b _ hlt _ => hb.block b hlt) ?_
    · show (v.ownBlock.toList ++ muts L).Nodup
      cases hv : v.ownBlock with
      | none => exact h'.nd
      | some g => exact List.nodup_cons.2 ⟨hfresh g hv, h'.nd⟩
    · intro g hg
      have hg : g ∈ v.ownBlock.toList ++ muts L := hg
      rcases List.mem_append.1 hg with k | k
      · exact .inr (hf g (Option.mem_toList.1 k))
      · exact .inl k
    · intro it hi
      rcases List.mem_cons.1 hi with k | k
      · subst k; exact .inr hq
      · exact .inl ⟨k, fun g hg => hb.block g (h.lt g (mem_muts.2 ⟨it, k, hg⟩))⟩
  refine ⟨cells, hO.addDat _ (rowsR_mono (fun b hb' => ?_) hR)⟩
  obtain ⟨h1, h2⟩ := hb'
  have hm : b ∉ muts L := by
    rcases h1 with h1 | h1
    · exact h1.2
    · exact fun k => by have := h.lt b k; omega
  refine ⟨?_, fun hk => ?_⟩
  · rcases h1 with h1 | h1
    · exact h1.1
    · exact .inr (by have := h.below.size; omega)
  · have hk : b ∈ v.ownBlock.toList ++ muts L := hk
    rcases List.mem_append.1 hk with k | k
    · exact h2 (Option.mem_toList.1 k)
    · exact hm k
end
/-! ### The rules, by numbers as they stand -/
section
variable {P : Program} {w w0 : World} {K : Value → World → Prop} {KF : Value → Prop} {g : Bool} {ok : Nat → Prop} {L : List Item} {C : World → Prop}
theorem idxA_rule {t e : TypeId} {a : Addr} {n c : Nat} {kk : IntKind} (sz : Nat) (x : Int) (ht : sliceB P t = some e) (hs : sizeB P e = some sz) (h0 : 0 ≤ x) (h1 : x < (n : Int)) (hk : K (.pointer (some (a.add (x.toNat * sz)))) w) : nIndexAddr P g t (.slice (some a) n c) (.int kk x) w K := by
  obtain ⟨i, rfl⟩ := Int.eq_ofNat_of_zero_le h0
  exact indexAddr_rule sz i ht hs (fun _ => by omega) hk
theorem c_idxA {t e : TypeId} {a : Addr} {n c : Nat} {kk : IntKind} (sz : Nat) (x : Int) (ht : sliceB P t = some e) (hs : sizeB P e = some sz) (h0 : 0 ≤ x) (h1 : x < (n : Int)) (hk : KF (.pointer (some (a.add (x.toNat * sz))))) : cIndexAddr P g t (.slice (some a) n c) (.int kk x) C KF := by
  obtain ⟨i, rfl⟩ := Int.eq_ofNat_of_zero_le h0
  exact c_indexAddr sz i ht hs (fun _ => by omega) hk
theorem idxS_rule {t : TypeId} {s : List UInt8} {x y : Int} {kk : IntKind} (ht : strB P t = true) (h : idxS s x = some y) (hk : K (.int .u8 y) w) : nIndex P g t (.string (bs s)) (.int kk x) w K := by
  obtain ⟨b, hb, rfl, h0⟩ := idxS_some h
  obtain ⟨i, rfl⟩ := Int.eq_ofNat_of_zero_le h0
  exact index_rule i b ht (fun _ => hb) hk
def loI : Option Value → Int → Prop
  | none, l => l = 0
  | some v, l => ∃ k, v = .int k l
def hiI : Option Value → Nat → Int → Prop
  | none, n, h => h = (n : Int)
  | some v, _, h => ∃ k, v = .int k h
theorem txtI_rule {t : TypeId} {s y : List UInt8} {lo hi : Option Value} (l h : Int) (ht : strB P t = true) (hlo : loI lo l) (hhi : hiI hi s.length h) (hm : slcM s l h = some y) (hk : K (.string (bs y)) w) : nSlice P g t (.string (bs s)) lo hi none w K := by
  obtain ⟨h0, h1, h2, rfl⟩ := slcS hm
  obtain ⟨i, rfl⟩ := Int.eq_ofNat_of_zero_le h0
  obtain ⟨j, rfl⟩ := Int.eq_ofNat_of_zero_le (Int.le_trans h0 h1)
  refine txt_rule i j ht ?_ ?_ (fun _ => by omega) (fun _ => by omega) hk
  · cases lo with
    | none => exact Int.ofNat.inj hlo
    | some v => exact hlo
  · cases hi with
    | none => exact Int.ofNat.inj hhi
    | some v => exact hhi
theorem c_txtI {t : TypeId} {s y : List UInt8} {lo hi : Option Value} (l h : Int) (ht : strB P t = true) (hlo : loI lo l) (hhi : hiI hi s.length h) (hm : slcM s l h = some y) (hk : KF (.string (bs y))) : cSlice P g t (.string (bs s)) lo hi none C KF := by
  obtain ⟨h0, h1, h2, rfl⟩ := slcS hm
  obtain ⟨i, rfl⟩ := Int.eq_ofNat_of_zero_le h0
  obtain ⟨j, rfl⟩ := Int.eq_ofNat_of_zero_le (Int.le_trans h0 h1)
  refine c_txt i j ht ?_ ?_ (fun _ => by omega) (fun _ => by omega) hk
  · cases lo with
    | none => exact Int.ofNat.inj hlo
    | some v => exact hlo
  · cases hi with
    | none => exact Int.ofNat.inj hhi
    | some v => exact hhi
/-- The piece of a list that is there, made ready. -/
theorem Own.pieceD {α : Type} {k : Ty α} {A : Option Addr} {n c : Nat} {xs y : List α} {l h : Int} (H : Own ok w0 w L) (i : Nat) (hi : L[i]? = some (.dat (dSl k (.slice A n c) xs))) (hm : slcM xs l h = some y) :
    ∃ A' c', piece A c l.toNat h.toNat k.sz = .slice A' y.length c' ∧ Own ok w0 w (.dat (dSl k (.slice A' y.length c') y) :: L) := by
  obtain ⟨h0, h1, h2, rfl⟩ := slcS hm
  obtain ⟨A', c', hv, hc⟩ := H.sl i hi
  cases hv
  have := H.addPiece (l := l.toNat) (h := h.toNat) i hi (by omega) (by omega)
  obtain ⟨A', c', hv, _⟩ := this.sl 0 rfl
  rw [hv] at this
  exact ⟨A', c', hv, this⟩
theorem pieceI_rule {t e : TypeId} {n c : Nat} {A : Option Addr} {lo hi : Option Value} {α : Type} {xs y : List α} {v : Value} (sz : Nat) (l h : Int) (ht : sliceB P t = some e) (hs : sizeB P e = some sz) (hlo : loI lo l) (hhi : hiI hi n h) (hm : slcM xs l h = some y) (hn : n = xs.length ∧ n ≤ c) (hv : piece A c l.toNat h.toNat sz = v) (hk : K v w) : nSlice P g t (.slice A n c) lo hi none w K := by
  obtain ⟨h0, h1, h2, rfl⟩ := slcS hm
  obtain ⟨i, rfl⟩ := Int.eq_ofNat_of_zero_le h0
  obtain ⟨j, rfl⟩ := Int.eq_ofNat_of_zero_le (Int.le_trans h0 h1)
  subst hv
  refine piece_rule sz i j ht hs ?_ ?_ (fun _ => by omega) (fun _ => by omega) hn.2 hk
  · cases lo with
    | none => exact Int.ofNat.inj hlo
    | some v => exact hlo
  · cases hi with
    | none => exact Int.ofNat.inj hhi
    | some v => exact hhi
theorem c_pieceI {t e : TypeId} {n c : Nat} {A : Option Addr} {lo hi : Option Value} {α : Type} {xs y : List α} {v : Value} (sz : Nat) (l h : Int) (ht : sliceB P t = some e) (hs : sizeB P e = some sz) (hlo : loI lo l) (hhi : hiI hi n h) (hm : slcM xs l h = some y) (hn : n = xs.length ∧ n ≤ c) (hv : piece A c l.toNat h.toNat sz = v) (hk : KF v) : cSlice P g t (.slice A n c) lo hi none C KF := by
  obtain ⟨h0, h1, h2, rfl⟩ := slcS hm
  obtain ⟨i, rfl⟩ := Int.eq_ofNat_of_zero_le h0
  obtain ⟨j, rfl⟩ := Int.eq_ofNat_of_zero_le (Int.le_trans h0 h1)
  subst hv
  refine c_piece sz i j ht hs ?_ ?_ (fun _ => by omega) (fun _ => by omega) hn.2 hk
  · cases lo with
    | none => exact Int.ofNat.inj hlo
    | some v => exact hlo
  · cases hi with
    | none => exact Int.ofNat.inj hhi
    | some v => exact hhi
/-! What a guard keeps from being done. -/
theorem skipIA {t : TypeId} {x i : Value} (v : Value) (hg : g = false) (hk : K v w) : nIndexAddr P g t x i w K := by
  unfold nIndexAddr; exact nOp_in ⟨fun h => (by rw [hg] at h; cases h), fun _ => ⟨v, hk⟩⟩
theorem skipIX {t : TypeId} {x i : Value} (v : Value) (hg : g = false) (hk : K v w) : nIndex P g t x i w K := by
  unfold nIndex; exact nOp_in ⟨fun h => (by rw [hg] at h; cases h), fun _ => ⟨v, hk⟩⟩
theorem skipLD {t : TypeId} {x : Value} (v : Value) (hg : g = false) (hk : K v w) : nLoad P g t x w K := by
  unfold nLoad; exact nOp_in ⟨fun h => (by rw [hg] at h; cases h), fun _ => ⟨v, hk⟩⟩
theorem skipBN {op : BinOp} {t : TypeId} {xo yo : Operand} {x y : Value} (v : Value) (hg : g = false) (hk : K v w) : nBin P g op t xo yo x y w K := bin_skip v hg hk
/-! What a guard lets be done. -/
/-! Texts. -/
theorem catM_rule {t : TypeId} {xo yo : Operand} {a b : List UInt8} (h : (a.length + b.length) * 1 ≤ 140737488355328) (hk : K (.string (bs (a ++ b))) w) : nBin P g .add t xo yo (.string (bs a)) (.string (bs b)) w K := cat_rule (fun _ => by omega) hk
/-! Rows that stand for lists. -/
theorem Own.setDat (H : Own ok w0 w L) (j : Nat) {d d' : Dat} (hj : L[j]? = some (.dat d)) (hd : d'.φ w (okOf ok w0 L)) : Own ok w0 w (L.set j (.dat d')) := by
  obtain ⟨A, B, rfl, hs⟩ := list_split hj
  rw [hs]
  refine (H.addDat d' hd).sub (fun it hi => ?_) ?_
  · rcases List.mem_append.1 hi with k | k
    · exact List.mem_cons_of_mem _ (List.mem_append.2 (.inl k))
    · rcases List.mem_cons.1 k with k | k
      · subst k; exact List.mem_cons_self
      · exact List.mem_cons_of_mem _ (List.mem_append.2 (.inr (List.mem_cons_of_mem _ k)))
  · have h1 := H.nd
    rw [muts_split] at h1 ⊢
    exact h1
theorem okOf_blk {g : Nat} {cs : List Value} {t : TypeId} {b : Nat} (h : okOf ok w0 (.blk g cs t :: L) b) : okOf ok w0 L b := ⟨h.1, fun hm => h.2 (List.mem_cons_of_mem _ hm)⟩
theorem own_append1 {α : Type} {k : Ty α} {t ty e e' : TypeId} {n b c : Nat} {z v : Value} {xs : List α} {x : α} {cells news : List Value} {consts : Array Bool} (by_ : Nat) (H : Own ok w0 w (.blk b news e' :: L)) (i j : Nat) (hi : L[i]? = some (.row v e k.sz n cells)) (hj : L[j]? = some (.dat (dRows k xs cells))) (hn : n = xs.length) (hx : k.R w (okOf ok w0 (.blk b news e' :: L)) x news)
    (ht : sliceB P t = some e) (hinfo : infoB P e = some (some z, k.sz, by_)) (hzl : z.cells.toList.length = k.sz) (hpos : Nat.blt 0 k.sz = true) (hb : (xs.length + 1) * by_ ≤ 140737488355328) (hby : Nat.blt 0 by_ = true)
    (hk : ∀ v' cells' w', Own ok w0 w' ((L.set i (.row v' e k.sz (xs ++ [x]).length cells')).set j (.dat (dRows k (xs ++ [x]) cells'))) → K v' w') : nBuiltin P true .append [t, t] ty [v, .slice (some ⟨b, 0, none⟩) 1 c] consts w K := by
  have hby : 0 < by_ := Nat.le_of_ble_eq_true hby
  have hb1 : xs.length + 1 ≤ 140737488355328 := Nat.le_trans (Nat.le_mul_of_pos_right _ hby) hb
  subst hn
  have H0 := H.addDat (dR k x news) hx
  refine own_appendBlk (m := 1) H0 (i + 2) 1 hi rfl ht hinfo hzl hpos (by rw [k.len hx]; omega) (k.one hx) hb1 hb fun v' w' H' => ?_
  have hij : i ≠ j := fun h => by subst h; rw [hi] at hj; cases hj
  have hlen : (xs ++ [x]).length = xs.length + 1 := by simp
  refine hk v' (cells ++ news) w' ?_
  rw [hlen]
  have hx' : k.R w' (okOf ok w0 (.blk b news e' :: L.set i (.row v' e k.sz (xs.length + 1) (cells ++ news)))) x news := Own.dat (d := dR k x news) H' 0 rfl
  have H1 : Own ok w0 w' (L.set i (.row v' e k.sz (xs.length + 1) (cells ++ news))) := Own.tail (Own.tail H')
  have hj' : (L.set i (.row v' e k.sz (xs.length + 1) (cells ++ news)))[j]? = some (.dat (dRows k xs cells)) := by rw [List.getElem?_set_ne hij]; exact hj
  exact H1.setDat j hj' (rowsR_snoc (k.mono (fun b hb => okOf_blk hb) hx') (H1.dat j hj'))
theorem c_append1 {KE : Value → List Item → Prop} {α : Type} {k : Ty α} {t ty e e' : TypeId} {n b c : Nat} {z v : Value} {xs : List α} {x : α} {cells news : List Value} {consts : Array Bool} (by_ : Nat) (i j : Nat) (hi : L[i]? = some (.row v e k.sz n cells)) (hj : L[j]? = some (.dat (dRows k xs cells))) (hn : n = xs.length) (hx : ∀ w, Own ok w0 w (.blk b news e' :: L) → k.R w (okOf ok w0 (.blk b news e' :: L)) x news)
    (ht : sliceB P t = some e) (hinfo : infoB P e = some (some z, k.sz, by_)) (hzl : z.cells.toList.length = k.sz) (hpos : Nat.blt 0 k.sz = true) (hb : (xs.length + 1) * by_ ≤ 140737488355328) (hby : Nat.blt 0 by_ = true)
    (hk : ∀ v' cells', KE v' ((L.set i (.row v' e k.sz (xs ++ [x]).length cells')).set j (.dat (dRows k (xs ++ [x]) cells')))) : cBuiltin P true .append [t, t] ty [v, .slice (some ⟨b, 0, none⟩) 1 c] consts ok w0 (.blk b news e' :: L) KE := by
  unfold cBuiltin
  refine cEv_in ⟨fun u L' => ∃ cells', L' = (L.set i (.row u e k.sz (xs ++ [x]).length cells')).set j (.dat (dRows k (xs ++ [x]) cells')), fun h => (by cases h), fun w H => ?_, fun u L' h _ => by obtain ⟨cells', rfl⟩ := h; exact hk u cells'⟩
  have h := own_append1 (P := P) (K := fun u w' => ∃ L', (∃ cells', L' = (L.set i (.row u e k.sz (xs ++ [x]).length cells')).set j (.dat (dRows k (xs ++ [x]) cells'))) ∧ Own ok w0 w' L') (c := c) (ty := ty) (consts := consts) by_ H i j hi hj hn (hx w H) ht hinfo hzl hpos hb hby (fun v' cells' w' H' => ⟨_, ⟨cells', rfl⟩, H'⟩)
  unfold nBuiltin at h
  exact nOp_out h
theorem own_appendD {α : Type} {k : Ty α} {t ty e : TypeId} {n : Nat} {z v u : Value} {xs ys : List α} {cells : List Value} {consts : Array Bool} (by_ : Nat) (H : Own ok w0 w L) (i j m : Nat) (hi : L[i]? = some (.row v e k.sz n cells)) (hj : L[j]? = some (.dat (dRows k xs cells))) (hm : L[m]? = some (.dat (dSl k u ys))) (hn : n = xs.length)
    (ht : sliceB P t = some e) (hinfo : infoB P e = some (some z, k.sz, by_)) (hzl : z.cells.toList.length = k.sz) (hpos : Nat.blt 0 k.sz = true) (hb : (xs.length + ys.length) * by_ ≤ 140737488355328) (hby : Nat.blt 0 by_ = true)
    (hk : ∀ v' cells' w', Own ok w0 w' ((L.set i (.row v' e k.sz (xs ++ ys).length cells')).set j (.dat (dRows k (xs ++ ys) cells'))) → K v' w') : nBuiltin P true .append [t, t] ty [v, u] consts w K := by
  have hby : 0 < by_ := Nat.le_of_ble_eq_true hby
  have hb1 : xs.length + ys.length ≤ 140737488355328 := Nat.le_trans (Nat.le_mul_of_pos_right _ hby) hb
  subst hn
  have hij : i ≠ j := fun h => by subst h; rw [hi] at hj; cases hj
  obtain ⟨A, c, hv, hc, h⟩ := H.dat m hm
  subst hv
  unfold nBuiltin
  have fin : ∀ a, A = some a → ∀ news, rowsR k w (okOf ok w0 L) ys news → cellsAt w a 0 news → nOp P true (builtin .append #[t, t] ty consts #[v, .slice A ys.length c]) w K := by
    intro a ha news hR hC
    subst ha
    have H0 := H.addDat (dRows k ys news) hR
    obtain ⟨v', w', hr, hO⟩ := own_rowAppend (ty := ty) (consts := consts) (c := c) H0 (i + 1) hi ht hinfo hzl hpos (rowsR_length hR) hC (rowsR_one hR) hb1 hb
    refine nOp_val (fun _ => hr) (fun _ => hk v' (cells ++ news) w' ?_) (fun h => by cases h)
    have hlen : (xs ++ ys).length = xs.length + ys.length := by simp
    rw [hlen]
    have hR' : rowsR k w' (okOf ok w0 (L.set i (.row v' e k.sz (xs.length + ys.length) (cells ++ news)))) ys news := Own.dat (d := dRows k ys news) hO 0 rfl
    have H1 : Own ok w0 w' (L.set i (.row v' e k.sz (xs.length + ys.length) (cells ++ news))) := Own.tail hO
    have hj' : (L.set i (.row v' e k.sz (xs.length + ys.length) (cells ++ news)))[j]? = some (.dat (dRows k xs cells)) := by rw [List.getElem?_set_ne hij]; exact hj
    exact H1.setDat j hj' (rowsR_append hR' (H1.dat j hj'))
  rcases h with ⟨h, hn⟩ | ⟨a, ha, _, _, h4⟩
  · subst h
    cases A with
    | none =>
      have := hn rfl
      subst this
      refine nOp_now (fun _ => append_none_run H i hi ht hinfo) ?_
      refine hk v cells w ?_
      have e1 : (L.set i (.row v e k.sz (xs ++ ([] : List α)).length cells)).set j (.dat (dRows k (xs ++ []) cells)) = L := by
        rw [List.append_nil]
        have s1 : ∀ {q : Nat} {it : Item} {M : List Item}, M[q]? = some it → M.set q it = M := fun {q it M} hq => by
          apply List.ext_getElem?
          intro r
          rw [List.getElem?_set]
          split
          · rename_i e2; subst e2
            split
            · exact hq.symm
            · rename_i hl; rw [List.getElem?_eq_none (by omega)] at hq; cases hq
          · rfl
        rw [s1 hi, s1 hj]
      rw [e1]; exact H
    | some a => exact fin a rfl [] rfl trivial
  · subst ha
    obtain ⟨news, g1, g2⟩ := slR_cells (k := k) (a := a) (ys := ys) (off := 0) (fun j x hx => by rw [Nat.zero_add]; exact h4 j x hx)
    refine fin a rfl news g1 ?_
    have e2 : a.add (0 * k.sz) = a := by rw [Nat.zero_mul]; simp [Addr.add]
    rwa [e2] at g2
/-! What is handed back. -/
theorem Own.outD {α : Type} {k : Ty α} {v : Value} {xs : List α} (H : Own ok w0 w L) (i : Nat) (hi : L[i]? = some (.dat (dSl k v xs))) : slR k w (fun b => ok b ∨ w0.heap.size ≤ b) v xs :=
  (dSl k v xs).mono (ok := okOf ok w0 L) (ok' := fun b => ok b ∨ w0.heap.size ≤ b) (fun b hb => hb.1) (H.dat i hi)
theorem nilR {α : Type} {k : Ty α} {w : World} {ok : Nat → Prop} : slR k w ok (.slice none 0 0) [] := ⟨none, 0, rfl, Nat.le_refl _, .inl ⟨rfl, fun _ => rfl⟩⟩
theorem Own.outR {α : Type} {k : Ty α} {e : TypeId} {v : Value} {n : Nat} {xs : List α} {cells : List Value} (H : Own ok w0 w L) (i j : Nat) (hi : L[i]? = some (.row v e k.sz n cells)) (hj : L[j]? = some (.dat (dRows k xs cells))) (hn : n = xs.length) : rowOut w0 w ok k e v xs := by
  subst hn
  have hq := H.all _ (List.mem_of_getElem? hi)
  refine ⟨cells, hq, fun g hg => H.ge g (mem_muts.2 ⟨_, List.mem_of_getElem? hi, Option.mem_toList.2 hg⟩), rowsR_mono (fun b hb => ⟨hb.1, fun h => hb.2 (mem_muts.2 ⟨_, List.mem_of_getElem? hi, Option.mem_toList.2 h⟩)⟩) (H.dat j hj)⟩
theorem Own.nilRowD {α : Type} (k : Ty α) (e : TypeId) (H : Own ok w0 w L) : Own ok w0 w (.dat (dRows k [] []) :: .row (.slice none 0 0) e k.sz 0 [] :: L) := (H.nilRow e k.sz).addDat (dRows k [] []) rfl
end

section
variable {P : Program} {ro : Option Nat} {n : Nat} {ds : List Nat} {e : Env} {w : World} {K : EK}
theorem cut_inA {I : Env → World → Prop} {e' : Env} (h : I e' w) (hs : subE e' e := by repeat first | exact trivial | refine And.intro rfl ?_) : cutAt ds ds I e w := cut_in hs h
theorem again_inA {I : Nat → Env → World → Prop} {k : Nat} {e' : Env} (h : I k e' w) (hs : subE e' e := by repeat first | exact trivial | refine And.intro rfl ?_) : again ds ds I (k + 1) e w := again_in k (Nat.lt_succ_self k) e' hs h
theorem loop_ruleA {body : Code} (I : Nat → Env → World → Prop) {k₀ : Nat} {e₀ : Env} (h₀ : I k₀ e₀ w) (round : ∀ k e w, I k e w → nCode P ro n ds body e w (loopK ds I k K)) (hs : subE e₀ e := by repeat first | exact trivial | refine And.intro rfl ?_) : nLoop P ro n ds body e w K := loop_rule I k₀ e₀ hs h₀ round
theorem ret_inA {rs : List ResultVar} {R : Ending → World → Prop} (vs : List Value) (hR : R (.returned (tupV vs)) w) (h : resAt P e w rs vs := by repeat first | exact trivial | refine And.intro rfl ?_) : nRet P n [] rs e w R := ret_of vs h hR
end
theorem gT1 {b c : Bool} (h : b = true) (hc : c = true) : (b && c) = true := by subst h hc; rfl
theorem gT0 {b c : Bool} (h : b = false) (hc : c = true) : (!b && c) = true := by subst h hc; rfl
theorem gF1 {b c : Bool} (h : b = false) : (b && c) = false := by subst h; rfl
theorem gF0 {b c : Bool} (h : b = true) : (!b && c) = false := by subst h; rfl
theorem gFr {b c : Bool} (h : c = false) : (b && c) = false := by subst h; cases b <;> rfl
theorem pickT {α : Type} {c : Bool} {a b : α} (h : c = true) : cond c a b = a := by subst h; rfl
theorem pickF {α : Type} {c : Bool} {a b : α} (h : c = false) : cond c a b = b := by subst h; rfl
def allOne : List Value → Bool
  | [] => true
  | v :: r => oneV v && allOne r
theorem allOne_ok : ∀ {l : List Value}, allOne l = true → ∀ v ∈ l, oneV v = true
  | [], _, v, h => by cases h
  | x :: r, h, v, hv => by
    simp only [allOne, Bool.and_eq_true] at h
    rcases List.mem_cons.1 hv with k | k
    · subst k; exact h.1
    · exact allOne_ok h.2 v k
section
variable {P : Program} {w w0 : World} {K : Value → World → Prop} {ok : Nat → Prop} {L : List Item}
theorem own_storeB {t t' : TypeId} {b off m : Nat} {cs : List Value} {x : Value} (H : Own ok w0 w L) (i : Nat) (hi : L[i]? = some (.blk b cs t')) (hs : sizeB P t = some m) (vs : List Value) (hx : x.cells = vs.toArray) (hl : vs.length = m) (ho : allOne vs = true) (hr : Nat.ble (off + m) cs.length = true)
    (hk : ∀ w', Own ok w0 w' (L.set i (.blk b (setRange cs off vs) t')) → K undef w') : nStore P true t (.pointer (some ⟨b, off, none⟩)) x w K := own_storeA H i hi hs vs hx hl (allOne_ok ho) (Nat.le_of_ble_eq_true hr) hk
theorem c_storeB {KE : Value → List Item → Prop} {t t' : TypeId} {b off m : Nat} {cs : List Value} {x : Value} (i : Nat) (hi : L[i]? = some (.blk b cs t')) (hs : sizeB P t = some m) (vs : List Value) (hx : x.cells = vs.toArray) (hl : vs.length = m) (ho : allOne vs = true) (hr : Nat.ble (off + m) cs.length = true)
    (hk : KE undef (L.set i (.blk b (setRange cs off vs) t'))) : cStore P true t (.pointer (some ⟨b, off, none⟩)) x ok w0 L KE := c_storeA i hi hs vs hx hl (allOne_ok ho) (Nat.le_of_ble_eq_true hr) hk
end
section
variable {P : Program} {w0 : World} {ok : Nat → Prop} {L : List Item}
/-- A call in an open order, that hands back a list. -/
theorem c_callS {α : Type} {k : Ty α} {xs : List α} {KE : Value → List Item → Prop} {g : Bool} {f : FuncId} {args : List Value} (hg : g = true) (hb : bodyB P f = true) (hc : ∀ w, Own ok w0 w L → Calls P f args.toArray w fun e w' => ∃ v, e = .returned v ∧ (slR k w' (fun b => okOf ok w0 L b ∨ w.heap.size ≤ b) v xs ∧ Bel w.heap.size w w'))
    (hk : ∀ A c, KE (.slice A xs.length c) (.dat (dSl k (.slice A xs.length c) xs) :: L)) : cCall P g f args ok w0 L KE := by
  subst hg
  refine c_callDat (fun v => dSl k v xs) (fun v => ∃ A c, v = .slice A xs.length c) hb (fun w H => (hc w H).mono ?_) ?_
  · rintro e w' ⟨v, rfl, h1, h2⟩
    obtain ⟨A, c, hv, _⟩ := id h1
    exact ⟨v, rfl, ⟨A, c, hv⟩, h1, h2⟩
  · rintro v ⟨A, c, rfl⟩
    exact hk A c
theorem rowOut_sl {α : Type} {k : Ty α} {e : TypeId} {w w' : World} {v : Value} {xs : List α} (h : rowOut w w' ok k e v xs) (hb : Bel w.heap.size w w') : slR k w' (fun b => ok b ∨ w.heap.size ≤ b) v xs := by
  obtain ⟨cells, hq, hf, hR⟩ := h
  have H0 : Own ok w w [] := Own.nil ok w
  obtain ⟨cs, H⟩ := H0.callRow hb (k := k) (e := e) (v := v) (xs := xs) ⟨cells, hq, hf, rowsR_mono (fun b h => ⟨h.1.imp (fun h => ⟨.inl h, List.not_mem_nil⟩) id, h.2⟩) hR⟩
  exact H.rowSlRin (k := k) 1 rfl (H.dat 0 rfl) (fun b h => h.1) (fun b h => .inr h)
theorem slR_any {α : Type} {k : Ty α} {w : World} {B : Nat} {v : Value} {xs : List α} (h : slR k w (fun b => False ∨ B ≤ b) v xs) : slR k w (fun b => ok b ∨ B ≤ b) v xs :=
  (dSl k v xs).mono (ok := fun b => False ∨ B ≤ b) (ok' := fun b => ok b ∨ B ≤ b) (fun b h => h.imp False.elim id) h
end
section
variable {P : Program} {KF : Value → Prop} {g : Bool} {C : World → Prop}
theorem c_skipIA {t : TypeId} {x i : Value} (v : Value) (hg : g = false) (hk : KF v) : cIndexAddr P g t x i C KF := by
  unfold cIndexAddr cFloat; exact ⟨v, fun h => (by rw [hg] at h; cases h), hk⟩
theorem c_skipLD {t : TypeId} {x : Value} (v : Value) (hg : g = false) (hk : KF v) : cLoad P g t x C KF := by
  unfold cLoad cFloat; exact ⟨v, fun h => (by rw [hg] at h; cases h), hk⟩
theorem c_skipCL {w0 : World} {ok : Nat → Prop} {L : List Item} {KE : Value → List Item → Prop} {f : FuncId} {args : List Value} (v : Value) (hg : g = false) (hk : KE v L) : cCall P g f args ok w0 L KE := by
  unfold cCall
  exact cEv_in ⟨fun u L' => u = v ∧ L' = L, fun _ u L' h => by rw [h.2]; exact List.Sublist.refl _, fun w H => ⟨fun h => (by rw [hg] at h; cases h), fun _ => ⟨v, L, ⟨rfl, rfl⟩, H⟩⟩, fun u L' h _ => by rw [h.1, h.2]; exact hk⟩
end
end Go.Eng
