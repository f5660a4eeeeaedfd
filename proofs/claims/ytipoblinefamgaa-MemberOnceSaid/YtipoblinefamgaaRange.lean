/- The engine's rules for a range over a function, for calls of function values, and for what a call hands to an iterator. Proved once, over any program. -/
import Derived.Test.YtipoblinefamgaaMore
set_option linter.unusedVariables false
namespace Go.Eng
open Go.RowKit
set_option linter.unusedSectionVars false
variable [Inhabited Keep] [Inhabited Hard]

/-! ### Items in another order -/
theorem Own.swap {ok : Nat → Prop} {w0 w : World} {A B : List Item} (h : Own ok w0 w (A ++ B)) : Own ok w0 w (B ++ A) :=
  h.sub (fun it hi => List.mem_append.2 ((List.mem_append.1 hi).symm)) (by
    have := h.nd
    rw [muts_split] at this ⊢
    exact (List.perm_append_comm.nodup_iff).1 this)
theorem Own.perm {ok : Nat → Prop} {w0 w : World} {L L' : List Item} (h : Own ok w0 w L) (hp : L.Perm L') : Own ok w0 w L' :=
  h.sub (fun it hi => hp.mem_iff.2 hi) (by
    have h1 : (muts L).Perm (muts L') := by unfold muts; exact hp.flatMap_right _
    exact h1.nodup_iff.1 h.nd)
theorem Own.objAt {ok : Nat → Prop} {w0 w : World} {A B : List Item} {g : Nat} {φ : Obj → Prop} (h : Own ok w0 w (A ++ .obj g φ :: B)) : ∃ o, w.heap[g]? = some o ∧ φ o := h.all (.obj g φ) (by simp)
theorem Own.putObj {ok : Nat → Prop} {w0 w : World} {A B : List Item} {g : Nat} {φ ψ : Obj → Prop} (h : Own ok w0 w (A ++ .obj g φ :: B)) (o : Obj) (ho : ψ o) : Own ok w0 (w.putObj g o) (A ++ .obj g ψ :: B) := by
  have hlt : g < w.heap.size := h.lt g (by simp [muts, Item.muts])
  have hge : w0.heap.size ≤ g := h.ge g (by simp [muts, Item.muts])
  exact h.setOne (g := g) rfl rfl ⟨⟨h.below.os, h.below.tape, h.below.output, by simpa using h.below.size, fun k hk => (World.putObj_heap_other (by omega)).trans (h.below.block k hk)⟩, h.below.drawn⟩ (by simp)
    (fun _ => ⟨o, World.putObj_heap_same hlt, ho⟩) (fun k hk => World.putObj_heap_other hk)

/-! ### Function values are called -/
section
variable {P : Program} {w : World} {K : Value → World → Prop}

/-- A closure is called by its function's contract. -/
theorem callV_rule {f : FuncId} {first cap : Array Value} {args : List Value} {φ : Value → World → Prop} (hb : bodyB P f = true) (hc : Calls P f ((first ++ args.toArray) ++ cap) w fun e w' => ∃ v, e = .returned v ∧ φ v w') (hk : ∀ v w', φ v w' → K v w') : nCallV P true (.func (.func f) first cap) args w K := by
  unfold nCallV
  refine nOp_in ⟨fun _ => ?_, fun h => by cases h⟩
  show upon P K ((callFunc f ((first ++ args.toArray) ++ cap)).run P w)
  rw [run_callFunc hb]
  refine Calls.mono hc fun e w' ⟨v, he, hv⟩ => ?_
  subst he
  exact hk _ _ hv

/-- A call of yield. -/
@[irreducible] def nYield (P : Program) (l : Nat) (args : List Value) (w : World) (K : Value → World → Prop) : Prop := upon P K ((Instr.yield l args.toArray).run P w)
theorem yield_mono {l : Nat} {args : List Value} {K' : Value → World → Prop} (h : nYield P l args w K) (hk : ∀ v w', K v w' → K' v w') : nYield P l args w K' := by
  unfold nYield at h ⊢; exact upon_mono hk h
theorem yield_rule {l : Nat} {args : List Value} {φ : Value → World → Prop} (h : nYield P l args w φ) (hk : ∀ v w', φ v w' → K v w') : nCallV P true (.func (.yield l) #[] #[]) args w K := by
  unfold nCallV
  refine nOp_in ⟨fun _ => ?_, fun h => by cases h⟩
  have h := yield_mono h hk
  unfold nYield at h
  show upon P K ((Instr.yield l (#[] ++ args.toArray)).run P w)
  rw [Array.empty_append]; exact h
end

/-! ### An iterator's contract -/

/-- The round's word to the iterator: over whatever else is owned. -/
def RoundsAt (P : Program) (ok : Nat → Prop) (w0 : World) (l : Nat) {α : Type} (enc : α → List Value) (Sp : List α → Prop) (I Ix : List α → List Item → Prop) : Prop :=
  ∀ (T : List Item) pre x L W, Sp (pre ++ [x]) → I pre L → Own ok w0 W (L ++ T) → nYield P l (enc x) W fun v W' =>
    (v = .bool true ∧ ∃ L', I (pre ++ [x]) L' ∧ Own ok w0 W' (L' ++ T)) ∨ (v = .bool false ∧ ∃ L', Ix (pre ++ [x]) L' ∧ Own ok w0 W' (L' ++ T))
/-- The iterator's word: it calls yield with one thing behind the other. -/
def IterAt (P : Program) (ok : Nat → Prop) (w0 : World) (gf : FuncId) (lb : Array Value) {α : Type} (enc : α → List Value) (S Sp : List α → Prop) (M : List Item) : Prop :=
  ∀ (l : Nat) (I Ix : List α → List Item → Prop), RoundsAt P ok w0 l enc Sp I Ix → ∀ W L, I [] L → Own ok w0 W (M ++ L) →
    Calls P gf (#[.func (.yield l) #[] #[]] ++ lb) W fun e W' => ∃ v, e = .returned v ∧
      ((∃ xs L', S xs ∧ I xs L' ∧ Own ok w0 W' (M ++ L')) ∨ ∃ pre L', Sp pre ∧ Ix pre L' ∧ Own ok w0 W' (M ++ L'))

/-! ### The loop over it -/
def bindE : List Nat → List Value → Env → Env
  | p :: ps, v :: vs, e => bindE ps vs ((p, v) :: e)
  | _, _, e => e
def psOk (n : Nat) : List Nat → Bool
  | [] => true
  | p :: r => match Nat.blt p n with | true => psOk n r | false => false
def isLoop (o : Obj) : Prop := ∃ r, o = .loop r
def isDef (o : Obj) : Prop := o = .deferred (some [])
/-- A round has ended: what it owns. -/
@[irreducible] def rEnd (ok : Nat → Prop) (w0 : World) (X : List Item) (I : List Item → Prop) (w : World) : Prop := ∃ L', I L' ∧ Own ok w0 w (L' ++ X)
theorem rEnd_in {ok : Nat → Prop} {w0 : World} {X : List Item} {I : List Item → Prop} {w : World} (L' : List Item) (h : I L') (H : Own ok w0 w (L' ++ X)) : rEnd ok w0 X I w := by unfold rEnd; exact ⟨L', h, H⟩
def roundK (ok : Nat → Prop) (w0 : World) (X : List Item) (I : List Item → Prop) (Ix : Code → List Item → Prop) : EK
  | .normal, _, _, w => rEnd ok w0 X I w
  | .ret, _, _, w => rEnd ok w0 X (Ix .ret) w
  | .exit id, _, _, w => rEnd ok w0 X (Ix (.exit id)) w
  | .goto t, _, _, w => rEnd ok w0 X (Ix (.goto t)) w
  | _, _, _, _ => False
/-- Behind the assignment to the loop's left sides: the round begins. -/
@[irreducible] def rGo (P : Program) (ok : Nat → Prop) (w0 : World) (l n : Nat) (ds : List Nat) (φ : Obj → Prop) (T : List Item) (body : Code) (I : List Item → Prop) (Ix : Code → List Item → Prop) (e : Env) (w : World) : Prop :=
  ∃ L, Own ok w0 w (L ++ .obj l φ :: T) ∧ ∀ w2 φ2, (∀ o, φ2 o → isLoop o) → Own ok w0 w2 (L ++ .obj l φ2 :: T) → nCode P (some l) n ds body e w2 (roundK ok w0 (.obj l φ2 :: T) I Ix)
theorem rGo_in {P : Program} {ok : Nat → Prop} {w0 : World} {l n : Nat} {ds : List Nat} {φ : Obj → Prop} {T : List Item} {body : Code} {I : List Item → Prop} {Ix : Code → List Item → Prop} {e : Env} {w : World} (L : List Item) (H : Own ok w0 w (L ++ .obj l φ :: T))
    (h : ∀ w2 φ2, (∀ o, φ2 o → isLoop o) → Own ok w0 w2 (L ++ .obj l φ2 :: T) → nCode P (some l) n ds body e w2 (roundK ok w0 (.obj l φ2 :: T) I Ix)) : rGo P ok w0 l n ds φ T body I Ix e w := by unfold rGo; exact ⟨L, H, h⟩
def goK (P : Program) (ok : Nat → Prop) (w0 : World) (l n : Nat) (φ : Obj → Prop) (T : List Item) (body : Code) (I : List Item → Prop) (Ix : Code → List Item → Prop) : EK
  | .normal, ds, e, w => rGo P ok w0 l n ds φ T body I Ix e w
  | _, _, _, _ => False

theorem bind_fits {n : Nat} : ∀ {ps : List Nat} {vs : List Value} {e : Env} {t : Array Value}, psOk n ps = true → Fits n [] e { tmps := t, defers := [] } → Fits n [] (bindE ps vs e) { tmps := (ps.zip vs).foldl (fun t (p, v) => t.setIfInBounds p v) t, defers := [] } := by
  intro ps
  induction ps with
  | nil => intro vs e t _ h; exact h
  | cons p ps ih =>
    intro vs e t hp h
    cases vs with
    | nil => exact h
    | cons v vs =>
      simp only [psOk] at hp
      split at hp
      · rename_i hb
        have hpn : p < n := by simpa [Nat.blt_eq] using hb
        refine ih hp ⟨?_, rfl, fun k u hl => ?_⟩
        · have := h.size; simpa using this
        · simp only [look] at hl
          split at hl
          · rename_i hb
            cases hl
            have := Nat.eq_of_beq_eq_true hb
            subst this
            have := h.size
            simp [Array.getD, show p < t.size by simpa using this ▸ hpn]
          · rename_i hb
            have := h.at_ k u hl
            have hne : p ≠ k := fun e => by subst e; simp at hb
            rw [← this]
            simp [Array.getD_eq_getD_getElem?, Array.getElem?_setIfInBounds_ne hne]
      · cases hp

section
variable {P : Program} {ok : Nat → Prop} {w0 : World} {α : Type}

/-- The loop's rounds, as the iterator meets them. -/
theorem rounds_core {n : Nat} {ds : List Nat} {e : Env} {a : Act} {ps : Array Tmp} {assign body : Code} {enc : α → List Value} {Sp : List α → Prop} {l dd : Nat} {fn : FuncId} {X : List Item} (hf : Fits n ds e a) (hps : ∀ x, (enc x).length = ps.size) (hpo : psOk n ps.toList = true)
    (I : List α → List Item → Prop) (Ix : Code → List α → List Item → Prop)
    (hround : ∀ φ T pre x L W, (∀ o, φ o → isLoop o) → Sp (pre ++ [x]) → I pre L → Own ok w0 W (L ++ .obj l φ :: T) →
      nCode P (some l) n [] assign (bindE ps.toList (enc x) e) W (goK P ok w0 l n φ T body (I (pre ++ [x])) (fun c => Ix c (pre ++ [x]))))
    (rec : LoopState → Option Code → Loop) (hrec : rec = fun st pe => { state := st, pending := pe, fn, tmps := a.tmps, params := ps, assign, body, defers := dd }) :
    RoundsAt P ok w0 l enc Sp (fun pre L => ∃ L1, L = L1 ++ .obj l (· = .loop (rec .ready none)) :: X ∧ I pre L1) (fun pre L => ∃ c L1, L = L1 ++ .obj l (· = .loop (rec .done (some c))) :: X ∧ Ix c pre L1) := by
  rintro T pre x L W hsp ⟨L1, rfl, hi⟩ H
  have H1 : Own ok w0 W (L1 ++ .obj l (· = .loop (rec .ready none)) :: (X ++ T)) := by
    rw [List.append_assoc, List.cons_append] at H; exact H
  obtain ⟨o, ho, rfl⟩ := H1.objAt
  unfold nYield
  rw [run_yield (P := P) (args := (enc x).toArray) ho (by rw [hrec]; simpa using hps x)]
  have hfa : Fits n [] e { tmps := a.tmps, defers := [] } := ⟨hf.size, rfl, hf.at_⟩
  have hfb := bind_fits (vs := enc x) hpo hfa
  refine RoundIn.mono (roundIn_of_wpIn (F := Fence.wide) (l := l) (R := fun e W' => ∃ v, e = .returned v ∧ ((v = .bool true ∧ ∃ L', (∃ L1, L' = L1 ++ .obj l (· = .loop (rec .ready none)) :: X ∧ I (pre ++ [x]) L1) ∧ Own ok w0 W' (L' ++ T)) ∨ (v = .bool false ∧ ∃ L', (∃ c L1, L' = L1 ++ .obj l (· = .loop (rec .done (some c))) :: X ∧ Ix c (pre ++ [x]) L1) ∧ Own ok w0 W' (L' ++ T)))) trivial ?_) (fun e W' ⟨v, he, hv⟩ => by subst he; exact hv)
  have hz : ((rec .ready none).params.zip (enc x).toArray).foldl (fun tmps (t, a) => tmps.setIfInBounds t a) (rec .ready none).tmps = (ps.toList.zip (enc x)).foldl (fun t (p, v) => t.setIfInBounds p v) a.tmps := by
    rw [hrec]
    rw [← Array.foldl_toList, Array.toList_zip]
  rw [hz]
  have hb := nCode_out (hround (· = .loop (rec .ready none)) (X ++ T) pre x L1 W (fun o h => ⟨_, h⟩) hsp hi H1) _ hfb
  have ea : (rec .ready none).assign = assign := by rw [hrec]
  have eb : (rec .ready none).body = body := by rw [hrec]
  rw [ea, eb]
  refine wpIn_mono hb fun ex a1 W1 hq => ?_
  obtain ⟨ds1, e1, hf1, hk⟩ := hq
  cases ex with
  | normal =>
    simp only [goK, rGo] at hk
    obtain ⟨L2, H2, hgo⟩ := hk
    obtain ⟨o2, ho2, rfl⟩ := H2.objAt
    refine ⟨_, run_beginRound ho2 (by rw [hrec]), ?_⟩
    have H3 := H2.putObj (ψ := (· = .loop { rec .ready none with state := .busy })) (.loop { rec .ready none with state := .busy }) rfl
    have hbody := nCode_out (hgo _ _ (fun o h => ⟨_, h⟩) H3) a1 hf1
    refine wpIn_mono hbody fun ex2 a2 W2 hq2 => ?_
    obtain ⟨ds2, e2, hf2, hk2⟩ := hq2
    have fin : ∀ (jump : Option Code) (Lx : List Item), Own ok w0 W2 (Lx ++ .obj l (· = .loop { rec .ready none with state := .busy }) :: (X ++ T)) →
        (Instr.endRound l jump).run P W2 = .ok (.bool jump.isNone) (W2.putObj l (.loop (rec (if jump.isNone then .ready else .done) jump))) ∧
        Own ok w0 (W2.putObj l (.loop (rec (if jump.isNone then .ready else .done) jump))) ((Lx ++ .obj l (· = .loop (rec (if jump.isNone then .ready else .done) jump)) :: X) ++ T) := fun jump Lx Hx => by
      obtain ⟨o3, ho3, rfl⟩ := Hx.objAt
      refine ⟨?_, ?_⟩
      · have := run_endRound (P := P) jump ho3
        rw [hrec] at this ⊢
        exact this
      · rw [List.append_assoc, List.cons_append]
        exact Hx.putObj _ rfl
    cases ex2 with
    | normal =>
      simp only [roundK, rEnd] at hk2
      obtain ⟨Lx, hI, HX⟩ := hk2
      obtain ⟨hr, hO⟩ := fin none Lx HX
      exact ⟨_, _, hr, _, rfl, .inl ⟨rfl, _, ⟨Lx, rfl, hI⟩, hO⟩⟩
    | ret =>
      simp only [roundK, rEnd] at hk2
      obtain ⟨Lx, hI, HX⟩ := hk2
      obtain ⟨hr, hO⟩ := fin (some .ret) Lx HX
      exact ⟨_, _, hr, _, rfl, .inr ⟨rfl, _, ⟨.ret, Lx, rfl, hI⟩, hO⟩⟩
    | exit id =>
      simp only [roundK, rEnd] at hk2
      obtain ⟨Lx, hI, HX⟩ := hk2
      obtain ⟨hr, hO⟩ := fin (some (.exit id)) Lx HX
      exact ⟨_, _, hr, _, rfl, .inr ⟨rfl, _, ⟨.exit id, Lx, rfl, hI⟩, hO⟩⟩
    | goto t =>
      simp only [roundK, rEnd] at hk2
      obtain ⟨Lx, hI, HX⟩ := hk2
      obtain ⟨hr, hO⟩ := fin (some (.goto t)) Lx HX
      exact ⟨_, _, hr, _, rfl, .inr ⟨rfl, _, ⟨.goto t, Lx, rfl, hI⟩, hO⟩⟩
    | panic c => exact hk2.elim
    | outgrown => exact hk2.elim
  | exit id => exact hk.elim
  | goto t => exact hk.elim
  | ret => exact hk.elim
  | panic c => exact hk.elim
  | outgrown => exact hk.elim

/-- **A range over a function.** -/
theorem range_rule {n : Nat} {ds : List Nat} {g : Operand} {ps : Array Tmp} {assign body : Code} {e : Env} {w : World} {K : EK} {gf : FuncId} {lb : Array Value} {enc : α → List Value} {S Sp : List α → Prop} {M L0 : List Item}
    (hg : opnd e [] [] g = some (.func (.func gf) #[] lb)) (hb : bodyB P gf = true) (hps : ∀ x, (enc x).length = ps.size) (hpo : psOk n ps.toList = true) (hit : IterAt P ok w0 gf lb enc S Sp M) (H : Own ok w0 w (M ++ L0))
    (I : List α → List Item → Prop) (Ix : Code → List α → List Item → Prop) (h0 : I [] L0)
    (hround : ∀ l φ T pre x L W, (∀ o, φ o → isLoop o) → Sp (pre ++ [x]) → I pre L → Own ok w0 W (L ++ .obj l φ :: T) →
      nCode P (some l) n [] assign (bindE ps.toList (enc x) e) W (goK P ok w0 l n φ T body (I (pre ++ [x])) (fun c => Ix c (pre ++ [x]))))
    (hdone : ∀ D W L xs, S xs → I xs L → Own ok w0 W (.obj D isDef :: (M ++ L)) → K .normal (D :: ds) e W)
    (hstop : ∀ D W L pre c, Sp pre → Ix c pre L → Own ok w0 W (.obj D isDef :: (M ++ L)) → nCode P none n (D :: ds) c e W K) :
    nCode P none n ds (.rangeFunc g ps assign body) e w K := by
  refine nCode_in fun a hf => wpIn_any (n := 1) (wpIn_rangeFunc fun fn _ => ?_)
  obtain ⟨rec, hrec⟩ : ∃ rec : LoopState → Option Code → Loop, rec = fun st pe => { state := st, pending := pe, fn, tmps := a.tmps, params := ps, assign, body, defers := w.heap.size } := ⟨_, rfl⟩
  have H1 := (H.allocObj (.deferred (some [])) (φ := isDef) rfl).allocObj (.loop (rec .ready none)) (φ := (· = .loop (rec .ready none))) rfl
  rw [World.size_alloc] at H1
  have H2 : Own ok w0 ((w.alloc (.deferred (some []))).alloc (.loop (rec .ready none))) (M ++ (L0 ++ [.obj (w.heap.size + 1) (· = .loop (rec .ready none)), .obj w.heap.size isDef])) := by
    refine H1.perm ?_
    rw [← List.append_assoc]
    exact (List.perm_append_comm (l₁ := [_, _]) (l₂ := M ++ L0))
  have hR := rounds_core (l := w.heap.size + 1) (X := [.obj w.heap.size isDef]) hf hps hpo I Ix (fun φ T pre x L W h1 h2 h3 h4 => hround (w.heap.size + 1) φ T pre x L W h1 h2 h3 h4) rec hrec
  have hgv : a.eval g = .func (.func gf) #[] lb := opnd_at hf.g (fun p hp => by cases hp) hg
  have hend : ∀ {st pe} {W : World} {L : List Item}, st ≠ .busy → Own ok w0 W (M ++ (L ++ [.obj (w.heap.size + 1) (· = .loop (rec st pe)), .obj w.heap.size isDef])) →
      (Instr.endLoop (w.heap.size + 1)).run P W = .ok pe (W.putObj (w.heap.size + 1) (.loop (rec .exhausted pe))) ∧ Own ok w0 (W.putObj (w.heap.size + 1) (.loop (rec .exhausted pe))) (.obj w.heap.size isDef :: (M ++ L)) := by
    intro st pe W L hst HW
    rw [← List.append_assoc] at HW
    obtain ⟨o, ho, rfl⟩ := HW.objAt
    refine ⟨?_, ?_⟩
    · have := run_endLoop (P := P) ho (by rw [hrec]; exact hst)
      rw [hrec] at this ⊢; exact this
    · have := HW.putObj (ψ := fun _ => True) (.loop (rec .exhausted pe)) trivial
      refine Own.tail (x := .obj (w.heap.size + 1) fun _ => True) (this.perm ?_)
      exact (List.perm_append_comm (l₁ := M ++ L) (l₂ := [_, _]))
  refine ⟨w.heap.size + 1, [{ target := .collected w.heap.size, args := #[] }], (w.alloc (.deferred (some []))).alloc (.loop (rec .ready none)), { target := .fn (.func gf) lb, args := #[.func (.yield (w.heap.size + 1)) #[] #[]] }, (w.alloc (.deferred (some []))).alloc (.loop (rec .ready none)), gf,
    #[.func (.yield (w.heap.size + 1)) #[] #[]] ++ lb, (w.alloc (.deferred (some []))).alloc (.loop (rec .ready none)), ?_, ?_, fun _ _ => trivial, ?_, fun h => (by cases h), ?_⟩
  · rw [hrec]; exact run_enterLoop_outer _ _ _ _ _
  · simp only [resolve, hgv]
    simp [go_sem]
  · show (callFunc gf _).run P _ = _
    exact run_callFunc hb
  · refine callsIn_fw.2 (Calls.mono (hit _ _ _ hR _ _ ⟨L0, rfl, h0⟩ H2) ?_)
    rintro ee W ⟨v, rfl, h | h⟩
    · obtain ⟨xs, L', hS, ⟨L1, rfl, hI⟩, HW⟩ := h
      obtain ⟨hr, hO⟩ := hend (by simp) HW
      refine ⟨none, _, hr, _, _, ⟨hf.size, ?_, hf.at_⟩, hdone w.heap.size _ L1 xs hS hI hO⟩
      simp [marks, hf.defers]
    · obtain ⟨pre, L', hS, ⟨c, L1, rfl, hI⟩, HW⟩ := h
      obtain ⟨hr, hO⟩ := hend (by simp) HW
      refine ⟨some c, _, hr, wpIn_any (nCode_out (hstop w.heap.size _ L1 pre c hS hI hO) _ ⟨hf.size, ?_, hf.at_⟩)⟩
      simp [marks, hf.defers]

/-- A mark is taken at the return. -/
theorem ret_own {n D : Nat} {ds : List Nat} {rs : List ResultVar} {e : Env} {w : World} {R : Ending → World → Prop} {L : List Item} (H : Own ok w0 w L) (i : Nat) (hi : L[i]? = some (.obj D isDef))
    (hk : ∀ w', Own ok w0 w' (L.set i (.obj D fun _ => True)) → nRet P n ds rs e w' R) : nRet P n (D :: ds) rs e w R := by
  obtain ⟨A, B, eL, hs⟩ := list_split hi
  have H' := H
  rw [eL] at H'
  obtain ⟨o, ho, hd⟩ := H'.objAt
  refine ret_mark (by rw [ho, hd]) (hk _ ?_)
  rw [hs]
  exact H'.putObj (ψ := fun _ => True) _ trivial
end
end Go.Eng
