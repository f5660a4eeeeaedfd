/- The engine's rule for a statement whose order Go leaves open, where two effects have no order to each other: both ways are gone through. Proved once, over any program. -/
import Derived.Test.YtipoblinefamgaaDraw
set_option linter.unusedVariables false
set_option linter.unusedSimpArgs false
namespace Go.Eng
open Go.RowKit
set_option linter.unusedSectionVars false
variable [Inhabited Keep] [Inhabited Hard]

/-- The same operation, at another place: what it waits for is renumbered, and there may be more. -/
def reOp (σ : List Nat) (more : List Nat) (o : Oper) : Oper := { o with after := (o.after.toList.map (fun e => ({ e with on := σ.getD e.on 0 } : Edge)) ++ more.map fun k => (⟨k, .data⟩ : Edge)).toArray }
def reAt (ops : List Oper) (σ : List Nat) (y x q : Nat) : Oper := match ops[q]? with
  | some o => reOp σ (match Nat.beq q y with | true => [σ.getD x 0] | false => []) o
  | none => default
/-- The operations in another order, where y waits for x as well. -/
def reOps (ops : List Oper) (π σ : List Nat) (y x : Nat) : List Oper := π.map fun q => reAt ops σ y x q
def permOk (N : Nat) (π σ : List Nat) : Bool := Nat.beq π.length N && Nat.beq σ.length N && ((List.range N).all fun q => Nat.blt (σ.getD q 0) N && Nat.beq (π.getD (σ.getD q 0) 0) q && Nat.blt (π.getD q 0) N && Nat.beq (σ.getD (π.getD q 0) 0) q)
def plainOps (ops : List Oper) : Bool := ops.all fun o => o.guard.isNone && o.after.toList.all fun e => Nat.blt e.on ops.length
def calmOp (o : Oper) : Bool := match o.op with
  | .move _ | .assign _ | .load .. | .indexAddr .. | .index .. | .unOp .. | .field .. | .fieldAddr .. | .store .. | .mapUpdate .. | .insert .. | .makeMap .. | .alloc .. | .box .. | .buildSlice .. | .lookup .. | .slice .. | .build .. | .extract .. | .nilCheck _ => true
  | _ => false
def calmOps (ops : List Oper) (i j : Nat) : Bool := (List.range ops.length).all fun q => match ops[q]? with
  | none => true
  | some o => Nat.beq q i || Nat.beq q j || calmOp o || o.after.toList.any fun e => Region.binds .any e && (Nat.beq e.on i || Nat.beq e.on j)

theorem perm_out {N : Nat} {π σ : List Nat} (h : permOk N π σ = true) : π.length = N ∧ σ.length = N ∧ ∀ q, q < N → σ.getD q 0 < N ∧ π.getD (σ.getD q 0) 0 = q ∧ π.getD q 0 < N ∧ σ.getD (π.getD q 0) 0 = q := by
  unfold permOk at h
  simp only [Bool.and_eq_true, List.all_eq_true, List.mem_range] at h
  obtain ⟨⟨h1, h2⟩, h3⟩ := h
  refine ⟨Nat.eq_of_beq_eq_true h1, Nat.eq_of_beq_eq_true h2, fun q hq => ?_⟩
  obtain ⟨⟨⟨a, b⟩, c⟩, d⟩ := h3 q hq
  exact ⟨by simpa [Nat.blt_eq] using a, Nat.eq_of_beq_eq_true b, by simpa [Nat.blt_eq] using c, Nat.eq_of_beq_eq_true d⟩
theorem plain_out {ops : List Oper} (h : plainOps ops = true) {q : Nat} {o : Oper} (hq : ops[q]? = some o) : o.guard = none ∧ ∀ e ∈ o.after, e.on < ops.length := by
  unfold plainOps at h
  have := List.all_eq_true.1 h o (List.mem_of_getElem? hq)
  simp only [Bool.and_eq_true, List.all_eq_true] at this
  refine ⟨by simpa using this.1, fun e he => ?_⟩
  have := this.2 e (by simpa using he)
  simpa [Nat.blt_eq] using this
section
variable {P : Program} {n : Nat} {ops : List Oper} {π σ : List Nat} {y x : Nat} {F : Fence} {Q : Exit → Act → World → Prop}
theorem re_get (hp : permOk ops.length π σ = true) {q : Nat} {o : Oper} (hq : ops[q]? = some o) : (reOps ops π σ y x)[σ.getD q 0]? = some (reOp σ (match Nat.beq q y with | true => [σ.getD x 0] | false => []) o) := by
  obtain ⟨h1, h2, h3⟩ := perm_out hp
  have hql : q < ops.length := (List.getElem?_eq_some_iff.1 hq).1
  obtain ⟨a, b, _, _⟩ := h3 q hql
  have hpq : π[σ.getD q 0]? = some q := by
    have hl : σ.getD q 0 < π.length := by omega
    rw [List.getD_eq_getElem?_getD, List.getElem?_eq_getElem hl] at b
    rw [List.getElem?_eq_getElem hl]
    exact congrArg some b
  unfold reOps
  rw [List.getElem?_map, hpq]
  show some (reAt ops σ y x q) = _
  unfold reAt
  rw [hq]
theorem re_len (hp : permOk ops.length π σ = true) : (reOps ops π σ y x).length = ops.length := by
  unfold reOps
  rw [List.length_map, (perm_out hp).1]
/-- Two lists of what has been done, of one state. -/
def likeL (N : Nat) (σ : List Nat) (l l' : Array Bool) : Prop := l.size = N ∧ l'.size = N ∧ ∀ q, q < N → l'.getD (σ.getD q 0) true = l.getD q true
theorem like_set (hp : permOk ops.length π σ = true) {l l' : Array Bool} (h : likeL ops.length σ l l') {q : Nat} (hq : q < ops.length) : likeL ops.length σ (l.setIfInBounds q true) (l'.setIfInBounds (σ.getD q 0) true) := by
  obtain ⟨h1, h2, h3⟩ := h
  obtain ⟨_, _, hs⟩ := perm_out hp
  refine ⟨by simp [h1], by simp [h2], fun r hr => ?_⟩
  have a := (hs q hq).1
  rw [getD_set (by omega), getD_set (by omega)]
  by_cases e : r = q
  · rw [if_pos e, if_pos (by rw [e])]
  · rw [if_neg e, if_neg (fun c => e (by rw [← (hs r hr).2.1, ← (hs q hq).2.1, c])), h3 r hr]
theorem ready_back (hp : permOk ops.length π σ = true) (hg : plainOps ops = true) {l l' : Array Bool} (h : likeL ops.length σ l l') {q : Nat} (hq : q < ops.length) (hr : σ.getD q 0 ∈ Region.ready .any (reOps ops π σ y x).toArray l') : q ∈ Region.ready .any ops.toArray l := by
  obtain ⟨h1, h2, h3⟩ := h
  obtain ⟨_, _, hs⟩ := perm_out hp
  obtain ⟨hu, o', ho', hall⟩ := mem_ready.1 hr
  have hqo : ops[q]? = some ops[q] := List.getElem?_eq_getElem hq
  have hget := re_get (y := y) (x := x) hp hqo
  have ho' : (reOps ops π σ y x)[σ.getD q 0]? = some o' := by simpa using ho'
  rw [hget] at ho'
  obtain rfl := Option.some.inj ho'
  refine mem_ready.2 ⟨by rw [← h3 q hq]; exact hu, ops[q], by rw [List.getElem?_toArray]; exact hqo, fun e he hb => ?_⟩
  have hel := (plain_out hg hqo).2 e he
  have : l'.getD (σ.getD e.on 0) false = true := hall ({ e with on := σ.getD e.on 0 } : Edge) (by
    show _ ∈ (reOp _ _ _).after
    unfold reOp
    simp only [List.mem_toArray, List.mem_append, List.mem_map]
    exact .inl ⟨e, by simp [he], rfl⟩) hb
  have hb2 := (hs e.on hel).1
  rw [← getD_tf (listed := l') (by omega), h3 e.on hel, getD_tf (by omega)] at this
  exact this
theorem ready_on (hp : permOk ops.length π σ = true) (hg : plainOps ops = true) (hx : x < ops.length) {l l' : Array Bool} (h : likeL ops.length σ l l') {q : Nat} (hr : q ∈ Region.ready .any ops.toArray l) (hxl : q = y → l.getD x true = true) : q < ops.length ∧ σ.getD q 0 ∈ Region.ready .any (reOps ops π σ y x).toArray l' := by
  obtain ⟨h1, h2, h3⟩ := h
  obtain ⟨_, _, hs⟩ := perm_out hp
  obtain ⟨hu, o, ho, hall⟩ := mem_ready.1 hr
  have ho : ops[q]? = some o := by simpa using ho
  have hq : q < ops.length := (List.getElem?_eq_some_iff.1 ho).1
  have hget := re_get (y := y) (x := x) hp ho
  refine ⟨hq, mem_ready.2 ⟨by rw [h3 q hq]; exact hu, _, by simpa using hget, fun e he hb => ?_⟩⟩
  have he : e ∈ (reOp σ (match Nat.beq q y with | true => [σ.getD x 0] | false => []) o).after := he
  unfold reOp at he
  simp only [List.mem_toArray, List.mem_append, List.mem_map] at he
  rcases he with ⟨e0, he0, rfl⟩ | ⟨k, hk, rfl⟩
  · have he0 : e0 ∈ o.after := by simpa using he0
    have hel := (plain_out hg ho).2 e0 he0
    have h5 := hall e0 he0 hb
    have := (hs e0.on hel).1
    show l'.getD (σ.getD e0.on 0) false = true
    rw [← getD_tf (by omega), h3 e0.on hel, getD_tf (by omega)]
    exact h5
  · cases hqy : Nat.beq q y with
    | false => rw [hqy] at hk; cases hk
    | true =>
      rw [hqy] at hk
      obtain rfl := List.mem_singleton.1 hk
      have := (hs x hx).1
      show l'.getD (σ.getD x 0) false = true
      rw [← getD_tf (by omega), h3 x hx]
      exact hxl (Nat.eq_of_beq_eq_true hqy)
/-- One operation means the same at both places. -/
theorem re_op (hp : permOk ops.length π σ = true) (hg : plainOps ops = true) {q : Nat} (hq : q < ops.length) {K : Act → World → Prop} {a : Act} {w : World} : wpOpIn F n P (reOps ops π σ y x).toArray Q (σ.getD q 0) K a w = wpOpIn F n P ops.toArray Q q K a w := by
  have hqo : ops[q]? = some ops[q] := List.getElem?_eq_getElem hq
  have hget := re_get (y := y) (x := x) hp hqo
  have e1 : (reOps ops π σ y x).toArray[σ.getD q 0]? = some (reOp σ (match Nat.beq q y with | true => [σ.getD x 0] | false => []) ops[q]) := by simpa using hget
  have e2 : ops.toArray[q]? = some ops[q] := by rw [List.getElem?_toArray]; exact hqo
  have hgn := (plain_out hg hqo).1
  unfold wpOpIn
  rw [e1, e2]
  have w1 : ∀ t, Region.wanted ops[q] t = true := fun t => by unfold Region.wanted; rw [hgn]
  have w2 : ∀ m t, Region.wanted (reOp σ m ops[q]) t = true := fun m t => by unfold Region.wanted reOp; simp only [hgn]
  simp only [w1, w2, if_true]
  rfl
theorem ready_lt {l : Array Bool} {q : Nat} (h : q ∈ Region.ready .any ops.toArray l) : q < ops.length := by
  obtain ⟨_, o, ho, _⟩ := mem_ready.1 h
  have ho : ops[q]? = some o := by simpa using ho
  exact (List.getElem?_eq_some_iff.1 ho).1
theorem ready_nil (hp : permOk ops.length π σ = true) (hg : plainOps ops = true) {l l' : Array Bool} (h : likeL ops.length σ l l') (hr : Region.ready .any ops.toArray l = []) : Region.ready .any (reOps ops π σ y x).toArray l' = [] := by
  refine List.eq_nil_iff_forall_not_mem.2 fun r hm => ?_
  have hl : r < ops.length := by have := ready_lt hm; rw [re_len hp] at this; exact this
  obtain ⟨_, _, c, d⟩ := (perm_out hp).2.2 r hl
  rw [← d] at hm
  have := ready_back hp hg h c hm
  rw [hr] at this; cases this
/-- Once x is done, the other order is this one. -/
theorem sim_any (hp : permOk ops.length π σ = true) (hg : plainOps ops = true) (hx : x < ops.length) : ∀ (fuel : Nat) (l l' : Array Bool) (a : Act) (w : World), likeL ops.length σ l l' → l.getD x true = true → wpAnyIn F n P .any (reOps ops π σ y x).toArray Q fuel l' a w → wpAnyIn F n P .any ops.toArray Q fuel l a w
  | 0, l, l', a, w, hl, hxl, h => by
    refine ⟨?_, h.2⟩
    refine List.eq_nil_iff_forall_not_mem.2 fun q hq => ?_
    have := (ready_on (y := y) hp hg hx hl hq (fun _ => hxl)).2
    rw [h.1] at this; cases this
  | fuel + 1, l, l', a, w, hl, hxl, h => by
    refine ⟨fun hr => h.1 (ready_nil hp hg hl hr), fun q hq => ?_⟩
    obtain ⟨hql, hqr⟩ := ready_on (y := y) hp hg hx hl hq (fun _ => hxl)
    have := h.2 _ hqr
    rw [re_op hp hg hql] at this
    refine wpOpIn_mono (fun a w hk => ?_) this
    refine sim_any hp hg hx fuel _ _ a w (like_set hp hl hql) ?_ hk
    rw [getD_set (by rw [hl.1]; exact hql)]
    split
    · rfl
    · exact hxl
theorem sv_calm {s : Sem Value} {w : World} : (∃ v w', (sv s).run P w = .ok (.value v) w') ∨ ∃ h w', (sv s).run P w = .halt h w' := by
  unfold sv
  rw [Sem.run_bind]
  cases s.run P w with
  | ok v w' => exact .inl ⟨v, w', rfl⟩
  | halt h w' => exact .inr ⟨h, w', rfl⟩
theorem su_calm {s : Sem Unit} {w : World} : (∃ w', (su s).run P w = .ok .skip w') ∨ ∃ h w', (su s).run P w = .halt h w' := by
  unfold su
  rw [Sem.run_bind]
  cases s.run P w with
  | ok v w' => exact .inl ⟨w', rfl⟩
  | halt h w' => exact .inr ⟨h, w', rfl⟩
theorem calm_run {o : Oper} (hc : calmOp o = true) (ro : Option Nat) (ρ : Operand → Value) (w : World) : (∃ v w', (o.semAt ro ρ).run P w = .ok (.value v) w') ∨ (∃ w', (o.semAt ro ρ).run P w = .ok .skip w') ∨ ∃ h w', (o.semAt ro ρ).run P w = .halt h w' := by
  have hd : ∀ c, o.op ≠ .defer c := fun c e => by unfold calmOp at hc; rw [e] at hc; cases hc
  have hv : ∀ {A B C : Prop}, A ∨ C → A ∨ B ∨ C := fun h => h.elim .inl fun h => .inr (.inr h)
  rw [Oper.semAt_eq ro ρ o hd]
  unfold execOp
  unfold calmOp at hc
  cases ho : o.op <;> rw [ho] at hc <;> first
    | cases hc; done
    | exact .inl ⟨_, _, rfl⟩
    | exact hv sv_calm
    | exact .inr su_calm
    | skip
  dsimp only
  split
  · exact .inr (.inr ⟨_, _, rfl⟩)
  · exact .inr (.inr ⟨_, _, rfl⟩)
  · exact .inr (.inr ⟨_, _, rfl⟩)
  · split
    · exact .inr (.inr ⟨_, _, rfl⟩)
    · simp only [Sem.run_bind]
      rw [show (program : Sem Program).run P w = .ok P w from rfl]
      dsimp only [Result.andThen]
      generalize Sem.run P (nilAhead _ _ _ _) w = r
      cases r with
      | halt h w' => exact .inr (.inr ⟨h, w', rfl⟩)
      | ok x w2 =>
        dsimp only
        split
        · exact .inr (.inr ⟨_, _, rfl⟩)
        · exact .inl ⟨_, _, rfl⟩
    · exact .inl ⟨_, _, rfl⟩
  · exact .inl ⟨_, _, rfl⟩
theorem calm_and {o : Oper} (hc : calmOp o = true) {K K' : Act → World → Prop} {a : Act} {w : World} (h : o.wpIn F n P a w K Q) (h' : o.wpIn F n P a w K' Q) : o.wpIn F n P a w (fun a w => K a w ∧ K' a w) Q := by
  unfold Oper.wpIn at *
  refine ⟨h.1, ?_⟩
  have h := h.2
  have h' := h'.2
  rcases calm_run (P := P) hc F.round a.eval w with ⟨v, w', e⟩ | ⟨w', e⟩ | ⟨x, w', e⟩
  · rw [e] at h h' ⊢
    exact ⟨h, h'⟩
  · rw [e] at h h' ⊢
    exact ⟨h, h'⟩
  · rw [e] at h h' ⊢
    cases x <;> first | exact h | exact h.elim
/-- Two effects without an order: one ahead of the other, or the other way. -/
theorem split_any {i j : Nat} {π1 σ1 π2 σ2 : List Nat} (hp1 : permOk ops.length π1 σ1 = true) (hp2 : permOk ops.length π2 σ2 = true) (hg : plainOps ops = true) (hc : calmOps ops i j = true) (hi : i < ops.length) (hj : j < ops.length) (hij : i ≠ j) :
    ∀ (fuel : Nat) (l l1 l2 : Array Bool) (a : Act) (w : World), likeL ops.length σ1 l l1 → likeL ops.length σ2 l l2 → l.getD i true = false → l.getD j true = false → wpAnyIn F n P .any (reOps ops π1 σ1 j i).toArray Q fuel l1 a w → wpAnyIn F n P .any (reOps ops π2 σ2 i j).toArray Q fuel l2 a w → wpAnyIn F n P .any ops.toArray Q fuel l a w
  | 0, l, l1, l2, a, w, hl1, hl2, hui, huj, h1, h2 => by
    refine ⟨?_, h1.2⟩
    refine List.eq_nil_iff_forall_not_mem.2 fun q hq => ?_
    by_cases e : q = j
    · have := (ready_on (y := i) (x := j) hp2 hg hj hl2 hq (fun e2 => absurd (e2.symm.trans e) hij)).2
      rw [h2.1] at this; cases this
    · have := (ready_on (y := j) (x := i) hp1 hg hi hl1 hq (fun e2 => absurd e2 e)).2
      rw [h1.1] at this; cases this
  | fuel + 1, l, l1, l2, a, w, hl1, hl2, hui, huj, h1, h2 => by
    refine ⟨fun hr => h1.1 (ready_nil hp1 hg hl1 hr), fun q hq => ?_⟩
    by_cases ej : q = j
    · obtain ⟨hql, hqr⟩ := ready_on (y := i) (x := j) hp2 hg hj hl2 hq (fun e2 => absurd (e2.symm.trans ej) hij)
      have := h2.2 _ hqr
      rw [re_op hp2 hg hql] at this
      refine wpOpIn_mono (fun a w hk => ?_) this
      exact sim_any hp2 hg hj fuel _ _ a w (like_set hp2 hl2 hql) (by rw [getD_set (by rw [hl1.1]; exact hql), if_pos ej.symm]) hk
    obtain ⟨hql, hqr⟩ := ready_on (y := j) (x := i) hp1 hg hi hl1 hq (fun e2 => absurd e2 ej)
    have k1 := h1.2 _ hqr
    rw [re_op hp1 hg hql] at k1
    by_cases ei : q = i
    · refine wpOpIn_mono (fun a w hk => ?_) k1
      exact sim_any hp1 hg hi fuel _ _ a w (like_set hp1 hl1 hql) (by rw [getD_set (by rw [hl1.1]; exact hql), if_pos ei.symm]) hk
    obtain ⟨_, hqr2⟩ := ready_on (y := i) (x := j) hp2 hg hj hl2 hq (fun e2 => absurd e2 ei)
    have k2 := h2.2 _ hqr2
    rw [re_op hp2 hg hql] at k2
    obtain ⟨hu, o, ho, hall⟩ := mem_ready.1 hq
    have hol : ops[q]? = some o := by simpa using ho
    have hcalm : calmOp o = true := by
      unfold calmOps at hc
      have := List.all_eq_true.1 hc q (List.mem_range.2 hql)
      rw [hol] at this
      simp only [Bool.or_eq_true, List.any_eq_true, Bool.and_eq_true] at this
      rcases this with ((e | e) | e) | ⟨e, he, hb, e2⟩
      · exact absurd (Nat.eq_of_beq_eq_true e) ei
      · exact absurd (Nat.eq_of_beq_eq_true e) ej
      · exact e
      · exfalso
        have h5 := hall e (by simpa using he) hb
        rcases e2 with e2 | e2
        · rw [Nat.eq_of_beq_eq_true e2, ← getD_tf (by rw [hl1.1]; exact hi), hui] at h5; cases h5
        · rw [Nat.eq_of_beq_eq_true e2, ← getD_tf (by rw [hl1.1]; exact hj), huj] at h5; cases h5
    have hgn := (plain_out hg hol).1
    have w1 : ∀ t, Region.wanted o t = true := fun t => by unfold Region.wanted; rw [hgn]
    unfold wpOpIn at k1 k2 ⊢
    rw [ho] at k1 k2 ⊢
    simp only [w1, if_true] at k1 k2 ⊢
    refine Oper.wpIn_mono (fun a w hk => ?_) (calm_and hcalm k1 k2)
    refine split_any hp1 hp2 hg hc hi hj hij fuel _ _ _ a w (like_set hp1 hl1 hql) (like_set hp2 hl2 hql) ?_ ?_ hk.1 hk.2
    · rw [getD_set (by rw [hl1.1]; exact hql), if_neg (Ne.symm ei)]; exact hui
    · rw [getD_set (by rw [hl1.1]; exact hql), if_neg (Ne.symm ej)]; exact huj
end
/-- Of a list of operations: once through it, in its own order. -/
theorem list_any {P : Program} {ro : Option Nat} {ds : List Nat} {Lb : List Item} {QF : List FuncId} {QV : Nat → Value} {n : Nat} {ops : List Oper} {e : Env} {w w0 : World} {K : EK} {ok : Nat → Prop} {L : List Item} {NT : List Nat} (hck : drawOk QF n ops (befs ops []) NT = true) (H : Own ok w0 w L) (hLb : Lb.Sublist L)
    (h : runC P QF QV n ops NT Lb ok w0 (K .normal ds) 0 ops e [] [L]) {a : Act} (hf : Fits n ds e a) : wpAnyIn (Fw ro) 0 P .any ops.toArray (lift n K) ops.length (Array.replicate ops.length false) a { w with drawn := w.drawn + 1 } := by
  have st := stat_of hck
  have hsel : ∀ o ∈ ops, ∀ cs b, o.op ≠ .select cs b := fun o ho => by
    obtain ⟨j, hj⟩ := List.mem_iff_getElem?.1 ho
    exact st.nosel j o hj
  have hlex := runC_lexC (P := P) (K := K .normal ds) st.dst_lt ops 0 e [] [L] (by simp) (fun t gs v hl => by simp [look] at hl) hsel h
  have hrem : rem ops (Array.replicate ops.length false) = (ops.zipIdx 0).map fun q => (q.2, q.1) := by
    unfold rem
    refine List.filter_eq_self.2 fun q hq => ?_
    obtain ⟨x, hx, rfl⟩ := List.mem_map.1 hq
    have := List.mem_zipIdx hx
    have hlt : x.2 < ops.length := by
      have h2 := this.2.1
      simpa using h2
    simp [Array.getD_eq_getD_getElem?, hlt]
  have hfits := fits_fenv hf
  have inv : RInv QF n ops (befs ops []) Lb ok w0 (rem ops (Array.replicate ops.length false)) (fenv e []) [L] := by
    refine ⟨fun q hq => (mem_rem.1 hq).1, ?_, fun q hq d hd t gs v hv p hp => ?_, ⟨a, hfits⟩, ⟨L, rfl, hLb, w, H⟩, ⟨0, ?_, rfl⟩, fun r A C hA hC => ?_⟩
    · refine (rem_sorted (ops := ops)).imp_of_mem fun {x y} hx hy hlt => ?_
      cases hb : bit (befs ops []) x.1 y.1 with
      | false => rfl
      | true => have := (st.bound x.1 y.1 x.2 y.2 (mem_rem.1 hx).1 (mem_rem.1 hy).1 hb).1; omega
    · simp only [fenv, look] at hv
      split at hv
      · cases hv; cases hp
      · cases hv
    · rw [hrem]
      simp only [List.drop_zero]
      have key : ∀ (l : List Oper) (k : Nat), ((((l.zipIdx k).map fun q => (q.2, q.1)).filter fun q => isEvent QF q.2).map (·.1)) = ((List.range' k l.length).filter fun i => match l[i - k]? with | some o => isEvent QF o | none => false) := by
        intro l
        induction l with
        | nil => intro k; rfl
        | cons x l ih =>
          intro k
          rw [List.zipIdx_cons, List.map_cons, List.filter_cons, List.length_cons, List.range'_succ, List.filter_cons]
          have e1 : ((List.range' (k + 1) l.length).filter fun i => match (x :: l)[i - k]? with | some o => isEvent QF o | none => false) = ((List.range' (k + 1) l.length).filter fun i => match l[i - (k + 1)]? with | some o => isEvent QF o | none => false) := by
            refine List.filter_congr fun i hi => ?_
            have := List.mem_range'_1.1 hi
            obtain ⟨d, rfl⟩ : ∃ d, i = k + 1 + d := ⟨i - (k + 1), by omega⟩
            have e3 : k + 1 + d - k = d + 1 := by omega
            have e4 : k + 1 + d - (k + 1) = d := by omega
            rw [e3, e4]; rfl
          rw [e1, ← ih (k + 1)]
          simp only [Nat.sub_self, List.getElem?_cons_zero]
          split <;> rfl
      have := key ops 0
      rw [this]
      unfold evList
      rw [List.range_eq_range']
      simp only [Nat.sub_zero]
      rfl
    · have := (List.getElem?_eq_some_iff.1 hC).1
      simp at this
  refine draw_any (QV := QV) (KF := fun F w => ∃ e', (∀ t v, look e' t = some v → F t = some ([], v)) ∧ K .normal ds e' w) st (fun F1 F2 w hS ⟨e', he, hk⟩ => ⟨e', fun t v hv => hS.bare t v (he t v hv), hk⟩) ?_ ops.length (Array.replicate ops.length false) a _ (fenv e []) [L] (by simp) inv hfits hf.defers ⟨L, rfl, hLb, H.drew⟩ ?_ ?_ ?_
  · intro F a w hF hdf hk
    obtain ⟨e', he, hk⟩ := hk
    exact ⟨ds, e', ⟨hF.size, hdf, fun t v hv => hF.yes t [] v (he t v hv) (fun p hp => by cases hp)⟩, hk⟩
  · intro m i om oi hm' hi hb hl
    have : m < ops.length := by simpa using (List.getElem?_eq_some_iff.1 hm').1
    simp [Array.getD_eq_getD_getElem?, this] at hl
  · rw [hrem]; simp
  · rw [hrem]; exact hlex
/-- A list of operations, in any order that its edges let. -/
abbrev anyL (P : Program) (ro : Option Nat) (n : Nat) (K : EK) (ops : List Oper) (a : Act) (w : World) : Prop := wpAnyIn (Fw ro) 0 P .any ops.toArray (lift n K) ops.length (Array.replicate ops.length false) a { w with drawn := w.drawn + 1 }
theorem draw_tree {P : Program} {ro : Option Nat} {ds : List Nat} {n : Nat} {id : Nat} {ops : Array Oper} {e : Env} {w : World} {K : EK} (hm : P.follows .mixedOrders = true) (h : ∀ a, Fits n ds e a → anyL P ro n K ops.toList a w) : nDrawn P ro n ds id ops e w K := by
  unfold nDrawn
  refine nCode_in fun a hf => ?_
  refine wpIn_region_any hm ?_
  have := h a hf
  unfold anyL at this
  simpa using this
theorem any_leaf {P : Program} {ro : Option Nat} {ds : List Nat} {n : Nat} {ops : List Oper} {e : Env} {w w0 : World} {K : EK} {ok : Nat → Prop} {L : List Item} {a : Act} (hf : Fits n ds e a) (NT : List Nat) (hck : drawOk [] n ops (befs ops []) NT = true) (H : Own ok w0 w L)
    (h : runC P [] (fun _ => undef) n ops NT [] ok w0 (K .normal ds) 0 ops e [] [L]) : anyL P ro n K ops a w := list_any (ro := ro) hck H (List.nil_sublist _) h hf
theorem any_leafB {P : Program} {ro : Option Nat} {ds : List Nat} {n : Nat} {ops : List Oper} {e : Env} {w w0 : World} {K : EK} {ok : Nat → Prop} {L : List Item} {a : Act} (hf : Fits n ds e a) (Lb : List Item) (NT : List Nat) (hck : drawOk [] n ops (befs ops []) NT = true) (H : Own ok w0 w L) (hL : Lb.Sublist L)
    (h : runC P [] (fun _ => undef) n ops NT Lb ok w0 (K .normal ds) 0 ops e [] [L]) : anyL P ro n K ops a w := list_any (ro := ro) hck H hL h hf
/-- Two effects (i, j) without an order: i ahead of j, and j ahead of i (in the order π). -/
theorem any_two {P : Program} {ro : Option Nat} {n : Nat} {ops : List Oper} {w : World} {K : EK} {a : Act} (i j : Nat) (id0 π σ : List Nat)
    (hs : (permOk ops.length id0 id0 && permOk ops.length π σ && plainOps ops && calmOps ops i j && Nat.blt i ops.length && Nat.blt j ops.length && !Nat.beq i j) = true)
    (k1 : anyL P ro n K (reOps ops id0 id0 j i) a w) (k2 : anyL P ro n K (reOps ops π σ i j) a w) : anyL P ro n K ops a w := by
  simp only [Bool.and_eq_true] at hs
  obtain ⟨⟨⟨⟨⟨⟨hp1, hp2⟩, hg⟩, hc⟩, hi⟩, hj⟩, hij⟩ := hs
  have hi : i < ops.length := by simpa [Nat.blt_eq] using hi
  have hj : j < ops.length := by simpa [Nat.blt_eq] using hj
  have hij : i ≠ j := fun e => by rw [e] at hij; simp at hij
  unfold anyL at k1 k2 ⊢
  rw [re_len hp1] at k1
  rw [re_len hp2] at k2
  have hn : ∀ q, q < ops.length → (Array.replicate ops.length false).getD q true = false := fun q hq => by
    simp [Array.getD_eq_getD_getElem?, hq]
  have hlike : ∀ {π σ : List Nat}, permOk ops.length π σ = true → likeL ops.length σ (Array.replicate ops.length false) (Array.replicate ops.length false) := fun hp => ⟨by simp, by simp, fun q hq => by rw [hn q hq, hn _ ((perm_out hp).2.2 q hq).1]⟩
  exact split_any hp1 hp2 hg hc hi hj hij _ _ _ _ a _ (hlike hp1) (hlike hp2) (hn i hi) (hn j hj) k1 k2
end Go.Eng
