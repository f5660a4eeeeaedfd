/- The engine's rules for maps: the call's own map in one block; its entries as a list. Proved once, over any program. -/
import Derived.Test.YtipoblinefamgaaEqual
import Derived.Test.YtipoblinefamgaaRange
import Derived.Maps.RangeRun
set_option linter.unusedVariables false
set_option linter.unusedSectionVars false
set_option linter.unusedSimpArgs false
namespace Go.Eng
open Go.RowKit
set_option linter.unusedSectionVars false
variable [Inhabited Keep] [Inhabited Hard]

/-- A kind of keys, and how the machine compares them. -/
structure MKey (P : Program) (kt : TypeId) {α : Type} [DecidableEq α] (enc : α → Value) : Prop where
  check : ∀ em a w, (Instr.checkKey em 10000 kt (enc a)).run P w = .ok () w
  eq : ∀ a b w, (Op.equal kt (enc a) (enc b)).run P w = .ok (decide (a = b)) w
  desc : ∃ d, P.underlying kt = some d ∧ ((∀ a b, Instr.sameNow d (enc a) (enc b) = some (decide (a = b))) ∨ ∀ a b, Instr.sameNow d (enc a) (enc b) = none)
  stays : ∀ a, Instr.sameBits 10000 (enc a) (enc a) = true

/-! ### What is a key, reckoned -/
def keyFs (P : Program) (ck : TypeId → Value → Bool) (xs : List Value) : List Field → Bool
  | [] => true
  | f :: fs => match (f.name == "_") with
    | true => false
    | false => match partB P f.type xs f.offset with
      | some a => ck f.type a && keyFs P ck xs fs
      | none => false
def keyB (P : Program) : Nat → TypeId → Value → Bool
  | 0, _, _ => false
  | d + 1, t, v => match P.underlying t, v with
    | some .bool, .bool _ => true
    | some (.int _), .int _ _ => true
    | some .string, .string _ => true
    | some (.struct fs), .agg xs => keyFs P (keyB P d) xs.toList fs.toList
    | _, _ => false
theorem run_keyB {P : Program} {w : World} {em : Bool} : ∀ (d D : Nat) (t : TypeId) (v : Value), d ≤ D → keyB P d t v = true → (Instr.checkKey em D t v).run P w = .ok () w := by
  intro d
  induction d with
  | zero => intro D t v _ h; simp [keyB] at h
  | succ d ih =>
    intro D t v hD h
    obtain ⟨D, rfl⟩ : ∃ D', D = D' + 1 := ⟨D - 1, by omega⟩
    unfold keyB at h
    split at h
    · rename_i hu; unfold Instr.checkKey; rw [Sem.run_bind, run_underlying hu]; rfl
    · rename_i hu; unfold Instr.checkKey; rw [Sem.run_bind, run_underlying hu]; rfl
    · rename_i hu; unfold Instr.checkKey; rw [Sem.run_bind, run_underlying hu]; rfl
    · rename_i fs xs hu
      unfold Instr.checkKey
      rw [Sem.run_bind, run_underlying hu]
      simp only [Result.andThen_ok]
      have key : ∀ (l : List Field), keyFs P (keyB P d) xs.toList l = true → (forIn l PUnit.unit (fun f r => do
          if f.name ≠ "_" then do
            Instr.checkKey em D f.type (← part f.type xs f.offset)
            pure (ForInStep.yield PUnit.unit)
          else pure (ForInStep.yield PUnit.unit)) : Sem PUnit).run P w = .ok PUnit.unit w := by
        intro l
        induction l with
        | nil => intro _; rfl
        | cons f l ihl =>
          intro h
          simp only [keyFs] at h
          split at h
          · cases h
          · rename_i hn
            have hn' : f.name ≠ "_" := by simpa using hn
            split at h
            · rename_i a ha
              simp only [Bool.and_eq_true] at h
              have e := ih D _ _ (by omega) h.1
              rw [List.forIn_cons]
              simp only [if_pos hn', Sem.run_bind, run_part ha, e, Result.andThen_ok, Sem.run_pure]
              exact ihl h.2
            · cases h
      have := key fs.toList h
      simp only [← Array.forIn_toList]
      rw [Sem.run_bind, this]; rfl
    · cases h

/-! ### Entries -/
section
variable {α : Type} [DecidableEq α]
def getA {β : Type} (a : α) : List (α × β) → Option β
  | [] => none
  | p :: r => if a = p.1 then some p.2 else getA a r
def putA {β : Type} (a : α) (v : β) : List (α × β) → List (α × β)
  | [] => [(a, v)]
  | p :: r => if a = p.1 then (a, v) :: r else p :: putA a v r
def findAt (a : α) : List (α × Value) → Nat → Option (Nat × Value)
  | [], _ => none
  | p :: r, i => if a = p.1 then some (i, p.2) else findAt a r (i + 1)
def entsL (enc : α → Value) (es : List MapEntry) (l : List (α × Value)) : Prop := es.map (fun e => (e.key, e.val)) = l.map fun p => (enc p.1, p.2)
def mapOk (enc : α → Value) (l : List (α × Value)) (o : Obj) : Prop := ∃ es cl, o = .map es cl ∧ entsL enc es.toList l ∧ (es.toList.map (·.born)).Nodup ∧ ∀ e ∈ es.toList, e.born < cl

theorem find_get {a : α} : ∀ {l : List (α × Value)} {i : Nat}, (findAt a l i).map (·.2) = getA a l := by
  intro l
  induction l with
  | nil => intro i; rfl
  | cons p r ih => intro i; simp only [findAt, getA]; split <;> simp [ih]

theorem run_findKey {P : Program} {kt : TypeId} {enc : α → Value} (K : MKey P kt enc) (a : α) (es : List MapEntry) (l : List (α × Value)) (h : entsL enc es l) (w : World) : (Instr.findKey kt (enc a) es).run P w = .ok (findAt a l 0) w := by
  have key : ∀ (es : List MapEntry) (l : List (α × Value)) (i : Nat), entsL enc es l → (Instr.findAsking kt (enc a) es i).run P w = .ok (findAt a l i) w := by
    intro es
    induction es with
    | nil => intro l i h; cases l with
      | nil => rfl
      | cons p l => simp [entsL] at h
    | cons e es ih =>
      intro l i h
      cases l with
      | nil => simp [entsL] at h
      | cons p l =>
        simp only [entsL, List.map_cons, List.cons.injEq, Prod.mk.injEq] at h
        obtain ⟨⟨h1, h2⟩, h3⟩ := h
        simp only [Instr.findAsking, findAt]
        rw [h1]
        simp only [Sem.run_bind, K.eq, Result.andThen_ok]
        by_cases e' : a = p.1
        · simp [e', h2]
        · simp only [e', decide_false, Bool.false_eq_true, if_false]
          exact ih l (i + 1) h3
  obtain ⟨d, hd, hn⟩ := K.desc
  unfold Instr.findKey
  simp only [Sem.run_bind, run_underlying hd, Result.andThen_ok]
  rcases hn with hn | hn
  · have now : ∀ (es : List MapEntry) (l : List (α × Value)) (i : Nat), entsL enc es l → Instr.findNow d (enc a) es i = some (findAt a l i) := by
      intro es
      induction es with
      | nil => intro l i h; cases l with
        | nil => rfl
        | cons p l => simp [entsL] at h
      | cons e es ih =>
        intro l i h
        cases l with
        | nil => simp [entsL] at h
        | cons p l =>
          simp only [entsL, List.map_cons, List.cons.injEq, Prod.mk.injEq] at h
          obtain ⟨⟨h1, h2⟩, h3⟩ := h
          simp only [Instr.findNow, findAt]
          rw [h1, hn]
          by_cases e' : a = p.1
          · simp [e', h2]
          · simp only [e', decide_false, if_false]
            exact ih l (i + 1) h3
    rw [now es l 0 h]; rfl
  · cases es with
    | nil => cases l with
      | nil => rfl
      | cons p l => simp [entsL] at h
    | cons e es =>
      have : Instr.findNow d (enc a) (e :: es) 0 = none := by
        cases l with
        | nil => simp [entsL] at h
        | cons p l =>
          simp only [entsL, List.map_cons, List.cons.injEq, Prod.mk.injEq] at h
          simp only [Instr.findNow]
          rw [h.1.1, hn]
      rw [this]
      exact key _ _ 0 h

theorem find_some {a : α} {i : Nat} {u v : Value} : ∀ {l : List (α × Value)} {k : Nat}, findAt a l k = some (i, u) → ∃ j, i = k + j ∧ l[j]? = some (a, u) ∧ putA a v l = l.set j (a, v) := by
  intro l
  induction l with
  | nil => intro k h; simp [findAt] at h
  | cons p r ih =>
    intro k h
    simp only [findAt] at h
    split at h
    · rename_i e
      cases h
      refine ⟨0, rfl, ?_, ?_⟩
      · simp [e]
      · simp [putA, e]
    · rename_i e
      obtain ⟨j, h1, h2, h3⟩ := ih h
      exact ⟨j + 1, by omega, by simpa using h2, by simp [putA, e, h3]⟩
theorem find_none {a : α} {v : Value} : ∀ {l : List (α × Value)} {k : Nat}, findAt a l k = none → putA a v l = l ++ [(a, v)] := by
  intro l
  induction l with
  | nil => intro k _; rfl
  | cons p r ih =>
    intro k h
    simp only [findAt] at h
    split at h
    · cases h
    · rename_i e
      simp [putA, e, ih h]
end

def mapB (P : Program) (t : TypeId) : Option (TypeId × TypeId) := match P.underlying t with | some (.map k e) => some (k, e) | _ => none
theorem run_underlying_map {P : Program} {w : World} {t k e : TypeId} (h : mapB P t = some (k, e)) : (underlying t).run P w = .ok (.map k e) w := by
  unfold mapB at h
  split at h
  · rename_i hu; cases h; exact run_underlying hu w
  · cases h

section
variable {P : Program} {w w0 : World} {K : Value → World → Prop} {g : Bool} {ok : Nat → Prop} {L : List Item} {α : Type} [DecidableEq α] {enc : α → Value} {l : List (α × Value)}

theorem run_getObj {b : Nat} {es : Array MapEntry} {cl : Nat} (h : w.heap[b]? = some (.map es cl)) : (getObj b).run P w = .ok (.map es cl) w := by simp [getObj, Sem.run, h]
theorem run_setObj {b : Nat} {es : Array MapEntry} {cl : Nat} {o' : Obj} (h : w.heap[b]? = some (.map es cl)) : (Go.setObj b o').run P w = .ok () (w.putObj b o') := by simp [Go.setObj, Sem.run, h, World.putObj]

theorem makeMap_rule {t : TypeId} (H : Own ok w0 w L) (hk : ∀ b w', Own ok w0 w' (.obj b (mapOk enc []) :: L) → K (.map (some b)) w') : nMakeMap P true t none w K := by
  unfold nMakeMap
  refine nOp_in ⟨fun _ => ?_, fun h => by cases h⟩
  rw [sv_run (v := .map (some w.heap.size)) (w' := w.alloc (.map #[] 0))]
  · exact hk _ _ (H.allocObj _ ⟨#[], 0, rfl, rfl, List.nodup_nil, fun e he => by simp at he⟩)
  · simp [Instr.makeMap, run_newObj_alloc]

theorem c_makeMap {t : TypeId} {KE : Value → List Item → Prop} (hk : ∀ b, KE (.map (some b)) (.obj b (mapOk enc []) :: L)) : cMakeMap P true t none ok w0 L KE := by
  unfold cMakeMap
  refine cEv_in ⟨fun v L' => ∃ b, v = .map (some b) ∧ L' = .obj b (mapOk enc []) :: L, fun _ v L' ⟨b, _, hL⟩ => by rw [hL]; exact List.sublist_cons_self _ _, fun w H => ⟨fun _ => ?_, fun h => (by cases h)⟩, fun v L' ⟨b, hv, hL⟩ _ => by subst hv hL; exact hk b⟩
  rw [sv_run (v := .map (some w.heap.size)) (w' := w.alloc (.map #[] 0))]
  · exact ⟨_, ⟨_, rfl, rfl⟩, H.allocObj _ ⟨#[], 0, rfl, rfl, List.nodup_nil, fun e he => by simp at he⟩⟩
  · simp [Instr.makeMap, run_newObj_alloc]
theorem lookup_run {t kt et : TypeId} {z : Value} (ht : mapB P t = some (kt, et)) (hz : zeroB P et = some z) (KK : MKey P kt enc) (a : α) (H : Own ok w0 w L) (i : Nat) {b : Nat} (hi : L[i]? = some (.obj b (mapOk enc l))) (two : Bool) :
    (Instr.lookup t (.map (some b)) (enc a) two).run P w = .ok (match two with | true => .tuple #[(getA a l).getD z, .bool (getA a l).isSome] | false => (getA a l).getD z) w := by
  obtain ⟨o, ho, es, cl, rfl, he, _, _⟩ := H.obj i hi
  have hf := run_findKey KK a es.toList l he w
  have hg := find_get (a := a) (l := l) (i := 0)
  unfold Instr.lookup
  simp only [Sem.run_bind, run_underlying_map ht, Result.andThen_ok, run_getObj ho, Sem.run_pure, KK.check, hf]
  cases hr : findAt a l 0 with
  | none =>
    rw [hr] at hg
    simp only [Option.map_none] at hg
    simp only [Sem.run_bind, run_zero hz, Result.andThen_ok, Sem.run_pure, ← hg]
    cases two <;> rfl
  | some p =>
    rw [hr] at hg
    simp only [Option.map_some] at hg
    simp only [Sem.run_pure, Result.andThen_ok, ← hg]
    cases two <;> rfl
theorem lookup_rule {t kt et : TypeId} {z : Value} (ht : mapB P t = some (kt, et)) (hz : zeroB P et = some z) (KK : MKey P kt enc) (a : α) (H : Own ok w0 w L) (i : Nat) {b : Nat} (hi : L[i]? = some (.obj b (mapOk enc l))) (hk : K ((getA a l).getD z) w) : nLookup P g t (.map (some b)) (enc a) false w K := by
  unfold nLookup
  exact nOp_now (fun _ => sv_run (lookup_run ht hz KK a H i hi false)) hk
theorem lookup_rule2 {t kt et : TypeId} {z : Value} (ht : mapB P t = some (kt, et)) (hz : zeroB P et = some z) (KK : MKey P kt enc) (a : α) (H : Own ok w0 w L) (i : Nat) {b : Nat} (hi : L[i]? = some (.obj b (mapOk enc l))) (hk : K (.tuple #[(getA a l).getD z, .bool (getA a l).isSome]) w) : nLookup P g t (.map (some b)) (enc a) true w K := by
  unfold nLookup
  exact nOp_now (fun _ => sv_run (lookup_run ht hz KK a H i hi true)) hk
theorem c_lookup {t kt et : TypeId} {z : Value} {KF : Value → Prop} (ht : mapB P t = some (kt, et)) (hz : zeroB P et = some z) (KK : MKey P kt enc) (a : α) (i : Nat) {b : Nat} (hi : L[i]? = some (.obj b (mapOk enc l))) (hk : KF ((getA a l).getD z)) : cLookup P g t (.map (some b)) (enc a) false (fun w => Own ok w0 w L) KF := by
  unfold cLookup
  exact cFloat_in _ (fun _ w H => sv_run (lookup_run ht hz KK a H i hi false)) hk

theorem lookup_ruleV {t kt et : TypeId} {z : Value} (ht : mapB P t = some (kt, et)) (hz : zeroB P et = some z) (KK : MKey P kt enc) (a : α) (H : Own ok w0 w L) (i : Nat) {b : Nat} (hi : L[i]? = some (.obj b (mapOk enc l))) (v : Value) (hv : (getA a l).getD z = v) (hk : K v w) : nLookup P g t (.map (some b)) (enc a) false w K := lookup_rule ht hz KK a H i hi (by rw [hv]; exact hk)
theorem c_lookupV {t kt et : TypeId} {z : Value} {KF : Value → Prop} (ht : mapB P t = some (kt, et)) (hz : zeroB P et = some z) (KK : MKey P kt enc) (a : α) (i : Nat) {b : Nat} (hi : L[i]? = some (.obj b (mapOk enc l))) (v : Value) (hv : (getA a l).getD z = v) (hk : KF v) : cLookup P g t (.map (some b)) (enc a) false (fun w => Own ok w0 w L) KF := c_lookup ht hz KK a i hi (by rw [hv]; exact hk)

theorem Own.setObjAt (H : Own ok w0 w L) (i : Nat) {b : Nat} {φ ψ : Obj → Prop} (hi : L[i]? = some (.obj b φ)) (o : Obj) (ho : ψ o) : Own ok w0 (w.putObj b o) (L.set i (.obj b ψ)) := by
  obtain ⟨A, B, e, hs⟩ := list_split hi
  rw [hs]
  rw [e] at H
  exact H.putObj o ho

theorem mapUpdate_run {t kt et : TypeId} (ht : mapB P t = some (kt, et)) (KK : MKey P kt enc) (a : α) (v : Value) (H : Own ok w0 w L) (i : Nat) {b : Nat} (hi : L[i]? = some (.obj b (mapOk enc l))) :
    ∃ w', (Instr.mapUpdate t (.map (some b)) (enc a) v).run P w = .ok () w' ∧ Own ok w0 w' (L.set i (.obj b (mapOk enc (putA a v l)))) := by
  obtain ⟨o, ho, es, cl, rfl, he, hnd, hlt⟩ := H.obj i hi
  have hf := run_findKey KK a es.toList l he w
  have e1 : (Instr.mapUpdate t (.map (some b)) (enc a) v).run P w = ((match findAt a l 0 with
      | some (j, _) => do
        let key ← Instr.keyThatStays (((es[j]?).map (·.key)).getD (enc a)) (enc a)
        Go.setObj b (.map (es.modify j fun e => { e with key, val := v }) cl)
      | none => Go.setObj b (.map (es.push { key := enc a, val := v, born := cl }) (cl + 1))) : Sem Unit).run P w := by
    unfold Instr.mapUpdate
    simp only [Sem.run_bind, run_underlying_map ht, Result.andThen_ok, run_getObj ho, KK.check, hf]
    rfl
  rw [e1]
  cases hr : findAt a l 0 with
  | none =>
    refine ⟨_, run_setObj ho, H.setObjAt i hi _ ⟨_, _, rfl, ?_, ?_, ?_⟩⟩
    · rw [find_none hr]
      simp only [entsL, Array.toList_push, List.map_append, List.map_cons, List.map_nil]
      rw [show es.toList.map (fun e => (e.key, e.val)) = _ from he]
    · simp only [Array.toList_push, List.map_append, List.map_cons, List.map_nil]
      refine List.nodup_append.2 ⟨hnd, by simp, fun x hx y hy => ?_⟩
      obtain ⟨e, hem, rfl⟩ := List.mem_map.1 hx
      have := hlt e hem
      simp at hy
      omega
    · intro e hem
      simp only [Array.toList_push, List.mem_append, List.mem_singleton] at hem
      rcases hem with k | k
      · have := hlt e k; omega
      · subst k; simp
  | some p =>
    obtain ⟨j, u⟩ := p
    obtain ⟨j', hj, hl, hput⟩ := find_some (v := v) hr
    have : j = j' := by omega
    subst this
    have hlen : es.toList.length = l.length := by have := congrArg List.length he; simpa using this
    have hjl : j < l.length := (List.getElem?_eq_some_iff.1 hl).1
    have hje : j < es.size := by rw [← Array.length_toList, hlen]; exact hjl
    have hkey : es[j].key = enc a := by
      have h1 : (es.toList.map (fun e => (e.key, e.val)))[j]? = some (es[j].key, es[j].val) := by simp [hje]
      have h2 : (l.map fun p => (enc p.1, p.2))[j]? = some (enc a, u) := by simp [hl]
      rw [show es.toList.map (fun e => (e.key, e.val)) = _ from he, h2] at h1
      exact (congrArg Prod.fst (Option.some.inj h1)).symm
    have e2 : (((es[j]?).map (·.key)).getD (enc a)) = enc a := by rw [Array.getElem?_eq_getElem hje]; exact hkey
    have hst : (Instr.keyThatStays (enc a) (enc a)).run P w = .ok (enc a) w := by simp [Instr.keyThatStays, KK.stays]
    refine ⟨_, by simp only [e2, Sem.run_bind, hst, Result.andThen_ok]; exact run_setObj ho, H.setObjAt i hi _ ⟨_, _, rfl, ?_, ?_, ?_⟩⟩
    · rw [hput]
      have : (es.modify j fun e => { e with key := enc a, val := v }).toList = es.toList.set j { es[j] with key := enc a, val := v } := by
        rw [Array.toList_modify]
        apply List.ext_getElem?
        intro k
        rw [List.getElem?_modify, List.getElem?_set]
        by_cases hk : j = k
        · subst hk; simp [hje]
        · simp [hk]
      rw [this]
      simp only [entsL, List.map_set]
      rw [show es.toList.map (fun e => (e.key, e.val)) = _ from he]
    · have : (es.modify j fun e => { e with key := enc a, val := v }).toList.map (·.born) = es.toList.map (·.born) := by
        rw [Array.toList_modify]
        apply List.ext_getElem?
        intro k
        rw [List.getElem?_map, List.getElem?_map, List.getElem?_modify]
        by_cases hk : j = k
        · subst hk; simp [hje]
        · simp [hk]
      rw [this]; exact hnd
    · intro e hem
      rw [Array.toList_modify] at hem
      obtain ⟨k, hk⟩ := List.mem_iff_getElem?.1 hem
      rw [List.getElem?_modify] at hk
      by_cases hjk : j = k
      · subst hjk
        simp [hje] at hk
        subst hk
        exact hlt es[j] (by simp)
      · simp only [hjk, if_false, Option.map_id_fun, id_eq] at hk
        exact hlt e (List.mem_of_getElem? (by simpa using hk))
theorem c_mapUpdate {t kt et : TypeId} {KE : Value → List Item → Prop} (ht : mapB P t = some (kt, et)) (KK : MKey P kt enc) (a : α) (v : Value) (i : Nat) {b : Nat} (hi : L[i]? = some (.obj b (mapOk enc l))) (hk : KE undef (L.set i (.obj b (mapOk enc (putA a v l))))) : cMapUpdate P true t (.map (some b)) (enc a) v ok w0 L KE := by
  unfold cMapUpdate
  refine cEv_in ⟨fun u L' => u = undef ∧ L' = L.set i (.obj b (mapOk enc (putA a v l))), fun h => (by cases h), fun w H => ⟨fun _ => ?_, fun h => by cases h⟩, fun u L' h _ => by rw [h.1, h.2]; exact hk⟩
  obtain ⟨w', hr, H'⟩ := mapUpdate_run ht KK a v H i hi
  rw [su_run hr]
  exact ⟨_, ⟨rfl, rfl⟩, H'⟩
end

/-! ### A range over a map -/
/-- Where a range over a map stands: what is still to come. -/
structure ItOk {α : Type} (enc : α → Value) (es : Array MapEntry) (cl : Nat) (seen : Array Nat) (rest : List (α × Value)) : Prop where
  nd : (es.toList.map (·.born)).Nodup
  lt : ∀ e ∈ es.toList, e.born < cl
  rest : entsL enc (leftOf es seen).toList rest

section
variable {P : Program} {w w0 : World} {K : Value → World → Prop} {g : Bool} {ok : Nat → Prop} {L : List Item} {α : Type} {enc : α → Value} {l : List (α × Value)}

/-- What a step has handed out can be read again. -/
def EntOk (P : Program) (r b : Nat) (es : Array MapEntry) (cl : Nat) (seen : Array Nat) (k v : Value) : Prop := ∀ W : World, W.heap[r]? = some (.mapIter (some b) cl seen cl) → W.heap[b]? = some (.map es cl) → (Instr.entry (.pointer (some ⟨r, 0, none⟩))).run P W = .ok (.tuple #[k, v]) W
theorem entry_rule (H : Own ok w0 w L) (i j : Nat) {b r : Nat} {es : Array MapEntry} {cl : Nat} {seen : Array Nat} {k v : Value} (hj : L[j]? = some (.obj r (· = .mapIter (some b) cl seen cl))) (hi : L[i]? = some (.obj b (· = .map es cl))) (he : EntOk P r b es cl seen k v) (hk : K (.tuple #[k, v]) w) : nEntry P g (.pointer (some ⟨r, 0, none⟩)) w K := by
  unfold nEntry
  obtain ⟨o, ho, rfl⟩ := H.obj j hj
  obtain ⟨o2, ho2, rfl⟩ := H.obj i hi
  exact nOp_now (fun _ => sv_run (he w ho ho2)) hk
/-- The map is looked into. -/
theorem Own.openMap (H : Own ok w0 w L) (i : Nat) {b : Nat} (hi : L[i]? = some (.obj b (mapOk enc l))) : ∃ es cl, ItOk enc es cl #[] l ∧ entsL enc es.toList l ∧ Own ok w0 w (L.set i (.obj b (· = .map es cl))) := by
  obtain ⟨A, B, e, hs⟩ := list_split hi
  have H' := H
  rw [e] at H'
  obtain ⟨o, ho, es, cl, rfl, he, hnd, hlt⟩ := H'.objAt
  refine ⟨es, cl, ⟨hnd, hlt, ?_⟩, he, ?_⟩
  · have : leftOf es #[] = es := by unfold leftOf; exact Array.filter_eq_self.2 (fun x _ => by simp)
    rw [this]; exact he
  · rw [hs]
    exact H'.setOne (g := b) rfl rfl H'.below rfl (fun _ => ⟨_, ho, rfl⟩) (fun _ _ => rfl)
theorem Own.shutMap (H : Own ok w0 w L) (i : Nat) {b : Nat} {es : Array MapEntry} {cl : Nat} {seen : Array Nat} {rest : List (α × Value)} (hi : L[i]? = some (.obj b (· = .map es cl))) (hit : ItOk enc es cl seen rest) (he : entsL enc es.toList l) : Own ok w0 w (L.set i (.obj b (mapOk enc l))) := by
  obtain ⟨A, B, e, hs⟩ := list_split hi
  have H' := H
  rw [e] at H'
  obtain ⟨o, ho, rfl⟩ := H'.objAt
  rw [hs]
  exact H'.setOne (g := b) rfl rfl H'.below rfl (fun _ => ⟨_, ho, es, cl, rfl, he, hit.nd, hit.lt⟩) (fun _ _ => rfl)

theorem rangeMap_rule {t kt et : TypeId} (ht : mapB P t = some (kt, et)) (H : Own ok w0 w L) (i : Nat) {b : Nat} {es : Array MapEntry} {cl : Nat} (hi : L[i]? = some (.obj b (· = .map es cl)))
    (hk : ∀ r w', Own ok w0 w' (.obj r (· = .mapIter (some b) cl #[] cl) :: L) → K (.pointer (some ⟨r, 0, none⟩)) w') : nRange P true t (.map (some b)) w K := by
  unfold nRange
  refine nOp_in ⟨fun _ => ?_, fun h => by cases h⟩
  obtain ⟨o, ho, rfl⟩ := H.obj i hi
  rw [sv_run (v := .pointer (some ⟨w.heap.size, 0, none⟩)) (w' := w.alloc (.mapIter (some b) cl #[] cl))]
  · exact hk _ _ (H.allocObj _ rfl)
  · simp [Instr.range, run_underlying_map ht, run_getObj ho, run_newObj_alloc]

theorem nextMap_rule {t : TypeId} (H : Own ok w0 w L) (i j : Nat) {b r : Nat} {es : Array MapEntry} {cl : Nat} {seen : Array Nat} {rest : List (α × Value)} (hj : L[j]? = some (.obj r (· = .mapIter (some b) cl seen cl))) (hi : L[i]? = some (.obj b (· = .map es cl))) (hit : ItOk enc es cl seen rest)
    (hend : rest = [] → K (.tuple #[.bool false]) w) (hk : ∀ A p B seen' w', rest = A ++ p :: B → ItOk enc es cl seen' (A ++ B) → EntOk P r b es cl seen' (enc p.1) p.2 → Own ok w0 w' (L.set j (.obj r (· = .mapIter (some b) cl seen' cl))) → K (.tuple #[.bool true, enc p.1, p.2]) w') : nNext P true (.pointer (some ⟨r, 0, none⟩)) false t w K := by
  unfold nNext
  refine nOp_in ⟨fun _ => ?_, fun h => by cases h⟩
  obtain ⟨o, ho, rfl⟩ := H.obj j hj
  obtain ⟨o2, ho2, rfl⟩ := H.obj i hi
  rcases run_next_at (P := P) w t r b cl cl seen es cl ho ho2 hit.lt (Nat.le_refl _) with ⟨h0, hrun⟩ | ⟨e, he, w1, hw1, hrun⟩
  · rw [sv_run hrun]
    refine hend ?_
    have := congrArg List.length hit.rest
    simp [h0] at this
    exact List.eq_nil_of_length_eq_zero this.symm
  · rw [sv_run hrun]
    obtain ⟨A', B', hAB⟩ := List.append_of_mem he
    have hr := hit.rest
    rw [hAB] at hr
    simp only [entsL, List.map_append, List.map_cons] at hr
    obtain ⟨A, R, hR1, hA, hR⟩ := List.map_eq_append_iff.1 hr.symm
    obtain ⟨p, B, hR2, hp, hB⟩ := List.map_eq_cons_iff.1 hR
    have hp1 : e.key = enc p.1 := by have := congrArg Prod.fst hp; simpa using this.symm
    have hp2 : e.val = p.2 := by have := congrArg Prod.snd hp; simpa using this.symm
    rw [hp1, hp2]
    have H1 : Own ok w0 w1 L := by rcases hw1 with rfl | rfl; exact H; exact H.drew
    have heM : e ∈ es.toList := by
      have : e ∈ (leftOf es seen).toList := he
      unfold leftOf at this
      rw [Array.toList_filter] at this
      exact (List.mem_filter.1 this).1
    refine hk A p B (seen.push e.born) _ (by rw [hR1, hR2]) ⟨hit.nd, hit.lt, ?_⟩ (fun W h1 h2 => by rw [run_entry_at W r b cl seen es cl e h1 h2 heM hit.nd, hp1, hp2]) ?_
    · have hl : (leftOf es (seen.push e.born)).toList = A' ++ B' := by
        have h1 : (leftOf es (seen.push e.born)).toList = (leftOf es seen).toList.filter (fun x => !(x.born == e.born)) := by
          unfold leftOf
          rw [Array.toList_filter, Array.toList_filter, List.filter_filter]
          refine List.filter_congr fun x hx => ?_
          simp only [Array.contains_push]
          cases (x.born == e.born) <;> simp
        have hnd : ((leftOf es seen).toList.map (·.born)).Nodup := by
          unfold leftOf
          rw [Array.toList_filter]
          exact (List.filter_sublist.map _).nodup hit.nd
        rw [h1, hAB, List.filter_append, List.filter_cons]
        rw [hAB, List.map_append, List.map_cons] at hnd
        have hnd2 := List.nodup_append.1 hnd
        have hnd3 := List.nodup_cons.1 hnd2.2.1
        have eA : A'.filter (fun x => !(x.born == e.born)) = A' := List.filter_eq_self.2 fun x hx => by
          have := hnd2.2.2 x.born (List.mem_map.2 ⟨x, hx, rfl⟩) e.born (by simp)
          simpa using this
        have eB : B'.filter (fun x => !(x.born == e.born)) = B' := List.filter_eq_self.2 fun x hx => by
          have : x.born ≠ e.born := fun h => hnd3.1 (h ▸ List.mem_map.2 ⟨x, hx, rfl⟩)
          simpa using this
        rw [eA, eB]
        simp
      rw [hl]
      simp only [entsL, List.map_append, hA, hB]
    · have : Go.ChangeMaps.setBlock w1 r (.mapIter (some b) cl (seen.push e.born) cl) = w1.putObj r (.mapIter (some b) cl (seen.push e.born) cl) := rfl
      rw [this]
      exact H1.setObjAt j hj _ rfl
end
end Go.Eng
