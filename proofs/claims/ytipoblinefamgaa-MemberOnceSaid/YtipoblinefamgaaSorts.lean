/- The engine's words and the kit's contracts of the sort: a row of the call's own is sorted. Proved once, over any program. -/
import Derived.Test.YtipoblinefamgaaRange
import Derived.Shelf.SlSortCmp.NoneTotal
set_option linter.unusedVariables false
set_option linter.unusedSectionVars false
namespace Go.Eng
open Go.RowKit Go.Sort Go.Proofs
set_option linter.unusedSectionVars false
variable [Inhabited Keep] [Inhabited Hard]

/-- Where nothing has turned the world has grown. -/
theorem bel_grow {w w' : World} (h : Bel w.heap.size w w') (hdr : w.drawn ≤ w'.drawn) : ∃ q os, w' = grow (w.drewN q) os := by
  refine ⟨w'.drawn - w.drawn, w'.heap.extract w.heap.size w'.heap.size, ?_⟩
  have hh : w'.heap = w.heap ++ w'.heap.extract w.heap.size w'.heap.size := by
    apply Array.ext_getElem?
    intro i
    by_cases hi : i < w.heap.size
    · rw [Array.getElem?_append_left hi]; exact h.block i hi
    · rw [Array.getElem?_append_right (by omega), Array.getElem?_extract]
      by_cases hi2 : i < w'.heap.size
      · rw [if_pos (by omega)]
        congr 1; omega
      · rw [if_neg (by omega), Array.getElem?_eq_none (by omega)]
  have hd : w'.drawn = w.drawn + (w'.drawn - w.drawn) := by omega
  obtain ⟨heap, tape, drawn, os, output⟩ := w'
  obtain ⟨heap0, tape0, drawn0, os0, output0⟩ := w
  have e1 := h.os; have e2 := h.tape; have e3 := h.output
  simp only at e1 e2 e3 hh hd
  subst e1 e2 e3
  simp only [grow, World.drewN]
  rw [← hh, ← hd]

section
variable {α : Type} [Inhabited α] {enc : α → List Value} {k : Nat}
theorem flatMap_get (hk : ∀ x, (enc x).length = k) (k0 : 0 < k) : ∀ (xs : List α) (t : Nat), t < xs.length * k → (xs.flatMap enc)[t]? = some ((enc xs[t / k]!)[t % k]!) := by
  intro xs
  induction xs with
  | nil => intro t h; simp at h
  | cons x xs ih =>
    intro t h
    rw [List.flatMap_cons]
    by_cases ht : t < k
    · rw [List.getElem?_append_left (by rw [hk]; exact ht), Nat.div_eq_of_lt ht, Nat.mod_eq_of_lt ht]
      have : t < (enc x).length := by rw [hk]; exact ht
      simp [this]
    · rw [List.getElem?_append_right (by rw [hk]; omega), hk]
      obtain ⟨u, rfl⟩ : ∃ u, t = u + k := ⟨t - k, by omega⟩
      have hu : u < xs.length * k := by rw [List.length_cons, Nat.succ_mul] at h; omega
      rw [Nat.add_sub_cancel, ih u hu, Nat.add_div_right _ k0, Nat.add_mod_right]
      simp
theorem flatMap_len (hk : ∀ x, (enc x).length = k) : ∀ (xs : List α), (xs.flatMap enc).length = xs.length * k := by
  intro xs
  induction xs with
  | nil => simp
  | cons x xs ih => rw [List.flatMap_cons, List.length_append, ih, hk, List.length_cons, Nat.succ_mul, Nat.add_comm]
theorem flatK_list (hk : ∀ x, (enc x).length = k) (k0 : 0 < k) (d : Array α) : (flatK enc k d).toList = d.toList.flatMap enc := by
  apply List.ext_getElem?
  intro t
  by_cases h : t < d.size * k
  · rw [flatMap_get hk k0 _ _ (by simpa using h)]
    have := get_flatK enc k d t h
    have hs : t < (flatK enc k d).size := by simpa using h
    rw [getElem!_pos _ t hs] at this
    rw [Array.getElem?_toList, Array.getElem?_eq_getElem hs, this]
    have h1 : t / k < d.size := Nat.div_lt_of_lt_mul (by rwa [Nat.mul_comm] at h)
    have e1 : d[t / k]! = d.toList[t / k]! := by rw [getElem!_pos d _ h1, getElem!_pos d.toList _ (by simpa using h1)]; simp
    rw [e1]
  · rw [List.getElem?_eq_none (by rw [Array.length_toList, size_flatK]; omega), List.getElem?_eq_none (by rw [flatMap_len hk]; simpa using h)]

theorem holdsK_of {w : World} {g off : Nat} {cur : Array Value} {e : TypeId} {xs : List α} (hk : ∀ x, (enc x).length = k) (k0 : 0 < k) (hb : w.heap[g]? = some (.cells cur e (0, 0))) (ht : (cur.toList.drop off).take (xs.length * k) = xs.flatMap enc) : HoldsK enc k w g off xs.toArray := by
  intro j hj
  have hj' : j < xs.length * k := by simpa using hj
  refine ⟨?_, by simp [World.frozen?, hb]⟩
  have hf : (flatK enc k xs.toArray)[j]! = (enc xs[j / k]!)[j % k]! := by
    rw [get_flatK _ _ _ _ (by simpa using hj')]
    have h1 : j / k < xs.length := Nat.div_lt_of_lt_mul (by rwa [Nat.mul_comm] at hj')
    have e1 : xs.toArray[j / k]! = xs[j / k]! := by rw [getElem!_pos xs.toArray _ (by simpa using h1), getElem!_pos xs _ h1]; simp
    rw [e1]
  rw [hf]
  have := qRow_cell (g := g) (o := off) hb ht j _ (flatMap_get hk k0 xs j hj')
  rwa [add_at] at this

theorem heap_sortK {w : World} {g off m : Nat} {os : Array Obj} {cur : Array Value} {e : TypeId} {fr : Nat × Nat} (d : Array α) (hb : w.heap[g]? = some (.cells cur e fr)) :
    (sortWorldK enc k w g off m d os).heap[g]? = some (.cells (putCells id off (flatK enc k d) cur) e fr) := by
  have hg : g < w.heap.size := (Array.getElem?_eq_some_iff.1 hb).1
  unfold sortWorldK
  rw [heap_grow_old _ _ (by unfold putRowK; simpa [Sort.ahead] using hg)]
  simp [putRowK, putRow, mapBlock, Sort.ahead, Array.getElem?_modify, hb, onCells]
theorem grown_sortK {w : World} {g off m : Nat} {os : Array Obj} (d : Array α) : w.grownBy (sortWorldK enc k w g off m d os) (some g) := by
  unfold sortWorldK
  refine ⟨rfl, rfl, rfl, by simp [putRowK, putRow, mapBlock, Sort.ahead], fun k hk hne => ?_⟩
  rw [heap_grow_old _ _ (by simpa [putRowK, putRow, mapBlock, Sort.ahead] using hk)]
  have : g ≠ k := fun e => hne (by rw [e])
  simp [putRowK, putRow, mapBlock, Sort.ahead, Array.getElem?_modify, this]
theorem take_sortK (hk : ∀ x, (enc x).length = k) (k0 : 0 < k) (cur : Array Value) (off : Nat) (d : Array α) (h : off + d.size * k ≤ cur.size) : ((putCells id off (flatK enc k d) cur).toList.drop off).take (d.size * k) = d.toList.flatMap enc := by
  rw [← flatK_list hk k0]
  apply List.ext_getElem?
  intro j
  by_cases hj : j < d.size * k
  · rw [List.getElem?_take_of_lt hj, List.getElem?_drop, Array.getElem?_toList]
    have h1 : off + j < cur.size := by omega
    have h2 : j < (flatK enc k d).size := by simpa using hj
    simp only [putCells, Array.getElem?_mapIdx, Array.getElem?_eq_getElem h1, Option.map_some, size_flatK]
    rw [if_pos (by omega), Array.getElem?_toList, Array.getElem?_eq_getElem h2, Nat.add_sub_cancel_left, getElem!_pos _ j h2]
    rfl
  · rw [List.getElem?_take_eq_none (by omega), List.getElem?_eq_none (by rw [Array.length_toList, size_flatK]; omega)]

section
variable {ok : Nat → Prop} {w0 w : World} {A B : List Item} {P : Program} {ρ : Go.Shelf.Ren}
/-- **A row of the call's own is sorted**, if what compares only reads. -/
theorem sort_own (L : SlLaysF0.n6 P ρ) (k0 : 0 < k) (aE : ∀ w, (isAgg (ρ.t 24)).run P w = .ok true w) (zE : ∀ w, (Go.sizeOf (ρ.t 24)).run P w = .ok k w) (hk : ∀ x, (enc x).length = k) (h1 : ∀ x, ∀ v ∈ enc x, v.oneCell' = true) (cf : α → α → Int) (hO : SWO (ltOf cf)) (hT : ∀ x y, (ltOf cf) x y = false → (ltOf cf) y x = false → x = y)
    {g : FuncId} {cb : Array Value} (eg : ∀ args w, (callFunc g args).run P w = .ok (.enter g args) w) (hcmp : ∀ (w : World) (x y : α), Calls P g (#[.agg (enc x).toArray, .agg (enc y).toArray] ++ cb) w fun e w' => ∃ v, e = .returned v ∧ (v = .int .i64 (cf x y) ∧ Bel w.heap.size w w' ∧ w.drawn ≤ w'.drawn))
    {v : Value} {e : TypeId} {xs : List α} (hsz : xs.length < 4611686018427387904) (H : Own ok w0 w (A ++ .row v e k xs.length (xs.flatMap enc) :: B)) :
    Calls P (ρ.f 6) #[v, .func (.func g) #[] cb] w fun ee w' => ∃ u, ee = .returned u ∧ (u = .tuple #[] ∧ Own ok w0 w' (A ++ .row v e k xs.length ((xs.mergeSort fun x y => !(ltOf cf) y x).flatMap enc) :: B)) := by
  have hrow : qRow w e k v xs.length (xs.flatMap enc) := H.all (.row v e k xs.length (xs.flatMap enc)) (by simp)
  rcases hrow.2 with ⟨h0, A', hv, _⟩ | ⟨q, off, cap, cur, hv, hb, hnc, hcm, hcs, ht⟩
  · have hx : xs = [] := List.eq_nil_of_length_eq_zero h0
    subst hx
    rw [hv]
    refine (AnyF.slices_SortFunc_none { L with } A' 0 _ w).mono ?_
    rintro ee w' ⟨rfl, rfl⟩
    refine ⟨_, rfl, rfl, ?_⟩
    rw [hv] at H
    simpa using H
  · have hblk : q < w.heap.size := (Array.getElem?_eq_some_iff.1 hb).1
    have hH := holdsK_of (xs := xs) hk k0 hb ht
    have hc : CmpLays P g cb enc k cf q (off * k) xs.toArray.size w := fun m os dk _ x y => (hcmp _ x y).mono fun e w' ⟨v, he, hv, hb, hdr⟩ => ⟨by rw [he, hv], bel_grow hb hdr⟩
    have hcall := AnyQ.slices_SortFunc_total L k aE zE enc hk h1 cf hO g cb q (off * k) cap xs.toArray w eg hc hH hblk (by simpa using hsz) hT
    have hsize : xs.toArray.size = xs.length := by simp
    rw [hsize] at hcall
    rw [hv]
    refine hcall.mono ?_
    rintro ee w' ⟨rfl, m, os, rfl⟩
    refine ⟨_, rfl, rfl, ?_⟩
    rw [hv] at H
    have hperm := List.mergeSort_perm xs (fun x y => !(ltOf cf) y x)
    have hlen : (xs.mergeSort fun x y => !(ltOf cf) y x).length = xs.length := hperm.length_eq
    refine H.setRow (grown_sortK _) ?_ ?_ (.inl rfl)
    · show w.drawn ≤ (sortWorldK enc k w q (off * k) m _ os).drawn
      unfold sortWorldK putRowK
      show w.drawn ≤ w.drawn + m
      omega
    · refine ⟨by rw [flatMap_len hk, hlen], .inr ⟨q, off, cap, _, rfl, heap_sortK _ hb, hnc, hcm, by simp [putCells, hcs], ?_⟩⟩
      have := take_sortK hk k0 cur (off * k) (xs.mergeSort fun x y => !(ltOf cf) y x).toArray (by
        rw [hcs]
        simp only [List.size_toArray, hlen]
        rw [← Nat.add_mul]
        exact Nat.mul_le_mul_right k (by omega))
      simp only [List.size_toArray, hlen] at this
      exact this
end
end
end Go.Eng
