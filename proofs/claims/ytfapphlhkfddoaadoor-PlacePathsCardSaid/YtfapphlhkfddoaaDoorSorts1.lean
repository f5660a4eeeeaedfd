/- A row of the call's own, of things of one cell, is sorted: out of whatever contract the sort has. -/
import Derived.Test.YtfapphlhkfddoaaDoorSorts
set_option linter.unusedVariables false
set_option linter.unusedSectionVars false
namespace Go.Eng
open Go.RowKit Go.Sort Go.Proofs
set_option linter.unusedSectionVars false
variable [Inhabited Keep]
variable {α : Type} [Inhabited α] {enc : α → Value} {P : Program} {f : FuncId} {ok : Nat → Prop} {w0 w : World} {A B : List Item}

/-- What a contract of the sort says. -/
def SortsAt (P : Program) (f : FuncId) (enc : α → Value) (srt : List α → List α) : Prop :=
  ∀ (blk off cap : Nat) (zs : List α) (w : World), Holds enc w blk off zs.toArray → blk < w.heap.size → zs.length < 4611686018427387904 →
    Calls P f #[.slice (some ⟨blk, off, none⟩) zs.length cap] w fun e w' => e = .returned (.tuple #[]) ∧ ∃ n os, w' = grow (putRow enc (Sort.ahead w n) blk off (srt zs).toArray) os
theorem holds1_of {w : World} {g off : Nat} {cur : Array Value} {e : TypeId} {xs : List α} (hb : w.heap[g]? = some (.cells cur e (0, 0))) (ht : (cur.toList.drop off).take xs.length = xs.map enc) : Holds enc w g off xs.toArray := by
  intro j hj
  have hj' : j < xs.length := by simpa using hj
  refine ⟨?_, by simp [World.frozen?, hb]⟩
  have hx : xs.toArray[j]! = xs[j] := by rw [getElem!_pos xs.toArray _ hj]; simp
  rw [hx]
  have := qRow_cell (g := g) (o := off) hb ht j _ (by rw [List.getElem?_map, List.getElem?_eq_getElem hj']; rfl)
  rwa [add_at] at this
theorem heap_sort1 {w : World} {g off m : Nat} {os : Array Obj} {cur : Array Value} {e : TypeId} {fr : Nat × Nat} (d : Array α) (hb : w.heap[g]? = some (.cells cur e fr)) :
    (grow (putRow enc (Sort.ahead w m) g off d) os).heap[g]? = some (.cells (putCells enc off d cur) e fr) := by
  have hg : g < w.heap.size := (Array.getElem?_eq_some_iff.1 hb).1
  rw [heap_grow_old _ _ (by simpa [putRow, mapBlock, Sort.ahead] using hg)]
  simp [putRow, mapBlock, Sort.ahead, Array.getElem?_modify, hb, onCells]
theorem grown_sort1 {w : World} {g off m : Nat} {os : Array Obj} (d : Array α) : w.grownBy (grow (putRow enc (Sort.ahead w m) g off d) os) (some g) := by
  refine ⟨rfl, rfl, rfl, by simp [putRow, mapBlock, Sort.ahead], fun k hk hne => ?_⟩
  rw [heap_grow_old _ _ (by simpa [putRow, mapBlock, Sort.ahead] using hk)]
  have : g ≠ k := fun e => hne (by rw [e])
  simp [putRow, mapBlock, Sort.ahead, Array.getElem?_modify, this]
theorem take_sort1 (cur : Array Value) (off : Nat) (d : Array α) (h : off + d.size ≤ cur.size) : ((putCells enc off d cur).toList.drop off).take d.size = d.toList.map enc := by
  apply List.ext_getElem?
  intro j
  by_cases hj : j < d.size
  · rw [List.getElem?_take_of_lt hj, List.getElem?_drop, Array.getElem?_toList]
    have h1 : off + j < cur.size := by omega
    simp only [putCells, Array.getElem?_mapIdx, Array.getElem?_eq_getElem h1, Option.map_some]
    rw [if_pos (by omega), Nat.add_sub_cancel_left, getElem!_pos d j hj, List.getElem?_map, Array.getElem?_toList, Array.getElem?_eq_getElem hj]
    rfl
  · rw [List.getElem?_take_eq_none (by omega), List.getElem?_eq_none (by rw [List.length_map, Array.length_toList]; omega)]
theorem sort1_own {srt : List α → List α} (hs : SortsAt P f enc srt) (hsl : ∀ l, (srt l).length = l.length) {v : Value} {e : TypeId} {xs : List α} (hpos : 0 < xs.length) (hsz : xs.length < 4611686018427387904) (H : Own ok w0 w (A ++ .row v e 1 xs.length (xs.map enc) :: B)) :
    Calls P f #[v] w fun ee w' => ∃ u, ee = .returned u ∧ (u = .tuple #[] ∧ Own ok w0 w' (A ++ .row v e 1 xs.length ((srt xs).map enc) :: B)) := by
  have hrow : qRow w e 1 v xs.length (xs.map enc) := H.all (.row v e 1 xs.length (xs.map enc)) (by simp)
  rcases hrow.2 with ⟨h0, A', hv, _⟩ | ⟨q, off, cap, cur, hv, hb, hnc, hcm, hcs, ht⟩
  · omega
  · have hblk : q < w.heap.size := (Array.getElem?_eq_some_iff.1 hb).1
    rw [Nat.mul_one] at hv hcs ht
    have hH := holds1_of (enc := enc) (xs := xs) hb (by simpa using ht)
    rw [hv]
    refine (hs q off cap xs w hH hblk hsz).mono ?_
    rintro ee w' ⟨rfl, m, os, rfl⟩
    refine ⟨_, rfl, rfl, ?_⟩
    rw [hv] at H
    refine H.setRow (grown_sort1 _) ?_ ?_ (.inl rfl)
    · show w.drawn ≤ w.drawn + m
      omega
    · refine ⟨by rw [List.length_map, hsl]; simp, .inr ⟨q, off, cap, _, by rw [Nat.mul_one], heap_sort1 _ hb, hnc, hcm, by simp [putCells, hcs], ?_⟩⟩
      have := take_sort1 (enc := enc) cur off (srt xs).toArray (by
        rw [hcs]
        simp only [List.size_toArray, hsl]
        omega)
      simp only [List.size_toArray, hsl] at this
      simpa using this
end Go.Eng
