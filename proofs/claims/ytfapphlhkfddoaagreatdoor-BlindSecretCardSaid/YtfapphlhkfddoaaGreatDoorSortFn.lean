/- A row of texts is sorted by a comparator. -/
import Derived.Test.YtfapphlhkfddoaaGreatDoorHL
import Derived.Test.YtfapphlhkfddoaaGreatDoorSortFLay
import Derived.Shelf.SlSortCmp.NoneTotal
namespace Go.Proofs.YtfapphlhkfddoaaGreatDoor.G
open Go.RowKit Go.Eng Go.Proofs Go.Proofs.YtfapphlhkfddoaaGreatDoor.Cut Go.Sort
set_option linter.unusedVariables false
set_option linter.unusedSimpArgs false
variable {ok : Nat → Prop} {w0 w : World} {A B L R : List Eng.Item}

/-- The shorter first, then by bytes. -/
def shorterI (a b : List UInt8) : Int := if a.length < b.length then -1 else if b.length < a.length then 1 else Lib.compareBytes a b
theorem compare_neg : ∀ (a b : List UInt8), Lib.compareBytes a b < 0 ↔ a < b
  | [], [] => by simp [Lib.compareBytes]
  | [], _ :: _ => by simp [Lib.compareBytes]
  | _ :: _, [] => by simp [Lib.compareBytes]
  | a :: xs, b :: ys => by
    have ih := compare_neg xs ys
    unfold Lib.compareBytes
    by_cases h1 : a < b
    · rw [if_pos h1]; simp [List.cons_lt_cons_iff, h1]
    · rw [if_neg h1]
      by_cases h2 : b < a
      · rw [if_pos h2]
        have hne : a ≠ b := fun e => by subst e; exact h1 h2
        simp [List.cons_lt_cons_iff, h1, hne]
      · rw [if_neg h2]
        have hab : a = b := UInt8.le_antisymm (UInt8.not_lt.1 h2) (UInt8.not_lt.1 h1)
        rw [ih, List.cons_lt_cons_iff]
        simp [hab]
theorem compare_zero : ∀ (a b : List UInt8), Lib.compareBytes a b = 0 ↔ a = b
  | [], [] => by simp [Lib.compareBytes]
  | [], _ :: _ => by simp [Lib.compareBytes]
  | _ :: _, [] => by simp [Lib.compareBytes]
  | a :: xs, b :: ys => by
    have ih := compare_zero xs ys
    unfold Lib.compareBytes
    by_cases h1 : a < b
    · rw [if_pos h1]
      have hne : a ≠ b := fun e => by subst e; exact absurd h1 (UInt8.lt_irrefl _)
      simp [hne]
    · rw [if_neg h1]
      by_cases h2 : b < a
      · rw [if_pos h2]
        have hne : a ≠ b := fun e => by subst e; exact h1 h2
        simp [hne]
      · rw [if_neg h2]
        have hab : a = b := UInt8.le_antisymm (UInt8.not_lt.1 h2) (UInt8.not_lt.1 h1)
        rw [ih]; simp [hab]
theorem shorterI_neg (a b : List UInt8) : shorterI a b < 0 ↔ a.length < b.length ∨ (a.length = b.length ∧ a < b) := by
  unfold shorterI
  by_cases h1 : a.length < b.length
  · rw [if_pos h1]; simp [h1]
  · rw [if_neg h1]
    by_cases h2 : b.length < a.length
    · rw [if_pos h2]; constructor
      · intro h; omega
      · rintro (h | h)
        · omega
        · omega
    · rw [if_neg h2, compare_neg]
      constructor
      · intro h; exact .inr ⟨by omega, h⟩
      · rintro (h | h)
        · omega
        · exact h.2
theorem shorter_eq (a b : List UInt8) : place_shorter.f a b = some (shorterI a b) := by
  unfold place_shorter.f cmp_Compare_int.f cmp_isNaN_int.f strings_Compare.f
  have hor : ∀ x y : Int, cmp_Or_int.f [x, y] = some (if x ≠ 0 then x else y) := by
    intro x y
    unfold cmp_Or_int.f
    by_cases hx : x = 0
    · subst hx
      by_cases hy : y = 0
      · subst hy
        have h2 : loopM (fun s91 : Int => cmp_Or_int.b1 [0, 0] s91) (2 : Int) = some (.inl ()) := loop_end rfl
        have h1 : loopM (fun s91 : Int => cmp_Or_int.b1 [0, 0] s91) (1 : Int) = some (.inl ()) := loop_step (s' := (2 : Int)) rfl h2
        have h0 : loopM (fun s91 : Int => cmp_Or_int.b1 [0, 0] s91) (0 : Int) = some (.inl ()) := loop_step (s' := (1 : Int)) rfl h1
        rw [h0]; rfl
      · have h1 : loopM (fun s91 : Int => cmp_Or_int.b1 [0, y] s91) (1 : Int) = some (.inr y) := loop_end (by
          show cmp_Or_int.b1 [0, y] 1 = _
          unfold cmp_Or_int.b1
          show cond (y != 0) _ _ = _
          rw [show (y != (0 : Int)) = true by simpa using hy]; rfl)
        have h0 : loopM (fun s91 : Int => cmp_Or_int.b1 [0, y] s91) (0 : Int) = some (.inr y) := loop_step (s' := (1 : Int)) rfl h1
        rw [h0]; rfl
    · have h0 : loopM (fun s91 : Int => cmp_Or_int.b1 [x, y] s91) (0 : Int) = some (.inr x) := loop_end (by
          show cmp_Or_int.b1 [x, y] 0 = _
          unfold cmp_Or_int.b1
          show cond (x != 0) _ _ = _
          rw [show (x != (0 : Int)) = true by simpa using hx]; rfl)
      rw [h0, if_pos hx]; rfl
  simp only [Option.bind_some, bne_self_eq_false, cond_false, hor]
  unfold shorterI
  by_cases h1 : a.length < b.length
  · rw [if_pos h1, decide_eq_true (show (a.length : Int) < (b.length : Int) by omega)]; rfl
  · rw [if_neg h1, decide_eq_false (show ¬ (a.length : Int) < (b.length : Int) by omega)]
    by_cases h2 : b.length < a.length
    · rw [if_pos h2, decide_eq_true (show (a.length : Int) > (b.length : Int) by omega)]; rfl
    · rw [if_neg h2, decide_eq_false (show ¬ (a.length : Int) > (b.length : Int) by omega)]; rfl
abbrev ltF : List UInt8 → List UInt8 → Bool := Go.Proofs.ltOf shorterI
theorem ltF_iff {a b : List UInt8} : ltF a b = true ↔ a.length < b.length ∨ (a.length = b.length ∧ a < b) := by
  show decide (shorterI a b < 0) = true ↔ _
  rw [decide_eq_true_iff, shorterI_neg]
theorem ltF_no {a b : List UInt8} : ltF a b = false ↔ ¬ (a.length < b.length ∨ (a.length = b.length ∧ a < b)) := by rw [← ltF_iff]; simp
theorem swoF : SWO ltF where
  irrefl x := by
    rw [ltF_no]
    rintro (h | h)
    · omega
    · exact List.lt_irrefl _ h.2
  trans x y z h1 h2 := by
    rw [ltF_iff] at *
    rcases h1 with h1 | h1
    · rcases h2 with h2 | h2
      · left; omega
      · left; omega
    · rcases h2 with h2 | h2
      · left; omega
      · exact .inr ⟨by omega, List.lt_trans h1.2 h2.2⟩
  ntrans x y z h1 h2 := by
    rw [ltF_no] at *
    rintro (h | h)
    · have a1 : ¬ x.length < y.length := fun q => h1 (.inl q)
      have a2 : ¬ y.length < z.length := fun q => h2 (.inl q)
      omega
    · have a1 : ¬ x.length < y.length := fun q => h1 (.inl q)
      have a2 : ¬ y.length < z.length := fun q => h2 (.inl q)
      have e1 : x.length = y.length := by omega
      have e2 : y.length = z.length := by omega
      have b1 : y ≤ x := List.not_lt.1 fun q => h1 (.inr ⟨e1, q⟩)
      have b2 : z ≤ y := List.not_lt.1 fun q => h2 (.inr ⟨e2, q⟩)
      exact List.not_lt.2 (List.le_trans b2 b1) h.2
theorem totF (x y : List UInt8) (h1 : ltF x y = false) (h2 : ltF y x = false) : x = y := by
  rw [ltF_no] at h1 h2
  have e : x.length = y.length := by
    have a1 : ¬ x.length < y.length := fun q => h1 (.inl q)
    have a2 : ¬ y.length < x.length := fun q => h2 (.inl q)
    omega
  exact List.le_antisymm (List.not_lt.1 fun q => h2 (.inr ⟨e.symm, q⟩)) (List.not_lt.1 fun q => h1 (.inr ⟨e, q⟩))
def sortF (l : List (List UInt8)) : List (List UInt8) := l.mergeSort fun x y => !(ltF y x)
theorem sortF_perm (l : List (List UInt8)) : (sortF l).Perm l := List.mergeSort_perm _ _
theorem sortF_len (l : List (List UInt8)) : (sortF l).length = l.length := (sortF_perm l).length_eq
theorem sortF_own {v : Value} {e : TypeId} {xs : List (List UInt8)} (hpos : 0 < xs.length) (hsz : xs.length < 4611686018427387904) (H : Eng.Own ok w0 w (A ++ .row v e 1 xs.length (xs.map encStr) :: B)) :
    Calls Tryz.prog 110 #[v, .func (.func 111) #[] #[]] w fun ee w' => ∃ u, ee = .returned u ∧ (u = .tuple #[] ∧ Eng.Own ok w0 w' (A ++ .row v e 1 xs.length ((sortF xs).map encStr) :: B)) := by
  have hrow : qRow w e 1 v xs.length (xs.map encStr) := H.all (.row v e 1 xs.length (xs.map encStr)) (by simp)
  rcases hrow.2 with ⟨h0, A', hv, _⟩ | ⟨q, off, cap, cur, hv, hb, hnc, hcm, hcs, ht⟩
  · omega
  · have hblk : q < w.heap.size := (Array.getElem?_eq_some_iff.1 hb).1
    rw [Nat.mul_one] at hv hcs ht
    have hH := holds1_of (enc := encStr) (xs := xs) hb (by simpa using ht)
    rw [hv]
    have hc : CmpLays1 Tryz.prog 111 #[] encStr shorterI q off xs.toArray.size w := fun m os dk _ x y => by
      letI : Inhabited Keep := ⟨⟨true⟩⟩
      have h := place_shorter_ok (ok := fun _ => False) (w := sortWorld encStr w q off m dk os) (shorter_eq x y)
      exact h.mono fun e w' ⟨v, he, hv, hb⟩ => ⟨by rw [he, hv], bel_grow hb (hb.drawn rfl)⟩
    have hcall := Any.slices_SortFunc_total Tryz.sortF encStr (fun x => rfl) shorterI swoF 111 #[] q off cap xs.toArray w (enters_of Tryz.func111 (by kernel_rfl) rfl) hc hH hblk (by simpa using hsz) totF
    rw [show xs.toArray.size = xs.length by simp] at hcall
    refine hcall.mono ?_
    rintro ee w' ⟨rfl, m, os, rfl⟩
    refine ⟨_, rfl, rfl, ?_⟩
    rw [hv] at H
    refine H.setRow (grown_sort1 _) ?_ ?_ (.inl rfl)
    · show w.drawn ≤ w.drawn + m
      omega
    · have hs2 : (xs.toArray.toList.mergeSort fun x y => !(Go.Proofs.ltOf shorterI) y x) = sortF xs := by simp [sortF]
      rw [hs2]
      refine ⟨by rw [List.length_map, sortF_len]; simp, .inr ⟨q, off, cap, _, by rw [Nat.mul_one], heap_sort1 _ hb, hnc, hcm, by simp [putCells, hcs], ?_⟩⟩
      have := take_sort1 (enc := encStr) cur off (sortF xs).toArray (by
        rw [hcs]
        simp only [List.size_toArray, sortF_len]
        omega)
      simp only [List.size_toArray, sortF_len] at this
      simpa using this
end Go.Proofs.YtfapphlhkfddoaaGreatDoor.G
