/- A map's keys, sorted. -/
import Derived.Test.YtipoblinefamgaaIter
import Derived.Test.YtipoblinefamgaaSorts
import Derived.Test.YtipoblinefamgaaSortLay
namespace Go.Proofs.Ytipoblinefamgaa.Cut
open Go.RowKit Go.Eng Go.Proofs
set_option linter.unusedVariables false
set_option maxRecDepth 20000

variable {ok : Nat → Prop} {w0 w : World} {L : List Eng.Item}

/-! The order of places. -/
theorem cmpI_neg {x y : Int} : cmpI x y < 0 ↔ x < y := by
  unfold cmpI
  by_cases h1 : x < y
  · rw [if_pos h1]; omega
  · rw [if_neg h1]
    by_cases h2 : x > y
    · rw [if_pos h2]; omega
    · rw [if_neg h2]; omega
theorem cmpI_zero {x y : Int} : cmpI x y = 0 ↔ x = y := by
  unfold cmpI
  by_cases h1 : x < y
  · rw [if_pos h1]; omega
  · rw [if_neg h1]
    by_cases h2 : x > y
    · rw [if_pos h2]; omega
    · rw [if_neg h2]; omega
theorem idLt_iff {e c e' c' : Int} : idLt e c e' c' = true ↔ e < e' ∨ (e = e' ∧ c < c') := by
  unfold idLt
  rw [decide_eq_true_iff]
  by_cases h : cmpI e e' = 0
  · rw [if_neg (by simp [h])]
    rw [cmpI_neg]
    have := cmpI_zero.1 h
    omega
  · rw [if_pos h, cmpI_neg]
    have : e ≠ e' := fun h' => h (cmpI_zero.2 h')
    omega
theorem plLt_iff {p q : Pl} : plLt p q = true ↔ p.1 < q.1 ∨ (p.1 = q.1 ∧ p.2.1 < q.2.1) := idLt_iff
theorem plCmp_neg {p q : Pl} : plCmp p q < 0 ↔ p.1 < q.1 ∨ (p.1 = q.1 ∧ (p.2.1 < q.2.1 ∨ (p.2.1 = q.2.1 ∧ p.2.2 < q.2.2))) := by
  unfold plCmp
  by_cases h1 : plLt p q = true
  · rw [if_pos h1]
    have := plLt_iff.1 h1
    omega
  · rw [if_neg h1]
    have h1' : ¬ (p.1 < q.1 ∨ (p.1 = q.1 ∧ p.2.1 < q.2.1)) := fun h => h1 (plLt_iff.2 h)
    by_cases h2 : plLt q p = true
    · rw [if_pos h2]
      have := plLt_iff.1 h2
      omega
    · rw [if_neg h2, cmpI_neg]
      have h2' : ¬ (q.1 < p.1 ∨ (q.1 = p.1 ∧ q.2.1 < p.2.1)) := fun h => h2 (plLt_iff.2 h)
      omega
theorem ltPl {p q : Pl} : Go.Proofs.ltOf plCmp p q = true ↔ p.1 < q.1 ∨ (p.1 = q.1 ∧ (p.2.1 < q.2.1 ∨ (p.2.1 = q.2.1 ∧ p.2.2 < q.2.2))) := by
  unfold Go.Proofs.ltOf; rw [decide_eq_true_iff, plCmp_neg]
theorem ltPl_no {p q : Pl} : Go.Proofs.ltOf plCmp p q = false ↔ ¬ (p.1 < q.1 ∨ (p.1 = q.1 ∧ (p.2.1 < q.2.1 ∨ (p.2.1 = q.2.1 ∧ p.2.2 < q.2.2)))) := by
  rw [← ltPl]; simp
theorem swoPl : Go.Sort.SWO (Go.Proofs.ltOf plCmp) where
  irrefl x := by rw [ltPl_no]; omega
  trans x y z h1 h2 := by rw [ltPl] at *; omega
  ntrans x y z h1 h2 := by rw [ltPl_no] at *; omega
theorem totPl (x y : Pl) (h1 : Go.Proofs.ltOf plCmp x y = false) (h2 : Go.Proofs.ltOf plCmp y x = false) : x = y := by
  rw [ltPl_no] at h1 h2
  obtain ⟨a, b, c⟩ := x
  obtain ⟨a', b', c'⟩ := y
  simp only at h1 h2
  have : a = a' ∧ b = b' ∧ c = c' := by omega
  obtain ⟨rfl, rfl, rfl⟩ := this
  rfl

def sortPl (xs : List Pl) : List Pl := xs.mergeSort fun x y => !(Go.Proofs.ltOf plCmp) y x
theorem sortPl_perm {xs ys : List Pl} (h : xs.Perm ys) : sortPl xs = sortPl ys := by
  have tr : ∀ (a b c : Pl), (!(Go.Proofs.ltOf plCmp) b a) = true → (!(Go.Proofs.ltOf plCmp) c b) = true → (!(Go.Proofs.ltOf plCmp) c a) = true := fun a b c h1 h2 => by
    simp only [Bool.not_eq_true', ltPl_no] at *; omega
  have to : ∀ (a b : Pl), (!(Go.Proofs.ltOf plCmp) b a || !(Go.Proofs.ltOf plCmp) a b) = true := fun a b => by
    cases h1 : Go.Proofs.ltOf plCmp b a with
    | false => rfl
    | true =>
      cases h2 : Go.Proofs.ltOf plCmp a b with
      | false => rfl
      | true => rw [ltPl] at h1 h2; omega
  refine List.Perm.eq_of_pairwise (le := fun x y => (!(Go.Proofs.ltOf plCmp) y x) = true) ?_ (List.pairwise_mergeSort tr to xs) (List.pairwise_mergeSort tr to ys) ((List.mergeSort_perm _ _).trans (h.trans (List.mergeSort_perm _ _).symm))
  intro a b _ _ h1 h2
  exact totPl a b (by simpa using h2) (by simpa using h1)

theorem aggP (w : World) : (isAgg 106).run Try.prog w = .ok true w := Eng.run_isAgg (by kernel_rfl)
theorem sizeP (w : World) : (Go.sizeOf 106).run Try.prog w = .ok 3 w := Eng.run_sizeOf (by kernel_rfl)

theorem against_both (p q : Pl) (w : World) : Calls Try.prog 50 #[plV p, plV q] w fun x w' => ∃ v, x = .returned v ∧ v = .int .i64 (plCmp p q) ∧ Below w.heap.size w w' ∧ w.drawn ≤ w'.drawn := by
  letI : Inhabited Keep := ⟨⟨true⟩⟩
  exact (against_calls p q w).mono fun e w' ⟨v, he, hv, hb⟩ => ⟨v, he, hv, hb.toBelow, hb.drawn rfl⟩
theorem sortedFunc_own {gf : FuncId} {lb : Array Value} {S Sp : List Pl → Prop} {M : List Eng.Item} (hb : bodyB Try.prog gf = true) (hit : IterAt Try.prog ok w0 gf lb (fun p : Pl => [plV p]) S Sp M) (hSp : ∀ pre, Sp pre → pre.length ≤ 1000000000) (hS : ∀ xs, S xs → xs.length ≤ 1000000000) (H : Eng.Own ok w0 w (M ++ L)) :
    Calls Try.prog 53 #[.func (.func gf) #[] lb, .func (.func 50) #[] #[]] w fun e w' => ∃ v, e = .returned v ∧ ∃ xs, S xs ∧ Eng.Own ok w0 w' (.row v 106 3 (sortPl xs).length (plsC (sortPl xs)) :: (M ++ L)) := by
  refine enter (args := [.func (.func gf) #[] lb, .func (.func 50) #[] #[]]) Try.func53 rfl Try.ntmps53 rfl rfl ?_
  try refine nc ?_
  try refine nc ?_
  refine call_rule (by kernel_rfl) (collect_own hb hit hSp H) fun v w1 ⟨xs, hxs, H⟩ => ?_
  try refine nc ?_
  try refine nc ?_
  have hs : Calls Try.prog 65 #[v, .func (.func 50) #[] #[]] w1 fun ee w' => ∃ u, ee = .returned u ∧ (u = .tuple #[] ∧ Eng.Own ok w0 w' ([] ++ .row v 106 3 xs.length ((sortPl xs).flatMap plC) :: (M ++ L))) :=
    sort_own (A := []) (enc := plC) (k := 3) Try.sortP (by decide) aggP sizeP (fun _ => rfl) (fun x v hv => by simp [plC] at hv; rcases hv with rfl | rfl | rfl <;> rfl) plCmp swoPl totPl (g := 50) (cb := #[]) (fun args w => run_callFunc (by kernel_rfl)) (fun w x y => (against_both x y w).mono fun e w' ⟨v, he, hv, hB, hd⟩ => ⟨v, he, hv, ⟨hB, fun h => by have h : false = true := h; cases h⟩, hd⟩) (e := 106) (xs := xs) (by have := hS xs hxs; omega) H
  refine call_rule (by kernel_rfl) hs fun u w2 ⟨hu, H⟩ => ?_
  try refine nc ?_
  try refine nc ?_
  refine ret_of [v] ⟨rfl, trivial⟩ ⟨_, rfl, xs, hxs, ?_⟩
  have : (sortPl xs).length = xs.length := (List.mergeSort_perm _ _).length_eq
  rw [this]
  exact H
end Go.Proofs.Ytipoblinefamgaa.Cut
