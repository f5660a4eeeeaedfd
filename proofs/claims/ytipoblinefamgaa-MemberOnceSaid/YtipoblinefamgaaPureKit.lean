/- Small laws of the models. -/
import Derived.Test.YtipoblinefamgaaGTypes
import Derived.Test.YtipoblinefamgaaCut0
namespace Go.Proofs.Ytipoblinefamgaa.G
open Go.RowKit Go.Eng Go.Proofs Go.Proofs.Ytipoblinefamgaa.Cut
set_option linter.unusedVariables false
set_option linter.unusedSimpArgs false
theorem idxL_lt {α : Type} {xs : List α} {i : Nat} (h : i < xs.length) : idxL xs (i : Int) = some xs[i] := by rw [idxL_nat, List.getElem?_eq_getElem h]
theorem wrap1 (i : Nat) (h : i ≤ 4611686018427387904) : IntKind.i64.wrap ((i : Int) + (1 : Int)) = ((i + 1 : Nat) : Int) := by rw [Eng.i64_id (by omega) (by omega)]; omega
theorem room_of {α : Type} {b n : Nat} {x : Option α} (h : n * b ≤ 140737488355328) : roomM b n x = x := by unfold roomM; rw [if_pos h]
theorem cond_t {α : Type} {p : Prop} [Decidable p] {a b : α} (h : p) : cond (decide p) a b = a := by rw [decide_eq_true h]; rfl
theorem cond_f {α : Type} {p : Prop} [Decidable p] {a b : α} (h : ¬ p) : cond (decide p) a b = b := by rw [decide_eq_false h]; rfl
theorem take_snoc {α : Type} {xs : List α} {i : Nat} (h : i < xs.length) : xs.take i ++ [xs[i]] = xs.take (i + 1) := by rw [List.take_add_one, List.getElem?_eq_getElem h]; rfl
theorem slc_lt {α : Type} {xs : List α} {a b : Nat} (h : a ≤ b) (hb : b ≤ xs.length) : slcM xs (a : Int) (b : Int) = some ((xs.drop a).take (b - a)) := by
  unfold slcM
  rw [if_pos ⟨by omega, by omega, by omega⟩]
  simp
theorem slc_to {α : Type} {xs : List α} {a : Nat} (h : a ≤ xs.length) : slcM xs (a : Int) (xs.length : Int) = some (xs.drop a) := by
  rw [slc_lt h (Nat.le_refl _)]
  rw [List.take_of_length_le (by rw [List.length_drop]; omega)]
theorem idxS_at {s : List UInt8} {i : Nat} {b : UInt8} (h : s[i]? = some b) : idxS s (i : Int) = some (b.toNat : Int) := by
  unfold idxS
  rw [idxL_nat, h]; rfl

theorem byte_ne {c k : UInt8} (h : c ≠ k) : ((c.toNat : Int) == (k.toNat : Int)) = false := by
  rw [beq_eq_false_iff_ne]
  intro q
  exact h (UInt8.toNat_inj.1 (by omega))
theorem idxS0 (c : UInt8) (r : List UInt8) : idxS (c :: r) (0 : Int) = some (c.toNat : Int) := rfl
theorem idxS1 (c d : UInt8) (r : List UInt8) : idxS (c :: d :: r) (1 : Int) = some (d.toNat : Int) := rfl
theorem idxS2 (c d e : UInt8) (r : List UInt8) : idxS (c :: d :: e :: r) (2 : Int) = some (e.toNat : Int) := rfl
theorem loop_unroll {S O : Type} (body : S → Option (S ⊕ O)) (s : S) : loopM body s = (body s).bind (Sum.elim (loopM body) some) := by
  have key : ∀ o, loopM body s = some o → (body s).bind (Sum.elim (loopM body) some) = some o := by
    intro o h
    obtain ⟨n, hn⟩ := loopS h
    obtain ⟨k, rfl, q, hq, h2⟩ := iterS hn
    rw [hq, Option.bind_some]
    cases q with
    | inl s' => exact loop_of k h2
    | inr o' => exact congrArg some h2
  cases h : loopM body s with
  | some o => exact (key o h).symm
  | none =>
    cases h2 : (body s).bind (Sum.elim (loopM body) some) with
    | none => rfl
    | some o =>
      exfalso
      obtain ⟨q, hq, h3⟩ := bindS h2
      cases q with
      | inl s' => rw [loop_step hq h3] at h; cases h
      | inr o' => rw [loop_end hq] at h; cases h
end Go.Proofs.Ytipoblinefamgaa.G
