/- How a term is read: by recursion, on the depth that is left. -/
import Derived.Test.YtgomlcfoifkdiaaPureL
namespace Go.Proofs.Ytgomlcfoifkdiaa.G
open Go.RowKit Go.Eng Go.Proofs Go.Proofs.Ytgomlcfoifkdiaa.Cut
set_option linter.unusedVariables false
set_option linter.unusedSimpArgs false

/-- Parts, one behind the other: where the last one ends, and the depth; below 0: what is wrong. -/
def manyF (self : Nat → Int × Int) (s : List UInt8) (p : Bool) : Nat → Nat → List UInt8 → Nat → Int × Int
  | 0, k, last, depth => ((k : Int), ((depth + 1 : Nat) : Int))
  | n + 1, k, last, depth =>
    if (self k).1 < 0 then ((self k).1, 0) else
    if (p && strLt ((s.drop k).take ((self k).1.toNat - k)) last) = true then (-1, 0) else
    manyF self s p n (self k).1.toNat ((s.drop k).take ((self k).1.toNat - k)) (max depth (self k).2.toNat)
def specE (s : List UInt8) : Nat → Nat → Int × Int
  | 0, _ => (-2, 0)
  | left + 1, a => match s.drop a with
    | [] => (-1, 0)
    | c :: r => if leafN c r ≠ 0 then (((a + leafN c r : Nat) : Int), 1) else match openT c r with
      | none => (-1, 0)
      | some (n, p, o) => manyF (specE s left) s p n (a + o) [] 0
theorem leafN_le (c : UInt8) (r : List UInt8) : leafN c r ≤ r.length + 1 := by
  unfold leafN
  split
  · omega
  split
  · split <;> omega
  split
  · unfold leafI; split
    · split <;> simp
    · omega
  split
  · unfold leafT; split
    · split
      · rename_i h; have := h.2.2; simp at this ⊢; omega
      · omega
    · omega
  · omega
/-- What is read of parts ends behind where it begins, and within the text. -/
theorem manyF_le {self : Nat → Int × Int} {s : List UInt8} {p : Bool} (hs : ∀ k, 0 ≤ (self k).1 → (k : Int) < (self k).1 ∧ (self k).1 ≤ (s.length : Int)) : ∀ (n k : Nat) (last : List UInt8) (d : Nat), k ≤ s.length → 0 ≤ (manyF self s p n k last d).1 → (k : Int) ≤ (manyF self s p n k last d).1 ∧ (manyF self s p n k last d).1 ≤ (s.length : Int) ∧ (0 < n → (k : Int) < (manyF self s p n k last d).1)
  | 0, k, last, d, hk, _ => by
    simp only [manyF]
    exact ⟨Int.le_refl _, by omega, fun h => by omega⟩
  | n + 1, k, last, d, hk, h => by
    unfold manyF at h ⊢
    split at h
    · rename_i hn; simp only at h; omega
    · rename_i hn
      rw [if_neg hn]
      split at h
      · simp only at h; omega
      · rename_i hp
        rw [if_neg hp]
        have h1 := hs k (by omega)
        have h2 := manyF_le hs n (self k).1.toNat _ _ (by omega) h
        exact ⟨by omega, h2.2.1, fun _ => by omega⟩
theorem specE_le (s : List UInt8) : ∀ (left a : Nat), 0 ≤ (specE s left a).1 → (a : Int) < (specE s left a).1 ∧ (specE s left a).1 ≤ (s.length : Int)
  | 0, a, h => by simp [specE] at h
  | left + 1, a, h => by
    unfold specE at h ⊢
    cases hd : s.drop a with
    | nil => rw [hd] at h; simp at h
    | cons c r =>
      rw [hd] at h
      obtain ⟨_, hl⟩ := drop_at hd
      simp only at h ⊢
      by_cases h0 : leafN c r ≠ 0
      · rw [if_pos h0] at h ⊢
        have := leafN_le c r
        simp only
        omega
      · rw [if_neg h0] at h ⊢
        cases ho : openT c r with
        | none => rw [ho] at h; simp at h
        | some q =>
          obtain ⟨n, p, o⟩ := q
          rw [ho] at h
          simp only at h ⊢
          have hno : 0 < n ∧ 0 < o ∧ (a + o ≤ s.length) := by
            unfold openT at ho
            split at ho
            · split at ho
              · split at ho
                · cases ho; simp at hl; omega
                · cases ho
              · cases ho
            split at ho
            · cases ho; omega
            split at ho
            · cases ho; omega
            split at ho
            · cases ho; omega
            split at ho
            · split at ho
              · split at ho
                · rename_i hq; cases ho; simp at hl; omega
                · cases ho
              · cases ho
            · cases ho
          have := manyF_le (p := p) (specE_le s left) n (a + o) [] 0 hno.2.2 h
          omega
end Go.Proofs.Ytgomlcfoifkdiaa.G
