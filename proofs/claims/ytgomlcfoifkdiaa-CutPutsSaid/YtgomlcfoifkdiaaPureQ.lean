/- Taking a term, and whether bytes are one. -/
import Derived.Test.YtgomlcfoifkdiaaPureP
namespace Go.Proofs.Ytgomlcfoifkdiaa.G
open Go.RowKit Go.Eng Go.Proofs Go.Proofs.Ytgomlcfoifkdiaa.Cut
set_option linter.unusedVariables false
set_option linter.unusedSimpArgs false

/-! Taking a term, and whether bytes are one: one law for both. -/
def takeE (s : List UInt8) : List UInt8 × List UInt8 × Int :=
  if (specE s 400 0).1 < 0 then ([], [], errC (specE s 400 0).1) else if 20000 < (specE s 400 0).1 then ([], [], 3) else (s.take (specE s 400 0).1.toNat, s.drop (specE s 400 0).1.toNat, 0)
theorem slc_e {s : List UInt8} {e : Int} (h0 : 0 ≤ e) (h1 : e ≤ (s.length : Int)) : slcM s (0 : Int) e = some (s.take e.toNat) ∧ slcM s e (s.length : Int) = some (s.drop e.toNat) := by
  obtain ⟨n, rfl⟩ : ∃ n : Nat, e = (n : Int) := ⟨e.toNat, by omega⟩
  refine ⟨?_, ?_⟩
  · rw [show (0 : Int) = ((0 : Nat) : Int) from rfl, slc_lt (Nat.zero_le _) (by omega)]
    simp
  · rw [slc_to (by omega)]; simp
theorem take_spec {s : List UInt8} (hb : s.length ≤ 140737488355328) : term_Take.f s = some (takeE s) := by
  unfold term_Take.f takeE
  rw [scan_spec hb, Option.bind_some]
  by_cases hn : (specE s 400 0).1 < 0
  · rw [if_pos hn, if_pos hn]
    have : (errC (specE s 400 0).1 != 0) = true := by unfold errC; split <;> rfl
    simp only
    rw [this, cond_true]
  · rw [if_neg hn, if_neg hn]
    simp only [bne_self_eq_false, cond_false]
    have hle := specE_le s 400 0 (by omega)
    by_cases h2 : 20000 < (specE s 400 0).1
    · rw [if_pos h2, cond_t (by omega)]
    · rw [if_neg h2, cond_f (by omega), (slc_e (by omega) hle.2).1, Option.bind_some, (slc_e (by omega) hle.2).2, Option.bind_some]
theorem rtake_spec {s : List UInt8} (hb : s.length ≤ 140737488355328) : gemotref1_Take.f s = some (takeE s) := by
  unfold gemotref1_Take.f takeE
  rw [show (0 : Int) = ((0 : Nat) : Int) from rfl, end_spec hb (Nat.zero_le _), Option.bind_some]
  by_cases hn : (specE s 400 0).1 < 0
  · rw [if_pos (show (specE s 400 0).1 < ((0 : Nat) : Int) from hn)]
    rcases specE_neg s 400 0 hn with h | h <;> rw [h] <;> rfl
  · rw [if_neg (show ¬ (specE s 400 0).1 < ((0 : Nat) : Int) from hn)]
    have hle := specE_le s 400 0 (by omega)
    rw [show ((specE s 400 0).1 == (-1 : Int)) = false from beq_eq_false_iff_ne.2 (by omega), cond_false, show ((specE s 400 0).1 == (-2 : Int)) = false from beq_eq_false_iff_ne.2 (by omega), cond_false]
    by_cases h2 : 20000 < (specE s 400 0).1
    · rw [if_pos h2, cond_t (by omega)]
    · rw [if_neg h2, cond_f (by omega), show (((0 : Nat) : Int)) = (0 : Int) from rfl, (slc_e (by omega) hle.2).1, Option.bind_some, (slc_e (by omega) hle.2).2, Option.bind_some]
def rightB (s : List UInt8) : Bool := decide ((specE s 400 0).1 = (s.length : Int) ∧ s.length ≤ 20000)
theorem takeE_right (s : List UInt8) : takeE s = (s, [], 0) ↔ rightB s = true := by
  unfold takeE rightB
  rw [decide_eq_true_eq]
  by_cases hn : (specE s 400 0).1 < 0
  · rw [if_pos hn]
    constructor
    · intro h
      have h3 : errC (specE s 400 0).1 = 0 := by injection h with _ h; injection h
      unfold errC at h3; split at h3 <;> omega
    · rintro ⟨h, _⟩; omega
  · rw [if_neg hn]
    have hle := specE_le s 400 0 (by omega)
    by_cases h2 : 20000 < (specE s 400 0).1
    · rw [if_pos h2]
      constructor
      · intro h
        have h3 : (3 : Int) = 0 := by injection h with _ h; injection h
        omega
      · rintro ⟨h, h'⟩; omega
    · rw [if_neg h2]
      constructor
      · intro h
        injection h with h1 h3
        injection h3 with h3 h4
        have := congrArg List.length h3
        simp at this
        omega
      · rintro ⟨h, h'⟩
        have : (specE s 400 0).1.toNat = s.length := by omega
        rw [this]; simp
theorem right_spec {s : List UInt8} (hb : s.length ≤ 140737488355328) : term_Right.f s = some (rightB s) := by
  unfold term_Right.f
  rw [take_spec hb, Option.bind_some]
  congr 1
  rw [strEq_eq, strEq_eq, Bool.eq_iff_iff, ← takeE_right]
  obtain ⟨a, b, c⟩ := takeE s
  constructor
  · intro h
    by_cases h1 : c = 0
    · subst h1
      by_cases h2 : b = []
      · subst h2
        by_cases h3 : a = s
        · rw [h3]
        · simp [h3] at h
      · simp [h2] at h
    · simp [h1] at h
  · intro h
    cases h
    simp
theorem rright_spec {s : List UInt8} (hb : s.length ≤ 140737488355328) : gemotref1_Right.f s = some (rightB s) := by
  unfold gemotref1_Right.f
  rw [rtake_spec hb, Option.bind_some]
  congr 1
  rw [strEq_eq, strEq_eq, Bool.eq_iff_iff, ← takeE_right]
  have key : ∀ {a b : List UInt8}, takeE s = (a, b, 0) → a ++ b = s ∧ a ≠ [] := by
    intro a b h
    unfold takeE at h
    split at h
    · rename_i hn
      have h3 : errC (specE s 400 0).1 = 0 := by injection h with _ h; injection h
      unfold errC at h3; split at h3 <;> omega
    · rename_i hn
      split at h
      · have h3 : (3 : Int) = 0 := by injection h with _ h; injection h
        omega
      · injection h with h1 h3
        injection h3 with h3 h4
        have hle := specE_le s 400 0 (by omega)
        refine ⟨by rw [← h1, ← h3, List.take_append_drop], fun h0 => ?_⟩
        rw [← h1] at h0
        have := congrArg List.length h0
        rw [List.length_take, List.length_nil] at this
        omega
  constructor
  · intro h
    cases ht : takeE s with
    | mk a bc =>
    obtain ⟨b, c⟩ := bc
    rw [ht] at h
    by_cases h1 : c = 0
    · subst h1
      obtain ⟨k1, k2⟩ := key ht
      by_cases h2 : b = []
      · subst h2
        rw [← k1, List.append_nil]
      · simp [h2] at h
    · simp [h1] at h
  · intro h
    have := (key h).2
    rw [h]
    simp [this]
theorem rightB_len {s : List UInt8} (h : rightB s = true) : 0 < s.length ∧ s.length ≤ 20000 := by
  unfold rightB at h
  rw [decide_eq_true_eq] at h
  have := specE_le s 400 0 (by omega)
  omega
def kindB (s : List UInt8) : Int := if rightB s = true then (match s with | c :: _ => (c.toNat : Int) | [] => 0) else 0
theorem kind_spec {s : List UInt8} (hb : s.length ≤ 140737488355328) : parts_Kind.f s = some (kindB s) ∧ gemotref2_Kind.f s = some (kindB s) := by
  unfold parts_Kind.f gemotref2_Kind.f kindB
  rw [right_spec hb, rright_spec hb, Option.bind_some]
  cases h : rightB s with
  | false => exact ⟨rfl, rfl⟩
  | true =>
    have := rightB_len h
    cases s with
    | nil => simp at this
    | cons c r => exact ⟨rfl, rfl⟩
end Go.Proofs.Ytgomlcfoifkdiaa.G
