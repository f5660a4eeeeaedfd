/- What the printed helpers of chapter 11 answer. -/
import Derived.Test.YtgomlcfoifkdiaaGB
namespace Go.Proofs.Ytgomlcfoifkdiaa.G
open Go.RowKit Go.Eng Go.Proofs
set_option linter.unusedVariables false

theorem idxL_lt {α : Type} {xs : List α} {i : Nat} (h : i < xs.length) : idxL xs (i : Int) = some xs[i] := by rw [idxL_nat, List.getElem?_eq_getElem h]
theorem wrap1 (i : Nat) (h : i ≤ 4611686018427387904) : IntKind.i64.wrap ((i : Int) + (1 : Int)) = ((i + 1 : Nat) : Int) := by rw [Eng.i64_id (by omega) (by omega)]; omega
theorem room_of {α : Type} {b n : Nat} {x : Option α} (h : n * b ≤ 140737488355328) : roomM b n x = x := by unfold roomM; rw [if_pos h]
theorem cond_t {α : Type} {p : Prop} [Decidable p] {a b : α} (h : p) : cond (decide p) a b = a := by rw [decide_eq_true h]; rfl
theorem cond_f {α : Type} {p : Prop} [Decidable p] {a b : α} (h : ¬ p) : cond (decide p) a b = b := by rw [decide_eq_false h]; rfl
theorem take_snoc {α : Type} {xs : List α} {i : Nat} (h : i < xs.length) : xs.take i ++ [xs[i]] = xs.take (i + 1) := by rw [List.take_add_one, List.getElem?_eq_getElem h]; rfl
theorem take_map {α β : Type} (f : α → β) {xs : List α} {i : Nat} (h : i < xs.length) : (xs.take i).map f ++ [f xs[i]] = (xs.take (i + 1)).map f := by rw [← take_snoc h, List.map_append]; rfl
theorem getElem_take_eq {α : Type} {xs : List α} {i : Nat} (h : i < xs.length) : xs[i]? = some xs[i] := List.getElem?_eq_getElem h
theorem int_ne {a b : Nat} : ((a : Int) != (b : Int)) = decide (a ≠ b) := by
  rw [Bool.eq_iff_iff]; simp; omega

/-- Where two rows of one length first part. -/
theorem first_diff {α : Type} [DecidableEq α] : ∀ {a b : List α}, a.length = b.length → a ≠ b → ∃ j, ∃ (h1 : j < a.length) (h2 : j < b.length), a[j] ≠ b[j] ∧ ∀ i (h1 : i < a.length) (h2 : i < b.length), i < j → a[i] = b[i]
  | [], [], _, h => absurd rfl h
  | [], _ :: _, h, _ => by cases h
  | _ :: _, [], h, _ => by cases h
  | x :: a, y :: b, hl, h => by
    by_cases hxy : x = y
    · subst hxy
      obtain ⟨j, h1, h2, hd, hs⟩ := first_diff (a := a) (b := b) (by simpa using hl) (fun e => h (by rw [e]))
      refine ⟨j + 1, by simp; omega, by simp; omega, by simpa using hd, fun i h3 h4 hij => ?_⟩
      cases i with
      | zero => rfl
      | succ i => simpa using hs i (by simpa using h3) (by simpa using h4) (by omega)
    · exact ⟨0, by simp, by simp, by simpa using hxy, fun i _ _ hi => by omega⟩

theorem texts_eq (xs : List (List UInt8)) (h : xs.length ≤ 8796093022208) : gemotlaw11_texts.f xs = some xs := by
  unfold gemotlaw11_texts.f
  have hl : loopM (fun s : (List (List UInt8)) × Int => gemotlaw11_texts.b1 xs s.1 s.2) (([] : List (List UInt8)), (0 : Int)) = some xs := by
    refine loop_count (fun i => (xs.take i, (i : Int))) xs.length (fun i hi => ?_) ?_
    · show gemotlaw11_texts.b1 xs (xs.take i) (i : Int) = _
      unfold gemotlaw11_texts.b1
      rw [cond_t (by omega), idxL_lt hi, Option.bind_some, room_of (by simp; omega), wrap1 i (by omega), take_snoc hi]
    · show gemotlaw11_texts.b1 xs (xs.take xs.length) (xs.length : Int) = _
      unfold gemotlaw11_texts.b1
      rw [cond_f (by omega), List.take_length]
  rw [hl]; rfl

theorem same_eq (a b : List (List UInt8)) (h : a.length ≤ 140737488355328) : gemotlaw11_same.f a b = some (decide (a = b)) := by
  unfold gemotlaw11_same.f
  rw [int_ne]
  by_cases hl : a.length = b.length
  · rw [cond_f (by simpa using hl)]
    have step : ∀ i (h1 : i < a.length) (h2 : i < b.length), gemotlaw11_same.b1 a b (i : Int) = if a[i] = b[i] then some (.inl ((i + 1 : Nat) : Int)) else some (.inr (Sum.inr false)) := by
      intro i h1 h2
      unfold gemotlaw11_same.b1
      rw [cond_t (by omega), idxL_lt h1, idxL_lt h2, Option.bind_some, Option.bind_some, strEq_eq, wrap1 i (by omega)]
      split
      · rename_i e; rw [e]; simp
      · rename_i e; simp [e]
    by_cases he : a = b
    · subst he
      rw [decide_eq_true rfl]
      have : loopM (fun s : Int => gemotlaw11_same.b1 a a s) (0 : Int) = some (Sum.inl ()) := by
        refine loop_count (fun i => (i : Int)) a.length (fun i hi => ?_) ?_
        · show gemotlaw11_same.b1 a a (i : Int) = _
          rw [step i hi hi, if_pos rfl]
        · show gemotlaw11_same.b1 a a (a.length : Int) = _
          unfold gemotlaw11_same.b1
          rw [cond_f (by omega)]
      rw [this]; rfl
    · rw [decide_eq_false he]
      obtain ⟨j, h1, h2, hd, hs⟩ := first_diff hl he
      have : loopM (fun s : Int => gemotlaw11_same.b1 a b s) (0 : Int) = some (Sum.inr false) := by
        refine loop_count (fun i => (i : Int)) j (fun i hi => ?_) ?_
        · show gemotlaw11_same.b1 a b (i : Int) = _
          rw [step i (by omega) (by omega), if_pos (hs i (by omega) (by omega) hi)]
        · show gemotlaw11_same.b1 a b (j : Int) = _
          rw [step j h1 h2, if_neg hd]
      rw [this]; rfl
  · rw [cond_t (by simpa using hl), decide_eq_false (fun e => hl (by rw [e]))]
def pickI2 (c n : Int) : Int := (if c < 0 then -(c + 1) else c).tmod n
theorem pick_eq (c n : Int) (h : n ≠ 0) (h0 : -9223372036854775808 ≤ c) (h1 : c ≤ 9223372036854775807) : gemotlaw11_pick.f c n = some (pickI2 c n) := by
  unfold gemotlaw11_pick.f pickI2
  by_cases hc : c < 0
  · rw [cond_t hc, if_pos hc, Eng.i64_id (x := c + 1) (by omega) (by omega), Eng.i64_id (by omega) (by omega)]
    unfold gemotlaw11_pick.k1 remM
    rw [if_neg h]
    have : (0 - (c + 1)) = -(c + 1) := by omega
    rw [this]; rfl
  · rw [cond_f hc, if_neg hc]
    unfold gemotlaw11_pick.k1 remM
    rw [if_neg h]; rfl
end Go.Proofs.Ytgomlcfoifkdiaa.G
