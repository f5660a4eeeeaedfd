/- The reference's End reads as the spec says. -/
import Derived.Test.YtgomlcfoifkdiaaPureM
namespace Go.Proofs.Ytgomlcfoifkdiaa.G
open Go.RowKit Go.Eng Go.Proofs Go.Proofs.Ytgomlcfoifkdiaa.Cut
set_option linter.unusedVariables false
set_option linter.unusedSimpArgs false

theorem manyF_neg {self : Nat → Int × Int} {s : List UInt8} {p : Bool} : ∀ (n k : Nat) (last : List UInt8) (d : Nat), (manyF self s p n k last d).1 < 0 → (manyF self s p n k last d).2 = 0
  | 0, k, last, d, h => by simp [manyF] at h; omega
  | n + 1, k, last, d, h => by
    unfold manyF at h ⊢
    split
    · rfl
    · rename_i hn
      rw [if_neg hn] at h
      split
      · rfl
      · rename_i hp
        rw [if_neg hp] at h
        exact manyF_neg n _ _ _ h
theorem end_many {s : List UInt8} {selfM : List UInt8 → Int → Int → Option (Int × Int)} {self : Nat → Int × Int} {left a n : Nat} {c : UInt8} (hc : s[a]? = some c) (hb : s.length ≤ 140737488355328) (hleft : left ≤ 1000) (hn32 : n ≤ 1000)
    (hself : ∀ k : Nat, k ≤ s.length → selfM s (k : Int) (left : Int) = some (self k)) (hr : ∀ k, 0 ≤ (self k).1 → (k : Int) < (self k).1 ∧ (self k).1 ≤ (s.length : Int)) (hd : ∀ k, 0 ≤ (self k).2) (v60 : Int) :
    ∀ (m i k : Nat) (last : List UInt8) (d : Nat), i + m = n → k ≤ s.length →
    loopM (fun q : Int × Int × (List UInt8) × Int => gemotref1_End.b2 selfM s (a : Int) ((left + 1 : Nat) : Int) (n : Int) q.1 q.2.1 q.2.2.1 q.2.2.2) ((k : Int), (d : Int), last, (i : Int)) = some (if (manyF self s (c == 101) m k last d).1 < 0 then .inr (manyF self s (c == 101) m k last d) else .inl ((manyF self s (c == 101) m k last d).1, (manyF self s (c == 101) m k last d).2 - 1))
  | 0, i, k, last, d, him, hk => by
    refine loop_count (fun _ => ((k : Int), (d : Int), last, (i : Int))) 0 (fun j hj => by omega) ?_
    show gemotref1_End.b2 selfM s (a : Int) ((left + 1 : Nat) : Int) (n : Int) (k : Int) (d : Int) last (i : Int) = _
    unfold gemotref1_End.b2
    rw [cond_f (by omega)]
    have e : manyF self s (c == 101) 0 k last d = ((k : Int), ((d + 1 : Nat) : Int)) := rfl
    have e2 : ((d : Int)) = ((d + 1 : Nat) : Int) - 1 := by omega
    rw [e, if_neg (show ¬ ((k : Int), ((d + 1 : Nat) : Int)).1 < 0 by simp only; omega)]
    simp only
    rw [← e2]
  | m + 1, i, k, last, d, him, hk => by
    have ew : IntKind.i64.wrap (((left + 1 : Nat) : Int) - (1 : Int)) = (left : Int) := by rw [Eng.i64_id (by omega) (by omega)]; omega
    have hbody : gemotref1_End.b2 selfM s (a : Int) ((left + 1 : Nat) : Int) (n : Int) (k : Int) (d : Int) last (i : Int) =
        if (self k).1 < 0 then some (.inr (Sum.inr ((self k).1, 0))) else if ((c == 101) && strLt ((s.drop k).take ((self k).1.toNat - k)) last) = true then some (.inr (Sum.inr (-1, 0))) else
        some (.inl ((self k).1, ((max d (self k).2.toNat : Nat) : Int), (s.drop k).take ((self k).1.toNat - k), ((i + 1 : Nat) : Int))) := by
      unfold gemotref1_End.b2
      rw [cond_t (by omega), ew, hself k hk, Option.bind_some]
      by_cases hneg : (self k).1 < 0
      · rw [cond_t hneg, if_pos hneg]
      · rw [cond_f hneg, if_neg hneg, idxS_at hc, Option.bind_some]
        have h1 := hr k (by omega)
        have h2 := hd k
        have hsl : slcM s (k : Int) (self k).1 = some ((s.drop k).take ((self k).1.toNat - k)) := by
          have := slc_lt (xs := s) (a := k) (b := (self k).1.toNat) (by omega) (by omega)
          rw [show (((self k).1.toNat : Nat) : Int) = (self k).1 by omega] at this
          exact this
        have hmax : maxI (d : Int) (self k).2 = ((max d (self k).2.toNat : Nat) : Int) := by unfold maxI; split <;> omega
        unfold gemotref1_End.k1
        by_cases hp : c = 101
        · subst hp
          rw [show (((101 : UInt8).toNat : Int) == (101 : Int)) = true from rfl, cond_true, hsl, Option.bind_some, cond_true, wrap1 i (by omega), hmax, Option.bind_some]
          cases strLt ((s.drop k).take ((self k).1.toNat - k)) last <;> rfl
        · rw [show ((c.toNat : Int) == (101 : Int)) = false from byte_ne hp, cond_false, cond_false, cond_false, hsl, Option.bind_some, wrap1 i (by omega), hmax, show (c == 101) = false from beq_eq_false_iff_ne.2 hp]
          rfl
    unfold manyF
    by_cases hneg : (self k).1 < 0
    · rw [if_pos hneg] at hbody ⊢
      rw [if_pos hneg]
      exact loop_count (fun _ => ((k : Int), (d : Int), last, (i : Int))) 0 (fun j hj => by omega) hbody
    · rw [if_neg hneg] at hbody ⊢
      by_cases hp : ((c == 101) && strLt ((s.drop k).take ((self k).1.toNat - k)) last) = true
      · rw [if_pos hp] at hbody ⊢
        rw [if_pos (by decide)]
        exact loop_count (fun _ => ((k : Int), (d : Int), last, (i : Int))) 0 (fun j hj => by omega) hbody
      · rw [if_neg hp] at hbody ⊢
        have h1 := hr k (by omega)
        have ih := end_many hc hb hleft hn32 hself hr hd v60 m (i + 1) (self k).1.toNat ((s.drop k).take ((self k).1.toNat - k)) (max d (self k).2.toNat) (by omega) (by omega)
        rw [show (((self k).1.toNat : Nat) : Int) = (self k).1 by omega] at ih
        exact loop_step hbody ih
end Go.Proofs.Ytgomlcfoifkdiaa.G
