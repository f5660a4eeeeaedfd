/- Terms that are made of others: when two are the same. -/
import Derived.Test.YtfapphlhkfddoaaGreatDoorTermMake
namespace Go.Proofs.YtfapphlhkfddoaaGreatDoor.G
open Go.RowKit Go.Eng Go.Proofs Go.Proofs.YtfapphlhkfddoaaGreatDoor.Cut
set_option linter.unusedVariables false
set_option linter.unusedSimpArgs false
def valE (l : List UInt8) : Nat := l.foldl (fun v b => 256 * v + b.toNat) 0
theorem bytesOf8 (n : Int) : bytesOf n 8 = [byteAt n 56, byteAt n 48, byteAt n 40, byteAt n 32, byteAt n 24, byteAt n 16, byteAt n 8, byteAt n 0] := rfl
theorem byte_nat (n : Nat) (k : Nat) (hk : k ≤ 64) : ((byteAt (n : Int) (k : Int)).toNat : Nat) = n / 2 ^ k % 256 := by
  unfold byteAt b8
  rw [show min ((k : Int)).toNat IntKind.u64.bits = k by simp [IntKind.bits]; omega]
  have : ((n : Int).fdiv (2 ^ k) % 256).toNat = n / 2 ^ k % 256 := by
    have h : (n : Int).fdiv (2 ^ k) = ((n / 2 ^ k : Nat) : Int) := by
      rw [Int.fdiv_eq_ediv_of_nonneg _ (by exact_mod_cast Nat.zero_le _)]
      norm_cast
    rw [h]; omega
  rw [this]
  simp
theorem bytes_nat (n : Nat) : (byteAt (n : Int) 56).toNat = n / 72057594037927936 % 256 ∧ (byteAt (n : Int) 48).toNat = n / 281474976710656 % 256 ∧ (byteAt (n : Int) 40).toNat = n / 1099511627776 % 256 ∧ (byteAt (n : Int) 32).toNat = n / 4294967296 % 256 ∧ (byteAt (n : Int) 24).toNat = n / 16777216 % 256 ∧ (byteAt (n : Int) 16).toNat = n / 65536 % 256 ∧ (byteAt (n : Int) 8).toNat = n / 256 % 256 ∧ (byteAt (n : Int) 0).toNat = n / 1 % 256 :=
  ⟨byte_nat n 56 (by omega), byte_nat n 48 (by omega), byte_nat n 40 (by omega), byte_nat n 32 (by omega), byte_nat n 24 (by omega), byte_nat n 16 (by omega), byte_nat n 8 (by omega), byte_nat n 0 (by omega)⟩
theorem valE_bytes (n : Nat) (h : n < 18446744073709551616) : valE (bytesOf (n : Int) 8) = n := by
  rw [bytesOf8]
  obtain ⟨e56, e48, e40, e32, e24, e16, e8, e0⟩ := bytes_nat n
  simp only [valE, List.foldl_cons, List.foldl_nil, e56, e48, e40, e32, e24, e16, e8, e0]
  omega
theorem name_inj {a b : Int} {c : UInt8} (ha : 0 ≤ a ∧ a < 18446744073709551616) (hb : 0 ≤ b ∧ b < 18446744073709551616) (h : countedT c a = countedT c b) : a = b := by
  have h1 : bytesOf a 8 = bytesOf b 8 := (List.cons.inj h).2
  obtain ⟨n, rfl⟩ : ∃ n : Nat, a = (n : Int) := ⟨a.toNat, by omega⟩
  obtain ⟨m, rfl⟩ : ∃ m : Nat, b = (m : Int) := ⟨b.toNat, by omega⟩
  have h2 := congrArg valE h1
  rw [valE_bytes n (by omega), valE_bytes m (by omega)] at h2
  rw [h2]
theorem full_cancel {x y r r' : List UInt8} {left : Nat} (hx : full x left) (hy : full y left) (h : x ++ r = y ++ r') : x = y ∧ r = r' := by
  have h1 := full_at (p := []) (r := r) hx
  have h2 := full_at (p := []) (r := r') hy
  simp only [List.nil_append] at h1 h2
  rw [h, h2] at h1
  exact List.append_inj h (by omega)
theorem flatten_inj {left : Nat} : ∀ {l m : List (List UInt8)}, (∀ x ∈ l, full x left) → (∀ x ∈ m, full x left) → l.flatten = m.flatten → l = m
  | [], [], _, _, _ => rfl
  | [], y :: m, _, hm, h => by
    have := full_pos (hm y List.mem_cons_self)
    have := congrArg List.length h
    simp only [List.flatten_nil, List.flatten_cons, List.length_append, List.length_nil] at this
    omega
  | x :: l, [], hl, _, h => by
    have := full_pos (hl x List.mem_cons_self)
    have := congrArg List.length h
    simp only [List.flatten_nil, List.flatten_cons, List.length_append, List.length_nil] at this
    omega
  | x :: l, y :: m, hl, hm, h => by
    obtain ⟨h1, h2⟩ := full_cancel (hl x List.mem_cons_self) (hm y List.mem_cons_self) (show x ++ l.flatten = y ++ m.flatten from h)
    rw [h1, flatten_inj (fun z hz => hl z (List.mem_cons_of_mem _ hz)) (fun z hz => hm z (List.mem_cons_of_mem _ hz)) h2]
theorem sortB_le (l : List (List UInt8)) : (sortB l).Pairwise (· ≤ ·) := by
  have h := List.pairwise_mergeSort (le := fun x y : List UInt8 => decide (x ≤ y)) (by intro a b c h1 h2; simp only [decide_eq_true_eq] at *; exact List.le_trans h1 h2) (by intro a b; simp only [Bool.or_eq_true, decide_eq_true_eq]; exact List.le_total a b) l
  exact h.imp (by intro a b h; simpa using h)
theorem sortB_congr {l m : List (List UInt8)} (h : l.Perm m) : sortB l = sortB m :=
  List.Perm.eq_of_pairwise (le := fun a b : List UInt8 => a ≤ b) (fun a b _ _ h1 h2 => List.le_antisymm h1 h2) (sortB_le l) (sortB_le m) ((sortB_perm l).trans (h.trans (sortB_perm m).symm))
theorem powT_congr {l m : List (List UInt8)} (h : l.Perm m) : powT l = powT m := by
  unfold powT
  rw [sortB_congr h, h.length_eq]
theorem powT_perm {l m : List (List UInt8)} {left : Nat} (hl : ∀ x ∈ l, full x left) (hm : ∀ x ∈ m, full x left) (h : powT l = powT m) : l.Perm m := by
  have h1 : (sortB l).flatten = (sortB m).flatten := (List.cons.inj (List.cons.inj h).2).2
  have h2 := flatten_inj (fun x hx => hl x ((sortB_perm l).mem_iff.1 hx)) (fun x hx => hm x ((sortB_perm m).mem_iff.1 hx)) h1
  exact (sortB_perm l).symm.trans (h2 ▸ sortB_perm m)
/-- Of two pairs that are the same and share one the others are the same. -/
theorem pair_cancel {a b c : List UInt8} (h : [a, b].Perm [a, c]) : b = c := List.singleton_perm_singleton.1 ((List.perm_cons a).1 h)
end Go.Proofs.YtfapphlhkfddoaaGreatDoor.G
