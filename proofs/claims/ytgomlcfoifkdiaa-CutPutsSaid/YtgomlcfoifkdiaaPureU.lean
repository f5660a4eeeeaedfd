/- Numbers: their bytes, and what bytes are worth. -/
import Derived.Test.YtgomlcfoifkdiaaPureQ
namespace Go.Proofs.Ytgomlcfoifkdiaa.G
open Go.RowKit Go.Eng Go.Proofs Go.Proofs.Ytgomlcfoifkdiaa.Cut
set_option linter.unusedVariables false
set_option linter.unusedSimpArgs false

/-! Numbers: their bytes, and what bytes are worth. -/
def valE (l : List UInt8) : Nat := l.foldl (fun v b => 256 * v + b.toNat) 0
theorem bytesOf8 (n : Int) : bytesOf n 8 = [byteAt n 56, byteAt n 48, byteAt n 40, byteAt n 32, byteAt n 24, byteAt n 16, byteAt n 8, byteAt n 0] := rfl
theorem byte_nat (n : Nat) (k : Nat) (hk : k ≤ 64) : ((byteAt (n : Int) (k : Int)).toNat : Nat) = n / 2 ^ k % 256 := by
  unfold byteAt b8
  rw [show min ((k : Int)).toNat IntKind.u64.bits = k by simp [IntKind.bits]; omega]
  have : ((n : Int).fdiv (2 ^ k) % 256).toNat = n / 2 ^ k % 256 := by
    have h : (n : Int).fdiv (2 ^ k) = ((n / 2 ^ k : Nat) : Int) := by
      rw [Int.fdiv_eq_ediv_of_nonneg _ (by exact_mod_cast Nat.zero_le _)]
      norm_cast
    rw [h]; omega
  rw [this]
  simp
theorem bytes_nat (n : Nat) : (byteAt (n : Int) 56).toNat = n / 72057594037927936 % 256 ∧ (byteAt (n : Int) 48).toNat = n / 281474976710656 % 256 ∧ (byteAt (n : Int) 40).toNat = n / 1099511627776 % 256 ∧ (byteAt (n : Int) 32).toNat = n / 4294967296 % 256 ∧ (byteAt (n : Int) 24).toNat = n / 16777216 % 256 ∧ (byteAt (n : Int) 16).toNat = n / 65536 % 256 ∧ (byteAt (n : Int) 8).toNat = n / 256 % 256 ∧ (byteAt (n : Int) 0).toNat = n / 1 % 256 :=
  ⟨byte_nat n 56 (by omega), byte_nat n 48 (by omega), byte_nat n 40 (by omega), byte_nat n 32 (by omega), byte_nat n 24 (by omega), byte_nat n 16 (by omega), byte_nat n 8 (by omega), byte_nat n 0 (by omega)⟩
theorem valE_bytes (n : Nat) (h : n < 18446744073709551616) : valE (bytesOf (n : Int) 8) = n := by
  rw [bytesOf8]
  obtain ⟨e56, e48, e40, e32, e24, e16, e8, e0⟩ := bytes_nat n
  simp only [valE, List.foldl_cons, List.foldl_nil, e56, e48, e40, e32, e24, e16, e8, e0]
  omega
theorem eight_bytes {l : List UInt8} (h : l.length = 8) : ∃ a b c d e f g i, l = [a, b, c, d, e, f, g, i] := by
  match l, h with
  | [a, b, c, d, e, f, g, i], _ => exact ⟨a, b, c, d, e, f, g, i, rfl⟩
theorem valE_lt {l : List UInt8} (h : l.length = 8) : valE l < 18446744073709551616 := by
  obtain ⟨a, b, c, d, e, f, g, i, rfl⟩ := eight_bytes h
  have h256 : ∀ d : UInt8, d.toNat < 256 := fun d => UInt8.toNat_lt d
  have := h256 a; have := h256 b; have := h256 c; have := h256 d; have := h256 e; have := h256 f; have := h256 g; have := h256 i
  simp only [valE, List.foldl_cons, List.foldl_nil]
  omega
theorem digits8 (a b c d e f g i : Nat) (ha : a < 256) (hb : b < 256) (hc : c < 256) (hd : d < 256) (he : e < 256) (hf : f < 256) (hg : g < 256) (hi : i < 256) (n : Nat) (hn : n = 256 * (256 * (256 * (256 * (256 * (256 * (256 * a + b) + c) + d) + e) + f) + g) + i) :
    n / 72057594037927936 % 256 = a ∧ n / 281474976710656 % 256 = b ∧ n / 1099511627776 % 256 = c ∧ n / 4294967296 % 256 = d ∧ n / 16777216 % 256 = e ∧ n / 65536 % 256 = f ∧ n / 256 % 256 = g ∧ n / 1 % 256 = i := by
  have n1 : n / 256 = 256 * (256 * (256 * (256 * (256 * (256 * a + b) + c) + d) + e) + f) + g := by omega
  have n2 : n / 65536 = 256 * (256 * (256 * (256 * (256 * a + b) + c) + d) + e) + f := by rw [show 65536 = 256 * 256 from rfl, ← Nat.div_div_eq_div_mul, n1]; omega
  have n3 : n / 16777216 = 256 * (256 * (256 * (256 * a + b) + c) + d) + e := by rw [show 16777216 = 65536 * 256 from rfl, ← Nat.div_div_eq_div_mul, n2]; omega
  have n4 : n / 4294967296 = 256 * (256 * (256 * a + b) + c) + d := by rw [show 4294967296 = 16777216 * 256 from rfl, ← Nat.div_div_eq_div_mul, n3]; omega
  have n5 : n / 1099511627776 = 256 * (256 * a + b) + c := by rw [show 1099511627776 = 4294967296 * 256 from rfl, ← Nat.div_div_eq_div_mul, n4]; omega
  have n6 : n / 281474976710656 = 256 * a + b := by rw [show 281474976710656 = 1099511627776 * 256 from rfl, ← Nat.div_div_eq_div_mul, n5]; omega
  have n7 : n / 72057594037927936 = a := by rw [show 72057594037927936 = 281474976710656 * 256 from rfl, ← Nat.div_div_eq_div_mul, n6]; omega
  rw [n7, n6, n5, n4, n3, n2, n1, hn]
  omega
theorem bytes_valE {l : List UInt8} (h : l.length = 8) : bytesOf ((valE l : Nat) : Int) 8 = l := by
  obtain ⟨a, b, c, d, e, f, g, i, rfl⟩ := eight_bytes h
  have h256 : ∀ d : UInt8, d.toNat < 256 := fun d => UInt8.toNat_lt d
  have hv : valE [a, b, c, d, e, f, g, i] = 256 * (256 * (256 * (256 * (256 * (256 * (256 * a.toNat + b.toNat) + c.toNat) + d.toNat) + e.toNat) + f.toNat) + g.toNat) + i.toNat := by
    simp only [valE, List.foldl_cons, List.foldl_nil, Nat.mul_zero, Nat.zero_add]
  obtain ⟨e56, e48, e40, e32, e24, e16, e8, e0⟩ := bytes_nat (valE [a, b, c, d, e, f, g, i])
  obtain ⟨d1, d2, d3, d4, d5, d6, d7, d8⟩ := digits8 _ _ _ _ _ _ _ _ (h256 a) (h256 b) (h256 c) (h256 d) (h256 e) (h256 f) (h256 g) (h256 i) _ hv
  rw [bytesOf8, UInt8.toNat_inj.1 (e56.trans d1), UInt8.toNat_inj.1 (e48.trans d2), UInt8.toNat_inj.1 (e40.trans d3), UInt8.toNat_inj.1 (e32.trans d4), UInt8.toNat_inj.1 (e24.trans d5), UInt8.toNat_inj.1 (e16.trans d6), UInt8.toNat_inj.1 (e8.trans d7), UInt8.toNat_inj.1 (e0.trans d8)]
/-! The reference's number. -/
theorem eight_eq (n : Int) : gemotref1_eight.f n = some (bytesOf n 8) := by
  unfold gemotref1_eight.f
  have e : ∀ k : Nat, k ≤ 56 → IntKind.u8.wrap (n.fdiv (2 ^ min (k : Int).toNat IntKind.u64.bits)) = ((byteAt n (k : Int)).toNat : Int) := fun k hk => by rw [b8_wrap]; rfl
  have st : ∀ (i : Nat) (l : List Int) (x : Int), i < 8 → l[7 - i]? = some x → gemotref1_eight.b1 n l (i : Int) = some (.inl (l.set (7 - i) ((byteAt n ((8 * i : Nat) : Int)).toNat : Int), ((i + 1 : Nat) : Int))) := by
    intro i l x hi hx
    unfold gemotref1_eight.b1 shrM
    have w1 : IntKind.i64.wrap ((8 : Int) * (i : Int)) = ((8 * i : Nat) : Int) := by rw [Eng.i64_id (by omega) (by omega)]; omega
    have w2 : IntKind.i64.wrap ((7 : Int) - (i : Int)) = ((7 - i : Nat) : Int) := by rw [Eng.i64_id (by omega) (by omega)]; omega
    rw [cond_t (by omega), w1, if_pos (by omega), w2, Option.bind_some, Option.bind_some, idxL_nat, hx, Option.bind_some, wrap1 i (by omega), e _ (by omega), Int.toNat_natCast]
  have hL : loopM (fun s159 : (List Int) × Int => gemotref1_eight.b1 n s159.1 s159.2) ((List.replicate 8 (0 : Int)), (0 : Int)) = some (bytesI (bytesOf n 8)) := by
    refine loop_step (st 0 _ 0 (by omega) rfl) ?_
    refine loop_step (st 1 _ 0 (by omega) rfl) ?_
    refine loop_step (st 2 _ 0 (by omega) rfl) ?_
    refine loop_step (st 3 _ 0 (by omega) rfl) ?_
    refine loop_step (st 4 _ 0 (by omega) rfl) ?_
    refine loop_step (st 5 _ 0 (by omega) rfl) ?_
    refine loop_step (st 6 _ 0 (by omega) rfl) ?_
    refine loop_step (st 7 _ 0 (by omega) rfl) ?_
    exact loop_end rfl
  rw [hL, Option.bind_some]
  unfold gemotref1_eight.k2 strM
  rw [if_pos ⟨by simp [bytesI, bytesOf8], by
    intro x hx
    obtain ⟨b, _, rfl⟩ := List.mem_map.1 hx
    have := UInt8.toNat_lt b
    omega⟩, Option.bind_some]
  congr 1
  unfold bytesI
  rw [List.map_map]
  conv => rhs; rw [← List.map_id (bytesOf n 8)]
  refine List.map_congr_left fun b _ => ?_
  simp
theorem rnumber_eq (n : Int) : gemotref1_Number.f n = some (countedT 117 n) := by
  unfold gemotref1_Number.f
  rw [eight_eq, Option.bind_some, room_of (by simp [bytesOf_length])]
  rfl
/-! A number's worth. -/
theorem or_add (v : Nat) (b : UInt8) (hv : 256 * v + b.toNat < 18446744073709551616) : orI .u64 (IntKind.u64.wrap ((v : Int) * 2 ^ min ((8 : Int)).toNat IntKind.u64.bits)) (IntKind.u64.wrap (b.toNat : Int)) = ((256 * v + b.toNat : Nat) : Int) := by
  have hb := UInt8.toNat_lt b
  have e1 : (v : Int) * 2 ^ min ((8 : Int)).toNat IntKind.u64.bits = ((256 * v : Nat) : Int) := by
    rw [show min ((8 : Int)).toNat IntKind.u64.bits = 8 from rfl]; omega
  rw [e1, Eng.u64_id (by omega) (by omega), Eng.u64_id (by omega) (by omega)]
  unfold orI
  have e2 : (BitVec.ofInt IntKind.u64.bits ((256 * v : Nat) : Int) ||| BitVec.ofInt IntKind.u64.bits (b.toNat : Int)).toNat = 256 * v + b.toNat := by
    rw [BitVec.toNat_or]
    have a1 : (BitVec.ofInt IntKind.u64.bits ((256 * v : Nat) : Int)).toNat = 256 * v := by
      rw [BitVec.ofInt_natCast, BitVec.toNat_ofNat]
      exact Nat.mod_eq_of_lt (by show 256 * v < 18446744073709551616; omega)
    have a2 : (BitVec.ofInt IntKind.u64.bits ((b.toNat : Nat) : Int)).toNat = b.toNat := by
      rw [BitVec.ofInt_natCast, BitVec.toNat_ofNat]
      exact Nat.mod_eq_of_lt (by show b.toNat < 18446744073709551616; omega)
    rw [a1, a2]
    exact (Nat.two_pow_add_eq_or_of_lt (i := 8) hb v).symm
  rw [e2, Eng.u64_id (by omega) (by omega)]
end Go.Proofs.Ytgomlcfoifkdiaa.G
