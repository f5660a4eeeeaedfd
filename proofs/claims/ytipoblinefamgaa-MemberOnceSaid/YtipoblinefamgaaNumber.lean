/- Numbers and names as terms; 'pick'. -/
import Derived.Test.YtipoblinefamgaaCmp
namespace Go.Proofs.Ytipoblinefamgaa.Cut
open Go.RowKit Go.Eng Go.Proofs
set_option linter.unusedVariables false
set_option maxRecDepth 20000

section
variable {P : Program} {ro : Option Nat} {n : Nat} {ds : List Nat} {x y : Code} {e : Env} {w : World} {K : EK}
/-- A sequence, one statement at a time. -/
theorem nc_seq (h : nCode P ro n ds x e w (thenK P ro n y K)) : nCode P ro n ds (.seq x y) e w K :=
  nCode_in fun a hf => wpIn_seq (wpIn_mono (nCode_out h a hf) fun ex a' w' hq => by
    obtain ⟨ds', e', hf', hk⟩ := hq
    cases ex with
    | normal => exact nCode_out hk a' hf'
    | _ => exact ⟨ds', e', hf', hk⟩)
theorem nc_block {id : Nat} (h : nCode P ro n ds x e w (blockK id K)) : nCode P ro n ds (.block id x) e w K :=
  nCode_in fun a hf => wpIn_block (wpIn_mono (nCode_out h a hf) fun ex a' w' hq => by
    obtain ⟨ds', e', hf', hk⟩ := hq
    cases ex with
    | exit id' =>
      simp only [blockK] at hk
      simp only [Exit.inBlock]
      split at hk
      · rename_i hb
        have := Nat.eq_of_beq_eq_true hb
        rw [if_pos this]; exact ⟨ds', e', hf', hk⟩
      · rename_i hb
        rw [if_neg (fun he => by subst he; simp at hb)]
        exact ⟨ds', e', hf', hk⟩
    | _ => exact ⟨ds', e', hf', hk⟩)
end
/-- The byte of n that a shift by i brings down. -/
def byteAt (n i : Int) : UInt8 := b8 (n.fdiv (2 ^ min i.toNat IntKind.u64.bits))
def bytesOf (n : Int) (j : Nat) : List UInt8 := (List.range j).map fun q : Nat => byteAt n (56 - 8 * (q : Int))
theorem bytesOf_succ (n : Int) (j : Nat) : bytesOf n (j + 1) = bytesOf n j ++ [byteAt n (56 - 8 * (j : Int))] := by simp [bytesOf, List.range_succ]
theorem bytesOf_length (n : Int) (j : Nat) : (bytesOf n j).length = j := by simp [bytesOf]
def countedT (c : UInt8) (n : Int) : List UInt8 := c :: bytesOf n 8

theorem counted_calls (cc : UInt8) (n : Int) (w : World) : Calls Try.prog 32 #[.int .u8 (cc.toNat : Int), .int .u64 n] w fun e w' => ∃ v, e = .returned v ∧ (v = .string (bs (countedT cc n)) ∧ Bel w.heap.size w w') := by
  have H: Eng.Own (fun _ => False) w w [] := Eng.Own.nil _ w
  refine enter (args := [.int .u8 (cc.toNat : Int), .int .u64 n]) Try.func32 rfl Try.ntmps32 rfl rfl ?_
  try refine nc ?_
  refine own_buildSlice (e := 5) (sz := 1) (z := .int .u8 0) (cs := [.int .u8 (cc.toNat : Int)]) H (by kernel_rfl) (by kernel_rfl) (by kernel_rfl) rfl rfl rfl rfl ?_
  intro g w1 H
  have H := H.blkRow (n := 1) (sz := 1) rfl (by decide)
  try refine nc ?_
  try refine nc ?_
  refine loop_rule (fun k e w' => ∃ (j : Nat) (z : Value), j + k = 8 ∧ e = [(0, .int .u8 (cc.toNat : Int)), (1, .int .u64 n), (5, z), (6, .int .i64 (56 - 8 * (j : Int)))] ∧ Eng.Own (fun _ => False) w w' [.row z 5 1 (j + 1) (bytesV (cc :: bytesOf n j))]) 8
    [(0, .int .u8 (cc.toNat : Int)), (1, .int .u64 n), (5, .slice (some ⟨g, 0, none⟩) 1 1), (6, .int .i64 (56 - 8 * ((0 : Nat) : Int)))] ⟨rfl, rfl, rfl, rfl, trivial⟩ ⟨0, _, rfl, rfl, H⟩ ?_
  intro k e w' ⟨j, z, hjk, he, H⟩
  subst he
  try refine nc ?_
  try refine nc ?_
  refine cond_of (fun hc => ?_) (fun hc => ?_)
  · have hlt : j < 8 := by have := of_decide_eq_true hc; omega
    try refine nc ?_
    refine shr_rule (fun _ => by omega) ?_
    refine own_buildSlice (e := 5) (sz := 1) (z := .int .u8 0) (cs := [.int .u8 (IntKind.u8.wrap (n.fdiv (2 ^ min (56 - 8 * (j : Int)).toNat IntKind.u64.bits)))]) H (by kernel_rfl) (by kernel_rfl) (by kernel_rfl) rfl rfl rfl rfl ?_
    intro g2 w2 H
    refine own_appendBlk (e := 5) (sz := 1) (z := .int .u8 0) (by_ := 1) (m := 1) H 1 0 rfl rfl (by kernel_rfl) (by kernel_rfl) rfl rfl rfl (by intro u hu; simp at hu; subst hu; rfl) (by omega) (by omega) ?_
    intro z' w3 H
    have ht : bytesV (cc :: bytesOf n j) ++ [.int .u8 (IntKind.u8.wrap (n.fdiv (2 ^ min (56 - 8 * (j : Int)).toNat IntKind.u64.bits)))] = bytesV (cc :: bytesOf n (j + 1)) := by
      rw [b8_wrap, bytesOf_succ, ← List.cons_append, bytesV_append]; rfl
    rw [ht] at H
    try refine nc ?_
    refine again_in (k - 1) (by omega) [(0, .int .u8 (cc.toNat : Int)), (1, .int .u64 n), (5, z'), (6, .int .i64 (56 - 8 * ((j + 1 : Nat) : Int)))] ⟨rfl, rfl, rfl, ?_, trivial⟩ ⟨j + 1, z', by omega, rfl, H.tail⟩
    show some (Value.int .i64 (IntKind.i64.wrap ((56 - 8 * (j : Int)) - 8))) = _
    rw [Eng.i64_id (by omega) (by omega)]
    congr 2
    omega
  · have hge : j = 8 := by have := of_decide_eq_false hc; omega
    subst hge
    obtain ⟨A, c, hz, _, _⟩ := H.rowSl 0 rfl
    subst hz
    try refine nc ?_
    try refine nc ?_
    refine own_toStr (e := 5) (l := cc :: bytesOf n 8) H 0 (by rw [List.length_cons, bytesOf_length]; rfl) (by simp) (by kernel_rfl) (by kernel_rfl) ?_
    try refine nc ?_
    refine ret_of [.string _] ⟨rfl, trivial⟩ ⟨_, rfl, rfl, H.frame⟩

theorem number_calls (n : Int) (w : World) : Calls Try.prog 15 #[.int .u64 n] w fun e w' => ∃ v, e = .returned v ∧ (v = .string (bs (countedT 117 n)) ∧ Bel w.heap.size w w') := by
  refine enter (args := [.int .u64 n]) Try.func15 rfl Try.ntmps15 rfl rfl ?_
  try refine nc ?_
  refine call_rule (by kernel_rfl) (counted_calls 117 n w) fun r w1 ⟨hr, hb⟩ => ?_
  subst hr
  try refine nc ?_
  refine ret_of [.string _] ⟨rfl, trivial⟩ ⟨_, rfl, rfl, hb⟩

end Go.Proofs.Ytipoblinefamgaa.Cut
