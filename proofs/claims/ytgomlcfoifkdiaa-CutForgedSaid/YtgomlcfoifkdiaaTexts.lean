/- The texts of terms. -/
import Derived.Test.YtgomlcfoifkdiaaTermRows
namespace Go.Proofs.Ytgomlcfoifkdiaa.Cut
open Go.RowKit Go.Eng Go.Proofs
set_option linter.unusedVariables false
set_option maxRecDepth 20000

variable {ok : Nat → Prop} {w0 w : World} {L : List Eng.Item}

set_option maxHeartbeats 1000000 in
theorem texts_calls {ok : Nat → Prop} {w : World} {u : Value} {xs : List Tx} (hu : slR tStr w ok u xs) (hl : xs.length ≤ 1000000000) :
    Calls Try.prog 18 #[u] w fun e w' => ∃ r, e = .returned r ∧ (slR tStr w' (fun b => w.heap.size ≤ b) r xs ∧ Bel w.heap.size w w') := by
  have H : Eng.Own ok w w [.dat (dSl tStr u xs)] := own_one hu
  obtain ⟨A, c, hA, hc⟩ := H.sl 0 rfl
  subst hA
  refine enter (args := [.slice A xs.length c]) Try.func18 rfl Try.ntmps18 rfl rfl ?_
  try refine nc ?_
  try refine nc ?_
  try refine nc ?_
  try refine nc ?_
  refine loop_rule (fun k e w' => ∃ (i : Nat) (z : Value), i + k = xs.length ∧ e = [(0, .slice A xs.length c), (3, z), (4, .int .i64 (i : Int))] ∧ Eng.Own ok w w' [.row z 9 1 i (strs (xs.take i)), .dat (dSl tStr (.slice A xs.length c) xs)])
    xs.length [(0, .slice A xs.length c), (3, .slice none 0 0), (4, .int .i64 ((0 : Nat) : Int))] ⟨rfl, rfl, rfl, trivial⟩ ⟨0, .slice none 0 0, by omega, rfl, H.nilRow 9 1⟩ ?_
  rintro k e w' ⟨i, z, hik, rfl, H⟩
  try refine nc ?_
  try refine nc ?_
  refine cond_of (fun hc => ?_) (fun hc => ?_)
  · have hlt : i < xs.length := by have := of_decide_eq_true hc; omega
    try refine nc ?_
    try refine nc ?_
    obtain ⟨a, c', cs, hA, hR, H⟩ := H.elem 1 rfl i hlt
    cases hA
    have hR : cs = [.string (bs xs[i])] := hR
    subst hR
    refine indexAddr_rule (e := 62) 1 i (by kernel_rfl) (by kernel_rfl) (fun _ => hlt) ?_
    refine own_loadD H 0 rfl 0 (by kernel_rfl) rfl ?_
    refine own_buildSlice (e := 9) (sz := 1) (z := .string ⟨#[]⟩) (cs := [.string (bs xs[i])]) H (by kernel_rfl) (by kernel_rfl) (by kernel_rfl) rfl rfl rfl rfl fun g w2 H => ?_
    refine own_appendBlk (e := 9) (sz := 1) (z := .string ⟨#[]⟩) (by_ := 16) (m := 1) H 3 0 rfl rfl (by kernel_rfl) (by kernel_rfl) rfl rfl rfl (by intro u hu; simp at hu; subst hu; rfl) (by omega) (by omega) ?_
    intro z' w3 H
    have ht : strs (xs.take i) ++ [.string (bs xs[i])] = strs (xs.take (i + 1)) := by
      rw [List.take_add_one, List.getElem?_eq_getElem hlt, strs_append]; rfl
    rw [ht] at H
    try refine nc ?_
    try refine nc ?_
    refine again_in (k - 1) (by omega) [(0, .slice (some a) xs.length c), (3, z'), (4, .int .i64 ((i + 1 : Nat) : Int))] ⟨rfl, rfl, ?_, trivial⟩ ⟨i + 1, z', by omega, rfl, H.tail.tail.tail⟩
    show some (Value.int .i64 (IntKind.i64.wrap ((i : Int) + 1))) = _
    rw [Eng.i64_id (by omega) (by omega)]; rfl
  · have hge : i = xs.length := by have := of_decide_eq_false hc; omega
    subst hge
    rw [List.take_length] at H
    try refine nc ?_
    try refine nc ?_
    refine ret_of [z] ⟨rfl, trivial⟩ ⟨_, rfl, ?_, H.frame⟩
    exact H.rowSlRin (k := tStr) (okr := fun _ => False) 0 rfl (rows_strs xs) (fun _ h => h.elim) (fun _ h => h)
end Go.Proofs.Ytgomlcfoifkdiaa.Cut
