/- The reference's queue, by what the caller owns: New, Push, Pop, Either. -/
import Derived.Test.YtgiipmdndfcgnaaQueueOrder
import Derived.Test.YtgiipmdndfcgnaaPieces
namespace Go.Proofs.Ytgiipmdndfcgnaa.Queue
open Go.Conc Go.RowKit Go.Eng Go.Proofs
set_option linter.unusedVariables false

variable {ok : Nat → Prop} {w0 w : World} {L : List Eng.Item} {b c R : Nat} {z : Value} {q : List (List UInt8)}

theorem rnew_own (H : Own ok w0 w L) (R : Nat) (h1 : 1 ≤ R) (h2 : R ≤ 1000) :
    Calls Try.prog 32 #[.int .i64 (R : Int)] w fun e w' => ∃ v, e = .returned v ∧ (∃ b, v = .tuple #[.pointer (some ⟨b, 0, none⟩), .int .i64 0] ∧ Own ok w0 w' (.blk b [.int .i64 (R : Int), .slice none 0 0] 72 :: .row (.slice none 0 0) 9 1 0 [] :: L)) := by
  refine enter (args := [.int .i64 (R : Int)]) Try.func32 rfl Try.ntmps32 rfl rfl ?_
  have d1 : decide ((R : Int) < 1) = false := decide_eq_false (by omega)
  have d2 : decide ((R : Int) > 1000) = false := decide_eq_false (by omega)
  try refine nc ?_
  try refine nc ?_
  refine cond_no (by simp [d1, d2]) ?_
  try refine nc ?_
  refine own_box (H.nilRow 9 1) [.int .i64 (R : Int), .slice none 0 0] rfl fun b w' H => ?_
  try refine nc ?_
  try refine nc ?_
  refine ret_of [_, _] ⟨rfl, rfl, trivial⟩ ⟨_, rfl, b, rfl, H⟩

theorem rnew_bad (n : Int) (h : n < 1 ∨ 1000 < n) (w : World) :
    Calls Try.prog 32 #[.int .i64 n] w fun e w' => ∃ v, e = .returned v ∧ (v = .tuple #[.pointer none, .int .i64 1] ∧ Below w.heap.size w w') := by
  refine enter (args := [.int .i64 n]) Try.func32 rfl Try.ntmps32 rfl rfl ?_
  try refine nc ?_
  try refine nc ?_
  refine cond_yes (by
    show (bif decide (n < 1) then true else decide (n > 1000)) = true
    by_cases h1 : n < 1
    · rw [decide_eq_true h1]; rfl
    · rw [decide_eq_false h1, decide_eq_true (by omega)]; rfl) ?_
  try refine nc ?_
  try refine nc ?_
  refine ret_of [.pointer none, .int .i64 1] ⟨rfl, rfl, trivial⟩ ⟨_, rfl, rfl, Below.refl _ _⟩

theorem set_get {α : Type} {L : List α} {i j : Nat} {x y : α} (h : L[j]? = some x) (hne : i ≠ j) : (L.set i y)[j]? = some x := by rw [List.getElem?_set_ne hne]; exact h

theorem rpush_own (H : Own ok w0 w L) (i j : Nat) (hne : i ≠ j) (hi : L[i]? = some (.blk b [.int .i64 (R : Int), z] 72)) (hj : L[j]? = some (.row z 9 1 q.length (strs q))) (hq : q.length ≤ 1000) (t : List UInt8) :
    Calls Try.prog 33 #[.pointer (some ⟨b, 0, none⟩), .string (bs t)] w fun e w' => ∃ v, e = .returned v ∧ (v = .int .i64 (if q.length = R then 5 else 0) ∧
      ∃ z', Own ok w0 w' ((L.set i (.blk b [.int .i64 (R : Int), z'] 72)).set j (.row z' 9 1 (if q.length = R then q else q ++ [t]).length (strs (if q.length = R then q else q ++ [t]))))) := by
  obtain ⟨A, cA, hz, _, _⟩ := H.rowSl j hj
  subst hz
  refine enter (args := [.pointer (some ⟨b, 0, none⟩), .string (bs t)]) Try.func33 rfl Try.ntmps33 rfl rfl ?_
  try refine nc ?_
  try refine nc ?_
  refine draw_rule [] (by kernel_rfl) (by kernel_rfl) H ?_
  refine c_load i hi (by kernel_rfl) (j := 1) rfl ?_
  refine c_load i hi (by kernel_rfl) (j := 0) rfl ?_
  refine fun w2 H => ?_
  replace H : Own ok w0 w2 L := H
  try refine nc ?_
  try refine nc ?_
  refine cond_of (fun hc => ?_) (fun hc => ?_)
  · have hR : q.length = R := by simp at hc; omega
    try refine nc ?_
    try refine nc ?_
    refine ret_of [.int .i64 5] ⟨rfl, trivial⟩ ⟨_, rfl, by rw [if_pos hR]; rfl, .slice A q.length cA, ?_⟩
    rw [if_pos hR, set_same hi, set_same hj]; exact H
  · have hR : ¬ q.length = R := by simp at hc; omega
    try refine nc ?_
    refine own_load H i hi (by kernel_rfl) (j := 1) rfl ?_
    refine own_buildSlice (e := 9) (sz := 1) (z := .string ⟨#[]⟩) (cs := [.string (bs t)]) H (by kernel_rfl) (by kernel_rfl) (by kernel_rfl) rfl rfl rfl rfl ?_
    intro g w3 H
    refine own_appendBlk (e := 9) (sz := 1) (z := .string ⟨#[]⟩) (by_ := 16) (m := 1) H (j + 1) 0 hj rfl (by kernel_rfl) (by kernel_rfl) rfl rfl rfl (by intro u hu; simp at hu; subst hu; rfl) (by omega) (by omega) ?_
    intro z' w4 H
    have ht : strs q ++ [.string (bs t)] = strs (q ++ [t]) := by rw [strs_append]; rfl
    have hl1 : q.length + 1 = (q ++ [t]).length := by simp
    rw [ht, hl1] at H
    have hjl : j + 1 < (Eng.Item.blk g [.string (bs t)] 9 :: L).length := by have := (List.getElem?_eq_some_iff.1 hj).1; simp; omega
    obtain ⟨A', cA', hz, _, _⟩ := H.rowSl (j + 1) (List.getElem?_set_self hjl)
    subst hz
    replace H := H.tail
    have hi' : (L.set j (.row (.slice A' (q ++ [t]).length cA') 9 1 (q ++ [t]).length (strs (q ++ [t]))))[i]? = some (.blk b [.int .i64 (R : Int), .slice A q.length cA] 72) := set_get hi (Ne.symm hne)
    refine own_store (t := 22) H i hi' (by kernel_rfl) (j := 1) rfl rfl ?_
    intro w5 H
    try refine nc ?_
    try refine nc ?_
    refine ret_of [.int .i64 0] ⟨rfl, trivial⟩ ⟨_, rfl, by rw [if_neg hR]; rfl, .slice A' (q ++ [t]).length cA', ?_⟩
    rw [if_neg hR, List.set_comm _ _ hne]
    exact H

theorem rpop_own (H : Own ok w0 w L) (i j : Nat) (hne : i ≠ j) (hi : L[i]? = some (.blk b [.int .i64 (R : Int), z] 72)) (hj : L[j]? = some (.row z 9 1 q.length (strs q))) :
    Calls Try.prog 34 #[.pointer (some ⟨b, 0, none⟩)] w fun e w' => ∃ v, e = .returned v ∧ (v = .tuple #[.string (bs (q.headD [])), .bool (decide (0 < q.length))] ∧
      ∃ z', Own ok w0 w' ((L.set i (.blk b [.int .i64 (R : Int), z'] 72)).set j (.row z' 9 1 q.tail.length (strs q.tail)))) := by
  obtain ⟨A, cA, hz, _, hcA⟩ := H.rowSl j hj
  subst hz
  refine enter (args := [.pointer (some ⟨b, 0, none⟩)]) Try.func34 rfl Try.ntmps34 rfl rfl ?_
  try refine nc ?_
  try refine nc ?_
  refine own_load H i hi (by kernel_rfl) (j := 1) rfl ?_
  try refine nc ?_
  try refine nc ?_
  cases q with
  | nil =>
    refine cond_yes rfl ?_
    try refine nc ?_
    try refine nc ?_
    refine ret_of [.string (bs []), .bool false] ⟨rfl, rfl, trivial⟩ ⟨_, rfl, rfl, .slice A 0 cA, ?_⟩
    have e1 := set_same hi
    have e2 := set_same hj
    show Own ok w0 w ((L.set i (.blk b [.int .i64 (R : Int), .slice A ([] : List (List UInt8)).length cA] 72)).set j (.row (.slice A ([] : List (List UInt8)).length cA) 9 1 ([] : List (List UInt8)).length (strs [])))
    rw [e1, e2]; exact H
  | cons x q =>
    refine cond_no (by show ((((x :: q).length : Nat) : Int) == 0) = false; simp; omega) ?_
    try refine nc ?_
    obtain ⟨a, ha, hcell⟩ := H.rowCells j hj (by simp)
    subst ha
    refine own_load H i hi (by kernel_rfl) (j := 1) rfl ?_
    refine indexAddr_rule (e := 9) (kk := .i64) 1 0 (by kernel_rfl) (by kernel_rfl) (fun _ => by simp) ?_
    refine load_rule (v := .string (bs x)) (by kernel_rfl) (fun _ => hcell 0 _ rfl) ?_
    try refine nc ?_
    try refine nc ?_
    refine own_load H i hi (by kernel_rfl) (j := 1) rfl ?_
    refine piece_rule 1 1 (x :: q).length (e := 9) (by kernel_rfl) (by kernel_rfl) ⟨_, rfl⟩ rfl (fun _ => by simp) (fun _ => Nat.le_refl _) hcA ?_
    replace H := H.rowPiece (l := 1) (h := (x :: q).length) j hj (by simp) (Nat.le_refl _)
    have e1 : (strs (x :: q)).drop (1 * 1) = strs q := rfl
    have e2 : (x :: q).length - 1 = q.length := by simp
    rw [e1, e2, Nat.mul_one, List.take_of_length_le (by rw [strs_length]; exact Nat.le_refl _)] at H
    have hi' : (L.set j (.row (piece (some a) cA 1 (x :: q).length 1) 9 1 q.length (strs q)))[i]? = some (.blk b [.int .i64 (R : Int), .slice (some a) (x :: q).length cA] 72) := set_get hi (Ne.symm hne)
    refine own_store (t := 22) H i hi' (by kernel_rfl) (j := 1) rfl rfl ?_
    intro w5 H
    try refine nc ?_
    try refine nc ?_
    try refine nc ?_
    refine ret_of [.string (bs x), .bool true] ⟨rfl, rfl, trivial⟩ ⟨_, rfl, by simp; rfl, piece (some a) cA 1 (x :: q).length 1, ?_⟩
    rw [List.set_comm _ _ hne]
    exact H

theorem reither_own {X0 X1 : Eng.Item} {T : List Eng.Item} {b b2 R R2 : Nat} {z z2 : Value} {q q2 : List (List UInt8)}
    (H : Own ok w0 w (.blk b2 [.int .i64 (R2 : Int), z2] 72 :: .row z2 9 1 q2.length (strs q2) :: X0 :: X1 :: .blk b [.int .i64 (R : Int), z] 72 :: .row z 9 1 q.length (strs q) :: T)) :
    Calls Try.prog 35 #[.pointer (some ⟨b, 0, none⟩), .pointer (some ⟨b2, 0, none⟩)] w fun e w' => ∃ v, e = .returned v ∧
      (v = (if 0 < q.length then .tuple #[.string (bs (q.headD [])), .int .i64 1] else if 0 < q2.length then .tuple #[.string (bs (q2.headD [])), .int .i64 2] else .tuple #[.string (bs []), .int .i64 0]) ∧
        ∃ z' z2', Own ok w0 w' (.blk b2 [.int .i64 (R2 : Int), z2'] 72 :: .row z2' 9 1 (if 0 < q.length then q2 else q2.tail).length (strs (if 0 < q.length then q2 else q2.tail)) ::
          X0 :: X1 :: .blk b [.int .i64 (R : Int), z'] 72 :: .row z' 9 1 q.tail.length (strs q.tail) :: T)) := by
  refine enter (args := [.pointer (some ⟨b, 0, none⟩), .pointer (some ⟨b2, 0, none⟩)]) Try.func35 rfl Try.ntmps35 rfl rfl ?_
  try refine nc ?_
  try refine nc ?_
  refine call_rule (by kernel_rfl) (rpop_own H 4 5 (by decide) rfl rfl) fun v w2 ⟨hv, z', H⟩ => ?_
  subst hv
  try refine nc ?_
  try refine nc ?_
  cases q with
  | cons x q =>
    refine cond_yes (decide_eq_true (by simp)) ?_
    try refine nc ?_
    try refine nc ?_
    refine ret_of [.string (bs x), .int .i64 1] ⟨rfl, rfl, trivial⟩ ⟨_, rfl, by simp; rfl, z', z2, ?_⟩
    rw [if_pos (by simp)]; exact H
  | nil =>
    refine cond_no rfl ?_
    try refine nc ?_
    try refine nc ?_
    refine call_rule (by kernel_rfl) (rpop_own H 0 1 (by decide) rfl rfl) fun v w3 ⟨hv, z2', H⟩ => ?_
    subst hv
    try refine nc ?_
    try refine nc ?_
    cases q2 with
    | cons x q2 =>
      refine cond_yes (decide_eq_true (by simp)) ?_
      try refine nc ?_
      try refine nc ?_
      refine ret_of [.string (bs x), .int .i64 2] ⟨rfl, rfl, trivial⟩ ⟨_, rfl, by simp; rfl, z', z2', ?_⟩
      exact H
    | nil =>
      refine cond_no rfl ?_
      try refine nc ?_
      try refine nc ?_
      refine ret_of [.string (bs []), .int .i64 0] ⟨rfl, rfl, trivial⟩ ⟨_, rfl, rfl, z', z2', ?_⟩
      exact H
end Go.Proofs.Ytgiipmdndfcgnaa.Queue
