/- The reference's set, by what is owned: Top, Seen, Bits, Let. -/
import Derived.Test.YtgiipmdndfcgnaaLetsFun
namespace Go.Proofs.Ytgiipmdndfcgnaa.Lets
open Go.RowKit Go.Eng Go.Proofs Go.Proofs.Ytgiipmdndfcgnaa.Win
open Go.Proofs.Ytgiipmdndfcgnaa.Pure (zs zs_len)
set_option linter.unusedVariables false

def u64s (l : List Nat) : List Value := l.map fun n : Nat => .int .u64 (n : Int)
theorem u64s_len (l : List Nat) : (u64s l).length = l.length := by simp [u64s]
theorem u64s_get (l : List Nat) (i : Nat) (h : i < l.length) : (u64s l)[i]? = some (.int .u64 ((l[i] : Nat) : Int)) := by simp [u64s, h]
theorem u64s_snoc (l : List Nat) (n : Nat) : u64s (l ++ [n]) = u64s l ++ [.int .u64 (n : Int)] := by simp [u64s]
theorem rows_u64s {w : World} {ok : Nat → Prop} : ∀ (l : List Nat), rowsR (tInt .u64) w ok (zs l) (u64s l) := by
  intro l
  induction l with
  | nil => exact rfl
  | cons n l ih => exact ⟨[.int .u64 (n : Int)], _, rfl, rfl, ih⟩

variable {ok : Nat → Prop} {w0 w : World} {L : List Eng.Item} {b : Nat} {z : Value} {l : List Nat}

theorem rtop (H : Own ok w0 w L) (i j : Nat) (hi : L[i]? = some (.blk b [z] 42)) (hj : L[j]? = some (.row z 37 1 l.length (u64s l))) (hl : l.length ≤ 1000) :
    Calls Try.prog 24 #[.pointer (some ⟨b, 0, none⟩)] w fun e w' => ∃ v, e = .returned v ∧ (v = .int .u64 ((l.foldl max 0 : Nat) : Int) ∧ Below w.heap.size w w') := by
  obtain ⟨A, cA, hz, _, _⟩ := H.rowSl j hj
  subst hz
  refine enter (args := [.pointer (some ⟨b, 0, none⟩)]) Try.func24 rfl Try.ntmps24 rfl rfl ?_
  try refine nc ?_
  try refine nc ?_
  try refine nc ?_
  refine loop_rule (fun k e w' => ∃ q : Nat, q + k = l.length ∧ w' = w ∧ e = [(0, .pointer (some ⟨b, 0, none⟩)), (3, .int .u64 (((l.take q).foldl max 0 : Nat) : Int)), (4, .int .i64 (q : Int))]) l.length
    [(0, .pointer (some ⟨b, 0, none⟩)), (3, .int .u64 (((l.take 0).foldl max 0 : Nat) : Int)), (4, .int .i64 ((0 : Nat) : Int))] ⟨rfl, rfl, rfl, trivial⟩ ⟨0, by omega, rfl, rfl⟩ ?_
  intro k e w' ⟨q, hqk, hw, he⟩
  subst hw he
  try refine nc ?_
  try refine nc ?_
  refine own_load H i hi (by kernel_rfl) (j := 0) rfl ?_
  try refine nc ?_
  try refine nc ?_
  refine cond_of (fun hc => ?_) (fun hc => ?_)
  · have hlt : q < l.length := by have := of_decide_eq_true hc; omega
    obtain ⟨a, ha, hcell⟩ := H.rowCells j hj (by omega)
    subst ha
    try refine nc ?_
    try refine nc ?_
    refine own_load H i hi (by kernel_rfl) (j := 0) rfl ?_
    refine indexAddr_rule (e := 37) 1 q (by kernel_rfl) (by kernel_rfl) (fun _ => hlt) ?_
    refine load_rule (v := .int .u64 ((l[q] : Nat) : Int)) (by kernel_rfl) (fun _ => by rw [Nat.mul_one]; exact hcell q _ (u64s_get l q hlt)) ?_
    try refine nc ?_
    try refine nc ?_
    refine again_in (k - 1) (by omega) [(0, .pointer (some ⟨b, 0, none⟩)), (3, .int .u64 (((l.take (q + 1)).foldl max 0 : Nat) : Int)), (4, .int .i64 ((q + 1 : Nat) : Int))] ⟨rfl, ?_, ?_, trivial⟩ ⟨q + 1, by omega, rfl, rfl⟩
    · rw [List.take_add_one, List.getElem?_eq_getElem hlt, Option.toList_some, List.foldl_append]
      show some (Value.int .u64 _) = _
      congr 2
      simp only [List.foldl_cons, List.foldl_nil]
      split <;> omega
    · show some (Value.int .i64 (IntKind.i64.wrap ((q : Int) + 1))) = _
      rw [i64_id (by omega) (by omega)]; rfl
  · have hge : q = l.length := by have := of_decide_eq_false hc; omega
    subst hge
    try refine nc ?_
    try refine nc ?_
    try refine nc ?_
    refine ret_of [.int .u64 _] ⟨rfl, trivial⟩ ⟨_, rfl, ?_, Below.refl _ _⟩
    rw [List.take_length]; rfl

theorem fold_ge : ∀ (l : List Nat) (a : Nat), a ≤ l.foldl max a ∧ ∀ x ∈ l, x ≤ l.foldl max a := by
  intro l
  induction l with
  | nil => intro a; simp
  | cons y l ih =>
    intro a
    obtain ⟨h1, h2⟩ := ih (max a y)
    refine ⟨by simp only [List.foldl_cons]; omega, fun x hx => ?_⟩
    simp only [List.foldl_cons]
    rcases List.mem_cons.1 hx with h | h
    · subst h; omega
    · exact h2 x h
theorem fold_mem : ∀ (l : List Nat) (a : Nat), l.foldl max a = a ∨ l.foldl max a ∈ l := by
  intro l
  induction l with
  | nil => intro a; simp
  | cons y l ih =>
    intro a
    simp only [List.foldl_cons]
    rcases ih (max a y) with h | h
    · rw [h]
      by_cases hay : a ≤ y
      · right; simp; omega
      · left; omega
    · right; exact List.mem_cons_of_mem _ h
theorem inv_top {T B : Nat} (h : Inv T B l) : l.foldl max 0 = T := by
  have h1 := (fold_ge l 0).2
  rcases h.top with h0 | h0
  · rcases fold_mem l 0 with h2 | h2
    · omega
    · have := (h.mem _ h2).2; omega
  · have h2 := h1 T h0
    rcases fold_mem l 0 with h3 | h3
    · omega
    · have := (h.mem _ h3).2; omega

theorem rseen (H : Own ok w0 w L) (i j : Nat) (hi : L[i]? = some (.blk b [z] 42)) (hj : L[j]? = some (.row z 37 1 l.length (u64s l))) (hl : l.length ≤ 1000) {T B : Nat} (hI : Inv T B l) (hT : T < 2 ^ 64) (n : Nat) (hn : n < 2 ^ 64) :
    Calls Try.prog 21 #[.pointer (some ⟨b, 0, none⟩), .int .u64 (n : Int)] w fun e w' => ∃ v, e = .returned v ∧ (v = .bool (wseen T B n) ∧ Below w.heap.size w w') := by
  obtain ⟨A, cA, hz, _, _⟩ := H.rowSl j hj
  subst hz
  refine enter (args := [.pointer (some ⟨b, 0, none⟩), .int .u64 (n : Int)]) Try.func21 rfl Try.ntmps21 rfl rfl ?_
  try refine nc ?_
  try refine nc ?_
  refine loop_rule (fun k e w' => ∃ q : Nat, q + k = l.length ∧ w' = w ∧ e = [(0, .pointer (some ⟨b, 0, none⟩)), (1, .int .u64 (n : Int)), (5, .int .i64 (q : Int))] ∧ n ∉ l.take q) l.length
    [(0, .pointer (some ⟨b, 0, none⟩)), (1, .int .u64 (n : Int)), (5, .int .i64 ((0 : Nat) : Int))] ⟨rfl, rfl, rfl, trivial⟩ ⟨0, by omega, rfl, rfl, by simp⟩ ?_
  intro k e w' ⟨q, hqk, hw, he, hnot⟩
  subst hw he
  try refine nc ?_
  try refine nc ?_
  refine own_load H i hi (by kernel_rfl) (j := 0) rfl ?_
  try refine nc ?_
  try refine nc ?_
  refine cond_of (fun hc => ?_) (fun hc => ?_)
  · have hlt : q < l.length := by have := of_decide_eq_true hc; omega
    obtain ⟨a, ha, hcell⟩ := H.rowCells j hj (by omega)
    subst ha
    try refine nc ?_
    try refine nc ?_
    refine own_load H i hi (by kernel_rfl) (j := 0) rfl ?_
    refine indexAddr_rule (e := 37) 1 q (by kernel_rfl) (by kernel_rfl) (fun _ => hlt) ?_
    refine load_rule (v := .int .u64 ((l[q] : Nat) : Int)) (by kernel_rfl) (fun _ => by rw [Nat.mul_one]; exact hcell q _ (u64s_get l q hlt)) ?_
    try refine nc ?_
    try refine nc ?_
    refine cond_of (fun hc => ?_) (fun hc => ?_)
    · have hqn : l[q] = n := by simp at hc; omega
      try refine nc ?_
      try refine nc ?_
      refine ret_of [.bool true] ⟨rfl, trivial⟩ ⟨_, rfl, ?_, Below.refl _ _⟩
      have : wseen T B n = true := (seen_iff hI).2 (.inr (.inl (by rw [← hqn]; exact List.getElem_mem hlt)))
      rw [this]; rfl
    · have hqn : l[q] ≠ n := fun h => by rw [h] at hc; simp at hc
      try refine nc ?_
      try refine nc ?_
      refine again_in (k - 1) (by omega) [(0, .pointer (some ⟨b, 0, none⟩)), (1, .int .u64 (n : Int)), (5, .int .i64 ((q + 1 : Nat) : Int))] ⟨rfl, rfl, ?_, trivial⟩ ⟨q + 1, by omega, rfl, rfl, ?_⟩
      · show some (Value.int .i64 (IntKind.i64.wrap ((q : Int) + 1))) = _
        rw [i64_id (by omega) (by omega)]; rfl
      · rw [List.take_add_one, List.getElem?_eq_getElem hlt]
        simp only [Option.toList_some, List.mem_append, List.mem_singleton, not_or]
        exact ⟨hnot, fun h => hqn h.symm⟩
  · have hge : q = l.length := by have := of_decide_eq_false hc; omega
    subst hge
    rw [List.take_length] at hnot
    try refine nc ?_
    try refine nc ?_
    refine call_any (.int .u64 (T : Int)) (by kernel_rfl) (fun _ => by have := rtop H i j hi hj hl; rw [inv_top hI] at this; exact this) fun w1 hb1 => ?_
    replace H := H.call hb1
    refine call_any (.int .u64 (T : Int)) (by kernel_rfl) (fun _ => by have := rtop H i j hi hj hl; rw [inv_top hI] at this; exact this) fun w2 hb2 => ?_
    try refine nc ?_
    try refine nc ?_
    refine ret_of [.bool (wseen T B n)] ⟨?_, trivial⟩ ⟨_, rfl, rfl, hb1.trans (hb2.mono hb1.size)⟩
    show some (Value.bool (bif ((n : Int) == 0) then true else (bif decide ((T : Int) > (n : Int)) then decide (IntKind.u64.wrap ((T : Int) - (n : Int)) ≥ 64) else false))) = _
    congr 2
    rw [Bool.eq_iff_iff, seen_iff hI]
    by_cases h0 : n = 0
    · subst h0; simp
    · by_cases h1 : T > n
      · rw [u64_id (by omega) (by omega)]
        have e1 : ((n : Int) == 0) = false := by simp; omega
        rw [e1, decide_eq_true (by omega : (T : Int) > (n : Int))]
        simp only [cond_false, cond_true, decide_eq_true_eq]
        constructor
        · intro h; exact .inr (.inr (by omega))
        · rintro (h | h | h)
          · exact absurd h h0
          · exact absurd h hnot
          · omega
      · have e1 : ((n : Int) == 0) = false := by simp; omega
        rw [e1, decide_eq_false (by omega : ¬ (T : Int) > (n : Int))]
        simp only [cond_false, Bool.false_eq_true, false_iff]
        rintro (h | h | h)
        · exact h0 h
        · exact hnot h
        · omega

theorem rlet (H : Own ok w0 w L) (i j : Nat) (hne : i ≠ j) (hi : L[i]? = some (.blk b [z] 42)) (hj : L[j]? = some (.row z 37 1 l.length (u64s l))) (hl : l.length ≤ 1000) {T B : Nat} (hI : Inv T B l) (hT : T < 2 ^ 64) (n : Nat) (hn : n < 2 ^ 64) :
    Calls Try.prog 23 #[.pointer (some ⟨b, 0, none⟩), .int .u64 (n : Int)] w fun e w' => ∃ v, e = .returned v ∧ (v = .bool (!wseen T B n) ∧
      ∃ z', Own ok w0 w' ((L.set i (.blk b [z'] 42)).set j (.row z' 37 1 (if wseen T B n then l else l ++ [n]).length (u64s (if wseen T B n then l else l ++ [n]))))) := by
  refine enter (args := [.pointer (some ⟨b, 0, none⟩), .int .u64 (n : Int)]) Try.func23 rfl Try.ntmps23 rfl rfl ?_
  try refine nc ?_
  try refine nc ?_
  refine call_rule (by kernel_rfl) (rseen H i j hi hj hl hI hT n hn) fun v w1 ⟨hv, hb⟩ => ?_
  subst hv
  replace H := H.call hb
  try refine nc ?_
  try refine nc ?_
  have same : L.set i (.blk b [z] 42) = L := by
    apply List.ext_getElem?
    intro n
    rw [List.getElem?_set]
    split
    · rename_i e; subst e
      split
      · exact hi.symm
      · rename_i h1; rw [List.getElem?_eq_none (by omega)] at hi; cases hi
    · rfl
  have same' : L.set j (.row z 37 1 l.length (u64s l)) = L := by
    apply List.ext_getElem?
    intro n
    rw [List.getElem?_set]
    split
    · rename_i e; subst e
      split
      · exact hj.symm
      · rename_i h1; rw [List.getElem?_eq_none (by omega)] at hj; cases hj
    · rfl
  cases hs : wseen T B n with
  | true =>
    refine cond_yes rfl ?_
    try refine nc ?_
    try refine nc ?_
    refine ret_of [.bool false] ⟨rfl, trivial⟩ ⟨_, rfl, rfl, z, ?_⟩
    rw [if_pos rfl, same, same']; exact H
  | false =>
    refine cond_no rfl ?_
    obtain ⟨A, cA, hz, _, _⟩ := H.rowSl j hj
    subst hz
    try refine nc ?_
    try refine nc ?_
    refine own_load H i hi (by kernel_rfl) (j := 0) rfl ?_
    refine own_buildSlice (e := 37) (sz := 1) (z := .int .u64 0) (cs := [.int .u64 (n : Int)]) H (by kernel_rfl) (by kernel_rfl) (by kernel_rfl) rfl rfl rfl rfl ?_
    intro g w3 H
    refine own_appendBlk (e := 37) (sz := 1) (z := .int .u64 0) (by_ := 8) (m := 1) H (j + 1) 0 hj rfl (by kernel_rfl) (by kernel_rfl) rfl rfl rfl (by intro u hu; simp at hu; subst hu; rfl) (by omega) (by omega) ?_
    intro z' w4 H
    have hl1 : l.length + 1 = (l ++ [n]).length := by simp
    rw [← u64s_snoc, hl1] at H
    have hjl : j + 1 < (Eng.Item.blk g [.int .u64 (n : Int)] 37 :: L).length := by have := (List.getElem?_eq_some_iff.1 hj).1; simp; omega
    obtain ⟨A', cA', hz, _, _⟩ := H.rowSl (j + 1) (List.getElem?_set_self hjl)
    subst hz
    replace H := H.tail
    have hi' : (L.set j (.row (.slice A' (l ++ [n]).length cA') 37 1 (l ++ [n]).length (u64s (l ++ [n]))))[i]? = some (.blk b [.slice A l.length cA] 42) := by rw [List.getElem?_set_ne (Ne.symm hne)]; exact hi
    refine own_store (t := 36) H i hi' (by kernel_rfl) (j := 0) rfl rfl ?_
    intro w5 H
    try refine nc ?_
    try refine nc ?_
    try refine nc ?_
    refine ret_of [.bool true] ⟨rfl, trivial⟩ ⟨_, rfl, rfl, .slice A' (l ++ [n]).length cA', ?_⟩
    rw [if_neg (by simp), List.set_comm _ _ hne]
    exact H

set_option maxHeartbeats 1000000 in
theorem rbits (H : Own ok w0 w L) (i j : Nat) (hi : L[i]? = some (.blk b [z] 42)) (hj : L[j]? = some (.row z 37 1 l.length (u64s l))) (hl : l.length ≤ 1000) {T B : Nat} (hI : Inv T B l) (hT : T < 2 ^ 64) :
    Calls Try.prog 25 #[.pointer (some ⟨b, 0, none⟩)] w fun e w' => ∃ v, e = .returned v ∧ (v = .int .u64 (B : Int) ∧ Below w.heap.size w w') := by
  obtain ⟨A, cA, hz, _, _⟩ := H.rowSl j hj
  subst hz
  refine enter (args := [.pointer (some ⟨b, 0, none⟩)]) Try.func25 rfl Try.ntmps25 rfl rfl ?_
  try refine nc ?_
  try refine nc ?_
  try refine nc ?_
  have ht := rtop H i j hi hj hl
  rw [inv_top hI] at ht
  refine call_rule (by kernel_rfl) ht fun v w1 ⟨hv, hb⟩ => ?_
  subst hv
  replace H := H.call hb
  have key : ∀ (q O : Nat), q ≤ 64 → (∀ x, O.testBit x = true ↔ x < q ∧ x < T ∧ (T - x) ∈ l) → (q = 64 ∨ T ≤ q) → O = B := by
    intro q O hq hO hend
    apply Nat.eq_of_testBit_eq
    intro x
    rw [Bool.eq_iff_iff, hO, hI.bit]
    constructor
    · rintro ⟨h1, h2, h3⟩; exact ⟨by omega, h2, h3⟩
    · rintro ⟨h1, h2, h3⟩; exact ⟨by omega, h2, h3⟩
  try refine nc ?_
  try refine nc ?_
  try refine nc ?_
  refine loop_rule (fun k e w' => ∃ q O : Nat, q + k = 64 ∧ w' = w1 ∧ e = [(0, .pointer (some ⟨b, 0, none⟩)), (3, .int .u64 (O : Int)), (4, .int .u64 (T : Int)), (5, .int .i64 (q : Int))] ∧ (∀ x, O.testBit x = true ↔ x < q ∧ x < T ∧ (T - x) ∈ l)) 64
    [(0, .pointer (some ⟨b, 0, none⟩)), (3, .int .u64 ((0 : Nat) : Int)), (4, .int .u64 (T : Int)), (5, .int .i64 ((0 : Nat) : Int))] ⟨rfl, rfl, rfl, rfl, trivial⟩ ⟨0, 0, rfl, rfl, rfl, by simp⟩ ?_
  intro k e w' ⟨q, O, hqk, hw, he, hO⟩
  subst hw he
  try refine nc ?_
  try refine nc ?_
  refine cond_of (fun hc => ?_) (fun hc => ?_)
  · have hlt : q < 64 := by have := of_decide_eq_true hc; omega
    try refine nc ?_
    try refine nc ?_
    refine cond_of (fun hc => ?_) (fun hc => ?_)
    · have hc : decide (IntKind.u64.wrap (q : Int) ≥ (T : Int)) = true := hc
      rw [u64_id (by omega) (by omega)] at hc
      have hge := of_decide_eq_true hc
      have := key q O (by omega) hO (.inr (by omega))
      subst this
      try refine nc ?_
      try refine nc ?_
      try refine nc ?_
      refine ret_of [.int .u64 (O : Int)] ⟨rfl, trivial⟩ ⟨_, rfl, rfl, hb⟩
    · have hc : decide (IntKind.u64.wrap (q : Int) ≥ (T : Int)) = false := hc
      rw [u64_id (by omega) (by omega)] at hc
      have hqT : q < T := by have := of_decide_eq_false hc; omega
      have hsub : IntKind.u64.wrap ((T : Int) - IntKind.u64.wrap (q : Int)) = ((T - q : Nat) : Int) := by rw [u64_id (x := (q : Int)) (by omega) (by omega), u64_id (by omega) (by omega)]; omega
      try refine nc ?_
      try refine nc ?_
      try refine nc ?_
      refine loop_rule (fun k e w'' => ∃ r O' : Nat, r + k = l.length ∧ w'' = w' ∧ e = [(0, .pointer (some ⟨b, 0, none⟩)), (3, .int .u64 (O' : Int)), (4, .int .u64 (T : Int)), (5, .int .i64 (q : Int)), (6, .int .u64 ((T - q : Nat) : Int)), (7, .int .i64 (r : Int))] ∧
          (∀ x, O'.testBit x = true ↔ (x < q ∧ x < T ∧ (T - x) ∈ l) ∨ (x = q ∧ (T - q) ∈ l.take r))) l.length
        [(0, .pointer (some ⟨b, 0, none⟩)), (3, .int .u64 (O : Int)), (4, .int .u64 (T : Int)), (5, .int .i64 (q : Int)), (6, .int .u64 ((T - q : Nat) : Int)), (7, .int .i64 ((0 : Nat) : Int))] ⟨rfl, rfl, rfl, rfl, by rw [← hsub]; rfl, rfl, trivial⟩ ⟨0, O, by omega, rfl, rfl, by simpa using hO⟩ ?_
      intro k2 e w'' ⟨r, O', hrk, hw, he, hO'⟩
      subst hw he
      try refine nc ?_
      try refine nc ?_
      refine own_load H i hi (by kernel_rfl) (j := 0) rfl ?_
      try refine nc ?_
      try refine nc ?_
      refine cond_of (fun hc => ?_) (fun hc => ?_)
      · have hrl : r < l.length := by have := of_decide_eq_true hc; omega
        obtain ⟨a, ha, hcell⟩ := H.rowCells j hj (by omega)
        subst ha
        try refine nc ?_
        try refine nc ?_
        refine own_load H i hi (by kernel_rfl) (j := 0) rfl ?_
        refine indexAddr_rule (e := 37) 1 r (by kernel_rfl) (by kernel_rfl) (fun _ => hrl) ?_
        refine load_rule (v := .int .u64 ((l[r] : Nat) : Int)) (by kernel_rfl) (fun _ => by rw [Nat.mul_one]; exact hcell r _ (u64s_get l r hrl)) ?_
        have hnext : some (Value.int .i64 (IntKind.i64.wrap ((r : Int) + 1))) = some (Value.int .i64 ((r + 1 : Nat) : Int)) := by rw [i64_id (by omega) (by omega)]; rfl
        try refine nc ?_
        try refine nc ?_
        refine cond_of (fun hc => ?_) (fun hc => ?_)
        · have heq : l[r] = T - q := by simp at hc; omega
          try refine nc ?_
          refine shl_rule (fun _ => by omega) ?_
          have hO64 : O' < 2 ^ 64 := by
            apply Nat.lt_pow_two_of_testBit
            intro x hx
            cases h : O'.testBit x with
            | false => rfl
            | true => rcases (hO' x).1 h with h | h <;> omega
          have hpow : IntKind.u64.wrap (1 * 2 ^ min ((q : Int).toNat) IntKind.u64.bits) = ((2 ^ q : Nat) : Int) := by
            have e64 : IntKind.u64.bits = 64 := rfl
            rw [e64, Int.toNat_natCast, Nat.min_eq_left (by omega), Int.one_mul]
            have : 2 ^ q ≤ 2 ^ 63 := Nat.pow_le_pow_right (by omega) (by omega)
            have e2 : (2 : Int) ^ q = ((2 ^ q : Nat) : Int) := by simp
            rw [e2]
            generalize 2 ^ q = Q at this ⊢
            rw [u64_id (by omega) (by omega)]
          try refine nc ?_
          try refine nc ?_
          refine again_in (k2 - 1) (by omega) [(0, .pointer (some ⟨b, 0, none⟩)), (3, .int .u64 ((O' ||| 2 ^ q : Nat) : Int)), (4, .int .u64 (T : Int)), (5, .int .i64 (q : Int)), (6, .int .u64 ((T - q : Nat) : Int)), (7, .int .i64 ((r + 1 : Nat) : Int))] ⟨rfl, ?_, rfl, rfl, rfl, hnext, trivial⟩ ⟨r + 1, _, by omega, rfl, rfl, ?_⟩
          · show some (Value.int .u64 (Go.bits .or .u64 (O' : Int) (IntKind.u64.wrap (1 * 2 ^ min ((q : Int).toNat) IntKind.u64.bits)))) = _
            rw [hpow, (Go.Proofs.Ytgiipmdndfcgnaa.Pure.bits_u64 O' (2 ^ q) hO64 (Nat.pow_lt_pow_right (by omega) hlt)).2]
          · intro x
            rw [Nat.testBit_or, Bool.or_eq_true, hO', Nat.testBit_two_pow, List.take_add_one, List.getElem?_eq_getElem hrl]
            simp only [Option.toList_some, List.mem_append, List.mem_singleton, decide_eq_true_eq]
            constructor
            · rintro ((h | h) | h)
              · exact .inl h
              · exact .inr ⟨h.1, .inl h.2⟩
              · exact .inr ⟨h.symm, .inr heq.symm⟩
            · rintro (h | ⟨h1, h2 | h2⟩)
              · exact .inl (.inl h)
              · exact .inl (.inr ⟨h1, h2⟩)
              · exact .inr h1.symm
        · have hne : l[r] ≠ T - q := fun h => by rw [h] at hc; simp at hc
          try refine nc ?_
          try refine nc ?_
          refine again_in (k2 - 1) (by omega) [(0, .pointer (some ⟨b, 0, none⟩)), (3, .int .u64 (O' : Int)), (4, .int .u64 (T : Int)), (5, .int .i64 (q : Int)), (6, .int .u64 ((T - q : Nat) : Int)), (7, .int .i64 ((r + 1 : Nat) : Int))] ⟨rfl, rfl, rfl, rfl, rfl, hnext, trivial⟩ ⟨r + 1, O', by omega, rfl, rfl, ?_⟩
          intro x
          rw [hO', List.take_add_one, List.getElem?_eq_getElem hrl]
          simp only [Option.toList_some, List.mem_append, List.mem_singleton]
          constructor
          · rintro (h | h)
            · exact .inl h
            · exact .inr ⟨h.1, .inl h.2⟩
          · rintro (h | ⟨h1, h2 | h2⟩)
            · exact .inl h
            · exact .inr ⟨h1, h2⟩
            · exact absurd h2.symm hne
      · have hge : r = l.length := by have := of_decide_eq_false hc; omega
        subst hge
        rw [List.take_length] at hO'
        try refine nc ?_
        try refine nc ?_
        refine again_in (k - 1) (by omega) [(0, .pointer (some ⟨b, 0, none⟩)), (3, .int .u64 (O' : Int)), (4, .int .u64 (T : Int)), (5, .int .i64 ((q + 1 : Nat) : Int))] ⟨rfl, rfl, rfl, ?_, trivial⟩ ⟨q + 1, O', by omega, rfl, rfl, ?_⟩
        · show some (Value.int .i64 (IntKind.i64.wrap ((q : Int) + 1))) = _
          rw [i64_id (by omega) (by omega)]; rfl
        · intro x
          rw [hO']
          constructor
          · rintro (h | h)
            · exact ⟨by omega, h.2.1, h.2.2⟩
            · obtain ⟨h1, h2⟩ := h; subst h1; exact ⟨by omega, hqT, h2⟩
          · rintro ⟨h1, h2, h3⟩
            by_cases hx : x = q
            · subst hx; exact .inr ⟨rfl, h3⟩
            · exact .inl ⟨by omega, h2, h3⟩
  · have hge : q = 64 := by have := of_decide_eq_false hc; omega
    have := key q O (by omega) hO (.inl hge)
    subst this
    try refine nc ?_
    try refine nc ?_
    try refine nc ?_
    refine ret_of [.int .u64 (O : Int)] ⟨rfl, trivial⟩ ⟨_, rfl, rfl, hb⟩
end Go.Proofs.Ytgiipmdndfcgnaa.Lets
