/- The law WindowLets answers true for every list of whole numbers below 2^64 and every number that is asked for. -/
import Derived.Test.YtgiipmdndfcgnaaLetsRef
import Derived.Test.YtgiipmdndfcgnaaEqual
import Derived.Test.YtgiipmdndfcgnaaOpen
namespace Go.Proofs.Ytgiipmdndfcgnaa.Lets
open Go.RowKit Go.Eng Go.Proofs Go.Proofs.Ytgiipmdndfcgnaa.Win
open Go.Proofs.Ytgiipmdndfcgnaa.Pure (zs zs_len)
set_option linter.unusedVariables false

def lets (g b : Nat) (T B : Nat) (z : Value) (L : List Nat) (v : Value) (l : List Nat) : List Eng.Item :=
  [.blk g [.int .u64 (T : Int), .int .u64 (B : Int)] 39, .blk b [z] 42, .row z 37 1 L.length (u64s L), .dat (dSl (tInt .u64) v (zs l))]
theorem zs_get (l : List Nat) (i : Nat) (h : i < (zs l).length) : (zs l)[i] = ((l[i]'(by simpa [zs] using h) : Nat) : Int) := by simp [zs]

set_option maxHeartbeats 2000000 in
theorem letsLaw_calls {ok : Nat → Prop} {w : World} {v : Value} {l : List Nat} (hv : slR (tInt .u64) w ok v (zs l)) (hw : ∀ x ∈ l, x < 2 ^ 64) (ask : Nat) (ha : ask < 2 ^ 64) :
    Calls Try.prog 4 #[v, .int .u64 (ask : Int)] w fun e w' => ∃ r, e = .returned r ∧ (r = .bool true ∧ Below w.heap.size w w') := by
  have H : Own ok w w [.dat (dSl (tInt .u64) v (zs l))] := Own.start (ds := [dSl (tInt .u64) v (zs l)]) (by
    intro d hd
    rw [List.mem_singleton] at hd; subst hd; exact hv)
  obtain ⟨A, cA, hA, hcA⟩ := H.sl 0 rfl
  rw [zs_len] at hA hcA
  subst hA
  refine enter (args := [.slice A l.length cA, .int .u64 (ask : Int)]) Try.func4 rfl Try.ntmps4 rfl rfl ?_
  try refine nc ?_
  refine call_rule (by kernel_rfl) (shown_eng w) fun r w1 ⟨hr, hb⟩ => ?_
  subst hr
  replace H := H.call hb
  try refine nc ?_
  try refine nc ?_
  refine cond_of (fun hc => ?_) (fun hc => ?_)
  · try refine nc ?_
    try refine nc ?_
    refine ret_of [.bool true] ⟨rfl, trivial⟩ ⟨_, rfl, rfl, H.below⟩
  have hl : l.length ≤ 150 := by
    have : decide ((l.length : Int) > 150) = false := hc
    have := of_decide_eq_false this
    omega
  try refine nc ?_
  refine own_alloc (z := .agg #[.int .u64 0, .int .u64 0]) H (by kernel_rfl) [.int .u64 0, .int .u64 0] rfl fun g w2 H => ?_
  refine own_storeA H 0 rfl (m := 2) (by kernel_rfl) [.int .u64 0, .int .u64 0] rfl rfl (by intro v hv; simp at hv; subst hv; rfl) (Nat.le_refl _) fun w3 H => ?_
  try refine nc ?_
  refine own_box (H.nilRow 37 1) [.slice none 0 0] rfl fun b w4 H => ?_
  try refine nc ?_
  try refine nc ?_
  replace H : Own ok w w4 (lets g b 0 0 (.slice none 0 0) [] (.slice A l.length cA) l) := H.sub (by
    intro it hit
    simp only [lets, List.mem_cons, List.not_mem_nil, or_false] at hit
    rcases hit with h | h | h | h <;> subst h <;> simp [setRange, u64s]) (by
    have := H.nd
    simp only [muts, lets, List.flatMap_cons, List.flatMap_nil, Eng.Item.muts, List.set, List.append_nil, List.nil_append, List.cons_append, Value.ownBlock, Option.toList] at this ⊢
    simp at this ⊢
    exact fun h => this h.symm)
  refine loop_rule (fun k e w' => ∃ (i : Nat) (A : Option Addr) (T B : Nat) (z : Value) (L : List Nat), i + k = l.length ∧ e = [(0, .slice A l.length cA), (1, .int .u64 (ask : Int)), (6, .pointer (some ⟨g, 0, none⟩)), (7, .pointer (some ⟨b, 0, none⟩)), (8, .int .i64 (i : Int))] ∧
      Inv T B L ∧ T < 2 ^ 64 ∧ L.length ≤ i ∧ L = all 0 0 (l.take i) ∧ (T, B) = fin 0 0 (l.take i) ∧ Own ok w w' (lets g b T B z L (.slice A l.length cA) l)) l.length
    [(0, .slice A l.length cA), (1, .int .u64 (ask : Int)), (6, .pointer (some ⟨g, 0, none⟩)), (7, .pointer (some ⟨b, 0, none⟩)), (8, .int .i64 ((0 : Nat) : Int))] ⟨rfl, rfl, rfl, rfl, rfl, trivial⟩ ⟨0, A, 0, 0, _, [], by omega, rfl, Inv.start, by decide, Nat.le_refl _, rfl, rfl, H⟩ ?_
  intro k e w' ⟨i, A, T, B, z, L, hik, he, hI, hT, hLi, hLa, hTB, H⟩
  subst he
  have hBlt : B < 2 ^ 64 := hI.lt
  try refine nc ?_
  try refine nc ?_
  refine cond_of (fun hc => ?_) (fun hc => ?_)
  · have hlt : i < l.length := by have := of_decide_eq_true hc; omega
    have hlt' : i < (zs l).length := by rw [zs_len]; exact hlt
    obtain ⟨x, hx⟩ : ∃ x, x = l[i] := ⟨_, rfl⟩
    have hx64 : x < 2 ^ 64 := by rw [hx]; exact hw _ (List.getElem_mem hlt)
    obtain ⟨a, c', cs, hA', hE, H⟩ := H.elem 3 rfl i hlt'
    rw [zs_len] at hA'
    cases hA'
    have hE : cs = [.int .u64 ((zs l)[i])] := hE
    rw [zs_get, ← hx] at hE
    subst hE
    have hdat := H.dat 0 rfl
    try refine nc ?_
    refine draw_ruleQ [20, 21] (fun j => bif Nat.ble j 11 then .bool (wseen T B x) else .bool (wseen T B ask)) [] (by kernel_rfl) (by kernel_rfl) H ?_
    refine c_loadA 2 rfl (by kernel_rfl) (m := 2) (by kernel_rfl) [.int .u64 (T : Int), .int .u64 (B : Int)] rfl rfl ?_
    refine c_indexAddr (e := 37) 1 i (by kernel_rfl) (by kernel_rfl) (fun _ => hlt) ?_
    refine c_loadD 0 rfl 0 (by kernel_rfl) rfl ?_
    refine c_quiet (by kernel_rfl) (fun _ w5 _ => seen_eng T B x hT hBlt w5) ?_
    refine c_indexAddr (e := 37) 1 i (by kernel_rfl) (by kernel_rfl) (fun _ => hlt) ?_
    refine c_loadD 0 rfl 0 (by kernel_rfl) rfl ?_
    refine c_quiet (by kernel_rfl) (fun _ w5 H5 => rseen (w := w5) H5 3 4 rfl rfl (by omega) hI hT x hx64) ?_
    refine c_loadA 2 rfl (by kernel_rfl) (m := 2) (by kernel_rfl) [.int .u64 (T : Int), .int .u64 (B : Int)] rfl rfl ?_
    refine c_quiet (by kernel_rfl) (fun _ w5 _ => seen_eng T B ask hT hBlt w5) ?_
    refine c_quiet (by kernel_rfl) (fun _ w5 H5 => rseen (w := w5) H5 3 4 rfl rfl (by omega) hI hT ask ha) ?_
    refine fun w5 H => ?_
    replace H : Own ok w w5 (.dat (dCells (a.add (i * 1)) [.int .u64 (x : Int)]) :: .dat (dR (tInt .u64) (zs l)[i] [.int .u64 (x : Int)]) :: lets g b T B z L (.slice (some a) l.length cA) l) := H
    try refine nc ?_
    try refine nc ?_
    try refine nc ?_
    refine cond_no (by simp) ?_
    try refine nc ?_
    try refine nc ?_
    try refine nc ?_
    have htake : l.take (i + 1) = l.take i ++ [x] := by rw [List.take_add_one, List.getElem?_eq_getElem hlt, hx]; rfl
    have hf1 : (fin 0 0 (l.take i)).1 = T := by rw [← hTB]
    have hf2 : (fin 0 0 (l.take i)).2 = B := by rw [← hTB]
    have hnext : some (Value.int .i64 (IntKind.i64.wrap ((i : Int) + 1))) = some (Value.int .i64 ((i + 1 : Nat) : Int)) := by rw [i64_id (by omega) (by omega)]; rfl
    have hlet := let_eng T B x hT hx64 hBlt
    cases hs : wseen T B x with
    | true =>
      have hv1 : letV T B x = .tuple #[win 0 0, .int .i64 7] := by unfold letV; rw [hs]; rfl
      rw [hv1] at hlet
      refine draw_ruleQ [22] (fun _ => .tuple #[win 0 0, .int .i64 7]) [] (by kernel_rfl) (by kernel_rfl) H ?_
      refine c_loadA 2 rfl (by kernel_rfl) (m := 2) (by kernel_rfl) [.int .u64 (T : Int), .int .u64 (B : Int)] rfl rfl ?_
      refine c_indexAddr (e := 37) 1 i (by kernel_rfl) (by kernel_rfl) (fun _ => hlt) ?_
      refine c_loadD 0 rfl 0 (by kernel_rfl) rfl ?_
      refine c_quiet (by kernel_rfl) (fun _ w6 _ => hlet w6) ?_
      refine c_alloc (z := .agg #[.int .u64 0, .int .u64 0]) [.int .u64 0, .int .u64 0] (by kernel_rfl) rfl fun gv => ?_
      refine c_storeA 0 rfl (m := 2) (by kernel_rfl) [.int .u64 ((0 : Nat) : Int), .int .u64 ((0 : Nat) : Int)] rfl rfl (by intro v hv; simp at hv; first | (rcases hv with h | h <;> subst h <;> rfl) | (subst hv; rfl)) (Nat.le_refl _) ?_
      refine fun w6 H => ?_
      replace H : Own ok w w6 (.blk gv [.int .u64 ((0 : Nat) : Int), .int .u64 ((0 : Nat) : Int)] 39 :: .dat (dCells (a.add (i * 1)) [.int .u64 (x : Int)]) :: .dat (dR (tInt .u64) (zs l)[i] [.int .u64 (x : Int)]) :: lets g b T B z L (.slice (some a) l.length cA) l) := H
      try refine nc ?_
      try refine nc ?_
      try refine nc ?_
      refine indexAddr_rule (e := 37) 1 i (by kernel_rfl) (by kernel_rfl) (fun _ => hlt) ?_
      refine own_loadD H 1 rfl 0 (by kernel_rfl) rfl ?_
      refine call_rule (by kernel_rfl) (rlet H 4 5 (by decide) rfl rfl (by omega) hI hT x hx64) fun r w7 ⟨hr, z', H⟩ => ?_
      rw [hs] at hr H
      subst hr
      replace H : Own ok w w7 (.blk gv [.int .u64 ((0 : Nat) : Int), .int .u64 ((0 : Nat) : Int)] 39 :: .dat (dCells (a.add (i * 1)) [.int .u64 (x : Int)]) :: .dat (dR (tInt .u64) (zs l)[i] [.int .u64 (x : Int)]) :: lets g b T B z' L (.slice (some a) l.length cA) l) := H
      try refine nc ?_
      try refine nc ?_
      try refine nc ?_
      refine own_loadA H 0 rfl (by kernel_rfl) (m := 2) (by kernel_rfl) [.int .u64 ((0 : Nat) : Int), .int .u64 ((0 : Nat) : Int)] rfl rfl ?_
      refine neq_rule ((((0 : Nat) : Int) == 0) && (((0 : Nat) : Int) == 0)) (fun _ => by kernel_rfl) (fun _ => by kernel_rfl) ?_
      try refine nc ?_
      try refine nc ?_
      try refine nc ?_
      refine cond_no (by simp) ?_
      try refine nc ?_
      try refine nc ?_
      try refine nc ?_
      refine cond_no rfl ?_
      replace H : Own ok w w7 (lets g b T B z' L (.slice (some a) l.length cA) l) := H.tail.tail.tail
      try refine nc ?_
      try refine nc ?_
      try refine nc ?_
      have ht := fun w5 (H5 : Own ok w w5 (lets g b T B z' L (.slice (some a) l.length cA) l)) => rtop (w := w5) H5 1 2 rfl rfl (by omega)
      rw [inv_top hI] at ht
      refine draw_ruleQ [24, 25] (fun j => bif Nat.ble j 3 then .int .u64 ((T : Nat) : Int) else .int .u64 ((B : Nat) : Int)) [] (by kernel_rfl) (by kernel_rfl) H ?_
      refine c_load 0 rfl (by kernel_rfl) (j := 0) rfl ?_
      refine c_quiet (by kernel_rfl) (fun _ w5 H5 => ht w5 H5) ?_
      refine c_load 0 rfl (by kernel_rfl) (j := 1) rfl ?_
      refine c_quiet (by kernel_rfl) (fun _ w5 H5 => rbits (w := w5) H5 1 2 rfl rfl (by omega) hI hT) ?_
      refine fun w8 H => ?_
      replace H : Own ok w w8 (lets g b T B z' L (.slice (some a) l.length cA) l) := H
      try refine nc ?_
      try refine nc ?_
      try refine nc ?_
      refine cond_no (by simp) ?_
      try refine nc ?_
      try refine nc ?_
      try refine nc ?_
      refine again_in (k - 1) (by omega) [(0, .slice (some a) l.length cA), (1, .int .u64 (ask : Int)), (6, .pointer (some ⟨g, 0, none⟩)), (7, .pointer (some ⟨b, 0, none⟩)), (8, .int .i64 ((i + 1 : Nat) : Int))] ⟨rfl, rfl, rfl, rfl, hnext, trivial⟩
        ⟨i + 1, some a, T, B, z', L, by omega, rfl, hI, hT, by omega, by rw [htake, all_append, ← hLa, hf1, hf2]; simp [all, hs], by rw [htake, fin_append, hf1, hf2]; simp [fin, hs], H⟩
    | false =>
      have hv1 : letV T B x = .tuple #[win (nextT T x) (nextB T B x), .int .i64 0] := by unfold letV; rw [hs]; rfl
      rw [hv1] at hlet
      refine draw_ruleQ [22] (fun _ => .tuple #[win (nextT T x) (nextB T B x), .int .i64 0]) [] (by kernel_rfl) (by kernel_rfl) H ?_
      refine c_loadA 2 rfl (by kernel_rfl) (m := 2) (by kernel_rfl) [.int .u64 (T : Int), .int .u64 (B : Int)] rfl rfl ?_
      refine c_indexAddr (e := 37) 1 i (by kernel_rfl) (by kernel_rfl) (fun _ => hlt) ?_
      refine c_loadD 0 rfl 0 (by kernel_rfl) rfl ?_
      refine c_quiet (by kernel_rfl) (fun _ w6 _ => hlet w6) ?_
      refine c_alloc (z := .agg #[.int .u64 0, .int .u64 0]) [.int .u64 0, .int .u64 0] (by kernel_rfl) rfl fun gv => ?_
      refine c_storeA 0 rfl (m := 2) (by kernel_rfl) [.int .u64 ((nextT T x : Nat) : Int), .int .u64 ((nextB T B x : Nat) : Int)] rfl rfl (by intro v hv; simp at hv; first | (rcases hv with h | h <;> subst h <;> rfl) | (subst hv; rfl)) (Nat.le_refl _) ?_
      refine fun w6 H => ?_
      replace H : Own ok w w6 (.blk gv [.int .u64 ((nextT T x : Nat) : Int), .int .u64 ((nextB T B x : Nat) : Int)] 39 :: .dat (dCells (a.add (i * 1)) [.int .u64 (x : Int)]) :: .dat (dR (tInt .u64) (zs l)[i] [.int .u64 (x : Int)]) :: lets g b T B z L (.slice (some a) l.length cA) l) := H
      try refine nc ?_
      try refine nc ?_
      try refine nc ?_
      refine indexAddr_rule (e := 37) 1 i (by kernel_rfl) (by kernel_rfl) (fun _ => hlt) ?_
      refine own_loadD H 1 rfl 0 (by kernel_rfl) rfl ?_
      refine call_rule (by kernel_rfl) (rlet H 4 5 (by decide) rfl rfl (by omega) hI hT x hx64) fun r w7 ⟨hr, z', H⟩ => ?_
      rw [hs] at hr H
      subst hr
      replace H : Own ok w w7 (.blk gv [.int .u64 ((nextT T x : Nat) : Int), .int .u64 ((nextB T B x : Nat) : Int)] 39 :: .dat (dCells (a.add (i * 1)) [.int .u64 (x : Int)]) :: .dat (dR (tInt .u64) (zs l)[i] [.int .u64 (x : Int)]) :: lets g b T B z' (L ++ [x]) (.slice (some a) l.length cA) l) := H
      try refine nc ?_
      try refine nc ?_
      try refine nc ?_
      refine own_loadA H 0 rfl (by kernel_rfl) (m := 2) (by kernel_rfl) [.int .u64 ((nextT T x : Nat) : Int), .int .u64 ((nextB T B x : Nat) : Int)] rfl rfl ?_
      refine neq_rule ((((nextT T x : Nat) : Int) == 0) && (((nextB T B x : Nat) : Int) == 0)) (fun _ => by kernel_rfl) (fun _ => by kernel_rfl) ?_
      try refine nc ?_
      try refine nc ?_
      try refine nc ?_
      refine cond_no rfl ?_
      try refine nc ?_
      try refine nc ?_
      try refine nc ?_
      refine cond_yes rfl ?_
      try refine nc ?_
      try refine nc ?_
      try refine nc ?_
      refine own_loadA H 0 rfl (by kernel_rfl) (m := 2) (by kernel_rfl) [.int .u64 ((nextT T x : Nat) : Int), .int .u64 ((nextB T B x : Nat) : Int)] rfl rfl ?_
      refine own_storeA H 3 rfl (m := 2) (by kernel_rfl) [.int .u64 ((nextT T x : Nat) : Int), .int .u64 ((nextB T B x : Nat) : Int)] rfl rfl (by intro v hv; simp at hv; first | (rcases hv with h | h <;> subst h <;> rfl) | (subst hv; rfl)) (Nat.le_refl _) fun w8 H => ?_
      replace H : Own ok w w8 (lets g b (nextT T x) (nextB T B x) z' (L ++ [x]) (.slice (some a) l.length cA) l) := H.tail.tail.tail
      try refine nc ?_
      try refine nc ?_
      try refine nc ?_
      have hI' := next_inv hI hs
      have hT' := (Go.Proofs.Ytgiipmdndfcgnaa.Pure.nextT_lt T x hT hx64)
      have ht := fun w5 (H5 : Own ok w w5 (lets g b (nextT T x) (nextB T B x) z' (L ++ [x]) (.slice (some a) l.length cA) l)) => rtop (w := w5) H5 1 2 rfl rfl (by simp; omega)
      rw [inv_top hI'] at ht
      refine draw_ruleQ [24, 25] (fun j => bif Nat.ble j 3 then .int .u64 ((nextT T x : Nat) : Int) else .int .u64 ((nextB T B x : Nat) : Int)) [] (by kernel_rfl) (by kernel_rfl) H ?_
      refine c_load 0 rfl (by kernel_rfl) (j := 0) rfl ?_
      refine c_quiet (by kernel_rfl) (fun _ w5 H5 => ht w5 H5) ?_
      refine c_load 0 rfl (by kernel_rfl) (j := 1) rfl ?_
      refine c_quiet (by kernel_rfl) (fun _ w5 H5 => rbits (w := w5) H5 1 2 rfl rfl (by simp; omega) hI' hT') ?_
      refine fun w8 H => ?_
      replace H : Own ok w w8 (lets g b (nextT T x) (nextB T B x) z' (L ++ [x]) (.slice (some a) l.length cA) l) := H
      try refine nc ?_
      try refine nc ?_
      try refine nc ?_
      refine cond_no (by simp) ?_
      try refine nc ?_
      try refine nc ?_
      try refine nc ?_
      refine again_in (k - 1) (by omega) [(0, .slice (some a) l.length cA), (1, .int .u64 (ask : Int)), (6, .pointer (some ⟨g, 0, none⟩)), (7, .pointer (some ⟨b, 0, none⟩)), (8, .int .i64 ((i + 1 : Nat) : Int))] ⟨rfl, rfl, rfl, rfl, hnext, trivial⟩
        ⟨i + 1, some a, nextT T x, nextB T B x, z', (L ++ [x]), by omega, rfl, hI', hT', by simp; omega, by rw [htake, all_append, ← hLa, hf1, hf2]; simp [all, hs], by rw [htake, fin_append, hf1, hf2]; simp [fin, hs], H⟩
  · have hge : i = l.length := by have := of_decide_eq_false hc; omega
    subst hge
    rw [List.take_length] at hLa
    subst hLa
    have hdl := H.dat 3 rfl
    try refine nc ?_
    try refine nc ?_
    try refine nc ?_
    refine draw_rule [0, 0, 0, 0, 0, 0, 1] (by kernel_rfl) (by kernel_rfl) H ?_
    refine c_callDat (fun u => dSl (tInt .u64) u (zs (all 0 0 l))) (fun _ => True) (by kernel_rfl) (fun w5 H5 => ?_) fun u _ => ?_
    · refine (all_eng (H5.dat 3 rfl) (by omega) hw).mono fun e w6 ⟨u, h1, h2, h3⟩ => ⟨u, h1, trivial, ?_, h3⟩
      exact (dSl (tInt .u64) u (zs (all 0 0 l))).mono (fun b hb => .inr hb) h2
    refine c_load 1 rfl (by kernel_rfl) (j := 0) rfl ?_
    refine c_call (.bool true) (by kernel_rfl) (fun _ w6 H6 => ?_) ?_
    · exact same_eng (H6.dat 0 rfl) (H6.rowSlR (xs := zs (all 0 0 l)) 3 (by rw [zs_len (all 0 0 l)]; rfl) (rows_u64s (w := w6) (ok := fun _ => True) (all 0 0 l))) (by omega)
    refine fun w7 H => ?_
    try refine nc ?_
    try refine nc ?_
    try refine nc ?_
    refine ret_of [.bool true] ⟨rfl, trivial⟩ ⟨_, rfl, rfl, H.below⟩

theorem letsLaw_row {ok : Nat → Prop} {w : World} {v : Value} {xs : List Int} (hv : slR (tIn .u64) w ok v xs) (ask : Int) (h0 : 0 ≤ ask) (h1 : ask ≤ 18446744073709551615) :
    Calls Try.prog 4 #[v, .int .u64 ask] w fun e w' => ∃ r, e = .returned r ∧ (r = .bool true ∧ Below w.heap.size w w') := by
  obtain ⟨h, hp⟩ := slR_sub hv
  obtain ⟨m, rfl, hm⟩ := as_nats (2 ^ 64) xs (fun x hx => by have := in_u64 (hp x hx); exact ⟨this.1, by omega⟩)
  obtain ⟨n, rfl⟩ : ∃ n : Nat, ask = n := ⟨ask.toNat, by omega⟩
  exact letsLaw_calls h hm n (by omega)
end Go.Proofs.Ytgiipmdndfcgnaa.Lets
