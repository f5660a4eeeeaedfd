/- The law QueuePlays answers true for every two rooms and every list of acts. -/
import Derived.Test.YtgiipmdndfcgnaaQueueRef
namespace Go.Proofs.Ytgiipmdndfcgnaa.Queue
open Go.Conc Go.RowKit Go.Eng Go.Proofs
set_option linter.unusedVariables false

/-- What the two pairs of queues hold. -/
def plays (y c2 b2 x c b : Nat) (R2 R : Nat) (z2 z : Value) (q2 q : List (List UInt8)) (v : Value) (l : List (Int × List UInt8)) : List Eng.Item :=
  [.blk y [.int .i64 (R2 : Int), z2] 72, .row z2 9 1 q2.length (strs q2), .blk b2 [.chan (some c2)] 78, .obj c2 (isChan R2 q2), .blk x [.int .i64 (R : Int), z] 72, .row z 9 1 q.length (strs q), .blk b [.chan (some c)] 78, .obj c (isChan R q), .dat (dSl tAct v l)]

theorem new_ownR {ok : Nat → Prop} {w0 w : World} {L : List Eng.Item} (H : Own ok w0 w L) (n : Int) (R : Nat) (hn : n = (R : Int)) (h1 : 1 ≤ R) (h2 : R ≤ 1000) :
    Calls Try.prog 14 #[.int .i64 n] w fun e w' => ∃ v, e = .returned v ∧ (∃ b c, v = .tuple #[.pointer (some ⟨b, 0, none⟩), .int .i64 0] ∧ Own ok w0 w' (.blk b [.chan (some c)] 78 :: .obj c (isChan R []) :: L)) := by
  subst hn; exact new_own H (R : Int) (by omega) (by omega)
theorem rnew_ownR {ok : Nat → Prop} {w0 w : World} {L : List Eng.Item} (H : Own ok w0 w L) (n : Int) (R : Nat) (hn : n = (R : Int)) (h1 : 1 ≤ R) (h2 : R ≤ 1000) :
    Calls Try.prog 32 #[.int .i64 n] w fun e w' => ∃ v, e = .returned v ∧ (∃ b, v = .tuple #[.pointer (some ⟨b, 0, none⟩), .int .i64 0] ∧ Own ok w0 w' (.blk b [.int .i64 (R : Int), .slice none 0 0] 72 :: .row (.slice none 0 0) 9 1 0 [] :: L)) := by
  subst hn; exact rnew_own H R (by omega) (by omega)

set_option maxHeartbeats 4000000 in
theorem playsLaw_calls {ok : Nat → Prop} {w : World} (room other : Int) (ho0 : -9223372036854775808 ≤ other) (ho1 : other ≤ 9223372036854775807) {v : Value} {l : List (Int × List UInt8)} (hv : slR tAct w ok v l) :
    Calls Try.prog 11 #[.int .i64 room, .int .i64 other, v] w fun e w' => ∃ r, e = .returned r ∧ (r = .bool true ∧ Below w.heap.size w w') := by
  have H : Own ok w w [.dat (dSl tAct v l)] := Own.start (ds := [dSl tAct v l]) (by
    intro d hd
    rw [List.mem_singleton] at hd; subst hd; exact hv)
  obtain ⟨A, cA, hA, hcA⟩ := H.sl 0 rfl
  subst hA
  refine enter (args := [.int .i64 room, .int .i64 other, .slice A l.length cA]) Try.func11 rfl Try.ntmps11 rfl rfl ?_
  try refine nc ?_
  refine call_rule (by kernel_rfl) (shown_calls w) fun r w1 ⟨hr, hb⟩ => ?_
  subst hr
  replace H := H.call hb
  try refine nc ?_
  try refine nc ?_
  refine cond_of (fun hc => ?_) (fun hc => ?_)
  · try refine nc ?_
    try refine nc ?_
    refine ret_of [.bool true] ⟨rfl, trivial⟩ ⟨_, rfl, rfl, H.below⟩
  have hl : l.length ≤ 80 := by
    have : decide ((l.length : Int) > 80) = false := hc
    have := of_decide_eq_false this
    omega
  try refine nc ?_
  have hp := pickN_range other 5 (by omega)
  obtain ⟨R2, hR2⟩ : ∃ R2 : Nat, (R2 : Int) = 1 + pickN other 5 := ⟨(1 + pickN other 5).toNat, by omega⟩
  have hw5 : IntKind.i64.wrap (1 + pickN other 5) = (R2 : Int) := by rw [i64_id (by omega) (by omega), hR2]
  by_cases hroom : 1 ≤ room ∧ room ≤ 1000
  rotate_left
  · refine call_rule (by kernel_rfl) (new_bad room (by omega) _) fun r w2 ⟨hr, hb⟩ => ?_
    subst hr
    replace H := H.call hb
    try refine nc ?_
    refine call_rule (by kernel_rfl) (rnew_bad room (by omega) _) fun r w3 ⟨hr, hb⟩ => ?_
    subst hr
    replace H := H.call hb
    try refine nc ?_
    refine call_rule (by kernel_rfl) (pick_calls other 5 (by omega) ho0 ho1 _) fun r w4 ⟨hr, hb⟩ => ?_
    replace H := H.call hb
    subst hr
    refine call_rule (by kernel_rfl) (new_ownR H _ R2 hw5 (by omega) (by omega)) fun r w5 ⟨b, c, hr, H⟩ => ?_
    subst hr
    try refine nc ?_
    refine call_rule (by kernel_rfl) (pick_calls other 5 (by omega) ho0 ho1 _) fun r w6 ⟨hr, hb⟩ => ?_
    replace H := H.call hb
    subst hr
    refine call_rule (by kernel_rfl) (rnew_ownR H _ R2 hw5 (by omega) (by omega)) fun r w7 ⟨b', hr, H⟩ => ?_
    subst hr
    try refine nc ?_
    refine eqlNil_rule (by kernel_rfl) ?_
    refine eqlNil_rule (by kernel_rfl) ?_
    refine eqlNil_rule (by kernel_rfl) ?_
    refine eqlNil_rule (by kernel_rfl) ?_
    try refine nc ?_
    refine cond_no rfl ?_
    try refine nc ?_
    try refine nc ?_
    refine loop_rule (fun k e w' => e = [(2, .slice A l.length cA), (8, .pointer none), (16, .int .i64 0)] ∧ Below w.heap.size w w') 1 [(2, .slice A l.length cA), (8, .pointer none), (16, .int .i64 0)] ⟨rfl, rfl, rfl, trivial⟩ ⟨rfl, H.below⟩ ?_
    intro k e w' ⟨he, hb⟩
    subst he
    try refine nc ?_
    try refine nc ?_
    refine neqNil_rule (by kernel_rfl) ?_
    try refine nc ?_
    refine cond_no (by
      show (bif decide ((0 : Int) < (l.length : Int)) then false else false) = false
      cases decide ((0 : Int) < (l.length : Int)) <;> rfl) ?_
    try refine nc ?_
    try refine nc ?_
    refine ret_of [.bool true] ⟨rfl, trivial⟩ ⟨_, rfl, rfl, hb⟩
  obtain ⟨R, hR⟩ : ∃ R : Nat, (R : Int) = room := ⟨room.toNat, by omega⟩
  refine call_rule (by kernel_rfl) (new_ownR H _ R hR.symm (by omega) (by omega)) fun r w2 ⟨b, c, hr, H⟩ => ?_
  subst hr
  try refine nc ?_
  refine call_rule (by kernel_rfl) (rnew_ownR H _ R hR.symm (by omega) (by omega)) fun r w3 ⟨x, hr, H⟩ => ?_
  subst hr
  try refine nc ?_
  refine call_rule (by kernel_rfl) (pick_calls other 5 (by omega) ho0 ho1 _) fun r w4 ⟨hr, hb⟩ => ?_
  replace H := H.call hb
  subst hr
  refine call_rule (by kernel_rfl) (new_ownR H _ R2 hw5 (by omega) (by omega)) fun r w5 ⟨b2, c2, hr, H⟩ => ?_
  subst hr
  try refine nc ?_
  refine call_rule (by kernel_rfl) (pick_calls other 5 (by omega) ho0 ho1 _) fun r w6 ⟨hr, hb⟩ => ?_
  replace H := H.call hb
  subst hr
  refine call_rule (by kernel_rfl) (rnew_ownR H _ R2 hw5 (by omega) (by omega)) fun r w7 ⟨y, hr, H⟩ => ?_
  subst hr
  replace H : Own ok w w7 (plays y c2 b2 x c b R2 R (.slice none 0 0) (.slice none 0 0) [] [] (.slice A l.length cA) l) := H
  try refine nc ?_
  refine eqlNil_rule (by kernel_rfl) ?_
  refine eqlNil_rule (by kernel_rfl) ?_
  refine eqlNil_rule (by kernel_rfl) ?_
  refine eqlNil_rule (by kernel_rfl) ?_
  try refine nc ?_
  refine cond_no rfl ?_
  try refine nc ?_
  try refine nc ?_
  refine loop_rule (fun k e w' => ∃ (i : Nat) (A : Option Addr) (z2 z : Value) (q2 q : List (List UInt8)), i + k = l.length ∧ e = [(2, .slice A l.length cA), (8, .pointer (some ⟨b, 0, none⟩)), (10, .pointer (some ⟨x, 0, none⟩)), (12, .pointer (some ⟨b2, 0, none⟩)), (14, .pointer (some ⟨y, 0, none⟩)), (16, .int .i64 (i : Int))] ∧
    q.length ≤ R ∧ q2.length ≤ R2 ∧ Own ok w w' (plays y c2 b2 x c b R2 R z2 z q2 q (.slice A l.length cA) l)) l.length
    [(2, .slice A l.length cA), (8, .pointer (some ⟨b, 0, none⟩)), (10, .pointer (some ⟨x, 0, none⟩)), (12, .pointer (some ⟨b2, 0, none⟩)), (14, .pointer (some ⟨y, 0, none⟩)), (16, .int .i64 ((0 : Nat) : Int))] ⟨rfl, rfl, rfl, rfl, rfl, rfl, trivial⟩
    ⟨0, A, _, _, [], [], by omega, rfl, Nat.zero_le _, Nat.zero_le _, H⟩ ?_
  intro k e w' ⟨i, A, z2, z, q2, q, hik, he, hq, hq2, H⟩
  subst he
  try refine nc ?_
  try refine nc ?_
  refine neqNil_rule (by kernel_rfl) ?_
  try refine nc ?_
  refine cond_of (fun hc => ?_) (fun hc => ?_)
  rotate_left
  · try refine nc ?_
    try refine nc ?_
    try refine nc ?_
    refine ret_of [.bool true] ⟨rfl, trivial⟩ ⟨_, rfl, rfl, H.below⟩
  have hlt : i < l.length := by
    by_cases h : i < l.length
    · exact h
    · have hc : (bif decide ((i : Int) < (l.length : Int)) then true else false) = true := hc
      rw [decide_eq_false (by omega)] at hc
      cases hc
  try refine nc ?_
  obtain ⟨a, c', cs, hA', hE, H⟩ := H.elem 8 rfl i hlt
  cases hA'
  obtain ⟨hcs, hx0, hx1⟩ := actCells hE
  subst hcs
  refine indexAddr_rule (e := 58) 2 i (by kernel_rfl) (by kernel_rfl) (fun _ => hlt) ?_
  refine own_loadD H 0 rfl 1 (by kernel_rfl) rfl ?_
  refine nc_cut (fun e w' => ∃ (z2 z : Value) (q2 q : List (List UInt8)), e = [(2, .slice (some a) l.length cA), (8, .pointer (some ⟨b, 0, none⟩)), (10, .pointer (some ⟨x, 0, none⟩)), (12, .pointer (some ⟨b2, 0, none⟩)), (14, .pointer (some ⟨y, 0, none⟩)), (16, .int .i64 (i : Int))] ∧
    q.length ≤ R ∧ q2.length ≤ R2 ∧ Own ok w w' (plays y c2 b2 x c b R2 R z2 z q2 q (.slice (some a) l.length cA) l)) ?_ ?_
  · refine nc ?_
    refine indexAddr_rule (e := 58) 2 i (by kernel_rfl) (by kernel_rfl) (fun _ => hlt) ?_
    refine own_loadD H 0 rfl 0 (by kernel_rfl) rfl ?_
    refine call_rule (by kernel_rfl) (pick_calls _ 6 (by omega) hx0 hx1 _) fun r w8 ⟨hr, hb⟩ => ?_
    replace H := (H.call hb).tail.tail
    have hp6 := pickN_range l[i].1 6 (by omega)
    have hcase : pickN l[i].1 6 = 0 ∨ pickN l[i].1 6 = 1 ∨ pickN l[i].1 6 = 2 ∨ pickN l[i].1 6 = 3 ∨ pickN l[i].1 6 = 4 ∨ pickN l[i].1 6 = 5 := by omega
    rcases hcase with h | h | h | h | h | h <;> rw [h] at hr <;> subst hr
    · try refine nc ?_
      try refine nc ?_
      try refine nc ?_
      refine cond_yes rfl ?_
      try refine nc ?_
      try refine nc ?_
      try refine nc ?_
      refine cond_yes rfl ?_
      try refine nc ?_
      try refine nc ?_
      try refine nc ?_
      by_cases hlr : q.length < R
      · refine call_rule (by kernel_rfl) (push_own H 6 7 rfl rfl l[i].2) fun r w9 ⟨hr, H⟩ => ?_
        rw [if_pos hlr] at hr H
        subst hr
        refine call_rule (by kernel_rfl) (rpush_own H 4 5 (by decide) rfl rfl (by omega) l[i].2) fun r w10 ⟨hr, z', H⟩ => ?_
        rw [if_neg (by omega)] at hr H
        subst hr
        try refine nc ?_
        try refine nc ?_
        try refine nc ?_
        refine cond_no rfl ?_
        try refine nc ?_
        try refine nc ?_
        try refine nc ?_
        refine cut_in (e' := [(2, .slice (some a) l.length cA), (8, .pointer (some ⟨b, 0, none⟩)), (10, .pointer (some ⟨x, 0, none⟩)), (12, .pointer (some ⟨b2, 0, none⟩)), (14, .pointer (some ⟨y, 0, none⟩)), (16, .int .i64 (i : Int))]) ⟨rfl, rfl, rfl, rfl, rfl, rfl, trivial⟩ ⟨_, _, _, _, rfl, ?_, ?_, H⟩
        · first | omega | (simp; done) | (simp; omega) | (simp at hq ⊢; done) | (simp at hq ⊢; omega) | (simp at hq2 ⊢; done) | (simp at hq2 ⊢; omega)
        · first | omega | (simp; done) | (simp; omega) | (simp at hq ⊢; done) | (simp at hq ⊢; omega) | (simp at hq2 ⊢; done) | (simp at hq2 ⊢; omega)
      · refine call_rule (by kernel_rfl) (push_own H 6 7 rfl rfl l[i].2) fun r w9 ⟨hr, H⟩ => ?_
        rw [if_neg hlr] at hr H
        subst hr
        refine call_rule (by kernel_rfl) (rpush_own H 4 5 (by decide) rfl rfl (by omega) l[i].2) fun r w10 ⟨hr, z', H⟩ => ?_
        rw [if_pos (by omega)] at hr H
        subst hr
        try refine nc ?_
        try refine nc ?_
        try refine nc ?_
        refine cond_no rfl ?_
        try refine nc ?_
        try refine nc ?_
        try refine nc ?_
        refine cut_in (e' := [(2, .slice (some a) l.length cA), (8, .pointer (some ⟨b, 0, none⟩)), (10, .pointer (some ⟨x, 0, none⟩)), (12, .pointer (some ⟨b2, 0, none⟩)), (14, .pointer (some ⟨y, 0, none⟩)), (16, .int .i64 (i : Int))]) ⟨rfl, rfl, rfl, rfl, rfl, rfl, trivial⟩ ⟨_, _, _, _, rfl, ?_, ?_, H⟩
        · first | omega | (simp; done) | (simp; omega) | (simp at hq ⊢; done) | (simp at hq ⊢; omega) | (simp at hq2 ⊢; done) | (simp at hq2 ⊢; omega)
        · first | omega | (simp; done) | (simp; omega) | (simp at hq ⊢; done) | (simp at hq ⊢; omega) | (simp at hq2 ⊢; done) | (simp at hq2 ⊢; omega)
    · try refine nc ?_
      try refine nc ?_
      try refine nc ?_
      refine cond_no rfl ?_
      try refine nc ?_
      try refine nc ?_
      try refine nc ?_
      refine cond_yes rfl ?_
      try refine nc ?_
      try refine nc ?_
      try refine nc ?_
      by_cases hlr : q.length < R
      · refine call_rule (by kernel_rfl) (push_own H 6 7 rfl rfl l[i].2) fun r w9 ⟨hr, H⟩ => ?_
        rw [if_pos hlr] at hr H
        subst hr
        refine call_rule (by kernel_rfl) (rpush_own H 4 5 (by decide) rfl rfl (by omega) l[i].2) fun r w10 ⟨hr, z', H⟩ => ?_
        rw [if_neg (by omega)] at hr H
        subst hr
        try refine nc ?_
        try refine nc ?_
        try refine nc ?_
        refine cond_no rfl ?_
        try refine nc ?_
        try refine nc ?_
        try refine nc ?_
        refine cut_in (e' := [(2, .slice (some a) l.length cA), (8, .pointer (some ⟨b, 0, none⟩)), (10, .pointer (some ⟨x, 0, none⟩)), (12, .pointer (some ⟨b2, 0, none⟩)), (14, .pointer (some ⟨y, 0, none⟩)), (16, .int .i64 (i : Int))]) ⟨rfl, rfl, rfl, rfl, rfl, rfl, trivial⟩ ⟨_, _, _, _, rfl, ?_, ?_, H⟩
        · first | omega | (simp; done) | (simp; omega) | (simp at hq ⊢; done) | (simp at hq ⊢; omega) | (simp at hq2 ⊢; done) | (simp at hq2 ⊢; omega)
        · first | omega | (simp; done) | (simp; omega) | (simp at hq ⊢; done) | (simp at hq ⊢; omega) | (simp at hq2 ⊢; done) | (simp at hq2 ⊢; omega)
      · refine call_rule (by kernel_rfl) (push_own H 6 7 rfl rfl l[i].2) fun r w9 ⟨hr, H⟩ => ?_
        rw [if_neg hlr] at hr H
        subst hr
        refine call_rule (by kernel_rfl) (rpush_own H 4 5 (by decide) rfl rfl (by omega) l[i].2) fun r w10 ⟨hr, z', H⟩ => ?_
        rw [if_pos (by omega)] at hr H
        subst hr
        try refine nc ?_
        try refine nc ?_
        try refine nc ?_
        refine cond_no rfl ?_
        try refine nc ?_
        try refine nc ?_
        try refine nc ?_
        refine cut_in (e' := [(2, .slice (some a) l.length cA), (8, .pointer (some ⟨b, 0, none⟩)), (10, .pointer (some ⟨x, 0, none⟩)), (12, .pointer (some ⟨b2, 0, none⟩)), (14, .pointer (some ⟨y, 0, none⟩)), (16, .int .i64 (i : Int))]) ⟨rfl, rfl, rfl, rfl, rfl, rfl, trivial⟩ ⟨_, _, _, _, rfl, ?_, ?_, H⟩
        · first | omega | (simp; done) | (simp; omega) | (simp at hq ⊢; done) | (simp at hq ⊢; omega) | (simp at hq2 ⊢; done) | (simp at hq2 ⊢; omega)
        · first | omega | (simp; done) | (simp; omega) | (simp at hq ⊢; done) | (simp at hq ⊢; omega) | (simp at hq2 ⊢; done) | (simp at hq2 ⊢; omega)
    · try refine nc ?_
      try refine nc ?_
      try refine nc ?_
      refine cond_no rfl ?_
      try refine nc ?_
      try refine nc ?_
      try refine nc ?_
      refine cond_no rfl ?_
      try refine nc ?_
      try refine nc ?_
      try refine nc ?_
      refine cond_yes rfl ?_
      try refine nc ?_
      try refine nc ?_
      try refine nc ?_
      by_cases hlr : q2.length < R2
      · refine call_rule (by kernel_rfl) (push_own H 2 3 rfl rfl l[i].2) fun r w9 ⟨hr, H⟩ => ?_
        rw [if_pos hlr] at hr H
        subst hr
        refine call_rule (by kernel_rfl) (rpush_own H 0 1 (by decide) rfl rfl (by omega) l[i].2) fun r w10 ⟨hr, z', H⟩ => ?_
        rw [if_neg (by omega)] at hr H
        subst hr
        try refine nc ?_
        try refine nc ?_
        try refine nc ?_
        refine cond_no rfl ?_
        try refine nc ?_
        try refine nc ?_
        try refine nc ?_
        refine cut_in (e' := [(2, .slice (some a) l.length cA), (8, .pointer (some ⟨b, 0, none⟩)), (10, .pointer (some ⟨x, 0, none⟩)), (12, .pointer (some ⟨b2, 0, none⟩)), (14, .pointer (some ⟨y, 0, none⟩)), (16, .int .i64 (i : Int))]) ⟨rfl, rfl, rfl, rfl, rfl, rfl, trivial⟩ ⟨_, _, _, _, rfl, ?_, ?_, H⟩
        · first | omega | (simp; done) | (simp; omega) | (simp at hq ⊢; done) | (simp at hq ⊢; omega) | (simp at hq2 ⊢; done) | (simp at hq2 ⊢; omega)
        · first | omega | (simp; done) | (simp; omega) | (simp at hq ⊢; done) | (simp at hq ⊢; omega) | (simp at hq2 ⊢; done) | (simp at hq2 ⊢; omega)
      · refine call_rule (by kernel_rfl) (push_own H 2 3 rfl rfl l[i].2) fun r w9 ⟨hr, H⟩ => ?_
        rw [if_neg hlr] at hr H
        subst hr
        refine call_rule (by kernel_rfl) (rpush_own H 0 1 (by decide) rfl rfl (by omega) l[i].2) fun r w10 ⟨hr, z', H⟩ => ?_
        rw [if_pos (by omega)] at hr H
        subst hr
        try refine nc ?_
        try refine nc ?_
        try refine nc ?_
        refine cond_no rfl ?_
        try refine nc ?_
        try refine nc ?_
        try refine nc ?_
        refine cut_in (e' := [(2, .slice (some a) l.length cA), (8, .pointer (some ⟨b, 0, none⟩)), (10, .pointer (some ⟨x, 0, none⟩)), (12, .pointer (some ⟨b2, 0, none⟩)), (14, .pointer (some ⟨y, 0, none⟩)), (16, .int .i64 (i : Int))]) ⟨rfl, rfl, rfl, rfl, rfl, rfl, trivial⟩ ⟨_, _, _, _, rfl, ?_, ?_, H⟩
        · first | omega | (simp; done) | (simp; omega) | (simp at hq ⊢; done) | (simp at hq ⊢; omega) | (simp at hq2 ⊢; done) | (simp at hq2 ⊢; omega)
        · first | omega | (simp; done) | (simp; omega) | (simp at hq ⊢; done) | (simp at hq ⊢; omega) | (simp at hq2 ⊢; done) | (simp at hq2 ⊢; omega)
    · try refine nc ?_
      try refine nc ?_
      try refine nc ?_
      refine cond_no rfl ?_
      try refine nc ?_
      try refine nc ?_
      try refine nc ?_
      refine cond_no rfl ?_
      try refine nc ?_
      try refine nc ?_
      try refine nc ?_
      refine cond_no rfl ?_
      try refine nc ?_
      try refine nc ?_
      try refine nc ?_
      refine cond_yes rfl ?_
      try refine nc ?_
      try refine nc ?_
      try refine nc ?_
      refine call_rule (by kernel_rfl) (pop_own H 6 7 rfl rfl) fun r w9 ⟨hr, H⟩ => ?_
      subst hr
      try refine nc ?_
      try refine nc ?_
      try refine nc ?_
      refine call_rule (by kernel_rfl) (rpop_own H 4 5 (by decide) rfl rfl) fun r w10 ⟨hr, z', H⟩ => ?_
      subst hr
      try refine nc ?_
      try refine nc ?_
      try refine nc ?_
      refine cond_no (by simp) ?_
      try refine nc ?_
      try refine nc ?_
      try refine nc ?_
      refine cut_in (e' := [(2, .slice (some a) l.length cA), (8, .pointer (some ⟨b, 0, none⟩)), (10, .pointer (some ⟨x, 0, none⟩)), (12, .pointer (some ⟨b2, 0, none⟩)), (14, .pointer (some ⟨y, 0, none⟩)), (16, .int .i64 (i : Int))]) ⟨rfl, rfl, rfl, rfl, rfl, rfl, trivial⟩ ⟨_, _, _, _, rfl, ?_, ?_, H⟩
      · first | omega | (simp; done) | (simp; omega) | (simp at hq ⊢; done) | (simp at hq ⊢; omega) | (simp at hq2 ⊢; done) | (simp at hq2 ⊢; omega)
      · first | omega | (simp; done) | (simp; omega) | (simp at hq ⊢; done) | (simp at hq ⊢; omega) | (simp at hq2 ⊢; done) | (simp at hq2 ⊢; omega)
    · try refine nc ?_
      try refine nc ?_
      try refine nc ?_
      refine cond_no rfl ?_
      try refine nc ?_
      try refine nc ?_
      try refine nc ?_
      refine cond_no rfl ?_
      try refine nc ?_
      try refine nc ?_
      try refine nc ?_
      refine cond_no rfl ?_
      try refine nc ?_
      try refine nc ?_
      try refine nc ?_
      refine cond_no rfl ?_
      try refine nc ?_
      try refine nc ?_
      try refine nc ?_
      refine call_rule (by kernel_rfl) (either_own H 6 7 2 3 rfl rfl rfl rfl (by omega)) fun r w9 ⟨hr, H⟩ => ?_
      cases q with
      | cons t q =>
        rw [if_pos (by simp)] at hr H
        subst hr
        try refine nc ?_
        try refine nc ?_
        try refine nc ?_
        refine call_rule (by kernel_rfl) (reither_own (T := [.blk b [.chan (some c)] 78, .obj c (isChan R q), .dat (dSl tAct (.slice (some a) l.length cA) l)]) H) fun r w10 ⟨hr, z', z2', H⟩ => ?_
        rw [if_pos (by simp)] at hr H
        subst hr
        try refine nc ?_
        try refine nc ?_
        try refine nc ?_
        refine cond_no (by simp) ?_
        try refine nc ?_
        try refine nc ?_
        try refine nc ?_
        refine cut_in (e' := [(2, .slice (some a) l.length cA), (8, .pointer (some ⟨b, 0, none⟩)), (10, .pointer (some ⟨x, 0, none⟩)), (12, .pointer (some ⟨b2, 0, none⟩)), (14, .pointer (some ⟨y, 0, none⟩)), (16, .int .i64 (i : Int))]) ⟨rfl, rfl, rfl, rfl, rfl, rfl, trivial⟩ ⟨_, _, _, _, rfl, ?_, ?_, H⟩
        · first | omega | (simp; done) | (simp; omega) | (simp at hq ⊢; done) | (simp at hq ⊢; omega) | (simp at hq2 ⊢; done) | (simp at hq2 ⊢; omega)
        · first | omega | (simp; done) | (simp; omega) | (simp at hq ⊢; done) | (simp at hq ⊢; omega) | (simp at hq2 ⊢; done) | (simp at hq2 ⊢; omega)
      | nil =>
        rw [if_neg (by simp)] at hr H
        cases q2 with
        | cons t q2 =>
          have hr : r = .tuple #[.string (bs t), .int .i64 2] := hr
          subst hr
          try refine nc ?_
          try refine nc ?_
          try refine nc ?_
          refine call_rule (by kernel_rfl) (reither_own (T := [.blk b [.chan (some c)] 78, .obj c (isChan R []), .dat (dSl tAct (.slice (some a) l.length cA) l)]) H) fun r w10 ⟨hr, z', z2', H⟩ => ?_
          have hr : r = .tuple #[.string (bs t), .int .i64 2] := hr
          subst hr
          try refine nc ?_
          try refine nc ?_
          try refine nc ?_
          refine cond_no (by simp) ?_
          try refine nc ?_
          try refine nc ?_
          try refine nc ?_
          refine cut_in (e' := [(2, .slice (some a) l.length cA), (8, .pointer (some ⟨b, 0, none⟩)), (10, .pointer (some ⟨x, 0, none⟩)), (12, .pointer (some ⟨b2, 0, none⟩)), (14, .pointer (some ⟨y, 0, none⟩)), (16, .int .i64 (i : Int))]) ⟨rfl, rfl, rfl, rfl, rfl, rfl, trivial⟩ ⟨_, _, _, _, rfl, ?_, ?_, H⟩
          · first | omega | (simp; done) | (simp; omega) | (simp at hq ⊢; done) | (simp at hq ⊢; omega) | (simp at hq2 ⊢; done) | (simp at hq2 ⊢; omega)
          · first | omega | (simp; done) | (simp; omega) | (simp at hq ⊢; done) | (simp at hq ⊢; omega) | (simp at hq2 ⊢; done) | (simp at hq2 ⊢; omega)
        | nil =>
          have hr : r = .tuple #[.string (bs []), .int .i64 0] := hr
          subst hr
          try refine nc ?_
          try refine nc ?_
          try refine nc ?_
          refine call_rule (by kernel_rfl) (reither_own (T := [.blk b [.chan (some c)] 78, .obj c (isChan R []), .dat (dSl tAct (.slice (some a) l.length cA) l)]) H) fun r w10 ⟨hr, z', z2', H⟩ => ?_
          have hr : r = .tuple #[.string (bs []), .int .i64 0] := hr
          subst hr
          try refine nc ?_
          try refine nc ?_
          try refine nc ?_
          refine cond_no (by simp) ?_
          try refine nc ?_
          try refine nc ?_
          try refine nc ?_
          refine cut_in (e' := [(2, .slice (some a) l.length cA), (8, .pointer (some ⟨b, 0, none⟩)), (10, .pointer (some ⟨x, 0, none⟩)), (12, .pointer (some ⟨b2, 0, none⟩)), (14, .pointer (some ⟨y, 0, none⟩)), (16, .int .i64 (i : Int))]) ⟨rfl, rfl, rfl, rfl, rfl, rfl, trivial⟩ ⟨_, _, _, _, rfl, ?_, ?_, H⟩
          · first | omega | (simp; done) | (simp; omega) | (simp at hq ⊢; done) | (simp at hq ⊢; omega) | (simp at hq2 ⊢; done) | (simp at hq2 ⊢; omega)
          · first | omega | (simp; done) | (simp; omega) | (simp at hq ⊢; done) | (simp at hq ⊢; omega) | (simp at hq2 ⊢; done) | (simp at hq2 ⊢; omega)
    · try refine nc ?_
      try refine nc ?_
      try refine nc ?_
      refine cond_no rfl ?_
      try refine nc ?_
      try refine nc ?_
      try refine nc ?_
      refine cond_no rfl ?_
      try refine nc ?_
      try refine nc ?_
      try refine nc ?_
      refine cond_no rfl ?_
      try refine nc ?_
      try refine nc ?_
      try refine nc ?_
      refine cond_no rfl ?_
      try refine nc ?_
      try refine nc ?_
      try refine nc ?_
      refine call_rule (by kernel_rfl) (either_own H 6 7 2 3 rfl rfl rfl rfl (by omega)) fun r w9 ⟨hr, H⟩ => ?_
      cases q with
      | cons t q =>
        rw [if_pos (by simp)] at hr H
        subst hr
        try refine nc ?_
        try refine nc ?_
        try refine nc ?_
        refine call_rule (by kernel_rfl) (reither_own (T := [.blk b [.chan (some c)] 78, .obj c (isChan R q), .dat (dSl tAct (.slice (some a) l.length cA) l)]) H) fun r w10 ⟨hr, z', z2', H⟩ => ?_
        rw [if_pos (by simp)] at hr H
        subst hr
        try refine nc ?_
        try refine nc ?_
        try refine nc ?_
        refine cond_no (by simp) ?_
        try refine nc ?_
        try refine nc ?_
        try refine nc ?_
        refine cut_in (e' := [(2, .slice (some a) l.length cA), (8, .pointer (some ⟨b, 0, none⟩)), (10, .pointer (some ⟨x, 0, none⟩)), (12, .pointer (some ⟨b2, 0, none⟩)), (14, .pointer (some ⟨y, 0, none⟩)), (16, .int .i64 (i : Int))]) ⟨rfl, rfl, rfl, rfl, rfl, rfl, trivial⟩ ⟨_, _, _, _, rfl, ?_, ?_, H⟩
        · first | omega | (simp; done) | (simp; omega) | (simp at hq ⊢; done) | (simp at hq ⊢; omega) | (simp at hq2 ⊢; done) | (simp at hq2 ⊢; omega)
        · first | omega | (simp; done) | (simp; omega) | (simp at hq ⊢; done) | (simp at hq ⊢; omega) | (simp at hq2 ⊢; done) | (simp at hq2 ⊢; omega)
      | nil =>
        rw [if_neg (by simp)] at hr H
        cases q2 with
        | cons t q2 =>
          have hr : r = .tuple #[.string (bs t), .int .i64 2] := hr
          subst hr
          try refine nc ?_
          try refine nc ?_
          try refine nc ?_
          refine call_rule (by kernel_rfl) (reither_own (T := [.blk b [.chan (some c)] 78, .obj c (isChan R []), .dat (dSl tAct (.slice (some a) l.length cA) l)]) H) fun r w10 ⟨hr, z', z2', H⟩ => ?_
          have hr : r = .tuple #[.string (bs t), .int .i64 2] := hr
          subst hr
          try refine nc ?_
          try refine nc ?_
          try refine nc ?_
          refine cond_no (by simp) ?_
          try refine nc ?_
          try refine nc ?_
          try refine nc ?_
          refine cut_in (e' := [(2, .slice (some a) l.length cA), (8, .pointer (some ⟨b, 0, none⟩)), (10, .pointer (some ⟨x, 0, none⟩)), (12, .pointer (some ⟨b2, 0, none⟩)), (14, .pointer (some ⟨y, 0, none⟩)), (16, .int .i64 (i : Int))]) ⟨rfl, rfl, rfl, rfl, rfl, rfl, trivial⟩ ⟨_, _, _, _, rfl, ?_, ?_, H⟩
          · first | omega | (simp; done) | (simp; omega) | (simp at hq ⊢; done) | (simp at hq ⊢; omega) | (simp at hq2 ⊢; done) | (simp at hq2 ⊢; omega)
          · first | omega | (simp; done) | (simp; omega) | (simp at hq ⊢; done) | (simp at hq ⊢; omega) | (simp at hq2 ⊢; done) | (simp at hq2 ⊢; omega)
        | nil =>
          have hr : r = .tuple #[.string (bs []), .int .i64 0] := hr
          subst hr
          try refine nc ?_
          try refine nc ?_
          try refine nc ?_
          refine call_rule (by kernel_rfl) (reither_own (T := [.blk b [.chan (some c)] 78, .obj c (isChan R []), .dat (dSl tAct (.slice (some a) l.length cA) l)]) H) fun r w10 ⟨hr, z', z2', H⟩ => ?_
          have hr : r = .tuple #[.string (bs []), .int .i64 0] := hr
          subst hr
          try refine nc ?_
          try refine nc ?_
          try refine nc ?_
          refine cond_no (by simp) ?_
          try refine nc ?_
          try refine nc ?_
          try refine nc ?_
          refine cut_in (e' := [(2, .slice (some a) l.length cA), (8, .pointer (some ⟨b, 0, none⟩)), (10, .pointer (some ⟨x, 0, none⟩)), (12, .pointer (some ⟨b2, 0, none⟩)), (14, .pointer (some ⟨y, 0, none⟩)), (16, .int .i64 (i : Int))]) ⟨rfl, rfl, rfl, rfl, rfl, rfl, trivial⟩ ⟨_, _, _, _, rfl, ?_, ?_, H⟩
          · first | omega | (simp; done) | (simp; omega) | (simp at hq ⊢; done) | (simp at hq ⊢; omega) | (simp at hq2 ⊢; done) | (simp at hq2 ⊢; omega)
          · first | omega | (simp; done) | (simp; omega) | (simp at hq ⊢; done) | (simp at hq ⊢; omega) | (simp at hq2 ⊢; done) | (simp at hq2 ⊢; omega)
  · intro e w8 ⟨z2, z, q2, q, he, hq, hq2, H⟩
    subst he
    obtain ⟨D, cD, hz, _, _⟩ := H.rowSl 5 rfl
    subst hz
    obtain ⟨D2, cD2, hz, _, _⟩ := H.rowSl 1 rfl
    subst hz
    try refine nc ?_
    refine draw_rule [] (by kernel_rfl) (by kernel_rfl) H ?_
    have hlen : ∀ (L : List Eng.Item) (i j : Nat) (b c R : Nat) (q : List (List UInt8)), L[i]? = some (.blk b [.chan (some c)] 78) → L[j]? = some (.obj c (isChan R q)) → ∀ w1, Own ok w w1 L → Calls Try.prog 18 #[.pointer (some ⟨b, 0, none⟩)] w1 fun e w' => ∃ u, e = .returned u ∧ ∃ L', (u = .int .i64 q.length ∧ L' = L) ∧ Own ok w w' L' :=
      fun L i j b c R q hi hj w1 H => (len_own H i j hi hj).mono fun e w' ⟨v, he, hv, h⟩ => ⟨v, he, _, ⟨hv, rfl⟩, h⟩
    have hrest : ∀ (L : List Eng.Item) (i j : Nat) (b c R : Nat) (q : List (List UInt8)), q.length ≤ R → R ≤ 1000 → L[i]? = some (.blk b [.chan (some c)] 78) → L[j]? = some (.obj c (isChan R q)) → ∀ w1, Own ok w w1 L → Calls Try.prog 31 #[.pointer (some ⟨b, 0, none⟩)] w1 fun e w' => ∃ u, e = .returned u ∧ ∃ L', (L' = .row u 29 1 q.length (strs q) :: L) ∧ Own ok w w' L' :=
      fun L i j b c R q hq hR hi hj w1 H => (rest_own H i j hi hj hq (by omega)).mono fun e w' ⟨v, he, h⟩ => ⟨v, he, _, rfl, h⟩
    refine c_callOwn (fun v L' => v = .int .i64 q.length ∧ L' = _) rfl (by kernel_rfl) (fun v L' h => by rw [h.2]; exact List.Sublist.refl _) (hlen _ 6 7 b c R q rfl rfl) fun v L' ⟨hv, hL⟩ => ?_
    subst hv hL
    refine c_load 4 rfl (by kernel_rfl) (j := 1) rfl ?_
    refine c_callOwn (fun v L' => v = .int .i64 q2.length ∧ L' = _) (by show ((!_) && true) = true; simp) (by kernel_rfl) (fun v L' h => by rw [h.2]; exact List.Sublist.refl _) (hlen _ 2 3 b2 c2 R2 q2 rfl rfl) fun v L' ⟨hv, hL⟩ => ?_
    subst hv hL
    refine c_load 0 rfl (by kernel_rfl) (j := 1) rfl ?_
    refine c_callOwn (fun v L' => L' = .row v 29 1 q.length (strs q) :: _) (by show ((!_) && true) = true; simp) (by kernel_rfl) (fun v L' h => by rw [h]; exact List.sublist_cons_self _ _) (hrest _ 6 7 b c R q hq (by omega) rfl rfl) fun v1 L' hL => ?_
    subst hL
    refine c_load 4 rfl (by kernel_rfl) (j := 1) rfl ?_
    refine c_call (.bool true) (by kernel_rfl) (fun _ w1 H1 => ?_) ?_
    · refine (same_calls (H1.rowSlR 0 rfl (rows_strs (w := w1) (ok := fun _ => True) q)) (H1.rowSlR 6 rfl (rows_strs (w := w1) (ok := fun _ => True) q)) (by omega)).mono fun e w' ⟨v, he, hv, hb⟩ => ⟨v, he, ?_, hb⟩
      rw [hv, decide_eq_true rfl]
    refine c_callOwn (fun v L' => L' = .row v 29 1 q2.length (strs q2) :: _) (by show ((!_) && true) = true; simp) (by kernel_rfl) (fun v L' h => by rw [h]; exact List.sublist_cons_self _ _) (hrest _ 3 4 b2 c2 R2 q2 hq2 (by omega) rfl rfl) fun v2 L' hL => ?_
    subst hL
    refine c_load 0 rfl (by kernel_rfl) (j := 1) rfl ?_
    refine c_call (.bool true) (by kernel_rfl) (fun _ w1 H1 => ?_) ?_
    · refine (same_calls (H1.rowSlR 0 rfl (rows_strs (w := w1) (ok := fun _ => True) q2)) (H1.rowSlR 3 rfl (rows_strs (w := w1) (ok := fun _ => True) q2)) (by omega)).mono fun e w' ⟨v, he, hv, hb⟩ => ⟨v, he, ?_, hb⟩
      rw [hv, decide_eq_true rfl]
    refine fun w9 H => ?_
    replace H : Own ok w w9 (.row v2 29 1 q2.length (strs q2) :: .row v1 29 1 q.length (strs q) :: plays y c2 b2 x c b R2 R (.slice D2 q2.length cD2) (.slice D q.length cD) q2 q (.slice (some a) l.length cA) l) := H
    try refine nc ?_
    try refine nc ?_
    refine cond_no (by simp) ?_
    try refine nc ?_
    try refine nc ?_
    refine again_in (k - 1) (by omega) [(2, .slice (some a) l.length cA), (8, .pointer (some ⟨b, 0, none⟩)), (10, .pointer (some ⟨x, 0, none⟩)), (12, .pointer (some ⟨b2, 0, none⟩)), (14, .pointer (some ⟨y, 0, none⟩)), (16, .int .i64 ((i + 1 : Nat) : Int))] ⟨rfl, rfl, rfl, rfl, rfl, ?_, trivial⟩
      ⟨i + 1, some a, _, _, q2, q, by omega, rfl, hq, hq2, H.tail.tail⟩
    show some (Value.int .i64 (IntKind.i64.wrap ((i : Int) + 1))) = _
    rw [i64_id (by omega) (by omega)]; rfl
end Go.Proofs.Ytgiipmdndfcgnaa.Queue
