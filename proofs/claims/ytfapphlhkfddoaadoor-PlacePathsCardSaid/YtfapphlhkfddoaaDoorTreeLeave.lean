/- One leaves a tree. -/
import Derived.Test.YtfapphlhkfddoaaDoorTreeJoin
namespace Go.Proofs.YtfapphlhkfddoaaDoor.G
open Go.RowKit Go.Eng Go.Proofs Go.Proofs.YtfapphlhkfddoaaDoor.Cut
set_option linter.unusedVariables false
set_option maxRecDepth 20000
variable {ok : Nat → Prop} {w0 w : World} {L R : List Eng.Item}

/-- The number that stands in a node. -/
def topT : Tr → Int
  | .leaf q => q
  | .two _ _ => 0
def outT : Tr → Int → Tr
  | .leaf q, _ => .leaf q
  | .two l r, p => if topT l = p then r else if topT r = p then l else .two (outT l p) (outT r p)
def rootAt (b : Nat) : TrA → TrA
  | .leaf _ p => .leaf b p
  | .two _ l r => .two b l r
def outA : TrA → Int → TrA
  | .leaf b q, _ => .leaf b q
  | .two b l r, p => if topT l.tr = p then rootAt b r else if topT r.tr = p then rootAt b l else .two b (outA l p) (outA r p)
theorem rootAt_tr (b : Nat) (A : TrA) : (rootAt b A).tr = A.tr ∧ (rootAt b A).root = b := by cases A <;> exact ⟨rfl, rfl⟩
theorem outA_tr : ∀ (A : TrA) (p : Int), (outA A p).tr = outT A.tr p ∧ (outA A p).root = A.root := by
  intro A p
  induction A with
  | leaf b q => exact ⟨rfl, rfl⟩
  | two b l r ihl ihr =>
    show (outA (.two b l r) p).tr = outT (.two l.tr r.tr) p ∧ _
    unfold outA outT
    split
    · exact rootAt_tr b r
    · split
      · exact rootAt_tr b l
      · refine ⟨?_, rfl⟩
        show Tr.two (outA l p).tr (outA r p).tr = _
        rw [ihl.1, ihr.1]
theorem TrA.shape (A : TrA) : ∃ c1 c2 rest, A.top = .blk A.root [.int .i64 (topT A.tr), c1, c2] 59 ∧ A.items = .blk A.root [.int .i64 (topT A.tr), c1, c2] 59 :: rest ∧ (∀ b, (rootAt b A).items = .blk b [.int .i64 (topT A.tr), c1, c2] 59 :: rest) ∧ oneV c1 = true ∧ oneV c2 = true := by
  cases A with
  | leaf b q => exact ⟨_, _, [], rfl, rfl, fun b => rfl, rfl, rfl⟩
  | two b l r => exact ⟨_, _, l.items ++ r.items, rfl, rfl, fun b => rfl, rfl, rfl⟩
def doL (cp : Nat) : Value := .func (.func 38) #[] #[.pointer (some ⟨cp, 0, none⟩)]
def leaveL (cp c3 c4 : Nat) (p : Int) (R : List Eng.Item) : List Eng.Item :=
  .blk cp [.int .i64 p] 3 :: .blk c3 [doL cp] 57 :: .blk c4 [walkV c3 c4] 72 :: R
/-- Is one of the two below a node the process's leaf? -/
def hitA : TrA → Int → Bool
  | .leaf _ _, _ => false
  | .two _ l r, p => decide (topT l.tr = p) || decide (topT r.tr = p)
def stepA : TrA → Int → TrA
  | .leaf b q, _ => .leaf b q
  | .two b l r, p => if topT l.tr = p then rootAt b r else if topT r.tr = p then rootAt b l else .two b l r
theorem stepA_two (b : Nat) (l r : TrA) (p : Int) : stepA (.two b l r) p = if topT l.tr = p then rootAt b r else if topT r.tr = p then rootAt b l else .two b l r := rfl
theorem hitA_two (b : Nat) (l r : TrA) (p : Int) : hitA (.two b l r) p = (decide (topT l.tr = p) || decide (topT r.tr = p)) := rfl
theorem outA_two (b : Nat) (l r : TrA) (p : Int) : outA (.two b l r) p = if topT l.tr = p then rootAt b r else if topT r.tr = p then rootAt b l else .two b (outA l p) (outA r p) := rfl
set_option maxHeartbeats 4000000 in
theorem leave1_own {A : TrA} {cp c3 c4 : Nat} {p : Int} (H : Eng.Own ok w0 w (leaveL cp c3 c4 p (A.items ++ R))) :
    Calls Tryd.prog 38 #[A.ptr, .pointer (some ⟨cp, 0, none⟩)] w fun e w' => ∃ u, e = .returned u ∧ (u = .bool (!(hitA A p)) ∧ Eng.Own ok w0 w' (leaveL cp c3 c4 p ((stepA A p).items ++ R))) := by
  refine enterN (args := [A.ptr, .pointer (some ⟨cp, 0, none⟩)]) Tryd.func38 rfl Tryd.ntmps38 rfl rfl ?_
  refine Eng.nc_seq ?_
  refine nc ?_
  cases A with
  | leaf b q =>
    refine Eng.nc_seq ?_
    refine Eng.nc_block ?_
    refine Eng.nc_seq ?_
    refine nc ?_
    refine own_load H 3 rfl (by kernel_rfl) (j := 1) (v := .pointer none) rfl ?_
    refine eqlNil_rule (by kernel_rfl) ?_
    refine Eng.nc_cond (b := true) rfl (fun hc => ?_) (fun hc => ?_)
    · refine nc ?_
      refine Eng.nc_seq ?_
      refine nc ?_
      refine nc ?_
      exact ret_inA [.bool true] ⟨_, rfl, rfl, H⟩
    · cases hc
  | two b l r =>
    obtain ⟨l1, l2, lrest, lt, li, lat, lo1, lo2⟩ := TrA.shape l
    obtain ⟨r1, r2, rrest, rt, ri, rat, ro1, ro2⟩ := TrA.shape r
    have hlm : l.top ∈ leaveL cp c3 c4 p ((TrA.two b l r).items ++ R) := in3 (fun it h => h) _ (List.mem_append_left _ (List.mem_cons_of_mem _ (List.mem_append_left _ (TrA.top_mem l))))
    have hrm : r.top ∈ leaveL cp c3 c4 p ((TrA.two b l r).items ++ R) := in3 (fun it h => h) _ (List.mem_append_left _ (List.mem_cons_of_mem _ (List.mem_append_right _ (TrA.top_mem r))))
    obtain ⟨i, hi⟩ := at_mem hlm
    obtain ⟨j, hj⟩ := at_mem hrm
    rw [lt] at hi
    rw [rt] at hj
    have hsub : ∀ (q : TrA) (cs : List Value) (rest : List Eng.Item), rest.Sublist (l.items ++ r.items) → ∀ {w'}, Eng.Own ok w0 w' ((leaveL cp c3 c4 p ((TrA.two b l r).items ++ R)).set 3 (.blk b cs 59)) → Eng.Own ok w0 w' (leaveL cp c3 c4 p ((.blk b cs 59 :: rest) ++ R)) := by
      intro q cs rest hs w' H'
      exact H'.less (List.Sublist.cons_cons _ (List.Sublist.cons_cons _ (List.Sublist.cons_cons _ (List.Sublist.cons_cons _ (List.Sublist.append_right hs R)))))
    by_cases h1 : topT l.tr = p
    · have hstep : stepA (.two b l r) p = rootAt b r := by rw [stepA_two, if_pos h1]
      have hhit : hitA (.two b l r) p = true := by rw [hitA_two, decide_eq_true h1]; rfl
      rw [hstep, hhit, rat b]
      refine Eng.nc_seq ?_
      refine Eng.nc_block ?_
      refine Eng.nc_seq ?_
      refine nc ?_
      refine own_load H 3 rfl (by kernel_rfl) (j := 1) (v := .pointer (some ⟨l.root, 0, none⟩)) rfl ?_
      refine eqlNil_rule (by kernel_rfl) ?_
      refine Eng.nc_cond (b := false) rfl (fun hc => ?_) (fun hc => ?_)
      · cases hc
      refine Eng.nc_seq ?_
      refine nc ?_
      refine draw_rule [] (by kernel_rfl) (by kernel_rfl) H ?_
      refine c_load 3 rfl (by kernel_rfl) (j := 1) (v := .pointer (some ⟨l.root, 0, none⟩)) rfl ?_
      refine c_load i hi (by kernel_rfl) (j := 0) (v := .int .i64 (topT l.tr)) rfl ?_
      refine c_load 0 rfl (by kernel_rfl) (j := 0) (v := .int .i64 p) rfl ?_
      intro w1 H
      refine Eng.nc_cond (b := (topT l.tr == p)) rfl (fun hc => ?_) (fun hc => ?_)
      · refine Eng.nc_seq ?_
        refine nc ?_
        refine own_load H 3 rfl (by kernel_rfl) (j := 2) (v := .pointer (some ⟨r.root, 0, none⟩)) rfl ?_
        refine own_loadA (m := 3) H j hj (by kernel_rfl) (by kernel_rfl) [.int .i64 (topT r.tr), r1, r2] rfl rfl ?_
        refine own_storeB (m := 3) H 3 rfl (by kernel_rfl) [.int .i64 (topT r.tr), r1, r2] rfl rfl (by simp [allOne, ro1, ro2]; rfl) rfl fun w2 H => ?_
        refine Eng.nc_seq ?_
        refine nc ?_
        refine nc ?_
        refine ret_inA [.bool false] ⟨_, rfl, rfl, hsub r _ _ ?_ H⟩
        rw [ri]
        exact (List.sublist_cons_self _ _).trans (List.sublist_append_right _ _)
      · rw [beq_eq_false_iff_ne] at hc; exact absurd h1 hc
    · refine Eng.nc_seq ?_
      refine Eng.nc_block ?_
      refine Eng.nc_seq ?_
      refine nc ?_
      refine own_load H 3 rfl (by kernel_rfl) (j := 1) (v := .pointer (some ⟨l.root, 0, none⟩)) rfl ?_
      refine eqlNil_rule (by kernel_rfl) ?_
      refine Eng.nc_cond (b := false) rfl (fun hc => ?_) (fun hc => ?_)
      · cases hc
      refine Eng.nc_seq ?_
      refine nc ?_
      refine draw_rule [] (by kernel_rfl) (by kernel_rfl) H ?_
      refine c_load 3 rfl (by kernel_rfl) (j := 1) (v := .pointer (some ⟨l.root, 0, none⟩)) rfl ?_
      refine c_load i hi (by kernel_rfl) (j := 0) (v := .int .i64 (topT l.tr)) rfl ?_
      refine c_load 0 rfl (by kernel_rfl) (j := 0) (v := .int .i64 p) rfl ?_
      intro w1 H
      refine Eng.nc_cond (b := (topT l.tr == p)) rfl (fun hc => ?_) (fun hc => ?_)
      · exact absurd (beq_iff_eq.1 hc) h1
      refine Eng.nc_seq ?_
      refine nc ?_
      refine draw_rule [] (by kernel_rfl) (by kernel_rfl) H ?_
      refine c_load 3 rfl (by kernel_rfl) (j := 2) (v := .pointer (some ⟨r.root, 0, none⟩)) rfl ?_
      refine c_load j hj (by kernel_rfl) (j := 0) (v := .int .i64 (topT r.tr)) rfl ?_
      refine c_load 0 rfl (by kernel_rfl) (j := 0) (v := .int .i64 p) rfl ?_
      intro w2 H
      by_cases h2 : topT r.tr = p
      · have hstep : stepA (.two b l r) p = rootAt b l := by rw [stepA_two, if_neg h1, if_pos h2]
        have hhit : hitA (.two b l r) p = true := by rw [hitA_two, decide_eq_true h2, Bool.or_true]
        rw [hstep, hhit, lat b]
        refine Eng.nc_cond (b := (topT r.tr == p)) rfl (fun hc => ?_) (fun hc => ?_)
        · refine Eng.nc_seq ?_
          refine nc ?_
          refine own_load H 3 rfl (by kernel_rfl) (j := 1) (v := .pointer (some ⟨l.root, 0, none⟩)) rfl ?_
          refine own_loadA (m := 3) H i hi (by kernel_rfl) (by kernel_rfl) [.int .i64 (topT l.tr), l1, l2] rfl rfl ?_
          refine own_storeB (m := 3) H 3 rfl (by kernel_rfl) [.int .i64 (topT l.tr), l1, l2] rfl rfl (by simp [allOne, lo1, lo2]; rfl) rfl fun w3 H => ?_
          refine Eng.nc_seq ?_
          refine nc ?_
          refine nc ?_
          refine ret_inA [.bool false] ⟨_, rfl, rfl, hsub l _ _ ?_ H⟩
          rw [li]
          exact (List.sublist_cons_self _ _).trans (List.sublist_append_left _ _)
        · rw [beq_eq_false_iff_ne] at hc; exact absurd h2 hc
      · have hstep : stepA (.two b l r) p = .two b l r := by rw [stepA_two, if_neg h1, if_neg h2]
        have hhit : hitA (.two b l r) p = false := by rw [hitA_two, decide_eq_false h1, decide_eq_false h2]; rfl
        rw [hstep, hhit]
        refine Eng.nc_cond (b := (topT r.tr == p)) rfl (fun hc => ?_) (fun hc => ?_)
        · exact absurd (beq_iff_eq.1 hc) h2
        · refine nc ?_
          refine Eng.nc_seq ?_
          refine nc ?_
          refine nc ?_
          exact ret_inA [.bool true] ⟨_, rfl, rfl, H⟩
theorem leaveL_perm {cp c3 c4 : Nat} {p : Int} {X Y : List Eng.Item} (h : X.Perm Y) : (leaveL cp c3 c4 p X).Perm (leaveL cp c3 c4 p Y) := List.Perm.cons _ (List.Perm.cons _ (List.Perm.cons _ h))
theorem two_right (b : Nat) (l r : TrA) (R : List Eng.Item) : ((TrA.two b l r).items ++ R).Perm (r.items ++ (.blk b [.int .i64 0, l.ptr, r.ptr] 59 :: (l.items ++ R))) := by
  show (Eng.Item.blk b _ 59 :: (l.items ++ r.items) ++ R).Perm _
  have h1 : (Eng.Item.blk b [.int .i64 0, l.ptr, r.ptr] 59 :: (l.items ++ r.items)).Perm (r.items ++ (.blk b [.int .i64 0, l.ptr, r.ptr] 59 :: l.items)) := (List.Perm.cons _ List.perm_append_comm).trans List.perm_middle.symm
  refine (List.Perm.append_right R h1).trans ?_
  rw [List.append_assoc, List.cons_append]
theorem two_left (b : Nat) (l r : TrA) (R : List Eng.Item) : ((TrA.two b l r).items ++ R).Perm (l.items ++ (.blk b [.int .i64 0, l.ptr, r.ptr] 59 :: (r.items ++ R))) := by
  show (Eng.Item.blk b _ 59 :: (l.items ++ r.items) ++ R).Perm _
  rw [List.cons_append, List.append_assoc]
  exact List.perm_middle.symm
set_option maxHeartbeats 4000000 in
theorem walkL_own {cp c3 c4 : Nat} {p : Int} : ∀ (A : TrA) {R : List Eng.Item} {w : World}, Eng.Own ok w0 w (leaveL cp c3 c4 p (A.items ++ R)) →
    Calls Tryd.prog 54 #[A.ptr, .pointer (some ⟨c3, 0, none⟩), .pointer (some ⟨c4, 0, none⟩)] w fun e w' => ∃ u, e = .returned u ∧ Eng.Own ok w0 w' (leaveL cp c3 c4 p ((outA A p).items ++ R)) := by
  intro A
  induction A with
  | leaf b q =>
    intro R w H
    refine enterN (args := [(TrA.leaf b q).ptr, .pointer (some ⟨c3, 0, none⟩), .pointer (some ⟨c4, 0, none⟩)]) Tryd.func54 rfl Tryd.ntmps54 rfl rfl ?_
    refine Eng.nc_seq ?_
    refine nc ?_
    refine own_load H 1 rfl (by kernel_rfl) (j := 0) rfl ?_
    refine callV_rule (by kernel_rfl) (leave1_own (A := .leaf b q) H) fun u w1 ⟨hu, H⟩ => ?_
    subst hu
    refine own_load H 3 rfl (by kernel_rfl) (j := 1) (v := .pointer none) rfl ?_
    refine neqNil_rule (by kernel_rfl) ?_
    refine Eng.nc_cond (b := false) rfl (fun hc => ?_) (fun hc => ?_)
    · cases hc
    · refine nc ?_
      exact ret_inA [] ⟨_, rfl, H⟩
  | two b l r ihl ihr =>
    intro R w H
    refine enterN (args := [(TrA.two b l r).ptr, .pointer (some ⟨c3, 0, none⟩), .pointer (some ⟨c4, 0, none⟩)]) Tryd.func54 rfl Tryd.ntmps54 rfl rfl ?_
    refine Eng.nc_seq ?_
    refine nc ?_
    refine own_load H 1 rfl (by kernel_rfl) (j := 0) rfl ?_
    refine callV_rule (by kernel_rfl) (leave1_own (A := .two b l r) H) fun u w1 ⟨hu, H⟩ => ?_
    have hhit : ∀ z, hitA (.two b l r) p = z → u = .bool (!z) := fun z hz => by rw [hu, hz]
    by_cases hh : topT l.tr = p ∨ topT r.tr = p
    · have hz := hhit true (by rw [hitA_two]; rcases hh with h | h <;> simp [h])
      have hstep : stepA (.two b l r) p = outA (.two b l r) p := by
        rw [stepA_two, outA_two]
        by_cases h1 : topT l.tr = p
        · rw [if_pos h1, if_pos h1]
        · rw [if_neg h1, if_neg h1]
          have h2 : topT r.tr = p := hh.resolve_left h1
          rw [if_pos h2, if_pos h2]
      rw [hstep] at H
      subst hz
      obtain ⟨i, cs, hi, hcs⟩ : ∃ (i : Nat) (cs : List Value), (leaveL cp c3 c4 p ((outA (.two b l r) p).items ++ R))[i]? = some (Eng.Item.blk b cs 59) ∧ ∃ a, cs[1]? = some (Value.pointer a) := by
        have hroot := (outA_tr (.two b l r) p).2
        cases hq : outA (.two b l r) p with
        | leaf b' q => rw [hq] at hroot; cases hroot; exact ⟨3, _, rfl, none, rfl⟩
        | two b' l' r' => rw [hq] at hroot; cases hroot; exact ⟨3, _, rfl, _, rfl⟩
      obtain ⟨a, ha⟩ := hcs
      refine own_load H i hi (by kernel_rfl) (j := 1) (v := .pointer a) ha ?_
      refine neqNil_rule (by kernel_rfl) ?_
      refine Eng.nc_cond (b := false) rfl (fun hc => ?_) (fun hc => ?_)
      · cases hc
      · refine nc ?_
        exact ret_inA [] ⟨_, rfl, H⟩
    · have h1 : ¬ topT l.tr = p := fun q => hh (.inl q)
      have h2 : ¬ topT r.tr = p := fun q => hh (.inr q)
      have hz := hhit false (by rw [hitA_two]; simp [h1, h2])
      have hstep : stepA (.two b l r) p = .two b l r := by rw [stepA_two, if_neg h1, if_neg h2]
      have hout : outA (.two b l r) p = .two b (outA l p) (outA r p) := by
        rw [outA_two, if_neg h1, if_neg h2]
      rw [hstep] at H
      rw [hout]
      subst hz
      have hlp : (outA l p).ptr = l.ptr := by unfold TrA.ptr; rw [(outA_tr l p).2]
      have hrp : (outA r p).ptr = r.ptr := by unfold TrA.ptr; rw [(outA_tr r p).2]
      refine own_load H 3 rfl (by kernel_rfl) (j := 1) (v := .pointer (some ⟨l.root, 0, none⟩)) rfl ?_
      refine neqNil_rule (by kernel_rfl) ?_
      refine Eng.nc_cond (b := true) rfl (fun hc => ?_) (fun hc => ?_)
      · refine Eng.nc_seq ?_
        refine nc ?_
        refine draw_rule [] (by kernel_rfl) (by kernel_rfl) H ?_
        refine c_load 2 rfl (by kernel_rfl) (j := 0) rfl ?_
        refine c_load 3 rfl (by kernel_rfl) (j := 2) (v := r.ptr) rfl ?_
        refine c_callV (fun _ L' => L' = leaveL cp c3 c4 p ((TrA.two b l (outA r p)).items ++ R)) rfl (by kernel_rfl) (fun w H => (ihr (H.perm (leaveL_perm (two_right b l r R)))).mono fun e w' ⟨u, he, H'⟩ => ⟨u, he, _, rfl, by
          have q := (two_right b l (outA r p) R).symm
          rw [hrp] at q
          exact H'.perm (leaveL_perm q)⟩) fun u L' hL' => ?_
        subst hL'
        intro w2 H
        refine nc ?_
        refine draw_rule [] (by kernel_rfl) (by kernel_rfl) H ?_
        refine c_load 2 rfl (by kernel_rfl) (j := 0) rfl ?_
        refine c_load 3 rfl (by kernel_rfl) (j := 1) (v := l.ptr) rfl ?_
        refine c_callV (fun _ L' => L' = leaveL cp c3 c4 p ((TrA.two b (outA l p) (outA r p)).items ++ R)) rfl (by kernel_rfl) (fun w H => (ihl (H.perm (leaveL_perm (two_left b l (outA r p) R)))).mono fun e w' ⟨u, he, H'⟩ => ⟨u, he, _, rfl, by
          have q := (two_left b (outA l p) (outA r p) R).symm
          rw [hlp] at q
          exact H'.perm (leaveL_perm q)⟩) fun u L' hL' => ?_
        subst hL'
        intro w3 H
        exact ret_inA [] ⟨_, rfl, H⟩
      · cases hc
/-! Without memory. -/
theorem leaves_in : ∀ (T : Tr), T.ok → ∀ x ∈ T.leavesR, 1 ≤ x ∧ x ≤ 8 := by
  intro T
  induction T with
  | leaf p => intro h x hx; rw [List.mem_singleton.1 hx]; exact h
  | two l r ihl ihr =>
    intro h x hx
    rcases List.mem_append.1 hx with q | q
    · exact ihr h.2 x q
    · exact ihl h.1 x q
theorem topT_leaf {T : Tr} {p : Int} (hp : 1 ≤ p) (h : topT T = p) : T = .leaf p := by
  cases T with
  | leaf q => have : q = p := h; rw [this]
  | two l r => have : (0 : Int) = p := h; omega
theorem outT_no : ∀ (T : Tr) (p : Int), 1 ≤ p → p ∉ T.leavesR → outT T p = T
  | .leaf q, p, _, _ => rfl
  | .two l r, p, hp, h => by
    have hl : p ∉ l.leavesR := fun q => h (List.mem_append_right _ q)
    have hr : p ∉ r.leavesR := fun q => h (List.mem_append_left _ q)
    unfold outT
    rw [if_neg (fun q => hl (by rw [topT_leaf hp q]; exact List.mem_singleton.2 rfl)), if_neg (fun q => hr (by rw [topT_leaf hp q]; exact List.mem_singleton.2 rfl)), outT_no l p hp hl, outT_no r p hp hr]
theorem outT_ok : ∀ (T : Tr) (p : Int), T.ok → T.leavesR.Nodup → p ∈ T.leavesR → T ≠ .leaf p → (outT T p).ok ∧ (p :: (outT T p).leavesR).Perm T.leavesR
  | .leaf q, p, hk, hn, h, hne => absurd (by rw [List.mem_singleton.1 h]) hne
  | .two l r, p, hk, hn, h, hne => by
    have hp := (leaves_in _ hk p h).1
    have hn2 : (r.leavesR ++ l.leavesR).Nodup := hn
    obtain ⟨hnr, hnl, hdis⟩ := List.nodup_append.1 hn2
    unfold outT
    by_cases h1 : topT l = p
    · rw [if_pos h1]
      have e := topT_leaf hp h1
      subst e
      exact ⟨hk.2, (List.perm_append_comm (l₁ := [p]) (l₂ := r.leavesR))⟩
    · rw [if_neg h1]
      by_cases h2 : topT r = p
      · rw [if_pos h2]
        have e := topT_leaf hp h2
        subst e
        exact ⟨hk.1, List.Perm.refl _⟩
      · rw [if_neg h2]
        have hl1 : l ≠ .leaf p := fun q => h1 (by rw [q]; rfl)
        have hr1 : r ≠ .leaf p := fun q => h2 (by rw [q]; rfl)
        rcases List.mem_append.1 (show p ∈ r.leavesR ++ l.leavesR from h) with q | q
        · have hno : p ∉ l.leavesR := fun z => hdis p q p z rfl
          obtain ⟨i1, i2⟩ := outT_ok r p hk.2 hnr q hr1
          rw [outT_no l p hp hno]
          exact ⟨⟨hk.1, i1⟩, (List.Perm.append_right l.leavesR i2)⟩
        · have hno : p ∉ r.leavesR := fun z => hdis p z p q rfl
          obtain ⟨i1, i2⟩ := outT_ok l p hk.1 hnl q hl1
          rw [outT_no r p hp hno]
          refine ⟨⟨i1, hk.2⟩, ?_⟩
          show (p :: (r.leavesR ++ (outT l p).leavesR)).Perm (r.leavesR ++ l.leavesR)
          exact List.perm_middle.symm.trans (List.Perm.append_left _ i2)
def leaveM (s : List UInt8) (p : Int) : List UInt8 × Int := match ofM s with
  | none => ([], 1)
  | some (.leaf _) => ([], 8)
  | some (.two l r) => if p ∈ (Tr.two l r).leavesR then ((outT (.two l r) p).text, 0) else ([], 8)
theorem leaveM_none {s : List UInt8} {p : Int} (ho : ofM s = none) : leaveM s p = ([], 1) := by unfold leaveM; rw [ho]
theorem leaveM_leaf {s : List UInt8} {p q : Int} (ho : ofM s = some (.leaf q)) : leaveM s p = ([], 8) := by unfold leaveM; rw [ho]
theorem leaveM_no {s : List UInt8} {p : Int} {l r : Tr} (ho : ofM s = some (.two l r)) (h : p ∉ (Tr.two l r).leavesR) : leaveM s p = ([], 8) := by unfold leaveM; rw [ho]; exact if_neg h
theorem leaveM_yes {s : List UInt8} {p : Int} {l r : Tr} (ho : ofM s = some (.two l r)) (h : p ∈ (Tr.two l r).leavesR) : leaveM s p = ((outT (.two l r) p).text, 0) := by unfold leaveM; rw [ho]; exact if_pos h
set_option maxHeartbeats 8000000 in
theorem leave_calls {s : List UInt8} {p : Int} (hs : s.length ≤ 900000) : Calls Tryd.prog 23 #[.string (bs s), .int .i64 p] w fun e w' => ∃ v, e = .returned v ∧ (v = .tuple #[.string (bs (leaveM s p).1), .int .i64 (leaveM s p).2] ∧ Bel w.heap.size w w') := by
  have H : Eng.Own (fun _ => False) w w [] := Eng.Own.nil _ w
  refine enterN (args := [.string (bs s), .int .i64 p]) Tryd.func23 rfl Tryd.ntmps23 rfl rfl ?_
  refine Eng.nc_seq ?_
  refine nc ?_
  refine own_box H [.int .i64 p] rfl fun cp w1 H => ?_
  refine Eng.nc_seq ?_
  refine nc ?_
  refine call_rule (by kernel_rfl) (treeOf_own (by omega) H) fun v w2 hR => ?_
  cases ho : ofM s with
  | none =>
    rw [ho] at hR
    obtain ⟨rfl, H⟩ := hR
    refine Eng.nc_seq ?_
    refine Eng.nc_block ?_
    refine Eng.nc_seq ?_
    refine nc ?_
    refine eqlNil_rule (by kernel_rfl) ?_
    refine Eng.nc_cond (b := true) rfl (fun hc => ?_) (fun hc => ?_)
    · refine Eng.nc_seq ?_
      refine nc ?_
      refine nc ?_
      exact ret_inA [.string (bs []), .int .i64 1] ⟨_, rfl, by rw [leaveM_none ho]; rfl, H.frame⟩
    · cases hc
  | some T =>
    rw [ho] at hR
    obtain ⟨A, hA, rfl, H⟩ := hR
    obtain ⟨hT, hok⟩ := ofM_text ho
    have hnd := ofM_nodup ho
    have h8 := leaves_eight hok hnd
    subst hA
    cases A with
    | leaf b q =>
      refine Eng.nc_seq ?_
      refine Eng.nc_block ?_
      refine Eng.nc_seq ?_
      refine nc ?_
      refine eqlNil_rule (p := some ⟨b, 0, none⟩) (by kernel_rfl) ?_
      refine Eng.nc_cond (b := false) rfl (fun hc => ?_) (fun hc => ?_)
      · cases hc
      refine Eng.nc_seq ?_
      refine nc ?_
      refine draw_rule [] (by kernel_rfl) (by kernel_rfl) H ?_
      refine c_load 0 rfl (by kernel_rfl) (j := 1) (v := .pointer none) rfl ?_
      refine c_eqlNil (by kernel_rfl) ?_
      refine c_skipCL (.slice none 0 0) rfl ?_
      refine c_load 1 rfl (by kernel_rfl) (j := 0) (v := .int .i64 p) rfl ?_
      refine c_skipCL (.bool false) rfl ?_
      intro w3 H
      refine Eng.nc_cond (b := true) rfl (fun hc => ?_) (fun hc => ?_)
      · refine Eng.nc_seq ?_
        refine nc ?_
        refine nc ?_
        exact ret_inA [.string (bs []), .int .i64 8] ⟨_, rfl, by rw [leaveM_leaf (q := q) ho]; rfl, H.frame⟩
      · cases hc
    | two b l r =>
      replace H : Eng.Own (fun _ => False) w w2 (.blk cp [.int .i64 p] 3 :: ((TrA.two b l r).items ++ [])) := by
        rw [List.append_nil]
        exact H.perm List.perm_append_comm
      refine nc_cut (fun e w' => (p ∈ (TrA.two b l r).tr.leavesR) ∧ e = [(3, .pointer (some ⟨cp, 0, none⟩)), (6, (TrA.two b l r).ptr)] ∧ Eng.Own (fun _ => False) w w' (.blk cp [.int .i64 p] 3 :: ((TrA.two b l r).items ++ []))) ?_ ?_
      · refine Eng.nc_block ?_
        refine Eng.nc_seq ?_
        refine nc ?_
        refine eqlNil_rule (p := some ⟨b, 0, none⟩) (by kernel_rfl) ?_
        refine Eng.nc_cond (b := false) rfl (fun hc => ?_) (fun hc => ?_)
        · cases hc
        refine Eng.nc_seq ?_
        refine nc ?_
        refine draw_rule [] (by kernel_rfl) (by kernel_rfl) H ?_
        refine c_load 1 rfl (by kernel_rfl) (j := 1) (v := .pointer (some ⟨l.root, 0, none⟩)) rfl ?_
        refine c_eqlNil (by kernel_rfl) ?_
        refine c_callOwn (fun u L' => L' = .row u 3 1 (sortZ (TrA.two b l r).tr.leavesR).length (intsV (sortZ (TrA.two b l r).tr.leavesR)) :: (.blk cp [.int .i64 p] 3 :: ((TrA.two b l r).items ++ []))) rfl (by kernel_rfl) (fun v L' h => by rw [h]; exact List.sublist_cons_self _ _) (fun w H => (nodeMembers_in (A := .two b l r) (fun it h => List.mem_cons_of_mem _ (List.mem_append_left _ h)) (by omega) H).mono fun e w' ⟨u, he, H'⟩ => ⟨u, he, _, rfl, H'⟩) fun u L' hL' => ?_
        subst hL'
        refine c_load 0 rfl (by kernel_rfl) (j := 0) (v := .int .i64 p) rfl ?_
        refine c_call (.bool (decide (p ∈ sortZ (TrA.two b l r).tr.leavesR))) (by kernel_rfl) (fun _ w H => view_Has_ok (H.rowSlR (k := tInt .i64) (okr := fun _ => True) 0 rfl (rowsR_ints w (fun _ => True) _)) (hasP_eq _ p (by rw [sortZ_len]; omega))) ?_
        intro w3 H
        replace H := H.tail
        by_cases hm : p ∈ (TrA.two b l r).tr.leavesR
        · have hm2 : decide (p ∈ sortZ (TrA.two b l r).tr.leavesR) = true := by simpa using ((sortZ_perm _).mem_iff).2 hm
          refine Eng.nc_cond (b := false) (by rw [hm2]; rfl) (fun hc => ?_) (fun hc => ?_)
          · cases hc
          · refine nc ?_
            exact cut_inA ⟨hm, rfl, H⟩
        · have hm2 : decide (p ∈ sortZ (TrA.two b l r).tr.leavesR) = false := by simpa using fun q => hm (((sortZ_perm _).mem_iff).1 q)
          refine Eng.nc_cond (b := true) (by rw [hm2]; rfl) (fun hc => ?_) (fun hc => ?_)
          · refine Eng.nc_seq ?_
            refine nc ?_
            refine nc ?_
            exact ret_inA [.string (bs []), .int .i64 8] ⟨_, rfl, by rw [leaveM_no (l := l.tr) (r := r.tr) ho hm]; rfl, H.frame⟩
          · cases hc
      · rintro _ w3 ⟨hm, rfl, H⟩
        refine Eng.nc_seq ?_
        refine nc ?_
        have hE : Calls Tryd.prog 33 #[(TrA.two b l r).ptr, doL cp] w3 fun e w' => ∃ u, e = .returned u ∧ ∃ c3 c4, Eng.Own (fun _ => False) w w' (leaveL cp c3 c4 p ((outA (.two b l r) p).items ++ [])) := by
          refine enterN (args := [(TrA.two b l r).ptr, doL cp]) Tryd.func33 rfl Tryd.ntmps33 rfl rfl ?_
          refine Eng.nc_seq ?_
          refine nc ?_
          refine own_box H [doL cp] rfl fun c3 w2 H => ?_
          refine Eng.nc_seq ?_
          refine nc ?_
          refine own_alloc (z := .nilFunc) H (by kernel_rfl) [.nilFunc] rfl fun c4 w3 H => ?_
          refine Eng.nc_seq ?_
          refine nc ?_
          refine own_store (t := 72) H 0 rfl (by kernel_rfl) (j := 0) rfl rfl fun w4 H => ?_
          refine nc ?_
          have H0 : Eng.Own (fun _ => False) w w4 (leaveL cp c3 c4 p ((TrA.two b l r).items ++ [])) :=
            order_own (A := [.blk c4 [walkV c3 c4] 72, .blk c3 [doL cp] 57, .blk cp [.int .i64 p] 3]) H [2, 1, 0] (by show (List.range 3).Perm _; decide)
          refine own_load H0 2 rfl (by kernel_rfl) (j := 0) rfl ?_
          refine callV_rule (by kernel_rfl) (walkL_own (.two b l r) H0) fun u w5 H => ?_
          exact ret_inA [] ⟨_, rfl, c3, c4, H⟩
        refine call_rule (by kernel_rfl) hE fun u w5 ⟨c3, c4, H⟩ => ?_
        rw [List.append_nil] at H
        replace H : Eng.Own (fun _ => False) w w5 (outA (.two b l r) p).items := H.less (List.Sublist.cons _ (List.Sublist.cons _ (List.Sublist.cons _ (List.Sublist.refl _))))
        obtain ⟨htr, hrt⟩ := outA_tr (.two b l r) p
        have hjk := outT_ok _ p hok hnd hm (fun q => by cases q)
        have hlen : (outT (TrA.two b l r).tr p).text.length ≤ 1000000 := by
          have h1 := text_leaves3 (outT (TrA.two b l r).tr p)
          have h2 := hjk.2.length_eq
          rw [List.length_cons] at h2
          omega
        refine Eng.nc_seq ?_
        refine nc ?_
        have hroot : (TrA.two b l r).ptr = (outA (.two b l r) p).ptr := by unfold TrA.ptr; rw [hrt]
        rw [hroot]
        refine call_rule (by kernel_rfl) (text_own (outA (.two b l r) p) (fun it h => h) (by rw [htr]; exact hjk.1) (by rw [htr]; exact hlen) H) fun u w10 ⟨L', ⟨hu, hL⟩, H⟩ => ?_
        subst hu hL
        refine nc ?_
        rw [htr]
        exact ret_inA [_, .int .i64 0] ⟨_, rfl, by rw [leaveM_yes (l := l.tr) (r := r.tr) ho hm]; rfl, H.frame⟩
end Go.Proofs.YtfapphlhkfddoaaDoor.G
