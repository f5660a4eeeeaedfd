/- What stands in a term: parts.Of, and what it leans on. -/
import Derived.Test.YtipoblinefamgaaM2
namespace Go.Proofs.Ytipoblinefamgaa.G
open Go.RowKit Go.Eng Go.Proofs Go.Proofs.Ytipoblinefamgaa.Cut
set_option linter.unusedVariables false
set_option maxRecDepth 20000
variable {ok : Nat → Prop} {w0 w : World} {L : List Eng.Item}

def five (y : Int) : Prop := y = 107 ∨ y = 104 ∨ y = 112 ∨ y = 115 ∨ y = 120
instance (y : Int) : Decidable (five y) := by unfold five; infer_instance
/-- What stands behind a term's head. -/
noncomputable def headM (t : List UInt8) : Option (List UInt8) :=
  (idxS t (0 : Int)).bind fun y => if five y then slcM t (1 : Int) (t.length : Int) else if y = 101 then slcM t (2 : Int) (t.length : Int) else some []
noncomputable def stepN (st : List (List UInt8) × List UInt8) : Option ((List (List UInt8) × List UInt8) ⊕ List (List UInt8)) :=
  if st.2 = [] then some (.inr st.1) else (term_Take.f st.2).bind fun y => if y.2.2 = 0 then some (.inl (st.1 ++ [y.1], y.2.1)) else some (.inr st.1)
noncomputable def nextM (t : List UInt8) : Option (List (List UInt8)) := (headM t).bind fun s => loopM stepN ([], s)
theorem iterN_pre : ∀ (k : Nat) (st : List (List UInt8) × List UInt8) (xs : List (List UInt8)), iterM stepN k st = some xs → ∃ rest, st.1 ++ rest = xs
  | 0, st, xs, h => by cases h
  | k + 1, st, xs, h => by
    obtain ⟨k', hk, q, hq, h⟩ := iterS h
    cases hk
    unfold stepN at hq
    split at hq
    · cases hq; exact ⟨[], by rw [List.append_nil]; exact h⟩
    · obtain ⟨y, hy, hq⟩ := bindS hq
      split at hq
      · cases hq
        obtain ⟨rest, hr⟩ := iterN_pre k _ xs h
        exact ⟨y.1 :: rest, by rw [← hr]; simp⟩
      · cases hq; exact ⟨[], by rw [List.append_nil]; exact h⟩

theorem yield_yes {P : Program} {l : Nat} {args : List Value} {g : Bool} {φ : Value → World → Prop} {K : Value → World → Prop} (hg : g = true) (h : nYield P l args w φ) (hk : ∀ v w', φ v w' → K v w') : nCallV P g (.func (.yield l) #[] #[]) args w K := by
  subst hg; exact yield_rule h hk
theorem callV_skip {P : Program} {x : Value} {args : List Value} {g : Bool} {K : Value → World → Prop} (v : Value) (hg : g = false) (hk : K v w) : nCallV P g x args w K := by
  unfold nCallV; exact nOp_in ⟨fun h => (by rw [hg] at h; cases h), fun _ => ⟨v, hk⟩⟩

abbrev encT (x : List UInt8) : List Value := [.string (bs x)]
set_option maxHeartbeats 4000000 in
theorem next_iter {b : Nat} {t : List UInt8} {xs : List (List UInt8)} (hm : nextM t = some xs) : IterAt Try.prog ok w0 102 #[.pointer (some ⟨b, 0, none⟩)] encT (fun l => l = xs) (fun pre => ∃ rest, pre ++ rest = xs) [.blk b [.string (bs t)] 45] := by
  intro lp I Ix hY W L h0 H
  have ea : (#[Value.func (.yield lp) #[] #[]] ++ #[Value.pointer (some ⟨b, 0, none⟩)] : Array Value) = [Value.func (.yield lp) #[] #[], .pointer (some ⟨b, 0, none⟩)].toArray := rfl
  rw [ea]
  obtain ⟨s, hs, hm⟩ := bindS hm
  obtain ⟨y, hy, hs⟩ := bindS hs
  obtain ⟨k0, hk0⟩ := loopS hm
  replace H : Eng.Own ok w0 W (.blk b [.string (bs t)] 45 :: L) := H
  refine enterN (args := [.func (.yield lp) #[] #[], .pointer (some ⟨b, 0, none⟩)]) Try.func102 rfl Try.ntmps102 rfl rfl ?_
  refine Eng.nc_seq ?_
  refine nc ?_
  refine nc_cut (fun e w' => e = [(0, .func (.yield lp) #[] #[]), (1, .pointer (some ⟨b, 0, none⟩)), (3, .string (bs s))] ∧ Eng.Own ok w0 w' (.blk b [.string (bs t)] 45 :: L)) ?_ ?_
  · refine Eng.nc_seq ?_
    refine nc ?_
    refine own_load H 0 rfl (by kernel_rfl) (j := 0) rfl ?_
    refine idxS_rule (by kernel_rfl) hy ?_
    refine Eng.nc_block ?_
    refine nc_cut (fun e w' => ∃ b9 : Bool, (b9 = true ↔ five y) ∧ e = [(0, .func (.yield lp) #[] #[]), (1, .pointer (some ⟨b, 0, none⟩)), (3, .string (bs [])), (8, .int .u8 y), (9, .bool b9)] ∧ Eng.Own ok w0 w' (.blk b [.string (bs t)] 45 :: L)) ?_ ?_
    · refine Eng.nc_seq ?_
      refine nc ?_
      refine Eng.nc_cond rfl (fun h1 => ?_) (fun h1 => ?_)
      · refine nc ?_
        exact cut_inA ⟨(y == 107), by rw [h1]; simp at h1; simp [five, h1], rfl, H⟩
      refine Eng.nc_seq ?_
      refine nc ?_
      refine Eng.nc_cond rfl (fun h2 => ?_) (fun h2 => ?_)
      · refine nc ?_
        exact cut_inA ⟨(y == 104), by rw [h2]; simp at h2; simp [five, h2], rfl, H⟩
      refine Eng.nc_seq ?_
      refine nc ?_
      refine Eng.nc_cond rfl (fun h3 => ?_) (fun h3 => ?_)
      · refine nc ?_
        exact cut_inA ⟨(y == 112), by rw [h3]; simp at h3; simp [five, h3], rfl, H⟩
      refine Eng.nc_seq ?_
      refine nc ?_
      refine Eng.nc_cond rfl (fun h4 => ?_) (fun h4 => ?_)
      · refine nc ?_
        exact cut_inA ⟨(y == 115), by rw [h4]; simp at h4; simp [five, h4], rfl, H⟩
      refine nc ?_
      exact cut_inA ⟨(y == 120), by
        simp at h1 h2 h3 h4
        simp [five, h1, h2, h3, h4], rfl, H⟩
    · rintro _ w1 ⟨b9, h9, rfl, H⟩
      refine Eng.nc_cond rfl (fun hc => ?_) (fun hc => ?_)
      · rw [if_pos (h9.1 hc)] at hs
        refine nc ?_
        refine own_load H 0 rfl (by kernel_rfl) (j := 0) rfl ?_
        refine txtI_rule 1 (t.length : Int) (by kernel_rfl) ⟨_, rfl⟩ rfl hs ?_
        exact cut_inA ⟨rfl, H⟩
      · have h5 : ¬ five y := fun q => by rw [h9.2 q] at hc; cases hc
        rw [if_neg h5] at hs
        refine Eng.nc_seq ?_
        refine nc ?_
        refine Eng.nc_cond rfl (fun h6 => ?_) (fun h6 => ?_)
        · rw [if_pos (by simpa using h6)] at hs
          refine nc ?_
          refine own_load H 0 rfl (by kernel_rfl) (j := 0) rfl ?_
          refine txtI_rule 2 (t.length : Int) (by kernel_rfl) ⟨_, rfl⟩ rfl hs ?_
          exact cut_inA ⟨rfl, H⟩
        · rw [if_neg (by simpa using h6)] at hs
          replace hs := Option.some.inj hs
          subst hs
          refine nc ?_
          exact cut_inA ⟨rfl, H⟩
  · rintro _ w1 ⟨rfl, H⟩
    refine Eng.nc_block ?_
    refine nc ?_
    refine loop_ruleA (fun k e w => ∃ pre q L', iterM stepN k (pre, q) = some xs ∧ I pre L' ∧ e = [(0, .func (.yield lp) #[] #[]), (1, .pointer (some ⟨b, 0, none⟩)), (3, .string (bs q))] ∧ Eng.Own ok w0 w (.blk b [.string (bs t)] 45 :: L')) (k₀ := k0) ⟨[], s, L, hk0, h0, rfl, H⟩ ?_
    rintro k e w ⟨pre, q, L', hit, hI, rfl, H⟩
    obtain ⟨k, rfl, o, ho, hit⟩ := iterS hit
    unfold stepN at ho
    refine Eng.nc_seq ?_
    refine Eng.nc_seq ?_
    refine nc ?_
    refine Eng.nc_cond rfl (fun hc => ?_) (fun hc => ?_)
    · have hq : ¬ q = [] := by simpa [bs_toList] using hc
      rw [if_neg hq] at ho
      obtain ⟨y2, hy2, ho⟩ := bindS ho
      refine nc ?_
      refine Eng.nc_block ?_
      refine Eng.nc_seq ?_
      refine nc ?_
      refine call_rule (by kernel_rfl) (term_Take_ok (ok := fun _ => False) hy2) fun v w2 ⟨hv, hbel⟩ => ?_
      subst hv
      replace H := H.call hbel
      refine Eng.nc_seq ?_
      refine Eng.nc_seq ?_
      refine nc ?_
      by_cases he : y2.2.2 = 0
      · rw [if_pos he] at ho
        cases ho
        have hg : (y2.2.2 != (0 : Int)) = false := by simp [he]
        obtain ⟨rest, hrest⟩ := iterN_pre k _ xs hit
        have hsp : ∃ rest, (pre ++ [y2.1]) ++ rest = xs := ⟨rest, hrest⟩
        refine yield_yes (gT0 hg rfl) (hY [.blk b [.string (bs t)] 45] pre y2.1 L' _ hsp hI (Eng.Own.swap (A := [_]) H)) fun v w5 hv => ?_
        rcases hv with ⟨rfl, L2, hI2, H⟩ | ⟨rfl, L2, hI2, H⟩
        · replace H : Eng.Own ok w0 w5 (.blk b [.string (bs t)] 45 :: L2) := Eng.Own.swap (B := [_]) H
          refine Eng.nc_cond (b := cond (y2.2.2 != (0 : Int)) true (!true)) rfl (fun h7 => ?_) (fun h7 => ?_)
          · rw [hg] at h7; cases h7
          refine nc ?_
          refine nc ?_
          exact again_inA ⟨pre ++ [y2.1], y2.2.1, L2, hit, hI2, rfl, H⟩
        · replace H : Eng.Own ok w0 w5 (.blk b [.string (bs t)] 45 :: L2) := Eng.Own.swap (B := [_]) H
          refine Eng.nc_cond (b := cond (y2.2.2 != (0 : Int)) true (!false)) rfl (fun h7 => ?_) (fun h7 => ?_)
          · refine nc ?_
            exact ret_of [] trivial ⟨_, rfl, .inr ⟨_, L2, hsp, hI2, H⟩⟩
          rw [hg] at h7; cases h7
      · rw [if_neg he] at ho
        cases ho
        have hg : (y2.2.2 != (0 : Int)) = true := by simpa using he
        refine callV_skip (.bool false) (gF0 hg) ?_
        refine Eng.nc_cond (b := cond (y2.2.2 != (0 : Int)) true (!false)) rfl (fun h7 => ?_) (fun h7 => ?_)
        · refine nc ?_
          exact ret_of [] trivial ⟨_, rfl, .inl ⟨pre, L', hit, hI, H⟩⟩
        rw [hg] at h7; cases h7
    · have hq : q = [] := by simpa [bs_toList] using hc
      rw [if_pos hq] at ho
      cases ho
      refine nc ?_
      exact ret_of [] trivial ⟨_, rfl, .inl ⟨pre, L', hit, hI, H⟩⟩

set_option maxHeartbeats 2000000 in
theorem appendSeqT_own {gf : FuncId} {lb : Array Value} {S Sp : List (List UInt8) → Prop} {M : List Eng.Item} (hb : bodyB Try.prog gf = true) (hit : IterAt Try.prog ok w0 gf lb encT S Sp M) (hSp : ∀ pre, Sp pre → pre.length ≤ 1000000000) (H : Eng.Own ok w0 w (M ++ L)) :
    Calls Try.prog 101 #[.slice none 0 0, .func (.func gf) #[] lb] w fun e w' => ∃ v, e = .returned v ∧ ∃ xs, S xs ∧ Eng.Own ok w0 w' (.row v 45 1 xs.length (strs xs) :: (M ++ L)) := by
  refine enter (args := [.slice none 0 0, .func (.func gf) #[] lb]) Try.func101 rfl Try.ntmps101 rfl rfl ?_
  try refine nc ?_
  refine own_box H [.slice none 0 0] rfl fun B w1 H => ?_
  try refine nc ?_
  try refine nc ?_
  have H0 : Eng.Own ok w0 w1 (M ++ (.blk B [.slice none 0 0] 36 :: .row (.slice none 0 0) 45 1 0 [] :: L)) := by
    refine (H.nilRow 45 1).perm ?_
    refine (List.Perm.swap _ _ _).trans ?_
    exact (List.perm_append_comm_assoc [_, _] M L)
  refine range_rule (I := fun pre L1 => ∃ v, L1 = .blk B [v] 36 :: .row v 45 1 pre.length (strs pre) :: L) (Ix := fun _ _ _ => False) rfl hb (fun _ => rfl) rfl hit H0 ⟨_, rfl⟩ ?_ ?_ ?_
  · rintro l φ T pre x L1 W hφ hsp ⟨v, rfl⟩ H
    try refine nc ?_
    refine rGo_in (.blk B [v] 36 :: .row v 45 1 pre.length (strs pre) :: L) H fun w5 φ2 hφ2 H => ?_
    have hl := hSp _ hsp
    simp only [List.length_append, List.length_cons, List.length_nil] at hl
    try refine nc ?_
    refine own_load H 0 rfl (by kernel_rfl) (j := 0) rfl ?_
    refine own_buildSlice (e := 45) (sz := 1) (z := .string (bs [])) (cs := [.string (bs x)]) H (by kernel_rfl) (by kernel_rfl) (by kernel_rfl) rfl rfl rfl rfl ?_
    intro g w6 H
    refine own_appendBlk (e := 45) (sz := 1) (z := .string (bs [])) (by_ := 16) (m := 1) H 2 0 rfl rfl (by kernel_rfl) (by kernel_rfl) rfl rfl rfl (by intro v hv; simp at hv; subst hv; rfl) (by omega) (by omega) ?_
    intro v' w7 H
    obtain ⟨A', c', hv', _, _⟩ := H.rowSl 2 rfl
    subst hv'
    refine own_store (t := 36) H 1 rfl (by kernel_rfl) (j := 0) rfl rfl ?_
    intro w8 H
    try refine nc ?_
    refine rEnd_in (.blk B [.slice A' (pre.length + 1) c'] 36 :: .row (.slice A' (pre.length + 1) c') 45 1 (pre ++ [x]).length (strs (pre ++ [x])) :: L) ⟨_, rfl⟩ ?_
    have e1 : strs (pre ++ [x]) = strs pre ++ [.string (bs x)] := by simp [strs]
    have e2 : (pre ++ [x]).length = pre.length + 1 := by simp
    rw [e1, e2]
    exact H.tail
  · rintro D W L1 xs hS ⟨v, rfl⟩ H
    replace H : Eng.Own ok w0 W (.obj D isDef :: (.blk B [v] 36 :: .row v 45 1 xs.length (strs xs) :: (M ++ L))) := H.perm (List.Perm.cons _ (List.perm_append_comm_assoc M [_, _] L))
    try refine nc ?_
    try refine nc ?_
    refine own_load H 1 rfl (by kernel_rfl) (j := 0) rfl ?_
    try refine nc ?_
    try refine nc ?_
    refine ret_own H 0 rfl fun w' H => ?_
    exact ret_of [v] ⟨rfl, trivial⟩ ⟨_, rfl, xs, hS, H.tail.tail⟩
  · intro D W L1 pre c _ h _; exact h.elim
theorem collectT_own {gf : FuncId} {lb : Array Value} {S Sp : List (List UInt8) → Prop} {M : List Eng.Item} (hb : bodyB Try.prog gf = true) (hit : IterAt Try.prog ok w0 gf lb encT S Sp M) (hSp : ∀ pre, Sp pre → pre.length ≤ 1000000000) (H : Eng.Own ok w0 w (M ++ L)) :
    Calls Try.prog 94 #[.func (.func gf) #[] lb] w fun e w' => ∃ v, e = .returned v ∧ ∃ xs, S xs ∧ Eng.Own ok w0 w' (.row v 45 1 xs.length (strs xs) :: (M ++ L)) := by
  refine enter (args := [.func (.func gf) #[] lb]) Try.func94 rfl Try.ntmps94 rfl rfl ?_
  try refine nc ?_
  try refine nc ?_
  refine call_rule (by kernel_rfl) (appendSeqT_own hb hit hSp H) fun v w1 hv => ?_
  try refine nc ?_
  exact ret_of [v] ⟨rfl, trivial⟩ ⟨_, rfl, hv⟩
theorem Next_own {t : List UInt8} (H : Eng.Own ok w0 w L) :
    Calls Try.prog 95 #[.string (bs t)] w fun e w' => ∃ v, e = .returned v ∧ ∃ b, v = .func (.func 102) #[] #[.pointer (some ⟨b, 0, none⟩)] ∧ Eng.Own ok w0 w' (.blk b [.string (bs t)] 45 :: L) := by
  refine enter (args := [.string (bs t)]) Try.func95 rfl Try.ntmps95 rfl rfl ?_
  try refine nc ?_
  refine own_box H [.string (bs t)] rfl fun b w1 H => ?_
  try refine nc ?_
  try refine nc ?_
  exact ret_of [_] ⟨rfl, trivial⟩ ⟨_, rfl, b, rfl, H⟩

noncomputable def parts_Of.f (x0 : List UInt8) : Option (List (List UInt8)) :=
  (term_Right.f x0).bind fun b => cond b ((nextM x0).bind fun xs => givenM (xs.length ≤ 1000000000) (some xs)) (some [])
theorem parts_Of_ok {ok : Nat → Prop} {w : World} {x0 : List UInt8} {r : List (List UInt8)} (h : parts_Of.f x0 = some r) :
    Calls Try.prog 83 #[.string (bs x0)] w fun e w' => ∃ v, e = .returned v ∧ (slR tStr w' (fun b => ok b ∨ w.heap.size ≤ b) v r ∧ Bel w.heap.size w w') := by
  have H : Eng.Own ok w w [] := Eng.Own.nil ok w
  unfold parts_Of.f at h
  obtain ⟨b, hb, h⟩ := bindS h
  refine enter (args := [.string (bs x0)]) Try.func83 rfl Try.ntmps83 rfl rfl ?_
  try refine nc ?_
  try refine nc ?_
  refine call_rule (by kernel_rfl) (term_Right_ok (ok := fun _ => False) hb) fun v w1 ⟨hv, hbel⟩ => ?_
  subst hv
  replace H := H.call hbel
  try refine nc ?_
  try refine nc ?_
  cases b with
  | false =>
    replace h := Option.some.inj h
    subst h
    refine cond_yes rfl ?_
    try refine nc ?_
    try refine nc ?_
    exact ret_of [.slice none 0 0] ⟨rfl, trivial⟩ ⟨_, rfl, nilR, H.frame⟩
  | true =>
    obtain ⟨xs, hxs, h⟩ := bindS h
    obtain ⟨hl, h⟩ := givenS h
    replace h := Option.some.inj h
    subst h
    refine cond_no rfl ?_
    try refine nc ?_
    try refine nc ?_
    refine call_rule (by kernel_rfl) (Next_own (t := x0) H) fun v w2 ⟨b, hv, H⟩ => ?_
    subst hv
    refine call_rule (by kernel_rfl) (collectT_own (L := []) (by kernel_rfl) (next_iter hxs) (fun pre ⟨rest, hr⟩ => by rw [← hr] at hl; simp at hl; omega) H) fun v w3 ⟨ys, hy, H⟩ => ?_
    subst hy
    replace H := H.freezeS 0 rfl
    try refine nc ?_
    try refine nc ?_
    exact ret_of [v] ⟨rfl, trivial⟩ ⟨_, rfl, H.outD 0 rfl, H.frame⟩
end Go.Proofs.Ytipoblinefamgaa.G
