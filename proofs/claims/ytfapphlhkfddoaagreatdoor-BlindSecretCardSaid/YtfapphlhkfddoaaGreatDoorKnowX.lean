/- What stands in a term: parts.Of, and what it leans on. -/
import Derived.Test.YtfapphlhkfddoaaGreatDoorHT
import Derived.Test.YtfapphlhkfddoaaGreatDoorHK2
import Derived.Test.YtfapphlhkfddoaaGreatDoorPureKit
import Derived.Test.YtfapphlhkfddoaaGreatDoorPlaceR
import Derived.Test.YtfapphlhkfddoaaGreatDoorDeleteTLay
import Derived.Test.YtfapphlhkfddoaaGreatDoorIndexTLay
import Derived.Test.YtfapphlhkfddoaaGreatDoorCloneTLay
import Derived.Shelf.SlicesG.Delete
import Derived.Shelf.SlicesG.Turned
import Derived.Shelf.SlicesG.Clone
namespace Go.Proofs.YtfapphlhkfddoaaGreatDoor.G
open Go.RowKit Go.Eng Go.Proofs Go.Proofs.YtfapphlhkfddoaaGreatDoor.Cut
set_option linter.unusedVariables false
set_option maxRecDepth 20000
variable {ok : Nat → Prop} {w0 w : World} {L : List Eng.Item}

def five (y : Int) : Prop := y = 107 ∨ y = 104 ∨ y = 112 ∨ y = 115 ∨ y = 120
instance (y : Int) : Decidable (five y) := by unfold five; infer_instance
/-- What stands behind a term's head. -/
noncomputable def headM (t : List UInt8) : Option (List UInt8) :=
  (idxS t (0 : Int)).bind fun y => if five y then slcM t (1 : Int) (t.length : Int) else if y = 101 then slcM t (2 : Int) (t.length : Int) else some []
noncomputable def stepN (st : List (List UInt8) × List UInt8) : Option ((List (List UInt8) × List UInt8) ⊕ List (List UInt8)) :=
  if st.2 = [] then some (.inr st.1) else (term_Take.f st.2).bind fun y => if y.2.2 = 0 then some (.inl (st.1 ++ [y.1], y.2.1)) else some (.inr st.1)
noncomputable def nextM (t : List UInt8) : Option (List (List UInt8)) := (headM t).bind fun s => loopM stepN ([], s)
theorem iterN_pre : ∀ (k : Nat) (st : List (List UInt8) × List UInt8) (xs : List (List UInt8)), iterM stepN k st = some xs → ∃ rest, st.1 ++ rest = xs
  | 0, st, xs, h => by cases h
  | k + 1, st, xs, h => by
    obtain ⟨k', hk, q, hq, h⟩ := iterS h
    cases hk
    unfold stepN at hq
    split at hq
    · cases hq; exact ⟨[], by rw [List.append_nil]; exact h⟩
    · obtain ⟨y, hy, hq⟩ := bindS hq
      split at hq
      · cases hq
        obtain ⟨rest, hr⟩ := iterN_pre k _ xs h
        exact ⟨y.1 :: rest, by rw [← hr]; simp⟩
      · cases hq; exact ⟨[], by rw [List.append_nil]; exact h⟩

theorem yield_yes {P : Program} {l : Nat} {args : List Value} {g : Bool} {φ : Value → World → Prop} {K : Value → World → Prop} (hg : g = true) (h : nYield P l args w φ) (hk : ∀ v w', φ v w' → K v w') : nCallV P g (.func (.yield l) #[] #[]) args w K := by
  subst hg; exact yield_rule h hk
theorem callV_skip {P : Program} {x : Value} {args : List Value} {g : Bool} {K : Value → World → Prop} (v : Value) (hg : g = false) (hk : K v w) : nCallV P g x args w K := by
  unfold nCallV; exact nOp_in ⟨fun h => (by rw [hg] at h; cases h), fun _ => ⟨v, hk⟩⟩

abbrev encT (x : List UInt8) : List Value := [.string (bs x)]
set_option maxHeartbeats 4000000 in
theorem next_iter {b : Nat} {t : List UInt8} {xs : List (List UInt8)} (hm : nextM t = some xs) : IterAt Tryz.prog ok w0 185 #[.pointer (some ⟨b, 0, none⟩)] encT (fun l => l = xs) (fun pre => ∃ rest, pre ++ rest = xs) [.blk b [.string (bs t)] 28] := by
  intro lp I Ix hY W L h0 H
  have ea : (#[Value.func (.yield lp) #[] #[]] ++ #[Value.pointer (some ⟨b, 0, none⟩)] : Array Value) = [Value.func (.yield lp) #[] #[], .pointer (some ⟨b, 0, none⟩)].toArray := rfl
  rw [ea]
  obtain ⟨s, hs, hm⟩ := bindS hm
  obtain ⟨y, hy, hs⟩ := bindS hs
  obtain ⟨k0, hk0⟩ := loopS hm
  replace H : Eng.Own ok w0 W (.blk b [.string (bs t)] 28 :: L) := H
  refine enterN (args := [.func (.yield lp) #[] #[], .pointer (some ⟨b, 0, none⟩)]) Tryz.func185 rfl Tryz.ntmps185 rfl rfl ?_
  refine Eng.nc_seq ?_
  refine nc ?_
  refine nc_cut (fun e w' => e = [(0, .func (.yield lp) #[] #[]), (1, .pointer (some ⟨b, 0, none⟩)), (3, .string (bs s))] ∧ Eng.Own ok w0 w' (.blk b [.string (bs t)] 28 :: L)) ?_ ?_
  · refine Eng.nc_seq ?_
    refine nc ?_
    refine own_load H 0 rfl (by kernel_rfl) (j := 0) rfl ?_
    refine idxS_rule (by kernel_rfl) hy ?_
    refine Eng.nc_block ?_
    refine nc_cut (fun e w' => ∃ b9 : Bool, (b9 = true ↔ five y) ∧ e = [(0, .func (.yield lp) #[] #[]), (1, .pointer (some ⟨b, 0, none⟩)), (3, .string (bs [])), (8, .int .u8 y), (9, .bool b9)] ∧ Eng.Own ok w0 w' (.blk b [.string (bs t)] 28 :: L)) ?_ ?_
    · refine Eng.nc_seq ?_
      refine nc ?_
      refine Eng.nc_cond rfl (fun h1 => ?_) (fun h1 => ?_)
      · refine nc ?_
        exact cut_inA ⟨(y == 107), by rw [h1]; simp at h1; simp [five, h1], rfl, H⟩
      refine Eng.nc_seq ?_
      refine nc ?_
      refine Eng.nc_cond rfl (fun h2 => ?_) (fun h2 => ?_)
      · refine nc ?_
        exact cut_inA ⟨(y == 104), by rw [h2]; simp at h2; simp [five, h2], rfl, H⟩
      refine Eng.nc_seq ?_
      refine nc ?_
      refine Eng.nc_cond rfl (fun h3 => ?_) (fun h3 => ?_)
      · refine nc ?_
        exact cut_inA ⟨(y == 112), by rw [h3]; simp at h3; simp [five, h3], rfl, H⟩
      refine Eng.nc_seq ?_
      refine nc ?_
      refine Eng.nc_cond rfl (fun h4 => ?_) (fun h4 => ?_)
      · refine nc ?_
        exact cut_inA ⟨(y == 115), by rw [h4]; simp at h4; simp [five, h4], rfl, H⟩
      refine nc ?_
      exact cut_inA ⟨(y == 120), by
        simp at h1 h2 h3 h4
        simp [five, h1, h2, h3, h4], rfl, H⟩
    · rintro _ w1 ⟨b9, h9, rfl, H⟩
      refine Eng.nc_cond rfl (fun hc => ?_) (fun hc => ?_)
      · rw [if_pos (h9.1 hc)] at hs
        refine nc ?_
        refine own_load H 0 rfl (by kernel_rfl) (j := 0) rfl ?_
        refine txtI_rule 1 (t.length : Int) (by kernel_rfl) ⟨_, rfl⟩ rfl hs ?_
        exact cut_inA ⟨rfl, H⟩
      · have h5 : ¬ five y := fun q => by rw [h9.2 q] at hc; cases hc
        rw [if_neg h5] at hs
        refine Eng.nc_seq ?_
        refine nc ?_
        refine Eng.nc_cond rfl (fun h6 => ?_) (fun h6 => ?_)
        · rw [if_pos (by simpa using h6)] at hs
          refine nc ?_
          refine own_load H 0 rfl (by kernel_rfl) (j := 0) rfl ?_
          refine txtI_rule 2 (t.length : Int) (by kernel_rfl) ⟨_, rfl⟩ rfl hs ?_
          exact cut_inA ⟨rfl, H⟩
        · rw [if_neg (by simpa using h6)] at hs
          replace hs := Option.some.inj hs
          subst hs
          refine nc ?_
          exact cut_inA ⟨rfl, H⟩
  · rintro _ w1 ⟨rfl, H⟩
    refine Eng.nc_block ?_
    refine nc ?_
    refine loop_ruleA (fun k e w => ∃ pre q L', iterM stepN k (pre, q) = some xs ∧ I pre L' ∧ e = [(0, .func (.yield lp) #[] #[]), (1, .pointer (some ⟨b, 0, none⟩)), (3, .string (bs q))] ∧ Eng.Own ok w0 w (.blk b [.string (bs t)] 28 :: L')) (k₀ := k0) ⟨[], s, L, hk0, h0, rfl, H⟩ ?_
    rintro k e w ⟨pre, q, L', hit, hI, rfl, H⟩
    obtain ⟨k, rfl, o, ho, hit⟩ := iterS hit
    unfold stepN at ho
    refine Eng.nc_seq ?_
    refine Eng.nc_seq ?_
    refine nc ?_
    refine Eng.nc_cond rfl (fun hc => ?_) (fun hc => ?_)
    · have hq : ¬ q = [] := by simpa [bs_toList] using hc
      rw [if_neg hq] at ho
      obtain ⟨y2, hy2, ho⟩ := bindS ho
      refine nc ?_
      refine Eng.nc_block ?_
      refine Eng.nc_seq ?_
      refine nc ?_
      refine call_rule (by kernel_rfl) (term_Take_ok (ok := fun _ => False) hy2) fun v w2 ⟨hv, hbel⟩ => ?_
      subst hv
      replace H := H.call hbel
      refine Eng.nc_seq ?_
      refine Eng.nc_seq ?_
      refine nc ?_
      by_cases he : y2.2.2 = 0
      · rw [if_pos he] at ho
        cases ho
        have hg : (y2.2.2 != (0 : Int)) = false := by simp [he]
        obtain ⟨rest, hrest⟩ := iterN_pre k _ xs hit
        have hsp : ∃ rest, (pre ++ [y2.1]) ++ rest = xs := ⟨rest, hrest⟩
        refine yield_yes (gT0 hg rfl) (hY [.blk b [.string (bs t)] 28] pre y2.1 L' _ hsp hI (Eng.Own.swap (A := [_]) H)) fun v w5 hv => ?_
        rcases hv with ⟨rfl, L2, hI2, H⟩ | ⟨rfl, L2, hI2, H⟩
        · replace H : Eng.Own ok w0 w5 (.blk b [.string (bs t)] 28 :: L2) := Eng.Own.swap (B := [_]) H
          refine Eng.nc_cond (b := cond (y2.2.2 != (0 : Int)) true (!true)) rfl (fun h7 => ?_) (fun h7 => ?_)
          · rw [hg] at h7; cases h7
          refine nc ?_
          refine nc ?_
          exact again_inA ⟨pre ++ [y2.1], y2.2.1, L2, hit, hI2, rfl, H⟩
        · replace H : Eng.Own ok w0 w5 (.blk b [.string (bs t)] 28 :: L2) := Eng.Own.swap (B := [_]) H
          refine Eng.nc_cond (b := cond (y2.2.2 != (0 : Int)) true (!false)) rfl (fun h7 => ?_) (fun h7 => ?_)
          · refine nc ?_
            exact ret_of [] trivial ⟨_, rfl, .inr ⟨_, L2, hsp, hI2, H⟩⟩
          rw [hg] at h7; cases h7
      · rw [if_neg he] at ho
        cases ho
        have hg : (y2.2.2 != (0 : Int)) = true := by simpa using he
        refine callV_skip (.bool false) (gF0 hg) ?_
        refine Eng.nc_cond (b := cond (y2.2.2 != (0 : Int)) true (!false)) rfl (fun h7 => ?_) (fun h7 => ?_)
        · refine nc ?_
          exact ret_of [] trivial ⟨_, rfl, .inl ⟨pre, L', hit, hI, H⟩⟩
        rw [hg] at h7; cases h7
    · have hq : q = [] := by simpa [bs_toList] using hc
      rw [if_pos hq] at ho
      cases ho
      refine nc ?_
      exact ret_of [] trivial ⟨_, rfl, .inl ⟨pre, L', hit, hI, H⟩⟩

set_option maxHeartbeats 2000000 in
theorem appendSeqT_own {gf : FuncId} {lb : Array Value} {S Sp : List (List UInt8) → Prop} {M : List Eng.Item} (hb : bodyB Tryz.prog gf = true) (hit : IterAt Tryz.prog ok w0 gf lb encT S Sp M) (hSp : ∀ pre, Sp pre → pre.length ≤ 1000000000) (H : Eng.Own ok w0 w (M ++ L)) :
    Calls Tryz.prog 184 #[.slice none 0 0, .func (.func gf) #[] lb] w fun e w' => ∃ v, e = .returned v ∧ ∃ xs, S xs ∧ Eng.Own ok w0 w' (.row v 28 1 xs.length (strs xs) :: (M ++ L)) := by
  refine enter (args := [.slice none 0 0, .func (.func gf) #[] lb]) Tryz.func184 rfl Tryz.ntmps184 rfl rfl ?_
  try refine nc ?_
  refine own_box H [.slice none 0 0] rfl fun B w1 H => ?_
  try refine nc ?_
  try refine nc ?_
  have H0 : Eng.Own ok w0 w1 (M ++ (.blk B [.slice none 0 0] 32 :: .row (.slice none 0 0) 28 1 0 [] :: L)) := by
    refine (H.nilRow 28 1).perm ?_
    refine (List.Perm.swap _ _ _).trans ?_
    exact (List.perm_append_comm_assoc [_, _] M L)
  refine range_rule (I := fun pre L1 => ∃ v, L1 = .blk B [v] 32 :: .row v 28 1 pre.length (strs pre) :: L) (Ix := fun _ _ _ => False) rfl hb (fun _ => rfl) rfl hit H0 ⟨_, rfl⟩ ?_ ?_ ?_
  · rintro l φ T pre x L1 W hφ hsp ⟨v, rfl⟩ H
    try refine nc ?_
    refine rGo_in (.blk B [v] 32 :: .row v 28 1 pre.length (strs pre) :: L) H fun w5 φ2 hφ2 H => ?_
    have hl := hSp _ hsp
    simp only [List.length_append, List.length_cons, List.length_nil] at hl
    try refine nc ?_
    refine own_load H 0 rfl (by kernel_rfl) (j := 0) rfl ?_
    refine own_buildSlice (e := 28) (sz := 1) (z := .string (bs [])) (cs := [.string (bs x)]) H (by kernel_rfl) (by kernel_rfl) (by kernel_rfl) rfl rfl rfl rfl ?_
    intro g w6 H
    refine own_appendBlk (e := 28) (sz := 1) (z := .string (bs [])) (by_ := 16) (m := 1) H 2 0 rfl rfl (by kernel_rfl) (by kernel_rfl) rfl rfl rfl (by intro v hv; simp at hv; subst hv; rfl) (by omega) (by omega) ?_
    intro v' w7 H
    obtain ⟨A', c', hv', _, _⟩ := H.rowSl 2 rfl
    subst hv'
    refine own_store (t := 32) H 1 rfl (by kernel_rfl) (j := 0) rfl rfl ?_
    intro w8 H
    try refine nc ?_
    refine rEnd_in (.blk B [.slice A' (pre.length + 1) c'] 32 :: .row (.slice A' (pre.length + 1) c') 28 1 (pre ++ [x]).length (strs (pre ++ [x])) :: L) ⟨_, rfl⟩ ?_
    have e1 : strs (pre ++ [x]) = strs pre ++ [.string (bs x)] := by simp [strs]
    have e2 : (pre ++ [x]).length = pre.length + 1 := by simp
    rw [e1, e2]
    exact H.tail
  · rintro D W L1 xs hS ⟨v, rfl⟩ H
    replace H : Eng.Own ok w0 W (.obj D isDef :: (.blk B [v] 32 :: .row v 28 1 xs.length (strs xs) :: (M ++ L))) := H.perm (List.Perm.cons _ (List.perm_append_comm_assoc M [_, _] L))
    try refine nc ?_
    try refine nc ?_
    refine own_load H 1 rfl (by kernel_rfl) (j := 0) rfl ?_
    try refine nc ?_
    try refine nc ?_
    refine ret_own H 0 rfl fun w' H => ?_
    exact ret_of [v] ⟨rfl, trivial⟩ ⟨_, rfl, xs, hS, H.tail.tail⟩
  · intro D W L1 pre c _ h _; exact h.elim
theorem collectT_own {gf : FuncId} {lb : Array Value} {S Sp : List (List UInt8) → Prop} {M : List Eng.Item} (hb : bodyB Tryz.prog gf = true) (hit : IterAt Tryz.prog ok w0 gf lb encT S Sp M) (hSp : ∀ pre, Sp pre → pre.length ≤ 1000000000) (H : Eng.Own ok w0 w (M ++ L)) :
    Calls Tryz.prog 139 #[.func (.func gf) #[] lb] w fun e w' => ∃ v, e = .returned v ∧ ∃ xs, S xs ∧ Eng.Own ok w0 w' (.row v 28 1 xs.length (strs xs) :: (M ++ L)) := by
  refine enter (args := [.func (.func gf) #[] lb]) Tryz.func139 rfl Tryz.ntmps139 rfl rfl ?_
  try refine nc ?_
  try refine nc ?_
  refine call_rule (by kernel_rfl) (appendSeqT_own hb hit hSp H) fun v w1 hv => ?_
  try refine nc ?_
  exact ret_of [v] ⟨rfl, trivial⟩ ⟨_, rfl, hv⟩
theorem Next_own {t : List UInt8} (H : Eng.Own ok w0 w L) :
    Calls Tryz.prog 140 #[.string (bs t)] w fun e w' => ∃ v, e = .returned v ∧ ∃ b, v = .func (.func 185) #[] #[.pointer (some ⟨b, 0, none⟩)] ∧ Eng.Own ok w0 w' (.blk b [.string (bs t)] 28 :: L) := by
  refine enter (args := [.string (bs t)]) Tryz.func140 rfl Tryz.ntmps140 rfl rfl ?_
  try refine nc ?_
  refine own_box H [.string (bs t)] rfl fun b w1 H => ?_
  try refine nc ?_
  try refine nc ?_
  exact ret_of [_] ⟨rfl, trivial⟩ ⟨_, rfl, b, rfl, H⟩

noncomputable def parts_Of.f (x0 : List UInt8) : Option (List (List UInt8)) :=
  (term_Right.f x0).bind fun b => cond b ((nextM x0).bind fun xs => givenM (xs.length ≤ 1000000000) (some xs)) (some [])
theorem parts_Of_ok {ok : Nat → Prop} {w : World} {x0 : List UInt8} {r : List (List UInt8)} (h : parts_Of.f x0 = some r) :
    Calls Tryz.prog 107 #[.string (bs x0)] w fun e w' => ∃ v, e = .returned v ∧ (slR tStr w' (fun b => ok b ∨ w.heap.size ≤ b) v r ∧ Bel w.heap.size w w') := by
  have H : Eng.Own ok w w [] := Eng.Own.nil ok w
  unfold parts_Of.f at h
  obtain ⟨b, hb, h⟩ := bindS h
  refine enter (args := [.string (bs x0)]) Tryz.func107 rfl Tryz.ntmps107 rfl rfl ?_
  try refine nc ?_
  try refine nc ?_
  refine call_rule (by kernel_rfl) (term_Right_ok (ok := fun _ => False) hb) fun v w1 ⟨hv, hbel⟩ => ?_
  subst hv
  replace H := H.call hbel
  try refine nc ?_
  try refine nc ?_
  cases b with
  | false =>
    replace h := Option.some.inj h
    subst h
    refine cond_yes rfl ?_
    try refine nc ?_
    try refine nc ?_
    exact ret_of [.slice none 0 0] ⟨rfl, trivial⟩ ⟨_, rfl, nilR, H.frame⟩
  | true =>
    obtain ⟨xs, hxs, h⟩ := bindS h
    obtain ⟨hl, h⟩ := givenS h
    replace h := Option.some.inj h
    subst h
    refine cond_no rfl ?_
    try refine nc ?_
    try refine nc ?_
    refine call_rule (by kernel_rfl) (Next_own (t := x0) H) fun v w2 ⟨b, hv, H⟩ => ?_
    subst hv
    refine call_rule (by kernel_rfl) (collectT_own (L := []) (by kernel_rfl) (next_iter hxs) (fun pre ⟨rest, hr⟩ => by rw [← hr] at hl; simp at hl; omega) H) fun v w3 ⟨ys, hy, H⟩ => ?_
    subst hy
    replace H := H.freezeS 0 rfl
    try refine nc ?_
    try refine nc ?_
    exact ret_of [v] ⟨rfl, trivial⟩ ⟨_, rfl, H.outD 0 rfl, H.frame⟩
end Go.Proofs.YtfapphlhkfddoaaGreatDoor.G
/- One who knows terms: what is learnt. -/
namespace Go.Proofs.YtfapphlhkfddoaaGreatDoor.G
open Go.RowKit Go.Eng Go.Proofs Go.Proofs.YtfapphlhkfddoaaGreatDoor.Cut
set_option linter.unusedVariables false
set_option linter.unusedSimpArgs false
set_option maxRecDepth 20000
variable {ok : Nat → Prop} {w0 w : World} {L R : List Eng.Item}

/-- A text as a key. -/
abbrev txV (x : List UInt8) : Value := .string (bs x)
theorem bsB_eq (a b : List UInt8) : (bs a == bs b) = decide (a = b) := by
  show ((bs a).data == (bs b).data) = _
  rw [Bool.eq_iff_iff]
  simp [bs]
theorem keyTx : MKey Tryz.prog 28 txV where
  check em a w := run_keyB (P := Tryz.prog) (w := w) (em := em) 4 10000 28 (txV a) (by decide) (by kernel_rfl)
  eq a b w := by
    have h := run_eqB (P := Tryz.prog) (w := w) 4 10000 28 (txV a) (txV b) (bs a == bs b) (by decide) (by kernel_rfl)
    have e := bsB_eq a b
    rw [e] at h
    exact h
  desc := by
    have h : (match Tryz.prog.underlying 28 with | some .string => true | _ => false) = true := by kernel_rfl
    split at h
    · rename_i hu
      exact ⟨_, hu, .inl fun a b => congrArg some (bsB_eq a b)⟩
    · cases h
  stays a := by
    show (bs a == bs a) = true
    rw [bsB_eq]; simp
/-- All of a map is struck. -/
theorem own_clearMap {P : Program} {K : Value → World → Prop} {α : Type} {enc : α → Value} {l : List (α × Value)} {t ty kt et : TypeId} {consts : Array Bool} {b : Nat} (ht : mapB P t = some (kt, et)) (H : Eng.Own ok w0 w L) (i : Nat) (hi : L[i]? = some (.obj b (mapOk enc l)))
    (hk : ∀ w', Eng.Own ok w0 w' (L.set i (.obj b (mapOk enc []))) → K (.tuple #[]) w') : nBuiltin P true .clear [t] ty [.map (some b)] consts w K := by
  obtain ⟨o, ho, es, cl, rfl, he, _, _⟩ := H.obj i hi
  have hrun : (builtin .clear #[t] ty consts #[.map (some b)]).run P w = .ok (.value (.tuple #[])) (w.putObj b (.map #[] cl)) := by
    show (sv (Builtin.clear_ #[t] ty #[.map (some b)])).run P w = _
    refine sv_run ?_
    have hs := run_setObj (P := P) (o' := .map #[] cl) ho
    simp [Builtin.clear_, run_underlying_map ht, run_getObj ho, hs]
  unfold nBuiltin
  refine nOp_in ⟨fun _ => ?_, fun h => by cases h⟩
  show upon P K ((builtin .clear #[t] ty consts #[.map (some b)]).run P w)
  rw [hrun]
  exact hk _ (H.setObjAt i hi _ ⟨#[], cl, rfl, rfl, List.nodup_nil, fun e he => by simp at he⟩)
/-- One who knows terms, as it stands: known, elements by their exponents, what was asked. -/
abbrev knL (g bm bq : Nat) (v : Value) (cells : List Value) (M : List (List UInt8)) (E : List (List (List UInt8))) (R : List Eng.Item) : List Eng.Item :=
  .blk g [.map (some bm), v, .map (some bq)] 115 :: .obj bm (mapOk txV (M.map fun t => (t, Value.int .i64 1))) :: .row v 32 1 E.length cells :: .dat (dRows (tSl tStr) E cells) :: .obj bq (mapOk txV []) :: R
theorem getA_met (t : List UInt8) : ∀ M : List (List UInt8), getA t (M.map fun t => (t, Value.int .i64 1)) = if t ∈ M then some (.int .i64 1) else none
  | [] => rfl
  | x :: M => by
    have ih := getA_met t M
    show (if t = x then some (Value.int .i64 1) else getA t (M.map fun t => (t, Value.int .i64 1))) = _
    rw [ih]
    by_cases h : t = x
    · rw [if_pos h, if_pos (by rw [h]; exact List.mem_cons_self)]
    · rw [if_neg h]
      by_cases h2 : t ∈ M
      · rw [if_pos h2, if_pos (List.mem_cons_of_mem _ h2)]
      · rw [if_neg h2, if_neg (fun q => (List.mem_cons.1 q).elim h h2)]
theorem putA_met (t : List UInt8) : ∀ M : List (List UInt8), t ∉ M → putA t (Value.int .i64 1) (M.map fun t => (t, Value.int .i64 1)) = (M ++ [t]).map fun t => (t, Value.int .i64 1)
  | [], _ => rfl
  | x :: M, h => by
    have ih := putA_met t M (fun q => h (List.mem_cons_of_mem _ q))
    have hx : ¬ t = x := fun e => h (by rw [e]; exact List.mem_cons_self)
    show (if t = x then _ else (x, Value.int .i64 1) :: putA t (Value.int .i64 1) (M.map fun t => (t, Value.int .i64 1))) = _
    rw [if_neg hx, ih]; rfl
set_option maxHeartbeats 4000000 in
theorem learn_new {g bm bq : Nat} {v : Value} {cells : List Value} {M : List (List UInt8)} {E : List (List (List UInt8))} {c : UInt8} {r : List UInt8} {ps : List (List UInt8)} (H : Eng.Own ok w0 w (knL g bm bq v cells M E R)) (hn : c :: r ∉ M) (hps : parts_Of.f (c :: r) = some ps) (hE : E.length ≤ 1000000) :
    Calls Tryz.prog 71 #[.pointer (some ⟨g, 0, none⟩), .string (bs (c :: r))] w fun e w' => ∃ x, e = .returned x ∧ (x = .bool true ∧ ∃ v' cells', Eng.Own ok w0 w' (knL g bm bq v' cells' (M ++ [c :: r]) (if c = 101 then E ++ [ps] else E) R)) := by
  refine enter (args := [.pointer (some ⟨g, 0, none⟩), .string (bs (c :: r))]) Tryz.func71 rfl Tryz.ntmps71 rfl rfl ?_
  try refine nc ?_
  try refine nc ?_
  refine own_load H 0 rfl (by kernel_rfl) (j := 0) rfl ?_
  refine lookup_ruleV (kt := 28) (et := 3) (z := .int .i64 0) (by kernel_rfl) (by kernel_rfl) keyTx (c :: r) H 1 rfl (.int .i64 0) (by rw [getA_met, if_neg hn]; rfl) ?_
  try refine nc ?_
  try refine nc ?_
  refine cond_no rfl ?_
  try refine nc ?_
  try refine nc ?_
  refine own_load H 0 rfl (by kernel_rfl) (j := 0) rfl ?_
  refine mapUpdate_rule (kt := 28) (et := 3) (by kernel_rfl) keyTx (c :: r) (.int .i64 1) H 1 rfl fun w1 H => ?_
  replace H : Eng.Own ok w0 w1 (.blk g [.map (some bm), v, .map (some bq)] 115 :: .obj bm (mapOk txV (putA (c :: r) (Value.int .i64 1) (M.map fun t => (t, Value.int .i64 1)))) :: .row v 32 1 E.length cells :: .dat (dRows (tSl tStr) E cells) :: .obj bq (mapOk txV []) :: R) := H
  rw [putA_met _ _ hn] at H
  try refine nc ?_
  try refine nc ?_
  refine own_load H 0 rfl (by kernel_rfl) (j := 2) rfl ?_
  refine own_clearMap (kt := 28) (et := 4) (by kernel_rfl) H 4 rfl fun w2 H => ?_
  replace H : Eng.Own ok w0 w2 (knL g bm bq v cells (M ++ [c :: r]) E R) := H
  try refine nc ?_
  try refine nc ?_
  refine idxS_rule (by kernel_rfl) (show idxS (c :: r) (0 : Int) = some (c.toNat : Int) from rfl) ?_
  try refine nc ?_
  try refine nc ?_
  refine cond_of (fun hc => ?_) (fun hc => ?_)
  · have hc1 : c = 101 := by
      have := of_decide_eq_true (show decide ((c.toNat : Int) = 101) = true by simpa using hc)
      exact UInt8.toNat_inj.1 (by simpa using (show c.toNat = 101 by omega))
    rw [if_pos hc1]
    try refine nc ?_
    refine draw_rule [] (by kernel_rfl) (by kernel_rfl) H ?_
    refine c_load 0 rfl (by kernel_rfl) (j := 1) rfl ?_
    refine c_callS0 rfl (by kernel_rfl) (fun _ H => parts_Of_ok (ok := fun _ => False) hps) ?_
    intro A cc
    refine c_buildData (k := tSl tStr) (e := 32) (z := .slice none 0 0) [.slice A ps.length cc] [ps] (by kernel_rfl) (by kernel_rfl) (by kernel_rfl) rfl rfl rfl rfl rfl rfl (by decide) (fun _ _ H => ⟨[.slice A ps.length cc], [], rfl, ⟨_, rfl, H.dat 1 rfl⟩, rfl⟩) ?_
    intro gb
    refine c_appendD (k := tSl tStr) (e := 32) (z := .slice none 0 0) 24 4 5 0 rfl rfl rfl rfl (by kernel_rfl) (by kernel_rfl) rfl rfl (by simp only [List.length_cons, List.length_nil]; omega) rfl ?_
    intro A2 c2 cells2
    refine c_storeB 2 rfl (by kernel_rfl) [.slice A2 (E ++ [ps]).length c2] rfl rfl rfl rfl ?_
    intro w3 H
    try refine nc ?_
    try refine nc ?_
    exact ret_of [.bool true] ⟨rfl, trivial⟩ ⟨_, rfl, rfl, _, _, H.tail.tail⟩
  · have hc1 : c ≠ 101 := fun e => by rw [e] at hc; simp at hc
    rw [if_neg hc1]
    try refine nc ?_
    try refine nc ?_
    try refine nc ?_
    exact ret_of [.bool true] ⟨rfl, trivial⟩ ⟨_, rfl, rfl, v, cells, H⟩
theorem learn_old {g bm bq : Nat} {v : Value} {cells : List Value} {M : List (List UInt8)} {E : List (List (List UInt8))} {t : List UInt8} (H : Eng.Own ok w0 w (knL g bm bq v cells M E R)) (hn : t ∈ M) :
    Calls Tryz.prog 71 #[.pointer (some ⟨g, 0, none⟩), .string (bs t)] w fun e w' => ∃ x, e = .returned x ∧ (x = .bool false ∧ Eng.Own ok w0 w' (knL g bm bq v cells M E R)) := by
  refine enter (args := [.pointer (some ⟨g, 0, none⟩), .string (bs t)]) Tryz.func71 rfl Tryz.ntmps71 rfl rfl ?_
  try refine nc ?_
  try refine nc ?_
  refine own_load H 0 rfl (by kernel_rfl) (j := 0) rfl ?_
  refine lookup_ruleV (kt := 28) (et := 3) (z := .int .i64 0) (by kernel_rfl) (by kernel_rfl) keyTx t H 1 rfl (.int .i64 1) (by rw [getA_met, if_pos hn]; rfl) ?_
  try refine nc ?_
  try refine nc ?_
  refine cond_yes rfl ?_
  try refine nc ?_
  try refine nc ?_
  exact ret_of [.bool false] ⟨rfl, trivial⟩ ⟨_, rfl, rfl, H⟩
/-! All at once. -/
def seenM (M : List (List UInt8)) (E : List (List (List UInt8))) (t : List UInt8) (ps : List (List UInt8)) : List (List UInt8) × List (List (List UInt8)) := if t ∈ M then (M, E) else (M ++ [t], if t.head? = some 101 then E ++ [ps] else E)
theorem learn_any {g bm bq : Nat} {v : Value} {cells : List Value} {M : List (List UInt8)} {E : List (List (List UInt8))} {t : List UInt8} {ps : List (List UInt8)} (H : Eng.Own ok w0 w (knL g bm bq v cells M E R)) (ht : t ≠ []) (hps : parts_Of.f t = some ps) (hE : E.length ≤ 1000000) :
    Calls Tryz.prog 71 #[.pointer (some ⟨g, 0, none⟩), .string (bs t)] w fun e w' => ∃ x, e = .returned x ∧ (x = .bool (!decide (t ∈ M)) ∧ ∃ v' cells', Eng.Own ok w0 w' (knL g bm bq v' cells' (seenM M E t ps).1 (seenM M E t ps).2 R)) := by
  unfold seenM
  by_cases h : t ∈ M
  · rw [if_pos h, decide_eq_true h]
    exact (learn_old H h).mono fun e w' ⟨x, h1, h2, h3⟩ => ⟨x, h1, h2, v, cells, h3⟩
  · rw [if_neg h, decide_eq_false h]
    cases t with
    | nil => exact absurd rfl ht
    | cons c r =>
      refine (learn_new H h hps hE).mono fun e w' ⟨x, h1, h2, v', cells', h3⟩ => ⟨x, h1, h2, v', cells', ?_⟩
      have e : ((c :: r).head? = some 101) = (c = 101) := by simp
      simp only [e]
      exact h3
end Go.Proofs.YtfapphlhkfddoaaGreatDoor.G
/- One who knows terms, made of a row of them. -/
namespace Go.Proofs.YtfapphlhkfddoaaGreatDoor.G
open Go.RowKit Go.Eng Go.Proofs Go.Proofs.YtfapphlhkfddoaaGreatDoor.Cut
set_option linter.unusedVariables false
set_option linter.unusedSimpArgs false
set_option maxRecDepth 20000
variable {ok : Nat → Prop} {w0 w : World} {L R : List Eng.Item}

abbrev KnS : Type := List (List UInt8) × List (List (List UInt8))
noncomputable def knowM : List (List UInt8) → KnS → Option KnS
  | [], S => some S
  | t :: l, S => (term_Right.f t).bind fun b => cond b ((parts_Of.f t).bind fun ps => givenM (t ≠ []) (knowM l (seenM S.1 S.2 t ps))) (knowM l S)
theorem knowM_cons (t : List UInt8) (l : List (List UInt8)) (S : KnS) : knowM (t :: l) S = (term_Right.f t).bind fun b => cond b ((parts_Of.f t).bind fun ps => givenM (t ≠ []) (knowM l (seenM S.1 S.2 t ps))) (knowM l S) := rfl
theorem seen_len (M : List (List UInt8)) (E : List (List (List UInt8))) (t : List UInt8) (ps : List (List UInt8)) : (seenM M E t ps).2.length ≤ E.length + 1 := by
  unfold seenM
  split
  · show E.length ≤ _; omega
  · show (if _ then E ++ [ps] else E).length ≤ _
    split
    · simp
    · omega
theorem perm_kn {α : Type} (a b c d e : α) (R : List α) : (a :: b :: c :: d :: e :: R).Perm (c :: e :: b :: a :: d :: R) :=
  (List.perm_middle (l₁ := [a, b]) (l₂ := d :: e :: R)).trans (List.Perm.cons c ((List.perm_middle (l₁ := [a, b, d]) (l₂ := R)).trans (List.Perm.cons e (List.Perm.swap _ _ _))))
set_option maxHeartbeats 4000000 in
theorem KnOf_calls {l : List (List UInt8)} {v : Value} {S : KnS} (H : Eng.Own ok w0 w (.dat (dSl tStr v l) :: R)) (hl : l.length ≤ 1000000) (h : knowM l ([], []) = some S) :
    Calls Tryz.prog 68 #[v] w fun e w' => ∃ x, e = .returned x ∧ ∃ g bm bq v' cells', x = .pointer (some ⟨g, 0, none⟩) ∧ Eng.Own ok w0 w' (knL g bm bq v' cells' S.1 S.2 (.dat (dSl tStr v l) :: R)) := by
  obtain ⟨A, c, hA, hc⟩ := H.sl 0 rfl
  subst hA
  refine enter (args := [.slice A l.length c]) Tryz.func68 rfl Tryz.ntmps68 rfl rfl ?_
  try refine nc ?_
  try refine nc ?_
  refine makeMap_rule (enc := txV) H fun bm w1 H => ?_
  try refine nc ?_
  refine makeMap_rule (enc := txV) H fun bq w2 H => ?_
  try refine nc ?_
  refine own_box H [.map (some bm), .slice none 0 0, .map (some bq)] rfl fun g w3 H => ?_
  replace H := (H.nilRowD (tSl tStr) 32)
  have H0 : Eng.Own ok w0 w3 (knL g bm bq (.slice none 0 0) [] [] [] (.dat (dSl tStr (.slice A l.length c) l) :: R)) := H.perm (perm_kn _ _ _ _ _ _)
  try refine nc ?_
  try refine nc ?_
  refine loop_rule (fun k e w' => ∃ (i : Nat) (T : KnS) (v' : Value) (cells' : List Value), i + k = l.length ∧ T.2.length ≤ i ∧ knowM (l.drop i) T = some S ∧ e = [(3, .pointer (some ⟨g, 0, none⟩)), (10, .slice A l.length c), (11, .int .i64 (l.length : Nat)), (12, .int .i64 (i : Int))] ∧ Eng.Own ok w0 w' (knL g bm bq v' cells' T.1 T.2 (.dat (dSl tStr (.slice A l.length c) l) :: R)))
    l.length [(3, .pointer (some ⟨g, 0, none⟩)), (10, .slice A l.length c), (11, .int .i64 (l.length : Nat)), (12, .int .i64 ((0 : Nat) : Int))] ⟨rfl, rfl, rfl, rfl, trivial⟩ ⟨0, ([], []), _, _, by omega, by simp, by rw [List.drop_zero]; exact h, rfl, H0⟩ ?_
  rintro k e w4 ⟨i, T, v', cells', hik, hTl, hM, rfl, H⟩
  try refine nc ?_
  try refine nc ?_
  try refine nc ?_
  refine cond_of (fun hc => ?_) (fun hc => ?_)
  · have hlt : i < l.length := by have := of_decide_eq_true hc; omega
    have hx : idxL l (i : Int) = some l[i] := idxL_lt hlt
    rw [List.drop_eq_getElem_cons hlt, knowM_cons] at hM
    obtain ⟨b, hb, hM⟩ := bindS hM
    try refine nc ?_
    try refine nc ?_
    obtain ⟨a, cs, hA2, hR, H⟩ := H.elemI 5 rfl hx
    subst hA2
    obtain rfl : cs = [.string (bs l[i])] := hR
    refine idxA_rule (e := 28) 1 _ (by kernel_rfl) (by kernel_rfl) (idxL_some hx).1 (idxL_some hx).2.1 ?_
    refine own_loadD H 0 rfl 0 (by kernel_rfl) rfl ?_
    replace H := H.tail
    try refine nc ?_
    try refine nc ?_
    refine call_rule (by kernel_rfl) (term_Right_ok (ok := fun _ => False) hb) fun v5 w5 ⟨hv5, hbel⟩ => ?_
    subst hv5
    replace H := H.call hbel
    try refine nc ?_
    try refine nc ?_
    cases b with
    | false =>
      have hM : knowM (l.drop (i + 1)) T = some S := hM
      refine cond_no rfl ?_
      try refine nc ?_
      try refine nc ?_
      refine again_in (k - 1) (by omega) [(3, .pointer (some ⟨g, 0, none⟩)), (10, .slice (some a) l.length c), (11, .int .i64 (l.length : Nat)), (12, .int .i64 ((i + 1 : Nat) : Int))] ⟨rfl, rfl, rfl, ?_, trivial⟩ ⟨i + 1, T, _, _, by omega, by omega, hM, rfl, H⟩
      show some (Value.int .i64 (IntKind.i64.wrap ((i : Int) + 1))) = _
      rw [Eng.i64_id (by omega) (by omega)]; rfl
    | true =>
      obtain ⟨ps, hps, hM⟩ := bindS hM
      obtain ⟨hne, hM⟩ := givenS hM
      refine cond_yes rfl ?_
      try refine nc ?_
      try refine nc ?_
      refine call_rule (by kernel_rfl) (learn_any H hne hps (by omega)) fun v6 w6 ⟨hv6, v7, cells7, H⟩ => ?_
      subst hv6
      try refine nc ?_
      try refine nc ?_
      refine again_in (k - 1) (by omega) [(3, .pointer (some ⟨g, 0, none⟩)), (10, .slice (some a) l.length c), (11, .int .i64 (l.length : Nat)), (12, .int .i64 ((i + 1 : Nat) : Int))] ⟨rfl, rfl, rfl, ?_, trivial⟩ ⟨i + 1, seenM T.1 T.2 l[i] ps, v7, cells7, by omega, by have := seen_len T.1 T.2 l[i] ps; omega, hM, rfl, H⟩
      show some (Value.int .i64 (IntKind.i64.wrap ((i : Int) + 1))) = _
      rw [Eng.i64_id (by omega) (by omega)]; rfl
  · have hge : i = l.length := by have := of_decide_eq_false hc; omega
    rw [List.drop_of_length_le (by omega)] at hM
    obtain rfl : T = S := Option.some.inj hM
    try refine nc ?_
    try refine nc ?_
    exact ret_of [.pointer (some ⟨g, 0, none⟩)] ⟨rfl, trivial⟩ ⟨_, rfl, g, bm, bq, v', cells', rfl, H⟩
end Go.Proofs.YtfapphlhkfddoaaGreatDoor.G
/- What can be made of what is known. -/
namespace Go.Proofs.YtfapphlhkfddoaaGreatDoor.G
open Go.RowKit Go.Eng Go.Proofs Go.Proofs.YtfapphlhkfddoaaGreatDoor.Cut
set_option linter.unusedVariables false
set_option linter.unusedSimpArgs false
set_option maxRecDepth 20000
variable {ok : Nat → Prop} {w0 w : World} {L R : List Eng.Item}

abbrev Tx1 : Type := List UInt8
def allG (f : Tx1 → Option Bool) : List Tx1 → Option Bool
  | [] => some true
  | t :: l => (f t).bind fun b => if b = true then allG f l else some false
/-- An element's exponents without those of another one. -/
def outL : List Tx1 → List Tx1 → Option (List Tx1)
  | [], left => some left
  | t :: base, left => if t ∈ left then outL base (left.eraseIdx (left.idxOf t)) else none
def anyG (f : Tx1 → Option Bool) (l : List Tx1) : List (List Tx1) → Option Bool
  | [] => some false
  | base :: E => match outL base l with
    | none => anyG f l E
    | some left => (allG f left).bind fun b => if b = true then some true else anyG f l E
def raisesG (f : Tx1 → Option Bool) (E : List (List Tx1)) (l : List Tx1) : Option Bool := (allG f l).bind fun b => if b = true then some true else anyG f l E
noncomputable def makesG (M : List Tx1) (E : List (List Tx1)) : Nat → Tx1 → Option Bool
  | 0, _ => none
  | n + 1, t => if t ∈ M then some true else match t with
    | [] => none
    | c :: r => if c = 103 ∨ c = 117 ∨ c = 116 then some true else if c = 110 ∨ c = 105 then some false else (parts_Of.f (c :: r)).bind fun ps => givenM (ps.length ≤ 1000000) (if c = 101 then raisesG (makesG M E n) E ps else allG (makesG M E n) ps)
theorem allG_mono {f g : Tx1 → Option Bool} (h : ∀ t b, f t = some b → g t = some b) : ∀ (l : List Tx1) (b : Bool), allG f l = some b → allG g l = some b
  | [], b, hb => hb
  | t :: l, b, hb => by
    obtain ⟨x, hx, hb⟩ := bindS (show (f t).bind _ = some b from hb)
    show (g t).bind _ = some b
    rw [h t x hx, Option.bind_some]
    split
    · rename_i hx1; rw [if_pos hx1] at hb; exact allG_mono h l b hb
    · rename_i hx1; rw [if_neg hx1] at hb; exact hb
theorem anyG_mono {f g : Tx1 → Option Bool} (h : ∀ t b, f t = some b → g t = some b) (l : List Tx1) : ∀ (E : List (List Tx1)) (b : Bool), anyG f l E = some b → anyG g l E = some b
  | [], b, hb => hb
  | base :: E, b, hb => by
    unfold anyG at hb ⊢
    cases ho : outL base l with
    | none => rw [ho] at hb; exact anyG_mono h l E b hb
    | some left =>
      rw [ho] at hb
      obtain ⟨x, hx, hb⟩ := bindS hb
      simp only
      rw [allG_mono h left x hx, Option.bind_some]
      split
      · rename_i hx1; rw [if_pos hx1] at hb; exact hb
      · rename_i hx1; rw [if_neg hx1] at hb; exact anyG_mono h l E b hb
theorem raisesG_mono {f g : Tx1 → Option Bool} (h : ∀ t b, f t = some b → g t = some b) (E : List (List Tx1)) (l : List Tx1) (b : Bool) (hb : raisesG f E l = some b) : raisesG g E l = some b := by
  unfold raisesG at hb ⊢
  obtain ⟨x, hx, hb⟩ := bindS hb
  rw [allG_mono h l x hx, Option.bind_some]
  split
  · rename_i hx1; rw [if_pos hx1] at hb; exact hb
  · rename_i hx1; rw [if_neg hx1] at hb; exact anyG_mono h l E b hb
theorem makesG_succ (M : List Tx1) (E : List (List Tx1)) : ∀ (n : Nat) (t : Tx1) (b : Bool), makesG M E n t = some b → makesG M E (n + 1) t = some b
  | 0, t, b, h => by cases h
  | n + 1, t, b, h => by
    have ih := makesG_succ M E n
    unfold makesG at h ⊢
    by_cases hm : t ∈ M
    · rw [if_pos hm] at h ⊢; exact h
    rw [if_neg hm] at h ⊢
    cases t with
    | nil => cases h
    | cons c r =>
      simp only at h ⊢
      by_cases h1 : c = 103 ∨ c = 117 ∨ c = 116
      · rw [if_pos h1] at h ⊢; exact h
      rw [if_neg h1] at h ⊢
      by_cases h2 : c = 110 ∨ c = 105
      · rw [if_pos h2] at h ⊢; exact h
      rw [if_neg h2] at h ⊢
      obtain ⟨ps, hps, h⟩ := bindS h
      rw [hps, Option.bind_some]
      obtain ⟨hpl, h⟩ := givenS h
      rw [given_of hpl]
      by_cases h3 : c = 101
      · rw [if_pos h3] at h ⊢; exact raisesG_mono ih E ps b h
      · rw [if_neg h3] at h ⊢; exact allG_mono ih ps b h
theorem makesG_mono {M : List Tx1} {E : List (List Tx1)} {t : Tx1} {b : Bool} {n m : Nat} (hm : n ≤ m) (h : makesG M E n t = some b) : makesG M E m t = some b := by
  obtain ⟨k, rfl⟩ : ∃ k, m = n + k := ⟨m - n, by omega⟩
  clear hm
  induction k with
  | zero => exact h
  | succ k ih => exact makesG_succ M E _ t b ih
theorem makesG_same {M : List Tx1} {E : List (List Tx1)} {t : Tx1} {a b : Bool} {n m : Nat} (h : makesG M E n t = some a) (h' : makesG M E m t = some b) : a = b := by
  have h1 := makesG_mono (Nat.le_max_left n m) h
  have h2 := makesG_mono (Nat.le_max_right n m) h'
  rw [h1] at h2
  exact Option.some.inj h2
/-- What was asked stands there rightly. -/
def askOk (M : List Tx1) (E : List (List Tx1)) (o : Obj) : Prop := ∃ l : List (Tx1 × Value), mapOk txV l o ∧ ∀ p ∈ l, ∃ b n, p.2 = .bool b ∧ makesG M E n p.1 = some b
theorem Own.reObj (H : Eng.Own ok w0 w L) (i : Nat) {b : Nat} {φ ψ : Obj → Prop} (hi : L[i]? = some (.obj b φ)) (h : ∀ o, w.heap[b]? = some o → φ o → ψ o) : Eng.Own ok w0 w (L.set i (.obj b ψ)) := by
  obtain ⟨A, B, e, hs⟩ := list_split hi
  have H' := H
  rw [e] at H'
  obtain ⟨o, ho, hφ⟩ := H'.objAt
  rw [hs]
  exact H'.setOne (g := b) rfl rfl H'.below rfl (fun _ => ⟨_, ho, h o ho hφ⟩) (fun _ _ => rfl)
/-- The first of some terms that cannot be made. -/
theorem IndexTermG_own (H : Eng.Own ok w0 w L) (i : Nat) {v : Value} {ls : List Tx1} {tf : Tx1 → Option Bool} {b : Bool} (hi : L[i]? = some (.dat (dSl tStr v ls))) (hl : ls.length ≤ 140737488355328) (ha : allG tf ls = some b) {f : FuncId} {cap : Array Value} (hb : bodyB Tryz.prog f = true)
    (hf : ∀ (w' : World) (x : Tx1) (y : Bool), tf x = some y → Eng.Own ok w0 w' L → Calls Tryz.prog f ((#[] ++ [Value.string (bs x)].toArray) ++ cap) w' fun e w'' => ∃ r, e = .returned r ∧ (r = .bool (!y) ∧ Eng.Own ok w0 w'' L)) :
    Calls Tryz.prog 186 #[v, .func (.func f) #[] cap] w fun e w' => ∃ r, e = .returned r ∧ ∃ j : Int, r = .int .i64 j ∧ (b = true → j = -1) ∧ (b = false → 0 ≤ j) ∧ Eng.Own ok w0 w' L := by
  obtain ⟨A, c, hA, hc⟩ := H.sl i hi
  subst hA
  refine enter (args := [.slice A ls.length c, .func (.func f) #[] cap]) Tryz.func186 rfl Tryz.ntmps186 rfl rfl ?_
  try refine nc ?_
  try refine nc ?_
  refine loop_rule (fun k e w' => ∃ j : Nat, j + k = ls.length ∧ e = [(0, .slice A ls.length c), (1, .func (.func f) #[] cap), (7, .int .i64 (ls.length : Nat)), (8, .int .i64 (j : Int))] ∧ allG tf (ls.drop j) = some b ∧ Eng.Own ok w0 w' L) ls.length [(0, .slice A ls.length c), (1, .func (.func f) #[] cap), (7, .int .i64 (ls.length : Nat)), (8, .int .i64 ((0 : Nat) : Int))] ⟨rfl, rfl, rfl, rfl, trivial⟩ ⟨0, by omega, rfl, by rw [List.drop_zero]; exact ha, H⟩ ?_
  rintro k e w' ⟨j, hjk, rfl, ht, H⟩
  try refine nc ?_
  try refine nc ?_
  refine cond_of (fun hc => ?_) (fun hc => ?_)
  · have hlt : j < ls.length := by have := of_decide_eq_true hc; omega
    rw [List.drop_eq_getElem_cons hlt] at ht
    obtain ⟨y, hy, ht⟩ := bindS (show (tf ls[j]).bind _ = some b from ht)
    try refine nc ?_
    try refine nc ?_
    obtain ⟨a, c', cs, hA, hR, H'⟩ := H.elem i hi j hlt
    cases hA
    obtain rfl : cs = [.string (bs ls[j])] := hR
    refine indexAddr_rule (e := 28) 1 j (by kernel_rfl) (by kernel_rfl) (fun _ => hlt) ?_
    refine own_loadD H' 0 rfl 0 (by kernel_rfl) rfl ?_
    refine callV_rule hb (hf w' ls[j] y hy H) fun v w2 ⟨hv, H⟩ => ?_
    subst hv
    try refine nc ?_
    try refine nc ?_
    cases y with
    | false =>
      refine cond_yes rfl ?_
      try refine nc ?_
      try refine nc ?_
      obtain rfl : false = b := Option.some.inj ht
      exact ret_of [.int .i64 (j : Nat)] ⟨rfl, trivial⟩ ⟨_, rfl, (j : Int), rfl, (fun h => by cases h), (fun _ => by omega), H⟩
    | true =>
      refine cond_no rfl ?_
      try refine nc ?_
      try refine nc ?_
      refine again_in (k - 1) (by omega) [(0, .slice (some a) ls.length c), (1, .func (.func f) #[] cap), (7, .int .i64 (ls.length : Nat)), (8, .int .i64 ((j + 1 : Nat) : Int))] ⟨rfl, rfl, rfl, ?_, trivial⟩ ⟨j + 1, by omega, rfl, ht, H⟩
      show some (Value.int .i64 (IntKind.i64.wrap ((j : Int) + 1))) = _
      rw [Eng.i64_id (by omega) (by omega)]; rfl
  · have hge : j = ls.length := by have := of_decide_eq_false hc; omega
    rw [List.drop_of_length_le (by omega)] at ht
    obtain rfl : true = b := Option.some.inj ht
    try refine nc ?_
    try refine nc ?_
    exact ret_of [.int .i64 (-1)] ⟨rfl, trivial⟩ ⟨_, rfl, -1, rfl, (fun _ => rfl), (fun h => by cases h), H⟩
theorem ContainsTermG_own (H : Eng.Own ok w0 w L) (i : Nat) {v : Value} {ls : List Tx1} {tf : Tx1 → Option Bool} {b : Bool} (hi : L[i]? = some (.dat (dSl tStr v ls))) (hl : ls.length ≤ 140737488355328) (ha : allG tf ls = some b) {f : FuncId} {cap : Array Value} (hb : bodyB Tryz.prog f = true)
    (hf : ∀ (w' : World) (x : Tx1) (y : Bool), tf x = some y → Eng.Own ok w0 w' L → Calls Tryz.prog f ((#[] ++ [Value.string (bs x)].toArray) ++ cap) w' fun e w'' => ∃ r, e = .returned r ∧ (r = .bool (!y) ∧ Eng.Own ok w0 w'' L)) :
    Calls Tryz.prog 144 #[v, .func (.func f) #[] cap] w fun e w' => ∃ r, e = .returned r ∧ (r = .bool (!b) ∧ Eng.Own ok w0 w' L) := by
  obtain ⟨A, c, hA, hc⟩ := H.sl i hi
  subst hA
  refine enter (args := [.slice A ls.length c, .func (.func f) #[] cap]) Tryz.func144 rfl Tryz.ntmps144 rfl rfl ?_
  try refine nc ?_
  try refine nc ?_
  refine call_rule (by kernel_rfl) (IndexTermG_own H i hi hl ha hb hf) fun v2 w2 ⟨j, hv2, h1, h2, H⟩ => ?_
  subst hv2
  try refine nc ?_
  try refine nc ?_
  refine ret_of [.bool (!b)] ⟨?_, trivial⟩ ⟨_, rfl, rfl, H⟩
  show some (Value.bool (decide (j ≥ 0))) = some (Value.bool (!b))
  cases b with
  | true => rw [h1 rfl]; rfl
  | false => rw [decide_eq_true (h2 rfl)]; rfl
end Go.Proofs.YtfapphlhkfddoaaGreatDoor.G
/- A row of terms of one's own: where one stands, without one of them. -/
namespace Go.Proofs.YtfapphlhkfddoaaGreatDoor.G
open Go.RowKit Go.Eng Go.Proofs Go.Proofs.YtfapphlhkfddoaaGreatDoor.Cut Go.Sort
set_option linter.unusedVariables false
set_option linter.unusedSimpArgs false
set_option maxRecDepth 20000
variable {ok : Nat → Prop} {w0 w : World} {L R A B : List Eng.Item}

theorem deleteT_own {v : Value} {e : TypeId} {xs : List (List UInt8)} {i : Nat} (hi : i < xs.length) (hl : xs.length ≤ 1000000) (H : Eng.Own ok w0 w (A ++ .row v e 1 xs.length (strs xs) :: B)) :
    Calls Tryz.prog 143 #[v, .int .i64 (i : Int), .int .i64 ((i + 1 : Nat) : Int)] w fun ee w' => ∃ u, ee = .returned u ∧ Eng.Own ok w0 w' (A ++ .row u e 1 (xs.eraseIdx i).length (strs (xs.eraseIdx i)) :: B) := by
  have hrow : qRow w e 1 v xs.length (strs xs) := H.all (.row v e 1 xs.length (strs xs)) (by simp)
  rcases hrow.2 with ⟨h0, A', hv, _⟩ | ⟨q, off, cap, cur, hv, hb, hnc, hcm, hcs, ht⟩
  · omega
  rw [Nat.mul_one] at hv hcs ht
  rw [Nat.mul_one] at ht
  have hH : Holds encStr w q off xs.toArray := holds1_of (enc := encStr) (xs := xs) hb ht
  subst hv
  refine (AnyG.slices_Delete_string Tryz.deleteT q off cap i (i + 1) xs w hH hnc (by unfold maxLen at hcm; omega) (by omega) (by omega)).mono ?_
  rintro ee w' ⟨rfl, m, rfl⟩
  have hel : (xs.eraseIdx i).length = xs.length - 1 := by rw [List.length_eraseIdx, if_pos hi]
  have hee : xs.eraseIdx i = xs.take i ++ xs.drop (i + 1) := List.eraseIdx_eq_take_drop_succ _ _
  have hdl : (xs.take i ++ xs.drop (i + 1) ++ List.replicate (i + 1 - i) ([] : List UInt8)).length = xs.length := by simp; omega
  refine ⟨_, rfl, ?_⟩
  have e0 : xs.length - (i + 1 - i) = (xs.eraseIdx i).length := by omega
  rw [e0]
  rw [← grow_empty (putRow encStr (Sort.ahead w m) q off _)]
  refine H.setRow (grown_sort1 _) ?_ ?_ (.inl rfl)
  · show w.drawn ≤ w.drawn + m
    omega
  · refine ⟨by simp [strs], .inr ⟨q, off, cap, _, by rw [Nat.mul_one], heap_sort1 _ hb, by omega, hcm, by simp [putCells, hcs], ?_⟩⟩
    have := take_sort1 (enc := encStr) cur off (xs.take i ++ xs.drop (i + 1) ++ List.replicate (i + 1 - i) ([] : List UInt8)).toArray (by
      rw [hcs]
      simp only [List.size_toArray, hdl]
      omega)
    simp only [List.size_toArray, hdl] at this
    rw [Nat.mul_one, Nat.mul_one, show (xs.eraseIdx i).length = min (xs.eraseIdx i).length xs.length by omega, ← List.take_take, this, hee]
    have h3 : (xs.take i ++ xs.drop (i + 1) ++ List.replicate (i + 1 - i) ([] : List UInt8)).take (xs.eraseIdx i).length = xs.take i ++ xs.drop (i + 1) := by rw [← hee]; exact List.take_left' rfl
    show List.take _ (List.map encStr _) = _
    rw [← List.map_take]
    show List.map encStr (List.take (xs.take i ++ xs.drop (i + 1)).length (xs.take i ++ xs.drop (i + 1) ++ List.replicate (i + 1 - i) ([] : List UInt8))) = _
    rw [List.take_left' rfl]
    rfl
theorem idxFrom_eq (t : List UInt8) : ∀ (xs : List (List UInt8)) (i : Nat), Lib.idxFromS (xs.map bs) (bs t) i = if t ∈ xs then ((i + xs.idxOf t : Nat) : Int) else -1
  | [], i => rfl
  | x :: xs, i => by
    have ih := idxFrom_eq t xs (i + 1)
    show (if bs x = bs t then (i : Int) else Lib.idxFromS (xs.map bs) (bs t) (i + 1)) = _
    have hinj : bs x = bs t ↔ x = t := by
      have := bsB_eq x t
      constructor
      · intro h; rw [h] at this; rw [bsB_eq] at this; simpa using this.symm
      · intro h; rw [h]
    by_cases h : x = t
    · rw [if_pos (hinj.2 h), if_pos (by rw [h]; exact List.mem_cons_self), h]
      simp
    · rw [if_neg (fun q => h (hinj.1 q)), ih]
      by_cases h2 : t ∈ xs
      · rw [if_pos h2, if_pos (List.mem_cons_of_mem _ h2), show (x :: xs).idxOf t = xs.idxOf t + 1 by rw [List.idxOf_cons, show (x == t) = false from beq_eq_false_iff_ne.2 h]; rfl]
        congr 1; omega
      · rw [if_neg h2, if_neg (fun q => (List.mem_cons.1 q).elim (fun e => h e.symm) h2)]
theorem indexT_own {v : Value} {e : TypeId} {xs : List (List UInt8)} {t : List UInt8} (i : Nat) (hi : L[i]? = some (.row v e 1 xs.length (strs xs))) (hl : xs.length ≤ 1000000) (H : Eng.Own ok w0 w L) :
    Calls Tryz.prog 142 #[v, .string (bs t)] w fun ee w' => ∃ u, ee = .returned u ∧ (u = .int .i64 (if t ∈ xs then ((xs.idxOf t : Nat) : Int) else -1) ∧ Eng.Own ok w0 w' L) := by
  have hrow : qRow w e 1 v xs.length (strs xs) := H.at hi
  have hid : Lib.idxOfS (xs.map bs) (bs t) = if t ∈ xs then ((xs.idxOf t : Nat) : Int) else -1 := by
    have := idxFrom_eq t xs 0
    simpa [Lib.idxOfS] using this
  by_cases hx : xs = []
  · subst hx
    have hv : ∃ p c, v = .slice p 0 c := by
      rcases hrow.2 with ⟨h0, A', hv, _⟩ | ⟨q, off, cap, cur, hv, _⟩
      · exact ⟨_, _, hv⟩
      · exact ⟨_, _, hv⟩
    obtain ⟨p, c, rfl⟩ := hv
    exact (AnyG.slices_Index_string_empty Tryz.indexT p c (bs t) w).mono fun ee w' ⟨h1, h2⟩ => ⟨_, h1, rfl, by rw [h2]; exact H⟩
  · have hpos : 0 < xs.length := List.length_pos_iff.2 hx
    rcases hrow.2 with ⟨h0, A', hv, _⟩ | ⟨q, off, cap, cur, hv, hb, hnc, hcm, hcs, ht⟩
    · omega
    subst hv
    have hom : off * 1 = off := Nat.mul_one off
    rw [hom] at ht ⊢
    rw [Nat.mul_one] at ht
    refine (AnyG.slices_Index_string Tryz.indexT q off xs.length cap (xs.map bs) (bs t) w (by simp) (by omega) ?_).mono fun ee w' ⟨h1, h2⟩ => ⟨_, h1, ?_, by rw [h2]; exact H⟩
    · intro j hj
      have hj2 : j < xs.length := by simpa using hj
      have := qRow_cell (g := q) (o := off) hb ht j (.string (bs xs[j])) (by simp [strs, hj2])
      rw [add_at] at this
      rw [this]
      simp [hj2]
    · rw [List.take_of_length_le (by simp), hid]
theorem cloneT_own {u : Value} {xs : List (List UInt8)} (i : Nat) (hi : L[i]? = some (.dat (dSl tStr u xs))) (hl : xs.length ≤ 1000000) (H : Eng.Own ok w0 w L) :
    Calls Tryz.prog 141 #[u] w fun e w' => ∃ r, e = .returned r ∧ Eng.Own ok w0 w' (.row r 28 1 xs.length (strs xs) :: L) := by
  obtain ⟨A, c, hA, hc, h0⟩ := H.dat i hi
  subst hA
  refine enter (args := [.slice A xs.length c]) Tryz.func141 rfl Tryz.ntmps141 rfl rfl ?_
  try refine nc ?_
  try refine nc ?_
  refine eqlSl_rule (by kernel_rfl) ?_
  try refine nc ?_
  try refine nc ?_
  cases A with
  | none =>
    have hx : xs = [] := by
      rcases h0 with ⟨h, _⟩ | ⟨a, h, _⟩
      · exact h
      · cases h
    subst hx
    refine cond_yes rfl ?_
    try refine nc ?_
    try refine nc ?_
    exact ret_of [.slice none 0 0] ⟨rfl, trivial⟩ ⟨_, rfl, H.nilRow 28 1⟩
  | some a =>
    refine cond_no rfl ?_
    try refine nc ?_
    try refine nc ?_
    refine own_buildEmpty (e := 28) (sz := 1) H (by kernel_rfl) (by kernel_rfl) fun v w1 H => ?_
    refine own_appendSl (k := tStr) (e := 28) (z := .string ⟨#[]⟩) (by_ := 16) H 0 (i + 1) rfl hi (by kernel_rfl) (by kernel_rfl) rfl rfl (by omega) (by omega) ?_
    intro v' w2 news hn H
    have := strs_of hn
    subst this
    try refine nc ?_
    try refine nc ?_
    refine ret_of [v'] ⟨rfl, trivial⟩ ⟨_, rfl, ?_⟩
    have e1 : 0 + xs.length = xs.length := Nat.zero_add _
    rw [e1] at H
    exact H
end Go.Proofs.YtfapphlhkfddoaaGreatDoor.G
/- What can be made: the walk. -/
namespace Go.Proofs.YtfapphlhkfddoaaGreatDoor.G
open Go.RowKit Go.Eng Go.Proofs Go.Proofs.YtfapphlhkfddoaaGreatDoor.Cut Go.Sort
set_option linter.unusedVariables false
set_option linter.unusedSimpArgs false
set_option maxRecDepth 20000
variable {ok : Nat → Prop} {w0 w : World} {L R : List Eng.Item}

abbrev mkL (g bm bq : Nat) (ve : Value) (M : List Tx1) (E : List (List Tx1)) (R : List Eng.Item) : List Eng.Item :=
  .blk g [.map (some bm), ve, .map (some bq)] 115 :: .obj bm (mapOk txV (M.map fun t => (t, Value.int .i64 1))) :: .dat (dSl (tSl tStr) ve E) :: .obj bq (askOk M E) :: R
def MK (ok : Nat → Prop) (w0 : World) (g bm bq : Nat) (ve : Value) (M : List Tx1) (E : List (List Tx1)) (n : Nat) : Prop :=
  ∀ (w : World) (R : List Eng.Item) (t : Tx1) (b : Bool), makesG M E n t = some b → Eng.Own ok w0 w (mkL g bm bq ve M E R) → Calls Tryz.prog 72 #[.pointer (some ⟨g, 0, none⟩), .string (bs t)] w fun e w' => ∃ r, e = .returned r ∧ (r = .bool b ∧ Eng.Own ok w0 w' (mkL g bm bq ve M E R))
variable {g bm bq n : Nat} {ve : Value} {M : List Tx1} {E : List (List Tx1)}
theorem mk_in {x : Eng.Item} (H : Eng.Own ok w0 w (x :: mkL g bm bq ve M E R)) : Eng.Own ok w0 w (mkL g bm bq ve M E (x :: R)) := H.perm (List.perm_middle (l₁ := [_, _, _, _])).symm
theorem mk_out {x : Eng.Item} (H : Eng.Own ok w0 w (mkL g bm bq ve M E (x :: R))) : Eng.Own ok w0 w (x :: mkL g bm bq ve M E R) := H.perm (List.perm_middle (l₁ := [_, _, _, _]))
theorem mk_drop {x : Eng.Item} (H : Eng.Own ok w0 w (mkL g bm bq ve M E (x :: R))) : Eng.Own ok w0 w (mkL g bm bq ve M E R) := (mk_out H).tail
theorem all1_calls (hm : MK ok w0 g bm bq ve M E n) {B : Nat} {x : Tx1} {y : Bool} (hx : makesG M E n x = some y) (H : Eng.Own ok w0 w (mkL g bm bq ve M E (.blk B [.pointer (some ⟨g, 0, none⟩)] 109 :: R))) :
    Calls Tryz.prog 145 #[.string (bs x), .pointer (some ⟨B, 0, none⟩)] w fun e w' => ∃ r, e = .returned r ∧ (r = .bool (!y) ∧ Eng.Own ok w0 w' (mkL g bm bq ve M E (.blk B [.pointer (some ⟨g, 0, none⟩)] 109 :: R))) := by
  refine enter (args := [.string (bs x), .pointer (some ⟨B, 0, none⟩)]) Tryz.func145 rfl Tryz.ntmps145 rfl rfl ?_
  try refine nc ?_
  try refine nc ?_
  refine own_load H 4 rfl (by kernel_rfl) (j := 0) rfl ?_
  refine call_rule (by kernel_rfl) (hm w _ x y hx H) fun v1 w1 ⟨hv1, H⟩ => ?_
  subst hv1
  try refine nc ?_
  try refine nc ?_
  exact ret_of [.bool (!y)] ⟨rfl, trivial⟩ ⟨_, rfl, rfl, H⟩
theorem all_calls (hm : MK ok w0 g bm bq ve M E n) {v : Value} {l : List Tx1} {b : Bool} (hl : l.length ≤ 1000000) (hb : allG (makesG M E n) l = some b) (H : Eng.Own ok w0 w (mkL g bm bq ve M E (.dat (dSl tStr v l) :: R))) :
    Calls Tryz.prog 109 #[.pointer (some ⟨g, 0, none⟩), v] w fun e w' => ∃ r, e = .returned r ∧ (r = .bool b ∧ Eng.Own ok w0 w' (mkL g bm bq ve M E (.dat (dSl tStr v l) :: R))) := by
  obtain ⟨A, c, hA, _⟩ := H.sl 4 rfl
  subst hA
  refine enter (args := [.pointer (some ⟨g, 0, none⟩), .slice A l.length c]) Tryz.func109 rfl Tryz.ntmps109 rfl rfl ?_
  try refine nc ?_
  refine own_box H [.pointer (some ⟨g, 0, none⟩)] rfl fun B w1 H => ?_
  replace H := mk_in H
  try refine nc ?_
  try refine nc ?_
  refine call_rule (by kernel_rfl) (ContainsTermG_own H 5 rfl (by omega) hb (f := 145) (cap := #[.pointer (some ⟨B, 0, none⟩)]) (by kernel_rfl) (fun w' x y hx H => all1_calls hm hx H)) fun v2 w2 ⟨hv2, H⟩ => ?_
  subst hv2
  try refine nc ?_
  try refine nc ?_
  refine ret_of [.bool b] ⟨?_, trivial⟩ ⟨_, rfl, rfl, mk_drop H⟩
  show some (Value.bool (!(!b))) = _
  rw [Bool.not_not]
theorem outL_cons (t : Tx1) (base left : List Tx1) : outL (t :: base) left = if t ∈ left then outL base (left.eraseIdx (left.idxOf t)) else none := rfl
theorem deleteT_at {A B : List Eng.Item} {v : Value} {e : TypeId} {xs : List (List UInt8)} {i : Nat} {j : Int} (hj : j = ((i + 1 : Nat) : Int)) (hi : i < xs.length) (hl : xs.length ≤ 1000000) (H : Eng.Own ok w0 w (A ++ .row v e 1 xs.length (strs xs) :: B)) :
    Calls Tryz.prog 143 #[v, .int .i64 (i : Int), .int .i64 j] w fun ee w' => ∃ u, ee = .returned u ∧ Eng.Own ok w0 w' (A ++ .row u e 1 (xs.eraseIdx i).length (strs (xs.eraseIdx i)) :: B) := by
  subst hj
  exact deleteT_own hi hl H
set_option maxHeartbeats 8000000 in
theorem raises_calls (hm : MK ok w0 g bm bq ve M E n) {v : Value} {l : List Tx1} {b : Bool} (hl : l.length ≤ 1000000) (hE : E.length ≤ 1000000) (hEl : ∀ x ∈ E, x.length ≤ 1000000) (hb : raisesG (makesG M E n) E l = some b) (H : Eng.Own ok w0 w (mkL g bm bq ve M E (.dat (dSl tStr v l) :: R))) :
    Calls Tryz.prog 108 #[.pointer (some ⟨g, 0, none⟩), v] w fun e w' => ∃ r, e = .returned r ∧ (r = .bool b ∧ Eng.Own ok w0 w' (mkL g bm bq ve M E (.dat (dSl tStr v l) :: R))) := by
  obtain ⟨A, c, hA, _⟩ := H.sl 4 rfl
  subst hA
  obtain ⟨Ae, ce, hAe, _⟩ := H.sl 2 rfl
  subst hAe
  unfold raisesG at hb
  obtain ⟨b0, hb0, hb⟩ := bindS hb
  refine enter (args := [.pointer (some ⟨g, 0, none⟩), .slice A l.length c]) Tryz.func108 rfl Tryz.ntmps108 rfl rfl ?_
  try refine nc ?_
  refine nc_scope ?_
  try refine nc ?_
  try refine nc ?_
  refine call_rule (by kernel_rfl) (all_calls hm hl hb0 H) fun v1 w1 ⟨hv1, H⟩ => ?_
  subst hv1
  try refine nc ?_
  try refine nc ?_
  cases b0 with
  | true =>
    obtain rfl : true = b := Option.some.inj hb
    refine cond_yes rfl ?_
    try refine nc ?_
    try refine nc ?_
    exact ret_of [.bool true] ⟨rfl, trivial⟩ ⟨_, rfl, rfl, H⟩
  | false =>
    have hb : anyG (makesG M E n) l E = some b := hb
    refine cond_no rfl ?_
    try refine nc ?_
    try refine nc ?_
    try refine nc ?_
    refine own_load H 0 rfl (by kernel_rfl) (j := 1) rfl ?_
    replace H : Eng.Own ok w0 w1 (mkL g bm bq (.slice Ae E.length ce) M E (.dat (dSl tStr (.slice A l.length c) l) :: R)) := H
    try refine nc ?_
    try refine nc ?_
    refine loop_rule (fun k e w' => ∃ (i : Nat), i + k = E.length ∧ anyG (makesG M E n) l (E.drop i) = some b ∧ e = [(0, .pointer (some ⟨g, 0, none⟩)), (1, .slice A l.length c), (17, .slice Ae E.length ce), (18, .int .i64 (E.length : Nat)), (19, .int .i64 (i : Int))] ∧ Eng.Own ok w0 w' (mkL g bm bq (.slice Ae E.length ce) M E (.dat (dSl tStr (.slice A l.length c) l) :: R))) E.length
      [(0, .pointer (some ⟨g, 0, none⟩)), (1, .slice A l.length c), (17, .slice Ae E.length ce), (18, .int .i64 (E.length : Nat)), (19, .int .i64 ((0 : Nat) : Int))] ⟨rfl, rfl, rfl, rfl, rfl, trivial⟩ ⟨0, by omega, by rw [List.drop_zero]; exact hb, rfl, H⟩ ?_
    clear H hb hb0
    rintro k e w2 ⟨i, hik, hb, rfl, H⟩
    try refine nc ?_
    try refine nc ?_
    refine cond_of (fun hc => ?_) (fun hc => ?_)
    · have hlt : i < E.length := by have := of_decide_eq_true hc; omega
      have hx : idxL E (i : Int) = some E[i] := idxL_lt hlt
      have hbl := hEl _ (List.getElem_mem hlt)
      rw [List.drop_eq_getElem_cons hlt] at hb
      unfold anyG at hb
      generalize hbase : E[i] = base at hx hb hbl
      try refine nc ?_
      try refine nc ?_
      obtain ⟨a, cs, hA2, hR, H⟩ := H.elemI 2 rfl hx
      subst hA2
      obtain ⟨vb, rfl, hvb⟩ := hR
      refine idxA_rule (e := 32) 1 _ (by kernel_rfl) (by kernel_rfl) (idxL_some hx).1 (idxL_some hx).2.1 ?_
      refine own_loadD H 0 rfl 0 (by kernel_rfl) rfl ?_
      replace H := mk_in (H.tail.addDat (dSl tStr vb base) hvb)
      obtain ⟨Ab, cb, hAb, _⟩ := H.sl 4 rfl
      subst hAb
      try refine nc ?_
      try refine nc ?_
      refine call_rule (by kernel_rfl) (cloneT_own 5 rfl hl H) fun v3 w3 H => ?_
      replace H := mk_in H
      try refine nc ?_
      try refine nc ?_
      refine loop_rule (fun k e w' => ∃ (j : Nat) (left : List Tx1) (vl : Value) (Ab' : Option Addr), j + k = base.length ∧ left.length ≤ 1000000 ∧ outL (base.drop j) left = outL base l ∧ e = [(0, .pointer (some ⟨g, 0, none⟩)), (1, .slice A l.length c), (7, vl), (17, .slice (some a) E.length ce), (18, .int .i64 (E.length : Nat)), (19, .int .i64 (i : Int)), (25, .slice Ab' base.length cb), (26, .int .i64 (base.length : Nat)), (27, .int .i64 (j : Int))] ∧
          Eng.Own ok w0 w' (mkL g bm bq (.slice (some a) E.length ce) M E (.row vl 28 1 left.length (strs left) :: .dat (dSl tStr (.slice Ab' base.length cb) base) :: .dat (dSl tStr (.slice A l.length c) l) :: R))) base.length
        [(0, .pointer (some ⟨g, 0, none⟩)), (1, .slice A l.length c), (7, v3), (17, .slice (some a) E.length ce), (18, .int .i64 (E.length : Nat)), (19, .int .i64 (i : Int)), (25, .slice Ab base.length cb), (26, .int .i64 (base.length : Nat)), (27, .int .i64 ((0 : Nat) : Int))] ⟨rfl, rfl, rfl, rfl, rfl, rfl, rfl, rfl, rfl, trivial⟩ ⟨0, l, v3, Ab, by omega, hl, by rw [List.drop_zero], rfl, H⟩ ?_
      clear H hvb
      rintro k2 e w4 ⟨j, left, vl, Ab', hjk, hll, hout, rfl, H⟩
      try refine nc ?_
      try refine nc ?_
      refine cond_of (fun hc2 => ?_) (fun hc2 => ?_)
      · have hlt2 : j < base.length := by have := of_decide_eq_true hc2; omega
        have hx2 : idxL base (j : Int) = some base[j] := idxL_lt hlt2
        rw [List.drop_eq_getElem_cons hlt2] at hout
        rw [outL_cons] at hout
        try refine nc ?_
        try refine nc ?_
        obtain ⟨a2, cs, hA3, hR, H⟩ := H.elemI 5 rfl hx2
        subst hA3
        obtain rfl : cs = [.string (bs base[j])] := hR
        refine idxA_rule (e := 28) 1 _ (by kernel_rfl) (by kernel_rfl) (idxL_some hx2).1 (idxL_some hx2).2.1 ?_
        refine own_loadD H 0 rfl 0 (by kernel_rfl) rfl ?_
        replace H := H.tail
        try refine nc ?_
        try refine nc ?_
        refine call_rule (by kernel_rfl) (indexT_own (t := base[j]) 4 rfl hll H) fun v5 w5 ⟨hv5, H⟩ => ?_
        subst hv5
        by_cases hin : base[j] ∈ left
        · rw [if_pos hin]
          rw [if_pos hin] at hout
          have hil : left.idxOf base[j] < left.length := List.idxOf_lt_length_of_mem hin
          try refine nc ?_
          try refine nc ?_
          refine cond_of (fun hc3 => ?_) (fun hc3 => ?_)
          · exfalso
            have := of_decide_eq_true hc3
            omega
          try refine nc ?_
          try refine nc ?_
          refine call_rule (by kernel_rfl) (deleteT_at (A := [_, _, _, _]) (by rw [Eng.i64_id (by omega) (by omega)]; omega) hil hll H) fun v6 w6 H => ?_
          try refine nc ?_
          try refine nc ?_
          refine again_in (k2 - 1) (by omega) [(0, .pointer (some ⟨g, 0, none⟩)), (1, .slice A l.length c), (7, v6), (17, .slice (some a) E.length ce), (18, .int .i64 (E.length : Nat)), (19, .int .i64 (i : Int)), (25, .slice (some a2) base.length cb), (26, .int .i64 (base.length : Nat)), (27, .int .i64 ((j + 1 : Nat) : Int))] ⟨rfl, rfl, rfl, rfl, rfl, rfl, rfl, rfl, ?_, trivial⟩ ⟨j + 1, left.eraseIdx (left.idxOf base[j]), v6, some a2, by omega, by rw [List.length_eraseIdx]; split <;> omega, hout, rfl, H⟩
          show some (Value.int .i64 (IntKind.i64.wrap ((j : Int) + 1))) = _
          rw [Eng.i64_id (by omega) (by omega)]; rfl
        · rw [if_neg hin]
          rw [if_neg hin] at hout
          rw [← hout] at hb
          have hb : anyG (makesG M E n) l (E.drop (i + 1)) = some b := hb
          try refine nc ?_
          try refine nc ?_
          refine cond_yes rfl ?_
          try refine nc ?_
          try refine nc ?_
          refine again_in (k - 1) (by omega) [(0, .pointer (some ⟨g, 0, none⟩)), (1, .slice A l.length c), (17, .slice (some a) E.length ce), (18, .int .i64 (E.length : Nat)), (19, .int .i64 ((i + 1 : Nat) : Int))] ⟨rfl, rfl, rfl, rfl, ?_, trivial⟩ ⟨i + 1, by omega, hb, rfl, mk_drop (mk_drop H)⟩
          show some (Value.int .i64 (IntKind.i64.wrap ((i : Int) + 1))) = _
          rw [Eng.i64_id (by omega) (by omega)]; rfl
      · have hge2 : j = base.length := by have := of_decide_eq_false hc2; omega
        rw [List.drop_of_length_le (by omega)] at hout
        have hout : some left = outL base l := hout
        rw [← hout] at hb
        obtain ⟨b2, hb2, hb⟩ := bindS hb
        replace H := H.freezeS 4 rfl
        replace H : Eng.Own ok w0 w4 (mkL g bm bq (.slice (some a) E.length ce) M E (.dat (dSl tStr vl left) :: .dat (dSl tStr (.slice Ab' base.length cb) base) :: .dat (dSl tStr (.slice A l.length c) l) :: R)) := H
        try refine nc ?_
        try refine nc ?_
        refine call_rule (by kernel_rfl) (all_calls hm hll hb2 H) fun v7 w7 ⟨hv7, H⟩ => ?_
        subst hv7
        try refine nc ?_
        try refine nc ?_
        cases b2 with
        | true =>
          obtain rfl : true = b := Option.some.inj hb
          refine cond_yes rfl ?_
          try refine nc ?_
          try refine nc ?_
          exact ret_of [.bool true] ⟨rfl, trivial⟩ ⟨_, rfl, rfl, mk_drop (mk_drop H)⟩
        | false =>
          have hb : anyG (makesG M E n) l (E.drop (i + 1)) = some b := hb
          refine cond_no rfl ?_
          try refine nc ?_
          try refine nc ?_
          refine again_in (k - 1) (by omega) [(0, .pointer (some ⟨g, 0, none⟩)), (1, .slice A l.length c), (17, .slice (some a) E.length ce), (18, .int .i64 (E.length : Nat)), (19, .int .i64 ((i + 1 : Nat) : Int))] ⟨rfl, rfl, rfl, rfl, ?_, trivial⟩ ⟨i + 1, by omega, hb, rfl, mk_drop (mk_drop H)⟩
          show some (Value.int .i64 (IntKind.i64.wrap ((i : Int) + 1))) = _
          rw [Eng.i64_id (by omega) (by omega)]; rfl
    · have hge : i = E.length := by have := of_decide_eq_false hc; omega
      rw [List.drop_of_length_le (by omega)] at hb
      obtain rfl : false = b := Option.some.inj hb
      try refine nc ?_
      try refine nc ?_
      try refine nc ?_
      exact ret_of [.bool false] ⟨rfl, trivial⟩ ⟨_, rfl, rfl, H⟩
theorem mem_put {p : Tx1 × Value} {t : Tx1} {v : Value} : ∀ {l : List (Tx1 × Value)}, p ∈ putA t v l → p = (t, v) ∨ p ∈ l
  | [], h => .inl (List.mem_singleton.1 h)
  | (x, u) :: l, h => by
    have h : p ∈ (if t = x then (t, v) :: l else (x, u) :: putA t v l) := h
    by_cases e : t = x
    · rw [if_pos e] at h
      rcases List.mem_cons.1 h with q | q
      · exact .inl q
      · exact .inr (List.mem_cons_of_mem _ q)
    · rw [if_neg e] at h
      rcases List.mem_cons.1 h with q | q
      · exact .inr (by rw [q]; exact List.mem_cons_self)
      · rcases mem_put q with q | q
        · exact .inl q
        · exact .inr (List.mem_cons_of_mem _ q)
theorem get_mem {t : Tx1} {v : Value} : ∀ {l : List (Tx1 × Value)}, getA t l = some v → (t, v) ∈ l
  | [], h => by cases h
  | (x, u) :: l, h => by
    have h : (if t = x then some u else getA t l) = some v := h
    by_cases e : t = x
    · rw [if_pos e] at h
      cases h
      rw [e]; exact List.mem_cons_self
    · rw [if_neg e] at h
      exact List.mem_cons_of_mem _ (get_mem h)
theorem makesG_cons (c : UInt8) (r : List UInt8) (n : Nat) (hm : c :: r ∉ M) : makesG M E (n + 1) (c :: r) = if c = 103 ∨ c = 117 ∨ c = 116 then some true else if c = 110 ∨ c = 105 then some false else (parts_Of.f (c :: r)).bind fun ps => givenM (ps.length ≤ 1000000) (if c = 101 then raisesG (makesG M E n) E ps else allG (makesG M E n) ps) := by
  show (if c :: r ∈ M then _ else _) = _
  rw [if_neg hm]
set_option maxHeartbeats 8000000 in
theorem makes_calls (hE : E.length ≤ 1000000) (hEl : ∀ x ∈ E, x.length ≤ 1000000) : ∀ n, MK ok w0 g bm bq ve M E n := by
  intro n
  induction n with
  | zero => intro w R t b h; cases h
  | succ n ih =>
  intro w R t b h H
  obtain ⟨Ae, ce, hAe, _⟩ := H.sl 2 rfl
  subst hAe
  refine enter (args := [.pointer (some ⟨g, 0, none⟩), .string (bs t)]) Tryz.func72 rfl Tryz.ntmps72 rfl rfl ?_
  try refine nc ?_
  try refine nc ?_
  refine own_load H 0 rfl (by kernel_rfl) (j := 0) rfl ?_
  by_cases hm : t ∈ M
  · have hb : true = b := by
      have h : (if t ∈ M then some true else _) = some b := h
      rw [if_pos hm] at h; exact Option.some.inj h
    subst hb
    refine lookup_ruleV (kt := 28) (et := 3) (z := .int .i64 0) (by kernel_rfl) (by kernel_rfl) keyTx t H 1 rfl (.int .i64 1) (by rw [getA_met, if_pos hm]; rfl) ?_
    try refine nc ?_
    try refine nc ?_
    refine cond_yes rfl ?_
    try refine nc ?_
    try refine nc ?_
    exact ret_of [.bool true] ⟨rfl, trivial⟩ ⟨_, rfl, rfl, H⟩
  refine lookup_ruleV (kt := 28) (et := 3) (z := .int .i64 0) (by kernel_rfl) (by kernel_rfl) keyTx t H 1 rfl (.int .i64 0) (by rw [getA_met, if_neg hm]; rfl) ?_
  try refine nc ?_
  try refine nc ?_
  refine cond_no rfl ?_
  cases t with
  | nil =>
    have h : (if ([] : Tx1) ∈ M then some true else none) = some b := h
    rw [if_neg hm] at h; cases h
  | cons c r =>
  rw [makesG_cons c r n hm] at h
  try refine nc ?_
  try refine nc ?_
  refine idxS_rule (by kernel_rfl) (show idxS (c :: r) (0 : Int) = some (c.toNat : Int) from rfl) ?_
  have hb : ∀ k : Nat, c.toNat ≠ k → ((c.toNat : Int) == (k : Int)) = false := fun k hk => beq_eq_false_iff_ne.2 (by omega)
  have hk : ∀ {k : UInt8}, c ≠ k → c.toNat ≠ k.toNat := fun hk e => hk (UInt8.toNat_inj.1 e)
  try refine nc ?_
  try refine nc ?_
  by_cases g1 : c = 103
  · subst g1
    obtain rfl : true = b := Option.some.inj (by rw [if_pos (.inl rfl)] at h; exact h)
    refine cond_yes rfl ?_
    try refine nc ?_
    try refine nc ?_
    refine cond_yes rfl ?_
    try refine nc ?_
    try refine nc ?_
    exact ret_of [.bool true] ⟨rfl, trivial⟩ ⟨_, rfl, rfl, H⟩
  refine cond_of (b := ((c.toNat : Int) == ((103 : Nat) : Int))) (fun hc => ?_) (fun hc => ?_)
  · rw [hb 103 (hk g1)] at hc; cases hc
  try refine nc ?_
  try refine nc ?_
  by_cases g2 : c = 117
  · subst g2
    obtain rfl : true = b := Option.some.inj (by rw [if_pos (.inr (.inl rfl))] at h; exact h)
    refine cond_yes rfl ?_
    try refine nc ?_
    try refine nc ?_
    refine cond_yes rfl ?_
    try refine nc ?_
    try refine nc ?_
    exact ret_of [.bool true] ⟨rfl, trivial⟩ ⟨_, rfl, rfl, H⟩
  refine cond_of (b := ((c.toNat : Int) == ((117 : Nat) : Int))) (fun hc => ?_) (fun hc => ?_)
  · rw [hb 117 (hk g2)] at hc; cases hc
  try refine nc ?_
  try refine nc ?_
  by_cases g3 : c = 116
  · subst g3
    obtain rfl : true = b := Option.some.inj (by rw [if_pos (.inr (.inr rfl))] at h; exact h)
    refine cond_yes rfl ?_
    try refine nc ?_
    try refine nc ?_
    exact ret_of [.bool true] ⟨rfl, trivial⟩ ⟨_, rfl, rfl, H⟩
  refine cond_of (b := ((c.toNat : Int) == ((116 : Nat) : Int))) (fun hc => ?_) (fun hc => ?_)
  · rw [hb 116 (hk g3)] at hc; cases hc
  try refine nc ?_
  try refine nc ?_
  rw [if_neg (by rintro (e | e | e); exact g1 e; exact g2 e; exact g3 e)] at h
  by_cases g4 : c = 110
  · subst g4
    obtain rfl : false = b := Option.some.inj (by rw [if_pos (.inl rfl)] at h; exact h)
    refine cond_yes rfl ?_
    try refine nc ?_
    try refine nc ?_
    refine cond_yes rfl ?_
    try refine nc ?_
    try refine nc ?_
    exact ret_of [.bool false] ⟨rfl, trivial⟩ ⟨_, rfl, rfl, H⟩
  refine cond_of (b := ((c.toNat : Int) == ((110 : Nat) : Int))) (fun hc => ?_) (fun hc => ?_)
  · rw [hb 110 (hk g4)] at hc; cases hc
  try refine nc ?_
  try refine nc ?_
  by_cases g5 : c = 105
  · subst g5
    obtain rfl : false = b := Option.some.inj (by rw [if_pos (.inr rfl)] at h; exact h)
    refine cond_yes rfl ?_
    try refine nc ?_
    try refine nc ?_
    exact ret_of [.bool false] ⟨rfl, trivial⟩ ⟨_, rfl, rfl, H⟩
  refine cond_of (b := ((c.toNat : Int) == ((105 : Nat) : Int))) (fun hc => ?_) (fun hc => ?_)
  · rw [hb 105 (hk g5)] at hc; cases hc
  try refine nc ?_
  try refine nc ?_
  rw [if_neg (by rintro (e | e); exact g4 e; exact g5 e)] at h
  obtain ⟨ps, hps, h⟩ := bindS h
  obtain ⟨hpl, h⟩ := givenS h
  refine own_load H 0 rfl (by kernel_rfl) (j := 2) rfl ?_
  obtain ⟨o, ho, la, hla, hgood⟩ := H.obj 3 rfl
  have Ha : Eng.Own ok w0 w (.blk g [.map (some bm), .slice Ae E.length ce, .map (some bq)] 115 :: .obj bm (mapOk txV (M.map fun t => (t, Value.int .i64 1))) :: .dat (dSl (tSl tStr) (.slice Ae E.length ce) E) :: .obj bq (mapOk txV la) :: R) := Own.reObj H 3 rfl (fun o' ho' _ => by rw [ho] at ho'; cases ho'; exact hla)
  refine lookup_rule2 (kt := 28) (et := 4) (z := .bool false) (by kernel_rfl) (by kernel_rfl) keyTx (c :: r) Ha 3 rfl ?_
  cases hget : getA (c :: r) la with
  | some u =>
    obtain ⟨b', n', hu, hb'⟩ := hgood _ (get_mem hget)
    have hu : u = .bool b' := hu
    subst hu
    have hbb : b' = b := makesG_same hb' (show makesG M E (n + 1) (c :: r) = some b by
      rw [makesG_cons c r n hm, if_neg (by rintro (e | e | e); exact g1 e; exact g2 e; exact g3 e), if_neg (by rintro (e | e); exact g4 e; exact g5 e), hps, Option.bind_some, given_of hpl]; exact h)
    subst hbb
    try refine nc ?_
    try refine nc ?_
    refine cond_yes rfl ?_
    try refine nc ?_
    try refine nc ?_
    exact ret_of [.bool b'] ⟨rfl, trivial⟩ ⟨_, rfl, rfl, H⟩
  | none =>
  try refine nc ?_
  try refine nc ?_
  refine cond_no rfl ?_
  try refine nc ?_
  try refine nc ?_
  refine idxS_rule (by kernel_rfl) (show idxS (c :: r) (0 : Int) = some (c.toNat : Int) from rfl) ?_
  try refine nc ?_
  try refine nc ?_
  have hfin : makesG M E (n + 1) (c :: r) = some b := by
    rw [makesG_cons c r n hm, if_neg (by rintro (e | e | e); exact g1 e; exact g2 e; exact g3 e), if_neg (by rintro (e | e); exact g4 e; exact g5 e), hps, Option.bind_some, given_of hpl]; exact h
  by_cases g6 : c = 101
  · subst g6
    have h : raisesG (makesG M E n) E ps = some b := by rw [if_pos rfl] at h; exact h
    refine cond_yes rfl ?_
    try refine nc ?_
    try refine nc ?_
    refine call_rule (by kernel_rfl) (parts_Of_ok (ok := fun _ => False) hps) fun v3 w3 ⟨hv3, hb3⟩ => ?_
    replace H := H.callDats hb3 [dSl tStr v3 ps] ⟨(slR_any hv3), trivial⟩
    replace H := mk_in H
    refine call_rule (by kernel_rfl) (raises_calls ih hpl hE hEl h H) fun v4 w3 ⟨hv4, H⟩ => ?_
    subst hv4
    replace H := mk_drop H
    try refine nc ?_
    try refine nc ?_
    refine own_load H 0 rfl (by kernel_rfl) (j := 2) rfl ?_
    obtain ⟨o, ho, la, hla, hgood⟩ := H.obj 3 rfl
    have Ha : Eng.Own ok w0 w3 (.blk g [.map (some bm), .slice Ae E.length ce, .map (some bq)] 115 :: .obj bm (mapOk txV (M.map fun t => (t, Value.int .i64 1))) :: .dat (dSl (tSl tStr) (.slice Ae E.length ce) E) :: .obj bq (mapOk txV la) :: R) := Own.reObj H 3 rfl (fun o' ho' _ => by rw [ho] at ho'; cases ho'; exact hla)
    refine mapUpdate_rule (kt := 28) (et := 4) (by kernel_rfl) keyTx (101 :: r) (.bool b) Ha 3 rfl fun w4 H => ?_
    replace H : Eng.Own ok w0 w4 (.blk g [.map (some bm), .slice Ae E.length ce, .map (some bq)] 115 :: .obj bm (mapOk txV (M.map fun t => (t, Value.int .i64 1))) :: .dat (dSl (tSl tStr) (.slice Ae E.length ce) E) :: .obj bq (mapOk txV (putA (101 :: r) (.bool b) la)) :: R) := H
    have Hb : Eng.Own ok w0 w4 (mkL g bm bq (.slice Ae E.length ce) M E R) := Own.reObj H 3 rfl (fun o' _ ho' => ⟨_, ho', fun p hp => by
      rcases mem_put hp with q | q
      · rw [q]
        refine ⟨b, n + 1, rfl, ?_⟩
        exact hfin
      · exact hgood p q⟩)
    try refine nc ?_
    try refine nc ?_
    exact ret_of [.bool b] ⟨rfl, trivial⟩ ⟨_, rfl, rfl, Hb⟩
  · have h : allG (makesG M E n) ps = some b := by rw [if_neg g6] at h; exact h
    refine cond_of (b := ((c.toNat : Int) == ((101 : Nat) : Int))) (fun hc => ?_) (fun hc => ?_)
    · rw [hb 101 (hk g6)] at hc; cases hc
    try refine nc ?_
    try refine nc ?_
    refine call_rule (by kernel_rfl) (parts_Of_ok (ok := fun _ => False) hps) fun v3 w3 ⟨hv3, hb3⟩ => ?_
    replace H := H.callDats hb3 [dSl tStr v3 ps] ⟨(slR_any hv3), trivial⟩
    replace H := mk_in H
    refine call_rule (by kernel_rfl) (all_calls ih hpl h H) fun v4 w3 ⟨hv4, H⟩ => ?_
    subst hv4
    replace H := mk_drop H
    try refine nc ?_
    try refine nc ?_
    refine own_load H 0 rfl (by kernel_rfl) (j := 2) rfl ?_
    obtain ⟨o, ho, la, hla, hgood⟩ := H.obj 3 rfl
    have Ha : Eng.Own ok w0 w3 (.blk g [.map (some bm), .slice Ae E.length ce, .map (some bq)] 115 :: .obj bm (mapOk txV (M.map fun t => (t, Value.int .i64 1))) :: .dat (dSl (tSl tStr) (.slice Ae E.length ce) E) :: .obj bq (mapOk txV la) :: R) := Own.reObj H 3 rfl (fun o' ho' _ => by rw [ho] at ho'; cases ho'; exact hla)
    refine mapUpdate_rule (kt := 28) (et := 4) (by kernel_rfl) keyTx (c :: r) (.bool b) Ha 3 rfl fun w4 H => ?_
    replace H : Eng.Own ok w0 w4 (.blk g [.map (some bm), .slice Ae E.length ce, .map (some bq)] 115 :: .obj bm (mapOk txV (M.map fun t => (t, Value.int .i64 1))) :: .dat (dSl (tSl tStr) (.slice Ae E.length ce) E) :: .obj bq (mapOk txV (putA (c :: r) (.bool b) la)) :: R) := H
    have Hb : Eng.Own ok w0 w4 (mkL g bm bq (.slice Ae E.length ce) M E R) := Own.reObj H 3 rfl (fun o' _ ho' => ⟨_, ho', fun p hp => by
      rcases mem_put hp with q | q
      · rw [q]
        refine ⟨b, n + 1, rfl, ?_⟩
        exact hfin
      · exact hgood p q⟩)
    try refine nc ?_
    try refine nc ?_
    exact ret_of [.bool b] ⟨rfl, trivial⟩ ⟨_, rfl, rfl, Hb⟩
theorem mk_of {v : Value} {cells : List Value} (H : Eng.Own ok w0 w (knL g bm bq v cells M E R)) : Eng.Own ok w0 w (mkL g bm bq v M E R) := by
  have H1 := H.freeze (k := tSl tStr) 2 3 rfl rfl
  have H2 := Own.reObj (ψ := askOk M E) H1 4 rfl (fun o _ ho => ⟨[], ho, fun p hp => by cases hp⟩)
  exact (H2.perm (List.perm_middle (l₁ := [_, _, _]) (l₂ := _ :: R))).tail
theorem knowM_len : ∀ (l : List Tx1) (S T : KnS), knowM l S = some T → T.2.length ≤ S.2.length + l.length
  | [], S, T, h => by cases h; simp
  | t :: l, S, T, h => by
    rw [knowM_cons] at h
    obtain ⟨b, hb, h⟩ := bindS h
    cases b with
    | false =>
      have := knowM_len l S T h
      rw [List.length_cons]; omega
    | true =>
      obtain ⟨ps, hps, h⟩ := bindS h
      obtain ⟨hne, h⟩ := givenS h
      have h1 := knowM_len l _ T h
      have h2 := seen_len S.1 S.2 t ps
      have h1 : T.2.length ≤ (seenM S.1 S.2 t ps).2.length + l.length := h1
      rw [List.length_cons]; omega
set_option maxHeartbeats 2000000 in
theorem KnDerives_ok {ok : Nat → Prop} {w : World} {v : Value} {l : List Tx1} {S : KnS} {t : Tx1} {n : Nat} {b : Bool} (hv : slR tStr w ok v l) (hl : l.length ≤ 1000000) (h : knowM l ([], []) = some S) (hEl : ∀ x ∈ S.2, x.length ≤ 1000000) (hr : term_Right.f t = some true) (hmk : makesG S.1 S.2 n t = some b) :
    Calls Tryz.prog 32 #[v, .string (bs t)] w fun e w' => ∃ x, e = .returned x ∧ (x = .bool b ∧ Bel w.heap.size w w') := by
  have H : Eng.Own ok w w [.dat (dSl tStr v l)] := own_one hv
  obtain ⟨A, c, hA, hc⟩ := H.sl 0 rfl
  subst hA
  have hE : S.2.length ≤ 1000000 := by have := knowM_len l _ S h; simp at this; omega
  refine enter (args := [.slice A l.length c, .string (bs t)]) Tryz.func32 rfl Tryz.ntmps32 rfl rfl ?_
  try refine nc ?_
  try refine nc ?_
  refine call_rule (by kernel_rfl) (term_Right_ok (ok := fun _ => False) hr) fun v1 w1 ⟨hv1, hbel⟩ => ?_
  subst hv1
  replace H := H.call hbel
  refine call_rule (by kernel_rfl) (KnOf_calls H hl h) fun v2 w2 ⟨g, bm, bq, v', cells', hv2, H⟩ => ?_
  subst hv2
  replace H := mk_of H
  refine call_rule (by kernel_rfl) (makes_calls hE hEl n w2 _ t b hmk H) fun v3 w3 ⟨hv3, H⟩ => ?_
  subst hv3
  try refine nc ?_
  try refine nc ?_
  exact ret_of [.bool b] ⟨rfl, trivial⟩ ⟨_, rfl, rfl, H.frame⟩
end Go.Proofs.YtfapphlhkfddoaaGreatDoor.G
