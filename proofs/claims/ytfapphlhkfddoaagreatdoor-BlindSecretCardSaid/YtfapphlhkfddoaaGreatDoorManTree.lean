/- One joins a tree. -/
import Derived.Test.YtfapphlhkfddoaaGreatDoorTreeDeep
import Derived.Test.YtfapphlhkfddoaaGreatDoorTreeSub
import Derived.Test.YtfapphlhkfddoaaGreatDoorHasP
import Derived.Test.YtfapphlhkfddoaaGreatDoorSorts1
namespace Go.Proofs.YtfapphlhkfddoaaGreatDoor.G
open Go.RowKit Go.Eng Go.Proofs Go.Proofs.YtfapphlhkfddoaaGreatDoor.Cut
set_option linter.unusedVariables false
set_option maxRecDepth 20000
variable {ok : Nat → Prop} {w0 w : World} {L R : List Eng.Item}

/-- Where one joins: the place, and what stands round it; the first one of least depth, from the right. -/
def chooT (x : Tr × (Tr → Tr)) (st : Option (Tr × (Tr → Tr))) : Option (Tr × (Tr → Tr)) := match st with
  | none => some x
  | some y => if x.1.deep < y.1.deep then some x else some y
def walkT : Tr → (Tr → Tr) → Option (Tr × (Tr → Tr)) → Option (Tr × (Tr → Tr))
  | .leaf p, c, st => chooT (.leaf p, c) st
  | .two l r, c, st => if fullT (.two l r) = true then chooT (.two l r, c) st else walkT l (fun x => c (.two x r)) (walkT r (fun x => c (.two l x)) st)
def joinT (T : Tr) (p : Int) : Tr := match walkT T id none with
  | some (S, g) => g (.two S (.leaf p))
  | none => T
def chooA (x : TrA × (TrA → TrA)) (st : Option (TrA × (TrA → TrA))) : Option (TrA × (TrA → TrA)) := match st with
  | none => some x
  | some y => if x.1.tr.deep < y.1.tr.deep then some x else some y
def walkA : TrA → (TrA → TrA) → Option (TrA × (TrA → TrA)) → Option (TrA × (TrA → TrA))
  | .leaf b p, c, st => chooA (.leaf b p, c) st
  | .two b l r, c, st => if fullT (TrA.two b l r).tr = true then chooA (.two b l r, c) st else walkA l (fun x => c (.two b x r)) (walkA r (fun x => c (.two b l x)) st)
/-! What is picked is a part of the tree. -/
def goodC (A0 : TrA) (x : TrA × (TrA → TrA)) : Prop := x.2 x.1 = A0 ∧ ∃ X Y, ∀ Q : TrA, Q.root = x.1.root → (x.2 Q).root = A0.root ∧ (x.2 Q).items = X ++ Q.items ++ Y
theorem chooA_P {P : TrA × (TrA → TrA) → Prop} {x : TrA × (TrA → TrA)} {st : Option (TrA × (TrA → TrA))} (hx : P x) (hst : ∀ y, st = some y → P y) : ∀ y, chooA x st = some y → P y := by
  intro y h
  unfold chooA at h
  cases st with
  | none => cases h; exact hx
  | some z =>
    simp only at h
    split at h
    · cases h; exact hx
    · exact hst y h
theorem walkA_good {A0 : TrA} : ∀ (A : TrA) (c : TrA → TrA) (st : Option (TrA × (TrA → TrA))), goodC A0 (A, c) → (∀ y, st = some y → goodC A0 y) → ∀ y, walkA A c st = some y → goodC A0 y := by
  intro A
  induction A with
  | leaf b p => intro c st hA hst; exact chooA_P hA hst
  | two b l r ihl ihr =>
    intro c st hA hst
    unfold walkA
    split
    · exact chooA_P hA hst
    · obtain ⟨h1, X, Y, h2⟩ := hA
      refine ihl _ _ ⟨h1, X ++ [.blk b [.int .i64 0, l.ptr, r.ptr] 135], r.items ++ Y, fun Q hQ => ?_⟩ (ihr _ _ ⟨h1, X ++ .blk b [.int .i64 0, l.ptr, r.ptr] 135 :: l.items, Y, fun Q hQ => ?_⟩ hst)
      · obtain ⟨e1, e2⟩ := h2 (.two b Q r) rfl
        refine ⟨e1, ?_⟩
        have hp : Q.ptr = l.ptr := by unfold TrA.ptr; rw [hQ]
        show (c (.two b Q r)).items = _
        rw [e2]
        simp only [TrA.items, hp, List.append_assoc, List.cons_append, List.nil_append]
      · obtain ⟨e1, e2⟩ := h2 (.two b l Q) rfl
        refine ⟨e1, ?_⟩
        have hp : Q.ptr = r.ptr := by unfold TrA.ptr; rw [hQ]
        show (c (.two b l Q)).items = _
        rw [e2]
        simp only [TrA.items, hp, List.append_assoc, List.cons_append, List.nil_append]
theorem good_in {A0 : TrA} {x : TrA × (TrA → TrA)} (h : goodC A0 x) : ∀ it ∈ x.1.items, it ∈ A0.items := by
  obtain ⟨h1, X, Y, h2⟩ := h
  have := (h2 x.1 rfl).2
  rw [h1] at this
  intro it hi
  rw [this]
  exact List.mem_append_left _ (List.mem_append_right _ hi)
def partOf (A : TrA) (x : TrA × (TrA → TrA)) : Prop := (∀ it ∈ x.1.items, it ∈ A.items) ∧ x.1.tr.leavesR.length ≤ A.tr.leavesR.length
theorem two_leaves (b : Nat) (l r : TrA) : (TrA.two b l r).tr.leavesR.length = r.tr.leavesR.length + l.tr.leavesR.length := by simp [TrA.tr, Tr.leavesR]
theorem walkA_some : ∀ (A : TrA) (c : TrA → TrA) (st : Option (TrA × (TrA → TrA))), ∃ y, walkA A c st = some y := by
  intro A
  have hp : ∀ x st, ∃ y, chooA x st = some y := by
    intro x st
    unfold chooA
    cases st with
    | none => exact ⟨_, rfl⟩
    | some z => simp only; split <;> exact ⟨_, rfl⟩
  induction A with
  | leaf b p => intro c st; exact hp _ _
  | two b l r ihl ihr =>
    intro c st
    unfold walkA
    split
    · exact hp _ _
    · exact ihl _ _
theorem walkA_part {P : TrA → Prop} : ∀ (A : TrA) (c : TrA → TrA) (st : Option (TrA × (TrA → TrA))), (∀ B : TrA, (∀ it ∈ B.items, it ∈ A.items) → B.tr.leavesR.length ≤ A.tr.leavesR.length → P B) → (∀ y, st = some y → P y.1) → ∀ y, walkA A c st = some y → P y.1 := by
  intro A
  induction A with
  | leaf b p => intro c st hA hst; exact chooA_P (P := fun x => P x.1) (hA _ (fun _ h => h) (Nat.le_refl _)) hst
  | two b l r ihl ihr =>
    intro c st hA hst
    unfold walkA
    have h2 := two_leaves b l r
    split
    · exact chooA_P (P := fun x => P x.1) (hA _ (fun _ h => h) (Nat.le_refl _)) hst
    · refine ihl _ _ (fun B h1 h3 => hA B (fun it h => List.mem_cons_of_mem _ (List.mem_append_left _ (h1 it h))) (by omega)) (ihr _ _ (fun B h1 h3 => hA B (fun it h => List.mem_cons_of_mem _ (List.mem_append_right _ (h1 it h))) (by omega)) hst)
/-! .. and the same as without memory. -/
def relC (x : TrA × (TrA → TrA)) (y : Tr × (Tr → Tr)) : Prop := x.1.tr = y.1 ∧ ∀ Q : TrA, (x.2 Q).tr = y.2 Q.tr
def relO : Option (TrA × (TrA → TrA)) → Option (Tr × (Tr → Tr)) → Prop
  | none, none => True
  | some x, some y => relC x y
  | _, _ => False
theorem pick_rel {x : TrA × (TrA → TrA)} {y : Tr × (Tr → Tr)} {s : Option (TrA × (TrA → TrA))} {t : Option (Tr × (Tr → Tr))} (h : relC x y) (hs : relO s t) : relO (chooA x s) (chooT y t) := by
  cases s with
  | none => cases t with
    | none => exact h
    | some b => exact hs.elim
  | some a => cases t with
    | none => exact hs.elim
    | some b =>
      unfold chooA chooT
      simp only
      have h1 : a.1.tr = b.1 := hs.1
      rw [h.1, h1]
      split
      · exact h
      · exact hs
theorem walk_rel : ∀ (A : TrA) (c : TrA → TrA) (c' : Tr → Tr) (s : Option (TrA × (TrA → TrA))) (t : Option (Tr × (Tr → Tr))), (∀ Q : TrA, (c Q).tr = c' Q.tr) → relO s t → relO (walkA A c s) (walkT A.tr c' t) := by
  intro A
  induction A with
  | leaf b p => intro c c' s t hc hs; exact pick_rel ⟨rfl, hc⟩ hs
  | two b l r ihl ihr =>
    intro c c' s t hc hs
    show relO (walkA (.two b l r) c s) (walkT (.two l.tr r.tr) c' t)
    unfold walkA walkT
    show relO (if fullT (.two l.tr r.tr) = true then _ else _) _
    split
    · exact pick_rel ⟨rfl, hc⟩ hs
    · exact ihl _ _ _ _ (fun Q => hc (.two b Q r)) (ihr _ _ _ _ (fun Q => hc (.two b l Q)) hs)
theorem perm3 {α : Type} (a b c : α) (X R Y : List α) : (a :: b :: c :: (X ++ R ++ Y)).Perm (X ++ (c :: ((b :: R) ++ [a])) ++ Y) := by
  have hz : ∀ Z : List α, (X ++ Z ++ Y).Perm (Z ++ (X ++ Y)) := fun Z => by
    refine (List.Perm.append_right Y (List.perm_append_comm (l₁ := X) (l₂ := Z))).trans ?_
    rw [List.append_assoc]
  have h1 : (c :: ((b :: R) ++ [a])).Perm (a :: b :: c :: R) := by
    have : (c :: b :: R ++ [a]).Perm (a :: (c :: b :: R)) := List.perm_append_comm (l₁ := c :: b :: R) (l₂ := [a])
    exact this.trans (List.Perm.cons _ (List.Perm.swap _ _ _))
  refine List.Perm.trans ?_ (hz _).symm
  refine List.Perm.trans ?_ (List.Perm.append_right _ h1.symm)
  exact List.Perm.cons _ (List.Perm.cons _ (List.Perm.cons _ (hz R)))
/-! The walk. -/
def optV : Option TrA → Value
  | none => .pointer none
  | some B => B.ptr
def doJ (cp : Nat) : Value := .func (.func 86) #[] #[.pointer (some ⟨cp, 0, none⟩)]
def joinL (cp c3 c4 : Nat) (st : Option (TrA × (TrA → TrA))) (R : List Eng.Item) : List Eng.Item :=
  .blk cp [optV (st.map (·.1))] 89 :: .blk c3 [doJ cp] 133 :: .blk c4 [walkV c3 c4] 169 :: R
def stIn (R : List Eng.Item) (st : Option (TrA × (TrA → TrA))) : Prop := ∀ y, st = some y → (∀ it ∈ y.1.items, it ∈ R) ∧ y.1.tr.leavesR.length ≤ 60
theorem in3 {a b c : Eng.Item} {l : List Eng.Item} (h : ∀ it ∈ l, it ∈ R) : ∀ it ∈ l, it ∈ a :: b :: c :: R := fun it hi => List.mem_cons_of_mem _ (List.mem_cons_of_mem _ (List.mem_cons_of_mem _ (h it hi)))
set_option maxHeartbeats 4000000 in
theorem join1_own {A : TrA} {c : TrA → TrA} {cp c3 c4 : Nat} {st : Option (TrA × (TrA → TrA))} (hA : ∀ it ∈ A.items, it ∈ R) (hl : A.tr.leavesR.length ≤ 60) (hst : stIn R st) (H : Eng.Own ok w0 w (joinL cp c3 c4 st R)) :
    Calls Tryz.prog 86 #[A.ptr, .pointer (some ⟨cp, 0, none⟩)] w fun e w' => ∃ u, e = .returned u ∧ (u = .bool (!(fullT A.tr)) ∧ Eng.Own ok w0 w' (joinL cp c3 c4 (if fullT A.tr = true then chooA (A, c) st else st) R)) := by
  refine enterN (args := [A.ptr, .pointer (some ⟨cp, 0, none⟩)]) Tryz.func86 rfl Tryz.ntmps86 rfl rfl ?_
  refine Eng.nc_seq ?_
  refine nc ?_
  refine Eng.nc_seq ?_
  refine Eng.nc_seq ?_
  refine nc ?_
  refine call_rule (by kernel_rfl) (full_own A (in3 hA) hl H) fun u w1 ⟨hu, H⟩ => ?_
  subst hu
  cases hf : fullT A.tr with
  | false =>
    refine Eng.nc_cond (b := true) rfl (fun hc => ?_) (fun hc => ?_)
    · refine Eng.nc_seq ?_
      refine nc ?_
      refine nc ?_
      exact ret_inA [.bool true] ⟨_, rfl, rfl, H⟩
    · cases hc
  | true =>
    refine Eng.nc_cond (b := false) rfl (fun hc => ?_) (fun hc => ?_)
    · cases hc
    refine nc ?_
    have hA3 := in3 (a := .blk cp [optV (st.map (·.1))] 89) (b := .blk c3 [doJ cp] 133) (c := .blk c4 [walkV c3 c4] 169) hA
    refine Eng.nc_seq ?_
    refine nc_cut (fun e w' => ∃ z, e = [(0, A.ptr), (1, .pointer (some ⟨cp, 0, none⟩)), (15, .bool z)] ∧ chooA (A, c) st = (if z = true then some (A, c) else st) ∧ Eng.Own ok w0 w' (joinL cp c3 c4 st R)) ?_ ?_
    · refine nc ?_
      cases st with
      | none =>
        refine draw_rule [] (by kernel_rfl) (by kernel_rfl) H ?_
        refine c_load 0 rfl (by kernel_rfl) (j := 0) (v := .pointer none) rfl ?_
        refine c_eqlNil (by kernel_rfl) ?_
        refine c_skipCL (.int .i64 0) rfl ?_
        refine c_load 0 rfl (by kernel_rfl) (j := 0) (v := .pointer none) rfl ?_
        refine c_skipCL (.int .i64 0) rfl ?_
        intro w2 H
        exact cut_inA ⟨true, rfl, rfl, H⟩
      | some y =>
        obtain ⟨hy1, hy2⟩ := hst y rfl
        have hy3 := in3 (a := .blk cp [optV ((some y).map (·.1))] 89) (b := .blk c3 [doJ cp] 133) (c := .blk c4 [walkV c3 c4] 169) hy1
        refine draw_rule [] (by kernel_rfl) (by kernel_rfl) H ?_
        refine c_load 0 rfl (by kernel_rfl) (j := 0) (v := .pointer (some ⟨y.1.root, 0, none⟩)) rfl ?_
        refine c_eqlNil (by kernel_rfl) ?_
        refine c_callOwn (fun u L' => u = .int .i64 (A.tr.deep : Int) ∧ joinL cp c3 c4 (some y) R = L') rfl (by kernel_rfl) (fun v L' h => by rw [← h.2]; exact List.Sublist.refl _) (fun w H => depth_own A hA3 (by omega) H) fun v L' hv => ?_
        obtain ⟨rfl, rfl⟩ := hv
        refine c_load 0 rfl (by kernel_rfl) (j := 0) (v := y.1.ptr) rfl ?_
        refine c_callOwn (fun u L' => u = .int .i64 (y.1.tr.deep : Int) ∧ joinL cp c3 c4 (some y) R = L') rfl (by kernel_rfl) (fun v L' h => by rw [← h.2]; exact List.Sublist.refl _) (fun w H => depth_own y.1 hy3 (by omega) H) fun v L' hv => ?_
        obtain ⟨rfl, rfl⟩ := hv
        intro w2 H
        refine cut_inA ⟨decide ((A.tr.deep : Int) < (y.1.tr.deep : Int)), rfl, ?_, H⟩
        unfold chooA
        simp only
        by_cases hd : A.tr.deep < y.1.tr.deep
        · rw [if_pos hd, if_pos (by simpa using hd)]
        · rw [if_neg hd, if_neg (by simpa using hd)]
    · rintro _ w2 ⟨z, rfl, hz, H⟩
      rw [if_pos rfl, hz]
      refine Eng.nc_cond (b := z) rfl (fun hc => ?_) (fun hc => ?_)
      · rw [hc, if_pos rfl]
        refine nc ?_
        refine own_store (t := 89) H 0 rfl (by kernel_rfl) (j := 0) (v := A.ptr) rfl rfl fun w3 H => ?_
        refine Eng.nc_seq ?_
        refine nc ?_
        refine nc ?_
        exact ret_inA [.bool false] ⟨_, rfl, rfl, H⟩
      · rw [hc, if_neg (by simp)]
        refine nc ?_
        refine Eng.nc_seq ?_
        refine nc ?_
        refine nc ?_
        exact ret_inA [.bool false] ⟨_, rfl, rfl, H⟩
theorem fullT_leaf (p : Int) : fullT (.leaf p) = true := rfl
set_option maxHeartbeats 4000000 in
theorem walkJ_own {cp c3 c4 : Nat} : ∀ (A : TrA) (c : TrA → TrA) {st : Option (TrA × (TrA → TrA))} {w : World}, (∀ it ∈ A.items, it ∈ R) → A.tr.leavesR.length ≤ 60 → stIn R st → Eng.Own ok w0 w (joinL cp c3 c4 st R) →
    Calls Tryz.prog 119 #[A.ptr, .pointer (some ⟨c3, 0, none⟩), .pointer (some ⟨c4, 0, none⟩)] w fun e w' => ∃ u, e = .returned u ∧ Eng.Own ok w0 w' (joinL cp c3 c4 (walkA A c st) R) := by
  intro A
  induction A with
  | leaf b p =>
    intro c st w hA hl hst H
    obtain ⟨i, hi⟩ := at_mem (hA _ (TrA.top_mem (.leaf b p)))
    refine enterN (args := [(TrA.leaf b p).ptr, .pointer (some ⟨c3, 0, none⟩), .pointer (some ⟨c4, 0, none⟩)]) Tryz.func119 rfl Tryz.ntmps119 rfl rfl ?_
    refine Eng.nc_seq ?_
    refine nc ?_
    refine own_load H 1 rfl (by kernel_rfl) (j := 0) rfl ?_
    refine callV_rule (by kernel_rfl) (join1_own (A := .leaf b p) (c := c) hA hl hst H) fun u w1 ⟨hu, H⟩ => ?_
    rw [show fullT (TrA.leaf b p).tr = true from rfl] at hu
    rw [if_pos (show fullT (TrA.leaf b p).tr = true from rfl)] at H
    subst hu
    have hi3 : (joinL cp c3 c4 (chooA (.leaf b p, c) st) R)[i + 3]? = some (TrA.leaf b p).top := hi
    refine own_load H (i + 3) hi3 (by kernel_rfl) (j := 1) rfl ?_
    refine neqNil_rule (by kernel_rfl) ?_
    refine Eng.nc_cond (b := false) rfl (fun hc => ?_) (fun hc => ?_)
    · cases hc
    · refine nc ?_
      exact ret_inA [] ⟨_, rfl, H⟩
  | two b l r ihl ihr =>
    intro c st w hA hl hst H
    have hl2 := two_leaves b l r
    obtain ⟨i, hi⟩ := at_mem (hA _ (TrA.top_mem (.two b l r)))
    have hi3 : ∀ st, (joinL cp c3 c4 st R)[i + 3]? = some (TrA.two b l r).top := fun st => hi
    refine enterN (args := [(TrA.two b l r).ptr, .pointer (some ⟨c3, 0, none⟩), .pointer (some ⟨c4, 0, none⟩)]) Tryz.func119 rfl Tryz.ntmps119 rfl rfl ?_
    refine Eng.nc_seq ?_
    refine nc ?_
    refine own_load H 1 rfl (by kernel_rfl) (j := 0) rfl ?_
    refine callV_rule (by kernel_rfl) (join1_own (A := .two b l r) (c := c) hA hl hst H) fun u w1 ⟨hu, H⟩ => ?_
    unfold walkA
    cases hf : fullT (TrA.two b l r).tr with
    | true =>
      rw [hf] at hu H
      rw [if_pos rfl] at H ⊢
      subst hu
      refine own_load H (i + 3) (hi3 _) (by kernel_rfl) (j := 1) (v := .pointer (some ⟨l.root, 0, none⟩)) rfl ?_
      refine neqNil_rule (by kernel_rfl) ?_
      refine Eng.nc_cond (b := false) rfl (fun hc => ?_) (fun hc => ?_)
      · cases hc
      · refine nc ?_
        exact ret_inA [] ⟨_, rfl, H⟩
    | false =>
      rw [hf] at hu H
      rw [if_neg (by simp)] at H ⊢
      subst hu
      have hst1 : stIn R (walkA r (fun x => c (.two b l x)) st) := walkA_part (P := fun B => (∀ it ∈ B.items, it ∈ R) ∧ B.tr.leavesR.length ≤ 60) r _ st (fun B h1 h3 => ⟨fun it h => sub_right hA it (h1 it h), by omega⟩) hst
      refine own_load H (i + 3) (hi3 _) (by kernel_rfl) (j := 1) (v := .pointer (some ⟨l.root, 0, none⟩)) rfl ?_
      refine neqNil_rule (by kernel_rfl) ?_
      refine Eng.nc_cond (b := true) rfl (fun hc => ?_) (fun hc => ?_)
      · refine Eng.nc_seq ?_
        refine nc ?_
        refine draw_rule [] (by kernel_rfl) (by kernel_rfl) H ?_
        refine c_load 2 rfl (by kernel_rfl) (j := 0) rfl ?_
        refine c_load (i + 3) (hi3 _) (by kernel_rfl) (j := 2) (v := r.ptr) rfl ?_
        refine c_callV (fun _ L' => L' = joinL cp c3 c4 (walkA r (fun x => c (.two b l x)) st) R) rfl (by kernel_rfl) (fun w H => (ihr (fun x => c (.two b l x)) (sub_right hA) (by omega) hst H).mono fun e w' ⟨u, he, H'⟩ => ⟨u, he, _, rfl, H'⟩) fun u L' hL' => ?_
        subst hL'
        intro w2 H
        refine nc ?_
        refine draw_rule [] (by kernel_rfl) (by kernel_rfl) H ?_
        refine c_load 2 rfl (by kernel_rfl) (j := 0) rfl ?_
        refine c_load (i + 3) (hi3 _) (by kernel_rfl) (j := 1) (v := l.ptr) rfl ?_
        refine c_callV (fun _ L' => L' = joinL cp c3 c4 (walkA l (fun x => c (.two b x r)) (walkA r (fun x => c (.two b l x)) st)) R) rfl (by kernel_rfl) (fun w H => (ihl (fun x => c (.two b x r)) (sub_left hA) (by omega) hst1 H).mono fun e w' ⟨u, he, H'⟩ => ⟨u, he, _, rfl, H'⟩) fun u L' hL' => ?_
        subst hL'
        intro w3 H
        exact ret_inA [] ⟨_, rfl, H⟩
      · cases hc
/-- Whether one may join, and the tree then. -/
def joinM (s : List UInt8) (p : Int) : List UInt8 × Int := match ofM s with
  | none => ([], 1)
  | some T => if (1 ≤ p ∧ p ≤ 8) ∧ p ∉ T.leavesR then ((joinT T p).text, 0) else ([], 1)
theorem text_leaves3 : ∀ T : Tr, T.text.length + 2 = 3 * T.leavesR.length
  | .leaf p => by simp [Tr.text, Tr.leavesR]
  | .two l r => by
    have h1 := text_leaves3 l
    have h2 := text_leaves3 r
    simp only [Tr.text, Tr.leavesR, List.length_cons, List.length_append, List.length_nil]
    omega
theorem leaves_eight {T : Tr} (hok : T.ok) (hn : T.leavesR.Nodup) : T.leavesR.length ≤ 8 := by
  have hr : ∀ T : Tr, T.ok → ∀ x ∈ T.leavesR, 0 < x ∧ x ≤ 8 := by
    intro T
    induction T with
    | leaf p => intro h x hx; rw [List.mem_singleton.1 hx]; have h : 1 ≤ p ∧ p ≤ 8 := h; omega
    | two l r ihl ihr =>
      intro h x hx
      rcases List.mem_append.1 hx with q | q
      · exact ihr h.2 x q
      · exact ihl h.1 x q
  have hb : rowB (sortZ T.leavesR) = true := (rowB_sort _).2 ⟨fun e => by have := leavesR_pos T; rw [e] at this; simp at this, hr T hok, hn⟩
  obtain ⟨_, h1, h2⟩ := (rowB_iff _).1 hb
  rw [← sortZ_len]
  apply Classical.byContradiction
  intro hgt
  have hp := List.pairwise_iff_getElem.1 h2
  have h8 : ∀ k (hk : k < (sortZ T.leavesR).length), (k : Int) + 1 ≤ (sortZ T.leavesR)[k] := by
    intro k
    induction k with
    | zero => intro hk; have := (h1 _ (List.getElem_mem hk)).1; omega
    | succ k ih => intro hk; have := ih (by omega); have := hp k (k + 1) (by omega) hk (by omega); omega
  have := h8 8 (by omega)
  have := (h1 _ (List.getElem_mem (show 8 < (sortZ T.leavesR).length by omega))).2
  omega
/-- A part of a tree, turned: the leaves, and whether all is right. -/
def ctxOk (A T : Tr) (c : Tr → Tr) : Prop := ∃ X Y : List Int, ∀ Q : Tr, (c Q).leavesR = X ++ Q.leavesR ++ Y ∧ (Q.ok → (c Q).ok) ∧ c T = A
theorem walkT_ctx {A0 : Tr} (hA0 : A0.ok) : ∀ (T : Tr) (c : Tr → Tr) (st : Option (Tr × (Tr → Tr))), T.ok → ctxOk A0 T c → (∀ y, st = some y → y.1.ok ∧ ctxOk A0 y.1 y.2) → ∀ y, walkT T c st = some y → y.1.ok ∧ ctxOk A0 y.1 y.2 := by
  have hp : ∀ (x : Tr × (Tr → Tr)) st, (x.1.ok ∧ ctxOk A0 x.1 x.2) → (∀ y, st = some y → y.1.ok ∧ ctxOk A0 y.1 y.2) → ∀ y, chooT x st = some y → y.1.ok ∧ ctxOk A0 y.1 y.2 := by
    intro x st hx hst y h
    unfold chooT at h
    cases st with
    | none => cases h; exact hx
    | some z =>
      simp only at h
      split at h
      · cases h; exact hx
      · exact hst y h
  intro T
  induction T with
  | leaf p => intro c st hk hc hst; exact hp _ _ ⟨hk, hc⟩ hst
  | two l r ihl ihr =>
    intro c st hk hc hst
    unfold walkT
    split
    · exact hp _ _ ⟨hk, hc⟩ hst
    · obtain ⟨X, Y, h⟩ := hc
      refine ihl _ _ hk.1 ⟨X ++ r.leavesR, Y, fun Q => ?_⟩ (ihr _ _ hk.2 ⟨X, l.leavesR ++ Y, fun Q => ?_⟩ hst)
      · obtain ⟨h1, h2, h3⟩ := h (.two Q r)
        refine ⟨?_, fun hq => h2 ⟨hq, hk.2⟩, h3⟩
        show (c (.two Q r)).leavesR = _
        rw [h1]; simp [Tr.leavesR]
      · obtain ⟨h1, h2, h3⟩ := h (.two l Q)
        refine ⟨?_, fun hq => h2 ⟨hk.1, hq⟩, h3⟩
        show (c (.two l Q)).leavesR = _
        rw [h1]; simp [Tr.leavesR]
theorem walkT_some : ∀ (T : Tr) (c : Tr → Tr) (st : Option (Tr × (Tr → Tr))), ∃ y, walkT T c st = some y := by
  have hp : ∀ x st, ∃ y, chooT x st = some y := by
    intro x st
    unfold chooT
    cases st with
    | none => exact ⟨_, rfl⟩
    | some z => simp only; split <;> exact ⟨_, rfl⟩
  intro T
  induction T with
  | leaf p => intro c st; exact hp _ _
  | two l r ihl ihr =>
    intro c st
    unfold walkT
    split
    · exact hp _ _
    · exact ihl _ _
theorem joinT_is {T : Tr} {p : Int} (hk : T.ok) : ∃ (S : Tr) (g : Tr → Tr) (X Y : List Int), joinT T p = g (.two S (.leaf p)) ∧ S.ok ∧ (∀ Q : Tr, (g Q).leavesR = X ++ Q.leavesR ++ Y ∧ (Q.ok → (g Q).ok)) ∧ g S = T := by
  obtain ⟨⟨S, g⟩, hy⟩ := walkT_some T id none
  obtain ⟨h1, X, Y, h2⟩ := walkT_ctx hk T id none hk ⟨[], [], fun Q => ⟨by simp, fun h => h, rfl⟩⟩ (fun y h => by cases h) _ hy
  refine ⟨S, g, X, Y, ?_, h1, fun Q => ⟨(h2 Q).1, (h2 Q).2.1⟩, (h2 S).2.2⟩
  unfold joinT
  rw [hy]
theorem joinT_ok {T : Tr} {p : Int} (hk : T.ok) (hp : 1 ≤ p ∧ p ≤ 8) : (joinT T p).ok ∧ (joinT T p).leavesR.Perm (p :: T.leavesR) := by
  obtain ⟨S, g, X, Y, e, h1, h2, h3⟩ := joinT_is (p := p) hk
  rw [e]
  refine ⟨(h2 _).2 ⟨h1, hp⟩, ?_⟩
  have e1 := (h2 (.two S (.leaf p))).1
  have e2 := (h2 S).1
  rw [h3] at e2
  rw [e1, e2]
  show (X ++ ([p] ++ S.leavesR) ++ Y).Perm _
  simp only [List.append_assoc, List.cons_append, List.nil_append]
  exact List.perm_middle
theorem joinM_none {s : List UInt8} {p : Int} (ho : ofM s = none) : joinM s p = ([], 1) := by unfold joinM; rw [ho]
theorem joinM_no {s : List UInt8} {p : Int} {T : Tr} (ho : ofM s = some T) (h : ¬ ((1 ≤ p ∧ p ≤ 8) ∧ p ∉ T.leavesR)) : joinM s p = ([], 1) := by unfold joinM; rw [ho]; exact if_neg h
theorem joinM_yes {s : List UInt8} {p : Int} {T : Tr} (ho : ofM s = some T) (h : (1 ≤ p ∧ p ≤ 8) ∧ p ∉ T.leavesR) : joinM s p = ((joinT T p).text, 0) := by unfold joinM; rw [ho]; exact if_pos h
set_option maxHeartbeats 8000000 in
theorem treeJoin_calls {s : List UInt8} {p : Int} (hs : s.length ≤ 900000) : Calls Tryz.prog 45 #[.string (bs s), .int .i64 p] w fun e w' => ∃ v, e = .returned v ∧ (v = .tuple #[.string (bs (joinM s p).1), .int .i64 (joinM s p).2] ∧ Bel w.heap.size w w') := by
  have H : Eng.Own (fun _ => False) w w [] := Eng.Own.nil _ w
  refine enterN (args := [.string (bs s), .int .i64 p]) Tryz.func45 rfl Tryz.ntmps45 rfl rfl ?_
  refine Eng.nc_seq ?_
  refine nc ?_
  refine Eng.nc_seq ?_
  refine nc ?_
  refine call_rule (by kernel_rfl) (treeOf_own (by omega) H) fun v w1 hR => ?_
  refine Eng.nc_seq ?_
  refine nc ?_
  refine call_rule (by kernel_rfl) (treeLeaf_calls (p := p)) fun v2 w2 ⟨hv2, hb2⟩ => ?_
  subst hv2
  cases ho : ofM s with
  | none =>
    rw [ho] at hR
    obtain ⟨rfl, H⟩ := hR
    replace H := H.call hb2
    refine Eng.nc_seq ?_
    refine nc ?_
    refine eqlNil_rule (by kernel_rfl) ?_
    refine call_skip (.slice none 0 0) rfl ?_
    refine call_skip (.bool false) rfl ?_
    refine Eng.nc_cond (b := true) rfl (fun hc => ?_) (fun hc => ?_)
    · refine Eng.nc_seq ?_
      refine nc ?_
      refine nc ?_
      exact ret_inA [.string (bs []), .int .i64 1] ⟨_, rfl, by rw [joinM_none ho]; rfl, H.frame⟩
    · cases hc
  | some T =>
    rw [ho] at hR
    obtain ⟨A, hA, rfl, H⟩ := hR
    replace H := H.call hb2
    obtain ⟨hT, hok⟩ := ofM_text ho
    have hnd := ofM_nodup ho
    have h8 := leaves_eight hok hnd
    subst hA
    by_cases hp : 1 ≤ p ∧ p ≤ 8
    · rw [if_pos hp, if_pos hp]
      refine Eng.nc_seq ?_
      refine nc ?_
      refine eqlNil_rule (p := some ⟨A.root, 0, none⟩) (by kernel_rfl) ?_
      refine call_yes rfl (by kernel_rfl) (nodeMembers_own (by omega) H) fun u w3 H => ?_
      have hrow : slR (tInt .i64) w3 (fun _ => True) u (sortZ A.tr.leavesR) := H.rowSlR (k := tInt .i64) 0 rfl (rowsR_ints w3 (fun _ => True) _)
      refine call_yes rfl (by kernel_rfl) (view_Has_ok hrow (hasP_eq _ p (by rw [sortZ_len]; omega))) fun v w4 ⟨hv, hb4⟩ => ?_
      subst hv
      replace H := (H.call hb4).tail
      by_cases hm : p ∈ A.tr.leavesR
      · have hm2 : decide (p ∈ sortZ A.tr.leavesR) = true := by simpa using ((sortZ_perm _).mem_iff).2 hm
        rw [hm2]
        refine Eng.nc_cond (b := true) rfl (fun hc => ?_) (fun hc => ?_)
        · refine Eng.nc_seq ?_
          refine nc ?_
          refine nc ?_
          exact ret_inA [.string (bs []), .int .i64 1] ⟨_, rfl, by rw [joinM_no ho (fun q => q.2 hm)]; rfl, H.frame⟩
        · cases hc
      · have hm2 : decide (p ∈ sortZ A.tr.leavesR) = false := by simpa using fun q => hm (((sortZ_perm _).mem_iff).1 q)
        rw [hm2]
        refine Eng.nc_cond (b := false) rfl (fun hc => ?_) (fun hc => ?_)
        · cases hc
        refine nc ?_
        refine nc_weak (e' := [(1, .int .i64 p), (6, A.ptr)]) ⟨rfl, rfl, trivial⟩ ?_
        refine Eng.nc_seq ?_
        refine nc ?_
        refine own_alloc (z := .pointer none) H (by kernel_rfl) [.pointer none] rfl fun cp w5 H => ?_
        refine Eng.nc_seq ?_
        refine nc ?_
        have hE : Calls Tryz.prog 85 #[A.ptr, doJ cp] w5 fun e w' => ∃ u, e = .returned u ∧ ∃ c3 c4, Eng.Own (fun _ => False) w w' (joinL cp c3 c4 (walkA A id none) (A.items ++ [])) := by
          refine enterN (args := [A.ptr, doJ cp]) Tryz.func85 rfl Tryz.ntmps85 rfl rfl ?_
          refine Eng.nc_seq ?_
          refine nc ?_
          refine own_box H [doJ cp] rfl fun c3 w2 H => ?_
          refine Eng.nc_seq ?_
          refine nc ?_
          refine own_alloc (z := .nilFunc) H (by kernel_rfl) [.nilFunc] rfl fun c4 w3 H => ?_
          refine Eng.nc_seq ?_
          refine nc ?_
          refine own_store (t := 169) H 0 rfl (by kernel_rfl) (j := 0) rfl rfl fun w4 H => ?_
          refine nc ?_
          have H0 : Eng.Own (fun _ => False) w w4 (joinL cp c3 c4 none (A.items ++ [])) :=
            order_own (A := [.blk c4 [walkV c3 c4] 169, .blk c3 [doJ cp] 133, .blk cp [.pointer none] 89]) H [2, 1, 0] (by show (List.range 3).Perm _; decide)
          refine own_load H0 2 rfl (by kernel_rfl) (j := 0) rfl ?_
          refine callV_rule (by kernel_rfl) (walkJ_own (R := A.items ++ []) A id (fun it h => List.mem_append_left _ h) (by omega) (fun y h => by cases h) H0) fun u w5 H => ?_
          exact ret_inA [] ⟨_, rfl, c3, c4, H⟩
        refine call_rule (by kernel_rfl) hE fun u w5 ⟨c3, c4, H⟩ => ?_
        obtain ⟨⟨B, g⟩, hy⟩ := walkA_some A id none
        have hgood := walkA_good (A0 := A) A id none ⟨rfl, [], [], fun Q hQ => ⟨hQ, by simp⟩⟩ (fun y h => by cases h) _ hy
        have hrel := walk_rel A id id none none (fun Q => rfl) trivial
        rw [hy] at hrel H
        obtain ⟨hg0, X, Y, hg⟩ := hgood
        have hAi : A.items = X ++ B.items ++ Y := by
          have := (hg B rfl).2
          rw [← this]
          exact congrArg TrA.items hg0.symm
        -- the place, and what is new
        obtain ⟨cs, rest, hB, htop⟩ : ∃ cs rest, B.items = .blk B.root cs 135 :: rest ∧ cs.length = 3 ∧ (∀ b', ∃ B' : TrA, B'.root = b' ∧ B'.tr = B.tr ∧ B'.items = .blk b' cs 135 :: rest) ∧ (∀ v ∈ cs, oneV v = true) := by
          cases B with
          | leaf b q => exact ⟨_, [], rfl, rfl, fun b' => ⟨.leaf b' q, rfl, rfl, rfl⟩, by intro v hv; simp at hv; rcases hv with rfl | rfl | rfl <;> rfl⟩
          | two b l r => exact ⟨_, _, rfl, rfl, fun b' => ⟨.two b' l r, rfl, rfl, rfl⟩, by intro v hv; simp at hv; rcases hv with rfl | rfl | rfl <;> rfl⟩
        obtain ⟨hcl, hcopy, hone⟩ := htop
        replace H : Eng.Own (fun _ => False) w w5 (.blk cp [B.ptr] 89 :: .blk B.root cs 135 :: (X ++ rest ++ Y)) := by
          have H1 : Eng.Own (fun _ => False) w w5 (.blk cp [B.ptr] 89 :: .blk c3 [doJ cp] 133 :: .blk c4 [walkV c3 c4] 169 :: (A.items ++ [])) := H
          rw [List.append_nil, hAi, hB] at H1
          have H2 := H1.less (List.Sublist.cons_cons _ (List.Sublist.cons _ (List.Sublist.cons _ (List.Sublist.refl _))))
          refine H2.perm (List.Perm.cons _ ?_)
          simp only [List.append_assoc, List.cons_append]
          exact List.perm_middle
        obtain ⟨a1, a2, a3, hcs⟩ : ∃ a1 a2 a3, cs = [a1, a2, a3] := by
          match cs, hcl with
          | [a, b, c], _ => exact ⟨a, b, c, rfl⟩
        subst hcs
        have ho1 := hone a1 (by simp)
        have ho2 := hone a2 (by simp)
        have ho3 := hone a3 (by simp)
        refine Eng.nc_seq ?_
        refine nc ?_
        refine own_load H 0 rfl (by kernel_rfl) (j := 0) (v := .pointer (some ⟨B.root, 0, none⟩)) rfl ?_
        refine own_loadA (m := 3) H 1 rfl (by kernel_rfl) (by kernel_rfl) [a1, a2, a3] rfl rfl ?_
        refine own_alloc (z := .agg #[.int .i64 0, .pointer none, .pointer none]) H (by kernel_rfl) [.int .i64 0, .pointer none, .pointer none] rfl fun b' w6 H => ?_
        refine own_storeB (m := 3) H 0 rfl (by kernel_rfl) [a1, a2, a3] rfl rfl (by simp [allOne, ho1, ho2, ho3]) rfl fun w7 H => ?_
        replace H : Eng.Own (fun _ => False) w w7 (.blk b' [a1, a2, a3] 135 :: .blk cp [B.ptr] 89 :: .blk B.root [a1, a2, a3] 135 :: (X ++ rest ++ Y)) := H
        refine Eng.nc_seq ?_
        refine nc ?_
        refine own_load H 1 rfl (by kernel_rfl) (j := 0) (v := .pointer (some ⟨B.root, 0, none⟩)) rfl ?_
        refine own_box H [.int .i64 p, .pointer none, .pointer none] rfl fun bl w8 H => ?_
        refine own_storeB (m := 3) H 3 rfl (by kernel_rfl) [.int .i64 0, .pointer (some ⟨b', 0, none⟩), .pointer (some ⟨bl, 0, none⟩)] rfl rfl rfl rfl fun w9 H => ?_
        replace H : Eng.Own (fun _ => False) w w9 (.blk bl [.int .i64 p, .pointer none, .pointer none] 135 :: .blk b' [a1, a2, a3] 135 :: .blk cp [B.ptr] 89 :: .blk B.root [.int .i64 0, .pointer (some ⟨b', 0, none⟩), .pointer (some ⟨bl, 0, none⟩)] 135 :: (X ++ rest ++ Y)) := H
        -- the tree that stands there now
        obtain ⟨B', hr', ht', hi'⟩ := hcopy b'
        obtain ⟨e1, e2⟩ := hg (.two B.root B' (.leaf bl p)) rfl
        have htr : (g (.two B.root B' (.leaf bl p))).tr = joinT A.tr p := by
          unfold joinT
          cases hw : walkT A.tr id none with
          | none => rw [hw] at hrel; exact hrel.elim
          | some y =>
            rw [hw] at hrel
            show _ = y.2 (.two y.1 (.leaf p))
            rw [hrel.2]
            exact congrArg y.2 (by show Tr.two B'.tr (.leaf p) = _; rw [ht', hrel.1])
        replace H : Eng.Own (fun _ => False) w w9 ((g (.two B.root B' (.leaf bl p))).items) := by
          have H2 := H.less (List.Sublist.cons_cons _ (List.Sublist.cons_cons _ (List.Sublist.cons _ (List.Sublist.refl _))))
          rw [e2]
          refine H2.perm ?_
          have hp' : B'.ptr = .pointer (some ⟨b', 0, none⟩) := by unfold TrA.ptr; rw [hr']
          have : (TrA.two B.root B' (.leaf bl p)).items = .blk B.root [.int .i64 0, .pointer (some ⟨b', 0, none⟩), .pointer (some ⟨bl, 0, none⟩)] 135 :: ((.blk b' [a1, a2, a3] 135 :: rest) ++ [.blk bl [.int .i64 p, .pointer none, .pointer none] 135]) := by
            show Eng.Item.blk B.root [.int .i64 0, B'.ptr, (TrA.leaf bl p).ptr] 135 :: (B'.items ++ _) = _
            rw [hp', hi']; rfl
          rw [this]
          exact perm3 _ _ _ X rest Y
        have hjk := joinT_ok hok hp
        have hlen : (joinT A.tr p).text.length ≤ 1000000 := by
          have h1 := text_leaves3 (joinT A.tr p)
          have h2 := hjk.2.length_eq
          rw [List.length_cons] at h2
          omega
        refine Eng.nc_seq ?_
        refine nc ?_
        have hroot : A.ptr = (g (.two B.root B' (.leaf bl p))).ptr := by unfold TrA.ptr; rw [e1]
        rw [hroot]
        refine call_rule (by kernel_rfl) (text_own (g (.two B.root B' (.leaf bl p))) (fun it h => h) (by rw [htr]; exact hjk.1) (by rw [htr]; exact hlen) H) fun u w10 ⟨L', ⟨hu, hL⟩, H⟩ => ?_
        subst hu hL
        refine nc ?_
        rw [htr]
        exact ret_inA [_, .int .i64 0] ⟨_, rfl, by rw [joinM_yes ho ⟨hp, hm⟩]; rfl, H.frame⟩
    · rw [if_neg hp, if_neg hp]
      refine Eng.nc_seq ?_
      refine nc ?_
      refine eqlNil_rule (p := some ⟨A.root, 0, none⟩) (by kernel_rfl) ?_
      refine call_skip (.slice none 0 0) rfl ?_
      refine call_skip (.bool false) rfl ?_
      refine Eng.nc_cond (b := true) rfl (fun hc => ?_) (fun hc => ?_)
      · refine Eng.nc_seq ?_
        refine nc ?_
        refine nc ?_
        exact ret_inA [.string (bs []), .int .i64 1] ⟨_, rfl, by rw [joinM_no ho (fun q => hp q.1)]; rfl, H.frame⟩
      · cases hc
end Go.Proofs.YtfapphlhkfddoaaGreatDoor.G
/- One leaves a tree. -/
namespace Go.Proofs.YtfapphlhkfddoaaGreatDoor.G
open Go.RowKit Go.Eng Go.Proofs Go.Proofs.YtfapphlhkfddoaaGreatDoor.Cut
set_option linter.unusedVariables false
set_option maxRecDepth 20000
variable {ok : Nat → Prop} {w0 w : World} {L R : List Eng.Item}

/-- The number that stands in a node. -/
def topT : Tr → Int
  | .leaf q => q
  | .two _ _ => 0
def outT : Tr → Int → Tr
  | .leaf q, _ => .leaf q
  | .two l r, p => if topT l = p then r else if topT r = p then l else .two (outT l p) (outT r p)
def rootAt (b : Nat) : TrA → TrA
  | .leaf _ p => .leaf b p
  | .two _ l r => .two b l r
def outA : TrA → Int → TrA
  | .leaf b q, _ => .leaf b q
  | .two b l r, p => if topT l.tr = p then rootAt b r else if topT r.tr = p then rootAt b l else .two b (outA l p) (outA r p)
theorem rootAt_tr (b : Nat) (A : TrA) : (rootAt b A).tr = A.tr ∧ (rootAt b A).root = b := by cases A <;> exact ⟨rfl, rfl⟩
theorem outA_tr : ∀ (A : TrA) (p : Int), (outA A p).tr = outT A.tr p ∧ (outA A p).root = A.root := by
  intro A p
  induction A with
  | leaf b q => exact ⟨rfl, rfl⟩
  | two b l r ihl ihr =>
    show (outA (.two b l r) p).tr = outT (.two l.tr r.tr) p ∧ _
    unfold outA outT
    split
    · exact rootAt_tr b r
    · split
      · exact rootAt_tr b l
      · refine ⟨?_, rfl⟩
        show Tr.two (outA l p).tr (outA r p).tr = _
        rw [ihl.1, ihr.1]
theorem TrA.shape (A : TrA) : ∃ c1 c2 rest, A.top = .blk A.root [.int .i64 (topT A.tr), c1, c2] 135 ∧ A.items = .blk A.root [.int .i64 (topT A.tr), c1, c2] 135 :: rest ∧ (∀ b, (rootAt b A).items = .blk b [.int .i64 (topT A.tr), c1, c2] 135 :: rest) ∧ oneV c1 = true ∧ oneV c2 = true := by
  cases A with
  | leaf b q => exact ⟨_, _, [], rfl, rfl, fun b => rfl, rfl, rfl⟩
  | two b l r => exact ⟨_, _, l.items ++ r.items, rfl, rfl, fun b => rfl, rfl, rfl⟩
def doL (cp : Nat) : Value := .func (.func 90) #[] #[.pointer (some ⟨cp, 0, none⟩)]
def leaveL (cp c3 c4 : Nat) (p : Int) (R : List Eng.Item) : List Eng.Item :=
  .blk cp [.int .i64 p] 3 :: .blk c3 [doL cp] 133 :: .blk c4 [walkV c3 c4] 169 :: R
/-- Is one of the two below a node the process's leaf? -/
def hitA : TrA → Int → Bool
  | .leaf _ _, _ => false
  | .two _ l r, p => decide (topT l.tr = p) || decide (topT r.tr = p)
def stepA : TrA → Int → TrA
  | .leaf b q, _ => .leaf b q
  | .two b l r, p => if topT l.tr = p then rootAt b r else if topT r.tr = p then rootAt b l else .two b l r
theorem stepA_two (b : Nat) (l r : TrA) (p : Int) : stepA (.two b l r) p = if topT l.tr = p then rootAt b r else if topT r.tr = p then rootAt b l else .two b l r := rfl
theorem hitA_two (b : Nat) (l r : TrA) (p : Int) : hitA (.two b l r) p = (decide (topT l.tr = p) || decide (topT r.tr = p)) := rfl
theorem outA_two (b : Nat) (l r : TrA) (p : Int) : outA (.two b l r) p = if topT l.tr = p then rootAt b r else if topT r.tr = p then rootAt b l else .two b (outA l p) (outA r p) := rfl
set_option maxHeartbeats 4000000 in
theorem leave1_own {A : TrA} {cp c3 c4 : Nat} {p : Int} (H : Eng.Own ok w0 w (leaveL cp c3 c4 p (A.items ++ R))) :
    Calls Tryz.prog 90 #[A.ptr, .pointer (some ⟨cp, 0, none⟩)] w fun e w' => ∃ u, e = .returned u ∧ (u = .bool (!(hitA A p)) ∧ Eng.Own ok w0 w' (leaveL cp c3 c4 p ((stepA A p).items ++ R))) := by
  refine enterN (args := [A.ptr, .pointer (some ⟨cp, 0, none⟩)]) Tryz.func90 rfl Tryz.ntmps90 rfl rfl ?_
  refine Eng.nc_seq ?_
  refine nc ?_
  cases A with
  | leaf b q =>
    refine Eng.nc_seq ?_
    refine Eng.nc_block ?_
    refine Eng.nc_seq ?_
    refine nc ?_
    refine own_load H 3 rfl (by kernel_rfl) (j := 1) (v := .pointer none) rfl ?_
    refine eqlNil_rule (by kernel_rfl) ?_
    refine Eng.nc_cond (b := true) rfl (fun hc => ?_) (fun hc => ?_)
    · refine nc ?_
      refine Eng.nc_seq ?_
      refine nc ?_
      refine nc ?_
      exact ret_inA [.bool true] ⟨_, rfl, rfl, H⟩
    · cases hc
  | two b l r =>
    obtain ⟨l1, l2, lrest, lt, li, lat, lo1, lo2⟩ := TrA.shape l
    obtain ⟨r1, r2, rrest, rt, ri, rat, ro1, ro2⟩ := TrA.shape r
    have hlm : l.top ∈ leaveL cp c3 c4 p ((TrA.two b l r).items ++ R) := in3 (fun it h => h) _ (List.mem_append_left _ (List.mem_cons_of_mem _ (List.mem_append_left _ (TrA.top_mem l))))
    have hrm : r.top ∈ leaveL cp c3 c4 p ((TrA.two b l r).items ++ R) := in3 (fun it h => h) _ (List.mem_append_left _ (List.mem_cons_of_mem _ (List.mem_append_right _ (TrA.top_mem r))))
    obtain ⟨i, hi⟩ := at_mem hlm
    obtain ⟨j, hj⟩ := at_mem hrm
    rw [lt] at hi
    rw [rt] at hj
    have hsub : ∀ (q : TrA) (cs : List Value) (rest : List Eng.Item), rest.Sublist (l.items ++ r.items) → ∀ {w'}, Eng.Own ok w0 w' ((leaveL cp c3 c4 p ((TrA.two b l r).items ++ R)).set 3 (.blk b cs 135)) → Eng.Own ok w0 w' (leaveL cp c3 c4 p ((.blk b cs 135 :: rest) ++ R)) := by
      intro q cs rest hs w' H'
      exact H'.less (List.Sublist.cons_cons _ (List.Sublist.cons_cons _ (List.Sublist.cons_cons _ (List.Sublist.cons_cons _ (List.Sublist.append_right hs R)))))
    by_cases h1 : topT l.tr = p
    · have hstep : stepA (.two b l r) p = rootAt b r := by rw [stepA_two, if_pos h1]
      have hhit : hitA (.two b l r) p = true := by rw [hitA_two, decide_eq_true h1]; rfl
      rw [hstep, hhit, rat b]
      refine Eng.nc_seq ?_
      refine Eng.nc_block ?_
      refine Eng.nc_seq ?_
      refine nc ?_
      refine own_load H 3 rfl (by kernel_rfl) (j := 1) (v := .pointer (some ⟨l.root, 0, none⟩)) rfl ?_
      refine eqlNil_rule (by kernel_rfl) ?_
      refine Eng.nc_cond (b := false) rfl (fun hc => ?_) (fun hc => ?_)
      · cases hc
      refine Eng.nc_seq ?_
      refine nc ?_
      refine draw_rule [] (by kernel_rfl) (by kernel_rfl) H ?_
      refine c_load 3 rfl (by kernel_rfl) (j := 1) (v := .pointer (some ⟨l.root, 0, none⟩)) rfl ?_
      refine c_load i hi (by kernel_rfl) (j := 0) (v := .int .i64 (topT l.tr)) rfl ?_
      refine c_load 0 rfl (by kernel_rfl) (j := 0) (v := .int .i64 p) rfl ?_
      intro w1 H
      refine Eng.nc_cond (b := (topT l.tr == p)) rfl (fun hc => ?_) (fun hc => ?_)
      · refine Eng.nc_seq ?_
        refine nc ?_
        refine own_load H 3 rfl (by kernel_rfl) (j := 2) (v := .pointer (some ⟨r.root, 0, none⟩)) rfl ?_
        refine own_loadA (m := 3) H j hj (by kernel_rfl) (by kernel_rfl) [.int .i64 (topT r.tr), r1, r2] rfl rfl ?_
        refine own_storeB (m := 3) H 3 rfl (by kernel_rfl) [.int .i64 (topT r.tr), r1, r2] rfl rfl (by simp [allOne, ro1, ro2]; rfl) rfl fun w2 H => ?_
        refine Eng.nc_seq ?_
        refine nc ?_
        refine nc ?_
        refine ret_inA [.bool false] ⟨_, rfl, rfl, hsub r _ _ ?_ H⟩
        rw [ri]
        exact (List.sublist_cons_self _ _).trans (List.sublist_append_right _ _)
      · rw [beq_eq_false_iff_ne] at hc; exact absurd h1 hc
    · refine Eng.nc_seq ?_
      refine Eng.nc_block ?_
      refine Eng.nc_seq ?_
      refine nc ?_
      refine own_load H 3 rfl (by kernel_rfl) (j := 1) (v := .pointer (some ⟨l.root, 0, none⟩)) rfl ?_
      refine eqlNil_rule (by kernel_rfl) ?_
      refine Eng.nc_cond (b := false) rfl (fun hc => ?_) (fun hc => ?_)
      · cases hc
      refine Eng.nc_seq ?_
      refine nc ?_
      refine draw_rule [] (by kernel_rfl) (by kernel_rfl) H ?_
      refine c_load 3 rfl (by kernel_rfl) (j := 1) (v := .pointer (some ⟨l.root, 0, none⟩)) rfl ?_
      refine c_load i hi (by kernel_rfl) (j := 0) (v := .int .i64 (topT l.tr)) rfl ?_
      refine c_load 0 rfl (by kernel_rfl) (j := 0) (v := .int .i64 p) rfl ?_
      intro w1 H
      refine Eng.nc_cond (b := (topT l.tr == p)) rfl (fun hc => ?_) (fun hc => ?_)
      · exact absurd (beq_iff_eq.1 hc) h1
      refine Eng.nc_seq ?_
      refine nc ?_
      refine draw_rule [] (by kernel_rfl) (by kernel_rfl) H ?_
      refine c_load 3 rfl (by kernel_rfl) (j := 2) (v := .pointer (some ⟨r.root, 0, none⟩)) rfl ?_
      refine c_load j hj (by kernel_rfl) (j := 0) (v := .int .i64 (topT r.tr)) rfl ?_
      refine c_load 0 rfl (by kernel_rfl) (j := 0) (v := .int .i64 p) rfl ?_
      intro w2 H
      by_cases h2 : topT r.tr = p
      · have hstep : stepA (.two b l r) p = rootAt b l := by rw [stepA_two, if_neg h1, if_pos h2]
        have hhit : hitA (.two b l r) p = true := by rw [hitA_two, decide_eq_true h2, Bool.or_true]
        rw [hstep, hhit, lat b]
        refine Eng.nc_cond (b := (topT r.tr == p)) rfl (fun hc => ?_) (fun hc => ?_)
        · refine Eng.nc_seq ?_
          refine nc ?_
          refine own_load H 3 rfl (by kernel_rfl) (j := 1) (v := .pointer (some ⟨l.root, 0, none⟩)) rfl ?_
          refine own_loadA (m := 3) H i hi (by kernel_rfl) (by kernel_rfl) [.int .i64 (topT l.tr), l1, l2] rfl rfl ?_
          refine own_storeB (m := 3) H 3 rfl (by kernel_rfl) [.int .i64 (topT l.tr), l1, l2] rfl rfl (by simp [allOne, lo1, lo2]; rfl) rfl fun w3 H => ?_
          refine Eng.nc_seq ?_
          refine nc ?_
          refine nc ?_
          refine ret_inA [.bool false] ⟨_, rfl, rfl, hsub l _ _ ?_ H⟩
          rw [li]
          exact (List.sublist_cons_self _ _).trans (List.sublist_append_left _ _)
        · rw [beq_eq_false_iff_ne] at hc; exact absurd h2 hc
      · have hstep : stepA (.two b l r) p = .two b l r := by rw [stepA_two, if_neg h1, if_neg h2]
        have hhit : hitA (.two b l r) p = false := by rw [hitA_two, decide_eq_false h1, decide_eq_false h2]; rfl
        rw [hstep, hhit]
        refine Eng.nc_cond (b := (topT r.tr == p)) rfl (fun hc => ?_) (fun hc => ?_)
        · exact absurd (beq_iff_eq.1 hc) h2
        · refine nc ?_
          refine Eng.nc_seq ?_
          refine nc ?_
          refine nc ?_
          exact ret_inA [.bool true] ⟨_, rfl, rfl, H⟩
theorem leaveL_perm {cp c3 c4 : Nat} {p : Int} {X Y : List Eng.Item} (h : X.Perm Y) : (leaveL cp c3 c4 p X).Perm (leaveL cp c3 c4 p Y) := List.Perm.cons _ (List.Perm.cons _ (List.Perm.cons _ h))
theorem two_right (b : Nat) (l r : TrA) (R : List Eng.Item) : ((TrA.two b l r).items ++ R).Perm (r.items ++ (.blk b [.int .i64 0, l.ptr, r.ptr] 135 :: (l.items ++ R))) := by
  show (Eng.Item.blk b _ 135 :: (l.items ++ r.items) ++ R).Perm _
  have h1 : (Eng.Item.blk b [.int .i64 0, l.ptr, r.ptr] 135 :: (l.items ++ r.items)).Perm (r.items ++ (.blk b [.int .i64 0, l.ptr, r.ptr] 135 :: l.items)) := (List.Perm.cons _ List.perm_append_comm).trans List.perm_middle.symm
  refine (List.Perm.append_right R h1).trans ?_
  rw [List.append_assoc, List.cons_append]
theorem two_left (b : Nat) (l r : TrA) (R : List Eng.Item) : ((TrA.two b l r).items ++ R).Perm (l.items ++ (.blk b [.int .i64 0, l.ptr, r.ptr] 135 :: (r.items ++ R))) := by
  show (Eng.Item.blk b _ 135 :: (l.items ++ r.items) ++ R).Perm _
  rw [List.cons_append, List.append_assoc]
  exact List.perm_middle.symm
set_option maxHeartbeats 4000000 in
theorem walkL_own {cp c3 c4 : Nat} {p : Int} : ∀ (A : TrA) {R : List Eng.Item} {w : World}, Eng.Own ok w0 w (leaveL cp c3 c4 p (A.items ++ R)) →
    Calls Tryz.prog 119 #[A.ptr, .pointer (some ⟨c3, 0, none⟩), .pointer (some ⟨c4, 0, none⟩)] w fun e w' => ∃ u, e = .returned u ∧ Eng.Own ok w0 w' (leaveL cp c3 c4 p ((outA A p).items ++ R)) := by
  intro A
  induction A with
  | leaf b q =>
    intro R w H
    refine enterN (args := [(TrA.leaf b q).ptr, .pointer (some ⟨c3, 0, none⟩), .pointer (some ⟨c4, 0, none⟩)]) Tryz.func119 rfl Tryz.ntmps119 rfl rfl ?_
    refine Eng.nc_seq ?_
    refine nc ?_
    refine own_load H 1 rfl (by kernel_rfl) (j := 0) rfl ?_
    refine callV_rule (by kernel_rfl) (leave1_own (A := .leaf b q) H) fun u w1 ⟨hu, H⟩ => ?_
    subst hu
    refine own_load H 3 rfl (by kernel_rfl) (j := 1) (v := .pointer none) rfl ?_
    refine neqNil_rule (by kernel_rfl) ?_
    refine Eng.nc_cond (b := false) rfl (fun hc => ?_) (fun hc => ?_)
    · cases hc
    · refine nc ?_
      exact ret_inA [] ⟨_, rfl, H⟩
  | two b l r ihl ihr =>
    intro R w H
    refine enterN (args := [(TrA.two b l r).ptr, .pointer (some ⟨c3, 0, none⟩), .pointer (some ⟨c4, 0, none⟩)]) Tryz.func119 rfl Tryz.ntmps119 rfl rfl ?_
    refine Eng.nc_seq ?_
    refine nc ?_
    refine own_load H 1 rfl (by kernel_rfl) (j := 0) rfl ?_
    refine callV_rule (by kernel_rfl) (leave1_own (A := .two b l r) H) fun u w1 ⟨hu, H⟩ => ?_
    have hhit : ∀ z, hitA (.two b l r) p = z → u = .bool (!z) := fun z hz => by rw [hu, hz]
    by_cases hh : topT l.tr = p ∨ topT r.tr = p
    · have hz := hhit true (by rw [hitA_two]; rcases hh with h | h <;> simp [h])
      have hstep : stepA (.two b l r) p = outA (.two b l r) p := by
        rw [stepA_two, outA_two]
        by_cases h1 : topT l.tr = p
        · rw [if_pos h1, if_pos h1]
        · rw [if_neg h1, if_neg h1]
          have h2 : topT r.tr = p := hh.resolve_left h1
          rw [if_pos h2, if_pos h2]
      rw [hstep] at H
      subst hz
      obtain ⟨i, cs, hi, hcs⟩ : ∃ (i : Nat) (cs : List Value), (leaveL cp c3 c4 p ((outA (.two b l r) p).items ++ R))[i]? = some (Eng.Item.blk b cs 135) ∧ ∃ a, cs[1]? = some (Value.pointer a) := by
        have hroot := (outA_tr (.two b l r) p).2
        cases hq : outA (.two b l r) p with
        | leaf b' q => rw [hq] at hroot; cases hroot; exact ⟨3, _, rfl, none, rfl⟩
        | two b' l' r' => rw [hq] at hroot; cases hroot; exact ⟨3, _, rfl, _, rfl⟩
      obtain ⟨a, ha⟩ := hcs
      refine own_load H i hi (by kernel_rfl) (j := 1) (v := .pointer a) ha ?_
      refine neqNil_rule (by kernel_rfl) ?_
      refine Eng.nc_cond (b := false) rfl (fun hc => ?_) (fun hc => ?_)
      · cases hc
      · refine nc ?_
        exact ret_inA [] ⟨_, rfl, H⟩
    · have h1 : ¬ topT l.tr = p := fun q => hh (.inl q)
      have h2 : ¬ topT r.tr = p := fun q => hh (.inr q)
      have hz := hhit false (by rw [hitA_two]; simp [h1, h2])
      have hstep : stepA (.two b l r) p = .two b l r := by rw [stepA_two, if_neg h1, if_neg h2]
      have hout : outA (.two b l r) p = .two b (outA l p) (outA r p) := by
        rw [outA_two, if_neg h1, if_neg h2]
      rw [hstep] at H
      rw [hout]
      subst hz
      have hlp : (outA l p).ptr = l.ptr := by unfold TrA.ptr; rw [(outA_tr l p).2]
      have hrp : (outA r p).ptr = r.ptr := by unfold TrA.ptr; rw [(outA_tr r p).2]
      refine own_load H 3 rfl (by kernel_rfl) (j := 1) (v := .pointer (some ⟨l.root, 0, none⟩)) rfl ?_
      refine neqNil_rule (by kernel_rfl) ?_
      refine Eng.nc_cond (b := true) rfl (fun hc => ?_) (fun hc => ?_)
      · refine Eng.nc_seq ?_
        refine nc ?_
        refine draw_rule [] (by kernel_rfl) (by kernel_rfl) H ?_
        refine c_load 2 rfl (by kernel_rfl) (j := 0) rfl ?_
        refine c_load 3 rfl (by kernel_rfl) (j := 2) (v := r.ptr) rfl ?_
        refine c_callV (fun _ L' => L' = leaveL cp c3 c4 p ((TrA.two b l (outA r p)).items ++ R)) rfl (by kernel_rfl) (fun w H => (ihr (H.perm (leaveL_perm (two_right b l r R)))).mono fun e w' ⟨u, he, H'⟩ => ⟨u, he, _, rfl, by
          have q := (two_right b l (outA r p) R).symm
          rw [hrp] at q
          exact H'.perm (leaveL_perm q)⟩) fun u L' hL' => ?_
        subst hL'
        intro w2 H
        refine nc ?_
        refine draw_rule [] (by kernel_rfl) (by kernel_rfl) H ?_
        refine c_load 2 rfl (by kernel_rfl) (j := 0) rfl ?_
        refine c_load 3 rfl (by kernel_rfl) (j := 1) (v := l.ptr) rfl ?_
        refine c_callV (fun _ L' => L' = leaveL cp c3 c4 p ((TrA.two b (outA l p) (outA r p)).items ++ R)) rfl (by kernel_rfl) (fun w H => (ihl (H.perm (leaveL_perm (two_left b l (outA r p) R)))).mono fun e w' ⟨u, he, H'⟩ => ⟨u, he, _, rfl, by
          have q := (two_left b (outA l p) (outA r p) R).symm
          rw [hlp] at q
          exact H'.perm (leaveL_perm q)⟩) fun u L' hL' => ?_
        subst hL'
        intro w3 H
        exact ret_inA [] ⟨_, rfl, H⟩
      · cases hc
/-! Without memory. -/
theorem leaves_in : ∀ (T : Tr), T.ok → ∀ x ∈ T.leavesR, 1 ≤ x ∧ x ≤ 8 := by
  intro T
  induction T with
  | leaf p => intro h x hx; rw [List.mem_singleton.1 hx]; exact h
  | two l r ihl ihr =>
    intro h x hx
    rcases List.mem_append.1 hx with q | q
    · exact ihr h.2 x q
    · exact ihl h.1 x q
theorem topT_leaf {T : Tr} {p : Int} (hp : 1 ≤ p) (h : topT T = p) : T = .leaf p := by
  cases T with
  | leaf q => have : q = p := h; rw [this]
  | two l r => have : (0 : Int) = p := h; omega
theorem outT_no : ∀ (T : Tr) (p : Int), 1 ≤ p → p ∉ T.leavesR → outT T p = T
  | .leaf q, p, _, _ => rfl
  | .two l r, p, hp, h => by
    have hl : p ∉ l.leavesR := fun q => h (List.mem_append_right _ q)
    have hr : p ∉ r.leavesR := fun q => h (List.mem_append_left _ q)
    unfold outT
    rw [if_neg (fun q => hl (by rw [topT_leaf hp q]; exact List.mem_singleton.2 rfl)), if_neg (fun q => hr (by rw [topT_leaf hp q]; exact List.mem_singleton.2 rfl)), outT_no l p hp hl, outT_no r p hp hr]
theorem outT_ok : ∀ (T : Tr) (p : Int), T.ok → T.leavesR.Nodup → p ∈ T.leavesR → T ≠ .leaf p → (outT T p).ok ∧ (p :: (outT T p).leavesR).Perm T.leavesR
  | .leaf q, p, hk, hn, h, hne => absurd (by rw [List.mem_singleton.1 h]) hne
  | .two l r, p, hk, hn, h, hne => by
    have hp := (leaves_in _ hk p h).1
    have hn2 : (r.leavesR ++ l.leavesR).Nodup := hn
    obtain ⟨hnr, hnl, hdis⟩ := List.nodup_append.1 hn2
    unfold outT
    by_cases h1 : topT l = p
    · rw [if_pos h1]
      have e := topT_leaf hp h1
      subst e
      exact ⟨hk.2, (List.perm_append_comm (l₁ := [p]) (l₂ := r.leavesR))⟩
    · rw [if_neg h1]
      by_cases h2 : topT r = p
      · rw [if_pos h2]
        have e := topT_leaf hp h2
        subst e
        exact ⟨hk.1, List.Perm.refl _⟩
      · rw [if_neg h2]
        have hl1 : l ≠ .leaf p := fun q => h1 (by rw [q]; rfl)
        have hr1 : r ≠ .leaf p := fun q => h2 (by rw [q]; rfl)
        rcases List.mem_append.1 (show p ∈ r.leavesR ++ l.leavesR from h) with q | q
        · have hno : p ∉ l.leavesR := fun z => hdis p q p z rfl
          obtain ⟨i1, i2⟩ := outT_ok r p hk.2 hnr q hr1
          rw [outT_no l p hp hno]
          exact ⟨⟨hk.1, i1⟩, (List.Perm.append_right l.leavesR i2)⟩
        · have hno : p ∉ r.leavesR := fun z => hdis p z p q rfl
          obtain ⟨i1, i2⟩ := outT_ok l p hk.1 hnl q hl1
          rw [outT_no r p hp hno]
          refine ⟨⟨i1, hk.2⟩, ?_⟩
          show (p :: (r.leavesR ++ (outT l p).leavesR)).Perm (r.leavesR ++ l.leavesR)
          exact List.perm_middle.symm.trans (List.Perm.append_left _ i2)
def leaveM (s : List UInt8) (p : Int) : List UInt8 × Int := match ofM s with
  | none => ([], 1)
  | some (.leaf _) => ([], 8)
  | some (.two l r) => if p ∈ (Tr.two l r).leavesR then ((outT (.two l r) p).text, 0) else ([], 8)
theorem leaveM_none {s : List UInt8} {p : Int} (ho : ofM s = none) : leaveM s p = ([], 1) := by unfold leaveM; rw [ho]
theorem leaveM_leaf {s : List UInt8} {p q : Int} (ho : ofM s = some (.leaf q)) : leaveM s p = ([], 8) := by unfold leaveM; rw [ho]
theorem leaveM_no {s : List UInt8} {p : Int} {l r : Tr} (ho : ofM s = some (.two l r)) (h : p ∉ (Tr.two l r).leavesR) : leaveM s p = ([], 8) := by unfold leaveM; rw [ho]; exact if_neg h
theorem leaveM_yes {s : List UInt8} {p : Int} {l r : Tr} (ho : ofM s = some (.two l r)) (h : p ∈ (Tr.two l r).leavesR) : leaveM s p = ((outT (.two l r) p).text, 0) := by unfold leaveM; rw [ho]; exact if_pos h
set_option maxHeartbeats 8000000 in
theorem treeLeave_calls {s : List UInt8} {p : Int} (hs : s.length ≤ 900000) : Calls Tryz.prog 46 #[.string (bs s), .int .i64 p] w fun e w' => ∃ v, e = .returned v ∧ (v = .tuple #[.string (bs (leaveM s p).1), .int .i64 (leaveM s p).2] ∧ Bel w.heap.size w w') := by
  have H : Eng.Own (fun _ => False) w w [] := Eng.Own.nil _ w
  refine enterN (args := [.string (bs s), .int .i64 p]) Tryz.func46 rfl Tryz.ntmps46 rfl rfl ?_
  refine Eng.nc_seq ?_
  refine nc ?_
  refine own_box H [.int .i64 p] rfl fun cp w1 H => ?_
  refine Eng.nc_seq ?_
  refine nc ?_
  refine call_rule (by kernel_rfl) (treeOf_own (by omega) H) fun v w2 hR => ?_
  cases ho : ofM s with
  | none =>
    rw [ho] at hR
    obtain ⟨rfl, H⟩ := hR
    refine Eng.nc_seq ?_
    refine Eng.nc_block ?_
    refine Eng.nc_seq ?_
    refine nc ?_
    refine eqlNil_rule (by kernel_rfl) ?_
    refine Eng.nc_cond (b := true) rfl (fun hc => ?_) (fun hc => ?_)
    · refine Eng.nc_seq ?_
      refine nc ?_
      refine nc ?_
      exact ret_inA [.string (bs []), .int .i64 1] ⟨_, rfl, by rw [leaveM_none ho]; rfl, H.frame⟩
    · cases hc
  | some T =>
    rw [ho] at hR
    obtain ⟨A, hA, rfl, H⟩ := hR
    obtain ⟨hT, hok⟩ := ofM_text ho
    have hnd := ofM_nodup ho
    have h8 := leaves_eight hok hnd
    subst hA
    cases A with
    | leaf b q =>
      refine Eng.nc_seq ?_
      refine Eng.nc_block ?_
      refine Eng.nc_seq ?_
      refine nc ?_
      refine eqlNil_rule (p := some ⟨b, 0, none⟩) (by kernel_rfl) ?_
      refine Eng.nc_cond (b := false) rfl (fun hc => ?_) (fun hc => ?_)
      · cases hc
      refine Eng.nc_seq ?_
      refine nc ?_
      refine draw_rule [] (by kernel_rfl) (by kernel_rfl) H ?_
      refine c_load 0 rfl (by kernel_rfl) (j := 1) (v := .pointer none) rfl ?_
      refine c_eqlNil (by kernel_rfl) ?_
      refine c_skipCL (.slice none 0 0) rfl ?_
      refine c_load 1 rfl (by kernel_rfl) (j := 0) (v := .int .i64 p) rfl ?_
      refine c_skipCL (.bool false) rfl ?_
      intro w3 H
      refine Eng.nc_cond (b := true) rfl (fun hc => ?_) (fun hc => ?_)
      · refine Eng.nc_seq ?_
        refine nc ?_
        refine nc ?_
        exact ret_inA [.string (bs []), .int .i64 8] ⟨_, rfl, by rw [leaveM_leaf (q := q) ho]; rfl, H.frame⟩
      · cases hc
    | two b l r =>
      replace H : Eng.Own (fun _ => False) w w2 (.blk cp [.int .i64 p] 3 :: ((TrA.two b l r).items ++ [])) := by
        rw [List.append_nil]
        exact H.perm List.perm_append_comm
      refine nc_cut (fun e w' => (p ∈ (TrA.two b l r).tr.leavesR) ∧ e = [(3, .pointer (some ⟨cp, 0, none⟩)), (6, (TrA.two b l r).ptr)] ∧ Eng.Own (fun _ => False) w w' (.blk cp [.int .i64 p] 3 :: ((TrA.two b l r).items ++ []))) ?_ ?_
      · refine Eng.nc_block ?_
        refine Eng.nc_seq ?_
        refine nc ?_
        refine eqlNil_rule (p := some ⟨b, 0, none⟩) (by kernel_rfl) ?_
        refine Eng.nc_cond (b := false) rfl (fun hc => ?_) (fun hc => ?_)
        · cases hc
        refine Eng.nc_seq ?_
        refine nc ?_
        refine draw_rule [] (by kernel_rfl) (by kernel_rfl) H ?_
        refine c_load 1 rfl (by kernel_rfl) (j := 1) (v := .pointer (some ⟨l.root, 0, none⟩)) rfl ?_
        refine c_eqlNil (by kernel_rfl) ?_
        refine c_callOwn (fun u L' => L' = .row u 3 1 (sortZ (TrA.two b l r).tr.leavesR).length (intsV (sortZ (TrA.two b l r).tr.leavesR)) :: (.blk cp [.int .i64 p] 3 :: ((TrA.two b l r).items ++ []))) rfl (by kernel_rfl) (fun v L' h => by rw [h]; exact List.sublist_cons_self _ _) (fun w H => (nodeMembers_in (A := .two b l r) (fun it h => List.mem_cons_of_mem _ (List.mem_append_left _ h)) (by omega) H).mono fun e w' ⟨u, he, H'⟩ => ⟨u, he, _, rfl, H'⟩) fun u L' hL' => ?_
        subst hL'
        refine c_load 0 rfl (by kernel_rfl) (j := 0) (v := .int .i64 p) rfl ?_
        refine c_call (.bool (decide (p ∈ sortZ (TrA.two b l r).tr.leavesR))) (by kernel_rfl) (fun _ w H => view_Has_ok (H.rowSlR (k := tInt .i64) (okr := fun _ => True) 0 rfl (rowsR_ints w (fun _ => True) _)) (hasP_eq _ p (by rw [sortZ_len]; omega))) ?_
        intro w3 H
        replace H := H.tail
        by_cases hm : p ∈ (TrA.two b l r).tr.leavesR
        · have hm2 : decide (p ∈ sortZ (TrA.two b l r).tr.leavesR) = true := by simpa using ((sortZ_perm _).mem_iff).2 hm
          refine Eng.nc_cond (b := false) (by rw [hm2]; rfl) (fun hc => ?_) (fun hc => ?_)
          · cases hc
          · refine nc ?_
            exact cut_inA ⟨hm, rfl, H⟩
        · have hm2 : decide (p ∈ sortZ (TrA.two b l r).tr.leavesR) = false := by simpa using fun q => hm (((sortZ_perm _).mem_iff).1 q)
          refine Eng.nc_cond (b := true) (by rw [hm2]; rfl) (fun hc => ?_) (fun hc => ?_)
          · refine Eng.nc_seq ?_
            refine nc ?_
            refine nc ?_
            exact ret_inA [.string (bs []), .int .i64 8] ⟨_, rfl, by rw [leaveM_no (l := l.tr) (r := r.tr) ho hm]; rfl, H.frame⟩
          · cases hc
      · rintro _ w3 ⟨hm, rfl, H⟩
        refine Eng.nc_seq ?_
        refine nc ?_
        have hE : Calls Tryz.prog 85 #[(TrA.two b l r).ptr, doL cp] w3 fun e w' => ∃ u, e = .returned u ∧ ∃ c3 c4, Eng.Own (fun _ => False) w w' (leaveL cp c3 c4 p ((outA (.two b l r) p).items ++ [])) := by
          refine enterN (args := [(TrA.two b l r).ptr, doL cp]) Tryz.func85 rfl Tryz.ntmps85 rfl rfl ?_
          refine Eng.nc_seq ?_
          refine nc ?_
          refine own_box H [doL cp] rfl fun c3 w2 H => ?_
          refine Eng.nc_seq ?_
          refine nc ?_
          refine own_alloc (z := .nilFunc) H (by kernel_rfl) [.nilFunc] rfl fun c4 w3 H => ?_
          refine Eng.nc_seq ?_
          refine nc ?_
          refine own_store (t := 169) H 0 rfl (by kernel_rfl) (j := 0) rfl rfl fun w4 H => ?_
          refine nc ?_
          have H0 : Eng.Own (fun _ => False) w w4 (leaveL cp c3 c4 p ((TrA.two b l r).items ++ [])) :=
            order_own (A := [.blk c4 [walkV c3 c4] 169, .blk c3 [doL cp] 133, .blk cp [.int .i64 p] 3]) H [2, 1, 0] (by show (List.range 3).Perm _; decide)
          refine own_load H0 2 rfl (by kernel_rfl) (j := 0) rfl ?_
          refine callV_rule (by kernel_rfl) (walkL_own (.two b l r) H0) fun u w5 H => ?_
          exact ret_inA [] ⟨_, rfl, c3, c4, H⟩
        refine call_rule (by kernel_rfl) hE fun u w5 ⟨c3, c4, H⟩ => ?_
        rw [List.append_nil] at H
        replace H : Eng.Own (fun _ => False) w w5 (outA (.two b l r) p).items := H.less (List.Sublist.cons _ (List.Sublist.cons _ (List.Sublist.cons _ (List.Sublist.refl _))))
        obtain ⟨htr, hrt⟩ := outA_tr (.two b l r) p
        have hjk := outT_ok _ p hok hnd hm (fun q => by cases q)
        have hlen : (outT (TrA.two b l r).tr p).text.length ≤ 1000000 := by
          have h1 := text_leaves3 (outT (TrA.two b l r).tr p)
          have h2 := hjk.2.length_eq
          rw [List.length_cons] at h2
          omega
        refine Eng.nc_seq ?_
        refine nc ?_
        have hroot : (TrA.two b l r).ptr = (outA (.two b l r) p).ptr := by unfold TrA.ptr; rw [hrt]
        rw [hroot]
        refine call_rule (by kernel_rfl) (text_own (outA (.two b l r) p) (fun it h => h) (by rw [htr]; exact hjk.1) (by rw [htr]; exact hlen) H) fun u w10 ⟨L', ⟨hu, hL⟩, H⟩ => ?_
        subst hu hL
        refine nc ?_
        rw [htr]
        exact ret_inA [_, .int .i64 0] ⟨_, rfl, by rw [leaveM_yes (l := l.tr) (r := r.tr) ho hm]; rfl, H.frame⟩
end Go.Proofs.YtfapphlhkfddoaaGreatDoor.G
/- A piece of a row of the call's own is cleared. -/
set_option linter.unusedVariables false
namespace Go.Eng
open Go.RowKit
set_option linter.unusedSectionVars false
variable [Inhabited Keep]

section
variable {P : Program} {w w0 : World} {K : Value → World → Prop} {g : Bool} {ok : Nat → Prop} {L : List Item}
/-- Cells of an own row are stored to. -/
theorem Own.setPart {e : TypeId} {sz n c : Nat} {a : Addr} {cells : List Value} (H : Own ok w0 w L) (i : Nat) (hi : L[i]? = some (.row (.slice (some a) n c) e sz n cells)) (o : Nat) (vs : List Value) (h0 : 0 < n) (h : o + vs.length ≤ n * sz) :
    Own ok w0 (setCells w (a.add o) 0 vs) (L.set i (.row (.slice (some a) n c) e sz n (setRange cells o vs))) ∧ ∀ q v, vs[q]? = some v → (∃ u, w.cell? ((a.add o).add (0 + q)) = some u) ∧ w.frozen? ((a.add o).add (0 + q)) = false := by
  have hq : qRow w e sz (.slice (some a) n c) n cells := H.at hi
  rcases hq.2 with ⟨hz, _⟩ | ⟨b, off0, cap, cur, hv, hg, hnc, hcm, hcs, ht⟩
  · omega
  have hcl := hq.1
  injection hv with e1 e2 e3
  injection e1 with e1
  subst e1 e3
  have hb3 : n * sz ≤ c * sz := Nat.mul_le_mul_right _ hnc
  have hb4 : (off0 + c) * sz = off0 * sz + c * sz := Nat.add_mul _ _ _
  have hcur : (off0 * sz + o) + vs.length ≤ cur.toList.length := by simp only [Array.length_toList, hcs, hb4]; omega
  have hw : setCells w ((Addr.mk b (off0 * sz) none).add o) 0 vs = World.setCells w b (off0 * sz + o) vs := by
    rw [add_at, setCells_eq]; rfl
  have hat : (World.setCells w b (off0 * sz + o) vs).heap[b]? = some (.cells (setRange cur.toList (off0 * sz + o) vs).toArray e (0, 0)) := setCells_at vs (off0 * sz + o) w cur hg
  have hother := fun q (hq : q ≠ b) => setCells_other vs (off0 * sz + o) w q hq
  obtain ⟨z1, z2, z3, z4⟩ := setCells_size (b := b) vs (off0 * sz + o) w
  have hgrown : w.grownBy (World.setCells w b (off0 * sz + o) vs) (some b) := ⟨z1, z2, z3, by rw [z4]; exact Nat.le_refl _, fun q _ hne => hother q (fun h => hne (by rw [h]))⟩
  have hnew : qRow (World.setCells w b (off0 * sz + o) vs) e sz (.slice (some ⟨b, off0 * sz, none⟩) n c) n (setRange cells o vs) := by
    refine ⟨by rw [setRange_len]; exact hcl, .inr ⟨b, off0, c, _, rfl, hat, hnc, hcm, by simp [setRange_len, hcs], ?_⟩⟩
    apply List.ext_getElem?
    intro q
    rw [List.getElem?_take, setRange_get _ _ _ _ (by rw [hcl]; exact h)]
    have hcq : cells[q]? = if q < n * sz then cur.toList[off0 * sz + q]? else none := by
      rw [← ht, List.getElem?_take]
      split
      · rw [List.getElem?_drop]
      · rfl
    split
    · rename_i hqn
      rw [List.getElem?_drop, setRange_get _ _ _ _ hcur]
      by_cases hin : o ≤ q ∧ q < o + vs.length
      · rw [if_pos hin, if_pos (by omega)]
        congr 1
        omega
      · rw [if_neg hin, if_neg (by omega), hcq, if_pos hqn]
    · rename_i hqn
      rw [if_neg (by omega), hcq, if_neg hqn]
  obtain ⟨A, B, hL, hset⟩ := list_split hi
  refine ⟨?_, fun q v hqv => ?_⟩
  · rw [hw, hset]
    subst hL
    exact Own.setRow (v := .slice (some ⟨b, off0 * sz, none⟩) n c) (v' := .slice (some ⟨b, off0 * sz, none⟩) n c) H hgrown (Nat.le_of_eq (setCells_drawn vs _ w).symm) hnew (.inl rfl)
  · have hql : q < vs.length := (List.getElem?_eq_some_iff.1 hqv).1
    rw [add_at, Nat.zero_add, add_at]
    have hlt : off0 * sz + o + q < cur.size := by
      simp only [Array.length_toList] at hcur
      omega
    refine ⟨⟨cur[off0 * sz + o + q], ?_⟩, ?_⟩
    · simp [World.cell?, hg]
    · simp [World.frozen?, hg]
/-- clear(s[l:]) of a row of whole numbers. -/
theorem own_clear {t ty e : TypeId} {A : Option Addr} {n c l : Nat} {cells : List Value} {consts : Array Bool} (H : Own ok w0 w L) (i : Nat) (hi : L[i]? = some (.row (.slice A n c) e 1 n cells)) (hl : l ≤ n) (ht : sliceB P t = some e) (hz : zeroB P e = some (.int .i64 0))
    (hk : ∀ cells' w', Own ok w0 w' (L.set i (.row (.slice A n c) e 1 n cells')) → K (.tuple #[]) w') : nBuiltin P true .clear [t] ty [piece A c l n 1] consts w K := by
  unfold nBuiltin
  refine nOp_in ⟨fun _ => ?_, fun h => by cases h⟩
  have hu := run_underlying_slice (w := w) ht
  by_cases h0 : n - l = 0
  · have hrun : (builtin .clear #[t] ty consts #[piece A c l n 1]).run P w = .ok (.value (.tuple #[])) w := by
      unfold piece
      rw [h0]
      generalize (if c = l then A else A.map (·.add (l * 1))) = A'
      show (sv (Builtin.clear_ #[t] ty #[.slice A' 0 (c - l)])).run P w = _
      refine sv_run ?_
      cases A' <;> simp [Builtin.clear_, hu]
    show upon P K ((builtin .clear #[t] ty consts #[piece A c l n 1]).run P w)
    rw [hrun]
    refine hk cells w ?_
    have : L.set i (.row (.slice A n c) e 1 n cells) = L := by
      obtain ⟨X, Y, hL, hset⟩ := list_split hi
      rw [hset, hL]
    rw [this]
    exact H
  · obtain ⟨a, rfl, _⟩ := H.rowCells i hi (by omega)
    have hq : qRow w e 1 (.slice (some a) n c) n cells := H.at hi
    have hnc : n ≤ c := by
      rcases hq.2 with ⟨hz, _⟩ | ⟨b, off0, cap, cur, hv, hg, hnc, _⟩
      · omega
      · injection hv with _ _ e3; omega
    have hm : Builtin.zeroCells (Value.int .i64 0).cells (n - l) = ((List.replicate (n - l) (Value.int .i64 0)).toArray) := by
      apply Array.ext
      · simp [Builtin.zeroCells, Value.cells]
      · intro q h1 h2
        simp [Builtin.zeroCells, Value.cells]
        have : q % 1 = 0 := Nat.mod_one q
        simp [this]
    obtain ⟨hown, hcell⟩ := H.setPart i hi l (List.replicate (n - l) (Value.int .i64 0)) (by omega) (by rw [List.length_replicate]; omega)
    have hrun : (builtin .clear #[t] ty consts #[piece (some a) c l n 1]).run P w = .ok (.value (.tuple #[])) (setCells w (a.add l) 0 (List.replicate (n - l) (Value.int .i64 0))) := by
      unfold piece
      rw [if_neg (by omega : ¬ c = l), Nat.mul_one]
      show (sv (Builtin.clear_ #[t] ty #[.slice (some (a.add l)) (n - l) (c - l)])).run P w = _
      refine sv_run ?_
      obtain ⟨m, hm1⟩ : ∃ m, n - l = m + 1 := ⟨n - l - 1, by omega⟩
      have hst := run_storeCells (P := P) (a := a.add l) (List.replicate (n - l) (Value.int .i64 0)) 0 w (fun v hv => by rw [(List.mem_replicate.1 hv).2]; rfl) hcell
      have hzr := run_zero (P := P) (w := w) hz
      rw [hm1] at hst hm ⊢
      simp [Builtin.clear_, hu, hzr, hm, hst]
    show upon P K ((builtin .clear #[t] ty consts #[piece (some a) c l n 1]).run P w)
    rw [hrun]
    exact hk _ _ hown
end
end Go.Eng
/- Two trees are merged. -/
namespace Go.Proofs.YtfapphlhkfddoaaGreatDoor.G
open Go.RowKit Go.Eng Go.Proofs Go.Proofs.YtfapphlhkfddoaaGreatDoor.Cut
set_option linter.unusedVariables false
set_option maxRecDepth 20000
variable {ok : Nat → Prop} {w0 w : World} {L R : List Eng.Item}

theorem freezeI {v : Value} {xs : List Int} (H : Eng.Own ok w0 w L) (i : Nat) (hi : L[i]? = some (.row v 3 1 xs.length (intsV xs))) : Eng.Own ok w0 w (L.set i (.dat (dSl (tInt .i64) v xs))) := by
  have H' := H.addDat (dRows (tInt .i64) xs (intsV xs)) (rowsR_ints w _ xs)
  exact (H'.freeze (k := tInt .i64) (i + 1) 0 hi rfl).tail
/-! The copy of a row, and what is struck out of it. -/
set_option maxHeartbeats 1000000 in
theorem cloneI_own {v : Value} {xs : List Int} (hl : xs.length ≤ 1000000) (H : Eng.Own ok w0 w L) (j : Nat) (hj : L[j]? = some (.dat (dSl (tInt .i64) v xs))) :
    Calls Tryz.prog 121 #[v] w fun e w' => ∃ u, e = .returned u ∧ Eng.Own ok w0 w' (.row u 3 1 xs.length (intsV xs) :: L) := by
  obtain ⟨A, c, hA, hc, h0⟩ := id (H.dat j hj)
  subst hA
  refine enterN (args := [.slice A xs.length c]) Tryz.func121 rfl Tryz.ntmps121 rfl rfl ?_
  refine Eng.nc_seq ?_
  refine nc ?_
  refine Eng.nc_seq ?_
  refine Eng.nc_seq ?_
  refine nc ?_
  refine eqlSl_rule (by kernel_rfl) ?_
  cases A with
  | none =>
    have hx : xs = [] := by
      rcases h0 with ⟨h, _⟩ | ⟨a, h, _⟩
      · exact h
      · cases h
    subst hx
    refine Eng.nc_cond (b := true) rfl (fun hc => ?_) (fun hc => ?_)
    · refine Eng.nc_seq ?_
      refine nc ?_
      refine nc ?_
      exact ret_inA [.slice none 0 0] ⟨_, rfl, H.nilRow 3 1⟩
    · cases hc
  | some a =>
    refine Eng.nc_cond (b := false) rfl (fun hc => ?_) (fun hc => ?_)
    · cases hc
    refine nc ?_
    refine Eng.nc_seq ?_
    refine nc ?_
    refine own_buildEmpty (e := 3) (sz := 1) H (by kernel_rfl) (by kernel_rfl) fun v w1 H => ?_
    refine own_appendSl (k := tInt .i64) (e := 3) (z := .int .i64 0) (by_ := 8) H 0 (j + 1) rfl hj (by kernel_rfl) (by kernel_rfl) rfl rfl (by omega) (by omega) ?_
    intro v' w2 news hn H
    have := rows_int hn
    subst this
    refine nc ?_
    refine ret_inA [v'] ⟨_, rfl, ?_⟩
    rw [Nat.zero_add] at H
    exact H
def bothV (cb : Nat) : Value := .func (.func 122) #[] #[.pointer (some ⟨cb, 0, none⟩)]
set_option maxHeartbeats 1000000 in
theorem both1_own {cb i j : Nat} {vy : Value} {ys : List Int} {x : Int} (hl : ys.length ≤ 1000000) (H : Eng.Own ok w0 w L) (hi : L[i]? = some (.blk cb [vy] 22)) (hj : L[j]? = some (.dat (dSl (tInt .i64) vy ys))) :
    Calls Tryz.prog 122 #[.int .i64 x, .pointer (some ⟨cb, 0, none⟩)] w fun e w' => ∃ u, e = .returned u ∧ (u = .bool (!(decide (x ∈ ys))) ∧ Eng.Own ok w0 w' L) := by
  refine enterN (args := [.int .i64 x, .pointer (some ⟨cb, 0, none⟩)]) Tryz.func122 rfl Tryz.ntmps122 rfl rfl ?_
  refine Eng.nc_seq ?_
  refine nc ?_
  refine Eng.nc_seq ?_
  refine nc ?_
  refine own_load H i hi (by kernel_rfl) (j := 0) rfl ?_
  refine call_rule (by kernel_rfl) (view_Has_ok (H.dat j hj) (hasP_eq ys x (by omega))) fun v w1 ⟨hv, hb⟩ => ?_
  subst hv
  replace H := H.call hb
  refine nc ?_
  exact ret_inA [_] ⟨_, rfl, rfl, H⟩
/-- A row of numbers, and the closure's cell. -/
def delL (A : Option Addr) (c cb : Nat) (vy : Value) (zs : List Int) (L : List Eng.Item) : List Eng.Item :=
  .row (.slice A zs.length c) 3 1 zs.length (intsV zs) :: .dat (dRows (tInt .i64) zs (intsV zs)) :: .blk cb [vy] 22 :: L
theorem keep_snoc {ys zs : List Int} {i : Nat} (h : i < zs.length) : (zs.take (i + 1)).filter (fun x => decide (x ∈ ys)) = (zs.take i).filter (fun x => decide (x ∈ ys)) ++ if zs[i] ∈ ys then [zs[i]] else [] := by
  rw [← take_snoc h, List.filter_append]
  congr 1
  by_cases hm : zs[i] ∈ ys
  · rw [if_pos hm]; simp [hm]
  · rw [if_neg hm]; simp [hm]
set_option maxHeartbeats 2000000 in
theorem indexFn_own {A : Option Addr} {c cb j : Nat} {vy : Value} {ys zs : List Int} (hl : ys.length ≤ 1000000) (hz : zs.length ≤ 1000000) (hj : L[j]? = some (.dat (dSl (tInt .i64) vy ys))) (H : Eng.Own ok w0 w (delL A c cb vy zs L)) :
    Calls Tryz.prog 162 #[.slice A zs.length c, bothV cb] w fun e w' => ∃ u, e = .returned u ∧ ∃ q : Int, u = .int .i64 q ∧ ((q = -1 ∧ ∀ x ∈ zs, x ∈ ys) ∨ ∃ (k : Nat) (h : k < zs.length), q = (k : Int) ∧ (∀ x ∈ zs.take k, x ∈ ys) ∧ zs[k] ∉ ys) ∧ Eng.Own ok w0 w' (delL A c cb vy zs L) := by
  refine enterN (args := [.slice A zs.length c, bothV cb]) Tryz.func162 rfl Tryz.ntmps162 rfl rfl ?_
  refine Eng.nc_seq ?_
  refine nc ?_
  refine Eng.nc_seq ?_
  refine Eng.nc_seq ?_
  refine nc ?_
  refine Eng.nc_block ?_
  refine nc ?_
  refine loop_rule (fun k e w' => ∃ i : Nat, i + k = zs.length ∧ (∀ x ∈ zs.take i, x ∈ ys) ∧ e = [(0, .slice A zs.length c), (1, bothV cb), (7, .int .i64 (zs.length : Int)), (8, .int .i64 (i : Int))] ∧ Eng.Own ok w0 w' (delL A c cb vy zs L)) zs.length
    [(0, .slice A zs.length c), (1, bothV cb), (7, .int .i64 (zs.length : Int)), (8, .int .i64 0)] ⟨rfl, rfl, rfl, rfl, trivial⟩ ⟨0, by omega, by simp, rfl, H⟩ ?_
  rintro k e w1 ⟨i, hik, hall, rfl, H⟩
  refine Eng.nc_seq ?_
  refine nc ?_
  refine Eng.nc_seq ?_
  refine Eng.nc_cond (b := decide ((i : Int) < (zs.length : Int))) rfl (fun hc => ?_) (fun hc => ?_)
  · have hil : i < zs.length := by simpa using hc
    obtain ⟨a, rfl, _⟩ := H.rowCells 0 rfl (by omega)
    refine nc ?_
    refine Eng.nc_seq ?_
    refine Eng.nc_block ?_
    refine Eng.nc_seq ?_
    refine nc ?_
    refine Eng.nc_seq ?_
    refine nc ?_
    have hx : idxL zs (i : Int) = some zs[i] := idxL_lt hil
    refine idxA_rule (e := 3) 1 (i : Int) (by kernel_rfl) (by kernel_rfl) (by omega) (by omega) ?_
    obtain ⟨cs, hR, hC⟩ := H.rowElemJ (k := tInt .i64) 0 1 rfl rfl rfl hx
    obtain rfl : cs = [.int .i64 zs[i]] := hR
    refine load_at hC 0 (by kernel_rfl) rfl ?_
    refine callV_rule (by kernel_rfl) (both1_own (i := 2) (j := j + 3) (x := zs[i]) hl H rfl hj) fun u w2 ⟨hu, H⟩ => ?_
    subst hu
    by_cases hm : zs[i] ∈ ys
    · refine Eng.nc_cond (b := !(decide (zs[i] ∈ ys))) rfl (fun hc => ?_) (fun hc => ?_)
      · rw [decide_eq_true hm] at hc; cases hc
      refine nc ?_
      refine nc ?_
      have hw : IntKind.i64.wrap ((i : Int) + (1 : Int)) = ((i + 1 : Nat) : Int) := wrap1 i (by omega)
      refine again_in (k - 1) (by omega) [(0, .slice (some a) zs.length c), (1, bothV cb), (7, .int .i64 (zs.length : Int)), (8, .int .i64 (IntKind.i64.wrap ((i : Int) + (1 : Int))))] ⟨rfl, rfl, rfl, rfl, trivial⟩ ⟨i + 1, by omega, ?_, by rw [hw], H⟩
      intro x hx
      rw [← take_snoc hil] at hx
      rcases List.mem_append.1 hx with q | q
      · exact hall x q
      · rw [List.mem_singleton.1 q]; exact hm
    · refine Eng.nc_cond (b := !(decide (zs[i] ∈ ys))) rfl (fun hc => ?_) (fun hc => ?_)
      · refine Eng.nc_seq ?_
        refine nc ?_
        refine nc ?_
        exact ret_inA [.int .i64 (i : Int)] ⟨_, rfl, _, rfl, .inr ⟨i, hil, rfl, hall, hm⟩, H⟩
      · rw [decide_eq_false hm] at hc; cases hc
  · have hil : i = zs.length := by
      have : ¬ ((i : Int) < (zs.length : Int)) := by simpa using hc
      omega
    subst hil
    refine nc ?_
    refine nc ?_
    refine nc ?_
    exact ret_inA [.int .i64 (-1)] ⟨_, rfl, _, rfl, .inl ⟨rfl, by rw [List.take_length] at hall; exact hall⟩, H⟩
set_option maxHeartbeats 4000000 in
theorem delete_own {A : Option Addr} {c cb j : Nat} {vy : Value} {ys zs : List Int} (hl : ys.length ≤ 1000000) (hz : zs.length ≤ 1000000) (hj : L[j]? = some (.dat (dSl (tInt .i64) vy ys))) (H : Eng.Own ok w0 w (delL A c cb vy zs L)) :
    Calls Tryz.prog 120 #[.slice A zs.length c, bothV cb] w fun e w' => ∃ u, e = .returned u ∧ ∃ A' c', u = .slice A' (zs.filter fun x => decide (x ∈ ys)).length c' ∧ Eng.Own ok w0 w' L := by
  refine enterN (args := [.slice A zs.length c, bothV cb]) Tryz.func120 rfl Tryz.ntmps120 rfl rfl ?_
  refine Eng.nc_seq ?_
  refine nc ?_
  refine Eng.nc_seq ?_
  refine nc ?_
  refine call_rule (by kernel_rfl) (indexFn_own hl hz hj H) fun u w1 ⟨q, hu, hq, H⟩ => ?_
  subst hu
  refine Eng.nc_seq ?_
  refine Eng.nc_seq ?_
  refine nc ?_
  rcases hq with ⟨rfl, hall⟩ | ⟨k0, hk0, rfl, hall, hno⟩
  · refine Eng.nc_cond (b := true) rfl (fun hc => ?_) (fun hc => ?_)
    · refine Eng.nc_seq ?_
      refine nc ?_
      refine nc ?_
      have e : (zs.filter fun x => decide (x ∈ ys)).length = zs.length := by rw [List.filter_eq_self.2 (fun x hx => by simpa using hall x hx)]
      rw [e]
      exact ret_inA [.slice A zs.length c] ⟨_, rfl, A, c, rfl, H.tail.tail.tail⟩
    · cases hc
  · refine Eng.nc_cond (b := ((k0 : Int) == -1)) rfl (fun hc => ?_) (fun hc => ?_)
    · have := beq_iff_eq.1 hc; omega
    refine nc ?_
    have hw0 : IntKind.i64.wrap ((k0 : Int) + (1 : Int)) = ((k0 + 1 : Nat) : Int) := wrap1 k0 (by omega)
    obtain ⟨a, rfl, _⟩ := H.rowCells 0 rfl (by omega)
    refine nc_cut (fun e w' => ∃ zs' : List Int, zs'.length = zs.length ∧ e = [(0, .slice (some a) zs.length c), (5, .int .i64 (((zs.filter fun x => decide (x ∈ ys)).length : Nat) : Int))] ∧ Eng.Own ok w0 w' (delL (some a) c cb vy zs' L)) ?_ ?_
    · refine Eng.nc_seq ?_
      refine nc ?_
      refine Eng.nc_block ?_
      refine nc ?_
      refine loop_rule (fun k e w' => ∃ (i j' : Nat) (zs' : List Int), j' + k = zs.length ∧ i < j' ∧ zs'.length = zs.length ∧ i = ((zs.take j').filter fun x => decide (x ∈ ys)).length ∧ (∀ q, j' ≤ q → zs'[q]? = zs[q]?) ∧ e = [(0, .slice (some a) zs.length c), (1, bothV cb), (5, .int .i64 (i : Int)), (6, .int .i64 (j' : Int))] ∧ Eng.Own ok w0 w' (delL (some a) c cb vy zs' L)) (zs.length - (k0 + 1))
        [(0, .slice (some a) zs.length c), (1, bothV cb), (5, .int .i64 (k0 : Int)), (6, .int .i64 (IntKind.i64.wrap ((k0 : Int) + (1 : Int))))] ⟨rfl, rfl, rfl, rfl, trivial⟩ ⟨k0, k0 + 1, zs, by omega, by omega, rfl, ?_, fun q _ => rfl, by rw [hw0], H⟩ ?_
      · rw [keep_snoc hk0, if_neg hno, List.append_nil, List.filter_eq_self.2 (fun x hx => by simpa using hall x hx), List.length_take]; omega
      rintro k e w2 ⟨i, j', zs', hjk, hij, hzl, hi, hsame, rfl, H⟩
      refine Eng.nc_seq ?_
      refine Eng.nc_seq ?_
      refine nc ?_
      refine Eng.nc_cond (b := decide ((j' : Int) < (zs.length : Int))) rfl (fun hc => ?_) (fun hc => ?_)
      · have hjl : j' < zs.length := by simpa using hc
        have hx : idxL zs' (j' : Int) = some zs[j'] := by rw [idxL_nat, hsame j' (Nat.le_refl _), List.getElem?_eq_getElem hjl]
        refine nc ?_
        refine Eng.nc_seq ?_
        refine Eng.nc_block ?_
        refine Eng.nc_seq ?_
        refine nc ?_
        refine idxA_rule (e := 3) 1 (j' : Int) (by kernel_rfl) (by kernel_rfl) (by omega) (by omega) ?_
        obtain ⟨cs, hR, hC⟩ := H.rowElemJ (k := tInt .i64) 0 1 rfl rfl rfl hx
        obtain rfl : cs = [.int .i64 zs[j']] := hR
        refine load_at hC 0 (by kernel_rfl) rfl ?_
        refine Eng.nc_seq ?_
        refine nc ?_
        refine callV_rule (by kernel_rfl) (both1_own (i := 2) (j := j + 3) (x := zs[j']) hl H rfl hj) fun u w3 ⟨hu, H⟩ => ?_
        subst hu
        have hw1 : IntKind.i64.wrap ((j' : Int) + (1 : Int)) = ((j' + 1 : Nat) : Int) := wrap1 j' (by omega)
        have hks := keep_snoc (ys := ys) hjl
        by_cases hm : zs[j'] ∈ ys
        · rw [if_pos hm] at hks
          refine Eng.nc_cond (b := !(!(decide (zs[j'] ∈ ys)))) rfl (fun hc => ?_) (fun hc => ?_)
          · refine Eng.nc_seq ?_
            refine nc ?_
            refine idxA_rule (e := 3) 1 (i : Int) (by kernel_rfl) (by kernel_rfl) (by omega) (by omega) ?_
            obtain ⟨y, hy⟩ : ∃ y, idxL zs' (i : Int) = some y := ⟨zs'[i]'(by omega), idxL_lt (by omega)⟩
            have hn : zs'.length = zs'.length := rfl
            refine own_rowStore (k := tInt .i64) (m := 1) zs[j'] H 0 1 rfl rfl (i : Int) 0 rfl hy (by kernel_rfl) [.int .i64 zs[j']] rfl rfl rfl rfl (fun cs hR => by obtain rfl : cs = [.int .i64 y] := hR; rfl) fun cells' w4 H => ?_
            have hc2 : cells' = intsV (zs'.set (i : Int).toNat zs[j']) := rows_int (H.dat 1 rfl)
            subst hc2
            have hnl : (zs'.set (i : Int).toNat zs[j']).length = zs'.length := List.length_set
            replace H : Eng.Own ok w0 w4 (delL (some a) c cb vy (zs'.set (i : Int).toNat zs[j']) L) := by
              unfold delL
              rw [hnl]
              exact H
            refine nc ?_
            refine nc ?_
            have hw2 : IntKind.i64.wrap ((i : Int) + (1 : Int)) = ((i + 1 : Nat) : Int) := wrap1 i (by omega)
            refine again_in (k - 1) (by omega) [(0, .slice (some a) zs.length c), (1, bothV cb), (5, .int .i64 (IntKind.i64.wrap ((i : Int) + (1 : Int)))), (6, .int .i64 (IntKind.i64.wrap ((j' : Int) + (1 : Int))))] ⟨rfl, rfl, rfl, rfl, trivial⟩ ⟨i + 1, j' + 1, zs'.set (i : Int).toNat zs[j'], by omega, by omega, by rw [hnl]; exact hzl, ?_, ?_, by rw [hw1, hw2], H⟩
            · rw [hks, List.length_append, ← hi]; rfl
            · intro q hq
              rw [List.getElem?_set_ne (by omega)]
              exact hsame q (by omega)
          · rw [decide_eq_true hm] at hc; cases hc
        · rw [if_neg hm, List.append_nil] at hks
          refine Eng.nc_cond (b := !(!(decide (zs[j'] ∈ ys)))) rfl (fun hc => ?_) (fun hc => ?_)
          · rw [decide_eq_false hm] at hc; cases hc
          refine nc ?_
          refine nc ?_
          refine again_in (k - 1) (by omega) [(0, .slice (some a) zs.length c), (1, bothV cb), (5, .int .i64 (i : Int)), (6, .int .i64 (IntKind.i64.wrap ((j' : Int) + (1 : Int))))] ⟨rfl, rfl, rfl, rfl, trivial⟩ ⟨i, j' + 1, zs', by omega, by omega, hzl, by rw [hks]; exact hi, fun q hq => hsame q (by omega), by rw [hw1], H⟩
      · have hjl : j' = zs.length := by
          have : ¬ ((j' : Int) < (zs.length : Int)) := by simpa using hc
          omega
        subst hjl
        rw [List.take_length] at hi
        subst hi
        refine nc ?_
        exact cut_inA ⟨zs', hzl, rfl, H⟩
    · rintro _ w2 ⟨zs', hzl, rfl, H⟩
      have hfl : (zs.filter fun x => decide (x ∈ ys)).length ≤ zs.length := List.length_filter_le _ _
      obtain ⟨_, _, hsl, _, hcc⟩ := H.rowSl 0 rfl
      injection hsl with _ _ e3
      subst e3
      refine Eng.nc_seq ?_
      refine nc ?_
      refine piece_rule (e := 3) 1 (zs.filter fun x => decide (x ∈ ys)).length zs.length (by kernel_rfl) (by kernel_rfl) ⟨_, rfl⟩ rfl (fun _ => hfl) (fun _ => Nat.le_refl _) (by omega) ?_
      rw [← hzl]
      refine own_clear (e := 3) H 0 rfl (by omega) (by kernel_rfl) (by kernel_rfl) fun cells' w3 H => ?_
      rw [hzl]
      refine nc ?_
      refine piece_rule (e := 3) 1 0 (zs.filter fun x => decide (x ∈ ys)).length (by kernel_rfl) (by kernel_rfl) rfl ⟨_, rfl⟩ (fun _ => Nat.zero_le _) (fun _ => hfl) (by omega) ?_
      refine nc ?_
      exact ret_inA [_] ⟨_, rfl, _, _, rfl, H.tail.tail.tail⟩
set_option maxHeartbeats 2000000 in
theorem both_own {vx vy : Value} {xs ys : List Int} {i j : Nat} (hx : xs.length ≤ 1000000) (hy : ys.length ≤ 1000000) (H : Eng.Own ok w0 w L) (hi : L[i]? = some (.dat (dSl (tInt .i64) vx xs))) (hj : L[j]? = some (.dat (dSl (tInt .i64) vy ys))) :
    Calls Tryz.prog 91 #[vx, vy] w fun e w' => ∃ u, e = .returned u ∧ ∃ A' c', u = .slice A' (xs.filter fun x => decide (x ∈ ys)).length c' ∧ Eng.Own ok w0 w' L := by
  obtain ⟨Ay, cy, rfl, _⟩ := H.sl j hj
  refine enterN (args := [vx, .slice Ay ys.length cy]) Tryz.func91 rfl Tryz.ntmps91 rfl rfl ?_
  refine Eng.nc_seq ?_
  refine nc ?_
  refine own_box H [.slice Ay ys.length cy] rfl fun cb w1 H => ?_
  refine Eng.nc_seq ?_
  refine nc ?_
  refine call_rule (by kernel_rfl) (cloneI_own hx H (i + 1) hi) fun u w2 H => ?_
  obtain ⟨A, c, rfl, _, _⟩ := H.rowSl 0 rfl
  replace H := H.addDat (dRows (tInt .i64) xs (intsV xs)) (rowsR_ints w2 _ xs)
  replace H : Eng.Own ok w0 w2 (delL A c cb (.slice Ay ys.length cy) xs L) := order_own (A := [.dat (dRows (tInt .i64) xs (intsV xs)), .row (.slice A xs.length c) 3 1 xs.length (intsV xs), .blk cb [.slice Ay ys.length cy] 22]) H [1, 0, 2] (by show (List.range 3).Perm _; decide)
  refine call_rule (by kernel_rfl) (delete_own hy hx hj H) fun u w3 ⟨A', c', hu, H⟩ => ?_
  subst hu
  refine nc ?_
  exact ret_inA [_] ⟨_, rfl, A', c', rfl, H⟩
/-! Which of two trees stands ahead. -/
def greaterT (S T : Tr) : Bool := if S.deep ≠ T.deep then decide (S.deep > T.deep) else if S.leavesR.length ≠ T.leavesR.length then decide (S.leavesR.length > T.leavesR.length) else decide ((sortZ S.leavesR).headD 0 < (sortZ T.leavesR).headD 0)
theorem head_sort {xs : List Int} (h : 0 < xs.length) : idxL (sortZ xs) (0 : Int) = some ((sortZ xs).headD 0) := by
  have hl := sortZ_len xs
  cases hs : sortZ xs with
  | nil => rw [hs] at hl; simp only [List.length_nil] at hl; omega
  | cons a r => rfl
set_option maxHeartbeats 4000000 in
theorem greater_own (A B : TrA) (hA : ∀ it ∈ A.items, it ∈ R) (hB : ∀ it ∈ B.items, it ∈ R) (hla : A.tr.leavesR.length ≤ 1000) (hlb : B.tr.leavesR.length ≤ 1000) (H : Eng.Own ok w0 w R) :
    Calls Tryz.prog 92 #[A.ptr, B.ptr] w fun e w' => ∃ u, e = .returned u ∧ (u = .bool (greaterT A.tr B.tr) ∧ Eng.Own ok w0 w' R) := by
  refine enterN (args := [A.ptr, B.ptr]) Tryz.func92 rfl Tryz.ntmps92 rfl rfl ?_
  refine Eng.nc_seq ?_
  refine nc ?_
  refine Eng.nc_seq ?_
  refine nc ?_
  refine call_rule (by kernel_rfl) (nodeMembers_in hA (by omega) H) fun u1 w1 H => ?_
  refine call_rule (by kernel_rfl) (nodeMembers_in (fun it h => List.mem_cons_of_mem _ (hB it h)) (by omega) H) fun u2 w2 H => ?_
  obtain ⟨a2, c2, rfl, _, _⟩ := H.rowSl 0 rfl
  obtain ⟨a1, c1, rfl, _, _⟩ := H.rowSl 1 rfl
  replace H := freezeI (freezeI H 0 rfl) 1 rfl
  replace H : Eng.Own ok w0 w2 (.dat (dSl (tInt .i64) (.slice a2 (sortZ B.tr.leavesR).length c2) (sortZ B.tr.leavesR)) :: .dat (dSl (tInt .i64) (.slice a1 (sortZ A.tr.leavesR).length c1) (sortZ A.tr.leavesR)) :: R) := H
  have hA2 : ∀ it ∈ A.items, it ∈ (.dat (dSl (tInt .i64) (.slice a2 (sortZ B.tr.leavesR).length c2) (sortZ B.tr.leavesR)) :: .dat (dSl (tInt .i64) (.slice a1 (sortZ A.tr.leavesR).length c1) (sortZ A.tr.leavesR)) :: R : List Eng.Item) := fun it h => List.mem_cons_of_mem _ (List.mem_cons_of_mem _ (hA it h))
  have hB2 : ∀ it ∈ B.items, it ∈ (.dat (dSl (tInt .i64) (.slice a2 (sortZ B.tr.leavesR).length c2) (sortZ B.tr.leavesR)) :: .dat (dSl (tInt .i64) (.slice a1 (sortZ A.tr.leavesR).length c1) (sortZ A.tr.leavesR)) :: R : List Eng.Item) := fun it h => List.mem_cons_of_mem _ (List.mem_cons_of_mem _ (hB it h))
  have hda := deep_lt A.tr
  have hdb := deep_lt B.tr
  refine Eng.nc_seq ?_
  refine Eng.nc_block ?_
  refine Eng.nc_seq ?_
  refine nc ?_
  refine call_rule (by kernel_rfl) (depth_own A hA2 (by omega) H) fun u w3 ⟨L', ⟨hu, hL⟩, H⟩ => ?_
  subst hu hL
  refine call_rule (by kernel_rfl) (depth_own B hB2 (by omega) H) fun u w4 ⟨L', ⟨hu, hL⟩, H⟩ => ?_
  subst hu hL
  unfold greaterT
  by_cases hd : A.tr.deep ≠ B.tr.deep
  · rw [if_pos hd]
    refine Eng.nc_cond (b := ((A.tr.deep : Int) != (B.tr.deep : Int))) rfl (fun hc => ?_) (fun hc => ?_)
    · refine Eng.nc_seq ?_
      refine nc ?_
      refine call_rule (by kernel_rfl) (depth_own A hA2 (by omega) H) fun u w5 ⟨L', ⟨hu, hL⟩, H⟩ => ?_
      subst hu hL
      refine call_rule (by kernel_rfl) (depth_own B hB2 (by omega) H) fun u w6 ⟨L', ⟨hu, hL⟩, H⟩ => ?_
      subst hu hL
      refine nc ?_
      refine ret_inA [_] ⟨_, rfl, ?_, H.tail.tail⟩
      show Value.bool (decide ((A.tr.deep : Int) > (B.tr.deep : Int))) = _
      congr 1
      rw [Bool.eq_iff_iff, decide_eq_true_iff, decide_eq_true_iff]; omega
    · rw [int_ne, decide_eq_true hd] at hc; cases hc
  · rw [if_neg hd]
    refine Eng.nc_cond (b := ((A.tr.deep : Int) != (B.tr.deep : Int))) rfl (fun hc => ?_) (fun hc => ?_)
    · rw [int_ne, decide_eq_false hd] at hc; cases hc
    refine Eng.nc_seq ?_
    refine nc ?_
    have ela := sortZ_len A.tr.leavesR
    have elb := sortZ_len B.tr.leavesR
    by_cases hn : A.tr.leavesR.length ≠ B.tr.leavesR.length
    · rw [if_pos hn]
      refine Eng.nc_cond (b := (((sortZ A.tr.leavesR).length : Int) != ((sortZ B.tr.leavesR).length : Int))) rfl (fun hc => ?_) (fun hc => ?_)
      · refine Eng.nc_seq ?_
        refine nc ?_
        refine nc ?_
        refine ret_inA [_] ⟨_, rfl, ?_, H.tail.tail⟩
        show Value.bool (decide (((sortZ A.tr.leavesR).length : Int) > ((sortZ B.tr.leavesR).length : Int))) = _
        rw [ela, elb]
        congr 1
        rw [Bool.eq_iff_iff, decide_eq_true_iff, decide_eq_true_iff]; omega
      · rw [int_ne, ela, elb, decide_eq_true hn] at hc; cases hc
    · rw [if_neg hn]
      refine Eng.nc_cond (b := (((sortZ A.tr.leavesR).length : Int) != ((sortZ B.tr.leavesR).length : Int))) rfl (fun hc => ?_) (fun hc => ?_)
      · rw [int_ne, ela, elb, decide_eq_false hn] at hc; cases hc
      refine nc ?_
      refine Eng.nc_seq ?_
      refine nc ?_
      have hpa := leavesR_pos A.tr
      have hpb := leavesR_pos B.tr
      obtain ⟨x1, cs1, rfl, hR1, H⟩ := H.elemI (x := 0) 1 rfl (head_sort hpa)
      obtain rfl : cs1 = [.int .i64 ((sortZ A.tr.leavesR).headD 0)] := hR1
      obtain ⟨x2, cs2, rfl, hR2, H⟩ := H.elemI (x := 0) 1 rfl (head_sort hpb)
      obtain rfl : cs2 = [.int .i64 ((sortZ B.tr.leavesR).headD 0)] := hR2
      refine draw_rule [] (by kernel_rfl) (by kernel_rfl) H ?_
      refine c_idxA (e := 3) 1 0 (by kernel_rfl) (by kernel_rfl) (by decide) (by omega) ?_
      refine c_loadD 1 rfl 0 (by kernel_rfl) rfl ?_
      refine c_idxA (e := 3) 1 0 (by kernel_rfl) (by kernel_rfl) (by decide) (by omega) ?_
      refine c_loadD 0 rfl 0 (by kernel_rfl) rfl ?_
      intro w5 H
      refine nc ?_
      exact ret_inA [_] ⟨_, rfl, rfl, H.tail.tail.tail.tail⟩
def mergeM (s t : List UInt8) : List UInt8 × Int := match ofM s, ofM t with
  | some A, some B => if ∃ x, x ∈ A.leavesR ∧ x ∈ B.leavesR then ([], 1) else if greaterT A B = true then ((Tr.two A B).text, 0) else ((Tr.two B A).text, 0)
  | _, _ => ([], 1)
set_option maxHeartbeats 8000000 in
theorem treeMerge_calls {s t : List UInt8} (hs : s.length ≤ 900000) (ht : t.length ≤ 900000) : Calls Tryz.prog 47 #[.string (bs s), .string (bs t)] w fun e w' => ∃ v, e = .returned v ∧ (v = .tuple #[.string (bs (mergeM s t).1), .int .i64 (mergeM s t).2] ∧ Bel w.heap.size w w') := by
  have H : Eng.Own (fun _ => False) w w [] := Eng.Own.nil _ w
  refine enterN (args := [.string (bs s), .string (bs t)]) Tryz.func47 rfl Tryz.ntmps47 rfl rfl ?_
  refine Eng.nc_seq ?_
  refine nc ?_
  refine Eng.nc_seq ?_
  refine nc ?_
  refine call_rule (by kernel_rfl) (treeOf_own (s := s) (by omega) H) fun v w1 hR => ?_
  unfold mergeM
  cases ho : ofM s with
  | none =>
    rw [ho] at hR
    obtain ⟨rfl, H⟩ := hR
    refine call_rule (by kernel_rfl) (treeOf_own (s := t) (by omega) H) fun v w2 hR => ?_
    obtain ⟨q, rfl, H⟩ : ∃ q, v = .pointer q ∧ Eng.Own (fun _ => False) w w2 [] := by
      cases ho2 : ofM t with
      | none => rw [ho2] at hR; exact ⟨none, hR.1, hR.2⟩
      | some T => rw [ho2] at hR; obtain ⟨A, _, hv, H⟩ := hR; exact ⟨_, hv, H.less (List.nil_sublist _)⟩
    refine Eng.nc_seq ?_
    refine Eng.nc_seq ?_
    refine nc ?_
    refine eqlNil_rule (by kernel_rfl) ?_
    refine eqlNil_rule (p := q) (by kernel_rfl) ?_
    refine call_skip (.slice none 0 0) rfl ?_
    refine call_skip (.slice none 0 0) rfl ?_
    refine call_skip (.slice none 0 0) rfl ?_
    refine Eng.nc_cond (b := true) rfl (fun hc => ?_) (fun hc => ?_)
    · refine Eng.nc_seq ?_
      refine nc ?_
      refine nc ?_
      exact ret_inA [.string (bs []), .int .i64 1] ⟨_, rfl, rfl, H.frame⟩
    · cases hc
  | some S =>
    rw [ho] at hR
    obtain ⟨A, hA, rfl, H⟩ := hR
    refine call_rule (by kernel_rfl) (treeOf_own (s := t) (by omega) H) fun v w2 hR => ?_
    cases ho2 : ofM t with
    | none =>
      rw [ho2] at hR
      obtain ⟨rfl, H⟩ := hR
      refine Eng.nc_seq ?_
      refine Eng.nc_seq ?_
      refine nc ?_
      refine eqlNil_rule (p := some ⟨A.root, 0, none⟩) (by kernel_rfl) ?_
      refine eqlNil_rule (by kernel_rfl) ?_
      refine call_skip (.slice none 0 0) rfl ?_
      refine call_skip (.slice none 0 0) rfl ?_
      refine call_skip (.slice none 0 0) rfl ?_
      refine Eng.nc_cond (b := true) rfl (fun hc => ?_) (fun hc => ?_)
      · refine Eng.nc_seq ?_
        refine nc ?_
        refine nc ?_
        exact ret_inA [.string (bs []), .int .i64 1] ⟨_, rfl, rfl, H.frame⟩
      · cases hc
    | some T =>
      rw [ho2] at hR
      obtain ⟨B, hB, rfl, H⟩ := hR
      obtain ⟨hT, hok⟩ := ofM_text ho
      obtain ⟨hT2, hok2⟩ := ofM_text ho2
      have h8 := leaves_eight hok (ofM_nodup ho)
      have h82 := leaves_eight hok2 (ofM_nodup ho2)
      have hsl : s.length ≤ 22 := by have := text_leaves3 S; rw [← hT] at this; omega
      have htl : t.length ≤ 22 := by have := text_leaves3 T; rw [← hT2] at this; omega
      rw [← hA] at hok h8
      rw [← hB] at hok2 h82
      have hAR : ∀ it ∈ A.items, it ∈ B.items ++ (A.items ++ []) := fun it h => List.mem_append_right _ (List.mem_append_left _ h)
      have hBR : ∀ it ∈ B.items, it ∈ B.items ++ (A.items ++ []) := fun it h => List.mem_append_left _ h
      refine nc_cut (fun e w' => (¬ ∃ x, x ∈ S.leavesR ∧ x ∈ T.leavesR) ∧ e = [(0, .string (bs s)), (1, .string (bs t)), (6, A.ptr), (7, B.ptr)] ∧ Eng.Own (fun _ => False) w w' (B.items ++ (A.items ++ []))) ?_ ?_
      · refine Eng.nc_seq ?_
        refine nc ?_
        refine eqlNil_rule (p := some ⟨A.root, 0, none⟩) (by kernel_rfl) ?_
        refine eqlNil_rule (p := some ⟨B.root, 0, none⟩) (by kernel_rfl) ?_
        refine call_yes rfl (by kernel_rfl) (nodeMembers_in hAR (by omega) H) fun u1 w3 H => ?_
        refine call_yes rfl (by kernel_rfl) (nodeMembers_in (fun it h => List.mem_cons_of_mem _ (hBR it h)) (by omega) H) fun u2 w4 H => ?_
        obtain ⟨a2, c2, rfl, _, _⟩ := H.rowSl 0 rfl
        obtain ⟨a1, c1, rfl, _, _⟩ := H.rowSl 1 rfl
        replace H := freezeI (freezeI H 0 rfl) 1 rfl
        replace H : Eng.Own (fun _ => False) w w4 (.dat (dSl (tInt .i64) (.slice a2 (sortZ B.tr.leavesR).length c2) (sortZ B.tr.leavesR)) :: .dat (dSl (tInt .i64) (.slice a1 (sortZ A.tr.leavesR).length c1) (sortZ A.tr.leavesR)) :: (B.items ++ (A.items ++ []))) := H
        have ela := sortZ_len A.tr.leavesR
        have elb := sortZ_len B.tr.leavesR
        refine call_yes rfl (by kernel_rfl) (both_own (i := 1) (j := 0) (by omega) (by omega) H rfl rfl) fun u3 w5 ⟨A', c', hu, H⟩ => ?_
        subst hu
        have hfil : ((sortZ A.tr.leavesR).filter fun x => decide (x ∈ sortZ B.tr.leavesR)).length ≤ 8 := Nat.le_trans (List.length_filter_le _ _) (by omega)
        have hcom : (∃ x, x ∈ S.leavesR ∧ x ∈ T.leavesR) ↔ 0 < ((sortZ A.tr.leavesR).filter fun x => decide (x ∈ sortZ B.tr.leavesR)).length := by
          rw [List.length_pos_iff_exists_mem, hA, hB]
          constructor
          · rintro ⟨x, h1, h2⟩
            exact ⟨x, List.mem_filter.2 ⟨((sortZ_perm _).mem_iff).2 h1, by simpa using ((sortZ_perm _).mem_iff).2 h2⟩⟩
          · rintro ⟨x, h⟩
            obtain ⟨h1, h2⟩ := List.mem_filter.1 h
            exact ⟨x, ((sortZ_perm _).mem_iff).1 h1, ((sortZ_perm _).mem_iff).1 (by simpa using h2)⟩
        refine Eng.nc_cond (b := decide ((((sortZ A.tr.leavesR).filter fun x => decide (x ∈ sortZ B.tr.leavesR)).length : Int) > 0)) rfl (fun hc => ?_) (fun hc => ?_)
        · have hc2 : ∃ x, x ∈ S.leavesR ∧ x ∈ T.leavesR := hcom.2 (by have := of_decide_eq_true hc; omega)
          simp only
          rw [if_pos hc2]
          refine Eng.nc_seq ?_
          refine nc ?_
          refine nc ?_
          exact ret_inA [.string (bs []), .int .i64 1] ⟨_, rfl, rfl, H.frame⟩
        · have hc2 : ¬ ∃ x, x ∈ S.leavesR ∧ x ∈ T.leavesR := fun q => by have := hcom.1 q; have := of_decide_eq_false hc; omega
          refine nc ?_
          exact cut_inA ⟨hc2, rfl, H.tail.tail⟩
      · rintro _ w3 ⟨hno, rfl, H⟩
        simp only
        rw [if_neg hno]
        refine Eng.nc_seq ?_
        refine Eng.nc_seq ?_
        refine nc ?_
        refine call_rule (by kernel_rfl) (greater_own A B hAR hBR (by omega) (by omega) H) fun u w4 ⟨hu, H⟩ => ?_
        subst hu
        rw [hA, hB]
        by_cases hg : greaterT S T = true
        · rw [if_pos hg]
          refine Eng.nc_cond (b := !(greaterT S T)) rfl (fun hc => ?_) (fun hc => ?_)
          · rw [hg] at hc; cases hc
          refine nc ?_
          refine Eng.nc_seq ?_
          refine nc ?_
          refine catM_rule (a := [40]) (by simp; omega) ?_
          refine catM_rule (by simp; omega) ?_
          refine catM_rule (b := [41]) (by simp; omega) ?_
          refine nc ?_
          refine ret_inA [_, .int .i64 0] ⟨_, rfl, ?_, H.frame⟩
          have e : ([40] ++ s ++ t ++ [41] : List UInt8) = (Tr.two S T).text := by rw [hT, hT2]; simp [Tr.text]
          rw [← e]; rfl
        · rw [if_neg hg]
          refine Eng.nc_cond (b := !(greaterT S T)) rfl (fun hc => ?_) (fun hc => ?_)
          · refine nc ?_
            refine Eng.nc_seq ?_
            refine nc ?_
            refine catM_rule (a := [40]) (by simp; omega) ?_
            refine catM_rule (by simp; omega) ?_
            refine catM_rule (b := [41]) (by simp; omega) ?_
            refine nc ?_
            refine ret_inA [_, .int .i64 0] ⟨_, rfl, ?_, H.frame⟩
            have e : ([40] ++ t ++ s ++ [41] : List UInt8) = (Tr.two T S).text := by rw [hT, hT2]; simp [Tr.text]
            rw [← e]; rfl
          · have : greaterT S T = true := by simpa using hc
            exact absurd this hg
end Go.Proofs.YtfapphlhkfddoaaGreatDoor.G
/- Contracts of trees that were walked by hand, in the printed texts' words. -/
namespace Go.Proofs.YtfapphlhkfddoaaGreatDoor.G
open Go.RowKit Go.Eng Go.Proofs Go.Proofs.YtfapphlhkfddoaaGreatDoor.Cut
set_option linter.unusedVariables false
variable {ok : Nat → Prop} {w : World}

def leafM (p : Int) : List UInt8 × Int := if 1 ≤ p ∧ p ≤ 8 then ((Tr.leaf p).text, 0) else ([], 1)
def tree_Leaf.f (x0 : Int) : Option (List UInt8 × Int) := some (leafM x0)
theorem tree_Leaf_ok {x0 : Int} {r : List UInt8 × Int} (h : tree_Leaf.f x0 = some r) : Calls Tryz.prog 44 #[.int .i64 x0] w fun e w' => ∃ v, e = .returned v ∧ (v = .tuple #[.string (bs r.1), .int .i64 r.2] ∧ Bel w.heap.size w w') := by
  cases h
  refine (treeLeaf_calls (p := x0)).mono fun e w' ⟨v, he, hv, hb⟩ => ⟨v, he, ?_, hb⟩
  rw [hv]
  unfold leafM
  by_cases hp : 1 ≤ x0 ∧ x0 ≤ 8
  · rw [if_pos hp, if_pos hp, if_pos hp]
  · rw [if_neg hp, if_neg hp, if_neg hp]
noncomputable def tree_Join.f (x0 : List UInt8) (x1 : Int) : Option (List UInt8 × Int) := givenM (x0.length ≤ 900000) (some (joinM x0 x1))
theorem tree_Join_ok {x0 : List UInt8} {x1 : Int} {r : List UInt8 × Int} (h : tree_Join.f x0 x1 = some r) : Calls Tryz.prog 45 #[.string (bs x0), .int .i64 x1] w fun e w' => ∃ v, e = .returned v ∧ (v = .tuple #[.string (bs r.1), .int .i64 r.2] ∧ Bel w.heap.size w w') := by
  obtain ⟨hl, h⟩ := givenS h
  cases h
  exact treeJoin_calls hl
noncomputable def tree_Leave.f (x0 : List UInt8) (x1 : Int) : Option (List UInt8 × Int) := givenM (x0.length ≤ 900000) (some (leaveM x0 x1))
theorem tree_Leave_ok {x0 : List UInt8} {x1 : Int} {r : List UInt8 × Int} (h : tree_Leave.f x0 x1 = some r) : Calls Tryz.prog 46 #[.string (bs x0), .int .i64 x1] w fun e w' => ∃ v, e = .returned v ∧ (v = .tuple #[.string (bs r.1), .int .i64 r.2] ∧ Bel w.heap.size w w') := by
  obtain ⟨hl, h⟩ := givenS h
  cases h
  exact treeLeave_calls hl
noncomputable def tree_Merge.f (x0 x1 : List UInt8) : Option (List UInt8 × Int) := givenM (x0.length ≤ 900000 ∧ x1.length ≤ 900000) (some (mergeM x0 x1))
theorem tree_Merge_ok {x0 x1 : List UInt8} {r : List UInt8 × Int} (h : tree_Merge.f x0 x1 = some r) : Calls Tryz.prog 47 #[.string (bs x0), .string (bs x1)] w fun e w' => ∃ v, e = .returned v ∧ (v = .tuple #[.string (bs r.1), .int .i64 r.2] ∧ Bel w.heap.size w w') := by
  obtain ⟨hl, h⟩ := givenS h
  cases h
  exact treeMerge_calls hl.1 hl.2
end Go.Proofs.YtfapphlhkfddoaaGreatDoor.G
