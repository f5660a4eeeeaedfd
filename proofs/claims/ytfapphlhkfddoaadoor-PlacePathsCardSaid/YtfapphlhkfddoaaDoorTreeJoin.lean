/- One joins a tree. -/
import Derived.Test.YtfapphlhkfddoaaDoorTreeDeep
import Derived.Test.YtfapphlhkfddoaaDoorTreeSub
import Derived.Test.YtfapphlhkfddoaaDoorHasP
namespace Go.Proofs.YtfapphlhkfddoaaDoor.G
open Go.RowKit Go.Eng Go.Proofs Go.Proofs.YtfapphlhkfddoaaDoor.Cut
set_option linter.unusedVariables false
set_option maxRecDepth 20000
variable {ok : Nat → Prop} {w0 w : World} {L R : List Eng.Item}

/-- Where one joins: the place, and what stands round it; the first one of least depth, from the right. -/
def chooT (x : Tr × (Tr → Tr)) (st : Option (Tr × (Tr → Tr))) : Option (Tr × (Tr → Tr)) := match st with
  | none => some x
  | some y => if x.1.deep < y.1.deep then some x else some y
def walkT : Tr → (Tr → Tr) → Option (Tr × (Tr → Tr)) → Option (Tr × (Tr → Tr))
  | .leaf p, c, st => chooT (.leaf p, c) st
  | .two l r, c, st => if fullT (.two l r) = true then chooT (.two l r, c) st else walkT l (fun x => c (.two x r)) (walkT r (fun x => c (.two l x)) st)
def joinT (T : Tr) (p : Int) : Tr := match walkT T id none with
  | some (S, g) => g (.two S (.leaf p))
  | none => T
def chooA (x : TrA × (TrA → TrA)) (st : Option (TrA × (TrA → TrA))) : Option (TrA × (TrA → TrA)) := match st with
  | none => some x
  | some y => if x.1.tr.deep < y.1.tr.deep then some x else some y
def walkA : TrA → (TrA → TrA) → Option (TrA × (TrA → TrA)) → Option (TrA × (TrA → TrA))
  | .leaf b p, c, st => chooA (.leaf b p, c) st
  | .two b l r, c, st => if fullT (TrA.two b l r).tr = true then chooA (.two b l r, c) st else walkA l (fun x => c (.two b x r)) (walkA r (fun x => c (.two b l x)) st)
/-! What is picked is a part of the tree. -/
def goodC (A0 : TrA) (x : TrA × (TrA → TrA)) : Prop := x.2 x.1 = A0 ∧ ∃ X Y, ∀ Q : TrA, Q.root = x.1.root → (x.2 Q).root = A0.root ∧ (x.2 Q).items = X ++ Q.items ++ Y
theorem chooA_P {P : TrA × (TrA → TrA) → Prop} {x : TrA × (TrA → TrA)} {st : Option (TrA × (TrA → TrA))} (hx : P x) (hst : ∀ y, st = some y → P y) : ∀ y, chooA x st = some y → P y := by
  intro y h
  unfold chooA at h
  cases st with
  | none => cases h; exact hx
  | some z =>
    simp only at h
    split at h
    · cases h; exact hx
    · exact hst y h
theorem walkA_good {A0 : TrA} : ∀ (A : TrA) (c : TrA → TrA) (st : Option (TrA × (TrA → TrA))), goodC A0 (A, c) → (∀ y, st = some y → goodC A0 y) → ∀ y, walkA A c st = some y → goodC A0 y := by
  intro A
  induction A with
  | leaf b p => intro c st hA hst; exact chooA_P hA hst
  | two b l r ihl ihr =>
    intro c st hA hst
    unfold walkA
    split
    · exact chooA_P hA hst
    · obtain ⟨h1, X, Y, h2⟩ := hA
      refine ihl _ _ ⟨h1, X ++ [.blk b [.int .i64 0, l.ptr, r.ptr] 59], r.items ++ Y, fun Q hQ => ?_⟩ (ihr _ _ ⟨h1, X ++ .blk b [.int .i64 0, l.ptr, r.ptr] 59 :: l.items, Y, fun Q hQ => ?_⟩ hst)
      · obtain ⟨e1, e2⟩ := h2 (.two b Q r) rfl
        refine ⟨e1, ?_⟩
        have hp : Q.ptr = l.ptr := by unfold TrA.ptr; rw [hQ]
        show (c (.two b Q r)).items = _
        rw [e2]
        simp only [TrA.items, hp, List.append_assoc, List.cons_append, List.nil_append]
      · obtain ⟨e1, e2⟩ := h2 (.two b l Q) rfl
        refine ⟨e1, ?_⟩
        have hp : Q.ptr = r.ptr := by unfold TrA.ptr; rw [hQ]
        show (c (.two b l Q)).items = _
        rw [e2]
        simp only [TrA.items, hp, List.append_assoc, List.cons_append, List.nil_append]
theorem good_in {A0 : TrA} {x : TrA × (TrA → TrA)} (h : goodC A0 x) : ∀ it ∈ x.1.items, it ∈ A0.items := by
  obtain ⟨h1, X, Y, h2⟩ := h
  have := (h2 x.1 rfl).2
  rw [h1] at this
  intro it hi
  rw [this]
  exact List.mem_append_left _ (List.mem_append_right _ hi)
def partOf (A : TrA) (x : TrA × (TrA → TrA)) : Prop := (∀ it ∈ x.1.items, it ∈ A.items) ∧ x.1.tr.leavesR.length ≤ A.tr.leavesR.length
theorem two_leaves (b : Nat) (l r : TrA) : (TrA.two b l r).tr.leavesR.length = r.tr.leavesR.length + l.tr.leavesR.length := by simp [TrA.tr, Tr.leavesR]
theorem walkA_some : ∀ (A : TrA) (c : TrA → TrA) (st : Option (TrA × (TrA → TrA))), ∃ y, walkA A c st = some y := by
  intro A
  have hp : ∀ x st, ∃ y, chooA x st = some y := by
    intro x st
    unfold chooA
    cases st with
    | none => exact ⟨_, rfl⟩
    | some z => simp only; split <;> exact ⟨_, rfl⟩
  induction A with
  | leaf b p => intro c st; exact hp _ _
  | two b l r ihl ihr =>
    intro c st
    unfold walkA
    split
    · exact hp _ _
    · exact ihl _ _
theorem walkA_part {P : TrA → Prop} : ∀ (A : TrA) (c : TrA → TrA) (st : Option (TrA × (TrA → TrA))), (∀ B : TrA, (∀ it ∈ B.items, it ∈ A.items) → B.tr.leavesR.length ≤ A.tr.leavesR.length → P B) → (∀ y, st = some y → P y.1) → ∀ y, walkA A c st = some y → P y.1 := by
  intro A
  induction A with
  | leaf b p => intro c st hA hst; exact chooA_P (P := fun x => P x.1) (hA _ (fun _ h => h) (Nat.le_refl _)) hst
  | two b l r ihl ihr =>
    intro c st hA hst
    unfold walkA
    have h2 := two_leaves b l r
    split
    · exact chooA_P (P := fun x => P x.1) (hA _ (fun _ h => h) (Nat.le_refl _)) hst
    · refine ihl _ _ (fun B h1 h3 => hA B (fun it h => List.mem_cons_of_mem _ (List.mem_append_left _ (h1 it h))) (by omega)) (ihr _ _ (fun B h1 h3 => hA B (fun it h => List.mem_cons_of_mem _ (List.mem_append_right _ (h1 it h))) (by omega)) hst)
/-! .. and the same as without memory. -/
def relC (x : TrA × (TrA → TrA)) (y : Tr × (Tr → Tr)) : Prop := x.1.tr = y.1 ∧ ∀ Q : TrA, (x.2 Q).tr = y.2 Q.tr
def relO : Option (TrA × (TrA → TrA)) → Option (Tr × (Tr → Tr)) → Prop
  | none, none => True
  | some x, some y => relC x y
  | _, _ => False
theorem pick_rel {x : TrA × (TrA → TrA)} {y : Tr × (Tr → Tr)} {s : Option (TrA × (TrA → TrA))} {t : Option (Tr × (Tr → Tr))} (h : relC x y) (hs : relO s t) : relO (chooA x s) (chooT y t) := by
  cases s with
  | none => cases t with
    | none => exact h
    | some b => exact hs.elim
  | some a => cases t with
    | none => exact hs.elim
    | some b =>
      unfold chooA chooT
      simp only
      have h1 : a.1.tr = b.1 := hs.1
      rw [h.1, h1]
      split
      · exact h
      · exact hs
theorem walk_rel : ∀ (A : TrA) (c : TrA → TrA) (c' : Tr → Tr) (s : Option (TrA × (TrA → TrA))) (t : Option (Tr × (Tr → Tr))), (∀ Q : TrA, (c Q).tr = c' Q.tr) → relO s t → relO (walkA A c s) (walkT A.tr c' t) := by
  intro A
  induction A with
  | leaf b p => intro c c' s t hc hs; exact pick_rel ⟨rfl, hc⟩ hs
  | two b l r ihl ihr =>
    intro c c' s t hc hs
    show relO (walkA (.two b l r) c s) (walkT (.two l.tr r.tr) c' t)
    unfold walkA walkT
    show relO (if fullT (.two l.tr r.tr) = true then _ else _) _
    split
    · exact pick_rel ⟨rfl, hc⟩ hs
    · exact ihl _ _ _ _ (fun Q => hc (.two b Q r)) (ihr _ _ _ _ (fun Q => hc (.two b l Q)) hs)
theorem perm3 {α : Type} (a b c : α) (X R Y : List α) : (a :: b :: c :: (X ++ R ++ Y)).Perm (X ++ (c :: ((b :: R) ++ [a])) ++ Y) := by
  have hz : ∀ Z : List α, (X ++ Z ++ Y).Perm (Z ++ (X ++ Y)) := fun Z => by
    refine (List.Perm.append_right Y (List.perm_append_comm (l₁ := X) (l₂ := Z))).trans ?_
    rw [List.append_assoc]
  have h1 : (c :: ((b :: R) ++ [a])).Perm (a :: b :: c :: R) := by
    have : (c :: b :: R ++ [a]).Perm (a :: (c :: b :: R)) := List.perm_append_comm (l₁ := c :: b :: R) (l₂ := [a])
    exact this.trans (List.Perm.cons _ (List.Perm.swap _ _ _))
  refine List.Perm.trans ?_ (hz _).symm
  refine List.Perm.trans ?_ (List.Perm.append_right _ h1.symm)
  exact List.Perm.cons _ (List.Perm.cons _ (List.Perm.cons _ (hz R)))
/-! The walk. -/
def optV : Option TrA → Value
  | none => .pointer none
  | some B => B.ptr
def doJ (cp : Nat) : Value := .func (.func 34) #[] #[.pointer (some ⟨cp, 0, none⟩)]
def joinL (cp c3 c4 : Nat) (st : Option (TrA × (TrA → TrA))) (R : List Eng.Item) : List Eng.Item :=
  .blk cp [optV (st.map (·.1))] 45 :: .blk c3 [doJ cp] 57 :: .blk c4 [walkV c3 c4] 72 :: R
def stIn (R : List Eng.Item) (st : Option (TrA × (TrA → TrA))) : Prop := ∀ y, st = some y → (∀ it ∈ y.1.items, it ∈ R) ∧ y.1.tr.leavesR.length ≤ 60
theorem in3 {a b c : Eng.Item} {l : List Eng.Item} (h : ∀ it ∈ l, it ∈ R) : ∀ it ∈ l, it ∈ a :: b :: c :: R := fun it hi => List.mem_cons_of_mem _ (List.mem_cons_of_mem _ (List.mem_cons_of_mem _ (h it hi)))
set_option maxHeartbeats 4000000 in
theorem join1_own {A : TrA} {c : TrA → TrA} {cp c3 c4 : Nat} {st : Option (TrA × (TrA → TrA))} (hA : ∀ it ∈ A.items, it ∈ R) (hl : A.tr.leavesR.length ≤ 60) (hst : stIn R st) (H : Eng.Own ok w0 w (joinL cp c3 c4 st R)) :
    Calls Tryd.prog 34 #[A.ptr, .pointer (some ⟨cp, 0, none⟩)] w fun e w' => ∃ u, e = .returned u ∧ (u = .bool (!(fullT A.tr)) ∧ Eng.Own ok w0 w' (joinL cp c3 c4 (if fullT A.tr = true then chooA (A, c) st else st) R)) := by
  refine enterN (args := [A.ptr, .pointer (some ⟨cp, 0, none⟩)]) Tryd.func34 rfl Tryd.ntmps34 rfl rfl ?_
  refine Eng.nc_seq ?_
  refine nc ?_
  refine Eng.nc_seq ?_
  refine Eng.nc_seq ?_
  refine nc ?_
  refine call_rule (by kernel_rfl) (full_own A (in3 hA) hl H) fun u w1 ⟨hu, H⟩ => ?_
  subst hu
  cases hf : fullT A.tr with
  | false =>
    refine Eng.nc_cond (b := true) rfl (fun hc => ?_) (fun hc => ?_)
    · refine Eng.nc_seq ?_
      refine nc ?_
      refine nc ?_
      exact ret_inA [.bool true] ⟨_, rfl, rfl, H⟩
    · cases hc
  | true =>
    refine Eng.nc_cond (b := false) rfl (fun hc => ?_) (fun hc => ?_)
    · cases hc
    refine nc ?_
    have hA3 := in3 (a := .blk cp [optV (st.map (·.1))] 45) (b := .blk c3 [doJ cp] 57) (c := .blk c4 [walkV c3 c4] 72) hA
    refine Eng.nc_seq ?_
    refine nc_cut (fun e w' => ∃ z, e = [(0, A.ptr), (1, .pointer (some ⟨cp, 0, none⟩)), (15, .bool z)] ∧ chooA (A, c) st = (if z = true then some (A, c) else st) ∧ Eng.Own ok w0 w' (joinL cp c3 c4 st R)) ?_ ?_
    · refine nc ?_
      cases st with
      | none =>
        refine draw_rule [] (by kernel_rfl) (by kernel_rfl) H ?_
        refine c_load 0 rfl (by kernel_rfl) (j := 0) (v := .pointer none) rfl ?_
        refine c_eqlNil (by kernel_rfl) ?_
        refine c_skipCL (.int .i64 0) rfl ?_
        refine c_load 0 rfl (by kernel_rfl) (j := 0) (v := .pointer none) rfl ?_
        refine c_skipCL (.int .i64 0) rfl ?_
        intro w2 H
        exact cut_inA ⟨true, rfl, rfl, H⟩
      | some y =>
        obtain ⟨hy1, hy2⟩ := hst y rfl
        have hy3 := in3 (a := .blk cp [optV ((some y).map (·.1))] 45) (b := .blk c3 [doJ cp] 57) (c := .blk c4 [walkV c3 c4] 72) hy1
        refine draw_rule [] (by kernel_rfl) (by kernel_rfl) H ?_
        refine c_load 0 rfl (by kernel_rfl) (j := 0) (v := .pointer (some ⟨y.1.root, 0, none⟩)) rfl ?_
        refine c_eqlNil (by kernel_rfl) ?_
        refine c_callOwn (fun u L' => u = .int .i64 (A.tr.deep : Int) ∧ joinL cp c3 c4 (some y) R = L') rfl (by kernel_rfl) (fun v L' h => by rw [← h.2]; exact List.Sublist.refl _) (fun w H => depth_own A hA3 (by omega) H) fun v L' hv => ?_
        obtain ⟨rfl, rfl⟩ := hv
        refine c_load 0 rfl (by kernel_rfl) (j := 0) (v := y.1.ptr) rfl ?_
        refine c_callOwn (fun u L' => u = .int .i64 (y.1.tr.deep : Int) ∧ joinL cp c3 c4 (some y) R = L') rfl (by kernel_rfl) (fun v L' h => by rw [← h.2]; exact List.Sublist.refl _) (fun w H => depth_own y.1 hy3 (by omega) H) fun v L' hv => ?_
        obtain ⟨rfl, rfl⟩ := hv
        intro w2 H
        refine cut_inA ⟨decide ((A.tr.deep : Int) < (y.1.tr.deep : Int)), rfl, ?_, H⟩
        unfold chooA
        simp only
        by_cases hd : A.tr.deep < y.1.tr.deep
        · rw [if_pos hd, if_pos (by simpa using hd)]
        · rw [if_neg hd, if_neg (by simpa using hd)]
    · rintro _ w2 ⟨z, rfl, hz, H⟩
      rw [if_pos rfl, hz]
      refine Eng.nc_cond (b := z) rfl (fun hc => ?_) (fun hc => ?_)
      · rw [hc, if_pos rfl]
        refine nc ?_
        refine own_store (t := 45) H 0 rfl (by kernel_rfl) (j := 0) (v := A.ptr) rfl rfl fun w3 H => ?_
        refine Eng.nc_seq ?_
        refine nc ?_
        refine nc ?_
        exact ret_inA [.bool false] ⟨_, rfl, rfl, H⟩
      · rw [hc, if_neg (by simp)]
        refine nc ?_
        refine Eng.nc_seq ?_
        refine nc ?_
        refine nc ?_
        exact ret_inA [.bool false] ⟨_, rfl, rfl, H⟩
theorem fullT_leaf (p : Int) : fullT (.leaf p) = true := rfl
set_option maxHeartbeats 4000000 in
theorem walkJ_own {cp c3 c4 : Nat} : ∀ (A : TrA) (c : TrA → TrA) {st : Option (TrA × (TrA → TrA))} {w : World}, (∀ it ∈ A.items, it ∈ R) → A.tr.leavesR.length ≤ 60 → stIn R st → Eng.Own ok w0 w (joinL cp c3 c4 st R) →
    Calls Tryd.prog 54 #[A.ptr, .pointer (some ⟨c3, 0, none⟩), .pointer (some ⟨c4, 0, none⟩)] w fun e w' => ∃ u, e = .returned u ∧ Eng.Own ok w0 w' (joinL cp c3 c4 (walkA A c st) R) := by
  intro A
  induction A with
  | leaf b p =>
    intro c st w hA hl hst H
    obtain ⟨i, hi⟩ := at_mem (hA _ (TrA.top_mem (.leaf b p)))
    refine enterN (args := [(TrA.leaf b p).ptr, .pointer (some ⟨c3, 0, none⟩), .pointer (some ⟨c4, 0, none⟩)]) Tryd.func54 rfl Tryd.ntmps54 rfl rfl ?_
    refine Eng.nc_seq ?_
    refine nc ?_
    refine own_load H 1 rfl (by kernel_rfl) (j := 0) rfl ?_
    refine callV_rule (by kernel_rfl) (join1_own (A := .leaf b p) (c := c) hA hl hst H) fun u w1 ⟨hu, H⟩ => ?_
    rw [show fullT (TrA.leaf b p).tr = true from rfl] at hu
    rw [if_pos (show fullT (TrA.leaf b p).tr = true from rfl)] at H
    subst hu
    have hi3 : (joinL cp c3 c4 (chooA (.leaf b p, c) st) R)[i + 3]? = some (TrA.leaf b p).top := hi
    refine own_load H (i + 3) hi3 (by kernel_rfl) (j := 1) rfl ?_
    refine neqNil_rule (by kernel_rfl) ?_
    refine Eng.nc_cond (b := false) rfl (fun hc => ?_) (fun hc => ?_)
    · cases hc
    · refine nc ?_
      exact ret_inA [] ⟨_, rfl, H⟩
  | two b l r ihl ihr =>
    intro c st w hA hl hst H
    have hl2 := two_leaves b l r
    obtain ⟨i, hi⟩ := at_mem (hA _ (TrA.top_mem (.two b l r)))
    have hi3 : ∀ st, (joinL cp c3 c4 st R)[i + 3]? = some (TrA.two b l r).top := fun st => hi
    refine enterN (args := [(TrA.two b l r).ptr, .pointer (some ⟨c3, 0, none⟩), .pointer (some ⟨c4, 0, none⟩)]) Tryd.func54 rfl Tryd.ntmps54 rfl rfl ?_
    refine Eng.nc_seq ?_
    refine nc ?_
    refine own_load H 1 rfl (by kernel_rfl) (j := 0) rfl ?_
    refine callV_rule (by kernel_rfl) (join1_own (A := .two b l r) (c := c) hA hl hst H) fun u w1 ⟨hu, H⟩ => ?_
    unfold walkA
    cases hf : fullT (TrA.two b l r).tr with
    | true =>
      rw [hf] at hu H
      rw [if_pos rfl] at H ⊢
      subst hu
      refine own_load H (i + 3) (hi3 _) (by kernel_rfl) (j := 1) (v := .pointer (some ⟨l.root, 0, none⟩)) rfl ?_
      refine neqNil_rule (by kernel_rfl) ?_
      refine Eng.nc_cond (b := false) rfl (fun hc => ?_) (fun hc => ?_)
      · cases hc
      · refine nc ?_
        exact ret_inA [] ⟨_, rfl, H⟩
    | false =>
      rw [hf] at hu H
      rw [if_neg (by simp)] at H ⊢
      subst hu
      have hst1 : stIn R (walkA r (fun x => c (.two b l x)) st) := walkA_part (P := fun B => (∀ it ∈ B.items, it ∈ R) ∧ B.tr.leavesR.length ≤ 60) r _ st (fun B h1 h3 => ⟨fun it h => sub_right hA it (h1 it h), by omega⟩) hst
      refine own_load H (i + 3) (hi3 _) (by kernel_rfl) (j := 1) (v := .pointer (some ⟨l.root, 0, none⟩)) rfl ?_
      refine neqNil_rule (by kernel_rfl) ?_
      refine Eng.nc_cond (b := true) rfl (fun hc => ?_) (fun hc => ?_)
      · refine Eng.nc_seq ?_
        refine nc ?_
        refine draw_rule [] (by kernel_rfl) (by kernel_rfl) H ?_
        refine c_load 2 rfl (by kernel_rfl) (j := 0) rfl ?_
        refine c_load (i + 3) (hi3 _) (by kernel_rfl) (j := 2) (v := r.ptr) rfl ?_
        refine c_callV (fun _ L' => L' = joinL cp c3 c4 (walkA r (fun x => c (.two b l x)) st) R) rfl (by kernel_rfl) (fun w H => (ihr (fun x => c (.two b l x)) (sub_right hA) (by omega) hst H).mono fun e w' ⟨u, he, H'⟩ => ⟨u, he, _, rfl, H'⟩) fun u L' hL' => ?_
        subst hL'
        intro w2 H
        refine nc ?_
        refine draw_rule [] (by kernel_rfl) (by kernel_rfl) H ?_
        refine c_load 2 rfl (by kernel_rfl) (j := 0) rfl ?_
        refine c_load (i + 3) (hi3 _) (by kernel_rfl) (j := 1) (v := l.ptr) rfl ?_
        refine c_callV (fun _ L' => L' = joinL cp c3 c4 (walkA l (fun x => c (.two b x r)) (walkA r (fun x => c (.two b l x)) st)) R) rfl (by kernel_rfl) (fun w H => (ihl (fun x => c (.two b x r)) (sub_left hA) (by omega) hst1 H).mono fun e w' ⟨u, he, H'⟩ => ⟨u, he, _, rfl, H'⟩) fun u L' hL' => ?_
        subst hL'
        intro w3 H
        exact ret_inA [] ⟨_, rfl, H⟩
      · cases hc
/-- Whether one may join, and the tree then. -/
def joinM (s : List UInt8) (p : Int) : List UInt8 × Int := match ofM s with
  | none => ([], 1)
  | some T => if (1 ≤ p ∧ p ≤ 8) ∧ p ∉ T.leavesR then ((joinT T p).text, 0) else ([], 1)
theorem text_leaves3 : ∀ T : Tr, T.text.length + 2 = 3 * T.leavesR.length
  | .leaf p => by simp [Tr.text, Tr.leavesR]
  | .two l r => by
    have h1 := text_leaves3 l
    have h2 := text_leaves3 r
    simp only [Tr.text, Tr.leavesR, List.length_cons, List.length_append, List.length_nil]
    omega
theorem leaves_eight {T : Tr} (hok : T.ok) (hn : T.leavesR.Nodup) : T.leavesR.length ≤ 8 := by
  have hr : ∀ T : Tr, T.ok → ∀ x ∈ T.leavesR, 0 < x ∧ x ≤ 8 := by
    intro T
    induction T with
    | leaf p => intro h x hx; rw [List.mem_singleton.1 hx]; have h : 1 ≤ p ∧ p ≤ 8 := h; omega
    | two l r ihl ihr =>
      intro h x hx
      rcases List.mem_append.1 hx with q | q
      · exact ihr h.2 x q
      · exact ihl h.1 x q
  have hb : rowB (sortZ T.leavesR) = true := (rowB_sort _).2 ⟨fun e => by have := leavesR_pos T; rw [e] at this; simp at this, hr T hok, hn⟩
  obtain ⟨_, h1, h2⟩ := (rowB_iff _).1 hb
  rw [← sortZ_len]
  apply Classical.byContradiction
  intro hgt
  have hp := List.pairwise_iff_getElem.1 h2
  have h8 : ∀ k (hk : k < (sortZ T.leavesR).length), (k : Int) + 1 ≤ (sortZ T.leavesR)[k] := by
    intro k
    induction k with
    | zero => intro hk; have := (h1 _ (List.getElem_mem hk)).1; omega
    | succ k ih => intro hk; have := ih (by omega); have := hp k (k + 1) (by omega) hk (by omega); omega
  have := h8 8 (by omega)
  have := (h1 _ (List.getElem_mem (show 8 < (sortZ T.leavesR).length by omega))).2
  omega
/-- A part of a tree, turned: the leaves, and whether all is right. -/
def ctxOk (A T : Tr) (c : Tr → Tr) : Prop := ∃ X Y : List Int, ∀ Q : Tr, (c Q).leavesR = X ++ Q.leavesR ++ Y ∧ (Q.ok → (c Q).ok) ∧ c T = A
theorem walkT_ctx {A0 : Tr} (hA0 : A0.ok) : ∀ (T : Tr) (c : Tr → Tr) (st : Option (Tr × (Tr → Tr))), T.ok → ctxOk A0 T c → (∀ y, st = some y → y.1.ok ∧ ctxOk A0 y.1 y.2) → ∀ y, walkT T c st = some y → y.1.ok ∧ ctxOk A0 y.1 y.2 := by
  have hp : ∀ (x : Tr × (Tr → Tr)) st, (x.1.ok ∧ ctxOk A0 x.1 x.2) → (∀ y, st = some y → y.1.ok ∧ ctxOk A0 y.1 y.2) → ∀ y, chooT x st = some y → y.1.ok ∧ ctxOk A0 y.1 y.2 := by
    intro x st hx hst y h
    unfold chooT at h
    cases st with
    | none => cases h; exact hx
    | some z =>
      simp only at h
      split at h
      · cases h; exact hx
      · exact hst y h
  intro T
  induction T with
  | leaf p => intro c st hk hc hst; exact hp _ _ ⟨hk, hc⟩ hst
  | two l r ihl ihr =>
    intro c st hk hc hst
    unfold walkT
    split
    · exact hp _ _ ⟨hk, hc⟩ hst
    · obtain ⟨X, Y, h⟩ := hc
      refine ihl _ _ hk.1 ⟨X ++ r.leavesR, Y, fun Q => ?_⟩ (ihr _ _ hk.2 ⟨X, l.leavesR ++ Y, fun Q => ?_⟩ hst)
      · obtain ⟨h1, h2, h3⟩ := h (.two Q r)
        refine ⟨?_, fun hq => h2 ⟨hq, hk.2⟩, h3⟩
        show (c (.two Q r)).leavesR = _
        rw [h1]; simp [Tr.leavesR]
      · obtain ⟨h1, h2, h3⟩ := h (.two l Q)
        refine ⟨?_, fun hq => h2 ⟨hk.1, hq⟩, h3⟩
        show (c (.two l Q)).leavesR = _
        rw [h1]; simp [Tr.leavesR]
theorem walkT_some : ∀ (T : Tr) (c : Tr → Tr) (st : Option (Tr × (Tr → Tr))), ∃ y, walkT T c st = some y := by
  have hp : ∀ x st, ∃ y, chooT x st = some y := by
    intro x st
    unfold chooT
    cases st with
    | none => exact ⟨_, rfl⟩
    | some z => simp only; split <;> exact ⟨_, rfl⟩
  intro T
  induction T with
  | leaf p => intro c st; exact hp _ _
  | two l r ihl ihr =>
    intro c st
    unfold walkT
    split
    · exact hp _ _
    · exact ihl _ _
theorem joinT_is {T : Tr} {p : Int} (hk : T.ok) : ∃ (S : Tr) (g : Tr → Tr) (X Y : List Int), joinT T p = g (.two S (.leaf p)) ∧ S.ok ∧ (∀ Q : Tr, (g Q).leavesR = X ++ Q.leavesR ++ Y ∧ (Q.ok → (g Q).ok)) ∧ g S = T := by
  obtain ⟨⟨S, g⟩, hy⟩ := walkT_some T id none
  obtain ⟨h1, X, Y, h2⟩ := walkT_ctx hk T id none hk ⟨[], [], fun Q => ⟨by simp, fun h => h, rfl⟩⟩ (fun y h => by cases h) _ hy
  refine ⟨S, g, X, Y, ?_, h1, fun Q => ⟨(h2 Q).1, (h2 Q).2.1⟩, (h2 S).2.2⟩
  unfold joinT
  rw [hy]
theorem joinT_ok {T : Tr} {p : Int} (hk : T.ok) (hp : 1 ≤ p ∧ p ≤ 8) : (joinT T p).ok ∧ (joinT T p).leavesR.Perm (p :: T.leavesR) := by
  obtain ⟨S, g, X, Y, e, h1, h2, h3⟩ := joinT_is (p := p) hk
  rw [e]
  refine ⟨(h2 _).2 ⟨h1, hp⟩, ?_⟩
  have e1 := (h2 (.two S (.leaf p))).1
  have e2 := (h2 S).1
  rw [h3] at e2
  rw [e1, e2]
  show (X ++ ([p] ++ S.leavesR) ++ Y).Perm _
  simp only [List.append_assoc, List.cons_append, List.nil_append]
  exact List.perm_middle
theorem joinM_none {s : List UInt8} {p : Int} (ho : ofM s = none) : joinM s p = ([], 1) := by unfold joinM; rw [ho]
theorem joinM_no {s : List UInt8} {p : Int} {T : Tr} (ho : ofM s = some T) (h : ¬ ((1 ≤ p ∧ p ≤ 8) ∧ p ∉ T.leavesR)) : joinM s p = ([], 1) := by unfold joinM; rw [ho]; exact if_neg h
theorem joinM_yes {s : List UInt8} {p : Int} {T : Tr} (ho : ofM s = some T) (h : (1 ≤ p ∧ p ≤ 8) ∧ p ∉ T.leavesR) : joinM s p = ((joinT T p).text, 0) := by unfold joinM; rw [ho]; exact if_pos h
set_option maxHeartbeats 8000000 in
theorem join_calls {s : List UInt8} {p : Int} (hs : s.length ≤ 900000) : Calls Tryd.prog 22 #[.string (bs s), .int .i64 p] w fun e w' => ∃ v, e = .returned v ∧ (v = .tuple #[.string (bs (joinM s p).1), .int .i64 (joinM s p).2] ∧ Bel w.heap.size w w') := by
  have H : Eng.Own (fun _ => False) w w [] := Eng.Own.nil _ w
  refine enterN (args := [.string (bs s), .int .i64 p]) Tryd.func22 rfl Tryd.ntmps22 rfl rfl ?_
  refine Eng.nc_seq ?_
  refine nc ?_
  refine Eng.nc_seq ?_
  refine nc ?_
  refine call_rule (by kernel_rfl) (treeOf_own (by omega) H) fun v w1 hR => ?_
  refine Eng.nc_seq ?_
  refine nc ?_
  refine call_rule (by kernel_rfl) (leaf_calls (p := p)) fun v2 w2 ⟨hv2, hb2⟩ => ?_
  subst hv2
  cases ho : ofM s with
  | none =>
    rw [ho] at hR
    obtain ⟨rfl, H⟩ := hR
    replace H := H.call hb2
    refine Eng.nc_seq ?_
    refine nc ?_
    refine eqlNil_rule (by kernel_rfl) ?_
    refine call_skip (.slice none 0 0) rfl ?_
    refine call_skip (.bool false) rfl ?_
    refine Eng.nc_cond (b := true) rfl (fun hc => ?_) (fun hc => ?_)
    · refine Eng.nc_seq ?_
      refine nc ?_
      refine nc ?_
      exact ret_inA [.string (bs []), .int .i64 1] ⟨_, rfl, by rw [joinM_none ho]; rfl, H.frame⟩
    · cases hc
  | some T =>
    rw [ho] at hR
    obtain ⟨A, hA, rfl, H⟩ := hR
    replace H := H.call hb2
    obtain ⟨hT, hok⟩ := ofM_text ho
    have hnd := ofM_nodup ho
    have h8 := leaves_eight hok hnd
    subst hA
    by_cases hp : 1 ≤ p ∧ p ≤ 8
    · rw [if_pos hp, if_pos hp]
      refine Eng.nc_seq ?_
      refine nc ?_
      refine eqlNil_rule (p := some ⟨A.root, 0, none⟩) (by kernel_rfl) ?_
      refine call_yes rfl (by kernel_rfl) (nodeMembers_own (by omega) H) fun u w3 H => ?_
      have hrow : slR (tInt .i64) w3 (fun _ => True) u (sortZ A.tr.leavesR) := H.rowSlR (k := tInt .i64) 0 rfl (rowsR_ints w3 (fun _ => True) _)
      refine call_yes rfl (by kernel_rfl) (view_Has_ok hrow (hasP_eq _ p (by rw [sortZ_len]; omega))) fun v w4 ⟨hv, hb4⟩ => ?_
      subst hv
      replace H := (H.call hb4).tail
      by_cases hm : p ∈ A.tr.leavesR
      · have hm2 : decide (p ∈ sortZ A.tr.leavesR) = true := by simpa using ((sortZ_perm _).mem_iff).2 hm
        rw [hm2]
        refine Eng.nc_cond (b := true) rfl (fun hc => ?_) (fun hc => ?_)
        · refine Eng.nc_seq ?_
          refine nc ?_
          refine nc ?_
          exact ret_inA [.string (bs []), .int .i64 1] ⟨_, rfl, by rw [joinM_no ho (fun q => q.2 hm)]; rfl, H.frame⟩
        · cases hc
      · have hm2 : decide (p ∈ sortZ A.tr.leavesR) = false := by simpa using fun q => hm (((sortZ_perm _).mem_iff).1 q)
        rw [hm2]
        refine Eng.nc_cond (b := false) rfl (fun hc => ?_) (fun hc => ?_)
        · cases hc
        refine nc ?_
        refine nc_weak (e' := [(1, .int .i64 p), (6, A.ptr)]) ⟨rfl, rfl, trivial⟩ ?_
        refine Eng.nc_seq ?_
        refine nc ?_
        refine own_alloc (z := .pointer none) H (by kernel_rfl) [.pointer none] rfl fun cp w5 H => ?_
        refine Eng.nc_seq ?_
        refine nc ?_
        have hE : Calls Tryd.prog 33 #[A.ptr, doJ cp] w5 fun e w' => ∃ u, e = .returned u ∧ ∃ c3 c4, Eng.Own (fun _ => False) w w' (joinL cp c3 c4 (walkA A id none) (A.items ++ [])) := by
          refine enterN (args := [A.ptr, doJ cp]) Tryd.func33 rfl Tryd.ntmps33 rfl rfl ?_
          refine Eng.nc_seq ?_
          refine nc ?_
          refine own_box H [doJ cp] rfl fun c3 w2 H => ?_
          refine Eng.nc_seq ?_
          refine nc ?_
          refine own_alloc (z := .nilFunc) H (by kernel_rfl) [.nilFunc] rfl fun c4 w3 H => ?_
          refine Eng.nc_seq ?_
          refine nc ?_
          refine own_store (t := 72) H 0 rfl (by kernel_rfl) (j := 0) rfl rfl fun w4 H => ?_
          refine nc ?_
          have H0 : Eng.Own (fun _ => False) w w4 (joinL cp c3 c4 none (A.items ++ [])) :=
            order_own (A := [.blk c4 [walkV c3 c4] 72, .blk c3 [doJ cp] 57, .blk cp [.pointer none] 45]) H [2, 1, 0] (by show (List.range 3).Perm _; decide)
          refine own_load H0 2 rfl (by kernel_rfl) (j := 0) rfl ?_
          refine callV_rule (by kernel_rfl) (walkJ_own (R := A.items ++ []) A id (fun it h => List.mem_append_left _ h) (by omega) (fun y h => by cases h) H0) fun u w5 H => ?_
          exact ret_inA [] ⟨_, rfl, c3, c4, H⟩
        refine call_rule (by kernel_rfl) hE fun u w5 ⟨c3, c4, H⟩ => ?_
        obtain ⟨⟨B, g⟩, hy⟩ := walkA_some A id none
        have hgood := walkA_good (A0 := A) A id none ⟨rfl, [], [], fun Q hQ => ⟨hQ, by simp⟩⟩ (fun y h => by cases h) _ hy
        have hrel := walk_rel A id id none none (fun Q => rfl) trivial
        rw [hy] at hrel H
        obtain ⟨hg0, X, Y, hg⟩ := hgood
        have hAi : A.items = X ++ B.items ++ Y := by
          have := (hg B rfl).2
          rw [← this]
          exact congrArg TrA.items hg0.symm
        -- the place, and what is new
        obtain ⟨cs, rest, hB, htop⟩ : ∃ cs rest, B.items = .blk B.root cs 59 :: rest ∧ cs.length = 3 ∧ (∀ b', ∃ B' : TrA, B'.root = b' ∧ B'.tr = B.tr ∧ B'.items = .blk b' cs 59 :: rest) ∧ (∀ v ∈ cs, oneV v = true) := by
          cases B with
          | leaf b q => exact ⟨_, [], rfl, rfl, fun b' => ⟨.leaf b' q, rfl, rfl, rfl⟩, by intro v hv; simp at hv; rcases hv with rfl | rfl | rfl <;> rfl⟩
          | two b l r => exact ⟨_, _, rfl, rfl, fun b' => ⟨.two b' l r, rfl, rfl, rfl⟩, by intro v hv; simp at hv; rcases hv with rfl | rfl | rfl <;> rfl⟩
        obtain ⟨hcl, hcopy, hone⟩ := htop
        replace H : Eng.Own (fun _ => False) w w5 (.blk cp [B.ptr] 45 :: .blk B.root cs 59 :: (X ++ rest ++ Y)) := by
          have H1 : Eng.Own (fun _ => False) w w5 (.blk cp [B.ptr] 45 :: .blk c3 [doJ cp] 57 :: .blk c4 [walkV c3 c4] 72 :: (A.items ++ [])) := H
          rw [List.append_nil, hAi, hB] at H1
          have H2 := H1.less (List.Sublist.cons_cons _ (List.Sublist.cons _ (List.Sublist.cons _ (List.Sublist.refl _))))
          refine H2.perm (List.Perm.cons _ ?_)
          simp only [List.append_assoc, List.cons_append]
          exact List.perm_middle
        obtain ⟨a1, a2, a3, hcs⟩ : ∃ a1 a2 a3, cs = [a1, a2, a3] := by
          match cs, hcl with
          | [a, b, c], _ => exact ⟨a, b, c, rfl⟩
        subst hcs
        have ho1 := hone a1 (by simp)
        have ho2 := hone a2 (by simp)
        have ho3 := hone a3 (by simp)
        refine Eng.nc_seq ?_
        refine nc ?_
        refine own_load H 0 rfl (by kernel_rfl) (j := 0) (v := .pointer (some ⟨B.root, 0, none⟩)) rfl ?_
        refine own_loadA (m := 3) H 1 rfl (by kernel_rfl) (by kernel_rfl) [a1, a2, a3] rfl rfl ?_
        refine own_alloc (z := .agg #[.int .i64 0, .pointer none, .pointer none]) H (by kernel_rfl) [.int .i64 0, .pointer none, .pointer none] rfl fun b' w6 H => ?_
        refine own_storeB (m := 3) H 0 rfl (by kernel_rfl) [a1, a2, a3] rfl rfl (by simp [allOne, ho1, ho2, ho3]) rfl fun w7 H => ?_
        replace H : Eng.Own (fun _ => False) w w7 (.blk b' [a1, a2, a3] 59 :: .blk cp [B.ptr] 45 :: .blk B.root [a1, a2, a3] 59 :: (X ++ rest ++ Y)) := H
        refine Eng.nc_seq ?_
        refine nc ?_
        refine own_load H 1 rfl (by kernel_rfl) (j := 0) (v := .pointer (some ⟨B.root, 0, none⟩)) rfl ?_
        refine own_box H [.int .i64 p, .pointer none, .pointer none] rfl fun bl w8 H => ?_
        refine own_storeB (m := 3) H 3 rfl (by kernel_rfl) [.int .i64 0, .pointer (some ⟨b', 0, none⟩), .pointer (some ⟨bl, 0, none⟩)] rfl rfl rfl rfl fun w9 H => ?_
        replace H : Eng.Own (fun _ => False) w w9 (.blk bl [.int .i64 p, .pointer none, .pointer none] 59 :: .blk b' [a1, a2, a3] 59 :: .blk cp [B.ptr] 45 :: .blk B.root [.int .i64 0, .pointer (some ⟨b', 0, none⟩), .pointer (some ⟨bl, 0, none⟩)] 59 :: (X ++ rest ++ Y)) := H
        -- the tree that stands there now
        obtain ⟨B', hr', ht', hi'⟩ := hcopy b'
        obtain ⟨e1, e2⟩ := hg (.two B.root B' (.leaf bl p)) rfl
        have htr : (g (.two B.root B' (.leaf bl p))).tr = joinT A.tr p := by
          unfold joinT
          cases hw : walkT A.tr id none with
          | none => rw [hw] at hrel; exact hrel.elim
          | some y =>
            rw [hw] at hrel
            show _ = y.2 (.two y.1 (.leaf p))
            rw [hrel.2]
            exact congrArg y.2 (by show Tr.two B'.tr (.leaf p) = _; rw [ht', hrel.1])
        replace H : Eng.Own (fun _ => False) w w9 ((g (.two B.root B' (.leaf bl p))).items) := by
          have H2 := H.less (List.Sublist.cons_cons _ (List.Sublist.cons_cons _ (List.Sublist.cons _ (List.Sublist.refl _))))
          rw [e2]
          refine H2.perm ?_
          have hp' : B'.ptr = .pointer (some ⟨b', 0, none⟩) := by unfold TrA.ptr; rw [hr']
          have : (TrA.two B.root B' (.leaf bl p)).items = .blk B.root [.int .i64 0, .pointer (some ⟨b', 0, none⟩), .pointer (some ⟨bl, 0, none⟩)] 59 :: ((.blk b' [a1, a2, a3] 59 :: rest) ++ [.blk bl [.int .i64 p, .pointer none, .pointer none] 59]) := by
            show Eng.Item.blk B.root [.int .i64 0, B'.ptr, (TrA.leaf bl p).ptr] 59 :: (B'.items ++ _) = _
            rw [hp', hi']; rfl
          rw [this]
          exact perm3 _ _ _ X rest Y
        have hjk := joinT_ok hok hp
        have hlen : (joinT A.tr p).text.length ≤ 1000000 := by
          have h1 := text_leaves3 (joinT A.tr p)
          have h2 := hjk.2.length_eq
          rw [List.length_cons] at h2
          omega
        refine Eng.nc_seq ?_
        refine nc ?_
        have hroot : A.ptr = (g (.two B.root B' (.leaf bl p))).ptr := by unfold TrA.ptr; rw [e1]
        rw [hroot]
        refine call_rule (by kernel_rfl) (text_own (g (.two B.root B' (.leaf bl p))) (fun it h => h) (by rw [htr]; exact hjk.1) (by rw [htr]; exact hlen) H) fun u w10 ⟨L', ⟨hu, hL⟩, H⟩ => ?_
        subst hu hL
        refine nc ?_
        rw [htr]
        exact ret_inA [_, .int .i64 0] ⟨_, rfl, by rw [joinM_yes ho ⟨hp, hm⟩]; rfl, H.frame⟩
    · rw [if_neg hp, if_neg hp]
      refine Eng.nc_seq ?_
      refine nc ?_
      refine eqlNil_rule (p := some ⟨A.root, 0, none⟩) (by kernel_rfl) ?_
      refine call_skip (.slice none 0 0) rfl ?_
      refine call_skip (.bool false) rfl ?_
      refine Eng.nc_cond (b := true) rfl (fun hc => ?_) (fun hc => ?_)
      · refine Eng.nc_seq ?_
        refine nc ?_
        refine nc ?_
        exact ret_inA [.string (bs []), .int .i64 1] ⟨_, rfl, by rw [joinM_no ho (fun q => hp q.1)]; rfl, H.frame⟩
      · cases hc
end Go.Proofs.YtfapphlhkfddoaaDoor.G
