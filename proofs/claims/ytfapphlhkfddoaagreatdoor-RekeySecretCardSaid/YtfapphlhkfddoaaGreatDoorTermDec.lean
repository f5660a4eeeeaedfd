/- One joins a tree. -/
import Derived.Test.YtfapphlhkfddoaaGreatDoorHasP
import Derived.Test.YtfapphlhkfddoaaGreatDoorH1
import Derived.KernelRfl
import Derived.Sort.Walk0
namespace Go.Proofs.YtfapphlhkfddoaaGreatDoor.G
open Go.RowKit Go.Eng Go.Proofs Go.Proofs.YtfapphlhkfddoaaGreatDoor.Cut
set_option linter.unusedVariables false
set_option maxRecDepth 20000
variable {ok : Nat → Prop} {w0 w : World} {L R : List Eng.Item}

/-- Where one joins: the place, and what stands round it; the first one of least depth, from the right. -/
def chooT (x : Tr × (Tr → Tr)) (st : Option (Tr × (Tr → Tr))) : Option (Tr × (Tr → Tr)) := match st with
  | none => some x
  | some y => if x.1.deep < y.1.deep then some x else some y
def walkT : Tr → (Tr → Tr) → Option (Tr × (Tr → Tr)) → Option (Tr × (Tr → Tr))
  | .leaf p, c, st => chooT (.leaf p, c) st
  | .two l r, c, st => if fullT (.two l r) = true then chooT (.two l r, c) st else walkT l (fun x => c (.two x r)) (walkT r (fun x => c (.two l x)) st)
def joinT (T : Tr) (p : Int) : Tr := match walkT T id none with
  | some (S, g) => g (.two S (.leaf p))
  | none => T
def chooA (x : TrA × (TrA → TrA)) (st : Option (TrA × (TrA → TrA))) : Option (TrA × (TrA → TrA)) := match st with
  | none => some x
  | some y => if x.1.tr.deep < y.1.tr.deep then some x else some y
def walkA : TrA → (TrA → TrA) → Option (TrA × (TrA → TrA)) → Option (TrA × (TrA → TrA))
  | .leaf b p, c, st => chooA (.leaf b p, c) st
  | .two b l r, c, st => if fullT (TrA.two b l r).tr = true then chooA (.two b l r, c) st else walkA l (fun x => c (.two b x r)) (walkA r (fun x => c (.two b l x)) st)
/-! What is picked is a part of the tree. -/
def goodC (A0 : TrA) (x : TrA × (TrA → TrA)) : Prop := x.2 x.1 = A0 ∧ ∃ X Y, ∀ Q : TrA, Q.root = x.1.root → (x.2 Q).root = A0.root ∧ (x.2 Q).items = X ++ Q.items ++ Y
theorem chooA_P {P : TrA × (TrA → TrA) → Prop} {x : TrA × (TrA → TrA)} {st : Option (TrA × (TrA → TrA))} (hx : P x) (hst : ∀ y, st = some y → P y) : ∀ y, chooA x st = some y → P y := by
  intro y h
  unfold chooA at h
  cases st with
  | none => cases h; exact hx
  | some z =>
    simp only at h
    split at h
    · cases h; exact hx
    · exact hst y h
theorem walkA_good {A0 : TrA} : ∀ (A : TrA) (c : TrA → TrA) (st : Option (TrA × (TrA → TrA))), goodC A0 (A, c) → (∀ y, st = some y → goodC A0 y) → ∀ y, walkA A c st = some y → goodC A0 y := by
  intro A
  induction A with
  | leaf b p => intro c st hA hst; exact chooA_P hA hst
  | two b l r ihl ihr =>
    intro c st hA hst
    unfold walkA
    split
    · exact chooA_P hA hst
    · obtain ⟨h1, X, Y, h2⟩ := hA
      refine ihl _ _ ⟨h1, X ++ [.blk b [.int .i64 0, l.ptr, r.ptr] 135], r.items ++ Y, fun Q hQ => ?_⟩ (ihr _ _ ⟨h1, X ++ .blk b [.int .i64 0, l.ptr, r.ptr] 135 :: l.items, Y, fun Q hQ => ?_⟩ hst)
      · obtain ⟨e1, e2⟩ := h2 (.two b Q r) rfl
        refine ⟨e1, ?_⟩
        have hp : Q.ptr = l.ptr := by unfold TrA.ptr; rw [hQ]
        show (c (.two b Q r)).items = _
        rw [e2]
        simp only [TrA.items, hp, List.append_assoc, List.cons_append, List.nil_append]
      · obtain ⟨e1, e2⟩ := h2 (.two b l Q) rfl
        refine ⟨e1, ?_⟩
        have hp : Q.ptr = r.ptr := by unfold TrA.ptr; rw [hQ]
        show (c (.two b l Q)).items = _
        rw [e2]
        simp only [TrA.items, hp, List.append_assoc, List.cons_append, List.nil_append]
theorem two_leaves (b : Nat) (l r : TrA) : (TrA.two b l r).tr.leavesR.length = r.tr.leavesR.length + l.tr.leavesR.length := by simp [TrA.tr, Tr.leavesR]
theorem walkA_some : ∀ (A : TrA) (c : TrA → TrA) (st : Option (TrA × (TrA → TrA))), ∃ y, walkA A c st = some y := by
  intro A
  have hp : ∀ x st, ∃ y, chooA x st = some y := by
    intro x st
    unfold chooA
    cases st with
    | none => exact ⟨_, rfl⟩
    | some z => simp only; split <;> exact ⟨_, rfl⟩
  induction A with
  | leaf b p => intro c st; exact hp _ _
  | two b l r ihl ihr =>
    intro c st
    unfold walkA
    split
    · exact hp _ _
    · exact ihl _ _
theorem walkA_part {P : TrA → Prop} : ∀ (A : TrA) (c : TrA → TrA) (st : Option (TrA × (TrA → TrA))), (∀ B : TrA, (∀ it ∈ B.items, it ∈ A.items) → B.tr.leavesR.length ≤ A.tr.leavesR.length → P B) → (∀ y, st = some y → P y.1) → ∀ y, walkA A c st = some y → P y.1 := by
  intro A
  induction A with
  | leaf b p => intro c st hA hst; exact chooA_P (P := fun x => P x.1) (hA _ (fun _ h => h) (Nat.le_refl _)) hst
  | two b l r ihl ihr =>
    intro c st hA hst
    unfold walkA
    have h2 := two_leaves b l r
    split
    · exact chooA_P (P := fun x => P x.1) (hA _ (fun _ h => h) (Nat.le_refl _)) hst
    · refine ihl _ _ (fun B h1 h3 => hA B (fun it h => List.mem_cons_of_mem _ (List.mem_append_left _ (h1 it h))) (by omega)) (ihr _ _ (fun B h1 h3 => hA B (fun it h => List.mem_cons_of_mem _ (List.mem_append_right _ (h1 it h))) (by omega)) hst)
/-! .. and the same as without memory. -/
def relC (x : TrA × (TrA → TrA)) (y : Tr × (Tr → Tr)) : Prop := x.1.tr = y.1 ∧ ∀ Q : TrA, (x.2 Q).tr = y.2 Q.tr
def relO : Option (TrA × (TrA → TrA)) → Option (Tr × (Tr → Tr)) → Prop
  | none, none => True
  | some x, some y => relC x y
  | _, _ => False
theorem pick_rel {x : TrA × (TrA → TrA)} {y : Tr × (Tr → Tr)} {s : Option (TrA × (TrA → TrA))} {t : Option (Tr × (Tr → Tr))} (h : relC x y) (hs : relO s t) : relO (chooA x s) (chooT y t) := by
  cases s with
  | none => cases t with
    | none => exact h
    | some b => exact hs.elim
  | some a => cases t with
    | none => exact hs.elim
    | some b =>
      unfold chooA chooT
      simp only
      have h1 : a.1.tr = b.1 := hs.1
      rw [h.1, h1]
      split
      · exact h
      · exact hs
theorem walk_rel : ∀ (A : TrA) (c : TrA → TrA) (c' : Tr → Tr) (s : Option (TrA × (TrA → TrA))) (t : Option (Tr × (Tr → Tr))), (∀ Q : TrA, (c Q).tr = c' Q.tr) → relO s t → relO (walkA A c s) (walkT A.tr c' t) := by
  intro A
  induction A with
  | leaf b p => intro c c' s t hc hs; exact pick_rel ⟨rfl, hc⟩ hs
  | two b l r ihl ihr =>
    intro c c' s t hc hs
    show relO (walkA (.two b l r) c s) (walkT (.two l.tr r.tr) c' t)
    unfold walkA walkT
    show relO (if fullT (.two l.tr r.tr) = true then _ else _) _
    split
    · exact pick_rel ⟨rfl, hc⟩ hs
    · exact ihl _ _ _ _ (fun Q => hc (.two b Q r)) (ihr _ _ _ _ (fun Q => hc (.two b l Q)) hs)
theorem perm3 {α : Type} (a b c : α) (X R Y : List α) : (a :: b :: c :: (X ++ R ++ Y)).Perm (X ++ (c :: ((b :: R) ++ [a])) ++ Y) := by
  have hz : ∀ Z : List α, (X ++ Z ++ Y).Perm (Z ++ (X ++ Y)) := fun Z => by
    refine (List.Perm.append_right Y (List.perm_append_comm (l₁ := X) (l₂ := Z))).trans ?_
    rw [List.append_assoc]
  have h1 : (c :: ((b :: R) ++ [a])).Perm (a :: b :: c :: R) := by
    have : (c :: b :: R ++ [a]).Perm (a :: (c :: b :: R)) := List.perm_append_comm (l₁ := c :: b :: R) (l₂ := [a])
    exact this.trans (List.Perm.cons _ (List.Perm.swap _ _ _))
  refine List.Perm.trans ?_ (hz _).symm
  refine List.Perm.trans ?_ (List.Perm.append_right _ h1.symm)
  exact List.Perm.cons _ (List.Perm.cons _ (List.Perm.cons _ (hz R)))
/-! The walk. -/
def optV : Option TrA → Value
  | none => .pointer none
  | some B => B.ptr
def doJ (cp : Nat) : Value := .func (.func 86) #[] #[.pointer (some ⟨cp, 0, none⟩)]
def joinL (cp c3 c4 : Nat) (st : Option (TrA × (TrA → TrA))) (R : List Eng.Item) : List Eng.Item :=
  .blk cp [optV (st.map (·.1))] 89 :: .blk c3 [doJ cp] 133 :: .blk c4 [walkV c3 c4] 169 :: R
def stIn (R : List Eng.Item) (st : Option (TrA × (TrA → TrA))) : Prop := ∀ y, st = some y → (∀ it ∈ y.1.items, it ∈ R) ∧ y.1.tr.leavesR.length ≤ 60
theorem in3 {a b c : Eng.Item} {l : List Eng.Item} (h : ∀ it ∈ l, it ∈ R) : ∀ it ∈ l, it ∈ a :: b :: c :: R := fun it hi => List.mem_cons_of_mem _ (List.mem_cons_of_mem _ (List.mem_cons_of_mem _ (h it hi)))
set_option maxHeartbeats 4000000 in
theorem join1_own {A : TrA} {c : TrA → TrA} {cp c3 c4 : Nat} {st : Option (TrA × (TrA → TrA))} (hA : ∀ it ∈ A.items, it ∈ R) (hl : A.tr.leavesR.length ≤ 60) (hst : stIn R st) (H : Eng.Own ok w0 w (joinL cp c3 c4 st R)) :
    Calls Tryz.prog 86 #[A.ptr, .pointer (some ⟨cp, 0, none⟩)] w fun e w' => ∃ u, e = .returned u ∧ (u = .bool (!(fullT A.tr)) ∧ Eng.Own ok w0 w' (joinL cp c3 c4 (if fullT A.tr = true then chooA (A, c) st else st) R)) := by
  refine enterN (args := [A.ptr, .pointer (some ⟨cp, 0, none⟩)]) Tryz.func86 rfl Tryz.ntmps86 rfl rfl ?_
  refine Eng.nc_seq ?_
  refine nc ?_
  refine Eng.nc_seq ?_
  refine Eng.nc_seq ?_
  refine nc ?_
  refine call_rule (by kernel_rfl) (full_own A (in3 hA) hl H) fun u w1 ⟨hu, H⟩ => ?_
  subst hu
  cases hf : fullT A.tr with
  | false =>
    refine Eng.nc_cond (b := true) rfl (fun hc => ?_) (fun hc => ?_)
    · refine Eng.nc_seq ?_
      refine nc ?_
      refine nc ?_
      exact ret_inA [.bool true] ⟨_, rfl, rfl, H⟩
    · cases hc
  | true =>
    refine Eng.nc_cond (b := false) rfl (fun hc => ?_) (fun hc => ?_)
    · cases hc
    refine nc ?_
    have hA3 := in3 (a := .blk cp [optV (st.map (·.1))] 89) (b := .blk c3 [doJ cp] 133) (c := .blk c4 [walkV c3 c4] 169) hA
    refine Eng.nc_seq ?_
    refine nc_cut (fun e w' => ∃ z, e = [(0, A.ptr), (1, .pointer (some ⟨cp, 0, none⟩)), (15, .bool z)] ∧ chooA (A, c) st = (if z = true then some (A, c) else st) ∧ Eng.Own ok w0 w' (joinL cp c3 c4 st R)) ?_ ?_
    · refine nc ?_
      cases st with
      | none =>
        refine draw_rule [] (by kernel_rfl) (by kernel_rfl) H ?_
        refine c_load 0 rfl (by kernel_rfl) (j := 0) (v := .pointer none) rfl ?_
        refine c_eqlNil (by kernel_rfl) ?_
        refine c_skipCL (.int .i64 0) rfl ?_
        refine c_load 0 rfl (by kernel_rfl) (j := 0) (v := .pointer none) rfl ?_
        refine c_skipCL (.int .i64 0) rfl ?_
        intro w2 H
        exact cut_inA ⟨true, rfl, rfl, H⟩
      | some y =>
        obtain ⟨hy1, hy2⟩ := hst y rfl
        have hy3 := in3 (a := .blk cp [optV ((some y).map (·.1))] 89) (b := .blk c3 [doJ cp] 133) (c := .blk c4 [walkV c3 c4] 169) hy1
        refine draw_rule [] (by kernel_rfl) (by kernel_rfl) H ?_
        refine c_load 0 rfl (by kernel_rfl) (j := 0) (v := .pointer (some ⟨y.1.root, 0, none⟩)) rfl ?_
        refine c_eqlNil (by kernel_rfl) ?_
        refine c_callOwn (fun u L' => u = .int .i64 (A.tr.deep : Int) ∧ joinL cp c3 c4 (some y) R = L') rfl (by kernel_rfl) (fun v L' h => by rw [← h.2]; exact List.Sublist.refl _) (fun w H => depth_own A hA3 (by omega) H) fun v L' hv => ?_
        obtain ⟨rfl, rfl⟩ := hv
        refine c_load 0 rfl (by kernel_rfl) (j := 0) (v := y.1.ptr) rfl ?_
        refine c_callOwn (fun u L' => u = .int .i64 (y.1.tr.deep : Int) ∧ joinL cp c3 c4 (some y) R = L') rfl (by kernel_rfl) (fun v L' h => by rw [← h.2]; exact List.Sublist.refl _) (fun w H => depth_own y.1 hy3 (by omega) H) fun v L' hv => ?_
        obtain ⟨rfl, rfl⟩ := hv
        intro w2 H
        refine cut_inA ⟨decide ((A.tr.deep : Int) < (y.1.tr.deep : Int)), rfl, ?_, H⟩
        unfold chooA
        simp only
        by_cases hd : A.tr.deep < y.1.tr.deep
        · rw [if_pos hd, if_pos (by simpa using hd)]
        · rw [if_neg hd, if_neg (by simpa using hd)]
    · rintro _ w2 ⟨z, rfl, hz, H⟩
      rw [if_pos rfl, hz]
      refine Eng.nc_cond (b := z) rfl (fun hc => ?_) (fun hc => ?_)
      · rw [hc, if_pos rfl]
        refine nc ?_
        refine own_store (t := 89) H 0 rfl (by kernel_rfl) (j := 0) (v := A.ptr) rfl rfl fun w3 H => ?_
        refine Eng.nc_seq ?_
        refine nc ?_
        refine nc ?_
        exact ret_inA [.bool false] ⟨_, rfl, rfl, H⟩
      · rw [hc, if_neg (by simp)]
        refine nc ?_
        refine Eng.nc_seq ?_
        refine nc ?_
        refine nc ?_
        exact ret_inA [.bool false] ⟨_, rfl, rfl, H⟩
set_option maxHeartbeats 4000000 in
theorem walkJ_own {cp c3 c4 : Nat} : ∀ (A : TrA) (c : TrA → TrA) {st : Option (TrA × (TrA → TrA))} {w : World}, (∀ it ∈ A.items, it ∈ R) → A.tr.leavesR.length ≤ 60 → stIn R st → Eng.Own ok w0 w (joinL cp c3 c4 st R) →
    Calls Tryz.prog 119 #[A.ptr, .pointer (some ⟨c3, 0, none⟩), .pointer (some ⟨c4, 0, none⟩)] w fun e w' => ∃ u, e = .returned u ∧ Eng.Own ok w0 w' (joinL cp c3 c4 (walkA A c st) R) := by
  intro A
  induction A with
  | leaf b p =>
    intro c st w hA hl hst H
    obtain ⟨i, hi⟩ := at_mem (hA _ (TrA.top_mem (.leaf b p)))
    refine enterN (args := [(TrA.leaf b p).ptr, .pointer (some ⟨c3, 0, none⟩), .pointer (some ⟨c4, 0, none⟩)]) Tryz.func119 rfl Tryz.ntmps119 rfl rfl ?_
    refine Eng.nc_seq ?_
    refine nc ?_
    refine own_load H 1 rfl (by kernel_rfl) (j := 0) rfl ?_
    refine callV_rule (by kernel_rfl) (join1_own (A := .leaf b p) (c := c) hA hl hst H) fun u w1 ⟨hu, H⟩ => ?_
    rw [show fullT (TrA.leaf b p).tr = true from rfl] at hu
    rw [if_pos (show fullT (TrA.leaf b p).tr = true from rfl)] at H
    subst hu
    have hi3 : (joinL cp c3 c4 (chooA (.leaf b p, c) st) R)[i + 3]? = some (TrA.leaf b p).top := hi
    refine own_load H (i + 3) hi3 (by kernel_rfl) (j := 1) rfl ?_
    refine neqNil_rule (by kernel_rfl) ?_
    refine Eng.nc_cond (b := false) rfl (fun hc => ?_) (fun hc => ?_)
    · cases hc
    · refine nc ?_
      exact ret_inA [] ⟨_, rfl, H⟩
  | two b l r ihl ihr =>
    intro c st w hA hl hst H
    have hl2 := two_leaves b l r
    obtain ⟨i, hi⟩ := at_mem (hA _ (TrA.top_mem (.two b l r)))
    have hi3 : ∀ st, (joinL cp c3 c4 st R)[i + 3]? = some (TrA.two b l r).top := fun st => hi
    refine enterN (args := [(TrA.two b l r).ptr, .pointer (some ⟨c3, 0, none⟩), .pointer (some ⟨c4, 0, none⟩)]) Tryz.func119 rfl Tryz.ntmps119 rfl rfl ?_
    refine Eng.nc_seq ?_
    refine nc ?_
    refine own_load H 1 rfl (by kernel_rfl) (j := 0) rfl ?_
    refine callV_rule (by kernel_rfl) (join1_own (A := .two b l r) (c := c) hA hl hst H) fun u w1 ⟨hu, H⟩ => ?_
    unfold walkA
    cases hf : fullT (TrA.two b l r).tr with
    | true =>
      rw [hf] at hu H
      rw [if_pos rfl] at H ⊢
      subst hu
      refine own_load H (i + 3) (hi3 _) (by kernel_rfl) (j := 1) (v := .pointer (some ⟨l.root, 0, none⟩)) rfl ?_
      refine neqNil_rule (by kernel_rfl) ?_
      refine Eng.nc_cond (b := false) rfl (fun hc => ?_) (fun hc => ?_)
      · cases hc
      · refine nc ?_
        exact ret_inA [] ⟨_, rfl, H⟩
    | false =>
      rw [hf] at hu H
      rw [if_neg (by simp)] at H ⊢
      subst hu
      have hst1 : stIn R (walkA r (fun x => c (.two b l x)) st) := walkA_part (P := fun B => (∀ it ∈ B.items, it ∈ R) ∧ B.tr.leavesR.length ≤ 60) r _ st (fun B h1 h3 => ⟨fun it h => sub_right hA it (h1 it h), by omega⟩) hst
      refine own_load H (i + 3) (hi3 _) (by kernel_rfl) (j := 1) (v := .pointer (some ⟨l.root, 0, none⟩)) rfl ?_
      refine neqNil_rule (by kernel_rfl) ?_
      refine Eng.nc_cond (b := true) rfl (fun hc => ?_) (fun hc => ?_)
      · refine Eng.nc_seq ?_
        refine nc ?_
        refine draw_rule [] (by kernel_rfl) (by kernel_rfl) H ?_
        refine c_load 2 rfl (by kernel_rfl) (j := 0) rfl ?_
        refine c_load (i + 3) (hi3 _) (by kernel_rfl) (j := 2) (v := r.ptr) rfl ?_
        refine c_callV (fun _ L' => L' = joinL cp c3 c4 (walkA r (fun x => c (.two b l x)) st) R) rfl (by kernel_rfl) (fun w H => (ihr (fun x => c (.two b l x)) (sub_right hA) (by omega) hst H).mono fun e w' ⟨u, he, H'⟩ => ⟨u, he, _, rfl, H'⟩) fun u L' hL' => ?_
        subst hL'
        intro w2 H
        refine nc ?_
        refine draw_rule [] (by kernel_rfl) (by kernel_rfl) H ?_
        refine c_load 2 rfl (by kernel_rfl) (j := 0) rfl ?_
        refine c_load (i + 3) (hi3 _) (by kernel_rfl) (j := 1) (v := l.ptr) rfl ?_
        refine c_callV (fun _ L' => L' = joinL cp c3 c4 (walkA l (fun x => c (.two b x r)) (walkA r (fun x => c (.two b l x)) st)) R) rfl (by kernel_rfl) (fun w H => (ihl (fun x => c (.two b x r)) (sub_left hA) (by omega) hst1 H).mono fun e w' ⟨u, he, H'⟩ => ⟨u, he, _, rfl, H'⟩) fun u L' hL' => ?_
        subst hL'
        intro w3 H
        exact ret_inA [] ⟨_, rfl, H⟩
      · cases hc
/-- Whether one may join, and the tree then. -/
def joinM (s : List UInt8) (p : Int) : List UInt8 × Int := match ofM s with
  | none => ([], 1)
  | some T => if (1 ≤ p ∧ p ≤ 8) ∧ p ∉ T.leavesR then ((joinT T p).text, 0) else ([], 1)
theorem text_leaves3 : ∀ T : Tr, T.text.length + 2 = 3 * T.leavesR.length
  | .leaf p => by simp [Tr.text, Tr.leavesR]
  | .two l r => by
    have h1 := text_leaves3 l
    have h2 := text_leaves3 r
    simp only [Tr.text, Tr.leavesR, List.length_cons, List.length_append, List.length_nil]
    omega
theorem leaves_eight {T : Tr} (hok : T.ok) (hn : T.leavesR.Nodup) : T.leavesR.length ≤ 8 := by
  have hr : ∀ T : Tr, T.ok → ∀ x ∈ T.leavesR, 0 < x ∧ x ≤ 8 := by
    intro T
    induction T with
    | leaf p => intro h x hx; rw [List.mem_singleton.1 hx]; have h : 1 ≤ p ∧ p ≤ 8 := h; omega
    | two l r ihl ihr =>
      intro h x hx
      rcases List.mem_append.1 hx with q | q
      · exact ihr h.2 x q
      · exact ihl h.1 x q
  have hb : rowB (sortZ T.leavesR) = true := (rowB_sort _).2 ⟨fun e => by have := leavesR_pos T; rw [e] at this; simp at this, hr T hok, hn⟩
  obtain ⟨_, h1, h2⟩ := (rowB_iff _).1 hb
  rw [← sortZ_len]
  apply Classical.byContradiction
  intro hgt
  have hp := List.pairwise_iff_getElem.1 h2
  have h8 : ∀ k (hk : k < (sortZ T.leavesR).length), (k : Int) + 1 ≤ (sortZ T.leavesR)[k] := by
    intro k
    induction k with
    | zero => intro hk; have := (h1 _ (List.getElem_mem hk)).1; omega
    | succ k ih => intro hk; have := ih (by omega); have := hp k (k + 1) (by omega) hk (by omega); omega
  have := h8 8 (by omega)
  have := (h1 _ (List.getElem_mem (show 8 < (sortZ T.leavesR).length by omega))).2
  omega
/-- A part of a tree, turned: the leaves, and whether all is right. -/
def ctxOk (A T : Tr) (c : Tr → Tr) : Prop := ∃ X Y : List Int, ∀ Q : Tr, (c Q).leavesR = X ++ Q.leavesR ++ Y ∧ (Q.ok → (c Q).ok) ∧ c T = A
theorem walkT_ctx {A0 : Tr} (hA0 : A0.ok) : ∀ (T : Tr) (c : Tr → Tr) (st : Option (Tr × (Tr → Tr))), T.ok → ctxOk A0 T c → (∀ y, st = some y → y.1.ok ∧ ctxOk A0 y.1 y.2) → ∀ y, walkT T c st = some y → y.1.ok ∧ ctxOk A0 y.1 y.2 := by
  have hp : ∀ (x : Tr × (Tr → Tr)) st, (x.1.ok ∧ ctxOk A0 x.1 x.2) → (∀ y, st = some y → y.1.ok ∧ ctxOk A0 y.1 y.2) → ∀ y, chooT x st = some y → y.1.ok ∧ ctxOk A0 y.1 y.2 := by
    intro x st hx hst y h
    unfold chooT at h
    cases st with
    | none => cases h; exact hx
    | some z =>
      simp only at h
      split at h
      · cases h; exact hx
      · exact hst y h
  intro T
  induction T with
  | leaf p => intro c st hk hc hst; exact hp _ _ ⟨hk, hc⟩ hst
  | two l r ihl ihr =>
    intro c st hk hc hst
    unfold walkT
    split
    · exact hp _ _ ⟨hk, hc⟩ hst
    · obtain ⟨X, Y, h⟩ := hc
      refine ihl _ _ hk.1 ⟨X ++ r.leavesR, Y, fun Q => ?_⟩ (ihr _ _ hk.2 ⟨X, l.leavesR ++ Y, fun Q => ?_⟩ hst)
      · obtain ⟨h1, h2, h3⟩ := h (.two Q r)
        refine ⟨?_, fun hq => h2 ⟨hq, hk.2⟩, h3⟩
        show (c (.two Q r)).leavesR = _
        rw [h1]; simp [Tr.leavesR]
      · obtain ⟨h1, h2, h3⟩ := h (.two l Q)
        refine ⟨?_, fun hq => h2 ⟨hk.1, hq⟩, h3⟩
        show (c (.two l Q)).leavesR = _
        rw [h1]; simp [Tr.leavesR]
theorem walkT_some : ∀ (T : Tr) (c : Tr → Tr) (st : Option (Tr × (Tr → Tr))), ∃ y, walkT T c st = some y := by
  have hp : ∀ x st, ∃ y, chooT x st = some y := by
    intro x st
    unfold chooT
    cases st with
    | none => exact ⟨_, rfl⟩
    | some z => simp only; split <;> exact ⟨_, rfl⟩
  intro T
  induction T with
  | leaf p => intro c st; exact hp _ _
  | two l r ihl ihr =>
    intro c st
    unfold walkT
    split
    · exact hp _ _
    · exact ihl _ _
theorem joinT_is {T : Tr} {p : Int} (hk : T.ok) : ∃ (S : Tr) (g : Tr → Tr) (X Y : List Int), joinT T p = g (.two S (.leaf p)) ∧ S.ok ∧ (∀ Q : Tr, (g Q).leavesR = X ++ Q.leavesR ++ Y ∧ (Q.ok → (g Q).ok)) ∧ g S = T := by
  obtain ⟨⟨S, g⟩, hy⟩ := walkT_some T id none
  obtain ⟨h1, X, Y, h2⟩ := walkT_ctx hk T id none hk ⟨[], [], fun Q => ⟨by simp, fun h => h, rfl⟩⟩ (fun y h => by cases h) _ hy
  refine ⟨S, g, X, Y, ?_, h1, fun Q => ⟨(h2 Q).1, (h2 Q).2.1⟩, (h2 S).2.2⟩
  unfold joinT
  rw [hy]
theorem joinT_ok {T : Tr} {p : Int} (hk : T.ok) (hp : 1 ≤ p ∧ p ≤ 8) : (joinT T p).ok ∧ (joinT T p).leavesR.Perm (p :: T.leavesR) := by
  obtain ⟨S, g, X, Y, e, h1, h2, h3⟩ := joinT_is (p := p) hk
  rw [e]
  refine ⟨(h2 _).2 ⟨h1, hp⟩, ?_⟩
  have e1 := (h2 (.two S (.leaf p))).1
  have e2 := (h2 S).1
  rw [h3] at e2
  rw [e1, e2]
  show (X ++ ([p] ++ S.leavesR) ++ Y).Perm _
  simp only [List.append_assoc, List.cons_append, List.nil_append]
  exact List.perm_middle
theorem joinM_none {s : List UInt8} {p : Int} (ho : ofM s = none) : joinM s p = ([], 1) := by unfold joinM; rw [ho]
theorem joinM_no {s : List UInt8} {p : Int} {T : Tr} (ho : ofM s = some T) (h : ¬ ((1 ≤ p ∧ p ≤ 8) ∧ p ∉ T.leavesR)) : joinM s p = ([], 1) := by unfold joinM; rw [ho]; exact if_neg h
theorem joinM_yes {s : List UInt8} {p : Int} {T : Tr} (ho : ofM s = some T) (h : (1 ≤ p ∧ p ≤ 8) ∧ p ∉ T.leavesR) : joinM s p = ((joinT T p).text, 0) := by unfold joinM; rw [ho]; exact if_pos h
set_option maxHeartbeats 8000000 in
theorem treeJoin_calls {s : List UInt8} {p : Int} (hs : s.length ≤ 900000) : Calls Tryz.prog 45 #[.string (bs s), .int .i64 p] w fun e w' => ∃ v, e = .returned v ∧ (v = .tuple #[.string (bs (joinM s p).1), .int .i64 (joinM s p).2] ∧ Bel w.heap.size w w') := by
  have H : Eng.Own (fun _ => False) w w [] := Eng.Own.nil _ w
  refine enterN (args := [.string (bs s), .int .i64 p]) Tryz.func45 rfl Tryz.ntmps45 rfl rfl ?_
  refine Eng.nc_seq ?_
  refine nc ?_
  refine Eng.nc_seq ?_
  refine nc ?_
  refine call_rule (by kernel_rfl) (treeOf_own (by omega) H) fun v w1 hR => ?_
  refine Eng.nc_seq ?_
  refine nc ?_
  refine call_rule (by kernel_rfl) (treeLeaf_calls (p := p)) fun v2 w2 ⟨hv2, hb2⟩ => ?_
  subst hv2
  cases ho : ofM s with
  | none =>
    rw [ho] at hR
    obtain ⟨rfl, H⟩ := hR
    replace H := H.call hb2
    refine Eng.nc_seq ?_
    refine nc ?_
    refine eqlNil_rule (by kernel_rfl) ?_
    refine call_skip (.slice none 0 0) rfl ?_
    refine call_skip (.bool false) rfl ?_
    refine Eng.nc_cond (b := true) rfl (fun hc => ?_) (fun hc => ?_)
    · refine Eng.nc_seq ?_
      refine nc ?_
      refine nc ?_
      exact ret_inA [.string (bs []), .int .i64 1] ⟨_, rfl, by rw [joinM_none ho]; rfl, H.frame⟩
    · cases hc
  | some T =>
    rw [ho] at hR
    obtain ⟨A, hA, rfl, H⟩ := hR
    replace H := H.call hb2
    obtain ⟨hT, hok⟩ := ofM_text ho
    have hnd := ofM_nodup ho
    have h8 := leaves_eight hok hnd
    subst hA
    by_cases hp : 1 ≤ p ∧ p ≤ 8
    · rw [if_pos hp, if_pos hp]
      refine Eng.nc_seq ?_
      refine nc ?_
      refine eqlNil_rule (p := some ⟨A.root, 0, none⟩) (by kernel_rfl) ?_
      refine call_yes rfl (by kernel_rfl) (nodeMembers_own (by omega) H) fun u w3 H => ?_
      have hrow : slR (tInt .i64) w3 (fun _ => True) u (sortZ A.tr.leavesR) := H.rowSlR (k := tInt .i64) 0 rfl (rowsR_ints w3 (fun _ => True) _)
      refine call_yes rfl (by kernel_rfl) (view_Has_ok hrow (hasP_eq _ p (by rw [sortZ_len]; omega))) fun v w4 ⟨hv, hb4⟩ => ?_
      subst hv
      replace H := (H.call hb4).tail
      by_cases hm : p ∈ A.tr.leavesR
      · have hm2 : decide (p ∈ sortZ A.tr.leavesR) = true := by simpa using ((sortZ_perm _).mem_iff).2 hm
        rw [hm2]
        refine Eng.nc_cond (b := true) rfl (fun hc => ?_) (fun hc => ?_)
        · refine Eng.nc_seq ?_
          refine nc ?_
          refine nc ?_
          exact ret_inA [.string (bs []), .int .i64 1] ⟨_, rfl, by rw [joinM_no ho (fun q => q.2 hm)]; rfl, H.frame⟩
        · cases hc
      · have hm2 : decide (p ∈ sortZ A.tr.leavesR) = false := by simpa using fun q => hm (((sortZ_perm _).mem_iff).1 q)
        rw [hm2]
        refine Eng.nc_cond (b := false) rfl (fun hc => ?_) (fun hc => ?_)
        · cases hc
        refine nc ?_
        refine nc_weak (e' := [(1, .int .i64 p), (6, A.ptr)]) ⟨rfl, rfl, trivial⟩ ?_
        refine Eng.nc_seq ?_
        refine nc ?_
        refine own_alloc (z := .pointer none) H (by kernel_rfl) [.pointer none] rfl fun cp w5 H => ?_
        refine Eng.nc_seq ?_
        refine nc ?_
        have hE : Calls Tryz.prog 85 #[A.ptr, doJ cp] w5 fun e w' => ∃ u, e = .returned u ∧ ∃ c3 c4, Eng.Own (fun _ => False) w w' (joinL cp c3 c4 (walkA A id none) (A.items ++ [])) := by
          refine enterN (args := [A.ptr, doJ cp]) Tryz.func85 rfl Tryz.ntmps85 rfl rfl ?_
          refine Eng.nc_seq ?_
          refine nc ?_
          refine own_box H [doJ cp] rfl fun c3 w2 H => ?_
          refine Eng.nc_seq ?_
          refine nc ?_
          refine own_alloc (z := .nilFunc) H (by kernel_rfl) [.nilFunc] rfl fun c4 w3 H => ?_
          refine Eng.nc_seq ?_
          refine nc ?_
          refine own_store (t := 169) H 0 rfl (by kernel_rfl) (j := 0) rfl rfl fun w4 H => ?_
          refine nc ?_
          have H0 : Eng.Own (fun _ => False) w w4 (joinL cp c3 c4 none (A.items ++ [])) :=
            order_own (A := [.blk c4 [walkV c3 c4] 169, .blk c3 [doJ cp] 133, .blk cp [.pointer none] 89]) H [2, 1, 0] (by show (List.range 3).Perm _; decide)
          refine own_load H0 2 rfl (by kernel_rfl) (j := 0) rfl ?_
          refine callV_rule (by kernel_rfl) (walkJ_own (R := A.items ++ []) A id (fun it h => List.mem_append_left _ h) (by omega) (fun y h => by cases h) H0) fun u w5 H => ?_
          exact ret_inA [] ⟨_, rfl, c3, c4, H⟩
        refine call_rule (by kernel_rfl) hE fun u w5 ⟨c3, c4, H⟩ => ?_
        obtain ⟨⟨B, g⟩, hy⟩ := walkA_some A id none
        have hgood := walkA_good (A0 := A) A id none ⟨rfl, [], [], fun Q hQ => ⟨hQ, by simp⟩⟩ (fun y h => by cases h) _ hy
        have hrel := walk_rel A id id none none (fun Q => rfl) trivial
        rw [hy] at hrel H
        obtain ⟨hg0, X, Y, hg⟩ := hgood
        have hAi : A.items = X ++ B.items ++ Y := by
          have := (hg B rfl).2
          rw [← this]
          exact congrArg TrA.items hg0.symm
        -- the place, and what is new
        obtain ⟨cs, rest, hB, htop⟩ : ∃ cs rest, B.items = .blk B.root cs 135 :: rest ∧ cs.length = 3 ∧ (∀ b', ∃ B' : TrA, B'.root = b' ∧ B'.tr = B.tr ∧ B'.items = .blk b' cs 135 :: rest) ∧ (∀ v ∈ cs, oneV v = true) := by
          cases B with
          | leaf b q => exact ⟨_, [], rfl, rfl, fun b' => ⟨.leaf b' q, rfl, rfl, rfl⟩, by intro v hv; simp at hv; rcases hv with rfl | rfl | rfl <;> rfl⟩
          | two b l r => exact ⟨_, _, rfl, rfl, fun b' => ⟨.two b' l r, rfl, rfl, rfl⟩, by intro v hv; simp at hv; rcases hv with rfl | rfl | rfl <;> rfl⟩
        obtain ⟨hcl, hcopy, hone⟩ := htop
        replace H : Eng.Own (fun _ => False) w w5 (.blk cp [B.ptr] 89 :: .blk B.root cs 135 :: (X ++ rest ++ Y)) := by
          have H1 : Eng.Own (fun _ => False) w w5 (.blk cp [B.ptr] 89 :: .blk c3 [doJ cp] 133 :: .blk c4 [walkV c3 c4] 169 :: (A.items ++ [])) := H
          rw [List.append_nil, hAi, hB] at H1
          have H2 := H1.less (List.Sublist.cons_cons _ (List.Sublist.cons _ (List.Sublist.cons _ (List.Sublist.refl _))))
          refine H2.perm (List.Perm.cons _ ?_)
          simp only [List.append_assoc, List.cons_append]
          exact List.perm_middle
        obtain ⟨a1, a2, a3, hcs⟩ : ∃ a1 a2 a3, cs = [a1, a2, a3] := by
          match cs, hcl with
          | [a, b, c], _ => exact ⟨a, b, c, rfl⟩
        subst hcs
        have ho1 := hone a1 (by simp)
        have ho2 := hone a2 (by simp)
        have ho3 := hone a3 (by simp)
        refine Eng.nc_seq ?_
        refine nc ?_
        refine own_load H 0 rfl (by kernel_rfl) (j := 0) (v := .pointer (some ⟨B.root, 0, none⟩)) rfl ?_
        refine own_loadA (m := 3) H 1 rfl (by kernel_rfl) (by kernel_rfl) [a1, a2, a3] rfl rfl ?_
        refine own_alloc (z := .agg #[.int .i64 0, .pointer none, .pointer none]) H (by kernel_rfl) [.int .i64 0, .pointer none, .pointer none] rfl fun b' w6 H => ?_
        refine own_storeB (m := 3) H 0 rfl (by kernel_rfl) [a1, a2, a3] rfl rfl (by simp [allOne, ho1, ho2, ho3]) rfl fun w7 H => ?_
        replace H : Eng.Own (fun _ => False) w w7 (.blk b' [a1, a2, a3] 135 :: .blk cp [B.ptr] 89 :: .blk B.root [a1, a2, a3] 135 :: (X ++ rest ++ Y)) := H
        refine Eng.nc_seq ?_
        refine nc ?_
        refine own_load H 1 rfl (by kernel_rfl) (j := 0) (v := .pointer (some ⟨B.root, 0, none⟩)) rfl ?_
        refine own_box H [.int .i64 p, .pointer none, .pointer none] rfl fun bl w8 H => ?_
        refine own_storeB (m := 3) H 3 rfl (by kernel_rfl) [.int .i64 0, .pointer (some ⟨b', 0, none⟩), .pointer (some ⟨bl, 0, none⟩)] rfl rfl rfl rfl fun w9 H => ?_
        replace H : Eng.Own (fun _ => False) w w9 (.blk bl [.int .i64 p, .pointer none, .pointer none] 135 :: .blk b' [a1, a2, a3] 135 :: .blk cp [B.ptr] 89 :: .blk B.root [.int .i64 0, .pointer (some ⟨b', 0, none⟩), .pointer (some ⟨bl, 0, none⟩)] 135 :: (X ++ rest ++ Y)) := H
        -- the tree that stands there now
        obtain ⟨B', hr', ht', hi'⟩ := hcopy b'
        obtain ⟨e1, e2⟩ := hg (.two B.root B' (.leaf bl p)) rfl
        have htr : (g (.two B.root B' (.leaf bl p))).tr = joinT A.tr p := by
          unfold joinT
          cases hw : walkT A.tr id none with
          | none => rw [hw] at hrel; exact hrel.elim
          | some y =>
            rw [hw] at hrel
            show _ = y.2 (.two y.1 (.leaf p))
            rw [hrel.2]
            exact congrArg y.2 (by show Tr.two B'.tr (.leaf p) = _; rw [ht', hrel.1])
        replace H : Eng.Own (fun _ => False) w w9 ((g (.two B.root B' (.leaf bl p))).items) := by
          have H2 := H.less (List.Sublist.cons_cons _ (List.Sublist.cons_cons _ (List.Sublist.cons _ (List.Sublist.refl _))))
          rw [e2]
          refine H2.perm ?_
          have hp' : B'.ptr = .pointer (some ⟨b', 0, none⟩) := by unfold TrA.ptr; rw [hr']
          have : (TrA.two B.root B' (.leaf bl p)).items = .blk B.root [.int .i64 0, .pointer (some ⟨b', 0, none⟩), .pointer (some ⟨bl, 0, none⟩)] 135 :: ((.blk b' [a1, a2, a3] 135 :: rest) ++ [.blk bl [.int .i64 p, .pointer none, .pointer none] 135]) := by
            show Eng.Item.blk B.root [.int .i64 0, B'.ptr, (TrA.leaf bl p).ptr] 135 :: (B'.items ++ _) = _
            rw [hp', hi']; rfl
          rw [this]
          exact perm3 _ _ _ X rest Y
        have hjk := joinT_ok hok hp
        have hlen : (joinT A.tr p).text.length ≤ 1000000 := by
          have h1 := text_leaves3 (joinT A.tr p)
          have h2 := hjk.2.length_eq
          rw [List.length_cons] at h2
          omega
        refine Eng.nc_seq ?_
        refine nc ?_
        have hroot : A.ptr = (g (.two B.root B' (.leaf bl p))).ptr := by unfold TrA.ptr; rw [e1]
        rw [hroot]
        refine call_rule (by kernel_rfl) (text_own (g (.two B.root B' (.leaf bl p))) (fun it h => h) (by rw [htr]; exact hjk.1) (by rw [htr]; exact hlen) H) fun u w10 ⟨L', ⟨hu, hL⟩, H⟩ => ?_
        subst hu hL
        refine nc ?_
        rw [htr]
        exact ret_inA [_, .int .i64 0] ⟨_, rfl, by rw [joinM_yes ho ⟨hp, hm⟩]; rfl, H.frame⟩
    · rw [if_neg hp, if_neg hp]
      refine Eng.nc_seq ?_
      refine nc ?_
      refine eqlNil_rule (p := some ⟨A.root, 0, none⟩) (by kernel_rfl) ?_
      refine call_skip (.slice none 0 0) rfl ?_
      refine call_skip (.bool false) rfl ?_
      refine Eng.nc_cond (b := true) rfl (fun hc => ?_) (fun hc => ?_)
      · refine Eng.nc_seq ?_
        refine nc ?_
        refine nc ?_
        exact ret_inA [.string (bs []), .int .i64 1] ⟨_, rfl, by rw [joinM_no ho (fun q => hp q.1)]; rfl, H.frame⟩
      · cases hc
end Go.Proofs.YtfapphlhkfddoaaGreatDoor.G
/- One leaves a tree. -/
namespace Go.Proofs.YtfapphlhkfddoaaGreatDoor.G
open Go.RowKit Go.Eng Go.Proofs Go.Proofs.YtfapphlhkfddoaaGreatDoor.Cut
set_option linter.unusedVariables false
set_option maxRecDepth 20000
variable {ok : Nat → Prop} {w0 w : World} {L R : List Eng.Item}

/-- The number that stands in a node. -/
def topT : Tr → Int
  | .leaf q => q
  | .two _ _ => 0
def rootAt (b : Nat) : TrA → TrA
  | .leaf _ p => .leaf b p
  | .two _ l r => .two b l r
theorem TrA.shape (A : TrA) : ∃ c1 c2 rest, A.top = .blk A.root [.int .i64 (topT A.tr), c1, c2] 135 ∧ A.items = .blk A.root [.int .i64 (topT A.tr), c1, c2] 135 :: rest ∧ (∀ b, (rootAt b A).items = .blk b [.int .i64 (topT A.tr), c1, c2] 135 :: rest) ∧ oneV c1 = true ∧ oneV c2 = true := by
  cases A with
  | leaf b q => exact ⟨_, _, [], rfl, rfl, fun b => rfl, rfl, rfl⟩
  | two b l r => exact ⟨_, _, l.items ++ r.items, rfl, rfl, fun b => rfl, rfl, rfl⟩
/-! Without memory. -/
end Go.Proofs.YtfapphlhkfddoaaGreatDoor.G
/- A piece of a row of the call's own is cleared. -/
set_option linter.unusedVariables false
namespace Go.Eng
open Go.RowKit
set_option linter.unusedSectionVars false
variable [Inhabited Keep] [Inhabited Hard]

section
variable {P : Program} {w w0 : World} {K : Value → World → Prop} {g : Bool} {ok : Nat → Prop} {L : List Item}
end
end Go.Eng
/- Two trees are merged. -/
namespace Go.Proofs.YtfapphlhkfddoaaGreatDoor.G
open Go.RowKit Go.Eng Go.Proofs Go.Proofs.YtfapphlhkfddoaaGreatDoor.Cut
set_option linter.unusedVariables false
set_option maxRecDepth 20000
variable {ok : Nat → Prop} {w0 w : World} {L R : List Eng.Item}

/-! The copy of a row, and what is struck out of it. -/
/-! Which of two trees stands ahead. -/
end Go.Proofs.YtfapphlhkfddoaaGreatDoor.G
/- Contracts of trees that were walked by hand, in the printed texts' words. -/
namespace Go.Proofs.YtfapphlhkfddoaaGreatDoor.G
open Go.RowKit Go.Eng Go.Proofs Go.Proofs.YtfapphlhkfddoaaGreatDoor.Cut
set_option linter.unusedVariables false
variable {ok : Nat → Prop} {w : World}

def leafM (p : Int) : List UInt8 × Int := if 1 ≤ p ∧ p ≤ 8 then ((Tr.leaf p).text, 0) else ([], 1)
def tree_Leaf.f (x0 : Int) : Option (List UInt8 × Int) := some (leafM x0)
theorem tree_Leaf_ok {x0 : Int} {r : List UInt8 × Int} (h : tree_Leaf.f x0 = some r) : Calls Tryz.prog 44 #[.int .i64 x0] w fun e w' => ∃ v, e = .returned v ∧ (v = .tuple #[.string (bs r.1), .int .i64 r.2] ∧ Bel w.heap.size w w') := by
  cases h
  refine (treeLeaf_calls (p := x0)).mono fun e w' ⟨v, he, hv, hb⟩ => ⟨v, he, ?_, hb⟩
  rw [hv]
  unfold leafM
  by_cases hp : 1 ≤ x0 ∧ x0 ≤ 8
  · rw [if_pos hp, if_pos hp, if_pos hp]
  · rw [if_neg hp, if_neg hp, if_neg hp]
noncomputable def tree_Join.f (x0 : List UInt8) (x1 : Int) : Option (List UInt8 × Int) := givenM (x0.length ≤ 900000) (some (joinM x0 x1))
theorem tree_Join_ok {x0 : List UInt8} {x1 : Int} {r : List UInt8 × Int} (h : tree_Join.f x0 x1 = some r) : Calls Tryz.prog 45 #[.string (bs x0), .int .i64 x1] w fun e w' => ∃ v, e = .returned v ∧ (v = .tuple #[.string (bs r.1), .int .i64 r.2] ∧ Bel w.heap.size w w') := by
  obtain ⟨hl, h⟩ := givenS h
  cases h
  exact treeJoin_calls hl
end Go.Proofs.YtfapphlhkfddoaaGreatDoor.G
/- Walks, printed by a program of this proof's own. -/
namespace Go.Proofs.YtfapphlhkfddoaaGreatDoor.G
open Go.RowKit Go.Eng Go.Proofs
set_option linter.unusedVariables false
set_option maxRecDepth 20000
/-! gemot/term.of -/
noncomputable def term_of.b1 (x1 : List (List UInt8)) (v102 : List UInt8) (v103 : Int) : Option (((List UInt8) × Int) ⊕ ((List UInt8) ⊕ ((List UInt8) × Int))) := cond (decide (v103 < (x1.length : Int))) ((idxL x1 v103).bind fun y151 => (term_Right.f y151).bind fun y157 => cond (!y157) (some (.inr (Sum.inr (([] : List UInt8), (1 : Int))))) (roomM 1 (v102.length + y151.length) (some (.inl ((v102 ++ y151), (IntKind.i64.wrap (v103 + (1 : Int)))))))) (some (.inr (Sum.inl v102)))
noncomputable def term_of.k2 (v84 : List UInt8) : Option ((List UInt8) × Int) := (term_whole.f v84).bind fun y166 => some (y166.1, y166.2)
noncomputable def term_of.f (x0 : List UInt8) (x1 : List (List UInt8)) : Option ((List UInt8) × Int) := (loopM (fun s147 : (List UInt8) × Int => term_of.b1 x1 s147.1 s147.2) (x0, (0 : Int))).bind (Sum.elim (fun (o145 : (List UInt8)) => term_of.k2 o145) (fun (o146 : (List UInt8) × Int) => some o146))
set_option maxHeartbeats 4000000 in
theorem term_of_ok {ok : Nat → Prop} {w : World} {u1 : Value} {x0 : List UInt8} {x1 : List (List UInt8)} {r : (List UInt8) × Int} (hu2 : slR tStr w ok u1 x1) (h : term_of.f x0 x1 = some r) :
    Calls Tryz.prog 98 #[.string (bs x0), u1] w fun e w' => ∃ v, e = .returned v ∧ (v = .tuple #[.string (bs r.1), .int .i64 r.2] ∧ Bel w.heap.size w w') := by
  have H : Eng.Own ok w w [] := Eng.Own.nil ok w
  obtain ⟨A3, c4, rfl, H⟩ := H.arg rfl hu2
  unfold term_of.f at h
  refine enterN (args := [.string (bs x0), .slice A3 x1.length c4]) Tryz.func98 rfl Tryz.ntmps98 rfl rfl ?_
  refine nc_seq ?_
  refine nc ?_
  refine nc_cut (fun e w85 => ∃ (v84 : List UInt8), term_of.k2 v84 = some r ∧ e = [(0, .string (bs v84))] ∧ Eng.Own ok w w85 []) ?_ ?_
  · skip
    refine nc_seq ?_
    refine nc ?_
    refine nc_block ?_
    obtain ⟨o137, hL138, hO139⟩ := bindS h
    obtain ⟨n140, hL138⟩ := loopS hL138
    refine nc ?_
    refine loop_ruleA (fun k e w144 => ∃ (v102 : List UInt8) (v103 : Int), iterM (fun s147 : (List UInt8) × Int => term_of.b1 x1 s147.1 s147.2) k (v102, v103) = some o137 ∧ e = [(0, .string (bs v102)), (8, .slice A3 x1.length c4), (9, .int .i64 (x1.length : Int)), (10, .int .i64 v103)] ∧ Eng.Own ok w w144 [.dat (dSl tStr (.slice A3 x1.length c4) x1)]) ⟨_, _, hL138, rfl, H.pickL [0] rfl⟩ ?_
    rintro k149 _ w148 ⟨v102, v103, hL138, rfl, H⟩
    obtain ⟨k143, rfl, q141, h, hq142⟩ := iterS hL138
    replace h : term_of.b1 x1 v102 v103 = some q141 := h
    unfold term_of.b1 at h
    refine nc_seq ?_
    refine nc ?_
    refine nc_seq ?_
    refine nc_cond rfl (fun hc150 => ?_) (fun hc150 => ?_)
    · replace h := condT hc150 h
      refine nc ?_
      refine nc_seq ?_
      refine nc_block ?_
      refine nc_seq ?_
      refine nc ?_
      obtain ⟨y151, hx152, h⟩ := bindS h
      obtain ⟨a153, cs154, rfl, hR155, H⟩ := H.elemI 0 rfl hx152
      obtain rfl : cs154 = [.string (bs y151)] := hR155
      refine idxA_rule (e := 28) 1 _ (by kernel_rfl) (by kernel_rfl) (idxL_some hx152).1 (idxL_some hx152).2.1 ?_
      refine own_loadD H 0 rfl 0 (by kernel_rfl) rfl ?_
      refine nc_seq ?_
      refine nc_seq ?_
      refine nc ?_
      obtain ⟨y157, hy158, h⟩ := bindS h
      refine call_rule (by kernel_rfl) (term_Right_ok (ok := fun _ => False) hy158) fun v160 w159 ⟨hv161, hb162⟩ => ?_
      subst hv161
      replace H := H.call hb162
      refine nc_cond rfl (fun hc163 => ?_) (fun hc163 => ?_)
      · replace h := condT hc163 h
        refine nc_seq ?_
        refine nc ?_
        refine nc ?_
        cases h
        replace hq142 : (Sum.inr (([] : List UInt8), (1 : Int))) = o137 := hq142
        subst hq142
        have h := hO139
        try dsimp only [Sum.elim_inl, Sum.elim_inr] at h
        replace h := Option.some.inj h
        subst h
        exact ret_inA [.string (bs ([] : List UInt8)), .int .i64 1] ⟨_, rfl, ⟨rfl, H.frame⟩⟩
      · replace h := condF hc163 h
        refine nc ?_
        refine nc ?_
        obtain ⟨hr164, h⟩ := roomS h
        refine catM_rule hr164 ?_
        refine nc ?_
        cases h
        exact again_inA ⟨_, _, hq142, rfl, H.pickL [1] rfl⟩
    · replace h := condF hc150 h
      refine nc ?_
      cases h
      replace hq142 : (Sum.inl v102) = o137 := hq142
      subst hq142
      have h := hO139
      try dsimp only [Sum.elim_inl, Sum.elim_inr] at h
      exact cut_inA ⟨_, h, rfl, H.pickL [] rfl⟩
  · rintro _ w165 ⟨v84, h, rfl, H⟩
    unfold term_of.k2 at h
    refine nc_seq ?_
    refine nc ?_
    obtain ⟨y166, hy167, h⟩ := bindS h
    refine call_rule (by kernel_rfl) (term_whole_ok (ok := fun _ => False) hy167) fun v169 w168 ⟨hv170, hb171⟩ => ?_
    subst hv170
    replace H := H.call hb171
    refine nc ?_
    replace h := Option.some.inj h
    subst h
    exact ret_inA [.string (bs y166.1), .int .i64 y166.2] ⟨_, rfl, ⟨rfl, H.frame⟩⟩
/-! gemot/term.Pair -/
noncomputable def term_Pair.f (x0 : List UInt8) (x1 : List UInt8) : Option ((List UInt8) × Int) := (term_of.f [112] ([x0, x1] : List (List UInt8))).bind fun y5 => some (y5.1, y5.2)
set_option maxHeartbeats 4000000 in
theorem term_Pair_ok {ok : Nat → Prop} {w : World} {x0 : List UInt8} {x1 : List UInt8} {r : (List UInt8) × Int} (h : term_Pair.f x0 x1 = some r) :
    Calls Tryz.prog 56 #[.string (bs x0), .string (bs x1)] w fun e w' => ∃ v, e = .returned v ∧ (v = .tuple #[.string (bs r.1), .int .i64 r.2] ∧ Bel w.heap.size w w') := by
  have H : Eng.Own ok w w [] := Eng.Own.nil ok w
  unfold term_Pair.f at h
  refine enterN (args := [.string (bs x0), .string (bs x1)]) Tryz.func56 rfl Tryz.ntmps56 rfl rfl ?_
  refine nc_seq ?_
  refine nc ?_
  refine nc_seq ?_
  refine nc ?_
  refine own_buildSlice (e := 28) (sz := 1) (z := .string ⟨#[]⟩) (cs := [.string (bs x0), .string (bs x1)]) H (by kernel_rfl) (by kernel_rfl) (by kernel_rfl) rfl rfl rfl rfl fun g2 w3 H => ?_
  replace H := H.blkSl (k := tStr) [x0, x1] 2 rfl rfl (by decide) ⟨_, _, rfl, rfl, ⟨_, _, rfl, rfl, rfl⟩⟩
  obtain ⟨y5, hy6, h⟩ := bindS h
  refine call_rule (by kernel_rfl) (term_of_ok (H.dat 0 rfl) hy6) fun v8 w7 ⟨hv9, hb10⟩ => ?_
  subst hv9
  replace H := H.call hb10
  refine nc ?_
  replace h := Option.some.inj h
  subst h
  exact ret_inA [.string (bs y5.1), .int .i64 y5.2] ⟨_, rfl, ⟨rfl, H.frame⟩⟩
/-! gemot/term.Hash -/
noncomputable def term_Hash.f (x0 : List UInt8) : Option ((List UInt8) × Int) := (term_of.f [104] ([x0] : List (List UInt8))).bind fun y5 => some (y5.1, y5.2)
set_option maxHeartbeats 4000000 in
theorem term_Hash_ok {ok : Nat → Prop} {w : World} {x0 : List UInt8} {r : (List UInt8) × Int} (h : term_Hash.f x0 = some r) :
    Calls Tryz.prog 57 #[.string (bs x0)] w fun e w' => ∃ v, e = .returned v ∧ (v = .tuple #[.string (bs r.1), .int .i64 r.2] ∧ Bel w.heap.size w w') := by
  have H : Eng.Own ok w w [] := Eng.Own.nil ok w
  unfold term_Hash.f at h
  refine enterN (args := [.string (bs x0)]) Tryz.func57 rfl Tryz.ntmps57 rfl rfl ?_
  refine nc_seq ?_
  refine nc ?_
  refine nc_seq ?_
  refine nc ?_
  refine own_buildSlice (e := 28) (sz := 1) (z := .string ⟨#[]⟩) (cs := [.string (bs x0)]) H (by kernel_rfl) (by kernel_rfl) (by kernel_rfl) rfl rfl rfl rfl fun g2 w3 H => ?_
  replace H := H.blkSl (k := tStr) [x0] 1 rfl rfl (by decide) ⟨_, _, rfl, rfl, rfl⟩
  obtain ⟨y5, hy6, h⟩ := bindS h
  refine call_rule (by kernel_rfl) (term_of_ok (H.dat 0 rfl) hy6) fun v8 w7 ⟨hv9, hb10⟩ => ?_
  subst hv9
  replace H := H.call hb10
  refine nc ?_
  replace h := Option.some.inj h
  subst h
  exact ret_inA [.string (bs y5.1), .int .i64 y5.2] ⟨_, rfl, ⟨rfl, H.frame⟩⟩
/-! gemot/view.Right -/
noncomputable def view_Right.k1 (v22 : Bool) : Option (Bool) := some v22
noncomputable def view_Right.f (x0 : D_api_View) : Option (Bool) := (view_Row.f x0.2).bind fun y25 => cond y25 ((view_Has.f x0.2 x0.1.2).bind fun y32 => view_Right.k1 (cond (cond (cond y25 y32 false) (decide (x0.1.1 ≥ (0 : Int))) false) (decide (x0.1.1 ≤ (2147483647 : Int))) false)) (view_Right.k1 (cond (cond (cond y25 false false) (decide ((0 : Int) ≥ (0 : Int))) false) (decide ((0 : Int) ≤ (2147483647 : Int))) false))
set_option maxHeartbeats 4000000 in
theorem view_Right_ok {ok : Nat → Prop} {w : World} {u1 : Value} {x0 : D_api_View} {r : Bool} (hu2 : slR (tInt .i64) w ok u1 x0.2) (h : view_Right.f x0 = some r) :
    Calls Tryz.prog 59 #[.agg #[.int .i64 x0.1.1, .int .i64 x0.1.2, u1]] w fun e w' => ∃ v, e = .returned v ∧ (v = .bool r ∧ Bel w.heap.size w w') := by
  have H : Eng.Own ok w w [] := Eng.Own.nil ok w
  obtain ⟨A3, c4, rfl, H⟩ := H.arg rfl hu2
  unfold view_Right.f at h
  refine enterN (args := [.agg #[.int .i64 x0.1.1, .int .i64 x0.1.2, .slice A3 x0.2.length c4]]) Tryz.func59 rfl Tryz.ntmps59 rfl rfl ?_
  refine nc_seq ?_
  refine nc ?_
  refine own_box H [.int .i64 x0.1.1, .int .i64 x0.1.2, .slice A3 x0.2.length c4] rfl fun g7 w8 H => ?_
  refine nc_cut (fun e w23 => ∃ (v22 : Bool), view_Right.k1 v22 = some r ∧ e = [(2, .bool v22)] ∧ Eng.Own ok w w23 []) ?_ ?_
  · skip
    refine nc ?_
    refine own_load H 0 rfl (by kernel_rfl) (j := 2) rfl ?_
    obtain ⟨y25, hy26, h⟩ := bindS h
    refine call_rule (by kernel_rfl) (view_Row_ok (H.dat 1 rfl) hy26) fun v28 w27 ⟨hv29, hb30⟩ => ?_
    subst hv29
    replace H := H.call hb30
    refine own_load H 0 rfl (by kernel_rfl) (j := 2) rfl ?_
    refine own_load H 0 rfl (by kernel_rfl) (j := 1) rfl ?_
    rcases Bool.eq_false_or_eq_true y25 with hg31 | hg31
    · replace h := condT hg31 h
      obtain ⟨y32, hy33, h⟩ := bindS h
      refine call_yes (gT1 hg31 rfl) (by kernel_rfl) (view_Has_ok (H.dat 1 rfl) hy33) fun v35 w34 ⟨hv36, hb37⟩ => ?_
      subst hv36
      replace H := H.call hb37
      refine own_load H 0 rfl (by kernel_rfl) (j := 0) rfl ?_
      refine own_load H 0 rfl (by kernel_rfl) (j := 0) rfl ?_
      exact cut_inA ⟨_, h, rfl, H.pickL [] rfl⟩
    · replace h := condF hg31 h
      refine call_skip (.bool false) (gF1 hg31) ?_
      refine skipLD (.int .i64 0) (gF1 (pickF hg31)) ?_
      refine skipLD (.int .i64 0) (gF1 (pickF (pickF hg31))) ?_
      exact cut_inA ⟨_, h, rfl, H.pickL [] rfl⟩
  · rintro _ w38 ⟨v22, h, rfl, H⟩
    unfold view_Right.k1 at h
    refine nc ?_
    replace h := Option.some.inj h
    subst h
    exact ret_inA [.bool v22] ⟨_, rfl, ⟨rfl, H.frame⟩⟩
/-! gemot/list.right -/
noncomputable def list_right.f (x0 : D_api_Id) : Option (Bool) := some (cond (cond (cond (decide (x0.1 ≥ (0 : Int))) (decide (x0.1 ≤ (2147483647 : Int))) false) (decide (x0.2 ≥ (0 : Int))) false) (decide (x0.2 ≤ (8 : Int))) false)
set_option maxHeartbeats 4000000 in
theorem list_right_ok {ok : Nat → Prop} {w : World} {x0 : D_api_Id} {r : Bool} (h : list_right.f x0 = some r) :
    Calls Tryz.prog 173 #[.agg #[.int .i64 x0.1, .int .i64 x0.2]] w fun e w' => ∃ v, e = .returned v ∧ (v = .bool r ∧ Bel w.heap.size w w') := by
  have H : Eng.Own ok w w [] := Eng.Own.nil ok w
  unfold list_right.f at h
  refine enterN (args := [.agg #[.int .i64 x0.1, .int .i64 x0.2]]) Tryz.func173 rfl Tryz.ntmps173 rfl rfl ?_
  refine nc_seq ?_
  refine nc ?_
  refine own_box H [.int .i64 x0.1, .int .i64 x0.2] rfl fun g2 w3 H => ?_
  refine nc_seq ?_
  refine nc ?_
  refine own_load H 0 rfl (by kernel_rfl) (j := 0) rfl ?_
  refine own_load H 0 rfl (by kernel_rfl) (j := 0) rfl ?_
  refine own_load H 0 rfl (by kernel_rfl) (j := 1) rfl ?_
  refine own_load H 0 rfl (by kernel_rfl) (j := 1) rfl ?_
  refine nc ?_
  replace h := Option.some.inj h
  subst h
  exact ret_inA [.bool (cond (cond (cond (decide (x0.1 ≥ (0 : Int))) (decide (x0.1 ≤ (2147483647 : Int))) false) (decide (x0.2 ≥ (0 : Int))) false) (decide (x0.2 ≤ (8 : Int))) false)] ⟨_, rfl, ⟨rfl, H.frame⟩⟩
/-! gemot/list.Right -/
noncomputable def list_Right.b1 (x0 : D_list_Message) (v73 : Int) (v74 : Int) : Option ((Int × Int) ⊕ (Unit ⊕ Bool)) := cond (decide (v74 < (x0.2.2.2.2.1.length : Int))) ((idxL x0.2.2.2.2.1 v74).bind fun y107 => cond (cond (decide (y107 ≤ v73)) true (decide (y107 > (8 : Int)))) (some (.inr (Sum.inr false))) (some (.inl (y107, (IntKind.i64.wrap (v74 + (1 : Int))))))) (some (.inr (Sum.inl ())))
noncomputable def list_Right.k2 (v135 : Bool) : Option (Bool) := some v135
noncomputable def list_Right.k3 (x0 : D_list_Message) : Option (Bool) := (list_Put.f x0.2.2.2.2.2).bind fun y115 => cond (y115.2 == (0 : Int)) ((list_right.f (x0.2.1.1, x0.2.1.2)).bind fun y139 => cond y139 ((list_right.f (x0.2.2.1.1, x0.2.2.1.2)).bind fun y146 => list_Right.k2 (cond (cond (cond (cond (cond (cond (y115.2 == (0 : Int)) y139 false) y146 false) (decide (x0.1 ≥ (0 : Int))) false) (decide (x0.1 ≤ (20 : Int))) false) (decide (x0.2.2.2.1 ≥ (0 : Int))) false) (decide (x0.2.2.2.1 ≤ (2147483647 : Int))) false)) (list_Right.k2 (cond (cond (cond (cond (cond (cond (y115.2 == (0 : Int)) y139 false) false false) (decide ((0 : Int) ≥ (0 : Int))) false) (decide ((0 : Int) ≤ (20 : Int))) false) (decide ((0 : Int) ≥ (0 : Int))) false) (decide ((0 : Int) ≤ (2147483647 : Int))) false))) (list_Right.k2 (cond (cond (cond (cond (cond (cond (y115.2 == (0 : Int)) false false) false false) (decide ((0 : Int) ≥ (0 : Int))) false) (decide ((0 : Int) ≤ (20 : Int))) false) (decide ((0 : Int) ≥ (0 : Int))) false) (decide ((0 : Int) ≤ (2147483647 : Int))) false))
noncomputable def list_Right.f (x0 : D_list_Message) : Option (Bool) := (loopM (fun s103 : Int × Int => list_Right.b1 x0 s103.1 s103.2) ((0 : Int), (0 : Int))).bind (Sum.elim (fun (o101 : Unit) => list_Right.k3 x0) (fun (o102 : Bool) => some o102))
set_option maxHeartbeats 4000000 in
theorem list_Right_ok {ok : Nat → Prop} {w : World} {u1 u6 : Value} {x0 : D_list_Message} {r : Bool} (hu2 : slR (tInt .i64) w ok u1 x0.2.2.2.2.1) (hu7 : slR tStr w ok u6 x0.2.2.2.2.2) (h : list_Right.f x0 = some r) :
    Calls Tryz.prog 125 #[.agg #[.int .i64 x0.1, .int .i64 x0.2.1.1, .int .i64 x0.2.1.2, .int .i64 x0.2.2.1.1, .int .i64 x0.2.2.1.2, .int .i64 x0.2.2.2.1, u1, u6]] w fun e w' => ∃ v, e = .returned v ∧ (v = .bool r ∧ Bel w.heap.size w w') := by
  have H : Eng.Own ok w w [] := Eng.Own.nil ok w
  obtain ⟨A3, c4, rfl, H⟩ := H.arg rfl hu2
  obtain ⟨A8, c9, rfl, H⟩ := H.arg rfl hu7
  unfold list_Right.f at h
  refine enterN (args := [.agg #[.int .i64 x0.1, .int .i64 x0.2.1.1, .int .i64 x0.2.1.2, .int .i64 x0.2.2.1.1, .int .i64 x0.2.2.1.2, .int .i64 x0.2.2.2.1, .slice A3 x0.2.2.2.2.1.length c4, .slice A8 x0.2.2.2.2.2.length c9]]) Tryz.func125 rfl Tryz.ntmps125 rfl rfl ?_
  refine nc_seq ?_
  refine nc ?_
  refine own_box H [.int .i64 x0.1, .int .i64 x0.2.1.1, .int .i64 x0.2.1.2, .int .i64 x0.2.2.1.1, .int .i64 x0.2.2.1.2, .int .i64 x0.2.2.2.1, .slice A3 x0.2.2.2.2.1.length c4, .slice A8 x0.2.2.2.2.2.length c9] rfl fun g12 w13 H => ?_
  refine nc_seq ?_
  refine nc ?_
  refine nc_cut (fun e w63 => list_Right.k3 x0 = some r ∧ e = [(1, .pointer (some ⟨g12, 0, none⟩))] ∧ Eng.Own ok w w63 [.blk g12 [.int .i64 x0.1, .int .i64 x0.2.1.1, .int .i64 x0.2.1.2, .int .i64 x0.2.2.1.1, .int .i64 x0.2.2.1.2, .int .i64 x0.2.2.2.1, .slice A3 x0.2.2.2.2.1.length c4, .slice A8 x0.2.2.2.2.2.length c9] 58, .dat (dSl (tInt .i64) (.slice A3 x0.2.2.2.2.1.length c4) x0.2.2.2.2.1), .dat (dSl tStr (.slice A8 x0.2.2.2.2.2.length c9) x0.2.2.2.2.2)]) ?_ ?_
  · skip
    refine nc_seq ?_
    refine nc ?_
    refine own_load H 0 rfl (by kernel_rfl) (j := 6) rfl ?_
    refine nc_block ?_
    obtain ⟨o93, hL94, hO95⟩ := bindS h
    obtain ⟨n96, hL94⟩ := loopS hL94
    refine nc ?_
    refine loop_ruleA (fun k e w100 => ∃ (v73 : Int) (v74 : Int), iterM (fun s103 : Int × Int => list_Right.b1 x0 s103.1 s103.2) k (v73, v74) = some o93 ∧ e = [(1, .pointer (some ⟨g12, 0, none⟩)), (3, .int .i64 v73), (9, .slice A3 x0.2.2.2.2.1.length c4), (10, .int .i64 (x0.2.2.2.2.1.length : Int)), (11, .int .i64 v74)] ∧ Eng.Own ok w w100 [.blk g12 [.int .i64 x0.1, .int .i64 x0.2.1.1, .int .i64 x0.2.1.2, .int .i64 x0.2.2.1.1, .int .i64 x0.2.2.1.2, .int .i64 x0.2.2.2.1, .slice A3 x0.2.2.2.2.1.length c4, .slice A8 x0.2.2.2.2.2.length c9] 58, .dat (dSl (tInt .i64) (.slice A3 x0.2.2.2.2.1.length c4) x0.2.2.2.2.1), .dat (dSl tStr (.slice A8 x0.2.2.2.2.2.length c9) x0.2.2.2.2.2)]) ⟨_, _, hL94, rfl, H.pickL [0, 2, 1] rfl⟩ ?_
    rintro k105 _ w104 ⟨v73, v74, hL94, rfl, H⟩
    obtain ⟨k99, rfl, q97, h, hq98⟩ := iterS hL94
    replace h : list_Right.b1 x0 v73 v74 = some q97 := h
    unfold list_Right.b1 at h
    refine nc_seq ?_
    refine nc ?_
    refine nc_seq ?_
    refine nc_cond rfl (fun hc106 => ?_) (fun hc106 => ?_)
    · replace h := condT hc106 h
      refine nc ?_
      refine nc_seq ?_
      refine nc_block ?_
      refine nc_seq ?_
      refine nc ?_
      obtain ⟨y107, hx108, h⟩ := bindS h
      obtain ⟨a109, cs110, rfl, hR111, H⟩ := H.elemI 1 rfl hx108
      obtain rfl : cs110 = [.int .i64 y107] := hR111
      refine idxA_rule (e := 3) 1 _ (by kernel_rfl) (by kernel_rfl) (idxL_some hx108).1 (idxL_some hx108).2.1 ?_
      refine own_loadD H 0 rfl 0 (by kernel_rfl) rfl ?_
      refine nc_seq ?_
      refine nc_seq ?_
      refine nc ?_
      refine nc_cond rfl (fun hc113 => ?_) (fun hc113 => ?_)
      · replace h := condT hc113 h
        refine nc_seq ?_
        refine nc ?_
        refine nc ?_
        cases h
        replace hq98 : (Sum.inr false) = o93 := hq98
        subst hq98
        have h := hO95
        try dsimp only [Sum.elim_inl, Sum.elim_inr] at h
        replace h := Option.some.inj h
        subst h
        exact ret_inA [.bool false] ⟨_, rfl, ⟨rfl, H.frame⟩⟩
      · replace h := condF hc113 h
        refine nc ?_
        refine nc ?_
        refine nc ?_
        cases h
        exact again_inA ⟨_, _, hq98, rfl, H.pickL [1, 2, 3] rfl⟩
    · replace h := condF hc106 h
      refine nc ?_
      cases h
      replace hq98 : (Sum.inl ()) = o93 := hq98
      subst hq98
      have h := hO95
      try dsimp only [Sum.elim_inl, Sum.elim_inr] at h
      exact cut_inA ⟨h, rfl, H.pickL [0, 1, 2] rfl⟩
  · rintro _ w114 ⟨h, rfl, H⟩
    unfold list_Right.k3 at h
    refine nc_seq ?_
    refine nc ?_
    refine own_load H 0 rfl (by kernel_rfl) (j := 7) rfl ?_
    obtain ⟨y115, hy116, h⟩ := bindS h
    refine call_rule (by kernel_rfl) (list_Put_ok (H.dat 2 rfl) hy116) fun v118 w117 ⟨hv119, hb120⟩ => ?_
    subst hv119
    replace H := H.call hb120
    refine nc_cut (fun e w136 => ∃ (v135 : Bool), list_Right.k2 v135 = some r ∧ e = [(2, .bool v135)] ∧ Eng.Own ok w w136 []) ?_ ?_
    · skip
      refine nc ?_
      refine own_loadA (m := 2) H 0 rfl (by kernel_rfl) (by kernel_rfl) [.int .i64 x0.2.1.1, .int .i64 x0.2.1.2] rfl rfl ?_
      rcases Bool.eq_false_or_eq_true (y115.2 == (0 : Int)) with hg138 | hg138
      · replace h := condT hg138 h
        obtain ⟨y139, hy140, h⟩ := bindS h
        refine call_yes (gT1 hg138 rfl) (by kernel_rfl) (list_right_ok (ok := fun _ => False) (x0 := (x0.2.1.1, x0.2.1.2)) hy140) fun v142 w141 ⟨hv143, hb144⟩ => ?_
        subst hv143
        replace H := H.call hb144
        refine own_loadA (m := 2) H 0 rfl (by kernel_rfl) (by kernel_rfl) [.int .i64 x0.2.2.1.1, .int .i64 x0.2.2.1.2] rfl rfl ?_
        rcases Bool.eq_false_or_eq_true y139 with hg145 | hg145
        · replace h := condT hg145 h
          obtain ⟨y146, hy147, h⟩ := bindS h
          refine call_yes (gT1 ((pickT hg138).trans hg145) rfl) (by kernel_rfl) (list_right_ok (ok := fun _ => False) (x0 := (x0.2.2.1.1, x0.2.2.1.2)) hy147) fun v149 w148 ⟨hv150, hb151⟩ => ?_
          subst hv150
          replace H := H.call hb151
          refine own_load H 0 rfl (by kernel_rfl) (j := 0) rfl ?_
          refine own_load H 0 rfl (by kernel_rfl) (j := 0) rfl ?_
          refine own_load H 0 rfl (by kernel_rfl) (j := 5) rfl ?_
          refine own_load H 0 rfl (by kernel_rfl) (j := 5) rfl ?_
          exact cut_inA ⟨_, h, rfl, H.pickL [] rfl⟩
        · replace h := condF hg145 h
          refine call_skip (.bool false) (gF1 ((pickT hg138).trans hg145)) ?_
          refine skipLD (.int .i64 0) (gF1 (pickF ((pickT hg138).trans hg145))) ?_
          refine skipLD (.int .i64 0) (gF1 (pickF (pickF ((pickT hg138).trans hg145)))) ?_
          refine skipLD (.int .i64 0) (gF1 (pickF (pickF (pickF ((pickT hg138).trans hg145))))) ?_
          refine skipLD (.int .i64 0) (gF1 (pickF (pickF (pickF (pickF ((pickT hg138).trans hg145)))))) ?_
          exact cut_inA ⟨_, h, rfl, H.pickL [] rfl⟩
      · replace h := condF hg138 h
        refine call_skip (.bool false) (gF1 hg138) ?_
        refine skipLD (.agg #[.int .i64 0, .int .i64 0]) (gF1 (pickF hg138)) ?_
        refine call_skip (.bool false) (gF1 (pickF hg138)) ?_
        refine skipLD (.int .i64 0) (gF1 (pickF (pickF hg138))) ?_
        refine skipLD (.int .i64 0) (gF1 (pickF (pickF (pickF hg138)))) ?_
        refine skipLD (.int .i64 0) (gF1 (pickF (pickF (pickF (pickF hg138))))) ?_
        refine skipLD (.int .i64 0) (gF1 (pickF (pickF (pickF (pickF (pickF hg138)))))) ?_
        exact cut_inA ⟨_, h, rfl, H.pickL [] rfl⟩
    · rintro _ w152 ⟨v135, h, rfl, H⟩
      unfold list_Right.k2 at h
      refine nc ?_
      replace h := Option.some.inj h
      subst h
      exact ret_inA [.bool v135] ⟨_, rfl, ⟨rfl, H.frame⟩⟩
/-! gemot/list.Pack -/
noncomputable def list_Pack.b1 (x0 : D_list_Message) (v189 : List (List UInt8)) (v193 : Int) : Option (((List (List UInt8)) × Int) ⊕ (List (List UInt8))) := cond (decide (v193 < ((([x0.1, x0.2.1.1, x0.2.1.2, x0.2.2.1.1, x0.2.2.1.2, x0.2.2.2.1, (x0.2.2.2.2.1.length : Int)] : List Int) ++ x0.2.2.2.2.1).length : Int))) ((idxL (([x0.1, x0.2.1.1, x0.2.1.2, x0.2.2.1.1, x0.2.2.1.2, x0.2.2.2.1, (x0.2.2.2.2.1.length : Int)] : List Int) ++ x0.2.2.2.2.1) v193).bind fun y265 => (term_Number.f (IntKind.u64.wrap y265)).bind fun y271 => roomM 16 (v189.length + 1) (some (.inl ((v189 ++ [y271]), (IntKind.i64.wrap (v193 + (1 : Int))))))) (some (.inr v189))
noncomputable def list_Pack.k2 (x0 : D_list_Message) (v158 : List (List UInt8)) : Option ((List UInt8) × Int) := roomM 16 (v158.length + x0.2.2.2.2.2.length) ((list_Put.f (v158 ++ x0.2.2.2.2.2)).bind fun y296 => some (y296.1, y296.2))
noncomputable def list_Pack.f (x0 : D_list_Message) : Option ((List UInt8) × Int) := (list_Right.f (x0.1, (x0.2.1.1, x0.2.1.2), (x0.2.2.1.1, x0.2.2.1.2), x0.2.2.2.1, x0.2.2.2.2.1, x0.2.2.2.2.2)).bind fun y14 => cond (!y14) (some (([] : List UInt8), (1 : Int))) (roomM 8 (([x0.1, x0.2.1.1, x0.2.1.2, x0.2.2.1.1, x0.2.2.1.2, x0.2.2.2.1, (x0.2.2.2.2.1.length : Int)] : List Int).length + x0.2.2.2.2.1.length) ((loopM (fun s261 : (List (List UInt8)) × Int => list_Pack.b1 x0 s261.1 s261.2) (([] : List (List UInt8)), (0 : Int))).bind (fun (o259 : (List (List UInt8))) => list_Pack.k2 x0 o259)))
set_option maxHeartbeats 4000000 in
theorem list_Pack_ok {ok : Nat → Prop} {w : World} {u1 u6 : Value} {x0 : D_list_Message} {r : (List UInt8) × Int} (hu2 : slR (tInt .i64) w ok u1 x0.2.2.2.2.1) (hu7 : slR tStr w ok u6 x0.2.2.2.2.2) (h : list_Pack.f x0 = some r) :
    Calls Tryz.prog 97 #[.agg #[.int .i64 x0.1, .int .i64 x0.2.1.1, .int .i64 x0.2.1.2, .int .i64 x0.2.2.1.1, .int .i64 x0.2.2.1.2, .int .i64 x0.2.2.2.1, u1, u6]] w fun e w' => ∃ v, e = .returned v ∧ (v = .tuple #[.string (bs r.1), .int .i64 r.2] ∧ Bel w.heap.size w w') := by
  have H : Eng.Own ok w w [] := Eng.Own.nil ok w
  obtain ⟨A3, c4, rfl, H⟩ := H.arg rfl hu2
  obtain ⟨A8, c9, rfl, H⟩ := H.arg rfl hu7
  unfold list_Pack.f at h
  refine enterN (args := [.agg #[.int .i64 x0.1, .int .i64 x0.2.1.1, .int .i64 x0.2.1.2, .int .i64 x0.2.2.1.1, .int .i64 x0.2.2.1.2, .int .i64 x0.2.2.2.1, .slice A3 x0.2.2.2.2.1.length c4, .slice A8 x0.2.2.2.2.2.length c9]]) Tryz.func97 rfl Tryz.ntmps97 rfl rfl ?_
  refine nc_seq ?_
  refine nc ?_
  refine own_box H [.int .i64 x0.1, .int .i64 x0.2.1.1, .int .i64 x0.2.1.2, .int .i64 x0.2.2.1.1, .int .i64 x0.2.2.1.2, .int .i64 x0.2.2.2.1, .slice A3 x0.2.2.2.2.1.length c4, .slice A8 x0.2.2.2.2.2.length c9] rfl fun g12 w13 H => ?_
  refine nc_seq ?_
  refine nc_seq ?_
  refine nc ?_
  refine own_loadA (m := 8) H 0 rfl (by kernel_rfl) (by kernel_rfl) [.int .i64 x0.1, .int .i64 x0.2.1.1, .int .i64 x0.2.1.2, .int .i64 x0.2.2.1.1, .int .i64 x0.2.2.1.2, .int .i64 x0.2.2.2.1, .slice A3 x0.2.2.2.2.1.length c4, .slice A8 x0.2.2.2.2.2.length c9] rfl rfl ?_
  obtain ⟨y14, hy15, h⟩ := bindS h
  refine call_rule (by kernel_rfl) (list_Right_ok (x0 := (x0.1, (x0.2.1.1, x0.2.1.2), (x0.2.2.1.1, x0.2.2.1.2), x0.2.2.2.1, x0.2.2.2.2.1, x0.2.2.2.2.2)) (H.dat 2 rfl) (H.dat 1 rfl) hy15) fun v17 w16 ⟨hv18, hb19⟩ => ?_
  subst hv18
  replace H := H.call hb19
  refine nc_cond rfl (fun hc20 => ?_) (fun hc20 => ?_)
  · replace h := condT hc20 h
    refine nc_seq ?_
    refine nc ?_
    refine nc ?_
    replace h := Option.some.inj h
    subst h
    exact ret_inA [.string (bs ([] : List UInt8)), .int .i64 1] ⟨_, rfl, ⟨rfl, H.frame⟩⟩
  · replace h := condF hc20 h
    refine nc ?_
    refine nc_seq ?_
    refine nc ?_
    refine own_load H 0 rfl (by kernel_rfl) (j := 0) rfl ?_
    refine own_load H 0 rfl (by kernel_rfl) (j := 1) rfl ?_
    refine own_load H 0 rfl (by kernel_rfl) (j := 2) rfl ?_
    refine own_load H 0 rfl (by kernel_rfl) (j := 3) rfl ?_
    refine own_load H 0 rfl (by kernel_rfl) (j := 4) rfl ?_
    refine own_load H 0 rfl (by kernel_rfl) (j := 5) rfl ?_
    refine own_load H 0 rfl (by kernel_rfl) (j := 6) rfl ?_
    refine own_buildSlice (e := 3) (sz := 1) (z := .int .i64 0) (cs := [.int .i64 x0.1, .int .i64 x0.2.1.1, .int .i64 x0.2.1.2, .int .i64 x0.2.2.1.1, .int .i64 x0.2.2.1.2, .int .i64 x0.2.2.2.1, .int .i64 (x0.2.2.2.2.1.length : Int)]) H (by kernel_rfl) (by kernel_rfl) (by kernel_rfl) rfl rfl rfl rfl fun g22 w23 H => ?_
    have hr := H.addDat (dRows (tInt .i64) ([x0.1, x0.2.1.1, x0.2.1.2, x0.2.2.1.1, x0.2.2.1.2, x0.2.2.2.1, (x0.2.2.2.2.1.length : Int)] : List Int) [.int .i64 x0.1, .int .i64 x0.2.1.1, .int .i64 x0.2.1.2, .int .i64 x0.2.2.1.1, .int .i64 x0.2.2.1.2, .int .i64 x0.2.2.2.1, .int .i64 (x0.2.2.2.2.1.length : Int)]) ⟨_, _, rfl, rfl, ⟨_, _, rfl, rfl, ⟨_, _, rfl, rfl, ⟨_, _, rfl, rfl, ⟨_, _, rfl, rfl, ⟨_, _, rfl, rfl, ⟨_, _, rfl, rfl, rfl⟩⟩⟩⟩⟩⟩⟩
    replace H := (hr.pickL (1 :: 0 :: (List.range 3).map (· + 2)) rfl).blkRow (n := 7) (sz := 1) rfl (by decide)
    refine own_load H 2 rfl (by kernel_rfl) (j := 6) rfl ?_
    obtain ⟨hr27, h⟩ := roomS h
    refine own_appendD (k := (tInt .i64)) (z := .int .i64 0) 8 H 0 1 4 rfl rfl rfl rfl (by kernel_rfl) (by kernel_rfl) rfl rfl hr27 rfl fun z28 cs29 w30 H => ?_
    obtain ⟨A31, c32, rfl, _, _⟩ := H.rowSl 0 rfl
    refine nc_seq ?_
    refine nc ?_
    refine nc_cut (fun e w162 => ∃ (A159 : Option Addr) (c160 : Nat) (cs161 : List Value) (v158 : List (List UInt8)), list_Pack.k2 x0 v158 = some r ∧ e = [(1, .pointer (some ⟨g12, 0, none⟩)), (5, .slice A159 v158.length c160)] ∧ Eng.Own ok w w162 [.blk g12 [.int .i64 x0.1, .int .i64 x0.2.1.1, .int .i64 x0.2.1.2, .int .i64 x0.2.2.1.1, .int .i64 x0.2.2.1.2, .int .i64 x0.2.2.2.1, .slice A3 x0.2.2.2.2.1.length c4, .slice A8 x0.2.2.2.2.2.length c9] 58, .dat (dSl (tInt .i64) (.slice A3 x0.2.2.2.2.1.length c4) x0.2.2.2.2.1), .dat (dSl tStr (.slice A8 x0.2.2.2.2.2.length c9) x0.2.2.2.2.2), .dat (dRows tStr v158 cs161), .row (.slice A159 v158.length c160) 28 1 v158.length cs161]) ?_ ?_
    · skip
      refine nc_seq ?_
      refine nc ?_
      refine nc_block ?_
      replace H := H.nilRowD tStr 28
      obtain ⟨o251, hL252, hO253⟩ := bindS h
      obtain ⟨n254, hL252⟩ := loopS hL252
      refine nc ?_
      refine loop_ruleA (fun k e w258 => ∃ (A190 : Option Addr) (c191 : Nat) (cs192 : List Value) (v189 : List (List UInt8)) (v193 : Int), iterM (fun s261 : (List (List UInt8)) × Int => list_Pack.b1 x0 s261.1 s261.2) k (v189, v193) = some o251 ∧ e = [(1, .pointer (some ⟨g12, 0, none⟩)), (5, .slice A190 v189.length c191), (34, .slice A31 (([x0.1, x0.2.1.1, x0.2.1.2, x0.2.2.1.1, x0.2.2.1.2, x0.2.2.2.1, (x0.2.2.2.2.1.length : Int)] : List Int) ++ x0.2.2.2.2.1).length c32), (35, .int .i64 ((([x0.1, x0.2.1.1, x0.2.1.2, x0.2.2.1.1, x0.2.2.1.2, x0.2.2.2.1, (x0.2.2.2.2.1.length : Int)] : List Int) ++ x0.2.2.2.2.1).length : Int)), (36, .int .i64 v193)] ∧ Eng.Own ok w w258 [.blk g12 [.int .i64 x0.1, .int .i64 x0.2.1.1, .int .i64 x0.2.1.2, .int .i64 x0.2.2.1.1, .int .i64 x0.2.2.1.2, .int .i64 x0.2.2.2.1, .slice A3 x0.2.2.2.2.1.length c4, .slice A8 x0.2.2.2.2.2.length c9] 58, .dat (dSl (tInt .i64) (.slice A3 x0.2.2.2.2.1.length c4) x0.2.2.2.2.1), .dat (dSl tStr (.slice A8 x0.2.2.2.2.2.length c9) x0.2.2.2.2.2), .dat (dRows tStr v189 cs192), .row (.slice A190 v189.length c191) 28 1 v189.length cs192, .dat (dRows (tInt .i64) (([x0.1, x0.2.1.1, x0.2.1.2, x0.2.2.1.1, x0.2.2.1.2, x0.2.2.2.1, (x0.2.2.2.2.1.length : Int)] : List Int) ++ x0.2.2.2.2.1) cs29), .row (.slice A31 (([x0.1, x0.2.1.1, x0.2.1.2, x0.2.2.1.1, x0.2.2.1.2, x0.2.2.2.1, (x0.2.2.2.2.1.length : Int)] : List Int) ++ x0.2.2.2.2.1).length c32) 3 1 (([x0.1, x0.2.1.1, x0.2.1.2, x0.2.2.1.1, x0.2.2.1.2, x0.2.2.2.1, (x0.2.2.2.2.1.length : Int)] : List Int) ++ x0.2.2.2.2.1).length cs29]) ⟨none, 0, [], _, _, hL252, rfl, H.pickL [4, 6, 5, 0, 1, 3, 2] rfl⟩ ?_
      rintro k263 _ w262 ⟨A190, c191, cs192, v189, v193, hL252, rfl, H⟩
      obtain ⟨k257, rfl, q255, h, hq256⟩ := iterS hL252
      replace h : list_Pack.b1 x0 v189 v193 = some q255 := h
      unfold list_Pack.b1 at h
      refine nc_seq ?_
      refine nc ?_
      refine nc_seq ?_
      refine nc_cond rfl (fun hc264 => ?_) (fun hc264 => ?_)
      · replace h := condT hc264 h
        refine nc ?_
        refine nc_seq ?_
        refine nc_block ?_
        refine nc_seq ?_
        refine nc ?_
        obtain ⟨y265, hx266, h⟩ := bindS h
        obtain ⟨a267, _, rfl, _, _⟩ := H.rowElem (k := (tInt .i64)) 6 5 rfl rfl rfl hx266
        refine idxA_rule (e := 3) 1 _ (by kernel_rfl) (by kernel_rfl) (idxL_some hx266).1 (idxL_some hx266).2.1 ?_
        obtain ⟨cs268, hR269, hC270⟩ := H.rowElemJ (k := (tInt .i64)) 6 5 rfl rfl rfl hx266
        replace hR269 : cs268 = [.int .i64 y265] := by exact hR269
        subst hR269
        refine load_at hC270 0 (by kernel_rfl) rfl ?_
        refine nc ?_
        obtain ⟨y271, hy272, h⟩ := bindS h
        refine call_rule (by kernel_rfl) (term_Number_ok hy272) fun v274 w273 ⟨hv275, hb276⟩ => ?_
        subst hv275
        replace H := H.call hb276
        refine own_buildSlice (e := 28) (sz := 1) (z := .string ⟨#[]⟩) (cs := [.string (bs y271)]) H (by kernel_rfl) (by kernel_rfl) (by kernel_rfl) rfl rfl rfl rfl fun g278 w279 H => ?_
        obtain ⟨hr280, h⟩ := roomS h
        refine own_append1 (k := tStr) (z := .string ⟨#[]⟩) (x := y271) 16 H 4 3 rfl rfl rfl rfl (by kernel_rfl) (by kernel_rfl) rfl rfl hr280 rfl fun z281 cs282 w283 H => ?_
        obtain ⟨A284, c285, rfl, _, _⟩ := H.rowSl 4 rfl
        refine nc ?_
        cases h
        exact again_inA ⟨A284, c285, cs282, _, _, hq256, rfl, H.pickL [0, 1, 2, 3, 4, 5, 6] rfl⟩
      · replace h := condF hc264 h
        refine nc ?_
        cases h
        replace hq256 : v189 = o251 := hq256
        subst hq256
        have h := hO253
        try dsimp only [Sum.elim_inl, Sum.elim_inr] at h
        exact cut_inA ⟨A190, c191, cs192, _, h, rfl, H.pickL [0, 1, 2, 3, 4] rfl⟩
    · rintro _ w287 ⟨A159, c160, cs161, v158, h, rfl, H⟩
      unfold list_Pack.k2 at h
      refine nc_seq ?_
      refine nc ?_
      refine own_load H 0 rfl (by kernel_rfl) (j := 7) rfl ?_
      obtain ⟨hr288, h⟩ := roomS h
      refine own_appendD (k := tStr) (z := .string ⟨#[]⟩) 16 H 4 3 2 rfl rfl rfl rfl (by kernel_rfl) (by kernel_rfl) rfl rfl hr288 rfl fun z289 cs290 w291 H => ?_
      obtain ⟨A292, c293, rfl, _, _⟩ := H.rowSl 4 rfl
      replace H := H.freeze (k := tStr) 4 3 rfl rfl
      obtain ⟨y296, hy297, h⟩ := bindS h
      refine call_rule (by kernel_rfl) (list_Put_ok (H.dat 4 rfl) hy297) fun v299 w298 ⟨hv300, hb301⟩ => ?_
      subst hv300
      replace H := H.call hb301
      refine nc ?_
      replace h := Option.some.inj h
      subst h
      exact ret_inA [.string (bs y296.1), .int .i64 y296.2] ⟨_, rfl, ⟨rfl, H.frame⟩⟩
/-! gemot/view.Term -/
noncomputable def view_Term.f (x0 : D_api_View) : Option ((List UInt8) × Int) := (view_Right.f ((x0.1.1, x0.1.2), x0.2)).bind fun y9 => cond (!y9) (some (([] : List UInt8), (1 : Int))) ((list_Pack.f ((0 : Int), (x0.1.1, x0.1.2), ((0 : Int), (0 : Int)), (0 : Int), x0.2, ([] : List (List UInt8)))).bind fun y16 => some (y16.1, y16.2))
set_option maxHeartbeats 4000000 in
theorem view_Term_ok {ok : Nat → Prop} {w : World} {u1 : Value} {x0 : D_api_View} {r : (List UInt8) × Int} (hu2 : slR (tInt .i64) w ok u1 x0.2) (h : view_Term.f x0 = some r) :
    Calls Tryz.prog 55 #[.agg #[.int .i64 x0.1.1, .int .i64 x0.1.2, u1]] w fun e w' => ∃ v, e = .returned v ∧ (v = .tuple #[.string (bs r.1), .int .i64 r.2] ∧ Bel w.heap.size w w') := by
  have H : Eng.Own ok w w [] := Eng.Own.nil ok w
  obtain ⟨A3, c4, rfl, H⟩ := H.arg rfl hu2
  unfold view_Term.f at h
  refine enterN (args := [.agg #[.int .i64 x0.1.1, .int .i64 x0.1.2, .slice A3 x0.2.length c4]]) Tryz.func55 rfl Tryz.ntmps55 rfl rfl ?_
  refine nc_seq ?_
  refine nc ?_
  refine own_box H [.int .i64 x0.1.1, .int .i64 x0.1.2, .slice A3 x0.2.length c4] rfl fun g7 w8 H => ?_
  refine nc_seq ?_
  refine nc_seq ?_
  refine nc ?_
  refine own_loadA (m := 3) H 0 rfl (by kernel_rfl) (by kernel_rfl) [.int .i64 x0.1.1, .int .i64 x0.1.2, .slice A3 x0.2.length c4] rfl rfl ?_
  obtain ⟨y9, hy10, h⟩ := bindS h
  refine call_rule (by kernel_rfl) (view_Right_ok (x0 := ((x0.1.1, x0.1.2), x0.2)) (H.dat 1 rfl) hy10) fun v12 w11 ⟨hv13, hb14⟩ => ?_
  subst hv13
  replace H := H.call hb14
  refine nc_cond rfl (fun hc15 => ?_) (fun hc15 => ?_)
  · replace h := condT hc15 h
    refine nc_seq ?_
    refine nc ?_
    refine nc ?_
    replace h := Option.some.inj h
    subst h
    exact ret_inA [.string (bs ([] : List UInt8)), .int .i64 1] ⟨_, rfl, ⟨rfl, H.frame⟩⟩
  · replace h := condF hc15 h
    refine nc ?_
    refine nc_seq ?_
    refine nc ?_
    refine own_loadA (m := 2) H 0 rfl (by kernel_rfl) (by kernel_rfl) [.int .i64 x0.1.1, .int .i64 x0.1.2] rfl rfl ?_
    refine own_load H 0 rfl (by kernel_rfl) (j := 2) rfl ?_
    obtain ⟨y16, hy17, h⟩ := bindS h
    refine call_rule (by kernel_rfl) (list_Pack_ok (x0 := ((0 : Int), (x0.1.1, x0.1.2), ((0 : Int), (0 : Int)), (0 : Int), x0.2, ([] : List (List UInt8)))) (H.dat 1 rfl) nilR hy17) fun v19 w18 ⟨hv20, hb21⟩ => ?_
    subst hv20
    replace H := H.call hb21
    refine nc ?_
    replace h := Option.some.inj h
    subst h
    exact ret_inA [.string (bs y16.1), .int .i64 y16.2] ⟨_, rfl, ⟨rfl, H.frame⟩⟩
/-! gemot/blind.Group -/
noncomputable def blind_Group.f (x0 : D_api_View) (x1 : List UInt8) : Option ((List UInt8) × Int) := (view_Term.f ((x0.1.1, x0.1.2), x0.2)).bind fun y9 => cond (y9.2 != (0 : Int)) (some (([] : List UInt8), y9.2)) ((term_Pair.f y9.1 x1).bind fun y16 => cond (y16.2 != (0 : Int)) (some (([] : List UInt8), y16.2)) ((term_Hash.f y16.1).bind fun y23 => some (y23.1, y23.2)))
set_option maxHeartbeats 4000000 in
theorem blind_Group_ok {ok : Nat → Prop} {w : World} {u1 : Value} {x0 : D_api_View} {x1 : List UInt8} {r : (List UInt8) × Int} (hu2 : slR (tInt .i64) w ok u1 x0.2) (h : blind_Group.f x0 x1 = some r) :
    Calls Tryz.prog 18 #[.agg #[.int .i64 x0.1.1, .int .i64 x0.1.2, u1], .string (bs x1)] w fun e w' => ∃ v, e = .returned v ∧ (v = .tuple #[.string (bs r.1), .int .i64 r.2] ∧ Bel w.heap.size w w') := by
  have H : Eng.Own ok w w [] := Eng.Own.nil ok w
  obtain ⟨A3, c4, rfl, H⟩ := H.arg rfl hu2
  unfold blind_Group.f at h
  refine enterN (args := [.agg #[.int .i64 x0.1.1, .int .i64 x0.1.2, .slice A3 x0.2.length c4], .string (bs x1)]) Tryz.func18 rfl Tryz.ntmps18 rfl rfl ?_
  refine nc_seq ?_
  refine nc ?_
  refine own_box H [.int .i64 x0.1.1, .int .i64 x0.1.2, .slice A3 x0.2.length c4] rfl fun g7 w8 H => ?_
  refine nc_seq ?_
  refine nc ?_
  refine own_loadA (m := 3) H 0 rfl (by kernel_rfl) (by kernel_rfl) [.int .i64 x0.1.1, .int .i64 x0.1.2, .slice A3 x0.2.length c4] rfl rfl ?_
  obtain ⟨y9, hy10, h⟩ := bindS h
  refine call_rule (by kernel_rfl) (view_Term_ok (x0 := ((x0.1.1, x0.1.2), x0.2)) (H.dat 1 rfl) hy10) fun v12 w11 ⟨hv13, hb14⟩ => ?_
  subst hv13
  replace H := H.call hb14
  refine nc_seq ?_
  refine nc_seq ?_
  refine nc ?_
  refine nc_cond rfl (fun hc15 => ?_) (fun hc15 => ?_)
  · replace h := condT hc15 h
    refine nc_seq ?_
    refine nc ?_
    refine nc ?_
    replace h := Option.some.inj h
    subst h
    exact ret_inA [.string (bs ([] : List UInt8)), .int .i64 y9.2] ⟨_, rfl, ⟨rfl, H.frame⟩⟩
  · replace h := condF hc15 h
    refine nc ?_
    refine nc_seq ?_
    refine nc ?_
    obtain ⟨y16, hy17, h⟩ := bindS h
    refine call_rule (by kernel_rfl) (term_Pair_ok (ok := fun _ => False) hy17) fun v19 w18 ⟨hv20, hb21⟩ => ?_
    subst hv20
    replace H := H.call hb21
    refine nc_seq ?_
    refine nc_seq ?_
    refine nc ?_
    refine nc_cond rfl (fun hc22 => ?_) (fun hc22 => ?_)
    · replace h := condT hc22 h
      refine nc_seq ?_
      refine nc ?_
      refine nc ?_
      replace h := Option.some.inj h
      subst h
      exact ret_inA [.string (bs ([] : List UInt8)), .int .i64 y16.2] ⟨_, rfl, ⟨rfl, H.frame⟩⟩
    · replace h := condF hc22 h
      refine nc ?_
      refine nc_seq ?_
      refine nc ?_
      obtain ⟨y23, hy24, h⟩ := bindS h
      refine call_rule (by kernel_rfl) (term_Hash_ok (ok := fun _ => False) hy24) fun v26 w25 ⟨hv27, hb28⟩ => ?_
      subst hv27
      replace H := H.call hb28
      refine nc ?_
      replace h := Option.some.inj h
      subst h
      exact ret_inA [.string (bs y23.1), .int .i64 y23.2] ⟨_, rfl, ⟨rfl, H.frame⟩⟩
/-! gemot/place.Beside -/
noncomputable def place_Beside.f (x0 : List UInt8) : Option ((List UInt8)) := cond (strEq x0 ([] : List UInt8)) (some ([] : List UInt8)) ((slcM x0 (0 : Int) (IntKind.i64.wrap ((x0.length : Int) - (1 : Int)))).bind fun y2 => (idxS x0 (IntKind.i64.wrap ((x0.length : Int) - (1 : Int)))).bind fun y4 => cond (y4 == (108 : Int)) (roomM 1 (y2.length + [114].length) (some (y2 ++ [114]))) (roomM 1 (y2.length + [108].length) (some (y2 ++ [108]))))
set_option maxHeartbeats 4000000 in
theorem place_Beside_ok {ok : Nat → Prop} {w : World} {x0 : List UInt8} {r : (List UInt8)} (h : place_Beside.f x0 = some r) :
    Calls Tryz.prog 78 #[.string (bs x0)] w fun e w' => ∃ v, e = .returned v ∧ (v = .string (bs r) ∧ Bel w.heap.size w w') := by
  have H : Eng.Own ok w w [] := Eng.Own.nil ok w
  unfold place_Beside.f at h
  refine enterN (args := [.string (bs x0)]) Tryz.func78 rfl Tryz.ntmps78 rfl rfl ?_
  refine nc_seq ?_
  refine nc ?_
  refine nc_seq ?_
  refine nc_seq ?_
  refine nc ?_
  refine nc_cond rfl (fun hc1 => ?_) (fun hc1 => ?_)
  · replace h := condT hc1 h
    refine nc_seq ?_
    refine nc ?_
    refine nc ?_
    replace h := Option.some.inj h
    subst h
    exact ret_inA [.string (bs ([] : List UInt8))] ⟨_, rfl, ⟨rfl, H.frame⟩⟩
  · replace h := condF hc1 h
    refine nc ?_
    refine nc_seq ?_
    obtain ⟨y2, hx3, h⟩ := bindS h
    obtain ⟨y4, hx5, h⟩ := bindS h
    refine nc ?_
    refine draw_rule [] (by kernel_rfl) (by kernel_rfl) H ?_
    refine c_txtI (0 : Int) (IntKind.i64.wrap ((x0.length : Int) - (1 : Int))) (by kernel_rfl) rfl ⟨_, rfl⟩ hx3 ?_
    refine c_idxS (by kernel_rfl) hx5 ?_
    intro w6 H
    refine nc_seq ?_
    refine nc_seq ?_
    refine nc ?_
    refine nc_cond rfl (fun hc7 => ?_) (fun hc7 => ?_)
    · replace h := condT hc7 h
      refine nc_seq ?_
      refine nc ?_
      obtain ⟨hr8, h⟩ := roomS h
      refine catM_rule hr8 ?_
      refine nc ?_
      replace h := Option.some.inj h
      subst h
      exact ret_inA [.string (bs (y2 ++ [114]))] ⟨_, rfl, ⟨rfl, H.frame⟩⟩
    · replace h := condF hc7 h
      refine nc ?_
      refine nc_seq ?_
      refine nc ?_
      obtain ⟨hr9, h⟩ := roomS h
      refine catM_rule hr9 ?_
      refine nc ?_
      replace h := Option.some.inj h
      subst h
      exact ret_inA [.string (bs (y2 ++ [108]))] ⟨_, rfl, ⟨rfl, H.frame⟩⟩
/-! gemot/place.Co -/
noncomputable def place_Co.k1 (y273 : (List (List UInt8))) (v348 : Int) (v508 : List (List UInt8)) : Option (((List (List UInt8)) × Int) ⊕ (List (List UInt8))) := some (.inl (v508, (IntKind.i64.wrap (v348 + (1 : Int)))))
noncomputable def place_Co.b2 (y273 : (List (List UInt8))) (v344 : List (List UInt8)) (v348 : Int) : Option (((List (List UInt8)) × Int) ⊕ (List (List UInt8))) := cond (decide (v348 < (y273.length : Int))) ((idxL y273 v348).bind fun y514 => cond (!(strEq y514 ([] : List UInt8))) ((place_Beside.f y514).bind fun y521 => roomM 16 (v344.length + 1) (place_Co.k1 y273 v348 (v344 ++ [y521]))) (place_Co.k1 y273 v348 v344)) (some (.inr v344))
noncomputable def place_Co.k3 (v267 : List (List UInt8)) : Option ((List (List UInt8))) := some v267
noncomputable def place_Co.f (x0 : List UInt8) (x1 : Int) : Option ((List (List UInt8))) := (place_Path.f x0 x1).bind fun y273 => (loopM (fun s480 : (List (List UInt8)) × Int => place_Co.b2 y273 s480.1 s480.2) (([] : List (List UInt8)), (0 : Int))).bind (fun (o478 : (List (List UInt8))) => place_Co.k3 o478)
set_option maxHeartbeats 4000000 in
theorem place_Co_ok {ok : Nat → Prop} {w : World} {x0 : List UInt8} {x1 : Int} {r : (List (List UInt8))} (h : place_Co.f x0 x1 = some r) :
    Calls Tryz.prog 37 #[.string (bs x0), .int .i64 x1] w fun e w' => ∃ v, e = .returned v ∧ (rowOut w w' ok tStr 9 v r ∧ Bel w.heap.size w w') := by
  have H : Eng.Own ok w w [] := Eng.Own.nil ok w
  unfold place_Co.f at h
  refine enterN (args := [.string (bs x0), .int .i64 x1]) Tryz.func37 rfl Tryz.ntmps37 rfl rfl ?_
  refine nc_seq ?_
  refine nc ?_
  refine nc_seq ?_
  refine nc ?_
  refine nc_cut (fun e w271 => ∃ (A268 : Option Addr) (c269 : Nat) (cs270 : List Value) (v267 : List (List UInt8)), place_Co.k3 v267 = some r ∧ e = [(5, .slice A268 v267.length c269)] ∧ Eng.Own ok w w271 [.dat (dRows tStr v267 cs270), .row (.slice A268 v267.length c269) 9 1 v267.length cs270]) ?_ ?_
  · skip
    refine nc_seq ?_
    refine nc ?_
    obtain ⟨y273, hy274, h⟩ := bindS h
    refine call_rule (by kernel_rfl) (place_Path_ok (ok := fun _ => False) hy274) fun u279 w275 ⟨hu280, hb278⟩ => ?_
    replace H := H.callDats hb278 [dSl tStr u279 y273] ⟨(slR_any hu280), trivial⟩
    obtain ⟨A281, c282, hA283, _⟩ := H.sl 0 rfl
    subst hA283
    refine nc_block ?_
    replace H := H.nilRowD tStr 9
    obtain ⟨o470, hL471, hO472⟩ := bindS h
    obtain ⟨n473, hL471⟩ := loopS hL471
    refine nc ?_
    refine loop_ruleA (fun k e w477 => ∃ (A345 : Option Addr) (c346 : Nat) (cs347 : List Value) (v344 : List (List UInt8)) (v348 : Int), iterM (fun s480 : (List (List UInt8)) × Int => place_Co.b2 y273 s480.1 s480.2) k (v344, v348) = some o470 ∧ e = [(5, .slice A345 v344.length c346), (10, .slice A281 y273.length c282), (11, .int .i64 (y273.length : Int)), (12, .int .i64 v348)] ∧ Eng.Own ok w w477 [.dat (dRows tStr v344 cs347), .row (.slice A345 v344.length c346) 9 1 v344.length cs347, .dat (dSl tStr (.slice A281 y273.length c282) y273)]) ⟨none, 0, [], _, _, hL471, rfl, H.pickL [0, 1, 2] rfl⟩ ?_
    rintro k482 _ w481 ⟨A345, c346, cs347, v344, v348, hL471, rfl, H⟩
    obtain ⟨k476, rfl, q474, h, hq475⟩ := iterS hL471
    replace h : place_Co.b2 y273 v344 v348 = some q474 := h
    unfold place_Co.b2 at h
    refine nc_seq ?_
    refine nc ?_
    refine nc_seq ?_
    refine nc_cond rfl (fun hc483 => ?_) (fun hc483 => ?_)
    · replace h := condT hc483 h
      refine nc ?_
      refine nc_cut (fun e w512 => ∃ (A509 : Option Addr) (c510 : Nat) (cs511 : List Value) (v508 : List (List UInt8)), place_Co.k1 y273 v348 v508 = some q474 ∧ e = [(5, .slice A509 v508.length c510), (10, .slice A281 y273.length c282), (11, .int .i64 (y273.length : Int)), (12, .int .i64 v348)] ∧ Eng.Own ok w w512 [.dat (dRows tStr v508 cs511), .row (.slice A509 v508.length c510) 9 1 v508.length cs511, .dat (dSl tStr (.slice A281 y273.length c282) y273)]) ?_ ?_
      · skip
        refine nc_block ?_
        refine nc_seq ?_
        refine nc ?_
        obtain ⟨y514, hx515, h⟩ := bindS h
        obtain ⟨a516, cs517, rfl, hR518, H⟩ := H.elemI 2 rfl hx515
        obtain rfl : cs517 = [.string (bs y514)] := hR518
        refine idxA_rule (e := 9) 1 _ (by kernel_rfl) (by kernel_rfl) (idxL_some hx515).1 (idxL_some hx515).2.1 ?_
        refine own_loadD H 0 rfl 0 (by kernel_rfl) rfl ?_
        refine nc_seq ?_
        refine nc ?_
        refine nc_cond rfl (fun hc520 => ?_) (fun hc520 => ?_)
        · replace h := condT hc520 h
          refine nc ?_
          obtain ⟨y521, hy522, h⟩ := bindS h
          refine call_rule (by kernel_rfl) (place_Beside_ok (ok := fun _ => False) hy522) fun v524 w523 ⟨hv525, hb526⟩ => ?_
          subst hv525
          replace H := H.call hb526
          refine own_buildSlice (e := 9) (sz := 1) (z := .string ⟨#[]⟩) (cs := [.string (bs y521)]) H (by kernel_rfl) (by kernel_rfl) (by kernel_rfl) rfl rfl rfl rfl fun g528 w529 H => ?_
          obtain ⟨hr530, h⟩ := roomS h
          refine own_append1 (k := tStr) (z := .string ⟨#[]⟩) (x := y521) 16 H 2 1 rfl rfl rfl rfl (by kernel_rfl) (by kernel_rfl) rfl rfl hr530 rfl fun z531 cs532 w533 H => ?_
          obtain ⟨A534, c535, rfl, _, _⟩ := H.rowSl 2 rfl
          exact cut_inA ⟨A534, c535, cs532, _, h, rfl, H.pickL [1, 2, 3] rfl⟩
        · replace h := condF hc520 h
          refine nc ?_
          exact cut_inA ⟨A345, c346, cs347, _, h, rfl, H.pickL [1, 2, 3] rfl⟩
      · rintro _ w537 ⟨A509, c510, cs511, v508, h, rfl, H⟩
        unfold place_Co.k1 at h
        refine nc ?_
        cases h
        exact again_inA ⟨A509, c510, cs511, _, _, hq475, rfl, H.pickL [0, 1, 2] rfl⟩
    · replace h := condF hc483 h
      refine nc ?_
      cases h
      replace hq475 : v344 = o470 := hq475
      subst hq475
      have h := hO472
      try dsimp only [Sum.elim_inl, Sum.elim_inr] at h
      exact cut_inA ⟨A345, c346, cs347, _, h, rfl, H.pickL [0, 1] rfl⟩
  · rintro _ w538 ⟨A268, c269, cs270, v267, h, rfl, H⟩
    unfold place_Co.k3 at h
    refine nc_seq ?_
    refine nc ?_
    refine nc ?_
    replace h := Option.some.inj h
    subst h
    exact ret_inA [.slice A268 v267.length c269] ⟨_, rfl, ⟨H.outR 1 0 rfl rfl rfl, H.frame⟩⟩
end Go.Proofs.YtfapphlhkfddoaaGreatDoor.G
/- The secrets of a path. -/
namespace Go.Proofs.YtfapphlhkfddoaaGreatDoor.G
open Go.RowKit Go.Eng Go.Proofs Go.Proofs.YtfapphlhkfddoaaGreatDoor.Cut
set_option linter.unusedVariables false
set_option maxRecDepth 20000
variable {ok : Nat → Prop} {w0 w : World} {L R : List Eng.Item}

set_option maxHeartbeats 1000000 in
theorem IndexBlind_own (H : Eng.Own ok w0 w L) (i : Nat) {v : Value} {ls : List D_blind_Blind} (hi : L[i]? = some (.dat (dSl t_blind_Blind v ls))) (hl : ls.length ≤ 140737488355328) {f : FuncId} {cap : Array Value} (t : D_blind_Blind → Bool) (hb : bodyB Tryz.prog f = true)
    (hf : ∀ (w' : World) (x : D_blind_Blind), Eng.Own ok w0 w' L → Calls Tryz.prog f ((#[] ++ [Value.agg #[.string (bs x.1), .string (bs x.2)]].toArray) ++ cap) w' fun e w'' => ∃ r, e = .returned r ∧ (r = .bool (t x) ∧ Bel w'.heap.size w' w'')) :
    Calls Tryz.prog 74 #[v, .func (.func f) #[] cap] w fun e w' => ∃ r, e = .returned r ∧ (r = .int .i64 (idxOf t ls) ∧ Eng.Own ok w0 w' L) := by
  obtain ⟨A, c, hA, hc⟩ := H.sl i hi
  subst hA
  refine enter (args := [.slice A ls.length c, .func (.func f) #[] cap]) Tryz.func74 rfl Tryz.ntmps74 rfl rfl ?_
  try refine nc ?_
  try refine nc ?_
  refine loop_rule (fun k e w' => ∃ j : Nat, j + k = ls.length ∧ e = [(0, .slice A ls.length c), (1, .func (.func f) #[] cap), (7, .int .i64 (ls.length : Nat)), (8, .int .i64 (j : Int))] ∧ (∀ q (h : q < ls.length), q < j → t ls[q] = false) ∧ Eng.Own ok w0 w' L) ls.length [(0, .slice A ls.length c), (1, .func (.func f) #[] cap), (7, .int .i64 (ls.length : Nat)), (8, .int .i64 ((0 : Nat) : Int))] ⟨rfl, rfl, rfl, rfl, trivial⟩ ⟨0, by omega, rfl, fun _ _ h => by omega, H⟩ ?_
  rintro k e w' ⟨j, hjk, rfl, ht, H⟩
  try refine nc ?_
  try refine nc ?_
  refine cond_of (fun hc => ?_) (fun hc => ?_)
  · have hlt : j < ls.length := by have := of_decide_eq_true hc; omega
    try refine nc ?_
    try refine nc ?_
    obtain ⟨a, c', cs, hA, hR, H'⟩ := H.elem i hi j hlt
    cases hA
    obtain rfl := blind_Blind_cells hR
    refine indexAddr_rule (e := 76) 2 j (by kernel_rfl) (by kernel_rfl) (fun _ => hlt) ?_
    refine own_loadDA (m := 2) H' 0 rfl 0 (by kernel_rfl) (by kernel_rfl) [.string (bs ls[j].1), .string (bs ls[j].2)] rfl rfl ?_
    refine callV_rule hb (hf w' ls[j] H) fun v w2 ⟨hv, hbel⟩ => ?_
    subst hv
    replace H := H.call hbel
    try refine nc ?_
    try refine nc ?_
    refine cond_of (fun hd => ?_) (fun hd => ?_)
    · try refine nc ?_
      try refine nc ?_
      refine ret_of [.int .i64 (j : Nat)] ⟨rfl, trivial⟩ ⟨_, rfl, ?_, H⟩
      have : ls.findIdx? t = some j := List.findIdx?_eq_some_iff_getElem.2 ⟨hlt, hd, fun q hq => by simpa using ht q (by omega) hq⟩
      unfold idxOf; rw [this]; rfl
    · try refine nc ?_
      try refine nc ?_
      refine again_in (k - 1) (by omega) [(0, .slice (some a) ls.length c), (1, .func (.func f) #[] cap), (7, .int .i64 (ls.length : Nat)), (8, .int .i64 ((j + 1 : Nat) : Int))] ⟨rfl, rfl, rfl, ?_, trivial⟩ ⟨j + 1, by omega, rfl, fun q hq hq2 => ?_, H⟩
      · show some (Value.int .i64 (IntKind.i64.wrap ((j : Int) + 1))) = _
        rw [Eng.i64_id (by omega) (by omega)]; rfl
      · by_cases h : q = j
        · subst h; exact hd
        · exact ht q hq (by omega)
  · have hge : j = ls.length := by have := of_decide_eq_false hc; omega
    try refine nc ?_
    try refine nc ?_
    refine ret_of [.int .i64 (-1)] ⟨rfl, trivial⟩ ⟨_, rfl, ?_, H⟩
    have : ls.findIdx? t = none := List.findIdx?_eq_none_iff.2 fun x hx => by
      obtain ⟨q, hq, rfl⟩ := List.mem_iff_getElem.1 hx
      exact ht q hq (by omega)
    unfold idxOf; rw [this]; rfl
theorem Climb1_calls (H : Eng.Own ok w0 w L) (i : Nat) {g : Nat} {n : List UInt8} (hi : L[i]? = some (.blk g [.string (bs n)] 9)) (x : D_blind_Blind) :
    Calls Tryz.prog 75 ((#[] ++ [Value.agg #[.string (bs x.1), .string (bs x.2)]].toArray) ++ #[.pointer (some ⟨g, 0, none⟩)]) w fun e w'' => ∃ r, e = .returned r ∧ (r = .bool (decide (x.1 = n)) ∧ Bel w.heap.size w w'') := by
  have ea : ((#[] ++ [Value.agg #[.string (bs x.1), .string (bs x.2)]].toArray) ++ #[.pointer (some ⟨g, 0, none⟩)] : Array Value) = [Value.agg #[.string (bs x.1), .string (bs x.2)], .pointer (some ⟨g, 0, none⟩)].toArray := rfl
  rw [ea]
  have hcell : w.cell? ⟨g, 0, none⟩ = some (.string (bs n)) := H.cell i hi 0 rfl
  have hglt : g < w.heap.size := H.lt g (mem_muts.2 ⟨_, List.mem_of_getElem? hi, by simp [Item.muts]⟩)
  have H0 : Eng.Own (fun _ => False) w w [] := Eng.Own.nil _ w
  refine enter (args := [.agg #[.string (bs x.1), .string (bs x.2)], .pointer (some ⟨g, 0, none⟩)]) Tryz.func75 rfl Tryz.ntmps75 rfl rfl ?_
  try refine nc ?_
  refine own_box H0 [.string (bs x.1), .string (bs x.2)] rfl fun q w1 H1 => ?_
  have hcell1 : w1.cell? ⟨g, 0, none⟩ = some (.string (bs n)) := (H1.frame.toBelow.cell (p := ⟨g, 0, none⟩) hglt).trans hcell
  try refine nc ?_
  try refine nc ?_
  refine own_load H1 0 rfl (by kernel_rfl) (j := 0) rfl ?_
  refine load_rule (v := .string (bs n)) (by kernel_rfl) (fun _ => hcell1) ?_
  try refine nc ?_
  try refine nc ?_
  refine ret_of [.bool ((bs x.1).toList == (bs n).toList)] ⟨rfl, trivial⟩ ⟨_, rfl, ?_, H1.frame⟩
  rw [bs_toList, bs_toList]
  show Value.bool (x.1 == n) = _
  congr 1
  rw [Bool.eq_iff_iff]; simp
/-- The secrets behind one's own, node by node. -/
noncomputable def climbGo (l : List D_blind_Blind) : List (List UInt8) → List UInt8 → Option (List (List UInt8))
  | [], _ => some []
  | n :: co, s => if idxOf (fun b : D_blind_Blind => decide (b.1 = n)) l < 0 then some [] else (idxL l (idxOf (fun b : D_blind_Blind => decide (b.1 = n)) l)).bind fun b => (blind_Above.f s b.2).bind fun r => if r.2 ≠ 0 then some [] else (climbGo l co r.1).map (r.1 :: ·)
noncomputable def blind_Climb.f (s : List UInt8) (p : Int) (own : List UInt8) (l : List D_blind_Blind) : Option (List (List UInt8)) :=
  (place_Path.f s p).bind fun path => if path = [] then some [] else (place_Co.f s p).bind fun co => givenM (co.length ≤ 10000000 ∧ l.length ≤ 140737488355328) ((climbGo l co own).map (own :: ·))
theorem mapS {α β : Type} {f : α → β} {x : Option α} {y : β} (h : x.map f = some y) : ∃ z, x = some z ∧ f z = y := by
  cases x with
  | none => cases h
  | some z => exact ⟨z, rfl, Option.some.inj h⟩
set_option maxHeartbeats 4000000 in
theorem blind_Climb_ok {u3 : Value} {x0 : List UInt8} {x1 : Int} {x2 : List UInt8} {x3 : List D_blind_Blind} {r : List (List UInt8)} (hu3 : slR t_blind_Blind w ok u3 x3) (h : blind_Climb.f x0 x1 x2 x3 = some r) :
    Calls Tryz.prog 35 #[.string (bs x0), .int .i64 x1, .string (bs x2), u3] w fun e w' => ∃ u, e = .returned u ∧ (slR tStr w' (fun b => ok b ∨ w.heap.size ≤ b) u r ∧ Bel w.heap.size w w') := by
  have H : Eng.Own ok w w [] := Eng.Own.nil ok w
  obtain ⟨A3, c3, rfl, H⟩ := H.arg rfl hu3
  unfold blind_Climb.f at h
  obtain ⟨path, hp, h⟩ := bindS h
  refine enterN (args := [.string (bs x0), .int .i64 x1, .string (bs x2), .slice A3 x3.length c3]) Tryz.func35 rfl Tryz.ntmps35 rfl rfl ?_
  refine Eng.nc_seq ?_
  refine nc ?_
  refine Eng.nc_seq ?_
  refine Eng.nc_seq ?_
  refine nc ?_
  have hpl : x0.length ≤ 900000 ∧ pathM x0 x1 = path := by
    unfold place_Path.f at hp
    obtain ⟨h1, h2⟩ := givenS hp
    exact ⟨h1, Option.some.inj h2⟩
  refine call_rule (by kernel_rfl) (path_calls (ok := fun _ => False) (s := x0) (p := x1) hpl.1) fun v1 w1 ⟨⟨hv, hv0⟩, hb⟩ => ?_
  rw [hpl.2] at hv hv0
  replace H := H.call hb
  by_cases hpn : path = []
  · rw [if_pos hpn] at h
    cases h
    rw [hv0 hpn]
    refine eqlSl_rule (by kernel_rfl) ?_
    refine Eng.nc_cond (b := true) rfl (fun hc => ?_) (fun hc => ?_)
    · refine Eng.nc_seq ?_
      refine nc ?_
      refine nc ?_
      exact ret_inA [.slice none 0 0] ⟨_, rfl, ⟨none, 0, rfl, Nat.le_refl _, .inl ⟨rfl, fun _ => rfl⟩⟩, H.frame⟩
    · cases hc
  rw [if_neg hpn] at h
  obtain ⟨Ap, cp, rfl, hcp, hcase⟩ := hv
  rcases hcase with ⟨h0, _⟩ | ⟨ap, rfl, _⟩
  · exact absurd h0 hpn
  refine eqlSl_rule (by kernel_rfl) ?_
  refine Eng.nc_cond (b := false) rfl (fun hc => ?_) (fun hc => ?_)
  · cases hc
  refine nc ?_
  obtain ⟨co, hco, h⟩ := bindS h
  obtain ⟨⟨hcl, hll⟩, h⟩ := givenS h
  obtain ⟨rest0, hr0, rfl⟩ := mapS h
  refine Eng.nc_seq ?_
  refine nc ?_
  refine own_buildSlice (e := 28) (sz := 1) (z := .string (bs [])) (cs := [.string (bs x2)]) H (by kernel_rfl) (by kernel_rfl) (by kernel_rfl) rfl rfl rfl rfl fun g w2 H => ?_
  replace H := H.blkRow (n := 1) (sz := 1) rfl (by decide)
  refine nc_cut (fun e w' => ∃ z, e = [(9, z)] ∧ Eng.Own ok w w' [.row z 28 1 (x2 :: rest0).length (strs (x2 :: rest0))]) ?_ ?_
  · refine Eng.nc_seq ?_
    refine nc ?_
    refine call_rule (by kernel_rfl) (place_Co_ok (ok := okOf ok w [.row (.slice (some ⟨g, 0, none⟩) 1 1) 28 1 1 [.string (bs x2)], .dat (dSl t_blind_Blind (.slice A3 x3.length c3) x3)]) hco) fun v3 w3 ⟨hv3, hb⟩ => ?_
    have hsl := rowOut_sl hv3 hb
    obtain ⟨Ac, cc, rfl, _, _⟩ := id hsl
    replace H := H.callDat hb (dSl tStr (.slice Ac co.length cc) co) hsl
    refine Eng.nc_block ?_
    refine nc ?_
    refine loop_rule (fun k e w' => ∃ (j : Nat) (z : Value) (sec : List UInt8) (out rest : List (List UInt8)), j + k = co.length ∧ out.length = j + 1 ∧ climbGo x3 (co.drop j) sec = some rest ∧ out ++ rest = x2 :: rest0 ∧ e = [(2, .string (bs sec)), (3, .slice A3 x3.length c3), (9, z), (23, .slice Ac co.length cc), (24, .int .i64 (co.length : Nat)), (25, .int .i64 (j : Int))] ∧ Eng.Own ok w w' [.row z 28 1 out.length (strs out), .dat (dSl tStr (.slice Ac co.length cc) co), .dat (dSl t_blind_Blind (.slice A3 x3.length c3) x3)]) co.length
      [(2, .string (bs x2)), (3, .slice A3 x3.length c3), (9, .slice (some ⟨g, 0, none⟩) 1 1), (23, .slice Ac co.length cc), (24, .int .i64 (co.length : Nat)), (25, .int .i64 ((0 : Nat) : Int))] ⟨rfl, rfl, rfl, rfl, rfl, rfl, trivial⟩ ⟨0, _, x2, [x2], rest0, by omega, rfl, hr0, rfl, rfl, H.pickL [1, 0, 2] rfl⟩ ?_
    rintro k e w4 ⟨j, z, sec, out, rest, hjk, hol, hgo, hout, rfl, H⟩
    obtain ⟨Az, cz, rfl, hA1, hA2⟩ := H.rowSl 0 rfl
    have hend : rest = [] → ∃ z, [((9 : Nat), (Value.slice Az out.length cz))] = [(9, z)] ∧ Eng.Own ok w w4 [.row z 28 1 (x2 :: rest0).length (strs (x2 :: rest0))] := by
      intro hr
      rw [hr, List.append_nil] at hout
      rw [← hout]
      exact ⟨_, rfl, H.pickL [0] rfl⟩
    refine Eng.nc_seq ?_
    refine nc ?_
    refine Eng.nc_seq ?_
    refine Eng.nc_cond (b := decide ((j : Int) < ((co.length : Nat) : Int))) rfl (fun hc => ?_) (fun hc => ?_)
    · have hlt : j < co.length := by have := of_decide_eq_true hc; omega
      refine nc ?_
      rw [List.drop_eq_getElem_cons hlt] at hgo
      unfold climbGo at hgo
      refine Eng.nc_seq ?_
      refine Eng.nc_block ?_
      refine Eng.nc_seq ?_
      refine nc ?_
      obtain ⟨a, c', cs, hA, hR, H'⟩ := H.elem 1 rfl j hlt
      cases hA
      have hR : cs = [.string (bs co[j])] := hR
      subst hR
      refine indexAddr_rule (e := 9) 1 j (by kernel_rfl) (by kernel_rfl) (fun _ => hlt) ?_
      refine own_loadD H' 0 rfl 0 (by kernel_rfl) rfl ?_
      refine own_alloc (z := .string (bs [])) H (by kernel_rfl) [.string (bs [])] rfl fun gn w5 H => ?_
      refine own_store H 0 rfl (by kernel_rfl) (j := 0) rfl rfl fun w6 H => ?_
      replace H : Eng.Own ok w w6 [.blk gn [.string (bs co[j])] 9, .row (.slice Az out.length cz) 28 1 out.length (strs out), .dat (dSl tStr (.slice (some a) co.length cc) co), .dat (dSl t_blind_Blind (.slice A3 x3.length c3) x3)] := H
      refine Eng.nc_seq ?_
      refine nc ?_
      refine call_rule (by kernel_rfl) (IndexBlind_own H 3 rfl hll (f := 75) (cap := #[.pointer (some ⟨gn, 0, none⟩)]) (fun b : D_blind_Blind => decide (b.1 = co[j])) (by kernel_rfl) (fun w' x H => Climb1_calls H 0 rfl x)) fun v7 w7 ⟨hv7, H⟩ => ?_
      subst hv7
      refine Eng.nc_seq ?_
      refine Eng.nc_seq ?_
      refine nc ?_
      refine Eng.nc_cond (b := decide (idxOf (fun b : D_blind_Blind => decide (b.1 = co[j])) x3 < 0)) rfl (fun hd => ?_) (fun hd => ?_)
      · have hd := of_decide_eq_true hd
        rw [if_pos hd] at hgo
        refine nc ?_
        exact cut_in (e' := [(9, .slice Az out.length cz)]) ⟨rfl, trivial⟩ (by
          have hr := (Option.some.inj hgo).symm
          rw [hr, List.append_nil] at hout
          rw [← hout]
          exact ⟨_, rfl, H.pickL [1] rfl⟩)
      have hd := of_decide_eq_false hd
      rw [if_neg hd] at hgo
      obtain ⟨b, hb2, hgo⟩ := bindS hgo
      obtain ⟨rr, hrr, hgo⟩ := bindS hgo
      refine nc ?_
      refine Eng.nc_seq ?_
      obtain ⟨a2, cs2, hA2, hR2, H'⟩ := H.elemI (x := idxOf (fun b : D_blind_Blind => decide (b.1 = co[j])) x3) (y := b) 3 rfl hb2
      cases hA2
      obtain rfl := blind_Blind_cells hR2
      refine nc ?_
      refine idxA_rule (e := 76) 2 (idxOf (fun b : D_blind_Blind => decide (b.1 = co[j])) x3) (by kernel_rfl) (by kernel_rfl) (idxL_some hb2).1 (idxL_some hb2).2.1 ?_
      refine own_loadD H' 0 rfl 1 (by kernel_rfl) rfl ?_
      refine call_rule (by kernel_rfl) (blind_Above_ok (ok := fun _ => False) hrr) fun v8 w8 ⟨hv8, hb8⟩ => ?_
      subst hv8
      replace H := H.call hb8
      refine Eng.nc_seq ?_
      refine Eng.nc_seq ?_
      refine nc ?_
      refine Eng.nc_cond (b := (rr.2 != 0)) rfl (fun he => ?_) (fun he => ?_)
      · rw [if_pos (by simpa using he)] at hgo
        refine nc ?_
        exact cut_in (e' := [(9, .slice Az out.length cz)]) ⟨rfl, trivial⟩ (by
          have hr := (Option.some.inj hgo).symm
          rw [hr, List.append_nil] at hout
          rw [← hout]
          exact ⟨_, rfl, H.pickL [1] rfl⟩)
      rw [if_neg (by simpa using he)] at hgo
      obtain ⟨rest2, hr2, rfl⟩ := mapS hgo
      refine nc ?_
      refine nc ?_
      refine own_buildSlice (e := 28) (sz := 1) (z := .string (bs [])) (cs := [.string (bs rr.1)]) H (by kernel_rfl) (by kernel_rfl) (by kernel_rfl) rfl rfl rfl rfl fun g2 w10 H => ?_
      refine own_appendBlk (e := 28) (sz := 1) (z := .string (bs [])) (by_ := 16) (m := 1) H 2 0 rfl rfl (by kernel_rfl) (by kernel_rfl) rfl rfl rfl (by intro v hv; simp at hv; subst hv; rfl) (by omega) (by omega) fun v5 w11 H => ?_
      have hw : IntKind.i64.wrap ((j : Int) + 1) = ((j + 1 : Nat) : Int) := by rw [Eng.i64_id (by omega) (by omega)]; omega
      refine nc ?_
      refine again_in (k - 1) (by omega) [(2, .string (bs rr.1)), (3, .slice (some a2) x3.length c3), (9, v5), (23, .slice (some a) co.length cc), (24, .int .i64 (co.length : Nat)), (25, .int .i64 ((j + 1 : Nat) : Int))] ⟨rfl, rfl, rfl, rfl, rfl, ?_, trivial⟩ ⟨j + 1, v5, rr.1, out ++ [rr.1], rest2, by omega, by simp [hol], hr2, by rw [← hout]; simp, rfl, ?_⟩
      · show some (Value.int .i64 (IntKind.i64.wrap ((j : Int) + 1))) = _
        rw [hw]
      · have e : strs (out ++ [rr.1]) = strs out ++ [.string (bs rr.1)] := by simp [strs]
        rw [e, List.length_append]
        exact H.pickL [2, 3, 4] rfl
    · have hge : j = co.length := by have := of_decide_eq_false hc; omega
      refine nc ?_
      rw [List.drop_of_length_le (by omega)] at hgo
      have hr : rest = [] := (Option.some.inj hgo).symm
      exact cut_in (e' := [(9, .slice Az out.length cz)]) ⟨rfl, trivial⟩ (hend hr)
  · rintro _ w5 ⟨z, rfl, H⟩
    obtain ⟨Az, cz, rfl, _, _⟩ := H.rowSl 0 rfl
    replace H := H.freezeS 0 rfl
    refine Eng.nc_seq ?_
    refine nc ?_
    refine nc ?_
    exact ret_inA [.slice Az (x2 :: rest0).length cz] ⟨_, rfl, H.outD 0 rfl, H.frame⟩
end Go.Proofs.YtfapphlhkfddoaaGreatDoor.G
/- Walks, printed by a program of this proof's own. -/
namespace Go.Proofs.YtfapphlhkfddoaaGreatDoor.G
open Go.RowKit Go.Eng Go.Proofs
set_option linter.unusedVariables false
set_option maxRecDepth 20000
/-! gemot/gemotlaw15.pick -/
/-! gemot/gemotlaw15.made -/
/-! gemot/gemotlaw15.secrets -/
/-! gemot/gemotlaw15.texts -/
/-! gemot/gemotlaw15.same -/
/-! gemot/gemotlaw15.has -/
/-! gemot/gemotlaw15.blinds -/
/-! gemot/gemotlaw15.BlindMeet -/
end Go.Proofs.YtfapphlhkfddoaaGreatDoor.G
/- Walks, printed by a program of this proof's own. -/
namespace Go.Proofs.YtfapphlhkfddoaaGreatDoor.G
open Go.RowKit Go.Eng Go.Proofs
set_option linter.unusedVariables false
set_option maxRecDepth 20000
/-! gemot/gemotlaw15.BlindApart -/
/-! gemot/gemotlaw15.BlindPartly -/
end Go.Proofs.YtfapphlhkfddoaaGreatDoor.G
/- Paths and nodes: what the program reckons, on trees. -/
namespace Go.Proofs.YtfapphlhkfddoaaGreatDoor.G
open Go.RowKit Go.Eng Go.Proofs Go.Proofs.YtfapphlhkfddoaaGreatDoor.Cut Go.Sort
set_option linter.unusedVariables false
set_option linter.unusedSimpArgs false
theorem text_leaves : ∀ T : Tr, T.text.length + 2 = 3 * T.leavesR.length := by
  intro T
  induction T with
  | leaf p => rfl
  | two l r ihl ihr =>
    simp only [Tr.text, Tr.leavesR, List.length_cons, List.length_append, List.length_nil] at *
    omega
theorem leaves_le {T : Tr} (hok : T.ok) (hn : T.leavesR.Nodup) : T.leavesR.length ≤ 8 := by
  have hr : ∀ T : Tr, T.ok → ∀ x ∈ T.leavesR, 0 < x ∧ x ≤ 8 := by
    intro T
    induction T with
    | leaf p => intro h x hx; rw [List.mem_singleton.1 hx]; have h : 1 ≤ p ∧ p ≤ 8 := h; omega
    | two l r ihl ihr =>
      intro h x hx
      rcases List.mem_append.1 hx with q | q
      · exact ihr h.2 x q
      · exact ihl h.1 x q
  have hb : rowB (sortZ T.leavesR) = true := (rowB_sort _).2 ⟨fun e => by have := leavesR_pos T; rw [e] at this; simp at this, hr T hok, hn⟩
  obtain ⟨_, h1, h2⟩ := (rowB_iff _).1 hb
  rw [← sortZ_len]
  apply Classical.byContradiction
  intro hgt
  have hp := List.pairwise_iff_getElem.1 h2
  have h8 : ∀ k (hk : k < (sortZ T.leavesR).length), (k : Int) + 1 ≤ (sortZ T.leavesR)[k] := by
    intro k
    induction k with
    | zero => intro hk; have := (h1 _ (List.getElem_mem hk)).1; omega
    | succ k ih => intro hk; have := ih (by omega); have := hp k (k + 1) (by omega) hk (by omega); omega
  have := h8 8 (by omega)
  have := (h1 _ (List.getElem_mem (show 8 < (sortZ T.leavesR).length by omega))).2
  omega
theorem ofM_short {s : List UInt8} {T : Tr} (h : ofM s = some T) : s.length ≤ 22 := by
  obtain ⟨h1, h2⟩ := ofM_text h
  have := leaves_le h2 (ofM_nodup h)
  have := text_leaves T
  rw [h1]; omega
theorem sortZ_is {xs ys : List Int} (h : xs.Perm ys) (hp : ys.Pairwise (· ≤ ·)) : sortZ xs = ys :=
  List.Perm.eq_of_pairwise (le := fun a b : Int => a ≤ b) (fun a b _ _ h1 h2 => Int.le_antisymm h1 h2) (sortZ_le xs) hp ((sortZ_perm xs).trans h)
theorem subT_nil (T : Tr) : subT T [] = some T := by cases T <;> rfl
/-- The way to a process's leaf. -/
def pathL : Tr → Int → Option (List UInt8)
  | .leaf q, p => if q = p then some [] else none
  | .two l r, p => match pathL l p with
    | some x => some (108 :: x)
    | none => (pathL r p).map (114 :: ·)
theorem pathL_two (l r : Tr) (p : Int) : pathL (.two l r) p = match pathL l p with
    | some x => some (108 :: x)
    | none => (pathL r p).map (114 :: ·) := rfl
theorem pathL_leaf (q p : Int) : pathL (.leaf q) p = if q = p then some [] else none := rfl
theorem leavesR_two (l r : Tr) : (Tr.two l r).leavesR = r.leavesR ++ l.leavesR := rfl
theorem pathL_some : ∀ (T : Tr) (p : Int), (pathL T p).isSome = decide (p ∈ T.leavesR)
  | .leaf q, p => by
    rw [pathL_leaf]
    unfold Tr.leavesR
    by_cases h : q = p
    · rw [if_pos h, h]; simp
    · rw [if_neg h]; simp; exact fun e => h e.symm
  | .two l r, p => by
    have h1 := pathL_some l p
    have h2 := pathL_some r p
    rw [pathL_two, leavesR_two]
    cases hl : pathL l p with
    | some x =>
      rw [hl] at h1
      have : p ∈ l.leavesR := by simpa using h1.symm
      simp [this]
    | none =>
      rw [hl] at h1
      have : p ∉ l.leavesR := by simpa using h1.symm
      simp [this, h2]
theorem pathL_len : ∀ (T : Tr) (p : Int) (π : List UInt8), pathL T p = some π → π.length < T.leavesR.length
  | .leaf q, p, π, h => by
    unfold pathL at h
    split at h
    · cases h; simp [Tr.leavesR]
    · cases h
  | .two l r, p, π, h => by
    have h1 := leavesR_pos l
    have h2 := leavesR_pos r
    rw [pathL_two] at h
    simp only [Tr.leavesR, List.length_append]
    cases hl : pathL l p with
    | some x =>
      rw [hl] at h
      cases h
      have := pathL_len l p x hl
      simp only [List.length_cons]; omega
    | none =>
      rw [hl] at h
      obtain ⟨y, hy, rfl⟩ : ∃ y, pathL r p = some y ∧ 114 :: y = π := by
        cases hr : pathL r p with
        | none => rw [hr] at h; cases h
        | some y => rw [hr] at h; exact ⟨y, rfl, Option.some.inj h⟩
      have := pathL_len r p y hy
      simp only [List.length_cons]; omega
/-- The path of a process: by the way to its leaf. -/
theorem nodes_find : ∀ (T : Tr) (pre : List UInt8) (p : Int), T.ok → T.leavesR.Nodup → (nodesT pre T).find? (fun x => decide (membersM x.2 = [p])) = (pathL T p).map fun π => (pre ++ π, (Tr.leaf p).text)
  | .leaf q, pre, p, hok, hn => by
    have hm : membersM (Tr.leaf q).text = [q] := by
      unfold membersM
      rw [ofM_iff hok, if_pos hn]
      show sortZ [q] = [q]
      simp [sortZ]
    show [(pre, (Tr.leaf q).text)].find? _ = _
    unfold pathL
    by_cases h : q = p
    · rw [if_pos h, ← h]; simp [List.find?_cons, hm]
    · rw [if_neg h]; simp [List.find?_cons, hm, h]
  | .two l r, pre, p, hok, hn => by
    obtain ⟨hnr, hnl, hd⟩ := List.nodup_append.1 (show (r.leavesR ++ l.leavesR).Nodup from hn)
    have hm : membersM (Tr.two l r).text ≠ [p] := by
      intro e
      have e2 := congrArg List.length e
      have h1 := leavesR_pos l
      have h2 := leavesR_pos r
      unfold membersM at e2
      rw [ofM_iff hok, if_pos hn] at e2
      simp only [sortZ_len, Tr.leavesR, List.length_append, List.length_cons, List.length_nil] at e2
      omega
    rw [show nodesT pre (Tr.two l r) = (pre, (Tr.two l r).text) :: (nodesT (pre ++ [108]) l ++ nodesT (pre ++ [114]) r) from rfl, List.find?_cons]
    rw [show decide (membersM ((pre, (Tr.two l r).text) : List UInt8 × List UInt8).2 = [p]) = false from decide_eq_false hm, List.find?_append, nodes_find l (pre ++ [108]) p hok.1 hnl, nodes_find r (pre ++ [114]) p hok.2 hnr]
    have e : pathL (Tr.two l r) p = match pathL l p with
      | some x => some (108 :: x)
      | none => (pathL r p).map (114 :: ·) := rfl
    rw [e]
    cases pathL l p with
    | some x => simp
    | none => cases pathL r p <;> simp
theorem pathM_eq {s : List UInt8} {T : Tr} (ho : ofM s = some T) (p : Int) : pathM s p = match pathL T p with
    | some π => upT π
    | none => [] := by
  unfold pathM
  rw [ho]
  simp only
  rw [nodes_find T [] p (ofM_text ho).2 (ofM_nodup ho)]
  cases pathL T p <;> rfl
def besideT (n : List UInt8) : List UInt8 := match n.reverse with
  | [] => []
  | c :: q => q.reverse ++ [if c = 108 then 114 else 108]
theorem besideT_snoc (q : List UInt8) (c : UInt8) : besideT (q ++ [c]) = q ++ [if c = 108 then 114 else 108] := by
  unfold besideT
  rw [List.reverse_append]
  show q.reverse.reverse ++ _ = _
  rw [List.reverse_reverse]
theorem snoc_cut (q : List UInt8) (c : UInt8) (hl : (q ++ [c]).length ≤ 1000000000) : IntKind.i64.wrap (((q ++ [c]).length : Int) - (1 : Int)) = (q.length : Int) ∧ slcM (q ++ [c]) (0 : Int) (q.length : Int) = some q ∧ idxS (q ++ [c]) (q.length : Int) = some (c.toNat : Int) := by
  rw [List.length_append] at hl
  simp only [List.length_cons, List.length_nil] at hl
  refine ⟨?_, ?_, idxS_at (by simp)⟩
  · rw [List.length_append]; simp only [List.length_cons, List.length_nil]; rw [Eng.i64_id (by omega) (by omega)]; omega
  · have := slc_lt (xs := q ++ [c]) (a := 0) (b := q.length) (by omega) (by simp)
    simpa using this
theorem beside_eq {n : List UInt8} (hl : n.length ≤ 1000000000) : place_Beside.f n = some (besideT n) := by
  unfold place_Beside.f
  rcases List.eq_nil_or_concat n with rfl | ⟨q, c, rfl⟩
  · rw [strEq_eq, decide_eq_true rfl]; rfl
  rw [List.concat_eq_append] at hl ⊢
  obtain ⟨h1, h2, h3⟩ := snoc_cut q c hl
  rw [besideT_snoc, strEq_eq, cond_f (by simp), h1, h2, h3, Option.bind_some, Option.bind_some]
  rw [List.length_append] at hl
  by_cases hc : c = 108
  · rw [show ((c.toNat : Int) == (108 : Int)) = true by rw [hc]; rfl, cond_true, room_of (by simp; omega), if_pos hc]
  · rw [show ((c.toNat : Int) == (108 : Int)) = false from byte_ne (k := 108) hc, cond_false, room_of (by simp; omega), if_neg hc]
def coM (s : List UInt8) (p : Int) : List (List UInt8) := (pathM s p).dropLast.map besideT
theorem upT_cut (n : List UInt8) : ∃ a, upT n = a ++ [[]] ∧ (∀ x ∈ a, x ≠ []) ∧ (∀ x ∈ upT n, x.length ≤ n.length) ∧ a.length = n.length := by
  refine ⟨(List.range n.length).map fun j => n.take (n.length - j), ?_, ?_, ?_, by simp⟩
  · unfold upT
    rw [List.range_succ, List.map_append]; simp
  · intro x hx
    obtain ⟨j, hj, rfl⟩ := List.mem_map.1 hx
    rw [List.mem_range] at hj
    intro e
    have := congrArg List.length e
    rw [List.length_take] at this
    simp only [List.length_nil] at this
    omega
  · intro x hx
    unfold upT at hx
    obtain ⟨j, hj, rfl⟩ := List.mem_map.1 hx
    rw [List.length_take]; omega
/-- A path is empty, or ends at the root, and nowhere else. -/
theorem path_cut (s : List UInt8) (p : Int) : pathM s p = [] ∨ ∃ a, pathM s p = a ++ [[]] ∧ (∀ x ∈ a, x ≠ []) ∧ (∀ x ∈ pathM s p, x.length ≤ 8) ∧ a.length ≤ 8 := by
  cases ho : ofM s with
  | none => left; unfold pathM; rw [ho]
  | some T =>
    have h8 := leaves_le (ofM_text ho).2 (ofM_nodup ho)
    have hp := pathM_eq ho p
    cases hq : pathL T p with
    | none => rw [hq] at hp; exact .inl hp
    | some π =>
      rw [hq] at hp
      right
      have := pathL_len T p π hq
      obtain ⟨a, h1, h2, h3, h4⟩ := upT_cut π
      rw [hp]
      exact ⟨a, h1, h2, fun x hx => by have := h3 x hx; omega, by omega⟩
theorem co_loop {path : List (List UInt8)} (hl : path.length ≤ 1000) (hx : ∀ x ∈ path, x.length ≤ 1000) : ∀ k i out, i + k = path.length → out.length ≤ i → loopM (fun s480 : (List (List UInt8)) × Int => place_Co.b2 path s480.1 s480.2) (out, (i : Int)) = some (out ++ ((path.drop i).filter fun n => decide (n ≠ [])).map besideT) := by
  intro k
  induction k with
  | zero =>
    intro i out hi _
    refine loop_end ?_
    show place_Co.b2 path out (i : Int) = _
    unfold place_Co.b2
    rw [cond_f (by omega), List.drop_of_length_le (by omega)]; simp
  | succ k ih =>
    intro i out hi ho
    have hil : i < path.length := by omega
    rw [List.drop_eq_getElem_cons hil, List.filter_cons]
    have hlen := hx path[i] (List.getElem_mem hil)
    by_cases hn : path[i] = []
    · rw [if_neg (by simpa using hn)]
      refine loop_step ?_ (ih (i + 1) out (by omega) (by omega))
      show place_Co.b2 path out (i : Int) = _
      unfold place_Co.b2
      rw [cond_t (by omega), idxL_lt hil, Option.bind_some, strEq_eq, decide_eq_true hn]
      show place_Co.k1 path (i : Int) out = _
      unfold place_Co.k1
      rw [wrap1 i (by omega)]
    · rw [if_pos (by simpa using hn), List.map_cons]
      have := ih (i + 1) (out ++ [besideT path[i]]) (by omega) (by rw [List.length_append]; simp only [List.length_cons, List.length_nil]; omega)
      rw [List.append_assoc] at this
      refine loop_step ?_ this
      show place_Co.b2 path out (i : Int) = _
      unfold place_Co.b2
      rw [cond_t (by omega), idxL_lt hil, Option.bind_some, strEq_eq, decide_eq_false hn]
      show (place_Beside.f path[i]).bind _ = _
      rw [beside_eq (by omega), Option.bind_some, room_of (by omega)]
      unfold place_Co.k1
      rw [wrap1 i (by omega)]
theorem co_eq {s : List UInt8} {p : Int} (hl : s.length ≤ 900000) : place_Co.f s p = some (coM s p) := by
  unfold place_Co.f place_Path.f
  rw [given_of hl, Option.bind_some]
  unfold coM
  rcases path_cut s p with h | ⟨a, h1, h2, h3, h4⟩
  · rw [h]
    have hL : loopM (fun s480 : (List (List UInt8)) × Int => place_Co.b2 [] s480.1 s480.2) (([] : List (List UInt8)), (0 : Int)) = some [] := by
      refine loop_end ?_
      show place_Co.b2 [] [] ((0 : Nat) : Int) = _
      unfold place_Co.b2
      rw [cond_f (by simp)]
    rw [hL]; rfl
  · have hpl : (pathM s p).length ≤ 9 := by rw [h1]; simp; omega
    have hL := co_loop (path := pathM s p) (by omega) (fun x hx => by have := h3 x hx; omega) (pathM s p).length 0 [] (by omega) (by simp)
    rw [show loopM (fun s480 : (List (List UInt8)) × Int => place_Co.b2 (pathM s p) s480.1 s480.2) (([] : List (List UInt8)), (0 : Int)) = _ from hL, List.nil_append, List.drop_zero]
    show some _ = some _
    rw [h1, List.dropLast_concat, List.filter_append, List.filter_eq_self.2 (fun x hx => by simpa using h2 x hx)]
    simp
theorem members_text {S : Tr} (hok : S.ok) (hn : S.leavesR.Nodup) : membersM S.text = sortZ S.leavesR := by
  unfold membersM
  rw [ofM_iff hok, if_pos hn]
theorem sort_head {xs : List Int} (h : 0 < xs.length) : idxL (sortZ xs) (0 : Int) = some ((sortZ xs).headD 0) := by
  have hl := sortZ_len xs
  cases hs : sortZ xs with
  | nil => rw [hs] at hl; simp only [List.length_nil] at hl; omega
  | cons a r => rfl
theorem at_none {s : List UInt8} (h : ofM s = none) (n : List UInt8) : atM s n = ([], 1) := by unfold atM; rw [h]
theorem path_len9 (s : List UInt8) (p : Int) : (pathM s p).length ≤ 9 := by
  rcases path_cut s p with h | ⟨a, h1, h2, h3, h4⟩
  · rw [h]; simp
  · rw [h1]; simp; omega
end Go.Proofs.YtfapphlhkfddoaaGreatDoor.G
/- A tree that is made by raw numbers is one. -/
namespace Go.Proofs.YtfapphlhkfddoaaGreatDoor.G
open Go.RowKit Go.Eng Go.Proofs Go.Proofs.YtfapphlhkfddoaaGreatDoor.Cut
set_option linter.unusedVariables false
set_option linter.unusedSimpArgs false

def inI64 (x : Int) : Prop := -9223372036854775808 ≤ x ∧ x ≤ 9223372036854775807
theorem tree_len {T : Tr} (hk : T.ok) (hn : T.leavesR.Nodup) : T.text.length ≤ 22 := by
  have h8 := leaves_eight hk hn
  have := text_leaves3 T
  omega
end Go.Proofs.YtfapphlhkfddoaaGreatDoor.G
/- Ways through a tree. -/
namespace Go.Proofs.YtfapphlhkfddoaaGreatDoor.G
open Go.RowKit Go.Eng Go.Proofs Go.Proofs.YtfapphlhkfddoaaGreatDoor.Cut
set_option linter.unusedVariables false
set_option linter.unusedSimpArgs false
theorem sub_append : ∀ (a : List UInt8) (T : Tr) (b : List UInt8), subT T (a ++ b) = (subT T a).bind fun S => subT S b
  | [], T, b => by rw [List.nil_append, subT_nil]; rfl
  | c :: a, .leaf p, b => rfl
  | c :: a, .two l r, b => by
    show (if c = 108 then subT l (a ++ b) else if c = 114 then subT r (a ++ b) else none) = (if c = 108 then subT l a else if c = 114 then subT r a else none).bind _
    by_cases h1 : c = 108
    · rw [if_pos h1, if_pos h1]; exact sub_append a l b
    · rw [if_neg h1, if_neg h1]
      by_cases h2 : c = 114
      · rw [if_pos h2, if_pos h2]; exact sub_append a r b
      · rw [if_neg h2, if_neg h2]; rfl
theorem path_leafAt : ∀ (T : Tr) (p : Int) (π : List UInt8), pathL T p = some π → subT T π = some (.leaf p) ∧ ∀ c ∈ π, c = 108 ∨ c = 114
  | .leaf q, p, π, h => by
    rw [pathL_leaf] at h
    split at h
    · rename_i e; cases h; subst e; exact ⟨rfl, fun c hc => by cases hc⟩
    · cases h
  | .two l r, p, π, h => by
    rw [pathL_two] at h
    cases hl : pathL l p with
    | some x =>
      rw [hl] at h; cases h
      obtain ⟨h1, h2⟩ := path_leafAt l p x hl
      exact ⟨h1, fun c hc => (List.mem_cons.1 hc).elim .inl (fun q => h2 c q)⟩
    | none =>
      rw [hl] at h
      cases hr : pathL r p with
      | none => rw [hr] at h; cases h
      | some y =>
        rw [hr] at h
        obtain rfl : 114 :: y = π := Option.some.inj h
        obtain ⟨h1, h2⟩ := path_leafAt r p y hr
        exact ⟨h1, fun c hc => (List.mem_cons.1 hc).elim .inr (fun q => h2 c q)⟩
theorem path_mem {T : Tr} {p : Int} (h : p ∈ T.leavesR) : ∃ π, pathL T p = some π := by
  have := pathL_some T p
  rw [decide_eq_true h] at this
  exact Option.isSome_iff_exists.1 this
theorem path_none {T : Tr} {p : Int} (h : p ∉ T.leavesR) : pathL T p = none := by
  have := pathL_some T p
  rw [decide_eq_false h] at this
  simpa using this
/-- Who stands below a node has it on the way. -/
theorem path_sub : ∀ (n : List UInt8) (T S : Tr) (p : Int), T.leavesR.Nodup → subT T n = some S → p ∈ S.leavesR → ∃ ρ, pathL T p = some (n ++ ρ)
  | [], T, S, p, hn, hs, hp => by
    rw [subT_nil] at hs; cases hs
    exact path_mem hp
  | c :: n, .leaf q, S, p, hn, hs, hp => by cases hs
  | c :: n, .two l r, S, p, hn, hs, hp => by
    have hn2 : (r.leavesR ++ l.leavesR).Nodup := hn
    obtain ⟨hnr, hnl, hdis⟩ := List.nodup_append.1 hn2
    have hs : (if c = 108 then subT l n else if c = 114 then subT r n else none) = some S := hs
    rw [pathL_two]
    by_cases h1 : c = 108
    · rw [if_pos h1] at hs
      obtain ⟨ρ, hr⟩ := path_sub n l S p hnl hs hp
      exact ⟨ρ, by rw [hr, h1]; rfl⟩
    · rw [if_neg h1] at hs
      by_cases h2 : c = 114
      · rw [if_pos h2] at hs
        obtain ⟨ρ, hr⟩ := path_sub n r S p hnr hs hp
        have hpr : p ∈ r.leavesR := (subT_nodup _ _ _ hs hnr).2 p hp
        have hno : pathL l p = none := path_none fun q => hdis p hpr p q rfl
        exact ⟨ρ, by rw [hno, hr, h2]; rfl⟩
      · rw [if_neg h2] at hs; cases hs
theorem leaf_in : ∀ (ρ : List UInt8) (S : Tr) (p : Int), subT S ρ = some (.leaf p) → p ∈ S.leavesR
| [], S, p, h => by rw [subT_nil] at h; cases h; exact List.mem_singleton.2 rfl
| c :: ρ, .leaf q, p, h => by cases h
| c :: ρ, .two l r, p, h => by
  have h : (if c = 108 then subT l ρ else if c = 114 then subT r ρ else none) = some (.leaf p) := h
  by_cases h1 : c = 108
  · rw [if_pos h1] at h; exact List.mem_append_right _ (leaf_in ρ l p h)
  · rw [if_neg h1] at h
    by_cases h2 : c = 114
    · rw [if_pos h2] at h; exact List.mem_append_left _ (leaf_in ρ r p h)
    · rw [if_neg h2] at h; cases h
theorem path_here {T S : Tr} {n ρ : List UInt8} {p : Int} (h : pathL T p = some (n ++ ρ)) (hs : subT T n = some S) : p ∈ S.leavesR := by
  have h1 := (path_leafAt T p _ h).1
  rw [sub_append, hs] at h1
  have h1 : subT S ρ = some (.leaf p) := h1
  exact leaf_in ρ S p h1
/-- Each beginning of a path is a node. -/
theorem path_node {T : Tr} {p : Int} {π : List UInt8} (h : pathL T p = some π) (d : Nat) : ∃ S, subT T (π.take d) = some S ∧ p ∈ S.leavesR := by
  have h1 := (path_leafAt T p π h).1
  rw [← List.take_append_drop d π, sub_append] at h1
  cases hs : subT T (π.take d) with
  | none => rw [hs] at h1; cases h1
  | some S =>
    refine ⟨S, rfl, path_here (ρ := π.drop d) ?_ hs⟩
    rw [List.take_append_drop]; exact h
theorem up_len (n : List UInt8) : (upT n).length = n.length + 1 := by unfold upT; simp
theorem up_get {n : List UInt8} {j : Nat} (h : j ≤ n.length) : idxL (upT n) (j : Int) = some (n.take (n.length - j)) := by
  rw [idxL_nat]
  unfold upT
  simp [List.getElem?_range (show j < n.length + 1 by omega)]
theorem sub_ok4 {T S : Tr} {n : List UInt8} (hk : T.ok) (hn : T.leavesR.Nodup) (h : subT T n = some S) : S.ok ∧ S.leavesR.Nodup ∧ (∀ x ∈ S.leavesR, x ∈ T.leavesR) ∧ S.text.length ≤ 22 := by
  have h1 := subT_ok _ _ _ h hk
  obtain ⟨h2, h3⟩ := subT_nodup _ _ _ h hn
  exact ⟨h1, h2, h3, tree_len h1 h2⟩
theorem head_in {xs : List Int} (h : 0 < xs.length) : (sortZ xs).headD 0 ∈ xs := by
  have hl := sortZ_len xs
  cases hs : sortZ xs with
  | nil => rw [hs] at hl; simp only [List.length_nil] at hl; omega
  | cons a r => exact (sortZ_perm xs).mem_iff.1 (by rw [hs]; exact List.mem_cons_self)
end Go.Proofs.YtfapphlhkfddoaaGreatDoor.G
/- Texts, numbers, and the reading of terms by the program. -/
namespace Go.Proofs.YtfapphlhkfddoaaGreatDoor.G
open Go.RowKit Go.Eng Go.Proofs
set_option linter.unusedVariables false
set_option linter.unusedSimpArgs false
def leafI (r : List UInt8) : Nat := match r with | d :: _ => if 1 ≤ d.toNat ∧ d.toNat ≤ 8 then 2 else 0 | [] => 0
def leafT (r : List UInt8) : Nat := match r with | d :: e :: _ => if d.toNat = 0 ∧ e.toNat ≤ 100 ∧ e.toNat + 1 ≤ r.length - 1 then 3 + e.toNat else 0 | _ => 0
theorem leafI_cons (d : UInt8) (r : List UInt8) : leafI (d :: r) = if 1 ≤ d.toNat ∧ d.toNat ≤ 8 then 2 else 0 := rfl
theorem leafT_cons (d e : UInt8) (r : List UInt8) : leafT (d :: e :: r) = if d.toNat = 0 ∧ e.toNat ≤ 100 ∧ e.toNat + 1 ≤ (d :: e :: r).length - 1 then 3 + e.toNat else 0 := rfl
/-- How many bytes such a term has; 0: it is none. -/
def leafN (c : UInt8) (r : List UInt8) : Nat :=
  if c = 103 then 1 else if c = 110 ∨ c = 117 then (if 8 ≤ r.length then 9 else 0) else if c = 105 then leafI r else if c = 116 then leafT r else 0
theorem leaf_eq (c : UInt8) (r : List UInt8) : term_leaf.f (c :: r) = some (leafN c r : Int) := by
  have h256 : ∀ d : UInt8, d.toNat < 256 := fun d => UInt8.toNat_lt d
  unfold term_leaf.f leafN
  rw [idxS0, Option.bind_some]
  by_cases h1 : c = 103
  · subst h1
    rw [if_pos rfl]
    show term_leaf.k1 (103 :: r) 1 = _
    unfold term_leaf.k1
    rw [cond_f (by simp; omega)]; rfl
  rw [if_neg h1, show ((c.toNat : Int) == (103 : Int)) = false from byte_ne h1, cond_false]
  by_cases h2 : c = 110 ∨ c = 117
  · rw [if_pos h2]
    have : (cond ((c.toNat : Int) == (110 : Int)) (term_leaf.k4 (c :: r) (c.toNat : Int) ((c.toNat : Int) == (110 : Int))) (term_leaf.k4 (c :: r) (c.toNat : Int) ((c.toNat : Int) == (117 : Int)))) = term_leaf.k1 (c :: r) 9 := by
      rcases h2 with rfl | rfl <;> rfl
    rw [this]
    unfold term_leaf.k1
    by_cases h9 : 8 ≤ r.length
    · rw [if_pos h9, cond_f (by simp; omega)]; rfl
    · rw [if_neg h9, cond_t (by simp; omega)]; rfl
  rw [if_neg h2, show ((c.toNat : Int) == (110 : Int)) = false from byte_ne (fun q => h2 (.inl q)), cond_false, show ((c.toNat : Int) == (117 : Int)) = false from byte_ne (fun q => h2 (.inr q))]
  unfold term_leaf.k4
  rw [cond_false]
  by_cases h3 : c = 105
  · subst h3
    rw [if_pos rfl, show (((105 : UInt8).toNat : Int) == (105 : Int)) = true from rfl, cond_true]
    cases r with
    | nil => rfl
    | cons d r =>
      have hd := h256 d
      rw [cond_t (by simp; omega), idxS1, Option.bind_some]
      rw [leafI_cons]
      by_cases q1 : 1 ≤ d.toNat
      · rw [cond_t (by omega), Option.bind_some, decide_eq_true (show ((105 :: d :: r : List UInt8).length : Int) > 1 by simp; omega), decide_eq_true (show (d.toNat : Int) ≥ 1 by omega)]
        unfold term_leaf.k2 term_leaf.k1
        by_cases q2 : d.toNat ≤ 8
        · simp only [if_pos (And.intro q1 q2), cond_true, decide_eq_true (show (d.toNat : Int) ≤ 8 by omega)]
          rw [cond_f (by simp; omega)]; rfl
        · simp only [if_neg (fun q : 1 ≤ d.toNat ∧ d.toNat ≤ 8 => q2 q.2), cond_true, decide_eq_false (show ¬ (d.toNat : Int) ≤ 8 by omega), cond_false]
          rw [cond_f (by simp; omega)]; rfl
      · rw [cond_f (by omega), if_neg (fun q => q1 q.1), decide_eq_true (show ((105 :: d :: r : List UInt8).length : Int) > 1 by simp; omega), decide_eq_false (show ¬ (d.toNat : Int) ≥ 1 by omega)]
        unfold term_leaf.k2 term_leaf.k1
        simp only [cond_true, cond_false]
        rw [cond_f (by simp; omega)]; rfl
  rw [if_neg h3, show ((c.toNat : Int) == (105 : Int)) = false from byte_ne h3, cond_false]
  by_cases h4 : c = 116
  · subst h4
    rw [if_pos rfl, show (((116 : UInt8).toNat : Int) == (116 : Int)) = true from rfl, cond_true]
    match r with
    | [] => rfl
    | [d] => rfl
    | d :: e :: r =>
      have hd := h256 d
      have he := h256 e
      have hl : decide (((116 :: d :: e :: r : List UInt8).length : Int) ≥ 3) = true := decide_eq_true (by simp; omega)
      rw [hl, cond_true, idxS1, Option.bind_some]
      rw [leafT_cons]
      by_cases q1 : d.toNat = 0
      · rw [show ((d.toNat : Int) == (0 : Int)) = true by rw [q1]; rfl, cond_true, idxS2, Option.bind_some]
        unfold term_leaf.k3
        by_cases q2 : e.toNat ≤ 100
        · rw [decide_eq_true (show (e.toNat : Int) ≤ 100 by omega)]
          simp only [cond_true]
          rw [idxS2, Option.bind_some, Eng.i64_id (x := (e.toNat : Int)) (by omega) (by omega), Eng.i64_id (by omega) (by omega)]
          unfold term_leaf.k1
          by_cases q3 : e.toNat + 1 ≤ (d :: e :: r).length - 1
          · rw [if_pos ⟨q1, q2, q3⟩, cond_f (by simp at q3 ⊢; omega)]; simp
          · rw [if_neg (fun q => q3 q.2.2), cond_t (by simp at q3 ⊢; omega)]; rfl
        · rw [decide_eq_false (show ¬ (e.toNat : Int) ≤ 100 by omega), if_neg (fun q => q2 q.2.1)]
          simp only [cond_true, cond_false]
          unfold term_leaf.k1
          rw [cond_f (by simp; omega)]; rfl
      · rw [show ((d.toNat : Int) == (0 : Int)) = false from beq_eq_false_iff_ne.2 (by omega), cond_false, if_neg (fun q => q1 q.1)]
        unfold term_leaf.k3 term_leaf.k1
        simp only [cond_true, cond_false]
        rw [cond_f (by simp; omega)]; rfl
  rw [if_neg h4, show ((c.toNat : Int) == (116 : Int)) = false from byte_ne h4, cond_false]
  unfold term_leaf.k1
  rw [cond_f (by simp; omega)]; rfl

/-- What a term begins with that has others in it: how many, whether they are in order, and behind how many bytes they begin. -/
def openT (c : UInt8) (r : List UInt8) : Option (Nat × Bool × Nat) :=
  if c = 107 then (match r with | d :: _ => if d = 103 ∨ d = 101 then some (1, false, 1) else none | [] => none) else
  if c = 104 then some (1, false, 1) else if c = 112 ∨ c = 120 then some (2, false, 1) else if c = 115 then some (3, false, 1) else
  if c = 101 then (match r with | d :: _ => if 1 ≤ d.toNat ∧ d.toNat ≤ 32 then some (d.toNat, true, 2) else none | [] => none) else none
theorem drop_at {s : List UInt8} {a : Nat} {c : UInt8} {r : List UInt8} (h : s.drop a = c :: r) : s[a]? = some c ∧ s.length = a + 1 + r.length := by
  have h1 := congrArg (fun l => l[0]?) h
  have h2 := congrArg List.length h
  simp only [List.getElem?_drop, List.getElem?_cons_zero, Nat.add_zero] at h1
  simp only [List.length_drop, List.length_cons] at h2
  exact ⟨h1, by omega⟩
theorem drop_at1 {s : List UInt8} {a : Nat} {c d : UInt8} {r : List UInt8} (h : s.drop a = c :: d :: r) : s[a + 1]? = some d := by
  have h1 := congrArg (fun l => l[1]?) h
  simpa only [List.getElem?_drop, List.getElem?_cons_succ, List.getElem?_cons_zero] using h1
def openV (a : Nat) : Option (Nat × Bool × Nat) → D_term_open × Int × Bool
  | some (n, p, o) => (((n : Int), (0 : Int), p, ((a + o : Nat) : Int), []), ((a + o : Nat) : Int), true)
  | none => (((0 : Int), (0 : Int), false, ((a + 1 : Nat) : Int), []), (0 : Int), false)
theorem begin_eq {s : List UInt8} {a : Nat} {c : UInt8} {r : List UInt8} (h : s.drop a = c :: r) (ha : a ≤ 4611686018427387904) : term_begin.f s (a : Int) = some (openV a (openT c r)) := by
  have h256 : ∀ d : UInt8, d.toNat < 256 := fun d => UInt8.toNat_lt d
  obtain ⟨hc, hl⟩ := drop_at h
  have e2 : IntKind.i64.wrap ((a : Int) + (2 : Int)) = ((a + 2 : Nat) : Int) := by rw [Eng.i64_id (by omega) (by omega)]; omega
  unfold term_begin.f openT
  rw [idxS_at hc, Option.bind_some, wrap1 a (by omega)]
  by_cases h1 : c = 107
  · subst h1
    rw [if_pos rfl, show (((107 : UInt8).toNat : Int) == (107 : Int)) = true from rfl, cond_true]
    cases r with
    | nil =>
      rw [cond_t (by simp at hl; omega), decide_eq_true (show ((a + 1 : Nat) : Int) ≥ (s.length : Int) by simp at hl; omega)]
      unfold term_begin.k2
      rw [wrap1 a (by omega)]; rfl
    | cons d r =>
      have hd1 := drop_at1 h
      rw [cond_f (by simp at hl; omega), idxS_at hd1, Option.bind_some, Option.bind_some, decide_eq_false (show ¬ ((a + 1 : Nat) : Int) ≥ (s.length : Int) by simp at hl; omega)]
      unfold term_begin.k2 term_begin.k1
      rw [wrap1 a (by omega)]
      by_cases q1 : d = 103
      · subst q1; rfl
      · by_cases q2 : d = 101
        · subst q2; rfl
        · have b1 := byte_ne (k := 103) q1
          have b2 := byte_ne (k := 101) q2
          simp only [bne, show ((d.toNat : Int) == (103 : Int)) = false from b1, show ((d.toNat : Int) == (101 : Int)) = false from b2, Bool.not_false, cond_true, cond_false]
          rw [if_neg (fun q => q.elim q1 q2)]; rfl
  rw [if_neg h1, show ((c.toNat : Int) == (107 : Int)) = false from byte_ne h1, cond_false]
  by_cases h2 : c = 104
  · subst h2
    rw [if_pos rfl]
    rfl
  rw [if_neg h2, show ((c.toNat : Int) == (104 : Int)) = false from byte_ne h2, cond_false]
  unfold term_begin.k4 term_begin.k3 term_begin.k1
  rw [wrap1 a (by omega), e2]
  by_cases h3 : c = 112 ∨ c = 120
  · rw [if_pos h3]
    rcases h3 with rfl | rfl <;> rfl
  rw [if_neg h3, show ((c.toNat : Int) == (112 : Int)) = false from byte_ne (fun q => h3 (.inl q)), show ((c.toNat : Int) == (120 : Int)) = false from byte_ne (fun q => h3 (.inr q))]
  simp only [cond_false]
  by_cases h4 : c = 115
  · subst h4; rfl
  rw [if_neg h4, show ((c.toNat : Int) == (115 : Int)) = false from byte_ne h4, cond_false]
  by_cases h5 : c = 101
  · subst h5
    rw [if_pos rfl, show (((101 : UInt8).toNat : Int) == (101 : Int)) = true from rfl, cond_true]
    cases r with
    | nil =>
      rw [cond_t (by simp at hl; omega), decide_eq_true (show ((a + 1 : Nat) : Int) ≥ (s.length : Int) by simp at hl; omega)]
      rfl
    | cons d r =>
      have hd := h256 d
      have hd1 := drop_at1 h
      rw [cond_f (by simp at hl; omega), idxS_at hd1, Option.bind_some, Option.bind_some, Option.bind_some, decide_eq_false (show ¬ ((a + 1 : Nat) : Int) ≥ (s.length : Int) by simp at hl; omega)]
      by_cases q1 : 1 ≤ d.toNat
      · rw [cond_f (by omega), decide_eq_false (show ¬ (d.toNat : Int) < 1 by omega)]
        by_cases q2 : d.toNat ≤ 32
        · rw [decide_eq_false (show ¬ (d.toNat : Int) > 32 by omega), Eng.i64_id (by omega) (by omega)]
          simp only [cond_true, cond_false]
          rw [if_pos ⟨q1, q2⟩]; rfl
        · rw [decide_eq_true (show (d.toNat : Int) > 32 by omega)]
          simp only [cond_true, cond_false]
          rw [if_neg (fun q => q2 q.2)]; rfl
      · rw [cond_t (by omega), decide_eq_true (show (d.toNat : Int) < 1 by omega)]
        simp only [cond_true, cond_false]
        rw [if_neg (fun q => q1 q.1)]; rfl
  rw [if_neg h5, show ((c.toNat : Int) == (101 : Int)) = false from byte_ne h5, cond_false]
  rfl
/-- Parts, one behind the other: where the last one ends, and the depth; below 0: what is wrong. -/
def manyF (self : Nat → Int × Int) (s : List UInt8) (p : Bool) : Nat → Nat → List UInt8 → Nat → Int × Int
  | 0, k, last, depth => ((k : Int), ((depth + 1 : Nat) : Int))
  | n + 1, k, last, depth =>
    if (self k).1 < 0 then ((self k).1, 0) else
    if (p && strLt ((s.drop k).take ((self k).1.toNat - k)) last) = true then (-1, 0) else
    manyF self s p n (self k).1.toNat ((s.drop k).take ((self k).1.toNat - k)) (max depth (self k).2.toNat)
def specE (s : List UInt8) : Nat → Nat → Int × Int
  | 0, _ => (-2, 0)
  | left + 1, a => match s.drop a with
    | [] => (-1, 0)
    | c :: r => if leafN c r ≠ 0 then (((a + leafN c r : Nat) : Int), 1) else match openT c r with
      | none => (-1, 0)
      | some (n, p, o) => manyF (specE s left) s p n (a + o) [] 0
theorem leafN_le (c : UInt8) (r : List UInt8) : leafN c r ≤ r.length + 1 := by
  unfold leafN
  split
  · omega
  split
  · split <;> omega
  split
  · unfold leafI; split
    · split <;> simp
    · omega
  split
  · unfold leafT; split
    · split
      · rename_i h; have := h.2.2; simp at this ⊢; omega
      · omega
    · omega
  · omega
/-- What is read of parts ends behind where it begins, and within the text. -/
theorem manyF_le {self : Nat → Int × Int} {s : List UInt8} {p : Bool} (hs : ∀ k, 0 ≤ (self k).1 → (k : Int) < (self k).1 ∧ (self k).1 ≤ (s.length : Int)) : ∀ (n k : Nat) (last : List UInt8) (d : Nat), k ≤ s.length → 0 ≤ (manyF self s p n k last d).1 → (k : Int) ≤ (manyF self s p n k last d).1 ∧ (manyF self s p n k last d).1 ≤ (s.length : Int) ∧ (0 < n → (k : Int) < (manyF self s p n k last d).1)
  | 0, k, last, d, hk, _ => by
    simp only [manyF]
    exact ⟨Int.le_refl _, by omega, fun h => by omega⟩
  | n + 1, k, last, d, hk, h => by
    unfold manyF at h ⊢
    split at h
    · rename_i hn; simp only at h; omega
    · rename_i hn
      rw [if_neg hn]
      split at h
      · simp only at h; omega
      · rename_i hp
        rw [if_neg hp]
        have h1 := hs k (by omega)
        have h2 := manyF_le hs n (self k).1.toNat _ _ (by omega) h
        exact ⟨by omega, h2.2.1, fun _ => by omega⟩
theorem specE_le (s : List UInt8) : ∀ (left a : Nat), 0 ≤ (specE s left a).1 → (a : Int) < (specE s left a).1 ∧ (specE s left a).1 ≤ (s.length : Int)
  | 0, a, h => by simp [specE] at h
  | left + 1, a, h => by
    unfold specE at h ⊢
    cases hd : s.drop a with
    | nil => rw [hd] at h; simp at h
    | cons c r =>
      rw [hd] at h
      obtain ⟨_, hl⟩ := drop_at hd
      simp only at h ⊢
      by_cases h0 : leafN c r ≠ 0
      · rw [if_pos h0] at h ⊢
        have := leafN_le c r
        simp only
        omega
      · rw [if_neg h0] at h ⊢
        cases ho : openT c r with
        | none => rw [ho] at h; simp at h
        | some q =>
          obtain ⟨n, p, o⟩ := q
          rw [ho] at h
          simp only at h ⊢
          have hno : 0 < n ∧ 0 < o ∧ (a + o ≤ s.length) := by
            unfold openT at ho
            split at ho
            · split at ho
              · split at ho
                · cases ho; simp at hl; omega
                · cases ho
              · cases ho
            split at ho
            · cases ho; omega
            split at ho
            · cases ho; omega
            split at ho
            · cases ho; omega
            split at ho
            · split at ho
              · split at ho
                · rename_i hq; cases ho; simp at hl; omega
                · cases ho
              · cases ho
            · cases ho
          have := manyF_le (p := p) (specE_le s left) n (a + o) [] 0 hno.2.2 h
          omega
theorem specE_succ (s : List UInt8) (left a : Nat) : specE s (left + 1) a = match s.drop a with
    | [] => (-1, 0)
    | c :: r => if leafN c r ≠ 0 then (((a + leafN c r : Nat) : Int), 1) else match openT c r with
      | none => (-1, 0)
      | some (n, p, o) => manyF (specE s left) s p n (a + o) [] 0 := rfl
theorem openT_some {c : UInt8} {r : List UInt8} {n o : Nat} {p : Bool} (ho : openT c r = some (n, p, o)) : 0 < n ∧ n ≤ 32 ∧ 0 < o ∧ o ≤ r.length + 1 ∧ o ≤ 2 := by
  unfold openT at ho
  split at ho
  · split at ho
    · split at ho
      · cases ho; simp
      · cases ho
    · cases ho
  split at ho
  · cases ho; simp
  split at ho
  · cases ho; simp
  split at ho
  · cases ho; simp
  split at ho
  · split at ho
    · split at ho
      · rename_i hq; cases ho; simp; omega
      · cases ho
    · cases ho
  · cases ho
/-- How deep: as many as are left, at most. -/
theorem manyF_depth {self : Nat → Int × Int} {s : List UInt8} {p : Bool} {left : Nat} (hs : ∀ k, 0 ≤ (self k).2 ∧ (self k).2 ≤ (left : Int)) : ∀ (n k : Nat) (last : List UInt8) (d : Nat), d ≤ left → 0 ≤ (manyF self s p n k last d).2 ∧ (manyF self s p n k last d).2 ≤ ((left + 1 : Nat) : Int)
  | 0, k, last, d, hd => by simp only [manyF]; omega
  | n + 1, k, last, d, hd => by
    unfold manyF
    split
    · simp only; omega
    · split
      · simp only; omega
      · have := hs k
        exact manyF_depth hs n _ _ _ (by omega)
theorem specE_depth (s : List UInt8) : ∀ (left a : Nat), 0 ≤ (specE s left a).2 ∧ (specE s left a).2 ≤ (left : Int)
  | 0, a => by simp [specE]
  | left + 1, a => by
    unfold specE
    cases hd : s.drop a with
    | nil => simp only; omega
    | cons c r =>
      simp only
      split
      · simp only; omega
      · cases ho : openT c r with
        | none => simp only; omega
        | some q =>
          obtain ⟨n, p, o⟩ := q
          exact manyF_depth (specE_depth s left) n _ _ _ (by omega)
theorem manyF_mono {self self' : Nat → Int × Int} {s : List UInt8} {p : Bool} (hs : ∀ k, 0 ≤ (self k).1 → self' k = self k) : ∀ (n k : Nat) (last : List UInt8) (d : Nat), 0 ≤ (manyF self s p n k last d).1 → manyF self' s p n k last d = manyF self s p n k last d
  | 0, k, last, d, h => rfl
  | n + 1, k, last, d, h => by
    unfold manyF at h ⊢
    by_cases hn : (self k).1 < 0
    · rw [if_pos hn] at h; simp only at h; omega
    · rw [hs k (by omega), if_neg hn, if_neg hn]
      rw [if_neg hn] at h
      by_cases hp : (p && strLt ((s.drop k).take ((self k).1.toNat - k)) last) = true
      · rw [if_pos hp, if_pos hp]
      · rw [if_neg hp, if_neg hp]
        rw [if_neg hp] at h
        exact manyF_mono hs n _ _ _ h
theorem specE_mono1 (s : List UInt8) : ∀ (left a : Nat), 0 ≤ (specE s left a).1 → specE s (left + 1) a = specE s left a
  | 0, a, h => by simp [specE] at h
  | left + 1, a, h => by
    rw [specE_succ] at h
    rw [specE_succ, specE_succ s left a]
    cases hd : s.drop a with
    | nil => rfl
    | cons c r =>
      rw [hd] at h
      simp only at h ⊢
      by_cases h0 : leafN c r ≠ 0
      · rw [if_pos h0, if_pos h0]
      · rw [if_neg h0, if_neg h0]
        rw [if_neg h0] at h
        cases ho : openT c r with
        | none => rfl
        | some q =>
          obtain ⟨n, p, o⟩ := q
          rw [ho] at h
          exact manyF_mono (fun k hk => specE_mono1 s left k hk) n _ _ _ h
theorem specE_mono {s : List UInt8} {left more a : Nat} (hm : left ≤ more) (h : 0 ≤ (specE s left a).1) : specE s more a = specE s left a := by
  induction more with
  | zero => obtain rfl : left = 0 := by omega
            rfl
  | succ m ih =>
    by_cases hl : left = m + 1
    · rw [hl]
    · have := ih (by omega)
      rw [specE_mono1 s m a (by rw [this]; exact h), this]
theorem part_take {s t : List UInt8} {E k e : Nat} (h : s.take E = t.take E) (he : e ≤ E) : (s.drop k).take (e - k) = (t.drop k).take (e - k) := by
  have h1 : (s.take e).drop k = (t.take e).drop k := by
    have : s.take e = t.take e := by
      have := congrArg (List.take e) h
      rwa [List.take_take, List.take_take, Nat.min_eq_left he] at this
    rw [this]
  rwa [List.drop_take, List.drop_take] at h1
theorem manyF_local {self self' : Nat → Int × Int} {s t : List UInt8} {p : Bool} {E : Nat} (hst : s.take E = t.take E) (hs : ∀ k, 0 ≤ (self k).1 → (self k).1 ≤ (E : Int) → self' k = self k) (hr : ∀ k, 0 ≤ (self k).1 → (k : Int) < (self k).1 ∧ (self k).1 ≤ (s.length : Int)) : ∀ (n k : Nat) (last : List UInt8) (d : Nat), k ≤ s.length → 0 ≤ (manyF self s p n k last d).1 → (manyF self s p n k last d).1 ≤ (E : Int) → manyF self' t p n k last d = manyF self s p n k last d
  | 0, k, last, d, hk, h, hE => rfl
  | n + 1, k, last, d, hk, h, hE => by
    unfold manyF at h hE ⊢
    by_cases hn : (self k).1 < 0
    · rw [if_pos hn] at h; simp only at h; omega
    · rw [if_neg hn] at h hE
      have h1 := hr k (by omega)
      by_cases hp : (p && strLt ((s.drop k).take ((self k).1.toNat - k)) last) = true
      · rw [if_pos hp] at h; simp only at h; omega
      · rw [if_neg hp] at h hE
        have h2 := manyF_le hr n _ _ _ (by omega) h
        have hkE : (self k).1 ≤ (E : Int) := by omega
        rw [hs k (by omega) hkE, if_neg hn, if_neg hn, ← part_take hst (show (self k).1.toNat ≤ E by omega), if_neg hp, if_neg hp]
        exact manyF_local hst hs hr n _ _ _ (by omega) h hE
theorem drop_local {s t : List UInt8} {E a : Nat} {c : UInt8} {r : List UInt8} (h : s.take E = t.take E) (ha : a < E) (hd : s.drop a = c :: r) : ∃ r', t.drop a = c :: r' ∧ r.take (E - a - 1) = r'.take (E - a - 1) := by
  have h1 : (s.drop a).take (E - a) = (t.drop a).take (E - a) := part_take h (Nat.le_refl _)
  obtain ⟨m, hm⟩ : ∃ m, E - a = m + 1 := ⟨E - a - 1, by omega⟩
  rw [hd, hm, List.take_succ_cons] at h1
  cases ht : t.drop a with
  | nil => rw [ht] at h1; simp at h1
  | cons c' r' =>
    rw [ht, List.take_succ_cons] at h1
    injection h1 with h2 h3
    exact ⟨r', by rw [h2], by rw [show E - a - 1 = m by omega]; exact h3⟩
theorem leafN_local {c : UInt8} {r r' : List UInt8} {m : Nat} (h : r.take m = r'.take m) (hr : m ≤ r.length) (hr' : m ≤ r'.length) (h0 : leafN c r ≠ 0) (hm : leafN c r ≤ m + 1) : leafN c r' = leafN c r := by
  unfold leafN at *
  by_cases h1 : c = 103
  · rw [if_pos h1, if_pos h1]
  rw [if_neg h1] at h0 hm ⊢
  rw [if_neg h1]
  by_cases h2 : c = 110 ∨ c = 117
  · rw [if_pos h2] at h0 hm ⊢
    rw [if_pos h2]
    by_cases h8 : 8 ≤ r.length
    · rw [if_pos h8] at hm ⊢
      rw [if_pos (by omega)]
    · rw [if_neg h8] at h0; exact absurd rfl h0
  rw [if_neg h2] at h0 hm ⊢
  rw [if_neg h2]
  by_cases h3 : c = 105
  · rw [if_pos h3] at h0 hm ⊢
    rw [if_pos h3]
    cases r with
    | nil => exact absurd rfl h0
    | cons d r =>
      have hq : leafI (d :: r) = 2 := by
        rw [leafI_cons] at h0 ⊢
        by_cases hc : 1 ≤ d.toNat ∧ d.toNat ≤ 8
        · rw [if_pos hc]
        · rw [if_neg hc] at h0; exact absurd rfl h0
      obtain ⟨k, rfl⟩ : ∃ k, m = k + 1 := ⟨m - 1, by omega⟩
      cases r' with
      | nil => simp at hr'
      | cons d' r' =>
        rw [List.take_succ_cons, List.take_succ_cons] at h
        injection h with h1 h2
        subst h1
        rw [leafI_cons, leafI_cons]
  rw [if_neg h3] at h0 hm ⊢
  rw [if_neg h3]
  by_cases h4 : c = 116
  · rw [if_pos h4] at h0 hm ⊢
    rw [if_pos h4]
    match r, h0, hm, h, hr with
    | [], h0, _, _, _ => exact absurd rfl h0
    | [d], h0, _, _, _ => exact absurd rfl h0
    | d :: e :: r, h0, hm, h, hr =>
      have hc : d.toNat = 0 ∧ e.toNat ≤ 100 ∧ e.toNat + 1 ≤ (d :: e :: r).length - 1 := by
        apply Classical.byContradiction
        intro hc
        rw [leafT_cons, if_neg hc] at h0; exact absurd rfl h0
      rw [leafT_cons, if_pos hc] at hm ⊢
      obtain ⟨k, rfl⟩ : ∃ k, m = k + 1 + 1 := ⟨m - 2, by omega⟩
      match r', h, hr' with
      | [], _, hr' => simp at hr'
      | [_], _, hr' => simp at hr'
      | d' :: e' :: r', h, hr' =>
        rw [List.take_succ_cons, List.take_succ_cons, List.take_succ_cons, List.take_succ_cons] at h
        injection h with h1 h2
        injection h2 with h2 h3
        subst h1 h2
        rw [leafT_cons, if_pos ⟨hc.1, hc.2.1, by simp at hr' ⊢; omega⟩]
  rw [if_neg h4] at h0
  exact absurd rfl h0
theorem leaf_open {c : UInt8} {r r' : List UInt8} {q : Nat × Bool × Nat} (ho : openT c r = some q) : leafN c r' = 0 := by
  unfold leafN
  have : c ≠ 103 ∧ ¬ (c = 110 ∨ c = 117) ∧ c ≠ 105 ∧ c ≠ 116 := by
    refine ⟨?_, ?_, ?_, ?_⟩
    · rintro rfl; simp [openT] at ho
    · rintro (rfl | rfl) <;> simp [openT] at ho
    · rintro rfl; simp [openT] at ho
    · rintro rfl; simp [openT] at ho
  rw [if_neg this.1, if_neg this.2.1, if_neg this.2.2.1, if_neg this.2.2.2]
theorem openT_local {c : UInt8} {r r' : List UInt8} {m : Nat} {q : Nat × Bool × Nat} (h : r.take m = r'.take m) (hm : 1 ≤ m) (hr' : 1 ≤ r'.length) (ho : openT c r = some q) : openT c r' = some q := by
  obtain ⟨k, rfl⟩ : ∃ k, m = k + 1 := ⟨m - 1, by omega⟩
  cases r' with
  | nil => simp at hr'
  | cons d' r' =>
    cases r with
    | nil => simp at h
    | cons d r =>
      rw [List.take_succ_cons, List.take_succ_cons] at h
      injection h with h1 h2
      subst h1
      rw [← ho]; rfl
theorem specE_local {s t : List UInt8} {E : Nat} (hst : s.take E = t.take E) (hs : E ≤ s.length) (ht : E ≤ t.length) : ∀ (left a : Nat), 0 ≤ (specE s left a).1 → (specE s left a).1 ≤ (E : Int) → specE t left a = specE s left a
  | 0, a, h, _ => by simp [specE] at h
  | left + 1, a, h, hE => by
    have hle := specE_le s (left + 1) a h
    rw [specE_succ] at h hE hle
    rw [specE_succ, specE_succ s left a]
    cases hd : s.drop a with
    | nil => rw [hd] at h; simp at h
    | cons c r =>
      rw [hd] at h hE hle
      obtain ⟨r', hd', hrr⟩ := drop_local hst (by omega) hd
      have hl1 := (drop_at hd).2
      have hl2 := (drop_at hd').2
      rw [hd']
      simp only at h hE hle ⊢
      by_cases h0 : leafN c r ≠ 0
      · rw [if_pos h0] at h hE hle
        simp only at hE hle
        have he := leafN_local hrr (by omega) (by omega) h0 (by omega)
        rw [he, if_pos h0, if_pos h0]
      · rw [if_neg h0] at h hE hle
        cases ho : openT c r with
        | none => rw [ho] at h; simp at h
        | some q =>
          obtain ⟨n, p, o⟩ := q
          rw [ho] at h hE hle
          simp only at h hE hle
          have hno := openT_some ho
          have hml := manyF_le (specE_le s left) n (a + o) [] 0 (by omega) h
          have := hml.2.2 hno.1
          rw [if_neg (by rw [leaf_open ho]; simp), if_neg h0, openT_local hrr (by omega) (by omega) ho]
          exact manyF_local hst (fun k hk hkE => specE_local hst hs ht left k hk hkE) (specE_le s left) n _ _ _ (by omega) h hE
def shE (k : Nat) (r : Int × Int) : Int × Int := if r.1 < 0 then r else (r.1 + (k : Int), r.2)
theorem manyF_shift {self self' : Nat → Int × Int} {s : List UInt8} {p : Bool} {k0 : Nat} (hs : ∀ k, self (k0 + k) = shE k0 (self' k)) : ∀ (n k : Nat) (last : List UInt8) (d : Nat), manyF self s p n (k0 + k) last d = shE k0 (manyF self' (s.drop k0) p n k last d)
  | 0, k, last, d => by
    have e : manyF self' (s.drop k0) p 0 k last d = ((k : Int), ((d + 1 : Nat) : Int)) := rfl
    rw [e]
    unfold shE
    rw [if_neg (show ¬ ((k : Int), ((d + 1 : Nat) : Int)).1 < 0 by simp only; omega)]
    show (((k0 + k : Nat) : Int), _) = _
    congr 1; omega
  | n + 1, k, last, d => by
    unfold manyF
    rw [hs k]
    by_cases hn : (self' k).1 < 0
    · rw [show shE k0 (self' k) = self' k from if_pos hn, if_pos hn, if_pos hn]
      unfold shE; rw [if_pos hn]
    · have e : shE k0 (self' k) = ((self' k).1 + (k0 : Int), (self' k).2) := if_neg hn
      rw [e]
      simp only
      rw [if_neg (by omega), if_neg hn]
      have e2 : ((s.drop (k0 + k)).take (((self' k).1 + (k0 : Int)).toNat - (k0 + k))) = (((s.drop k0).drop k).take ((self' k).1.toNat - k)) := by
        rw [List.drop_drop]; congr 1; omega
      rw [e2]
      by_cases hp : (p && strLt (((s.drop k0).drop k).take ((self' k).1.toNat - k)) last) = true
      · rw [if_pos hp, if_pos hp]; rfl
      · rw [if_neg hp, if_neg hp, show ((self' k).1 + (k0 : Int)).toNat = k0 + (self' k).1.toNat by omega]
        exact manyF_shift hs n _ _ _
theorem specE_shift (s : List UInt8) (k0 : Nat) : ∀ (left a : Nat), specE s left (k0 + a) = shE k0 (specE (s.drop k0) left a)
  | 0, a => rfl
  | left + 1, a => by
    rw [specE_succ, specE_succ (s.drop k0), List.drop_drop]
    cases hd : s.drop (k0 + a) with
    | nil => rfl
    | cons c r =>
      simp only
      by_cases h0 : leafN c r ≠ 0
      · rw [if_pos h0, if_pos h0]
        unfold shE; simp only; rw [if_neg (by omega)]; congr 1; omega
      · rw [if_neg h0, if_neg h0]
        cases ho : openT c r with
        | none => rfl
        | some q =>
          obtain ⟨n, p, o⟩ := q
          simp only
          rw [show k0 + a + o = k0 + (a + o) by omega]
          exact manyF_shift (fun k => specE_shift s k0 left k) n _ _ _
set_option maxHeartbeats 1000000 in
theorem scan1_topP (x0 : List UInt8) (a n : Int) (E fr : Nat) (hE : a + n = (E : Int)) (hEl : E ≤ x0.length) (hfr : fr ≤ E) (hb : x0.length ≤ 140737488355328) (st : List D_term_open) (hst : st.length ≤ 1000) (l dp d : Nat) (hl : 0 < l) (hl2 : l ≤ 1000) (hd : d ≤ 1000) (hdp : dp ≤ 1000) (p : Bool) (la : List UInt8) :
    term_scan.b1 x0 a n (st ++ [((l : Int), (dp : Int), p, (fr : Int), la)]) (d : Int) = if (p && strLt ((x0.drop fr).take (E - fr)) la) = true then some (.inr (Sum.inr ((0 : Int), (0 : Int), (2 : Int)))) else if 1 < l then some (.inr (Sum.inl (st ++ [(((l - 1 : Nat) : Int), ((max dp d : Nat) : Int), p, (E : Int), (x0.drop fr).take (E - fr))]))) else some (.inl (st, ((max dp d + 1 : Nat) : Int))) := by
  unfold term_scan.b1
  have hlen : ∀ o : D_term_open, (st ++ [o]).length = st.length + 1 := fun o => by simp
  have e0 : ∀ o : D_term_open, (((st ++ [o]).length : Int) == (0 : Int)) = false := fun o => beq_eq_false_iff_ne.2 (by rw [hlen]; omega)
  have e1 : ∀ o : D_term_open, IntKind.i64.wrap (((st ++ [o]).length : Int) - (1 : Int)) = (st.length : Int) := fun o => by rw [hlen, Eng.i64_id (by omega) (by omega)]; omega
  have eg : ∀ o : D_term_open, idxL (st ++ [o]) (st.length : Int) = some o := fun o => by rw [idxL_nat]; simp
  have es : ∀ o x : D_term_open, (st ++ [o]).set st.length x = st ++ [x] := fun o x => by rw [List.set_append_right _ _ (Nat.le_refl _)]; simp
  have e2 : IntKind.i64.wrap (a + n) = (E : Int) := by rw [hE, Eng.i64_id (by omega) (by omega)]
  have e3 : IntKind.i64.wrap ((l : Int) - (1 : Int)) = ((l - 1 : Nat) : Int) := by rw [Eng.i64_id (by omega) (by omega)]; omega
  have e4 : maxI (dp : Int) (d : Int) = ((max dp d : Nat) : Int) := by unfold maxI; split <;> omega
  have e5 : IntKind.i64.wrap (((max dp d : Nat) : Int) + (1 : Int)) = ((max dp d + 1 : Nat) : Int) := by rw [Eng.i64_id (by omega) (by omega)]; omega
  rw [e0, cond_false, e1, Option.bind_some, eg, Option.bind_some]
  simp only [e2, slc_lt hfr hEl, Option.bind_some, e3, e4, e5, Int.toNat_natCast, es, e1]
  have ec : (cond p (strLt ((x0.drop fr).take (E - fr)) la) false) = (p && strLt ((x0.drop fr).take (E - fr)) la) := by cases p <;> rfl
  rw [ec]
  cases hc : (p && strLt ((x0.drop fr).take (E - fr)) la) with
  | true => rw [cond_true, if_pos rfl]
  | false =>
    rw [cond_false, if_neg (by decide)]
    by_cases h : 1 < l
    · rw [if_pos h, cond_t (by omega)]
    · rw [if_neg h, cond_f (by omega)]
      have : slcM (st ++ [(((l - 1 : Nat) : Int), ((max dp d : Nat) : Int), p, (E : Int), (x0.drop fr).take (E - fr))]) (0 : Int) (st.length : Int) = some st := by
        rw [show (0 : Int) = ((0 : Nat) : Int) from rfl, slc_lt (Nat.zero_le _) (by simp)]
        simp
      rw [this]; rfl
theorem scan1_nilP (x0 : List UInt8) (a n d : Int) (E : Nat) (hE : a + n = (E : Int)) (hb : E ≤ 140737488355328) : term_scan.b1 x0 a n [] d = some (.inr (Sum.inr ((E : Int), d, (0 : Int)))) := by
  unfold term_scan.b1
  rw [show (((([] : List D_term_open).length : Int)) == (0 : Int)) = true from rfl, cond_true, hE, Eng.i64_id (by omega) (by omega)]
/-- The rest, behind a term that ends there. -/
noncomputable def afterM (s : List UInt8) (a n : Int) (E : Nat) (st : List D_term_open) (d : Nat) : Option (Int × Int × Int) :=
  (loopM (fun q : (List D_term_open) × Int => term_scan.b1 s a n q.1 q.2) (st, (d : Int))).bind (Sum.elim (fun st' => loopM (fun q : (List D_term_open) × Int => term_scan.b2 s q.1 q.2) (st', (E : Int))) some)
theorem b1_same (s : List UInt8) (a n a' n' : Int) (h : a + n = a' + n') : term_scan.b1 s a n = term_scan.b1 s a' n' := by
  funext st d
  unfold term_scan.b1
  rw [h]
theorem afterM_same {s : List UInt8} {a n a' n' : Int} (E : Nat) (st : List D_term_open) (d : Nat) (h : a + n = a' + n') : afterM s a n E st d = afterM s a' n' E st d := by
  unfold afterM
  rw [b1_same s a n a' n' h]
def errC (e : Int) : Int := if e = -2 then 4 else 2
/-- What comes of the reading of a term with so many open ones. -/
noncomputable def goM (s : List UInt8) (st : List D_term_open) (r : Int × Int) : Option (Int × Int × Int) :=
  if r.1 < 0 then some ((0 : Int), (0 : Int), errC r.1) else afterM s r.1 0 r.1.toNat st r.2.toNat
noncomputable def scanL (s : List UInt8) (st : List D_term_open) (a : Nat) : Option (Int × Int × Int) := loopM (fun q : (List D_term_open) × Int => term_scan.b2 s q.1 q.2) (st, (a : Int))
theorem after_top {s : List UInt8} {E fr : Nat} (hEl : E ≤ s.length) (hfr : fr ≤ E) (hb : s.length ≤ 140737488355328) {st : List D_term_open} (hst : st.length ≤ 1000) {l dp d : Nat} (hl : 0 < l) (hl2 : l ≤ 1000) (hd : d ≤ 1000) (hdp : dp ≤ 1000) (p : Bool) (la : List UInt8) :
    afterM s (E : Int) 0 E (st ++ [((l : Int), (dp : Int), p, (fr : Int), la)]) d = if (p && strLt ((s.drop fr).take (E - fr)) la) = true then some ((0 : Int), (0 : Int), (2 : Int)) else if 1 < l then scanL s (st ++ [(((l - 1 : Nat) : Int), ((max dp d : Nat) : Int), p, (E : Int), (s.drop fr).take (E - fr))]) E else afterM s (E : Int) 0 E st (max dp d + 1) := by
  conv => lhs; unfold afterM
  rw [loop_unroll]
  have h := scan1_topP s (E : Int) 0 E fr (by omega) hEl hfr hb st hst l dp d hl hl2 hd hdp p la
  show ((term_scan.b1 s (E : Int) 0 (st ++ [((l : Int), (dp : Int), p, (fr : Int), la)]) (d : Int)).bind _).bind _ = _
  rw [h]
  by_cases h1 : (p && strLt ((s.drop fr).take (E - fr)) la) = true
  · rw [if_pos h1, if_pos h1]; rfl
  · rw [if_neg h1, if_neg h1]
    by_cases h2 : 1 < l
    · rw [if_pos h2, if_pos h2]; rfl
    · rw [if_neg h2, if_neg h2]; rfl
theorem leaf_ne0 {c : UInt8} {r : List UInt8} (h : leafN c r ≠ 0) : (((leafN c r : Nat) : Int) == (0 : Int)) = false := beq_eq_false_iff_ne.2 (by omega)
theorem scan_many {s : List UInt8} (hb : s.length ≤ 140737488355328) {left : Nat} (hleft : left ≤ 400) {p : Bool}
    (ih : ∀ (st : List D_term_open) (k : Nat), st.length + left = 400 → k ≤ s.length → scanL s st k = goM s st (specE s left k)) :
    ∀ (m k : Nat) (last : List UInt8) (d : Nat) (st : List D_term_open), 0 < m → m ≤ 32 → st.length + 1 + left = 400 → k ≤ s.length → d ≤ left →
    scanL s (st ++ [((m : Int), (d : Int), p, (k : Int), last)]) k = goM s st (manyF (specE s left) s p m k last d)
  | 0, k, last, d, st, h, _, _, _, _ => by omega
  | m + 1, k, last, d, st, _, hm, hst, hk, hd => by
    rw [ih (st ++ [(((m + 1 : Nat) : Int), (d : Int), p, (k : Int), last)]) k (by rw [List.length_append]; simpa using hst) hk]
    unfold manyF
    conv => lhs; unfold goM
    by_cases hn : (specE s left k).1 < 0
    · rw [if_pos hn, if_pos hn]
      unfold goM; rw [if_pos hn]
    · rw [if_neg hn, if_neg hn]
      have hle := specE_le s left k (by omega)
      have hdep := specE_depth s left k
      obtain ⟨E, hE⟩ : ∃ E : Nat, (specE s left k).1 = (E : Int) := ⟨(specE s left k).1.toNat, by omega⟩
      rw [hE] at hle ⊢
      rw [Int.toNat_natCast, after_top (by omega) (by omega) hb (by omega) (by omega) (by omega) (by omega) (by omega)]
      by_cases hp : (p && strLt ((s.drop k).take (E - k)) last) = true
      · rw [if_pos hp, if_pos hp]; rfl
      · rw [if_neg hp, if_neg hp]
        by_cases h1 : 1 < m + 1
        · rw [if_pos h1, Nat.add_sub_cancel]
          exact scan_many hb hleft ih m E _ _ st (by omega) (by omega) hst (by omega) (by omega)
        · rw [if_neg h1]
          obtain rfl : m = 0 := by omega
          have e : manyF (specE s left) s p 0 E ((s.drop k).take (E - k)) (max d (specE s left k).2.toNat) = ((E : Int), ((max d (specE s left k).2.toNat + 1 : Nat) : Int)) := rfl
          rw [e]
          unfold goM
          rw [if_neg (show ¬ ((E : Int), ((max d (specE s left k).2.toNat + 1 : Nat) : Int)).1 < 0 by simp only; omega)]
          simp only [Int.toNat_natCast]
theorem scan_go {s : List UInt8} (hb : s.length ≤ 140737488355328) : ∀ (left : Nat) (st : List D_term_open) (k : Nat), st.length + left = 400 → k ≤ s.length → scanL s st k = goM s st (specE s left k)
  | 0, st, k, hst, hk => by
    unfold scanL
    rw [loop_unroll]
    show (term_scan.b2 s st (k : Int)).bind _ = _
    unfold term_scan.b2
    rw [show ((st.length : Int) == (400 : Int)) = true by simp; omega]
    rfl
  | left + 1, st, k, hst, hk => by
    have ih := scan_go hb left
    rw [specE_succ]
    conv => lhs; unfold scanL
    rw [loop_unroll]
    show (term_scan.b2 s st (k : Int)).bind _ = _
    unfold term_scan.b2
    rw [show ((st.length : Int) == (400 : Int)) = false from beq_eq_false_iff_ne.2 (by omega), cond_false]
    cases hd : s.drop k with
    | nil =>
      have : s.length ≤ k := by have := congrArg List.length hd; simp at this; omega
      rw [cond_t (by omega)]; rfl
    | cons c r =>
      have hl := (drop_at hd).2
      have hlf := leafN_le c r
      rw [cond_f (by omega), slc_to hk, Option.bind_some, hd, leaf_eq, Option.bind_some]
      simp only
      by_cases h0 : leafN c r ≠ 0
      · rw [leaf_ne0 h0, cond_false, if_pos h0]
        unfold goM
        rw [if_neg (show ¬ ((((k + leafN c r : Nat) : Int), (1 : Int)).1 < 0) by simp only; omega)]
        simp only [Int.toNat_natCast]
        rw [afterM_same (a := ((k + leafN c r : Nat) : Int)) (n := 0) (a' := (k : Int)) (n' := ((leafN c r : Nat) : Int)) _ _ _ (by omega)]
        unfold afterM
        rw [Option.bind_assoc]
        show _ = (loopM (fun q : (List D_term_open) × Int => term_scan.b1 s (k : Int) ((leafN c r : Nat) : Int) q.1 q.2) (st, (1 : Int))).bind _
        congr 1
        funext q
        cases q with
        | inl st' =>
          simp only [Sum.elim_inl, Option.bind_some]
          rw [Eng.i64_id (by omega) (by omega)]
          congr 2
        | inr o => rfl
      · have h00 : leafN c r = 0 := by omega
        rw [h00, if_neg (by simp), show ((((0 : Nat) : Int)) == (0 : Int)) = true from rfl, cond_true, begin_eq hd (by omega), Option.bind_some]
        cases ho : openT c r with
        | none => rfl
        | some q =>
          obtain ⟨n, p, o⟩ := q
          have hno := openT_some ho
          simp only [openV, Bool.not_true, cond_false]
          rw [room_of (by omega), Option.bind_some, Sum.elim_inl]
          exact scan_many hb (by omega) ih n (k + o) [] 0 st hno.1 hno.2.1 (by omega) (by omega) (by omega)
/-- The program's scan. -/
theorem scan_spec {s : List UInt8} (hb : s.length ≤ 140737488355328) : term_scan.f s = some (if (specE s 400 0).1 < 0 then ((0 : Int), (0 : Int), errC (specE s 400 0).1) else ((specE s 400 0).1, (specE s 400 0).2, (0 : Int))) := by
  unfold term_scan.f
  have h := scan_go hb 400 [] 0 rfl (Nat.zero_le _)
  unfold scanL at h
  have h' : loopM (fun q : (List D_term_open) × Int => term_scan.b2 s q.1 q.2) (([] : List D_term_open), (0 : Int)) = goM s [] (specE s 400 0) := h
  rw [h']
  unfold goM
  by_cases hn : (specE s 400 0).1 < 0
  · rw [if_pos hn, if_pos hn]; rfl
  · rw [if_neg hn, if_neg hn]
    have hle := specE_le s 400 0 (by omega)
    have hdep := specE_depth s 400 0
    unfold afterM
    rw [loop_unroll]
    have h1 := scan1_nilP s (specE s 400 0).1 0 ((specE s 400 0).2.toNat : Int) (specE s 400 0).1.toNat (by omega) (by omega)
    show (((term_scan.b1 s (specE s 400 0).1 0 [] ((specE s 400 0).2.toNat : Int)).bind _).bind _).bind _ = _
    rw [h1]
    simp only [Option.bind_some, Sum.elim_inr, Sum.elim_inl]
    rw [Int.toNat_of_nonneg (by omega), Int.toNat_of_nonneg (by omega)]
def takeE (s : List UInt8) : List UInt8 × List UInt8 × Int :=
  if (specE s 400 0).1 < 0 then ([], [], errC (specE s 400 0).1) else if 20000 < (specE s 400 0).1 then ([], [], 3) else (s.take (specE s 400 0).1.toNat, s.drop (specE s 400 0).1.toNat, 0)
theorem slc_e {s : List UInt8} {e : Int} (h0 : 0 ≤ e) (h1 : e ≤ (s.length : Int)) : slcM s (0 : Int) e = some (s.take e.toNat) ∧ slcM s e (s.length : Int) = some (s.drop e.toNat) := by
  obtain ⟨n, rfl⟩ : ∃ n : Nat, e = (n : Int) := ⟨e.toNat, by omega⟩
  refine ⟨?_, ?_⟩
  · rw [show (0 : Int) = ((0 : Nat) : Int) from rfl, slc_lt (Nat.zero_le _) (by omega)]
    simp
  · rw [slc_to (by omega)]; simp
theorem take_spec {s : List UInt8} (hb : s.length ≤ 140737488355328) : term_Take.f s = some (takeE s) := by
  unfold term_Take.f takeE
  rw [scan_spec hb, Option.bind_some]
  by_cases hn : (specE s 400 0).1 < 0
  · rw [if_pos hn, if_pos hn]
    have : (errC (specE s 400 0).1 != 0) = true := by unfold errC; split <;> rfl
    simp only
    rw [this, cond_true]
  · rw [if_neg hn, if_neg hn]
    simp only [bne_self_eq_false, cond_false]
    have hle := specE_le s 400 0 (by omega)
    by_cases h2 : 20000 < (specE s 400 0).1
    · rw [if_pos h2, cond_t (by omega)]
    · rw [if_neg h2, cond_f (by omega), (slc_e (by omega) hle.2).1, Option.bind_some, (slc_e (by omega) hle.2).2, Option.bind_some]
def rightB (s : List UInt8) : Bool := decide ((specE s 400 0).1 = (s.length : Int) ∧ s.length ≤ 20000)
theorem takeE_right (s : List UInt8) : takeE s = (s, [], 0) ↔ rightB s = true := by
  unfold takeE rightB
  rw [decide_eq_true_eq]
  by_cases hn : (specE s 400 0).1 < 0
  · rw [if_pos hn]
    constructor
    · intro h
      have h3 : errC (specE s 400 0).1 = 0 := by injection h with _ h; injection h
      unfold errC at h3; split at h3 <;> omega
    · rintro ⟨h, _⟩; omega
  · rw [if_neg hn]
    have hle := specE_le s 400 0 (by omega)
    by_cases h2 : 20000 < (specE s 400 0).1
    · rw [if_pos h2]
      constructor
      · intro h
        have h3 : (3 : Int) = 0 := by injection h with _ h; injection h
        omega
      · rintro ⟨h, h'⟩; omega
    · rw [if_neg h2]
      constructor
      · intro h
        injection h with h1 h3
        injection h3 with h3 h4
        have := congrArg List.length h3
        simp at this
        omega
      · rintro ⟨h, h'⟩
        have : (specE s 400 0).1.toNat = s.length := by omega
        rw [this]; simp
theorem right_spec {s : List UInt8} (hb : s.length ≤ 140737488355328) : term_Right.f s = some (rightB s) := by
  unfold term_Right.f
  rw [take_spec hb, Option.bind_some]
  congr 1
  rw [strEq_eq, strEq_eq, Bool.eq_iff_iff, ← takeE_right]
  obtain ⟨a, b, c⟩ := takeE s
  constructor
  · intro h
    by_cases h1 : c = 0
    · subst h1
      by_cases h2 : b = []
      · subst h2
        by_cases h3 : a = s
        · rw [h3]
        · simp [h3] at h
      · simp [h2] at h
    · simp [h1] at h
  · intro h
    cases h
    simp
theorem rightB_len {s : List UInt8} (h : rightB s = true) : 0 < s.length ∧ s.length ≤ 20000 := by
  unfold rightB at h
  rw [decide_eq_true_eq] at h
  have := specE_le s 400 0 (by omega)
  omega
end Go.Proofs.YtfapphlhkfddoaaGreatDoor.G
/- Terms that are made: what is put together of right ones is right. -/
namespace Go.Proofs.YtfapphlhkfddoaaGreatDoor.G
open Go.RowKit Go.Eng Go.Proofs Go.Proofs.YtfapphlhkfddoaaGreatDoor.Cut
set_option linter.unusedVariables false
set_option linter.unusedSimpArgs false

/-- A text that is a term, whole, when so many calls are left. -/
def full (s : List UInt8) (left : Nat) : Prop := (specE s left 0).1 = (s.length : Int)
theorem full_mono {s : List UInt8} {l m : Nat} (h : full s l) (hm : l ≤ m) : full s m := by
  unfold full at *
  rw [specE_mono hm (by rw [h]; omega)]; exact h
theorem full_pos {s : List UInt8} {l : Nat} (h : full s l) : 0 < s.length := by
  have := specE_le s l 0 (by unfold full at h; rw [h]; omega)
  unfold full at h
  omega
theorem full_right {s : List UInt8} (h : full s 400) (hl : s.length ≤ 20000) : rightB s = true := by
  unfold rightB; rw [decide_eq_true_eq]; exact ⟨h, hl⟩
theorem full_at {p s r : List UInt8} {left : Nat} (h : full s left) : (specE (p ++ s ++ r) left p.length).1 = ((p.length + s.length : Nat) : Int) := by
  have h1 : specE (p ++ s ++ r) left (p.length + 0) = shE p.length (specE ((p ++ s ++ r).drop p.length) left 0) := specE_shift _ _ _ _
  have h2 : (p ++ s ++ r).drop p.length = s ++ r := by rw [List.append_assoc, List.drop_left]
  have h3 : specE (s ++ r) left 0 = specE s left 0 := specE_local (E := s.length) (by simp) (Nat.le_refl _) (by simp) left 0 (by rw [h]; omega) (by rw [h]; exact Int.le_refl _)
  rw [Nat.add_zero, h2, h3] at h1
  rw [h1]
  unfold shE
  rw [if_neg (by rw [h]; omega), h]
  show (s.length : Int) + (p.length : Int) = _
  omega
theorem full_many {left : Nat} (p : Bool) : ∀ (l : List (List UInt8)) (pre post last : List UInt8) (d : Nat), (∀ x ∈ l, full x left) → (p = true → (∀ x ∈ l, strLt x last = false) ∧ l.Pairwise (fun a b => strLt b a = false)) →
    (manyF (specE (pre ++ l.flatten ++ post) left) (pre ++ l.flatten ++ post) p l.length pre.length last d).1 = ((pre ++ l.flatten).length : Int)
  | [], pre, post, last, d, _, _ => by simp [manyF]
  | x :: l, pre, post, last, d, hf, hs => by
    have e : pre ++ (x :: l).flatten ++ post = (pre ++ x) ++ l.flatten ++ post := by simp
    have e1 : pre ++ (x :: l).flatten ++ post = pre ++ x ++ (l.flatten ++ post) := by simp
    have hx : (specE (pre ++ (x :: l).flatten ++ post) left pre.length).1 = ((pre.length + x.length : Nat) : Int) := by rw [e1]; exact full_at (hf x List.mem_cons_self)
    rw [List.length_cons]
    unfold manyF
    rw [if_neg (by rw [hx]; omega), hx]
    have ht : ((pre ++ (x :: l).flatten ++ post).drop pre.length).take (((pre.length + x.length : Nat) : Int).toNat - pre.length) = x := by
      rw [e1, List.append_assoc, List.drop_left, Int.toNat_natCast, Nat.add_sub_cancel_left, List.take_left]
    rw [ht]
    have hc : ¬ (p && strLt x last) = true := by
      cases p with
      | false => simp
      | true => rw [(hs rfl).1 x List.mem_cons_self]; simp
    rw [if_neg hc, Int.toNat_natCast]
    have hlen : pre.length + x.length = (pre ++ x).length := by simp
    have ih := full_many p l (pre ++ x) post x (max d (specE (pre ++ (x :: l).flatten ++ post) left pre.length).2.toNat) (fun y hy => hf y (List.mem_cons_of_mem _ hy)) (fun hp => ⟨fun y hy => (List.pairwise_cons.1 (hs hp).2).1 y hy, (List.pairwise_cons.1 (hs hp).2).2⟩)
    rw [hlen]
    rw [← e] at ih
    rw [ih]
    simp
/-- A term of others. -/
theorem full_of {c : UInt8} {r : List UInt8} {n o : Nat} {p : Bool} {left : Nat} {h l : List UInt8} {xs : List (List UInt8)} (ho : openT c r = some (n, p, o)) (hs : c :: r = h ++ xs.flatten) (hn : n = xs.length) (hh : h.length = o) (hf : ∀ x ∈ xs, full x left) (hp : p = true → xs.Pairwise (fun a b => strLt b a = false)) : full (c :: r) (left + 1) := by
  unfold full
  rw [specE_succ, List.drop_zero]
  show (if leafN c r ≠ 0 then _ else _ : Int × Int).1 = _
  rw [if_neg (by rw [leaf_open (r' := r) ho]; simp), ho]
  show (manyF (specE (c :: r) left) (c :: r) p n (0 + o) [] 0).1 = _
  have hm := full_many (left := left) p xs h [] [] 0 hf (fun hp' => ⟨fun x _ => by rw [strLt_eq]; cases x <;> rfl, hp hp'⟩)
  rw [List.append_nil, ← hs, hh, ← hn] at hm
  rw [Nat.zero_add, hm]
theorem full_name (x : Int) : full (countedT 110 x) 1 := by
  unfold full
  rw [specE_succ, List.drop_zero]
  show (if leafN 110 (bytesOf x 8) ≠ 0 then _ else _ : Int × Int).1 = _
  have h : leafN 110 (bytesOf x 8) = 9 := by unfold leafN; rw [bytesOf_length]; rfl
  rw [h, if_pos (by simp)]
  simp [countedT, bytesOf_length]
theorem full_gen : full [103] 1 := rfl
theorem full_key {e : List UInt8} {left : Nat} (h : full e left) (he : ∃ d r, e = d :: r ∧ (d = 103 ∨ d = 101)) : full (107 :: e) (left + 1) := by
  obtain ⟨d, r, rfl, hd⟩ := he
  exact full_of (l := []) (h := [107]) (xs := [d :: r]) (n := 1) (o := 1) (p := false) (by unfold openT; rw [if_pos rfl]; simp only; rw [if_pos hd]) (by simp) rfl rfl (fun x hx => by rw [List.mem_singleton.1 hx]; exact h) (fun hp => by cases hp)
theorem lt_not {a b : List UInt8} (h : a ≤ b) : strLt b a = false := by
  rw [strLt_eq, bytesLess_eq, decide_eq_false_iff_not]
  exact List.not_lt.2 h
theorem sortB_sorted (l : List (List UInt8)) : (sortB l).Pairwise (fun a b => strLt b a = false) := by
  have h := List.pairwise_mergeSort (le := fun x y : List UInt8 => decide (x ≤ y)) (by intro a b c h1 h2; simp only [decide_eq_true_eq] at *; exact List.le_trans h1 h2) (by intro a b; simp only [Bool.or_eq_true, decide_eq_true_eq]; exact List.le_total a b) l
  exact h.imp (by intro a b h; exact lt_not (by simpa using h))
theorem sortB_perm (l : List (List UInt8)) : (sortB l).Perm l := List.mergeSort_perm _ _
theorem full_pow {l : List (List UInt8)} {left : Nat} (hf : ∀ x ∈ l, full x left) (h0 : 0 < l.length) (h1 : l.length ≤ 32) : full (powT l) (left + 1) := by
  have hn : (UInt8.ofNat l.length).toNat = l.length := by rw [UInt8.toNat_ofNat']; omega
  refine full_of (l := []) (h := [101, UInt8.ofNat l.length]) (xs := sortB l) (n := l.length) (o := 2) (p := true) (c := 101) (r := UInt8.ofNat l.length :: (sortB l).flatten) ?_ rfl (sortB_len l).symm rfl (fun x hx => hf x ((sortB_perm l).mem_iff.1 hx)) (fun _ => sortB_sorted l)
  unfold openT
  simp only
  rw [if_neg (by decide), if_neg (by decide), if_neg (by decide), if_neg (by decide), if_pos trivial, hn, if_pos (by omega)]
theorem whole_eq {s : List UInt8} (h : rightB s = true) : term_whole.f s = some (s, 0) := by
  have hl := (rightB_len h).2
  unfold term_whole.f
  rw [cond_f (by omega), right_spec (by omega), Option.bind_some, h]; rfl
theorem element_eq {c : UInt8} {r : List UInt8} (h : rightB (c :: r) = true) (hc : c = 103 ∨ c = 101) : term_element.f (c :: r) = some true := by
  have hl := (rightB_len h).2
  unfold term_element.f
  rw [right_spec (by omega), Option.bind_some, h, cond_true, idxS0, Option.bind_some]
  rcases hc with rfl | rfl
  · rfl
  · rfl
theorem exponents_gen : term_exponents.f [103] = some [] := rfl
theorem take_first {x rest : List UInt8} (h : full x 400) (hl : (x ++ rest).length ≤ 20000) : term_Take.f (x ++ rest) = some (x, rest, 0) := by
  have hx := full_at (p := []) (r := rest) h
  rw [List.nil_append, show ([] : List UInt8).length = 0 from rfl, Nat.zero_add] at hx
  have hl2 : x.length ≤ 20000 := by rw [List.length_append] at hl; omega
  rw [take_spec (by omega)]
  unfold takeE
  rw [if_neg (by rw [hx]; omega), if_neg (by rw [hx]; omega), hx, Int.toNat_natCast, List.take_left, List.drop_left]
theorem exponents_pow {l : List (List UInt8)} {n : UInt8} (hf : ∀ x ∈ l, full x 400) (hl : l.flatten.length ≤ 20000) : term_exponents.f (101 :: n :: l.flatten) = some l := by
  have go : ∀ (r done : List (List UInt8)), done ++ r = l → loopM (fun s193 : (List (List UInt8)) × (List UInt8) => term_exponents.b1 s193.1 s193.2) (done, r.flatten) = some l := by
    intro r
    induction r with
    | nil =>
      intro done hd
      refine loop_end ?_
      show term_exponents.b1 done [] = _
      unfold term_exponents.b1
      rw [strEq_eq, ← hd]; simp
    | cons x r ih =>
      intro done hd
      have hx : full x 400 := hf x (by rw [← hd]; simp)
      have hflat : (x :: r).flatten = x ++ r.flatten := rfl
      have hlen : (x ++ r.flatten).length ≤ 20000 := by
        have := congrArg (fun l => l.flatten.length) hd
        simp only [List.flatten_append, List.length_append, List.flatten_cons] at this
        rw [List.length_append]
        omega
      have hdl : done.length ≤ 20000 := by
        have h1 : ∀ q : List (List UInt8), (∀ y ∈ q, full y 400) → q.length ≤ q.flatten.length := by
          intro q
          induction q with
          | nil => intro _; exact Nat.le_refl _
          | cons y q ihq =>
            intro hq
            have := full_pos (hq y List.mem_cons_self)
            have := ihq fun z hz => hq z (List.mem_cons_of_mem _ hz)
            simp only [List.length_cons, List.flatten_cons, List.length_append]; omega
        have h2 := h1 done fun y hy => hf y (by rw [← hd]; exact List.mem_append_left _ hy)
        have := congrArg (fun l => l.flatten.length) hd
        simp only [List.flatten_append, List.length_append] at this
        omega
      refine loop_step ?_ (ih (done ++ [x]) (by rw [← hd]; simp))
      show term_exponents.b1 done (x :: r).flatten = _
      unfold term_exponents.b1
      have hne : strEq (x :: r).flatten [] = false := by
        rw [strEq_eq, decide_eq_false_iff_not, hflat]
        intro e
        have := full_pos hx
        rw [List.append_eq_nil_iff] at e
        rw [e.1] at this; simp at this
      rw [hne, hflat, take_first hx hlen]
      show roomM 16 (done.length + 1) _ = _
      rw [room_of (by omega)]
  unfold term_exponents.f
  have h1 : idxS (101 :: n :: l.flatten) (0 : Int) = some 101 := rfl
  rw [h1, Option.bind_some, show ((101 : Int) == 103) = false from rfl, cond_false, show (2 : Int) = ((2 : Nat) : Int) from rfl, slc_to (by simp), Option.bind_some, show (101 :: n :: l.flatten).drop 2 = l.flatten from rfl, go l [] rfl]
  rfl
theorem flatten_sortB (l : List (List UInt8)) : (sortB l).flatten.length = l.flatten.length := by
  have h : ∀ a b : List (List UInt8), a.Perm b → a.flatten.length = b.flatten.length := by
    intro a b h
    induction h with
    | nil => rfl
    | cons x _ ih => simp only [List.flatten_cons, List.length_append, ih]
    | swap x y l => simp only [List.flatten_cons, List.length_append]; omega
    | trans _ _ h1 h2 => exact h1.trans h2
  exact h _ _ (sortB_perm l)
theorem powT_len (l : List (List UInt8)) : (powT l).length = 2 + l.flatten.length := by
  unfold powT
  rw [List.length_append, flatten_sortB]; rfl
/-- An element to one power more. -/
theorem power_eq {c : UInt8} {r v : List UInt8} {l : List (List UInt8)} (hx : rightB (c :: r) = true) (hc : c = 103 ∨ c = 101) (hv : rightB v = true) (he : term_exponents.f (c :: r) = some l) (hl : l.length + 1 ≤ 32) (hw : rightB (powT (l ++ [v])) = true) : term_Power.f (c :: r) v = some (powT (l ++ [v]), 0) := by
  have h2 := (rightB_len hv).2
  have h3 := (rightB_len hw).2
  rw [powT_len, ← flatten_sortB] at h3
  unfold term_Power.f
  rw [element_eq hx hc, Option.bind_some]
  show (term_Right.f v).bind _ = _
  rw [right_spec (by omega), Option.bind_some, hv]
  show (term_exponents.f (c :: r)).bind _ = _
  rw [he, Option.bind_some, given_of (by omega), if_neg (by omega), given_of (by omega), whole_eq hw]
theorem key_eq {c : UInt8} {r : List UInt8} (hx : rightB (c :: r) = true) (hc : c = 103 ∨ c = 101) (hw : rightB (107 :: c :: r) = true) : term_Key.f (c :: r) = some (107 :: c :: r, 0) := by
  have h3 := (rightB_len hw).2
  simp only [List.length_cons] at h3
  unfold term_Key.f
  rw [element_eq hx hc, Option.bind_some]
  show roomM 1 _ _ = _
  rw [room_of (by simp only [List.length_cons, List.length_nil]; omega)]
  show (term_whole.f (107 :: c :: r)).bind _ = _
  rw [whole_eq hw]; rfl
end Go.Proofs.YtfapphlhkfddoaaGreatDoor.G
/- Terms that are made of others: when two are the same. -/
namespace Go.Proofs.YtfapphlhkfddoaaGreatDoor.G
open Go.RowKit Go.Eng Go.Proofs Go.Proofs.YtfapphlhkfddoaaGreatDoor.Cut
set_option linter.unusedVariables false
set_option linter.unusedSimpArgs false
theorem sortB_le (l : List (List UInt8)) : (sortB l).Pairwise (· ≤ ·) := by
  have h := List.pairwise_mergeSort (le := fun x y : List UInt8 => decide (x ≤ y)) (by intro a b c h1 h2; simp only [decide_eq_true_eq] at *; exact List.le_trans h1 h2) (by intro a b; simp only [Bool.or_eq_true, decide_eq_true_eq]; exact List.le_total a b) l
  exact h.imp (by intro a b h; simpa using h)
theorem sortB_congr {l m : List (List UInt8)} (h : l.Perm m) : sortB l = sortB m :=
  List.Perm.eq_of_pairwise (le := fun a b : List UInt8 => a ≤ b) (fun a b _ _ h1 h2 => List.le_antisymm h1 h2) (sortB_le l) (sortB_le m) ((sortB_perm l).trans (h.trans (sortB_perm m).symm))
theorem powT_congr {l m : List (List UInt8)} (h : l.Perm m) : powT l = powT m := by
  unfold powT
  rw [sortB_congr h, h.length_eq]
end Go.Proofs.YtfapphlhkfddoaaGreatDoor.G
/- Elements, and secrets above: what they are of right ones. -/
namespace Go.Proofs.YtfapphlhkfddoaaGreatDoor.G
open Go.RowKit Go.Eng Go.Proofs Go.Proofs.YtfapphlhkfddoaaGreatDoor.Cut
set_option linter.unusedVariables false
set_option linter.unusedSimpArgs false

theorem sortB_one (u : List UInt8) : sortB [u] = [u] := List.perm_singleton.1 (sortB_perm [u])
theorem powT_one (u : List UInt8) : powT [u] = 101 :: 1 :: u := by
  unfold powT
  rw [sortB_one]
  show 101 :: UInt8.ofNat 1 :: (u ++ []) = _
  rw [List.append_nil]; rfl
theorem right_gen : rightB [103] = true := full_right (full_mono full_gen (by omega)) (by simp)
theorem full_elem {u : List UInt8} {left : Nat} (hu : full u left) : full (101 :: 1 :: u) (left + 1) := by
  rw [← powT_one]
  exact full_pow (fun x hx => by rw [List.mem_singleton.1 hx]; exact hu) (by simp) (by simp)
theorem elem_eq {u : List UInt8} (hu : full u 399) (hl : u.length + 2 ≤ 20000) : blind_Element.f u = some (101 :: 1 :: u, 0) := by
  have hp : rightB (powT ([] ++ [u])) = true := by
    rw [List.nil_append, powT_one]
    exact full_right (full_elem hu) (by simpa using hl)
  have h := power_eq (c := 103) (r := []) (l := []) right_gen (.inl rfl) (full_right (full_mono hu (by omega)) (by omega)) exponents_gen (by simp) hp
  rw [List.nil_append, powT_one] at h
  unfold blind_Element.f term_Gen.f
  rw [Option.bind_some, h]; rfl
theorem exps_elem {u : List UInt8} (hu : full u 400) (hl : u.length ≤ 20000) : term_exponents.f (101 :: 1 :: u) = some [u] := by
  have h := exponents_pow (l := [u]) (n := 1) (fun x hx => by rw [List.mem_singleton.1 hx]; exact hu) (by simpa using hl)
  simpa using h
theorem full_two {u v : List UInt8} {left : Nat} (hu : full u left) (hv : full v left) : full (powT [u, v]) (left + 1) :=
  full_pow (fun x hx => by
    rcases List.mem_cons.1 hx with h | h
    · rw [h]; exact hu
    · rw [List.mem_singleton.1 h]; exact hv) (by simp) (by simp)
theorem powT_head (l : List (List UInt8)) : ∃ r, powT l = 101 :: r := ⟨_, rfl⟩
theorem full_above {u v : List UInt8} {left : Nat} (hu : full u left) (hv : full v left) : full (107 :: powT [u, v]) (left + 2) :=
  full_key (full_two hu hv) ⟨101, _, rfl, .inr rfl⟩
theorem above_len (u v : List UInt8) : (107 :: powT [u, v]).length = u.length + v.length + 3 := by
  rw [List.length_cons, powT_len]; simp; omega
theorem pow2_eq {u v : List UInt8} (hu : full u 399) (hv : full v 399) (hl : u.length + v.length + 2 ≤ 20000) : term_Power.f (101 :: 1 :: u) v = some (powT [u, v], 0) := by
  have he := full_mono (full_elem hu) (show 400 ≤ 400 by omega)
  exact power_eq (c := 101) (r := 1 :: u) (l := [u]) (full_right he (by simp; omega)) (.inr rfl) (full_right (full_mono hv (by omega)) (by omega)) (exps_elem (full_mono hu (by omega)) (by omega)) (by simp) (full_right (full_two hu hv) (by rw [List.singleton_append, powT_len]; simp; omega))
theorem above_eq {u v : List UInt8} (hu : full u 398) (hv : full v 398) (hl : u.length + v.length + 3 ≤ 20000) : blind_Above.f v (101 :: 1 :: u) = some (107 :: powT [u, v], 0) := by
  have h := pow2_eq (full_mono hu (by omega)) (full_mono hv (by omega)) (show u.length + v.length + 2 ≤ 20000 by omega)
  unfold blind_Above.f
  rw [h, Option.bind_some]
  obtain ⟨r, hr⟩ := powT_head [u, v]
  have h2 : full (powT [u, v]) 400 := full_mono (full_two hu hv) (by omega)
  have h3 := powT_len [u, v]
  have h4 := full_above hu hv
  show (term_Key.f (powT [u, v])).bind _ = _
  rw [hr] at h2 h3 h4 ⊢
  rw [key_eq (full_right h2 (by rw [h3]; simp; omega)) (.inr rfl) (full_right h4 (by rw [List.length_cons, h3]; simp; omega))]
  rfl
end Go.Proofs.YtfapphlhkfddoaaGreatDoor.G
/- Secrets of trees, blinds of nodes, and the secrets to which one climbs. -/
namespace Go.Proofs.YtfapphlhkfddoaaGreatDoor.G
open Go.RowKit Go.Eng Go.Proofs Go.Proofs.YtfapphlhkfddoaaGreatDoor.Cut
set_option linter.unusedVariables false
set_option linter.unusedSimpArgs false

/-- The secret of a tree, by its leaves' ones. -/
def secT (nm : Int → List UInt8) : Tr → List UInt8
  | .leaf p => nm p
  | .two l r => 107 :: powT [secT nm l, secT nm r]
/-- Secrets that are names. -/
def isNm (nm : Int → List UInt8) (T : Tr) : Prop := ∀ p ∈ T.leavesR, full (nm p) 1 ∧ (nm p).length = 9
theorem isNm_two {nm : Int → List UInt8} {l r : Tr} (h : isNm nm (.two l r)) : isNm nm l ∧ isNm nm r := ⟨fun p hp => h p (List.mem_append_right _ hp), fun p hp => h p (List.mem_append_left _ hp)⟩
theorem secT_full {nm : Int → List UInt8} : ∀ T : Tr, isNm nm T → full (secT nm T) (2 * T.leavesR.length) ∧ (secT nm T).length + 3 = 12 * T.leavesR.length
  | .leaf p, h => by
    obtain ⟨h1, h2⟩ := h p (List.mem_singleton.2 rfl)
    refine ⟨full_mono h1 (by simp [Tr.leavesR]), ?_⟩
    show (nm p).length + 3 = 12 * 1
    omega
  | .two l r, h => by
    obtain ⟨hl, hr⟩ := isNm_two h
    obtain ⟨f1, l1⟩ := secT_full l hl
    obtain ⟨f2, l2⟩ := secT_full r hr
    have p1 := leavesR_pos l
    have p2 := leavesR_pos r
    have e : (Tr.two l r).leavesR.length = r.leavesR.length + l.leavesR.length := by simp [Tr.leavesR]
    rw [e]
    refine ⟨?_, ?_⟩
    · have := full_above (full_mono f1 (show 2 * l.leavesR.length ≤ 2 * (r.leavesR.length + l.leavesR.length) - 2 by omega)) (full_mono f2 (show 2 * r.leavesR.length ≤ 2 * (r.leavesR.length + l.leavesR.length) - 2 by omega))
      rw [show 2 * (r.leavesR.length + l.leavesR.length) - 2 + 2 = 2 * (r.leavesR.length + l.leavesR.length) by omega] at this
      exact this
    · show (107 :: powT [secT nm l, secT nm r]).length + 3 = _
      rw [above_len]; omega
/-- A tree of no more than eight leaves. -/
def smallT (nm : Int → List UInt8) (T : Tr) : Prop := isNm nm T ∧ T.leavesR.length ≤ 8
theorem sec_le {nm : Int → List UInt8} {T : Tr} (h : smallT nm T) : full (secT nm T) 398 ∧ (secT nm T).length ≤ 96 := by
  obtain ⟨f, l⟩ := secT_full T h.1
  have := h.2
  exact ⟨full_mono f (by omega), by omega⟩
theorem sec_elem {nm : Int → List UInt8} {T : Tr} (h : smallT nm T) : blind_Element.f (secT nm T) = some (101 :: 1 :: secT nm T, 0) := by
  obtain ⟨f, l⟩ := sec_le h
  exact elem_eq (full_mono f (by omega)) (by omega)
theorem sec_above {nm : Int → List UInt8} {S T : Tr} (h1 : smallT nm S) (h2 : smallT nm T) : blind_Above.f (secT nm T) (101 :: 1 :: secT nm S) = some (107 :: powT [secT nm S, secT nm T], 0) := by
  obtain ⟨f, l⟩ := sec_le h1
  obtain ⟨f2, l2⟩ := sec_le h2
  exact above_eq f f2 (by omega)
/-! Names of their own. -/
def nmAt (first : Int) (i : Nat) : List UInt8 := countedT 110 (IntKind.u64.wrap (first + IntKind.u64.wrap (i : Int)))
theorem nmAt_ok (first : Int) (i : Nat) : full (nmAt first i) 1 ∧ (nmAt first i).length = 9 := ⟨full_name _, by simp [nmAt, countedT, bytesOf_length]⟩
/-- A member's name, by its place among all. -/
def nmOf (m : List Int) (first : Int) (p : Int) : List UInt8 := nmAt first (m.idxOf p)
theorem nm_small {T : Tr} (hk : T.ok) (hn : T.leavesR.Nodup) (m : List Int) (first : Int) {S : Tr} {n : List UInt8} (hs : subT T n = some S) : smallT (nmOf m first) S := by
  obtain ⟨k1, k2, k3, k4⟩ := sub_ok4 hk hn hs
  exact ⟨fun p _ => nmAt_ok _ _, leaves_eight k1 k2⟩
/-! What is told of the nodes. -/
def secAt (T : Tr) (nm : Int → List UInt8) (n : List UInt8) : List UInt8 := match subT T n with
  | some S => secT nm S
  | none => []
theorem secAt_in {T S : Tr} {nm : Int → List UInt8} {n : List UInt8} (h : subT T n = some S) : secAt T nm n = secT nm S := by unfold secAt; rw [h]
/-- Nodes from a depth up to the root. -/
def upD (π : List UInt8) : Nat → List (List UInt8)
  | 0 => [[]]
  | d + 1 => π.take (d + 1) :: upD π d
theorem upD_map (π : List UInt8) : ∀ d, ((List.range (d + 1)).map fun j => π.take (d - j)) = upD π d
  | 0 => by simp [upD]
  | d + 1 => by
    rw [List.range_succ_eq_map, List.map_cons, List.map_map]
    show π.take (d + 1 - 0) :: _ = π.take (d + 1) :: upD π d
    rw [Nat.sub_zero, ← upD_map π d]
    congr 1
    refine List.map_congr_left fun j _ => ?_
    show π.take (d + 1 - (j + 1)) = _
    rw [Nat.add_sub_add_right]
theorem upT_upD (π : List UInt8) : upT π = upD π π.length := upD_map π π.length
/-- What is beside them. -/
def coD (π : List UInt8) : Nat → List (List UInt8)
  | 0 => []
  | d + 1 => besideT (π.take (d + 1)) :: coD π d
theorem coD_eq (π : List UInt8) : ∀ d, (upD π d).dropLast.map besideT = coD π d
  | 0 => rfl
  | d + 1 => by
    have h : upD π d ≠ [] := by cases d <;> simp [upD]
    show ((π.take (d + 1) :: upD π d).dropLast).map besideT = _
    rw [List.dropLast_cons_of_ne_nil h, List.map_cons, coD_eq π d]
    rfl
theorem coD_len (π : List UInt8) : ∀ d, (coD π d).length = d
  | 0 => rfl
  | d + 1 => by show (coD π d).length + 1 = _; rw [coD_len π d]
/-- The secrets above a depth, as far as blinds are told. -/
def resD (T : Tr) (nm : Int → List UInt8) (l : List D_blind_Blind) (π : List UInt8) : Nat → List (List UInt8)
  | 0 => []
  | d + 1 => if besideT (π.take (d + 1)) ∈ l.map (·.1) then secAt T nm (π.take d) :: resD T nm l π d else []
theorem sib_at {T : Tr} {p : Int} {π : List UInt8} (hπ : pathL T p = some π) {d : Nat} (hd : d < π.length) : ∃ l r : Tr, subT T (π.take d) = some (.two l r) ∧ ((subT T (π.take (d + 1)) = some l ∧ subT T (besideT (π.take (d + 1))) = some r) ∨ (subT T (π.take (d + 1)) = some r ∧ subT T (besideT (π.take (d + 1))) = some l)) := by
  obtain ⟨S, hs, _⟩ := path_node hπ d
  obtain ⟨S2, hs2, _⟩ := path_node hπ (d + 1)
  have hc := (path_leafAt T p π hπ).2 π[d] (List.getElem_mem hd)
  have e : π.take (d + 1) = π.take d ++ [π[d]] := (take_snoc hd).symm
  rw [e, sub_append, hs] at hs2
  have hs2 : subT S [π[d]] = some S2 := hs2
  cases S with
  | leaf q => cases hs2
  | two l r =>
    refine ⟨l, r, hs, ?_⟩
    rw [e, besideT_snoc, sub_append, sub_append, hs]
    rcases hc with h | h
    · rw [h]
      exact .inl ⟨by show subT l [] = _; rw [subT_nil], by show subT r [] = _; rw [subT_nil]⟩
    · rw [h]
      exact .inr ⟨by show subT r [] = _; rw [subT_nil], by show subT l [] = _; rw [subT_nil]⟩
theorem climbGo_cons (l : List D_blind_Blind) (n : List UInt8) (co : List (List UInt8)) (s : List UInt8) : climbGo l (n :: co) s = if idxOf (fun b : D_blind_Blind => decide (b.1 = n)) l < 0 then some [] else (idxL l (idxOf (fun b : D_blind_Blind => decide (b.1 = n)) l)).bind fun b => (blind_Above.f s b.2).bind fun r => if r.2 ≠ 0 then some [] else (climbGo l co r.1).map (r.1 :: ·) := rfl
theorem resD_succ (T : Tr) (nm : Int → List UInt8) (l : List D_blind_Blind) (π : List UInt8) (d : Nat) : resD T nm l π (d + 1) = if besideT (π.take (d + 1)) ∈ l.map (·.1) then secAt T nm (π.take d) :: resD T nm l π d else [] := rfl
/-- Blinds that are right. -/
def rightL (T : Tr) (nm : Int → List UInt8) (l : List D_blind_Blind) : Prop := ∀ b ∈ l, b.2 = 101 :: 1 :: secAt T nm b.1
theorem climb_res {T : Tr} (hk : T.ok) (hn : T.leavesR.Nodup) {m : List Int} {first : Int} {l : List D_blind_Blind} (hl : rightL T (nmOf m first) l) {p : Int} {π : List UInt8} (hπ : pathL T p = some π) : ∀ d, d ≤ π.length →
    climbGo l (coD π d) (secAt T (nmOf m first) (π.take d)) = some (resD T (nmOf m first) l π d)
  | 0, _ => rfl
  | d + 1, hd => by
    obtain ⟨tl, tr, h1, h2⟩ := sib_at hπ (show d < π.length by omega)
    have ih := climb_res hk hn hl hπ d (by omega)
    rw [show coD π (d + 1) = besideT (π.take (d + 1)) :: coD π d from rfl, climbGo_cons, resD_succ]
    by_cases hin : besideT (π.take (d + 1)) ∈ l.map (·.1)
    · rw [if_pos hin]
      obtain ⟨b0, hb0, hb1⟩ := List.mem_map.1 hin
      obtain ⟨k, hk2⟩ : ∃ k, l.findIdx? (fun b : D_blind_Blind => decide (b.1 = besideT (π.take (d + 1)))) = some k := by
        cases hq : l.findIdx? (fun b : D_blind_Blind => decide (b.1 = besideT (π.take (d + 1)))) with
        | some k => exact ⟨k, rfl⟩
        | none =>
          have := List.findIdx?_eq_none_iff.1 hq b0 hb0
          simp [hb1] at this
      obtain ⟨hkl, hkt, _⟩ := List.findIdx?_eq_some_iff_getElem.1 hk2
      have hidx : idxOf (fun b : D_blind_Blind => decide (b.1 = besideT (π.take (d + 1)))) l = (k : Int) := by unfold idxOf; rw [hk2]
      rw [hidx, if_neg (by omega), idxL_lt hkl, Option.bind_some, hl l[k] (List.getElem_mem hkl), of_decide_eq_true hkt]
      have hab : blind_Above.f (secAt T (nmOf m first) (π.take (d + 1))) (101 :: 1 :: secAt T (nmOf m first) (besideT (π.take (d + 1)))) = some (secAt T (nmOf m first) (π.take d), 0) := by
        rw [secAt_in h1]
        rcases h2 with ⟨a, b⟩ | ⟨a, b⟩
        · rw [secAt_in a, secAt_in b, sec_above (nm_small hk hn m first b) (nm_small hk hn m first a)]
          show some (107 :: powT [secT _ tr, secT _ tl], (0 : Int)) = some (107 :: powT [secT _ tl, secT _ tr], 0)
          rw [powT_congr (List.Perm.swap _ _ _)]
        · rw [secAt_in a, secAt_in b, sec_above (nm_small hk hn m first b) (nm_small hk hn m first a)]
          rfl
      rw [hab, Option.bind_some]
      show (climbGo l (coD π d) (secAt T (nmOf m first) (π.take d))).map _ = _
      rw [ih]; rfl
    · rw [if_neg hin]
      have hidx : idxOf (fun b : D_blind_Blind => decide (b.1 = besideT (π.take (d + 1)))) l = -1 := by
        unfold idxOf
        rw [List.findIdx?_eq_none_iff.2 (fun x hx => by
          simp only [decide_eq_false_iff_not]
          exact fun e => hin (List.mem_map.2 ⟨x, hx, e⟩))]
      rw [hidx, if_pos (by omega)]
end Go.Proofs.YtfapphlhkfddoaaGreatDoor.G
/- The blinds of all nodes but the root, as they are reckoned. -/
namespace Go.Proofs.YtfapphlhkfddoaaGreatDoor.G
open Go.RowKit Go.Eng Go.Proofs Go.Proofs.YtfapphlhkfddoaaGreatDoor.Cut
set_option linter.unusedVariables false
set_option linter.unusedSimpArgs false

section
variable {s : List UInt8} {xs : List (List UInt8)} {N : List (List UInt8)} {m k : List Int} {out : List D_blind_Blind} {i : Int} {at_ : List UInt8 × Int}
end
end Go.Proofs.YtfapphlhkfddoaaGreatDoor.G
/- Chapter 15's example. -/
namespace Go.Proofs.YtfapphlhkfddoaaGreatDoor.G
open Go.RowKit Go.Eng Go.Proofs Go.Proofs.YtfapphlhkfddoaaGreatDoor.Cut
set_option linter.unusedVariables false
set_option linter.unusedSimpArgs false
end Go.Proofs.YtfapphlhkfddoaaGreatDoor.G
/- BlindMeet, as it is reckoned. -/
namespace Go.Proofs.YtfapphlhkfddoaaGreatDoor.G
open Go.RowKit Go.Eng Go.Proofs Go.Proofs.YtfapphlhkfddoaaGreatDoor.Cut
set_option linter.unusedVariables false
set_option linter.unusedSimpArgs false

theorem path_of {T : Tr} (hk : T.ok) (hn : T.leavesR.Nodup) {p : Int} {π : List UInt8} (hπ : pathL T p = some π) : place_Path.f T.text p = some (upT π) ∧ place_Co.f T.text p = some (coD π π.length) := by
  have hlen := tree_len hk hn
  have ho : ofM T.text = some T := by rw [ofM_iff hk, if_pos hn]
  have hp : pathM T.text p = upT π := by rw [pathM_eq ho, hπ]
  refine ⟨?_, ?_⟩
  · unfold place_Path.f; rw [given_of (by omega), hp]
  · rw [co_eq (by omega)]
    unfold coM
    rw [hp, upT_upD, coD_eq]
theorem climb_eq {T : Tr} (hk : T.ok) (hn : T.leavesR.Nodup) {m : List Int} {first : Int} {l : List D_blind_Blind} (hl : rightL T (nmOf m first) l) (hll : l.length ≤ 10000) {p : Int} {π : List UInt8} (hπ : pathL T p = some π) :
    blind_Climb.f T.text p (nmOf m first p) l = some (secAt T (nmOf m first) (π.take π.length) :: resD T (nmOf m first) l π π.length) := by
  obtain ⟨h1, h2⟩ := path_of hk hn hπ
  have h8 := leaves_eight hk hn
  have hpl := pathL_len T p π hπ
  have hs : secAt T (nmOf m first) (π.take π.length) = nmOf m first p := by
    rw [List.take_length, secAt_in (path_leafAt T p π hπ).1]; rfl
  have hne : upT π ≠ [] := fun e => by have := congrArg List.length e; rw [up_len] at this; simp at this
  unfold blind_Climb.f
  rw [h1, Option.bind_some, if_neg hne, h2, Option.bind_some, given_of ⟨by rw [coD_len]; omega, by omega⟩]
  have := climb_res hk hn hl hπ π.length (by omega)
  rw [hs] at this ⊢
  rw [this]; rfl
theorem leaf_path {T : Tr} {p : Int} (h : p ∈ T.leavesR) : ∃ π, pathL T p = some π := by
  have := pathL_some T p
  rw [decide_eq_true h] at this
  exact Option.isSome_iff_exists.1 this
theorem members_of {T : Tr} (hk : T.ok) (hn : T.leavesR.Nodup) : tree_Members.f T.text = some (sortZ T.leavesR) := by
  have hlen := tree_len hk hn
  unfold tree_Members.f; rw [given_of (by omega), members_text hk hn]
end Go.Proofs.YtfapphlhkfddoaaGreatDoor.G
/- BlindPartly, as it is reckoned. -/
namespace Go.Proofs.YtfapphlhkfddoaaGreatDoor.G
open Go.RowKit Go.Eng Go.Proofs Go.Proofs.YtfapphlhkfddoaaGreatDoor.Cut
set_option linter.unusedVariables false
set_option linter.unusedSimpArgs false

/-- How many are told in a row, from a depth upward. -/
def preD (l : List D_blind_Blind) (π : List UInt8) : Nat → Nat
  | 0 => 0
  | d + 1 => if besideT (π.take (d + 1)) ∈ l.map (·.1) then preD l π d + 1 else 0
theorem preD_succ (l : List D_blind_Blind) (π : List UInt8) (d : Nat) : preD l π (d + 1) = if besideT (π.take (d + 1)) ∈ l.map (·.1) then preD l π d + 1 else 0 := rfl
theorem res_pre (T : Tr) (nm : Int → List UInt8) (l : List D_blind_Blind) (π : List UInt8) : ∀ d, secAt T nm (π.take d) :: resD T nm l π d = ((upD π d).map (secAt T nm)).take (preD l π d + 1)
  | 0 => by simp [resD, upD, preD]
  | d + 1 => by
    rw [resD_succ, preD_succ]
    show _ = (secAt T nm (π.take (d + 1)) :: (upD π d).map (secAt T nm)).take _
    by_cases h : besideT (π.take (d + 1)) ∈ l.map (·.1)
    · rw [if_pos h, if_pos h, res_pre T nm l π d]; rfl
    · rw [if_neg h, if_neg h]; rfl
section
variable {x1 x2 : Int} {t : List UInt8} {m : List Int} {s : List (List UInt8)} {B : List D_blind_Blind}
end
end Go.Proofs.YtfapphlhkfddoaaGreatDoor.G
/- Terms that stand in a term; what is put together, in general. -/
namespace Go.Proofs.YtfapphlhkfddoaaGreatDoor.G
open Go.RowKit Go.Eng Go.Proofs Go.Proofs.YtfapphlhkfddoaaGreatDoor.Cut
set_option linter.unusedVariables false
set_option linter.unusedSimpArgs false

def wholeE (s : List UInt8) : List UInt8 × Int := if 20000 < s.length then ([], 3) else if rightB s = true then (s, 0) else ([], 4)
theorem whole_spec {s : List UInt8} (hb : s.length ≤ 140737488355328) : term_whole.f s = some (wholeE s) := by
  unfold term_whole.f wholeE
  by_cases h : 20000 < s.length
  · rw [cond_t (by omega), if_pos h]
  rw [cond_f (by omega), if_neg h, right_spec hb, Option.bind_some]
  by_cases hr : rightB s = true
  · rw [if_pos hr, hr]; rfl
  · rw [if_neg hr, show rightB s = false by simpa using hr]; rfl
end Go.Proofs.YtfapphlhkfddoaaGreatDoor.G
