/- Whose a tree is: its leaves, in order. -/
import Derived.Test.YtfapphlhkfddoaaDoorTreeRead
namespace Go.Proofs.YtfapphlhkfddoaaDoor.G
open Go.RowKit Go.Eng Go.Proofs Go.Proofs.YtfapphlhkfddoaaDoor.Cut
set_option linter.unusedVariables false
set_option maxRecDepth 20000
variable {ok : Nat → Prop} {w0 w : World} {L R : List Eng.Item}

/-- append(row, one fresh block), in an open order: the row's value is a slice. -/
theorem c_appendV {P : Program} {ok : Nat → Prop} {w0 : World} {L : List Eng.Item} {KE : Value → List Eng.Item → Prop} {t ty e e' : TypeId} {sz by_ n m c b : Nat} {z v : Value} {xs news : List Value} {consts : Array Bool} (i j : Nat) (hi : L[i]? = some (.row v e sz n xs)) (hj : L[j]? = some (.blk b news e')) (ht : sliceB P t = some e) (hinfo : infoB P e = some (some z, sz, by_)) (hzl : z.cells.toList.length = sz) (hpos : Nat.blt 0 sz = true)
    (hl : news.length = m * sz) (ho : ∀ u ∈ news, oneV u = true) (hb : n + m ≤ 140737488355328) (hb2 : (n + m) * by_ ≤ 140737488355328)
    (hk : ∀ A c, KE (.slice A (n + m) c) (L.set i (.row (.slice A (n + m) c) e sz (n + m) (xs ++ news)))) : cBuiltin P true .append [t, t] ty [v, .slice (some ⟨b, 0, none⟩) m c] consts ok w0 L KE := by
  unfold cBuiltin
  refine cEv_in ⟨fun v' L' => ∃ A c, v' = .slice A (n + m) c ∧ L' = L.set i (.row (.slice A (n + m) c) e sz (n + m) (xs ++ news)), fun h => (by cases h), fun w H => ⟨fun _ => ?_, fun h => by cases h⟩, fun v' L' h _ => by obtain ⟨A, c, rfl, rfl⟩ := h; exact hk A c⟩
  obtain ⟨v', w', hr, hO⟩ := own_rowAppend (ty := ty) (consts := consts) (c := c) H i hi ht hinfo hzl hpos hl (cellsAt_of fun q u hq => by rw [add_at]; exact H.cell j hj (0 + (0 + q)) (by simpa using hq)) ho hb hb2
  have hi' : (L.set i (.row v' e sz (n + m) (xs ++ news)))[i]? = some (.row v' e sz (n + m) (xs ++ news)) := by
    rw [List.getElem?_set_self]
    exact (List.getElem?_eq_some_iff.1 hi).1
  obtain ⟨A, c', hv, _, _⟩ := hO.rowSl i hi'
  subst hv
  show upon P _ ((builtin .append #[t, t] ty consts #[v, .slice (some ⟨b, 0, none⟩) m c]).run P w)
  rw [hr]
  exact ⟨_, ⟨A, c', rfl, rfl⟩, hO⟩
/-- The leaves, from the right. -/
def Tr.leavesR : Tr → List Int
  | .leaf p => [p]
  | .two l r => r.leavesR ++ l.leavesR
def intsV (xs : List Int) : List Value := xs.map (.int .i64 ·)
def doV (cl : Nat) : Value := .func (.func 43) #[] #[.pointer (some ⟨cl, 0, none⟩)]
def walkV (c3 c4 : Nat) : Value := .func (.func 54) #[] #[.pointer (some ⟨c3, 0, none⟩), .pointer (some ⟨c4, 0, none⟩)]
def memL (cl c3 c4 : Nat) (v : Value) (xs : List Int) (R : List Eng.Item) : List Eng.Item :=
  .blk cl [v] 22 :: .row v 3 1 xs.length (intsV xs) :: .blk c3 [doV cl] 57 :: .blk c4 [walkV c3 c4] 72 :: R
theorem at_mem {it : Eng.Item} (h : it ∈ R) : ∃ i : Nat, R[i]? = some it := List.mem_iff_getElem?.1 h
def TrA.top : TrA → Eng.Item
  | .leaf b p => .blk b [.int .i64 p, .pointer none, .pointer none] 59
  | .two b l r => .blk b [.int .i64 0, l.ptr, r.ptr] 59
set_option maxHeartbeats 4000000 in
theorem members1_own {A : TrA} {cl c3 c4 : Nat} {v : Value} {xs : List Int} (hA : A.top ∈ R) (hl : xs.length ≤ 1000000) (H : Eng.Own ok w0 w (memL cl c3 c4 v xs R)) :
    Calls Tryd.prog 43 #[A.ptr, .pointer (some ⟨cl, 0, none⟩)] w fun e w' => ∃ u, e = .returned u ∧ u = .bool true ∧ ∃ v', Eng.Own ok w0 w' (memL cl c3 c4 v' (match A with | .leaf _ p => xs ++ [p] | .two .. => xs) R) := by
  obtain ⟨i, hi⟩ := at_mem hA
  have hi4 : (memL cl c3 c4 v xs R)[i + 4]? = some A.top := hi
  refine enterN (args := [A.ptr, .pointer (some ⟨cl, 0, none⟩)]) Tryd.func43 rfl Tryd.ntmps43 rfl rfl ?_
  refine Eng.nc_seq ?_
  refine nc ?_
  refine Eng.nc_seq ?_
  refine Eng.nc_seq ?_
  refine nc ?_
  cases A with
  | leaf b p =>
    refine own_load H (i + 4) hi4 (by kernel_rfl) (j := 1) rfl ?_
    refine eqlNil_rule (by kernel_rfl) ?_
    refine Eng.nc_cond (b := true) rfl (fun hc => ?_) (fun hc => ?_)
    · refine nc ?_
      refine draw_rule [] (by kernel_rfl) (by kernel_rfl) H ?_
      refine c_load 0 rfl (by kernel_rfl) (j := 0) rfl ?_
      refine c_load (i + 4) hi4 (by kernel_rfl) (j := 0) rfl ?_
      refine c_buildSlice (e := 3) (sz := 1) (z := .int .i64 0) (cs := [.int .i64 p]) (by kernel_rfl) (by kernel_rfl) (by kernel_rfl) rfl rfl rfl rfl fun g => ?_
      refine c_appendV (e := 3) (sz := 1) (z := .int .i64 0) (by_ := 8) (m := 1) 2 0 rfl rfl (by kernel_rfl) (by kernel_rfl) rfl rfl rfl (by intro u hu; simp at hu; subst hu; rfl) (by omega) (by omega) fun A' c' => ?_
      refine c_storeB (m := 1) 1 rfl (by kernel_rfl) [.slice A' (xs.length + 1) c'] rfl rfl rfl rfl ?_
      intro w1 H
      refine Eng.nc_seq ?_
      refine nc ?_
      refine nc ?_
      refine ret_inA [.bool true] ⟨_, rfl, rfl, .slice A' (xs.length + 1) c', ?_⟩
      have e1 : intsV (xs ++ [p]) = intsV xs ++ [.int .i64 p] := by simp [intsV]
      have e2 : (xs ++ [p]).length = xs.length + 1 := by simp
      unfold memL
      rw [e1, e2]
      exact H.tail
    · cases hc
  | two b l r =>
    refine own_load H (i + 4) hi4 (by kernel_rfl) (j := 1) rfl ?_
    refine eqlNil_rule (by kernel_rfl) ?_
    refine Eng.nc_cond (b := false) rfl (fun hc => ?_) (fun hc => ?_)
    · cases hc
    · refine nc ?_
      refine Eng.nc_seq ?_
      refine nc ?_
      refine nc ?_
      exact ret_inA [.bool true] ⟨_, rfl, rfl, v, H⟩
theorem TrA.top_mem (A : TrA) : A.top ∈ A.items := by cases A <;> exact List.mem_cons_self
set_option maxHeartbeats 4000000 in
theorem walk_own {cl c3 c4 : Nat} : ∀ (A : TrA) {xs : List Int} {v : Value} {w : World}, (∀ it ∈ A.items, it ∈ R) → xs.length + A.tr.leavesR.length ≤ 1000000 → Eng.Own ok w0 w (memL cl c3 c4 v xs R) →
    Calls Tryd.prog 54 #[A.ptr, .pointer (some ⟨c3, 0, none⟩), .pointer (some ⟨c4, 0, none⟩)] w fun e w' => ∃ u, e = .returned u ∧ ∃ v', Eng.Own ok w0 w' (memL cl c3 c4 v' (xs ++ A.tr.leavesR) R) := by
  intro A
  induction A with
  | leaf b p =>
    intro xs v w hA hl H
    have hT := hA _ (TrA.top_mem (.leaf b p))
    have hl1 : xs.length ≤ 1000000 := by omega
    refine enterN (args := [(TrA.leaf b p).ptr, .pointer (some ⟨c3, 0, none⟩), .pointer (some ⟨c4, 0, none⟩)]) Tryd.func54 rfl Tryd.ntmps54 rfl rfl ?_
    refine Eng.nc_seq ?_
    refine nc ?_
    refine own_load H 2 rfl (by kernel_rfl) (j := 0) rfl ?_
    refine callV_rule (by kernel_rfl) (members1_own (A := .leaf b p) hT hl1 H) fun u w1 ⟨hu, v', H⟩ => ?_
    subst hu
    obtain ⟨i, hi⟩ := at_mem hT
    have hi4 : (memL cl c3 c4 v' (xs ++ [p]) R)[i + 4]? = some (TrA.leaf b p).top := hi
    refine own_load H (i + 4) hi4 (by kernel_rfl) (j := 1) rfl ?_
    refine neqNil_rule (by kernel_rfl) ?_
    refine Eng.nc_cond (b := false) rfl (fun hc => ?_) (fun hc => ?_)
    · cases hc
    · refine nc ?_
      exact ret_inA [] ⟨_, rfl, v', H⟩
  | two b l r ihl ihr =>
    intro xs v w hA hl H
    have hT := hA _ (TrA.top_mem (.two b l r))
    have hsub : ∀ it ∈ l.items ++ r.items, it ∈ R := fun it h => hA it (List.mem_cons_of_mem _ h)
    have hl' : xs.length + (r.tr.leavesR.length + l.tr.leavesR.length) ≤ 1000000 := by
      have : (TrA.two b l r).tr.leavesR.length = r.tr.leavesR.length + l.tr.leavesR.length := by simp [TrA.tr, Tr.leavesR]
      omega
    refine enterN (args := [(TrA.two b l r).ptr, .pointer (some ⟨c3, 0, none⟩), .pointer (some ⟨c4, 0, none⟩)]) Tryd.func54 rfl Tryd.ntmps54 rfl rfl ?_
    refine Eng.nc_seq ?_
    refine nc ?_
    refine own_load H 2 rfl (by kernel_rfl) (j := 0) rfl ?_
    refine callV_rule (by kernel_rfl) (members1_own (A := .two b l r) hT (by omega) H) fun u w1 ⟨hu, v1, H⟩ => ?_
    subst hu
    replace H : Eng.Own ok w0 w1 (memL cl c3 c4 v1 xs R) := H
    obtain ⟨i, hi⟩ := at_mem hT
    have hi4 : ∀ v xs, (memL cl c3 c4 v xs R)[i + 4]? = some (TrA.two b l r).top := fun v xs => hi
    refine own_load H (i + 4) (hi4 _ _) (by kernel_rfl) (j := 1) (v := .pointer (some ⟨l.root, 0, none⟩)) rfl ?_
    refine neqNil_rule (by kernel_rfl) ?_
    refine Eng.nc_cond (b := true) rfl (fun hc => ?_) (fun hc => ?_)
    · refine Eng.nc_seq ?_
      refine nc ?_
      refine draw_rule [] (by kernel_rfl) (by kernel_rfl) H ?_
      refine c_load 3 rfl (by kernel_rfl) (j := 0) rfl ?_
      refine c_load (i + 4) (hi4 _ _) (by kernel_rfl) (j := 2) (v := r.ptr) rfl ?_
      refine c_callV (fun _ L' => ∃ v', L' = memL cl c3 c4 v' (xs ++ r.tr.leavesR) R) rfl (by kernel_rfl) (fun w H => (ihr (fun it h => hsub it (List.mem_append_right _ h)) (by omega) H).mono fun e w' ⟨u, he, v', H'⟩ => ⟨u, he, _, ⟨v', rfl⟩, H'⟩) fun u L' ⟨v2, hL'⟩ => ?_
      subst hL'
      intro w2 H
      refine nc ?_
      refine draw_rule [] (by kernel_rfl) (by kernel_rfl) H ?_
      refine c_load 3 rfl (by kernel_rfl) (j := 0) rfl ?_
      refine c_load (i + 4) (hi4 _ _) (by kernel_rfl) (j := 1) (v := l.ptr) rfl ?_
      refine c_callV (fun _ L' => ∃ v', L' = memL cl c3 c4 v' ((xs ++ r.tr.leavesR) ++ l.tr.leavesR) R) rfl (by kernel_rfl) (fun w H => (ihl (fun it h => hsub it (List.mem_append_left _ h)) (by rw [List.length_append]; omega) H).mono fun e w' ⟨u, he, v', H'⟩ => ⟨u, he, _, ⟨v', rfl⟩, H'⟩) fun u L' ⟨v3, hL'⟩ => ?_
      subst hL'
      intro w3 H
      refine ret_inA [] ⟨_, rfl, v3, ?_⟩
      rw [List.append_assoc] at H
      exact H
    · cases hc
end Go.Proofs.YtfapphlhkfddoaaDoor.G
