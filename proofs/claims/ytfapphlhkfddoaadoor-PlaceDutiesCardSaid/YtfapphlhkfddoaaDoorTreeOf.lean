/- Whose a tree is, and whether a text is one. -/
import Derived.Test.YtfapphlhkfddoaaDoorTreeMem
import Derived.Test.YtfapphlhkfddoaaDoorSortI
namespace Go.Proofs.YtfapphlhkfddoaaDoor.G
open Go.RowKit Go.Eng Go.Proofs Go.Proofs.YtfapphlhkfddoaaDoor.Cut
set_option linter.unusedVariables false
set_option maxRecDepth 20000
variable {ok : Nat → Prop} {w0 w : World} {L R : List Eng.Item}

/-- The first ones, in another order. -/
theorem order_own {A : List Eng.Item} (H : Eng.Own ok w0 w (A ++ R)) (is : List Nat) (hp : (List.range A.length).Perm is) : Eng.Own ok w0 w ((is.map fun i => A.getD i (.blk 0 [] 0)) ++ R) := by
  refine H.perm (List.Perm.append_right R ?_)
  have e : A = (List.range A.length).map fun i => A.getD i (.blk 0 [] 0) := by
    apply List.ext_getElem?
    intro i
    by_cases h : i < A.length
    · simp [h, List.getD_eq_getElem?_getD]
    · simp [h]
  conv => lhs; rw [e]
  exact hp.map _
theorem leavesR_pos (T : Tr) : 0 < T.leavesR.length := by
  induction T with
  | leaf p => simp [Tr.leavesR]
  | two l r ihl ihr => simp only [Tr.leavesR, List.length_append]; omega
set_option maxHeartbeats 4000000 in
theorem nodeMembers_in {A : TrA} (hs : ∀ it ∈ A.items, it ∈ R) (hl : A.tr.leavesR.length ≤ 1000000) (H : Eng.Own ok w0 w R) :
    Calls Tryd.prog 26 #[A.ptr] w fun e w' => ∃ u, e = .returned u ∧ Eng.Own ok w0 w' (.row u 3 1 (sortZ A.tr.leavesR).length (intsV (sortZ A.tr.leavesR)) :: R) := by
  refine enterN (args := [A.ptr]) Tryd.func26 rfl Tryd.ntmps26 rfl rfl ?_
  refine Eng.nc_seq ?_
  refine nc ?_
  refine Eng.nc_seq ?_
  refine nc ?_
  refine own_alloc (z := .slice none 0 0) H (by kernel_rfl) [.slice none 0 0] rfl fun cl w1 H => ?_
  refine Eng.nc_seq ?_
  refine nc ?_
  have hE : Calls Tryd.prog 33 #[A.ptr, doV cl] w1 fun e w' => ∃ u, e = .returned u ∧ ∃ c3 c4 v', Eng.Own ok w0 w' (memL cl c3 c4 v' ([] ++ A.tr.leavesR) R) := by
    refine enterN (args := [A.ptr, doV cl]) Tryd.func33 rfl Tryd.ntmps33 rfl rfl ?_
    refine Eng.nc_seq ?_
    refine nc ?_
    refine own_box H [doV cl] rfl fun c3 w2 H => ?_
    refine Eng.nc_seq ?_
    refine nc ?_
    refine own_alloc (z := .nilFunc) H (by kernel_rfl) [.nilFunc] rfl fun c4 w3 H => ?_
    refine Eng.nc_seq ?_
    refine nc ?_
    refine own_store (t := 72) H 0 rfl (by kernel_rfl) (j := 0) rfl rfl fun w4 H => ?_
    refine nc ?_
    have H0 : Eng.Own ok w0 w4 (memL cl c3 c4 (.slice none 0 0) [] R) :=
      order_own (A := [.row (.slice none 0 0) 3 1 0 [], .blk c4 [walkV c3 c4] 72, .blk c3 [doV cl] 57, .blk cl [.slice none 0 0] 22]) (H.nilRow 3 1) [3, 0, 2, 1] (by show (List.range 4).Perm _; decide)
    refine own_load H0 3 rfl (by kernel_rfl) (j := 0) rfl ?_
    refine callV_rule (by kernel_rfl) (walk_own (R := R) A hs (by simpa using hl) H0) fun u w5 ⟨v', H⟩ => ?_
    exact ret_inA [] ⟨_, rfl, c3, c4, v', H⟩
  refine call_rule (by kernel_rfl) hE fun u w2 ⟨c3, c4, v', H⟩ => ?_
  rw [List.nil_append] at H
  replace H : Eng.Own ok w0 w2 (.blk cl [v'] 22 :: .row v' 3 1 A.tr.leavesR.length (intsV A.tr.leavesR) :: R) := H.less (List.Sublist.cons_cons _ (List.Sublist.cons_cons _ (List.Sublist.cons _ (List.Sublist.cons _ (List.Sublist.refl _)))))
  refine Eng.nc_seq ?_
  refine nc ?_
  refine own_load H 0 rfl (by kernel_rfl) (j := 0) rfl ?_
  refine call_rule (by kernel_rfl) (sort1_own (A := [.blk cl [v'] 22]) (enc := (Value.int .i64)) sortI_at sortZ_len (leavesR_pos _) (by omega) H) fun u w3 ⟨hu, H⟩ => ?_
  subst hu
  replace H : Eng.Own ok w0 w3 (.blk cl [v'] 22 :: .row v' 3 1 A.tr.leavesR.length (intsV (sortZ A.tr.leavesR)) :: R) := H
  refine Eng.nc_seq ?_
  refine nc ?_
  refine own_load H 0 rfl (by kernel_rfl) (j := 0) rfl ?_
  refine nc ?_
  refine ret_inA [v'] ⟨_, rfl, ?_⟩
  rw [sortZ_len]
  exact H.tail
theorem nodeMembers_own {A : TrA} (hl : A.tr.leavesR.length ≤ 1000000) (H : Eng.Own ok w0 w (A.items ++ L)) :
    Calls Tryd.prog 26 #[A.ptr] w fun e w' => ∃ u, e = .returned u ∧ Eng.Own ok w0 w' (.row u 3 1 (sortZ A.tr.leavesR).length (intsV (sortZ A.tr.leavesR)) :: (A.items ++ L)) := nodeMembers_in (fun it h => List.mem_append_left _ h) hl H
/-! Whether a text is a tree. -/
def rowRes : Int → List Int → Int ⊕ Bool
  | last, [] => .inl last
  | last, x :: xs => if x ≤ last ∨ 8 < x then .inr false else rowRes x xs
/-- Do numbers rise, from 1 to 8, and are there any? -/
def rowB (xs : List Int) : Bool := match rowRes 0 xs with
  | .inl l => decide (l > 0)
  | .inr b => b
theorem row_loop (xs : List Int) (hl : xs.length ≤ 1000000000) : ∀ (k i : Nat) (last : Int), i + k = xs.length → loopM (fun s98 : Int × Int => view_Row.b1 xs s98.1 s98.2) (last, (i : Int)) = some (rowRes last (xs.drop i)) := by
  intro k
  induction k with
  | zero =>
    intro i last hi
    rw [List.drop_of_length_le (by omega)]
    refine loop_end ?_
    show view_Row.b1 xs last (i : Int) = _
    unfold view_Row.b1
    rw [decide_eq_false (show ¬ (i : Int) < (xs.length : Int) by omega)]; rfl
  | succ k ih =>
    intro i last hi
    have hil : i < xs.length := by omega
    rw [List.drop_eq_getElem_cons hil]
    unfold rowRes
    have hx : idxL xs (i : Int) = some xs[i] := by rw [idxL_nat, List.getElem?_eq_getElem hil]
    have hw : IntKind.i64.wrap ((i : Int) + (1 : Int)) = ((i + 1 : Nat) : Int) := by rw [Eng.i64_id (by omega) (by omega)]; omega
    have hbody : view_Row.b1 xs last (i : Int) = if xs[i] ≤ last ∨ 8 < xs[i] then some (.inr (.inr false)) else some (.inl (xs[i], ((i + 1 : Nat) : Int))) := by
      unfold view_Row.b1
      rw [decide_eq_true (show (i : Int) < (xs.length : Int) by omega), cond_true, hx, Option.bind_some, hw]
      by_cases h1 : xs[i] ≤ last
      · rw [decide_eq_true h1, if_pos (.inl h1)]; rfl
      · rw [decide_eq_false h1]
        by_cases h2 : 8 < xs[i]
        · rw [decide_eq_true (show xs[i] > 8 from h2), if_pos (.inr h2)]; rfl
        · rw [decide_eq_false (show ¬ xs[i] > 8 from h2), if_neg (fun q => q.elim h1 h2)]; rfl
    by_cases hc : xs[i] ≤ last ∨ 8 < xs[i]
    · rw [if_pos hc] at hbody ⊢; exact loop_end hbody
    · rw [if_neg hc] at hbody ⊢; exact loop_step hbody (ih (i + 1) _ (by omega))
theorem row_eq (xs : List Int) (hl : xs.length ≤ 1000000000) : view_Row.f xs = some (rowB xs) := by
  unfold view_Row.f rowB
  have h := row_loop xs hl xs.length 0 0 (by omega)
  rw [show loopM (fun s98 : Int × Int => view_Row.b1 xs s98.1 s98.2) ((0 : Int), (0 : Int)) = _ from h, List.drop_zero]
  cases rowRes 0 xs <;> rfl
theorem readM_leaves : ∀ (n : Nat) (s : List UInt8) (T : Tr) (r : List UInt8), readM n s = some (T, r) → T.leavesR.length + r.length ≤ s.length
  | 0, s, T, r, h => by simp [readM] at h
  | n + 1, [], T, r, h => by simp [readM] at h
  | n + 1, c :: q, T, r, h => by
    unfold readM at h
    split at h
    · cases h; simp [Tr.leavesR]; omega
    · split at h
      · cases h
      · cases h1 : readM n q with
        | none => rw [h1] at h; cases h
        | some x =>
          obtain ⟨a, r1⟩ := x
          rw [h1] at h
          simp only at h
          cases h2 : readM n r1 with
          | none => rw [h2] at h; cases h
          | some y =>
            obtain ⟨b, r2⟩ := y
            rw [h2] at h
            simp only at h
            have l1 := readM_leaves n q a r1 h1
            have l2 := readM_leaves n r1 b r2 h2
            cases r2 with
            | nil => cases h
            | cons d r3 =>
              simp only at h
              split at h
              · cases h; simp [Tr.leavesR] at l2 ⊢; omega
              · cases h
def ofM (s : List UInt8) : Option Tr := match readM (s.length + 1) s with
  | some (T, []) => if rowB (sortZ T.leavesR) = true then some T else none
  | _ => none
theorem ofM_leaves {s : List UInt8} {T : Tr} (h : ofM s = some T) : T.leavesR.length ≤ s.length := by
  unfold ofM at h
  split at h
  · rename_i T' hr
    split at h
    · cases h
      have := readM_leaves _ _ _ _ hr
      simp at this; omega
    · cases h
  · cases h
def OfR (ok : Nat → Prop) (w0 : World) (L : List Eng.Item) (x : Option Tr) (v : Value) (w' : World) : Prop :=
  match x with
  | none => v = .pointer none ∧ Eng.Own ok w0 w' L
  | some T => ∃ A : TrA, A.tr = T ∧ v = A.ptr ∧ Eng.Own ok w0 w' (A.items ++ L)
theorem rowsR_ints (w : World) (ok : Nat → Prop) : ∀ xs : List Int, rowsR (tInt .i64) w ok xs (intsV xs)
  | [] => rfl
  | x :: xs => ⟨[.int .i64 x], intsV xs, rfl, rfl, rowsR_ints w ok xs⟩
set_option maxHeartbeats 4000000 in
theorem treeOf_own {s : List UInt8} (hs : s.length ≤ 1000000) (H : Eng.Own ok w0 w L) :
    Calls Tryd.prog 25 #[.string (bs s)] w fun e w' => ∃ v, e = .returned v ∧ OfR ok w0 L (ofM s) v w' := by
  refine enterN (args := [.string (bs s)]) Tryd.func25 rfl Tryd.ntmps25 rfl rfl ?_
  refine Eng.nc_seq ?_
  refine nc ?_
  refine Eng.nc_seq ?_
  refine nc ?_
  refine call_rule (by kernel_rfl) (read_own (s.length + 1) s (by omega) H) fun v w1 hR => ?_
  unfold ofM
  cases hr : readM (s.length + 1) s with
  | none =>
    rw [hr] at hR
    obtain ⟨rfl, H⟩ := hR
    refine Eng.nc_seq ?_
    refine nc ?_
    refine eqlNil_rule (by kernel_rfl) ?_
    refine call_skip (.bool false) rfl ?_
    refine call_skip (.bool false) rfl ?_
    refine Eng.nc_cond (b := true) rfl (fun hc => ?_) (fun hc => ?_)
    · refine Eng.nc_seq ?_
      refine nc ?_
      refine nc ?_
      exact ret_inA [.pointer none] ⟨_, rfl, rfl, H⟩
    · cases hc
  | some q =>
    obtain ⟨T, r⟩ := q
    rw [hr] at hR
    obtain ⟨A, hA, rfl, H⟩ := hR
    have hlen := readM_leaves _ _ _ _ hr
    refine Eng.nc_seq ?_
    refine nc ?_
    refine eqlNil_rule (p := some ⟨A.root, 0, none⟩) (by kernel_rfl) ?_
    cases r with
    | cons d r =>
      have hg : ((bs (d :: r)).toList == ({ data := #[] } : ByteArray).toList) = false := by simp [bs_toList]
      refine call_skip (.bool false) (by show (!(!((bs (d :: r)).toList == ({ data := #[] } : ByteArray).toList)) && true) = false; rw [hg]; rfl) ?_
      refine call_skip (.bool false) (by show (!(!((bs (d :: r)).toList == ({ data := #[] } : ByteArray).toList)) && true) = false; rw [hg]; rfl) ?_
      refine Eng.nc_cond (b := cond (!((bs (d :: r)).toList == ({ data := #[] } : ByteArray).toList)) true (!false)) rfl (fun hc => ?_) (fun hc => ?_)
      · refine Eng.nc_seq ?_
        refine nc ?_
        refine nc ?_
        refine ret_inA [.pointer none] ⟨_, rfl, rfl, ?_⟩
        exact H.less (List.sublist_append_right A.items L)
      · rw [hg] at hc; cases hc
    | nil =>
      have hlA : A.tr.leavesR.length ≤ 1000000 := by rw [hA]; simp at hlen; omega
      have hg0 : ((bs []).toList == ({ data := #[] } : ByteArray).toList) = true := by simp [bs_toList]
      refine call_yes (by show (!(!((bs []).toList == ({ data := #[] } : ByteArray).toList)) && true) = true; rw [hg0]; rfl) (by kernel_rfl) (nodeMembers_own hlA H) fun u w2 H => ?_
      have hrow : slR (tInt .i64) w2 (fun _ => True) u (sortZ A.tr.leavesR) := H.rowSlR (k := tInt .i64) 0 rfl (rowsR_ints w2 (fun _ => True) _)
      refine call_yes (by show (!(!((bs []).toList == ({ data := #[] } : ByteArray).toList)) && true) = true; rw [hg0]; rfl) (by kernel_rfl) (view_Row_ok hrow (row_eq _ (by rw [sortZ_len]; omega))) fun v w3 ⟨hv, hb3⟩ => ?_
      subst hv
      replace H := (H.call hb3).tail
      rw [hA]
      refine Eng.nc_cond (b := cond (!((bs []).toList == ({ data := #[] } : ByteArray).toList)) true (!(rowB (sortZ T.leavesR)))) rfl (fun hc => ?_) (fun hc => ?_)
      · refine Eng.nc_seq ?_
        refine nc ?_
        refine nc ?_
        refine ret_inA [.pointer none] ⟨_, rfl, ?_⟩
        rw [hg0] at hc
        simp only
        rw [if_neg (by simpa using hc)]
        exact ⟨rfl, H.less (List.sublist_append_right A.items L)⟩
      · refine nc ?_
        refine Eng.nc_seq ?_
        refine nc ?_
        refine nc ?_
        refine ret_inA [A.ptr] ⟨_, rfl, ?_⟩
        rw [hg0] at hc
        simp only
        rw [if_pos (by simpa using hc)]
        exact ⟨A, hA, rfl, H⟩
/-! What the package tells. -/
set_option maxHeartbeats 2000000 in
theorem treeRight_calls {s : List UInt8} (hs : s.length ≤ 1000000) : Calls Tryd.prog 27 #[.string (bs s)] w fun e w' => ∃ v, e = .returned v ∧ (v = .bool (ofM s).isSome ∧ Bel w.heap.size w w') := by
  have H : Eng.Own (fun _ => False) w w [] := Eng.Own.nil _ w
  refine enterN (args := [.string (bs s)]) Tryd.func27 rfl Tryd.ntmps27 rfl rfl ?_
  refine Eng.nc_seq ?_
  refine nc ?_
  refine Eng.nc_seq ?_
  refine nc ?_
  refine call_rule (by kernel_rfl) (treeOf_own hs H) fun v w1 hR => ?_
  cases ho : ofM s with
  | none =>
    rw [ho] at hR
    obtain ⟨rfl, H⟩ := hR
    refine neqNil_rule (by kernel_rfl) ?_
    refine nc ?_
    exact ret_inA [.bool false] ⟨_, rfl, rfl, H.frame⟩
  | some T =>
    rw [ho] at hR
    obtain ⟨A, hA, rfl, H⟩ := hR
    refine neqNil_rule (p := some ⟨A.root, 0, none⟩) (by kernel_rfl) ?_
    refine nc ?_
    exact ret_inA [.bool true] ⟨_, rfl, rfl, H.frame⟩
/-- The members of a tree, in order; none where it is none. -/
def membersM (s : List UInt8) : List Int := match ofM s with
  | some T => sortZ T.leavesR
  | none => []
set_option maxHeartbeats 2000000 in
theorem treeMembers_calls {s : List UInt8} (hs : s.length ≤ 1000000) : Calls Tryd.prog 9 #[.string (bs s)] w fun e w' => ∃ v, e = .returned v ∧ (slR (tInt .i64) w' (fun b => ok b ∨ w.heap.size ≤ b) v (membersM s) ∧ Bel w.heap.size w w') := by
  have H : Eng.Own ok w w [] := Eng.Own.nil _ w
  refine enterN (args := [.string (bs s)]) Tryd.func9 rfl Tryd.ntmps9 rfl rfl ?_
  refine Eng.nc_seq ?_
  refine nc ?_
  refine Eng.nc_seq ?_
  refine nc ?_
  refine call_rule (by kernel_rfl) (treeOf_own hs H) fun v w1 hR => ?_
  unfold membersM
  cases ho : ofM s with
  | none =>
    rw [ho] at hR
    obtain ⟨rfl, H⟩ := hR
    refine Eng.nc_seq ?_
    refine nc ?_
    refine neqNil_rule (by kernel_rfl) ?_
    refine Eng.nc_cond (b := false) rfl (fun hc => ?_) (fun hc => ?_)
    · cases hc
    · refine nc ?_
      refine Eng.nc_seq ?_
      refine nc ?_
      refine nc ?_
      exact ret_inA [.slice none 0 0] ⟨_, rfl, ⟨none, 0, rfl, Nat.le_refl _, .inl ⟨rfl, fun _ => rfl⟩⟩, H.frame⟩
  | some T =>
    rw [ho] at hR
    obtain ⟨A, hA, rfl, H⟩ := hR
    have hlT := ofM_leaves ho
    have hlA : A.tr.leavesR.length ≤ 1000000 := by rw [hA]; omega
    refine Eng.nc_seq ?_
    refine nc ?_
    refine neqNil_rule (p := some ⟨A.root, 0, none⟩) (by kernel_rfl) ?_
    refine Eng.nc_cond (b := true) rfl (fun hc => ?_) (fun hc => ?_)
    · refine Eng.nc_seq ?_
      refine nc ?_
      refine call_rule (by kernel_rfl) (nodeMembers_own hlA H) fun u w2 H => ?_
      refine nc ?_
      refine ret_inA [u] ⟨_, rfl, ?_, H.frame⟩
      rw [← hA]
      exact H.rowSlRin (k := tInt .i64) (okr := fun _ => False) 0 rfl (rowsR_ints w2 (fun _ => False) _) (fun b h => h.elim) (fun b h => .inr h)
    · cases hc
end Go.Proofs.YtfapphlhkfddoaaDoor.G
