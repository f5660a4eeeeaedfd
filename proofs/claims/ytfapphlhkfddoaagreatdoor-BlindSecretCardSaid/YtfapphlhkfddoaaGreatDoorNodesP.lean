/- The nodes of a tree, sorted. -/
import Derived.Test.YtfapphlhkfddoaaGreatDoorSortFn
import Derived.Test.YtfapphlhkfddoaaGreatDoorTreeSub
namespace Go.Proofs.YtfapphlhkfddoaaGreatDoor.G
open Go.RowKit Go.Eng Go.Proofs Go.Proofs.YtfapphlhkfddoaaGreatDoor.Cut Go.Sort
set_option linter.unusedVariables false
set_option maxRecDepth 20000
variable {ok : Nat → Prop} {w0 w : World} {L R : List Eng.Item}

def nodesM (s : List UInt8) : List (List UInt8) := match ofM s with
  | some T => sortF ((nodesT [] T).map (·.1))
  | none => []
theorem nodesT_pos (T : Tr) (pre : List UInt8) : 0 < (nodesT pre T).length := by cases T <;> simp [nodesT]
theorem nodesT_cnt : ∀ (T : Tr) (pre : List UInt8), (nodesT pre T).length ≤ T.text.length
  | .leaf p, pre => by simp [nodesT, Tr.text]
  | .two l r, pre => by
    have h1 := nodesT_cnt l (pre ++ [108])
    have h2 := nodesT_cnt r (pre ++ [114])
    simp only [nodesT, Tr.text, List.length_cons, List.length_append, List.length_nil]
    omega
set_option maxHeartbeats 4000000 in
theorem nodes_calls {s : List UInt8} (hs : s.length ≤ 900000) : Calls Tryz.prog 73 #[.string (bs s)] w fun e w' => ∃ v, e = .returned v ∧ (slR tStr w' (fun b => ok b ∨ w.heap.size ≤ b) v (nodesM s) ∧ Bel w.heap.size w w') := by
  have H : Eng.Own ok w w [] := Eng.Own.nil _ w
  refine enterN (args := [.string (bs s)]) Tryz.func73 rfl Tryz.ntmps73 rfl rfl ?_
  refine Eng.nc_seq ?_
  refine nc ?_
  refine Eng.nc_seq ?_
  refine Eng.nc_seq ?_
  refine nc ?_
  refine call_rule (by kernel_rfl) (treeRight_calls (s := s) (by omega)) fun v w4 ⟨hv, hb⟩ => ?_
  subst hv
  replace H := H.call hb
  unfold nodesM
  cases ho : ofM s with
  | none =>
    refine Eng.nc_cond (b := true) rfl (fun hc => ?_) (fun hc => ?_)
    · refine Eng.nc_seq ?_
      refine nc ?_
      refine nc ?_
      exact ret_inA [.slice none 0 0] ⟨_, rfl, ⟨none, 0, rfl, Nat.le_refl _, .inl ⟨rfl, fun _ => rfl⟩⟩, H.frame⟩
    · cases hc
  | some T =>
    obtain ⟨hT, hok⟩ := ofM_text ho
    have hlenT : T.text.length ≤ 900000 := by rw [← hT]; exact hs
    have hcnt := nodesT_cnt T []
    refine Eng.nc_cond (b := false) rfl (fun hc => ?_) (fun hc => ?_)
    · cases hc
    refine nc ?_
    refine Eng.nc_seq ?_
    refine nc ?_
    refine own_alloc (z := .slice none 0 0) H (by kernel_rfl) [.slice none 0 0] rfl fun c3 w5 H => ?_
    replace H := H.nilRow 9 1
    refine nc_cutD (fun ds e w' => ∃ D v, ds = [D] ∧ e = [(3, .pointer (some ⟨c3, 0, none⟩))] ∧ Eng.Own ok w w' [.obj D isDef, .blk c3 [v] 72, .row v 9 1 (nodesT [] T).length (strs ((nodesT [] T).map (·.1)))]) ?_ ?_
    · refine Eng.nc_seq ?_
      refine nc ?_
      refine call_rule (by kernel_rfl) (below_own (node := []) (t := s) H) fun v w6 ⟨bn2, bt2, hv, H⟩ => ?_
      subst hv
      rw [hT] at H
      replace H : Eng.Own ok w w6 ([.blk bn2 [.string (bs [])] 9, .blk bt2 [.string (bs T.text)] 25] ++ [.blk c3 [.slice none 0 0] 72, .row (.slice none 0 0) 9 1 0 []]) := H.pickL [0, 1, 3, 2] rfl
      refine Eng.nc_block ?_
      refine range_rule (I := fun p1 L1 => ∃ v, L1 = [.blk c3 [v] 72, .row v 9 1 p1.length (strs (p1.map (·.1)))]) (Ix := fun c p1 L1 => False) rfl (by kernel_rfl) (fun _ => rfl) rfl (below_iter T [] bn2 bt2 hok (by simp; omega)) H ⟨_, rfl⟩ ?_ ?_ ?_
      · rintro l1 φ T1 p1 x L1 W1 hφ ⟨rest, hrest⟩ ⟨v, rfl⟩ H
        have hpl : p1.length ≤ 900000 := by
          have := congrArg List.length hrest
          simp only [List.length_append, List.length_cons, List.length_nil] at this
          omega
        obtain ⟨A, c, rfl, _, _⟩ := H.rowSl 1 rfl
        refine nc ?_
        refine rGo_in [.blk c3 [.slice A p1.length c] 72, .row (.slice A p1.length c) 9 1 p1.length (strs (p1.map (·.1)))] H fun w7 φ2 hφ2 H => ?_
        refine Eng.nc_block ?_
        refine nc ?_
        refine own_load H 0 rfl (by kernel_rfl) (j := 0) rfl ?_
        refine own_buildSlice (e := 9) (sz := 1) (z := .string (bs [])) (cs := [.string (bs x.1)]) H (by kernel_rfl) (by kernel_rfl) (by kernel_rfl) rfl rfl rfl rfl fun g w8 H => ?_
        refine own_appendBlk (e := 9) (sz := 1) (z := .string (bs [])) (by_ := 16) (m := 1) H 2 0 rfl rfl (by kernel_rfl) (by kernel_rfl) rfl rfl rfl (by intro v hv; simp at hv; subst hv; rfl) (by omega) (by omega) fun v5 w9 H => ?_
        obtain ⟨A5, c5, rfl, _, _⟩ := H.rowSl 2 rfl
        refine own_store (t := 72) H 1 rfl (by kernel_rfl) (j := 0) rfl rfl fun w10 H => ?_
        have e1 : strs ((p1 ++ [x]).map (·.1)) = strs (p1.map (·.1)) ++ [.string (bs x.1)] := by simp [strs]
        have e2 : (p1 ++ [x]).length = p1.length + 1 := by simp
        refine rEnd_in [.blk c3 [.slice A5 (p1.length + 1) c5] 72, .row (.slice A5 (p1.length + 1) c5) 9 1 (p1 ++ [x]).length (strs ((p1 ++ [x]).map (·.1)))] ⟨_, rfl⟩ ?_
        rw [e1, e2]
        exact H.tail
      · rintro D W1 L1 xs rfl ⟨v, rfl⟩ H
        exact cutD_in (e' := [(3, .pointer (some ⟨c3, 0, none⟩))]) ⟨rfl, trivial⟩ ⟨D, v, rfl, rfl, H.pickL [0, 3, 4] rfl⟩
      · rintro D W1 L1 p1 c ⟨rest, hrest⟩ hf H
        exact hf.elim
    · rintro _ _ w6 ⟨D, v, rfl, rfl, H⟩
      have hl0 : ((nodesT [] T).map (·.1)).length = (nodesT [] T).length := by simp
      rw [← hl0] at H
      have hpos : 0 < ((nodesT [] T).map (·.1)).length := by rw [hl0]; exact nodesT_pos T []
      refine Eng.nc_seq ?_
      refine nc ?_
      refine own_load H 1 rfl (by kernel_rfl) (j := 0) rfl ?_
      refine call_rule (by kernel_rfl) (sortF_own (A := [.obj D isDef, .blk c3 [v] 72]) (B := []) (xs := (nodesT [] T).map (·.1)) hpos (by omega) H) fun u w7 ⟨hu, H⟩ => ?_
      subst hu
      rw [← sortF_len] at H
      replace H : Eng.Own ok w w7 [.obj D isDef, .blk c3 [v] 72, .row v 9 1 (sortF ((nodesT [] T).map (·.1))).length (strs (sortF ((nodesT [] T).map (·.1))))] := H
      obtain ⟨A, c, rfl, _, _⟩ := H.rowSl 2 rfl
      replace H := H.freezeS 2 rfl
      refine Eng.nc_seq ?_
      refine nc ?_
      refine own_load H 1 rfl (by kernel_rfl) (j := 0) rfl ?_
      refine nc ?_
      refine ret_own H 0 rfl fun w' H => ?_
      exact ret_of [.slice A (sortF ((nodesT [] T).map (·.1))).length c] ⟨rfl, trivial⟩ ⟨_, rfl, H.outD 2 rfl, H.frame⟩
noncomputable def place_Nodes.f (s : List UInt8) : Option (List (List UInt8)) := givenM (s.length ≤ 900000) (some (nodesM s))
theorem place_Nodes_ok {x0 : List UInt8} {r : List (List UInt8)} (h : place_Nodes.f x0 = some r) : Calls Tryz.prog 73 #[.string (bs x0)] w fun e w' => ∃ u, e = .returned u ∧ (slR tStr w' (fun b => ok b ∨ w.heap.size ≤ b) u r ∧ Bel w.heap.size w w') := by
  obtain ⟨hl, h⟩ := givenS h
  cases h
  exact nodes_calls hl
end Go.Proofs.YtfapphlhkfddoaaGreatDoor.G
