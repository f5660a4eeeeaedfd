/- The path of a process. -/
import Derived.Test.YtfapphlhkfddoaaGreatDoorTreeSub
namespace Go.Proofs.YtfapphlhkfddoaaGreatDoor.G
open Go.RowKit Go.Eng Go.Proofs Go.Proofs.YtfapphlhkfddoaaGreatDoor.Cut
set_option linter.unusedVariables false
set_option maxRecDepth 20000
variable {ok : Nat → Prop} {w0 w : World} {L R : List Eng.Item}

/-- A node and all above it. -/
def upT (n : List UInt8) : List (List UInt8) := (List.range (n.length + 1)).map fun j => n.take (n.length - j)
def upJ (n : List UInt8) (j : Nat) : List (List UInt8) := (List.range (j + 1)).map fun j => n.take (n.length - j)
theorem upJ_succ (n : List UInt8) (j : Nat) : upJ n (j + 1) = upJ n j ++ [n.take (n.length - (j + 1))] := by
  unfold upJ
  rw [List.range_succ, List.map_append]; rfl
def pathM (s : List UInt8) (p : Int) : List (List UInt8) := match ofM s with
  | none => []
  | some T => match (nodesT [] T).find? (fun x => decide (membersM x.2 = [p])) with
    | some x => upT x.1
    | none => []
theorem nodes_len : ∀ (T : Tr) (pre : List UInt8), ∀ x ∈ nodesT pre T, x.1.length ≤ pre.length + T.text.length ∧ x.2.length ≤ T.text.length := by
  intro T
  induction T with
  | leaf p =>
    intro pre x hx
    have : x = (pre, (Tr.leaf p).text) := List.mem_singleton.1 hx
    subst this
    simp
  | two l r ihl ihr =>
    intro pre x hx
    have ht : (Tr.two l r).text.length = l.text.length + r.text.length + 2 := by simp only [Tr.text, List.length_cons, List.length_append, List.length_nil]; omega
    rw [show nodesT pre (Tr.two l r) = (pre, (Tr.two l r).text) :: (nodesT (pre ++ [108]) l ++ nodesT (pre ++ [114]) r) from rfl] at hx
    rcases List.mem_cons.1 hx with q | q
    · subst q; simp
    · rcases List.mem_append.1 q with q | q
      · have := ihl _ x q; simp only [List.length_append, List.length_cons, List.length_nil] at this; omega
      · have := ihr _ x q; simp only [List.length_append, List.length_cons, List.length_nil] at this; omega
theorem treeMembers_own {s : List UInt8} (H : Eng.Own ok w0 w L) (hs : s.length ≤ 1000000) : Calls Tryz.prog 14 #[.string (bs s)] w fun e w' => ∃ v, e = .returned v ∧ ∃ A c, v = .slice A (membersM s).length c ∧ Eng.Own ok w0 w' (.dat (dSl (tInt .i64) (.slice A (membersM s).length c) (membersM s)) :: L) :=
  (treeMembers_calls (ok := okOf ok w0 L) hs).mono fun e w' ⟨v, he, hv, hb⟩ => by
    obtain ⟨A, c, hv0, hcm, _⟩ := id hv
    subst hv0
    exact ⟨_, he, A, c, rfl, H.callDat hb (dSl (tInt .i64) (.slice A (membersM s).length c) (membersM s)) hv⟩
set_option maxHeartbeats 4000000 in
theorem path_calls {s : List UInt8} {p : Int} (hs : s.length ≤ 900000) : Calls Tryz.prog 36 #[.string (bs s), .int .i64 p] w fun e w' => ∃ v, e = .returned v ∧ ((slR tStr w' (fun b => ok b ∨ w.heap.size ≤ b) v (pathM s p) ∧ (pathM s p = [] → v = .slice none 0 0)) ∧ Bel w.heap.size w w') := by
  have H : Eng.Own ok w w [] := Eng.Own.nil _ w
  refine enterN (args := [.string (bs s), .int .i64 p]) Tryz.func36 rfl Tryz.ntmps36 rfl rfl ?_
  refine Eng.nc_seq ?_
  refine nc ?_
  refine own_box H [.int .i64 p] rfl fun bp w1 H => ?_
  refine own_alloc (z := .slice none 0 0) H (by kernel_rfl) [.slice none 0 0] rfl fun c4 w2 H => ?_
  refine Eng.nc_seq ?_
  refine Eng.nc_seq ?_
  refine nc ?_
  refine call_rule (by kernel_rfl) (treeRight_calls (s := s) (by omega)) fun v w4 ⟨hv, hb⟩ => ?_
  subst hv
  replace H := H.call hb
  unfold pathM
  cases ho : ofM s with
  | none =>
    refine Eng.nc_cond (b := true) rfl (fun hc => ?_) (fun hc => ?_)
    · refine Eng.nc_seq ?_
      refine nc ?_
      refine own_store (t := 72) H 0 rfl (by kernel_rfl) (j := 0) rfl rfl fun w5 H => ?_
      refine nc ?_
      exact ret_of [.slice none 0 0] ⟨⟨_, rfl, load1_run (by kernel_rfl) (H.cell 0 rfl 0 rfl)⟩, trivial⟩ ⟨_, rfl, ⟨⟨none, 0, rfl, Nat.le_refl _, .inl ⟨rfl, fun _ => rfl⟩⟩, fun _ => rfl⟩, H.frame⟩
    · cases hc
  | some T =>
    obtain ⟨hT, hok⟩ := ofM_text ho
    refine Eng.nc_cond (b := false) rfl (fun hc => ?_) (fun hc => ?_)
    · cases hc
    refine nc ?_
    have hlenT : T.text.length ≤ 900000 := by rw [← hT]; exact hs
    simp only
    refine nc_cutD (fun ds e w' => ∃ D, ds = [D] ∧ (nodesT [] T).find? (fun x => decide (membersM x.2 = [p])) = none ∧ e = [(4, .pointer (some ⟨c4, 0, none⟩))] ∧ Eng.Own ok w w' [.obj D isDef, .blk c4 [.slice none 0 0] 72]) ?_ ?_
    · refine Eng.nc_seq ?_
      refine nc ?_
      refine call_rule (by kernel_rfl) (below_own (node := []) (t := s) H) fun v w5 ⟨bn2, bt2, hv, H⟩ => ?_
      subst hv
      rw [hT] at H
      refine Eng.nc_block ?_
      refine range_rule (I := fun p1 L1 => (∀ x ∈ p1, membersM x.2 ≠ [p]) ∧ L1 = [.blk c4 [.slice none 0 0] 72, .blk bp [.int .i64 p] 3]) (Ix := fun c p1 L1 => c = .ret ∧ ∃ p2 x A m, p1 = p2 ++ [x] ∧ (∀ x ∈ p2, membersM x.2 ≠ [p]) ∧ membersM x.2 = [p] ∧ L1 = [.dat (dSl tStr (.slice A (upT x.1).length m) (upT x.1)), .blk c4 [.slice A (upT x.1).length m] 72, .blk bp [.int .i64 p] 3]) rfl (by kernel_rfl) (fun _ => rfl) rfl (below_iter T [] bn2 bt2 hok (by simp; omega)) H ⟨fun x hx => by simp at hx, rfl⟩ ?_ ?_ ?_
      · rintro l1 φ T1 p1 x L1 W1 hφ ⟨rest, hrest⟩ ⟨hne, rfl⟩ H
        have hxm : x ∈ nodesT [] T := by rw [← hrest]; simp
        have hxl := nodes_len T [] x hxm
        simp only [List.length_nil] at hxl
        refine Eng.nc_seq ?_
        refine nc ?_
        refine nc ?_
        refine rGo_in [.blk c4 [.slice none 0 0] 72, .blk bp [.int .i64 p] 3] H fun w5 φ2 hφ2 H => ?_
        refine Eng.nc_block ?_
        refine Eng.nc_seq ?_
        refine nc ?_
        refine call_rule (by kernel_rfl) (treeMembers_own (s := x.2) H (by omega)) fun v w6 ⟨Am, cm, hv, H⟩ => ?_
        subst hv
        refine Eng.nc_seq ?_
        refine nc ?_
        have hno : ∀ (hm : membersM x.2 ≠ [p]), ∀ y ∈ p1 ++ [x], membersM y.2 ≠ [p] := by
          intro hm y hy
          rcases List.mem_append.1 hy with q | q
          · exact hne y q
          · rw [List.mem_singleton.1 q]; exact hm
        by_cases h1 : (membersM x.2).length = 1
        · obtain ⟨y, hy⟩ := List.length_eq_one_iff.1 h1
          rw [hy] at H ⊢
          obtain ⟨a1, cs1, rfl, hR1, H⟩ := H.elemI (x := 0) (y := y) 0 rfl rfl
          obtain rfl : cs1 = [.int .i64 y] := hR1
          refine draw_rule [] (by kernel_rfl) (by kernel_rfl) H ?_
          refine c_idxA (e := 3) 1 0 (by kernel_rfl) (by kernel_rfl) (by decide) (by simp) ?_
          refine c_loadD 0 rfl 0 (by kernel_rfl) rfl ?_
          refine c_load 3 rfl (by kernel_rfl) (j := 0) rfl ?_
          intro w7 H
          refine Eng.nc_cond (b := (y == p)) rfl (fun hc => ?_) (fun hc => ?_)
          · have hyp : y = p := by simpa using hc
            have hm : membersM x.2 = [p] := by rw [hy, hyp]
            replace H : Eng.Own ok w w7 (.blk c4 [.slice none 0 0] 72 :: .blk bp [.int .i64 p] 3 :: .obj l1 φ2 :: T1) := H.tail.tail
            refine Eng.nc_seq ?_
            refine nc ?_
            refine own_buildSlice (e := 9) (sz := 1) (z := .string (bs [])) (cs := [.string (bs x.1)]) H (by kernel_rfl) (by kernel_rfl) (by kernel_rfl) rfl rfl rfl rfl fun g w8 H => ?_
            replace H := H.blkRow (n := 1) (sz := 1) rfl (by decide)
            have h0 : x.1.take (x.1.length - 0) = x.1 := by simp
            refine Eng.nc_seq ?_
            refine Eng.nc_block ?_
            refine nc ?_
            refine loop_rule (fun k e w' => ∃ (j : Nat) (z : Value), j + k = x.1.length ∧ e = [(4, .pointer (some ⟨c4, 0, none⟩)), (5, .string (bs (x.1.take (x.1.length - j)))), (8, z)] ∧ Eng.Own ok w w' (.row z 9 1 (j + 1) (strs (upJ x.1 j)) :: .blk c4 [.slice none 0 0] 72 :: .blk bp [.int .i64 p] 3 :: .obj l1 φ2 :: T1)) x.1.length
              [(4, .pointer (some ⟨c4, 0, none⟩)), (5, .string (bs x.1)), (8, .slice (some ⟨g, 0, none⟩) 1 1)] ⟨rfl, rfl, rfl, trivial⟩ ⟨0, _, by omega, by rw [h0], by rw [show upJ x.1 0 = [x.1] by unfold upJ; simp]; exact H⟩ ?_
            rintro k e w9 ⟨j, z, hjk, rfl, H⟩
            have hnl : (x.1.take (x.1.length - j)).length = x.1.length - j := by rw [List.length_take]; omega
            have hul : ∀ i, (upJ x.1 i).length = i + 1 := fun i => by unfold upJ; simp
            obtain ⟨A, c, rfl, hA1, hA2⟩ := H.rowSl 0 rfl
            refine Eng.nc_seq ?_
            refine Eng.nc_seq ?_
            refine nc ?_
            refine Eng.nc_cond (b := !((bs (x.1.take (x.1.length - j))).toList == (bs []).toList)) rfl (fun hc2 => ?_) (fun hc2 => ?_)
            · have hne2 : x.1.take (x.1.length - j) ≠ [] := by simpa [bs_toList] using hc2
              have hjl : j < x.1.length := by
                apply Classical.byContradiction
                intro hn
                exact hne2 (by rw [show x.1.length - j = 0 by omega, List.take_zero])
              refine nc ?_
              refine Eng.nc_seq ?_
              refine Eng.nc_block ?_
              refine nc ?_
              have hw : IntKind.i64.wrap (((x.1.take (x.1.length - j)).length : Int) - 1) = ((x.1.length - (j + 1) : Nat) : Int) := by rw [hnl, Eng.i64_id (by omega) (by omega)]; omega
              have hsl : slcM (x.1.take (x.1.length - j)) (0 : Int) (IntKind.i64.wrap (((x.1.take (x.1.length - j)).length : Int) - 1)) = some (x.1.take (x.1.length - (j + 1))) := by
                rw [hw]
                have e : slcM (x.1.take (x.1.length - j)) ((0 : Nat) : Int) ((x.1.length - (j + 1) : Nat) : Int) = some ((x.1.take (x.1.length - j)).take (x.1.length - (j + 1))) := by
                  unfold slcM
                  rw [if_pos ⟨by omega, by omega, by rw [hnl]; omega⟩]
                  simp
                rw [show (0 : Int) = ((0 : Nat) : Int) from rfl, e, List.take_take, Nat.min_eq_left (by omega)]
              refine txtI_rule (0 : Int) (IntKind.i64.wrap (((x.1.take (x.1.length - j)).length : Int) - 1)) (by kernel_rfl) rfl ⟨_, rfl⟩ hsl ?_
              refine nc ?_
              refine own_buildSlice (e := 9) (sz := 1) (z := .string (bs [])) (cs := [.string (bs (x.1.take (x.1.length - (j + 1))))]) H (by kernel_rfl) (by kernel_rfl) (by kernel_rfl) rfl rfl rfl rfl fun g2 w10 H => ?_
              refine own_appendBlk (e := 9) (sz := 1) (z := .string (bs [])) (by_ := 16) (m := 1) H 1 0 rfl rfl (by kernel_rfl) (by kernel_rfl) rfl rfl rfl (by intro v hv; simp at hv; subst hv; rfl) (by omega) (by omega) fun v5 w11 H => ?_
              refine again_in (k - 1) (by omega) [(4, .pointer (some ⟨c4, 0, none⟩)), (5, .string (bs (x.1.take (x.1.length - (j + 1))))), (8, v5)] ⟨rfl, rfl, rfl, trivial⟩ ⟨j + 1, v5, by omega, rfl, ?_⟩
              have e : strs (upJ x.1 (j + 1)) = strs (upJ x.1 j) ++ [.string (bs (x.1.take (x.1.length - (j + 1))))] := by rw [upJ_succ]; simp [strs]
              rw [e]
              exact H.tail
            · have hnil : x.1.take (x.1.length - j) = [] := by simpa [bs_toList] using hc2
              have hj : j = x.1.length := by
                have := congrArg List.length hnil
                rw [hnl] at this
                simp only [List.length_nil] at this
                omega
              subst hj
              refine nc ?_
              refine Eng.nc_seq ?_
              refine nc ?_
              refine own_store (t := 72) H 1 rfl (by kernel_rfl) (j := 0) rfl rfl fun w10 H => ?_
              replace H : Eng.Own ok w w10 (.row (.slice A (upT x.1).length c) 9 1 (upT x.1).length (strs (upT x.1)) :: .blk c4 [.slice A (upT x.1).length c] 72 :: .blk bp [.int .i64 p] 3 :: .obj l1 φ2 :: T1) := by
                have e : (upT x.1).length = x.1.length + 1 := hul _
                rw [e]
                exact H
              replace H := H.freezeS 0 rfl
              refine nc ?_
              exact rEnd_in [.dat (dSl tStr (.slice A (upT x.1).length c) (upT x.1)), .blk c4 [.slice A (upT x.1).length c] 72, .blk bp [.int .i64 p] 3] ⟨rfl, p1, x, A, c, rfl, hne, hm, rfl⟩ H
          · refine nc ?_
            have hm : membersM x.2 ≠ [p] := by
              rw [hy]
              intro e
              rw [(List.cons.inj e).1] at hc
              simp at hc
            exact rEnd_in [.blk c4 [.slice none 0 0] 72, .blk bp [.int .i64 p] 3] ⟨hno hm, rfl⟩ H.tail.tail
        · have hg : (((membersM x.2).length : Int) == 1) = false := beq_eq_false_iff_ne.2 (by omega)
          refine draw_rule [] (by kernel_rfl) (by kernel_rfl) H ?_
          refine c_skipIA (.pointer (some ⟨0, 0, none⟩)) (gF1 hg) ?_
          refine c_skipLD (.int .i64 0) (gF1 hg) ?_
          refine c_load 2 rfl (by kernel_rfl) (j := 0) rfl ?_
          intro w7 H
          refine Eng.nc_cond (b := cond (((membersM x.2).length : Int) == 1) ((0 : Int) == p) false) rfl (fun hc => ?_) (fun hc => ?_)
          · rw [hg] at hc; cases hc
          · refine nc ?_
            exact rEnd_in [.blk c4 [.slice none 0 0] 72, .blk bp [.int .i64 p] 3] ⟨hno (fun e => h1 (by rw [e]; rfl)), rfl⟩ H.tail
      · rintro D W1 L1 xs rfl ⟨hne, rfl⟩ H
        refine cutD_in (e' := [(4, .pointer (some ⟨c4, 0, none⟩))]) ⟨rfl, trivial⟩ ⟨D, rfl, ?_, rfl, H.pickL [0, 3] rfl⟩
        exact List.find?_eq_none.2 fun x hx => by simpa using hne x hx
      · rintro D W1 L1 p1 c ⟨rest, hrest⟩ ⟨rfl, p2, x, A, m, rfl, hne, hx, rfl⟩ H
        refine nc ?_
        refine ret_own H 0 rfl fun w' H => ?_
        have hf : (nodesT [] T).find? (fun x => decide (membersM x.2 = [p])) = some x := by
          rw [← hrest, List.append_assoc, List.find?_append, List.find?_eq_none.2 (fun y hy => by simpa using hne y hy)]
          simp [hx]
        rw [hf]
        have hne0 : upT x.1 ≠ [] := fun e => by have := congrArg List.length e; unfold upT at this; simp at this
        exact ret_of [.slice A (upT x.1).length m] ⟨⟨_, rfl, load1_run (by kernel_rfl) (H.cell 4 rfl 0 rfl)⟩, trivial⟩ ⟨_, rfl, ⟨H.outD 3 rfl, fun e => absurd e hne0⟩, H.frame⟩
    · rintro _ _ w5 ⟨D, rfl, hf, rfl, H⟩
      rw [hf]
      refine Eng.nc_seq ?_
      refine nc ?_
      refine own_store (t := 72) H 1 rfl (by kernel_rfl) (j := 0) rfl rfl fun w6 H => ?_
      refine nc ?_
      refine ret_own H 0 rfl fun w' H => ?_
      exact ret_of [.slice none 0 0] ⟨⟨_, rfl, load1_run (by kernel_rfl) (H.cell 1 rfl 0 rfl)⟩, trivial⟩ ⟨_, rfl, ⟨⟨none, 0, rfl, Nat.le_refl _, .inl ⟨rfl, fun _ => rfl⟩⟩, fun _ => rfl⟩, H.frame⟩
noncomputable def place_Path.f (s : List UInt8) (p : Int) : Option (List (List UInt8)) := givenM (s.length ≤ 900000) (some (pathM s p))
theorem place_Path_ok {x0 : List UInt8} {x1 : Int} {r : List (List UInt8)} (h : place_Path.f x0 x1 = some r) : Calls Tryz.prog 36 #[.string (bs x0), .int .i64 x1] w fun e w' => ∃ u, e = .returned u ∧ (slR tStr w' (fun b => ok b ∨ w.heap.size ≤ b) u r ∧ Bel w.heap.size w w') := by
  obtain ⟨hl, h⟩ := givenS h
  cases h
  exact (path_calls hl).mono fun e w' ⟨v, he, hv, hb⟩ => ⟨v, he, hv.1, hb⟩
end Go.Proofs.YtfapphlhkfddoaaGreatDoor.G
