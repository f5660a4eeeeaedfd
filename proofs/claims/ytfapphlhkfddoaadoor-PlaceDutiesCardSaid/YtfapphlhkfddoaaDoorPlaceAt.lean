/- What stands at a node. -/
import Derived.Test.YtfapphlhkfddoaaDoorBelow
namespace Go.Proofs.YtfapphlhkfddoaaDoor.G
open Go.RowKit Go.Eng Go.Proofs Go.Proofs.YtfapphlhkfddoaaDoor.Cut
set_option linter.unusedVariables false
set_option maxRecDepth 20000
variable {ok : Nat → Prop} {w0 w : World} {L R : List Eng.Item}

def atM (s node : List UInt8) : List UInt8 × Int := match ofM s with
  | none => ([], 1)
  | some T => match (nodesT [] T).find? (fun x => decide (x.1 = node)) with
    | some x => (x.2, 0)
    | none => ([], 8)
set_option maxHeartbeats 4000000 in
theorem placeAt_calls {s node : List UInt8} (hs : s.length ≤ 900000) : Calls Tryd.prog 12 #[.string (bs s), .string (bs node)] w fun e w' => ∃ v, e = .returned v ∧ (v = .tuple #[.string (bs (atM s node).1), .int .i64 (atM s node).2] ∧ Bel w.heap.size w w') := by
  have H : Eng.Own (fun _ => False) w w [] := Eng.Own.nil _ w
  refine enterN (args := [.string (bs s), .string (bs node)]) Tryd.func12 rfl Tryd.ntmps12 rfl rfl ?_
  refine Eng.nc_seq ?_
  refine nc ?_
  refine own_box H [.string (bs node)] rfl fun bn w1 H => ?_
  refine own_alloc (z := .string (bs [])) H (by kernel_rfl) [.string (bs [])] rfl fun c4 w2 H => ?_
  refine own_alloc (z := .int .i64 0) H (by kernel_rfl) [.int .i64 0] rfl fun c5 w3 H => ?_
  refine Eng.nc_seq ?_
  refine Eng.nc_seq ?_
  refine nc ?_
  refine call_rule (by kernel_rfl) (treeRight_calls (s := s) (by omega)) fun v w4 ⟨hv, hb⟩ => ?_
  subst hv
  replace H := H.call hb
  unfold atM
  cases ho : ofM s with
  | none =>
    refine Eng.nc_cond (b := true) rfl (fun hc => ?_) (fun hc => ?_)
    · refine Eng.nc_seq ?_
      refine nc ?_
      refine own_store (t := 24) H 1 rfl (by kernel_rfl) (j := 0) rfl rfl fun w5 H => ?_
      refine own_store (t := 29) H 0 rfl (by kernel_rfl) (j := 0) rfl rfl fun w6 H => ?_
      refine nc ?_
      exact ret_of [.string (bs []), .int .i64 1] ⟨⟨_, rfl, load1_run (by kernel_rfl) (H.cell 1 rfl 0 rfl)⟩, ⟨_, rfl, load1_run (by kernel_rfl) (H.cell 0 rfl 0 rfl)⟩, trivial⟩ ⟨_, rfl, rfl, H.frame⟩
    · cases hc
  | some T =>
    obtain ⟨hT, hok⟩ := ofM_text ho
    refine Eng.nc_cond (b := false) rfl (fun hc => ?_) (fun hc => ?_)
    · cases hc
    refine nc ?_
    have hlenT : T.text.length ≤ 900000 := by rw [← hT]; exact hs
    simp only
    refine nc_cutD (fun ds e w' => ∃ D, ds = [D] ∧ (nodesT [] T).find? (fun x => decide (x.1 = node)) = none ∧ e = [(4, .pointer (some ⟨c4, 0, none⟩)), (5, .pointer (some ⟨c5, 0, none⟩))] ∧ Eng.Own (fun _ => False) w w' [.obj D isDef, .blk c5 [.int .i64 0] 29, .blk c4 [.string (bs [])] 24]) ?_ ?_
    · refine Eng.nc_seq ?_
      refine nc ?_
      refine call_rule (by kernel_rfl) (below_own (node := []) (t := s) H) fun v w5 ⟨bn2, bt2, hv, H⟩ => ?_
      subst hv
      rw [hT] at H
      refine Eng.nc_block ?_
      refine range_rule (I := fun p1 L1 => (∀ x ∈ p1, x.1 ≠ node) ∧ L1 = [.blk c5 [.int .i64 0] 29, .blk c4 [.string (bs [])] 24, .blk bn [.string (bs node)] 9]) (Ix := fun c p1 L1 => c = .ret ∧ ∃ p2 x, p1 = p2 ++ [x] ∧ (∀ x ∈ p2, x.1 ≠ node) ∧ x.1 = node ∧ L1 = [.blk c5 [.int .i64 0] 29, .blk c4 [.string (bs x.2)] 24, .blk bn [.string (bs node)] 9]) rfl (by kernel_rfl) (fun _ => rfl) rfl (below_iter T [] bn2 bt2 hok (by simp; omega)) H ⟨fun x hx => by simp at hx, rfl⟩ ?_ ?_ ?_
      · rintro l1 φ T1 p1 x L1 W1 hφ ⟨rest, hrest⟩ ⟨hne, rfl⟩ H
        refine Eng.nc_seq ?_
        refine nc ?_
        refine nc ?_
        refine rGo_in [.blk c5 [.int .i64 0] 29, .blk c4 [.string (bs [])] 24, .blk bn [.string (bs node)] 9] H fun w5 φ2 hφ2 H => ?_
        refine Eng.nc_block ?_
        refine Eng.nc_seq ?_
        refine nc ?_
        refine own_load H 2 rfl (by kernel_rfl) (j := 0) rfl ?_
        refine Eng.nc_cond (b := ((bs x.1).toList == (bs node).toList)) rfl (fun hc => ?_) (fun hc => ?_)
        · have hx : x.1 = node := by simpa [bs_toList] using hc
          refine Eng.nc_seq ?_
          refine nc ?_
          refine own_store (t := 24) H 1 rfl (by kernel_rfl) (j := 0) rfl rfl fun w6 H => ?_
          refine own_store (t := 29) H 0 rfl (by kernel_rfl) (j := 0) rfl rfl fun w7 H => ?_
          refine nc ?_
          exact rEnd_in [.blk c5 [.int .i64 0] 29, .blk c4 [.string (bs x.2)] 24, .blk bn [.string (bs node)] 9] ⟨rfl, p1, x, rfl, hne, hx, rfl⟩ H
        · have hx : x.1 ≠ node := by simpa [bs_toList] using hc
          refine nc ?_
          refine rEnd_in [.blk c5 [.int .i64 0] 29, .blk c4 [.string (bs [])] 24, .blk bn [.string (bs node)] 9] ⟨?_, rfl⟩ H
          intro y hy
          rcases List.mem_append.1 hy with q | q
          · exact hne y q
          · rw [List.mem_singleton.1 q]; exact hx
      · rintro D W1 L1 xs rfl ⟨hne, rfl⟩ H
        refine cutD_in (e' := [(4, .pointer (some ⟨c4, 0, none⟩)), (5, .pointer (some ⟨c5, 0, none⟩))]) ⟨rfl, rfl, trivial⟩ ⟨D, rfl, ?_, rfl, H.pickL [0, 3, 4] rfl⟩
        exact List.find?_eq_none.2 fun x hx => by simpa using hne x hx
      · rintro D W1 L1 p1 c ⟨rest, hrest⟩ ⟨rfl, p2, x, rfl, hne, hx, rfl⟩ H
        refine nc ?_
        refine ret_own H 0 rfl fun w' H => ?_
        have hf : (nodesT [] T).find? (fun x => decide (x.1 = node)) = some x := by
          rw [← hrest, List.append_assoc, List.find?_append, List.find?_eq_none.2 (fun y hy => by simpa using hne y hy)]
          simp [hx]
        rw [hf]
        exact ret_of [.string (bs x.2), .int .i64 0] ⟨⟨_, rfl, load1_run (by kernel_rfl) (H.cell 4 rfl 0 rfl)⟩, ⟨_, rfl, load1_run (by kernel_rfl) (H.cell 3 rfl 0 rfl)⟩, trivial⟩ ⟨_, rfl, rfl, H.frame⟩
    · rintro _ _ w5 ⟨D, rfl, hf, rfl, H⟩
      rw [hf]
      refine Eng.nc_seq ?_
      refine nc ?_
      refine own_store (t := 24) H 2 rfl (by kernel_rfl) (j := 0) rfl rfl fun w6 H => ?_
      refine own_store (t := 29) H 1 rfl (by kernel_rfl) (j := 0) rfl rfl fun w7 H => ?_
      refine nc ?_
      refine ret_own H 0 rfl fun w' H => ?_
      exact ret_of [.string (bs []), .int .i64 8] ⟨⟨_, rfl, load1_run (by kernel_rfl) (H.cell 2 rfl 0 rfl)⟩, ⟨_, rfl, load1_run (by kernel_rfl) (H.cell 1 rfl 0 rfl)⟩, trivial⟩ ⟨_, rfl, rfl, H.frame⟩
end Go.Proofs.YtfapphlhkfddoaaDoor.G
