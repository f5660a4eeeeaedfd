/- The secret of a tree's root. -/
import Derived.Test.YtfapphlhkfddoaaGreatDoorTreeSub
import Derived.Test.YtfapphlhkfddoaaGreatDoorH2
namespace Go.Proofs.YtfapphlhkfddoaaGreatDoor.G
open Go.RowKit Go.Eng Go.Proofs Go.Proofs.YtfapphlhkfddoaaGreatDoor.Cut
set_option linter.unusedVariables false
set_option maxRecDepth 20000
variable {ok : Nat → Prop} {w0 w : World} {L R : List Eng.Item}

theorem index_eq (xs : List Int) (p : Int) (hl : xs.length ≤ 1000000000) (hp : p ∈ xs) : ∃ i : Nat, i < xs.length ∧ xs[i]? = some p ∧ slices_Index_int_int.f xs p = some (i : Int) := by
  have key : ∀ k i, i + k = xs.length → p ∈ xs.drop i → ∃ j : Nat, j < xs.length ∧ xs[j]? = some p ∧ loopM (fun s91 : Int => slices_Index_int_int.b1 xs p s91) (i : Int) = some (.inr (j : Int)) := by
    intro k
    induction k with
    | zero => intro i hi h; rw [List.drop_of_length_le (by omega)] at h; simp at h
    | succ k ih =>
      intro i hi h
      have hil : i < xs.length := by omega
      rw [List.drop_eq_getElem_cons hil] at h
      have hx : idxL xs (i : Int) = some xs[i] := by rw [idxL_nat, List.getElem?_eq_getElem hil]
      have hw : IntKind.i64.wrap ((i : Int) + (1 : Int)) = ((i + 1 : Nat) : Int) := by rw [Eng.i64_id (by omega) (by omega)]; omega
      by_cases he : p = xs[i]
      · refine ⟨i, hil, by rw [List.getElem?_eq_getElem hil, he], loop_end ?_⟩
        unfold slices_Index_int_int.b1
        rw [decide_eq_true (show (i : Int) < (xs.length : Int) by omega), cond_true, hx, Option.bind_some, show (p == xs[i]) = true by simp [he]]; rfl
      · obtain ⟨j, h1, h2, h3⟩ := ih (i + 1) (by omega) (by rcases List.mem_cons.1 h with q | q; exact absurd q he; exact q)
        refine ⟨j, h1, h2, loop_step ?_ h3⟩
        show slices_Index_int_int.b1 xs p (i : Int) = _
        unfold slices_Index_int_int.b1
        rw [decide_eq_true (show (i : Int) < (xs.length : Int) by omega), cond_true, hx, Option.bind_some, show (p == xs[i]) = false by simp [he], hw]; rfl
  obtain ⟨j, h1, h2, h3⟩ := key xs.length 0 (by omega) (by simpa using hp)
  refine ⟨j, h1, h2, ?_⟩
  unfold slices_Index_int_int.f
  rw [show loopM (fun s91 : Int => slices_Index_int_int.b1 xs p s91) (0 : Int) = _ from h3]; rfl
/-- The secret of a tree, of its members' ones. -/
noncomputable def rootT (m : List Int) (s : List (List UInt8)) : Tr → Option (List UInt8 × Int)
  | .leaf p => (slices_Index_int_int.f m p).bind fun i => (idxL s i).map fun x => (x, 0)
  | .two l r => (rootT m s l).bind fun a => if a.2 ≠ 0 then some ([], a.2) else (rootT m s r).bind fun b => if b.2 ≠ 0 then some ([], b.2) else
    (blind_Element.f a.1).bind fun e => if e.2 ≠ 0 then some ([], e.2) else blind_Above.f b.1 e.1
noncomputable def blind_Root.f (t : List UInt8) (s : List (List UInt8)) : Option (List UInt8 × Int) :=
  givenM (t.length ≤ 900000 ∧ s.length ≤ 1000000) (if (membersM t).length = 0 ∨ (membersM t).length ≠ s.length then some ([], 1) else match ofM t with
    | some T => rootT (membersM t) s T
    | none => some ([], 1))
def closV (c1 c2 c3 c4 : Nat) : Value := .func (.func 50) #[] #[.pointer (some ⟨c1, 0, none⟩), .pointer (some ⟨c2, 0, none⟩), .pointer (some ⟨c3, 0, none⟩), .pointer (some ⟨c4, 0, none⟩)]
def rootL (c1 c2 c3 c4 : Nat) (t : List UInt8) (S M : Value) (s : List (List UInt8)) (m : List Int) (L : List Eng.Item) : List Eng.Item :=
  .blk c1 [.string (bs t)] 25 :: .blk c2 [S] 32 :: .blk c3 [M] 22 :: .blk c4 [closV c1 c2 c3 c4] 92 :: .dat (dSl tStr S s) :: .dat (dSl (tInt .i64) M m) :: L
set_option maxHeartbeats 8000000 in
theorem root1_own {c1 c2 c3 c4 : Nat} {t : List UInt8} {T0 : Tr} {AS AM : Option Addr} {cS cM : Nat} {s : List (List UInt8)} {L : List Eng.Item} (ht : t.length ≤ 900000) (ho : ofM t = some T0) : ∀ (T : Tr) (node : List UInt8) {w : World} {r : List UInt8 × Int}, subT T0 node = some T → node.length + T.text.length ≤ 1000000 → rootT (membersM t) s T = some r → Eng.Own ok w0 w (rootL c1 c2 c3 c4 t (.slice AS s.length cS) (.slice AM (membersM t).length cM) s (membersM t) L) →
    Calls Tryz.prog 50 #[.string (bs node), .pointer (some ⟨c1, 0, none⟩), .pointer (some ⟨c2, 0, none⟩), .pointer (some ⟨c3, 0, none⟩), .pointer (some ⟨c4, 0, none⟩)] w fun e w' => ∃ v, e = .returned v ∧ (v = .tuple #[.string (bs r.1), .int .i64 r.2] ∧ Eng.Own ok w0 w' (rootL c1 c2 c3 c4 t (.slice AS s.length cS) (.slice AM (membersM t).length cM) s (membersM t) L)) := by
  have hok0 := (ofM_text ho).2
  have hlt : T0.text.length ≤ 900000 := by rw [← (ofM_text ho).1]; exact ht
  have hnd := ofM_nodup ho
  intro T
  induction T with
  | leaf p =>
    intro node w r hsub hlen hr H
    have hT : ofM (Tr.leaf p).text = some (Tr.leaf p) := by
      rw [ofM_iff (subT_ok _ _ _ hsub hok0), if_pos (subT_nodup _ _ _ hsub hnd).1]
    have hmem : membersM (Tr.leaf p).text = [p] := by unfold membersM; rw [hT]; show sortZ [p] = [p]; simp [sortZ]
    have hat : atM t node = ((Tr.leaf p).text, 0) := by rw [at_sub ho, hsub]
    refine enterN (args := [.string (bs node), .pointer (some ⟨c1, 0, none⟩), .pointer (some ⟨c2, 0, none⟩), .pointer (some ⟨c3, 0, none⟩), .pointer (some ⟨c4, 0, none⟩)]) Tryz.func50 rfl Tryz.ntmps50 rfl rfl ?_
    refine Eng.nc_seq ?_
    refine nc ?_
    refine Eng.nc_seq ?_
    refine nc ?_
    refine own_load H 0 rfl (by kernel_rfl) (j := 0) rfl ?_
    refine call_rule (by kernel_rfl) (placeAt_calls (s := t) (node := node) ht) fun v w1 ⟨hv, hb⟩ => ?_
    subst hv
    replace H := H.call hb
    rw [hat]
    refine Eng.nc_seq ?_
    refine nc ?_
    refine call_rule (by kernel_rfl) (treeMembers_calls (ok := okOf ok w0 (rootL c1 c2 c3 c4 t (.slice AS s.length cS) (.slice AM (membersM t).length cM) s (membersM t) L)) (s := (Tr.leaf p).text) (by simp [Tr.text])) fun v w2 ⟨hv, hb⟩ => ?_
    rw [hmem] at hv
    obtain ⟨Am, cm, hv0, hcm, _⟩ := id hv
    subst hv0
    replace H := H.callDat hb (dSl (tInt .i64) (.slice Am [p].length cm) [p]) hv
    -- the member
    obtain ⟨a1, cs1, rfl, hR1, H⟩ := H.elemI (x := 0) (y := p) 0 rfl rfl
    obtain rfl : cs1 = [.int .i64 p] := hR1
    have hpm : p ∈ membersM t := by
      have : membersM t = sortZ T0.leavesR := by unfold membersM; rw [ho]
      rw [this]
      exact (sortZ_perm _).mem_iff.2 ((subT_nodup _ _ _ hsub hnd).2 p (by simp [Tr.leavesR]))
    unfold rootT at hr
    obtain ⟨ix, hix, hr⟩ := bindS hr
    cases hx : idxL s ix with
    | none => rw [hx] at hr; cases hr
    | some x =>
      rw [hx] at hr
      cases hr
      obtain ⟨a2, cs2, hA2, hR2, H⟩ := H.elemI (x := ix) (y := x) 6 rfl hx
      cases hA2
      obtain rfl : cs2 = [.string (bs x)] := hR2
      refine Eng.nc_seq ?_
      refine nc ?_
      refine Eng.nc_cond (b := true) rfl (fun hc => ?_) (fun hc => ?_)
      · refine Eng.nc_seq ?_
        refine nc ?_
        refine draw_ruleQ [52] (fun _ => .int .i64 ix) [] (by kernel_rfl) (by kernel_rfl) H ?_
        refine c_load 4 rfl (by kernel_rfl) (j := 0) rfl ?_
        refine c_load 5 rfl (by kernel_rfl) (j := 0) rfl ?_
        refine c_idxA (e := 3) 1 0 (by kernel_rfl) (by kernel_rfl) (by simp) (by simp) ?_
        refine c_loadD 1 rfl 0 (by kernel_rfl) rfl ?_
        refine c_quiet (by kernel_rfl) (fun _ w H => slices_Index_int_int_ok (H.dat 8 rfl) hix) ?_
        refine c_idxA (e := 28) 1 ix (by kernel_rfl) (by kernel_rfl) (idxL_some hx).1 (idxL_some hx).2.1 ?_
        refine c_loadD 0 rfl 0 (by kernel_rfl) rfl ?_
        intro w3 H
        refine nc ?_
        exact ret_inA [.string (bs x), .int .i64 0] ⟨_, rfl, rfl, H.tail.tail.tail⟩
      · cases hc
  | two l r ihl ihr =>
    intro node w rr hsub hlen hr H
    have hT : ofM (Tr.two l r).text = some (Tr.two l r) := by
      rw [ofM_iff (subT_ok _ _ _ hsub hok0), if_pos (subT_nodup _ _ _ hsub hnd).1]
    have hmem : membersM (Tr.two l r).text = sortZ (Tr.two l r).leavesR := by unfold membersM; rw [hT]
    have hmlen : 2 ≤ (sortZ (Tr.two l r).leavesR).length := by
      rw [sortZ_len]
      have h1 := leavesR_pos l
      have h2 := leavesR_pos r
      simp only [Tr.leavesR, List.length_append]; omega
    have hat : atM t node = ((Tr.two l r).text, 0) := by rw [at_sub ho, hsub]
    obtain ⟨hsl, hsr⟩ := subT_snoc _ _ _ _ hsub
    have hlen2 : node.length + (l.text.length + r.text.length + 2) ≤ 1000000 := by simp only [Tr.text, List.length_cons, List.length_append, List.length_nil] at hlen; omega
    refine enterN (args := [.string (bs node), .pointer (some ⟨c1, 0, none⟩), .pointer (some ⟨c2, 0, none⟩), .pointer (some ⟨c3, 0, none⟩), .pointer (some ⟨c4, 0, none⟩)]) Tryz.func50 rfl Tryz.ntmps50 rfl rfl ?_
    refine Eng.nc_seq ?_
    refine nc ?_
    refine Eng.nc_seq ?_
    refine nc ?_
    refine own_load H 0 rfl (by kernel_rfl) (j := 0) rfl ?_
    refine call_rule (by kernel_rfl) (placeAt_calls (s := t) (node := node) ht) fun v w1 ⟨hv, hb⟩ => ?_
    subst hv
    replace H := H.call hb
    rw [hat]
    refine Eng.nc_seq ?_
    refine nc ?_
    refine call_rule (by kernel_rfl) (treeMembers_calls (ok := okOf ok w0 (rootL c1 c2 c3 c4 t (.slice AS s.length cS) (.slice AM (membersM t).length cM) s (membersM t) L)) (s := (Tr.two l r).text) (by have := subT_len _ _ _ hsub; omega)) fun v w2 ⟨hv, hb⟩ => ?_
    rw [hmem] at hv
    obtain ⟨Am, cm, hv0, hcm, _⟩ := id hv
    subst hv0
    replace H := H.call hb
    refine Eng.nc_seq ?_
    refine nc ?_
    refine Eng.nc_cond (b := (((sortZ (Tr.two l r).leavesR).length : Int) == 1)) rfl (fun hc => ?_) (fun hc => ?_)
    · simp at hc; omega
    refine nc ?_
    unfold rootT at hr
    obtain ⟨ra, hra, hr⟩ := bindS hr
    refine Eng.nc_seq ?_
    refine nc ?_
    refine own_load H 3 rfl (by kernel_rfl) (j := 0) rfl ?_
    refine catM_rule (a := node) (b := [108]) (by simp; omega) ?_
    refine callV_rule (by kernel_rfl) (ihl (node ++ [108]) hsl (by rw [List.length_append]; simp; omega) hra H) fun v w3 ⟨hv, H⟩ => ?_
    subst hv
    refine Eng.nc_seq ?_
    refine nc ?_
    refine Eng.nc_cond (b := (ra.2 != 0)) rfl (fun hc => ?_) (fun hc => ?_)
    · rw [if_pos (by simpa using hc)] at hr
      cases hr
      refine Eng.nc_seq ?_
      refine nc ?_
      refine nc ?_
      exact ret_inA [.string (bs []), .int .i64 ra.2] ⟨_, rfl, rfl, H⟩
    rw [if_neg (by simpa using hc)] at hr
    obtain ⟨rb, hrb, hr⟩ := bindS hr
    refine nc ?_
    refine Eng.nc_seq ?_
    refine nc ?_
    refine own_load H 3 rfl (by kernel_rfl) (j := 0) rfl ?_
    refine catM_rule (a := node) (b := [114]) (by simp; omega) ?_
    refine callV_rule (by kernel_rfl) (ihr (node ++ [114]) hsr (by rw [List.length_append]; simp; omega) hrb H) fun v w4 ⟨hv, H⟩ => ?_
    subst hv
    refine Eng.nc_seq ?_
    refine nc ?_
    refine Eng.nc_cond (b := (rb.2 != 0)) rfl (fun hc => ?_) (fun hc => ?_)
    · rw [if_pos (by simpa using hc)] at hr
      cases hr
      refine Eng.nc_seq ?_
      refine nc ?_
      refine nc ?_
      exact ret_inA [.string (bs []), .int .i64 rb.2] ⟨_, rfl, rfl, H⟩
    rw [if_neg (by simpa using hc)] at hr
    obtain ⟨re, hre, hr⟩ := bindS hr
    refine nc ?_
    refine Eng.nc_seq ?_
    refine nc ?_
    refine call_rule (by kernel_rfl) (blind_Element_ok (ok := fun _ => False) hre) fun v w5 ⟨hv, hb⟩ => ?_
    subst hv
    replace H := H.call hb
    refine Eng.nc_seq ?_
    refine nc ?_
    refine Eng.nc_cond (b := (re.2 != 0)) rfl (fun hc => ?_) (fun hc => ?_)
    · rw [if_pos (by simpa using hc)] at hr
      cases hr
      refine Eng.nc_seq ?_
      refine nc ?_
      refine nc ?_
      exact ret_inA [.string (bs []), .int .i64 re.2] ⟨_, rfl, rfl, H⟩
    rw [if_neg (by simpa using hc)] at hr
    refine nc ?_
    refine Eng.nc_seq ?_
    refine nc ?_
    refine call_rule (by kernel_rfl) (blind_Above_ok (ok := fun _ => False) hr) fun v w6 ⟨hv, hb⟩ => ?_
    subst hv
    replace H := H.call hb
    refine nc ?_
    exact ret_inA [.string (bs rr.1), .int .i64 rr.2] ⟨_, rfl, rfl, H⟩
set_option maxHeartbeats 4000000 in
theorem blind_Root_ok {u : Value} {t : List UInt8} {s : List (List UInt8)} {r : List UInt8 × Int} (hu : slR tStr w ok u s) (h : blind_Root.f t s = some r) :
    Calls Tryz.prog 15 #[.string (bs t), u] w fun e w' => ∃ v, e = .returned v ∧ (v = .tuple #[.string (bs r.1), .int .i64 r.2] ∧ Bel w.heap.size w w') := by
  have H : Eng.Own ok w w [] := Eng.Own.nil ok w
  obtain ⟨AS, cS, rfl, H⟩ := H.arg rfl hu
  unfold blind_Root.f at h
  obtain ⟨⟨ht, hs⟩, h⟩ := givenS h
  refine enterN (args := [.string (bs t), .slice AS s.length cS]) Tryz.func15 rfl Tryz.ntmps15 rfl rfl ?_
  refine Eng.nc_seq ?_
  refine nc ?_
  refine own_box H [.string (bs t)] rfl fun c1 w1 H => ?_
  refine own_box H [.slice AS s.length cS] rfl fun c2 w2 H => ?_
  refine Eng.nc_seq ?_
  refine nc ?_
  refine own_load H 1 rfl (by kernel_rfl) (j := 0) rfl ?_
  refine call_rule (by kernel_rfl) (treeMembers_calls (ok := okOf ok w [.blk c2 [.slice AS s.length cS] 32, .blk c1 [.string (bs t)] 25, .dat (dSl tStr (.slice AS s.length cS) s)]) (s := t) (by omega)) fun v w3 ⟨hv, hb⟩ => ?_
  obtain ⟨AM, cM, hv0, hcm, _⟩ := id hv
  subst hv0
  replace H := H.callDat hb (dSl (tInt .i64) (.slice AM (membersM t).length cM) (membersM t)) hv
  refine own_alloc (z := .slice none 0 0) H (by kernel_rfl) [.slice none 0 0] rfl fun c3 w4 H => ?_
  refine own_store H 0 rfl (by kernel_rfl) (j := 0) rfl rfl fun w5 H => ?_
  replace H : Eng.Own ok w w5 [.blk c3 [.slice AM (membersM t).length cM] 22, .dat (dSl (tInt .i64) (.slice AM (membersM t).length cM) (membersM t)), .blk c2 [.slice AS s.length cS] 32, .blk c1 [.string (bs t)] 25, .dat (dSl tStr (.slice AS s.length cS) s)] := H
  refine Eng.nc_seq ?_
  refine Eng.nc_seq ?_
  refine nc ?_
  refine own_load H 0 rfl (by kernel_rfl) (j := 0) rfl ?_
  refine own_load H 0 rfl (by kernel_rfl) (j := 0) rfl ?_
  refine own_load H 2 rfl (by kernel_rfl) (j := 0) rfl ?_
  refine Eng.nc_cond (b := cond (((membersM t).length : Int) == 0) true (((membersM t).length : Int) != (s.length : Int))) rfl (fun hc => ?_) (fun hc => ?_)
  · rw [if_pos (by
      cases h0 : (((membersM t).length : Int) == 0) with
      | true => left; have := beq_iff_eq.1 h0; omega
      | false => rw [h0] at hc; right; have := bne_iff_ne.1 hc; omega)] at h
    cases h
    refine Eng.nc_seq ?_
    refine nc ?_
    refine nc ?_
    exact ret_inA [.string (bs []), .int .i64 1] ⟨_, rfl, rfl, H.frame⟩
  rw [if_neg (by
      cases h0 : (((membersM t).length : Int) == 0) with
      | true => rw [h0] at hc; cases hc
      | false =>
        rw [h0] at hc
        have h1 : ((membersM t).length : Int) = (s.length : Int) := by simpa using hc
        have h2 : ¬ ((membersM t).length : Int) = 0 := by simpa using h0
        omega)] at h
  refine nc ?_
  refine Eng.nc_seq ?_
  refine nc ?_
  refine own_alloc (z := .nilFunc) H (by kernel_rfl) [.nilFunc] rfl fun c4 w6 H => ?_
  refine Eng.nc_seq ?_
  refine nc ?_
  refine own_store (t := 92) H 0 rfl (by kernel_rfl) (j := 0) rfl rfl fun w7 H => ?_
  replace H : Eng.Own ok w w7 (rootL c1 c2 c3 c4 t (.slice AS s.length cS) (.slice AM (membersM t).length cM) s (membersM t) []) :=
    order_own (A := [.blk c4 [closV c1 c2 c3 c4] 92, .blk c3 [.slice AM (membersM t).length cM] 22, .dat (dSl (tInt .i64) (.slice AM (membersM t).length cM) (membersM t)), .blk c2 [.slice AS s.length cS] 32, .blk c1 [.string (bs t)] 25, .dat (dSl tStr (.slice AS s.length cS) s)]) (R := []) H [4, 3, 1, 0, 5, 2] (by show (List.range 6).Perm _; decide)
  have hM0 : (membersM t).length ≠ 0 := by
    intro e
    rw [e] at hc
    cases hc
  cases ho : ofM t with
  | none => exact absurd (by unfold membersM; rw [ho]; rfl) hM0
  | some T =>
    rw [ho] at h
    replace h : rootT (membersM t) s T = some r := h
    have hlt : T.text.length ≤ 900000 := by rw [← (ofM_text ho).1]; exact ht
    refine Eng.nc_seq ?_
    refine nc ?_
    refine own_load H 3 rfl (by kernel_rfl) (j := 0) rfl ?_
    refine callV_rule (by kernel_rfl) (root1_own ht ho T [] (by cases T <;> rfl) (by simp; omega) h H) fun v w8 ⟨hv, H⟩ => ?_
    subst hv
    refine nc ?_
    exact ret_inA [.string (bs r.1), .int .i64 r.2] ⟨_, rfl, rfl, H.frame⟩
end Go.Proofs.YtfapphlhkfddoaaGreatDoor.G
