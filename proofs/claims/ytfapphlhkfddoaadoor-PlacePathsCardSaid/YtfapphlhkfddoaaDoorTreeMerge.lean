/- Two trees are merged. -/
import Derived.Test.YtfapphlhkfddoaaDoorTreeLeave
import Derived.Test.YtfapphlhkfddoaaDoorClear
namespace Go.Proofs.YtfapphlhkfddoaaDoor.G
open Go.RowKit Go.Eng Go.Proofs Go.Proofs.YtfapphlhkfddoaaDoor.Cut
set_option linter.unusedVariables false
set_option maxRecDepth 20000
variable {ok : Nat → Prop} {w0 w : World} {L R : List Eng.Item}

theorem freezeI {v : Value} {xs : List Int} (H : Eng.Own ok w0 w L) (i : Nat) (hi : L[i]? = some (.row v 3 1 xs.length (intsV xs))) : Eng.Own ok w0 w (L.set i (.dat (dSl (tInt .i64) v xs))) := by
  have H' := H.addDat (dRows (tInt .i64) xs (intsV xs)) (rowsR_ints w _ xs)
  exact (H'.freeze (k := tInt .i64) (i + 1) 0 hi rfl).tail
/-! The copy of a row, and what is struck out of it. -/
set_option maxHeartbeats 1000000 in
theorem cloneI_own {v : Value} {xs : List Int} (hl : xs.length ≤ 1000000) (H : Eng.Own ok w0 w L) (j : Nat) (hj : L[j]? = some (.dat (dSl (tInt .i64) v xs))) :
    Calls Tryd.prog 56 #[v] w fun e w' => ∃ u, e = .returned u ∧ Eng.Own ok w0 w' (.row u 3 1 xs.length (intsV xs) :: L) := by
  obtain ⟨A, c, hA, hc, h0⟩ := id (H.dat j hj)
  subst hA
  refine enterN (args := [.slice A xs.length c]) Tryd.func56 rfl Tryd.ntmps56 rfl rfl ?_
  refine Eng.nc_seq ?_
  refine nc ?_
  refine Eng.nc_seq ?_
  refine Eng.nc_seq ?_
  refine nc ?_
  refine eqlSl_rule (by kernel_rfl) ?_
  cases A with
  | none =>
    have hx : xs = [] := by
      rcases h0 with ⟨h, _⟩ | ⟨a, h, _⟩
      · exact h
      · cases h
    subst hx
    refine Eng.nc_cond (b := true) rfl (fun hc => ?_) (fun hc => ?_)
    · refine Eng.nc_seq ?_
      refine nc ?_
      refine nc ?_
      exact ret_inA [.slice none 0 0] ⟨_, rfl, H.nilRow 3 1⟩
    · cases hc
  | some a =>
    refine Eng.nc_cond (b := false) rfl (fun hc => ?_) (fun hc => ?_)
    · cases hc
    refine nc ?_
    refine Eng.nc_seq ?_
    refine nc ?_
    refine own_buildEmpty (e := 3) (sz := 1) H (by kernel_rfl) (by kernel_rfl) fun v w1 H => ?_
    refine own_appendSl (k := tInt .i64) (e := 3) (z := .int .i64 0) (by_ := 8) H 0 (j + 1) rfl hj (by kernel_rfl) (by kernel_rfl) rfl rfl (by omega) (by omega) ?_
    intro v' w2 news hn H
    have := rows_int hn
    subst this
    refine nc ?_
    refine ret_inA [v'] ⟨_, rfl, ?_⟩
    rw [Nat.zero_add] at H
    exact H
def bothV (cb : Nat) : Value := .func (.func 57) #[] #[.pointer (some ⟨cb, 0, none⟩)]
set_option maxHeartbeats 1000000 in
theorem both1_own {cb i j : Nat} {vy : Value} {ys : List Int} {x : Int} (hl : ys.length ≤ 1000000) (H : Eng.Own ok w0 w L) (hi : L[i]? = some (.blk cb [vy] 22)) (hj : L[j]? = some (.dat (dSl (tInt .i64) vy ys))) :
    Calls Tryd.prog 57 #[.int .i64 x, .pointer (some ⟨cb, 0, none⟩)] w fun e w' => ∃ u, e = .returned u ∧ (u = .bool (!(decide (x ∈ ys))) ∧ Eng.Own ok w0 w' L) := by
  refine enterN (args := [.int .i64 x, .pointer (some ⟨cb, 0, none⟩)]) Tryd.func57 rfl Tryd.ntmps57 rfl rfl ?_
  refine Eng.nc_seq ?_
  refine nc ?_
  refine Eng.nc_seq ?_
  refine nc ?_
  refine own_load H i hi (by kernel_rfl) (j := 0) rfl ?_
  refine call_rule (by kernel_rfl) (view_Has_ok (H.dat j hj) (hasP_eq ys x (by omega))) fun v w1 ⟨hv, hb⟩ => ?_
  subst hv
  replace H := H.call hb
  refine nc ?_
  exact ret_inA [_] ⟨_, rfl, rfl, H⟩
/-- A row of numbers, and the closure's cell. -/
def delL (A : Option Addr) (c cb : Nat) (vy : Value) (zs : List Int) (L : List Eng.Item) : List Eng.Item :=
  .row (.slice A zs.length c) 3 1 zs.length (intsV zs) :: .dat (dRows (tInt .i64) zs (intsV zs)) :: .blk cb [vy] 22 :: L
theorem keep_snoc {ys zs : List Int} {i : Nat} (h : i < zs.length) : (zs.take (i + 1)).filter (fun x => decide (x ∈ ys)) = (zs.take i).filter (fun x => decide (x ∈ ys)) ++ if zs[i] ∈ ys then [zs[i]] else [] := by
  rw [← take_snoc h, List.filter_append]
  congr 1
  by_cases hm : zs[i] ∈ ys
  · rw [if_pos hm]; simp [hm]
  · rw [if_neg hm]; simp [hm]
set_option maxHeartbeats 2000000 in
theorem indexFn_own {A : Option Addr} {c cb j : Nat} {vy : Value} {ys zs : List Int} (hl : ys.length ≤ 1000000) (hz : zs.length ≤ 1000000) (hj : L[j]? = some (.dat (dSl (tInt .i64) vy ys))) (H : Eng.Own ok w0 w (delL A c cb vy zs L)) :
    Calls Tryd.prog 74 #[.slice A zs.length c, bothV cb] w fun e w' => ∃ u, e = .returned u ∧ ∃ q : Int, u = .int .i64 q ∧ ((q = -1 ∧ ∀ x ∈ zs, x ∈ ys) ∨ ∃ (k : Nat) (h : k < zs.length), q = (k : Int) ∧ (∀ x ∈ zs.take k, x ∈ ys) ∧ zs[k] ∉ ys) ∧ Eng.Own ok w0 w' (delL A c cb vy zs L) := by
  refine enterN (args := [.slice A zs.length c, bothV cb]) Tryd.func74 rfl Tryd.ntmps74 rfl rfl ?_
  refine Eng.nc_seq ?_
  refine nc ?_
  refine Eng.nc_seq ?_
  refine Eng.nc_seq ?_
  refine nc ?_
  refine Eng.nc_block ?_
  refine nc ?_
  refine loop_rule (fun k e w' => ∃ i : Nat, i + k = zs.length ∧ (∀ x ∈ zs.take i, x ∈ ys) ∧ e = [(0, .slice A zs.length c), (1, bothV cb), (7, .int .i64 (zs.length : Int)), (8, .int .i64 (i : Int))] ∧ Eng.Own ok w0 w' (delL A c cb vy zs L)) zs.length
    [(0, .slice A zs.length c), (1, bothV cb), (7, .int .i64 (zs.length : Int)), (8, .int .i64 0)] ⟨rfl, rfl, rfl, rfl, trivial⟩ ⟨0, by omega, by simp, rfl, H⟩ ?_
  rintro k e w1 ⟨i, hik, hall, rfl, H⟩
  refine Eng.nc_seq ?_
  refine nc ?_
  refine Eng.nc_seq ?_
  refine Eng.nc_cond (b := decide ((i : Int) < (zs.length : Int))) rfl (fun hc => ?_) (fun hc => ?_)
  · have hil : i < zs.length := by simpa using hc
    obtain ⟨a, rfl, _⟩ := H.rowCells 0 rfl (by omega)
    refine nc ?_
    refine Eng.nc_seq ?_
    refine Eng.nc_block ?_
    refine Eng.nc_seq ?_
    refine nc ?_
    refine Eng.nc_seq ?_
    refine nc ?_
    have hx : idxL zs (i : Int) = some zs[i] := idxL_lt hil
    refine idxA_rule (e := 3) 1 (i : Int) (by kernel_rfl) (by kernel_rfl) (by omega) (by omega) ?_
    obtain ⟨cs, hR, hC⟩ := H.rowElemJ (k := tInt .i64) 0 1 rfl rfl rfl hx
    obtain rfl : cs = [.int .i64 zs[i]] := hR
    refine load_at hC 0 (by kernel_rfl) rfl ?_
    refine callV_rule (by kernel_rfl) (both1_own (i := 2) (j := j + 3) (x := zs[i]) hl H rfl hj) fun u w2 ⟨hu, H⟩ => ?_
    subst hu
    by_cases hm : zs[i] ∈ ys
    · refine Eng.nc_cond (b := !(decide (zs[i] ∈ ys))) rfl (fun hc => ?_) (fun hc => ?_)
      · rw [decide_eq_true hm] at hc; cases hc
      refine nc ?_
      refine nc ?_
      have hw : IntKind.i64.wrap ((i : Int) + (1 : Int)) = ((i + 1 : Nat) : Int) := wrap1 i (by omega)
      refine again_in (k - 1) (by omega) [(0, .slice (some a) zs.length c), (1, bothV cb), (7, .int .i64 (zs.length : Int)), (8, .int .i64 (IntKind.i64.wrap ((i : Int) + (1 : Int))))] ⟨rfl, rfl, rfl, rfl, trivial⟩ ⟨i + 1, by omega, ?_, by rw [hw], H⟩
      intro x hx
      rw [← take_snoc hil] at hx
      rcases List.mem_append.1 hx with q | q
      · exact hall x q
      · rw [List.mem_singleton.1 q]; exact hm
    · refine Eng.nc_cond (b := !(decide (zs[i] ∈ ys))) rfl (fun hc => ?_) (fun hc => ?_)
      · refine Eng.nc_seq ?_
        refine nc ?_
        refine nc ?_
        exact ret_inA [.int .i64 (i : Int)] ⟨_, rfl, _, rfl, .inr ⟨i, hil, rfl, hall, hm⟩, H⟩
      · rw [decide_eq_false hm] at hc; cases hc
  · have hil : i = zs.length := by
      have : ¬ ((i : Int) < (zs.length : Int)) := by simpa using hc
      omega
    subst hil
    refine nc ?_
    refine nc ?_
    refine nc ?_
    exact ret_inA [.int .i64 (-1)] ⟨_, rfl, _, rfl, .inl ⟨rfl, by rw [List.take_length] at hall; exact hall⟩, H⟩
set_option maxHeartbeats 4000000 in
theorem delete_own {A : Option Addr} {c cb j : Nat} {vy : Value} {ys zs : List Int} (hl : ys.length ≤ 1000000) (hz : zs.length ≤ 1000000) (hj : L[j]? = some (.dat (dSl (tInt .i64) vy ys))) (H : Eng.Own ok w0 w (delL A c cb vy zs L)) :
    Calls Tryd.prog 55 #[.slice A zs.length c, bothV cb] w fun e w' => ∃ u, e = .returned u ∧ ∃ A' c', u = .slice A' (zs.filter fun x => decide (x ∈ ys)).length c' ∧ Eng.Own ok w0 w' L := by
  refine enterN (args := [.slice A zs.length c, bothV cb]) Tryd.func55 rfl Tryd.ntmps55 rfl rfl ?_
  refine Eng.nc_seq ?_
  refine nc ?_
  refine Eng.nc_seq ?_
  refine nc ?_
  refine call_rule (by kernel_rfl) (indexFn_own hl hz hj H) fun u w1 ⟨q, hu, hq, H⟩ => ?_
  subst hu
  refine Eng.nc_seq ?_
  refine Eng.nc_seq ?_
  refine nc ?_
  rcases hq with ⟨rfl, hall⟩ | ⟨k0, hk0, rfl, hall, hno⟩
  · refine Eng.nc_cond (b := true) rfl (fun hc => ?_) (fun hc => ?_)
    · refine Eng.nc_seq ?_
      refine nc ?_
      refine nc ?_
      have e : (zs.filter fun x => decide (x ∈ ys)).length = zs.length := by rw [List.filter_eq_self.2 (fun x hx => by simpa using hall x hx)]
      rw [e]
      exact ret_inA [.slice A zs.length c] ⟨_, rfl, A, c, rfl, H.tail.tail.tail⟩
    · cases hc
  · refine Eng.nc_cond (b := ((k0 : Int) == -1)) rfl (fun hc => ?_) (fun hc => ?_)
    · have := beq_iff_eq.1 hc; omega
    refine nc ?_
    have hw0 : IntKind.i64.wrap ((k0 : Int) + (1 : Int)) = ((k0 + 1 : Nat) : Int) := wrap1 k0 (by omega)
    obtain ⟨a, rfl, _⟩ := H.rowCells 0 rfl (by omega)
    refine nc_cut (fun e w' => ∃ zs' : List Int, zs'.length = zs.length ∧ e = [(0, .slice (some a) zs.length c), (5, .int .i64 (((zs.filter fun x => decide (x ∈ ys)).length : Nat) : Int))] ∧ Eng.Own ok w0 w' (delL (some a) c cb vy zs' L)) ?_ ?_
    · refine Eng.nc_seq ?_
      refine nc ?_
      refine Eng.nc_block ?_
      refine nc ?_
      refine loop_rule (fun k e w' => ∃ (i j' : Nat) (zs' : List Int), j' + k = zs.length ∧ i < j' ∧ zs'.length = zs.length ∧ i = ((zs.take j').filter fun x => decide (x ∈ ys)).length ∧ (∀ q, j' ≤ q → zs'[q]? = zs[q]?) ∧ e = [(0, .slice (some a) zs.length c), (1, bothV cb), (5, .int .i64 (i : Int)), (6, .int .i64 (j' : Int))] ∧ Eng.Own ok w0 w' (delL (some a) c cb vy zs' L)) (zs.length - (k0 + 1))
        [(0, .slice (some a) zs.length c), (1, bothV cb), (5, .int .i64 (k0 : Int)), (6, .int .i64 (IntKind.i64.wrap ((k0 : Int) + (1 : Int))))] ⟨rfl, rfl, rfl, rfl, trivial⟩ ⟨k0, k0 + 1, zs, by omega, by omega, rfl, ?_, fun q _ => rfl, by rw [hw0], H⟩ ?_
      · rw [keep_snoc hk0, if_neg hno, List.append_nil, List.filter_eq_self.2 (fun x hx => by simpa using hall x hx), List.length_take]; omega
      rintro k e w2 ⟨i, j', zs', hjk, hij, hzl, hi, hsame, rfl, H⟩
      refine Eng.nc_seq ?_
      refine Eng.nc_seq ?_
      refine nc ?_
      refine Eng.nc_cond (b := decide ((j' : Int) < (zs.length : Int))) rfl (fun hc => ?_) (fun hc => ?_)
      · have hjl : j' < zs.length := by simpa using hc
        have hx : idxL zs' (j' : Int) = some zs[j'] := by rw [idxL_nat, hsame j' (Nat.le_refl _), List.getElem?_eq_getElem hjl]
        refine nc ?_
        refine Eng.nc_seq ?_
        refine Eng.nc_block ?_
        refine Eng.nc_seq ?_
        refine nc ?_
        refine idxA_rule (e := 3) 1 (j' : Int) (by kernel_rfl) (by kernel_rfl) (by omega) (by omega) ?_
        obtain ⟨cs, hR, hC⟩ := H.rowElemJ (k := tInt .i64) 0 1 rfl rfl rfl hx
        obtain rfl : cs = [.int .i64 zs[j']] := hR
        refine load_at hC 0 (by kernel_rfl) rfl ?_
        refine Eng.nc_seq ?_
        refine nc ?_
        refine callV_rule (by kernel_rfl) (both1_own (i := 2) (j := j + 3) (x := zs[j']) hl H rfl hj) fun u w3 ⟨hu, H⟩ => ?_
        subst hu
        have hw1 : IntKind.i64.wrap ((j' : Int) + (1 : Int)) = ((j' + 1 : Nat) : Int) := wrap1 j' (by omega)
        have hks := keep_snoc (ys := ys) hjl
        by_cases hm : zs[j'] ∈ ys
        · rw [if_pos hm] at hks
          refine Eng.nc_cond (b := !(!(decide (zs[j'] ∈ ys)))) rfl (fun hc => ?_) (fun hc => ?_)
          · refine Eng.nc_seq ?_
            refine nc ?_
            refine idxA_rule (e := 3) 1 (i : Int) (by kernel_rfl) (by kernel_rfl) (by omega) (by omega) ?_
            obtain ⟨y, hy⟩ : ∃ y, idxL zs' (i : Int) = some y := ⟨zs'[i]'(by omega), idxL_lt (by omega)⟩
            have hn : zs'.length = zs'.length := rfl
            refine own_rowStore (k := tInt .i64) (m := 1) zs[j'] H 0 1 rfl rfl (i : Int) 0 rfl hy (by kernel_rfl) [.int .i64 zs[j']] rfl rfl rfl rfl (fun cs hR => by obtain rfl : cs = [.int .i64 y] := hR; rfl) fun cells' w4 H => ?_
            have hc2 : cells' = intsV (zs'.set (i : Int).toNat zs[j']) := rows_int (H.dat 1 rfl)
            subst hc2
            have hnl : (zs'.set (i : Int).toNat zs[j']).length = zs'.length := List.length_set
            replace H : Eng.Own ok w0 w4 (delL (some a) c cb vy (zs'.set (i : Int).toNat zs[j']) L) := by
              unfold delL
              rw [hnl]
              exact H
            refine nc ?_
            refine nc ?_
            have hw2 : IntKind.i64.wrap ((i : Int) + (1 : Int)) = ((i + 1 : Nat) : Int) := wrap1 i (by omega)
            refine again_in (k - 1) (by omega) [(0, .slice (some a) zs.length c), (1, bothV cb), (5, .int .i64 (IntKind.i64.wrap ((i : Int) + (1 : Int)))), (6, .int .i64 (IntKind.i64.wrap ((j' : Int) + (1 : Int))))] ⟨rfl, rfl, rfl, rfl, trivial⟩ ⟨i + 1, j' + 1, zs'.set (i : Int).toNat zs[j'], by omega, by omega, by rw [hnl]; exact hzl, ?_, ?_, by rw [hw1, hw2], H⟩
            · rw [hks, List.length_append, ← hi]; rfl
            · intro q hq
              rw [List.getElem?_set_ne (by omega)]
              exact hsame q (by omega)
          · rw [decide_eq_true hm] at hc; cases hc
        · rw [if_neg hm, List.append_nil] at hks
          refine Eng.nc_cond (b := !(!(decide (zs[j'] ∈ ys)))) rfl (fun hc => ?_) (fun hc => ?_)
          · rw [decide_eq_false hm] at hc; cases hc
          refine nc ?_
          refine nc ?_
          refine again_in (k - 1) (by omega) [(0, .slice (some a) zs.length c), (1, bothV cb), (5, .int .i64 (i : Int)), (6, .int .i64 (IntKind.i64.wrap ((j' : Int) + (1 : Int))))] ⟨rfl, rfl, rfl, rfl, trivial⟩ ⟨i, j' + 1, zs', by omega, by omega, hzl, by rw [hks]; exact hi, fun q hq => hsame q (by omega), by rw [hw1], H⟩
      · have hjl : j' = zs.length := by
          have : ¬ ((j' : Int) < (zs.length : Int)) := by simpa using hc
          omega
        subst hjl
        rw [List.take_length] at hi
        subst hi
        refine nc ?_
        exact cut_inA ⟨zs', hzl, rfl, H⟩
    · rintro _ w2 ⟨zs', hzl, rfl, H⟩
      have hfl : (zs.filter fun x => decide (x ∈ ys)).length ≤ zs.length := List.length_filter_le _ _
      obtain ⟨_, _, hsl, _, hcc⟩ := H.rowSl 0 rfl
      injection hsl with _ _ e3
      subst e3
      refine Eng.nc_seq ?_
      refine nc ?_
      refine piece_rule (e := 3) 1 (zs.filter fun x => decide (x ∈ ys)).length zs.length (by kernel_rfl) (by kernel_rfl) ⟨_, rfl⟩ rfl (fun _ => hfl) (fun _ => Nat.le_refl _) (by omega) ?_
      rw [← hzl]
      refine own_clear (e := 3) H 0 rfl (by omega) (by kernel_rfl) (by kernel_rfl) fun cells' w3 H => ?_
      rw [hzl]
      refine nc ?_
      refine piece_rule (e := 3) 1 0 (zs.filter fun x => decide (x ∈ ys)).length (by kernel_rfl) (by kernel_rfl) rfl ⟨_, rfl⟩ (fun _ => Nat.zero_le _) (fun _ => hfl) (by omega) ?_
      refine nc ?_
      exact ret_inA [_] ⟨_, rfl, _, _, rfl, H.tail.tail.tail⟩
set_option maxHeartbeats 2000000 in
theorem both_own {vx vy : Value} {xs ys : List Int} {i j : Nat} (hx : xs.length ≤ 1000000) (hy : ys.length ≤ 1000000) (H : Eng.Own ok w0 w L) (hi : L[i]? = some (.dat (dSl (tInt .i64) vx xs))) (hj : L[j]? = some (.dat (dSl (tInt .i64) vy ys))) :
    Calls Tryd.prog 39 #[vx, vy] w fun e w' => ∃ u, e = .returned u ∧ ∃ A' c', u = .slice A' (xs.filter fun x => decide (x ∈ ys)).length c' ∧ Eng.Own ok w0 w' L := by
  obtain ⟨Ay, cy, rfl, _⟩ := H.sl j hj
  refine enterN (args := [vx, .slice Ay ys.length cy]) Tryd.func39 rfl Tryd.ntmps39 rfl rfl ?_
  refine Eng.nc_seq ?_
  refine nc ?_
  refine own_box H [.slice Ay ys.length cy] rfl fun cb w1 H => ?_
  refine Eng.nc_seq ?_
  refine nc ?_
  refine call_rule (by kernel_rfl) (cloneI_own hx H (i + 1) hi) fun u w2 H => ?_
  obtain ⟨A, c, rfl, _, _⟩ := H.rowSl 0 rfl
  replace H := H.addDat (dRows (tInt .i64) xs (intsV xs)) (rowsR_ints w2 _ xs)
  replace H : Eng.Own ok w0 w2 (delL A c cb (.slice Ay ys.length cy) xs L) := order_own (A := [.dat (dRows (tInt .i64) xs (intsV xs)), .row (.slice A xs.length c) 3 1 xs.length (intsV xs), .blk cb [.slice Ay ys.length cy] 22]) H [1, 0, 2] (by show (List.range 3).Perm _; decide)
  refine call_rule (by kernel_rfl) (delete_own hy hx hj H) fun u w3 ⟨A', c', hu, H⟩ => ?_
  subst hu
  refine nc ?_
  exact ret_inA [_] ⟨_, rfl, A', c', rfl, H⟩
/-! Which of two trees stands ahead. -/
def greaterT (S T : Tr) : Bool := if S.deep ≠ T.deep then decide (S.deep > T.deep) else if S.leavesR.length ≠ T.leavesR.length then decide (S.leavesR.length > T.leavesR.length) else decide ((sortZ S.leavesR).headD 0 < (sortZ T.leavesR).headD 0)
theorem head_sort {xs : List Int} (h : 0 < xs.length) : idxL (sortZ xs) (0 : Int) = some ((sortZ xs).headD 0) := by
  have hl := sortZ_len xs
  cases hs : sortZ xs with
  | nil => rw [hs] at hl; simp only [List.length_nil] at hl; omega
  | cons a r => rfl
set_option maxHeartbeats 4000000 in
theorem greater_own (A B : TrA) (hA : ∀ it ∈ A.items, it ∈ R) (hB : ∀ it ∈ B.items, it ∈ R) (hla : A.tr.leavesR.length ≤ 1000) (hlb : B.tr.leavesR.length ≤ 1000) (H : Eng.Own ok w0 w R) :
    Calls Tryd.prog 40 #[A.ptr, B.ptr] w fun e w' => ∃ u, e = .returned u ∧ (u = .bool (greaterT A.tr B.tr) ∧ Eng.Own ok w0 w' R) := by
  refine enterN (args := [A.ptr, B.ptr]) Tryd.func40 rfl Tryd.ntmps40 rfl rfl ?_
  refine Eng.nc_seq ?_
  refine nc ?_
  refine Eng.nc_seq ?_
  refine nc ?_
  refine call_rule (by kernel_rfl) (nodeMembers_in hA (by omega) H) fun u1 w1 H => ?_
  refine call_rule (by kernel_rfl) (nodeMembers_in (fun it h => List.mem_cons_of_mem _ (hB it h)) (by omega) H) fun u2 w2 H => ?_
  obtain ⟨a2, c2, rfl, _, _⟩ := H.rowSl 0 rfl
  obtain ⟨a1, c1, rfl, _, _⟩ := H.rowSl 1 rfl
  replace H := freezeI (freezeI H 0 rfl) 1 rfl
  replace H : Eng.Own ok w0 w2 (.dat (dSl (tInt .i64) (.slice a2 (sortZ B.tr.leavesR).length c2) (sortZ B.tr.leavesR)) :: .dat (dSl (tInt .i64) (.slice a1 (sortZ A.tr.leavesR).length c1) (sortZ A.tr.leavesR)) :: R) := H
  have hA2 : ∀ it ∈ A.items, it ∈ (.dat (dSl (tInt .i64) (.slice a2 (sortZ B.tr.leavesR).length c2) (sortZ B.tr.leavesR)) :: .dat (dSl (tInt .i64) (.slice a1 (sortZ A.tr.leavesR).length c1) (sortZ A.tr.leavesR)) :: R : List Eng.Item) := fun it h => List.mem_cons_of_mem _ (List.mem_cons_of_mem _ (hA it h))
  have hB2 : ∀ it ∈ B.items, it ∈ (.dat (dSl (tInt .i64) (.slice a2 (sortZ B.tr.leavesR).length c2) (sortZ B.tr.leavesR)) :: .dat (dSl (tInt .i64) (.slice a1 (sortZ A.tr.leavesR).length c1) (sortZ A.tr.leavesR)) :: R : List Eng.Item) := fun it h => List.mem_cons_of_mem _ (List.mem_cons_of_mem _ (hB it h))
  have hda := deep_lt A.tr
  have hdb := deep_lt B.tr
  refine Eng.nc_seq ?_
  refine Eng.nc_block ?_
  refine Eng.nc_seq ?_
  refine nc ?_
  refine call_rule (by kernel_rfl) (depth_own A hA2 (by omega) H) fun u w3 ⟨L', ⟨hu, hL⟩, H⟩ => ?_
  subst hu hL
  refine call_rule (by kernel_rfl) (depth_own B hB2 (by omega) H) fun u w4 ⟨L', ⟨hu, hL⟩, H⟩ => ?_
  subst hu hL
  unfold greaterT
  by_cases hd : A.tr.deep ≠ B.tr.deep
  · rw [if_pos hd]
    refine Eng.nc_cond (b := ((A.tr.deep : Int) != (B.tr.deep : Int))) rfl (fun hc => ?_) (fun hc => ?_)
    · refine Eng.nc_seq ?_
      refine nc ?_
      refine call_rule (by kernel_rfl) (depth_own A hA2 (by omega) H) fun u w5 ⟨L', ⟨hu, hL⟩, H⟩ => ?_
      subst hu hL
      refine call_rule (by kernel_rfl) (depth_own B hB2 (by omega) H) fun u w6 ⟨L', ⟨hu, hL⟩, H⟩ => ?_
      subst hu hL
      refine nc ?_
      refine ret_inA [_] ⟨_, rfl, ?_, H.tail.tail⟩
      show Value.bool (decide ((A.tr.deep : Int) > (B.tr.deep : Int))) = _
      congr 1
      rw [Bool.eq_iff_iff, decide_eq_true_iff, decide_eq_true_iff]; omega
    · rw [int_ne, decide_eq_true hd] at hc; cases hc
  · rw [if_neg hd]
    refine Eng.nc_cond (b := ((A.tr.deep : Int) != (B.tr.deep : Int))) rfl (fun hc => ?_) (fun hc => ?_)
    · rw [int_ne, decide_eq_false hd] at hc; cases hc
    refine Eng.nc_seq ?_
    refine nc ?_
    have ela := sortZ_len A.tr.leavesR
    have elb := sortZ_len B.tr.leavesR
    by_cases hn : A.tr.leavesR.length ≠ B.tr.leavesR.length
    · rw [if_pos hn]
      refine Eng.nc_cond (b := (((sortZ A.tr.leavesR).length : Int) != ((sortZ B.tr.leavesR).length : Int))) rfl (fun hc => ?_) (fun hc => ?_)
      · refine Eng.nc_seq ?_
        refine nc ?_
        refine nc ?_
        refine ret_inA [_] ⟨_, rfl, ?_, H.tail.tail⟩
        show Value.bool (decide (((sortZ A.tr.leavesR).length : Int) > ((sortZ B.tr.leavesR).length : Int))) = _
        rw [ela, elb]
        congr 1
        rw [Bool.eq_iff_iff, decide_eq_true_iff, decide_eq_true_iff]; omega
      · rw [int_ne, ela, elb, decide_eq_true hn] at hc; cases hc
    · rw [if_neg hn]
      refine Eng.nc_cond (b := (((sortZ A.tr.leavesR).length : Int) != ((sortZ B.tr.leavesR).length : Int))) rfl (fun hc => ?_) (fun hc => ?_)
      · rw [int_ne, ela, elb, decide_eq_false hn] at hc; cases hc
      refine nc ?_
      refine Eng.nc_seq ?_
      refine nc ?_
      have hpa := leavesR_pos A.tr
      have hpb := leavesR_pos B.tr
      obtain ⟨x1, cs1, rfl, hR1, H⟩ := H.elemI (x := 0) 1 rfl (head_sort hpa)
      obtain rfl : cs1 = [.int .i64 ((sortZ A.tr.leavesR).headD 0)] := hR1
      obtain ⟨x2, cs2, rfl, hR2, H⟩ := H.elemI (x := 0) 1 rfl (head_sort hpb)
      obtain rfl : cs2 = [.int .i64 ((sortZ B.tr.leavesR).headD 0)] := hR2
      refine draw_rule [] (by kernel_rfl) (by kernel_rfl) H ?_
      refine c_idxA (e := 3) 1 0 (by kernel_rfl) (by kernel_rfl) (by decide) (by omega) ?_
      refine c_loadD 1 rfl 0 (by kernel_rfl) rfl ?_
      refine c_idxA (e := 3) 1 0 (by kernel_rfl) (by kernel_rfl) (by decide) (by omega) ?_
      refine c_loadD 0 rfl 0 (by kernel_rfl) rfl ?_
      intro w5 H
      refine nc ?_
      exact ret_inA [_] ⟨_, rfl, rfl, H.tail.tail.tail.tail⟩
def mergeM (s t : List UInt8) : List UInt8 × Int := match ofM s, ofM t with
  | some A, some B => if ∃ x, x ∈ A.leavesR ∧ x ∈ B.leavesR then ([], 1) else if greaterT A B = true then ((Tr.two A B).text, 0) else ((Tr.two B A).text, 0)
  | _, _ => ([], 1)
set_option maxHeartbeats 8000000 in
theorem merge_calls {s t : List UInt8} (hs : s.length ≤ 900000) (ht : t.length ≤ 900000) : Calls Tryd.prog 24 #[.string (bs s), .string (bs t)] w fun e w' => ∃ v, e = .returned v ∧ (v = .tuple #[.string (bs (mergeM s t).1), .int .i64 (mergeM s t).2] ∧ Bel w.heap.size w w') := by
  have H : Eng.Own (fun _ => False) w w [] := Eng.Own.nil _ w
  refine enterN (args := [.string (bs s), .string (bs t)]) Tryd.func24 rfl Tryd.ntmps24 rfl rfl ?_
  refine Eng.nc_seq ?_
  refine nc ?_
  refine Eng.nc_seq ?_
  refine nc ?_
  refine call_rule (by kernel_rfl) (treeOf_own (s := s) (by omega) H) fun v w1 hR => ?_
  unfold mergeM
  cases ho : ofM s with
  | none =>
    rw [ho] at hR
    obtain ⟨rfl, H⟩ := hR
    refine call_rule (by kernel_rfl) (treeOf_own (s := t) (by omega) H) fun v w2 hR => ?_
    obtain ⟨q, rfl, H⟩ : ∃ q, v = .pointer q ∧ Eng.Own (fun _ => False) w w2 [] := by
      cases ho2 : ofM t with
      | none => rw [ho2] at hR; exact ⟨none, hR.1, hR.2⟩
      | some T => rw [ho2] at hR; obtain ⟨A, _, hv, H⟩ := hR; exact ⟨_, hv, H.less (List.nil_sublist _)⟩
    refine Eng.nc_seq ?_
    refine Eng.nc_seq ?_
    refine nc ?_
    refine eqlNil_rule (by kernel_rfl) ?_
    refine eqlNil_rule (p := q) (by kernel_rfl) ?_
    refine call_skip (.slice none 0 0) rfl ?_
    refine call_skip (.slice none 0 0) rfl ?_
    refine call_skip (.slice none 0 0) rfl ?_
    refine Eng.nc_cond (b := true) rfl (fun hc => ?_) (fun hc => ?_)
    · refine Eng.nc_seq ?_
      refine nc ?_
      refine nc ?_
      exact ret_inA [.string (bs []), .int .i64 1] ⟨_, rfl, rfl, H.frame⟩
    · cases hc
  | some S =>
    rw [ho] at hR
    obtain ⟨A, hA, rfl, H⟩ := hR
    refine call_rule (by kernel_rfl) (treeOf_own (s := t) (by omega) H) fun v w2 hR => ?_
    cases ho2 : ofM t with
    | none =>
      rw [ho2] at hR
      obtain ⟨rfl, H⟩ := hR
      refine Eng.nc_seq ?_
      refine Eng.nc_seq ?_
      refine nc ?_
      refine eqlNil_rule (p := some ⟨A.root, 0, none⟩) (by kernel_rfl) ?_
      refine eqlNil_rule (by kernel_rfl) ?_
      refine call_skip (.slice none 0 0) rfl ?_
      refine call_skip (.slice none 0 0) rfl ?_
      refine call_skip (.slice none 0 0) rfl ?_
      refine Eng.nc_cond (b := true) rfl (fun hc => ?_) (fun hc => ?_)
      · refine Eng.nc_seq ?_
        refine nc ?_
        refine nc ?_
        exact ret_inA [.string (bs []), .int .i64 1] ⟨_, rfl, rfl, H.frame⟩
      · cases hc
    | some T =>
      rw [ho2] at hR
      obtain ⟨B, hB, rfl, H⟩ := hR
      obtain ⟨hT, hok⟩ := ofM_text ho
      obtain ⟨hT2, hok2⟩ := ofM_text ho2
      have h8 := leaves_eight hok (ofM_nodup ho)
      have h82 := leaves_eight hok2 (ofM_nodup ho2)
      have hsl : s.length ≤ 22 := by have := text_leaves3 S; rw [← hT] at this; omega
      have htl : t.length ≤ 22 := by have := text_leaves3 T; rw [← hT2] at this; omega
      rw [← hA] at hok h8
      rw [← hB] at hok2 h82
      have hAR : ∀ it ∈ A.items, it ∈ B.items ++ (A.items ++ []) := fun it h => List.mem_append_right _ (List.mem_append_left _ h)
      have hBR : ∀ it ∈ B.items, it ∈ B.items ++ (A.items ++ []) := fun it h => List.mem_append_left _ h
      refine nc_cut (fun e w' => (¬ ∃ x, x ∈ S.leavesR ∧ x ∈ T.leavesR) ∧ e = [(0, .string (bs s)), (1, .string (bs t)), (6, A.ptr), (7, B.ptr)] ∧ Eng.Own (fun _ => False) w w' (B.items ++ (A.items ++ []))) ?_ ?_
      · refine Eng.nc_seq ?_
        refine nc ?_
        refine eqlNil_rule (p := some ⟨A.root, 0, none⟩) (by kernel_rfl) ?_
        refine eqlNil_rule (p := some ⟨B.root, 0, none⟩) (by kernel_rfl) ?_
        refine call_yes rfl (by kernel_rfl) (nodeMembers_in hAR (by omega) H) fun u1 w3 H => ?_
        refine call_yes rfl (by kernel_rfl) (nodeMembers_in (fun it h => List.mem_cons_of_mem _ (hBR it h)) (by omega) H) fun u2 w4 H => ?_
        obtain ⟨a2, c2, rfl, _, _⟩ := H.rowSl 0 rfl
        obtain ⟨a1, c1, rfl, _, _⟩ := H.rowSl 1 rfl
        replace H := freezeI (freezeI H 0 rfl) 1 rfl
        replace H : Eng.Own (fun _ => False) w w4 (.dat (dSl (tInt .i64) (.slice a2 (sortZ B.tr.leavesR).length c2) (sortZ B.tr.leavesR)) :: .dat (dSl (tInt .i64) (.slice a1 (sortZ A.tr.leavesR).length c1) (sortZ A.tr.leavesR)) :: (B.items ++ (A.items ++ []))) := H
        have ela := sortZ_len A.tr.leavesR
        have elb := sortZ_len B.tr.leavesR
        refine call_yes rfl (by kernel_rfl) (both_own (i := 1) (j := 0) (by omega) (by omega) H rfl rfl) fun u3 w5 ⟨A', c', hu, H⟩ => ?_
        subst hu
        have hfil : ((sortZ A.tr.leavesR).filter fun x => decide (x ∈ sortZ B.tr.leavesR)).length ≤ 8 := Nat.le_trans (List.length_filter_le _ _) (by omega)
        have hcom : (∃ x, x ∈ S.leavesR ∧ x ∈ T.leavesR) ↔ 0 < ((sortZ A.tr.leavesR).filter fun x => decide (x ∈ sortZ B.tr.leavesR)).length := by
          rw [List.length_pos_iff_exists_mem, hA, hB]
          constructor
          · rintro ⟨x, h1, h2⟩
            exact ⟨x, List.mem_filter.2 ⟨((sortZ_perm _).mem_iff).2 h1, by simpa using ((sortZ_perm _).mem_iff).2 h2⟩⟩
          · rintro ⟨x, h⟩
            obtain ⟨h1, h2⟩ := List.mem_filter.1 h
            exact ⟨x, ((sortZ_perm _).mem_iff).1 h1, ((sortZ_perm _).mem_iff).1 (by simpa using h2)⟩
        refine Eng.nc_cond (b := decide ((((sortZ A.tr.leavesR).filter fun x => decide (x ∈ sortZ B.tr.leavesR)).length : Int) > 0)) rfl (fun hc => ?_) (fun hc => ?_)
        · have hc2 : ∃ x, x ∈ S.leavesR ∧ x ∈ T.leavesR := hcom.2 (by have := of_decide_eq_true hc; omega)
          simp only
          rw [if_pos hc2]
          refine Eng.nc_seq ?_
          refine nc ?_
          refine nc ?_
          exact ret_inA [.string (bs []), .int .i64 1] ⟨_, rfl, rfl, H.frame⟩
        · have hc2 : ¬ ∃ x, x ∈ S.leavesR ∧ x ∈ T.leavesR := fun q => by have := hcom.1 q; have := of_decide_eq_false hc; omega
          refine nc ?_
          exact cut_inA ⟨hc2, rfl, H.tail.tail⟩
      · rintro _ w3 ⟨hno, rfl, H⟩
        simp only
        rw [if_neg hno]
        refine Eng.nc_seq ?_
        refine Eng.nc_seq ?_
        refine nc ?_
        refine call_rule (by kernel_rfl) (greater_own A B hAR hBR (by omega) (by omega) H) fun u w4 ⟨hu, H⟩ => ?_
        subst hu
        rw [hA, hB]
        by_cases hg : greaterT S T = true
        · rw [if_pos hg]
          refine Eng.nc_cond (b := !(greaterT S T)) rfl (fun hc => ?_) (fun hc => ?_)
          · rw [hg] at hc; cases hc
          refine nc ?_
          refine Eng.nc_seq ?_
          refine nc ?_
          refine catM_rule (a := [40]) (by simp; omega) ?_
          refine catM_rule (by simp; omega) ?_
          refine catM_rule (b := [41]) (by simp; omega) ?_
          refine nc ?_
          refine ret_inA [_, .int .i64 0] ⟨_, rfl, ?_, H.frame⟩
          have e : ([40] ++ s ++ t ++ [41] : List UInt8) = (Tr.two S T).text := by rw [hT, hT2]; simp [Tr.text]
          rw [← e]; rfl
        · rw [if_neg hg]
          refine Eng.nc_cond (b := !(greaterT S T)) rfl (fun hc => ?_) (fun hc => ?_)
          · refine nc ?_
            refine Eng.nc_seq ?_
            refine nc ?_
            refine catM_rule (a := [40]) (by simp; omega) ?_
            refine catM_rule (by simp; omega) ?_
            refine catM_rule (b := [41]) (by simp; omega) ?_
            refine nc ?_
            refine ret_inA [_, .int .i64 0] ⟨_, rfl, ?_, H.frame⟩
            have e : ([40] ++ t ++ s ++ [41] : List UInt8) = (Tr.two T S).text := by rw [hT, hT2]; simp [Tr.text]
            rw [← e]; rfl
          · have : greaterT S T = true := by simpa using hc
            exact absurd this hg
end Go.Proofs.YtfapphlhkfddoaaDoor.G
