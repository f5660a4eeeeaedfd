/- The walk of gemotlaw5.WindowTurned: what its code computes, for every first number, count and order. (Begun as a printed text; the case of the first place is mended by hand.) -/
import Derived.Test.YtgiipmdndfcgnaaPWindowTurnedx0
import Derived.Test.YtgiipmdndfcgnaaPWindowTurnedx2
import Derived.Test.YtgiipmdndfcgnaaPWindowTurnedx3
namespace Go.Proofs.Ytgiipmdndfcgnaa.PWindowTurned
open Go.RowKit Go.Proofs.YtgiipmdndfcgnaaW.PrintWords Go.Proofs.YtgiipmdndfcgnaaW.PrintLast Go.Proofs.YtgiipmdndfcgnaaW.PrintMore
attribute [local go_sem] max2_int min2_int max_two min_two max_three min_three max_four min_four   -- for this text's walks alone
set_option linter.unusedVariables false
set_option linter.unusedSimpArgs false

/-! ### gemotlaw5_WindowTurned: function 9 -/
mutual
def gemotlaw5_WindowTurned.j0 : Nat → Int → Int → List Int → Bool → Bool → Option (Bool)
  | 0, _, _, _, _, _ => none
  | k + 1, x0, x1, x2, x7, x21 => if x21 = true then (some x7) else ((gemotlaw5_pick.f x1 64).bind fun t132 => (gemotlaw5_WindowTurned.l0 k x0 x2 (wrap64 (1 + t132)) ([] : List Int) 0))
def gemotlaw5_WindowTurned.l0 : Nat → Int → List Int → Int → List Int → Int → Option (Bool)
  | 0, _, _, _, _, _ => none
  | k + 1, x0, x2, x8, x9, x10 => if x10 < x8 then (if x9.length < 17592186044416 then (gemotlaw5_WindowTurned.l0 k x0 x2 x8 (x9 ++ [IntKind.u64.wrap ((IntKind.u64.wrap ((Int.tmod x0 1099511627776) + 1)) + (IntKind.u64.wrap (x10)))]) (wrap64 (x10 + 1))) else (none)) else (gemotlaw5_WindowTurned.l1 k x2 x9 ([] : List Int) 0)
def gemotlaw5_WindowTurned.l1 : Nat → List Int → List Int → List Int → Int → Option (Bool)
  | 0, _, _, _, _ => none
  | k + 1, x2, x9, x11, x12 => if (x9.length : Int) > 0 then (if (x2.length : Int) > 0 then (if (x2.length : Int) = 0 then (none) else (if 0 ≤ (Int.tmod x12 (x2.length : Int)) then (if (Int.tmod x12 (x2.length : Int)) < (x2.length : Int) then ((gemotlaw5_pick.f (rd x2 (Int.tmod x12 (x2.length : Int))) (x9.length : Int)).bind fun t137 => (if 0 ≤ t137 then (if t137 < (x9.length : Int) then (if x11.length < 17592186044416 then ((some (([] : List Int) : List Int)).bind fun y142 => (if t137 ≤ (x9.length : Int) then ((some (x9.take (t137 : Int).toNat : List Int)).bind fun y145 => (if y142.length + y145.length < 17592186044416 then ((some (y142 ++ y145 : List Int)).bind fun y149 => (if 0 ≤ (wrap64 (t137 + 1)) then (if (wrap64 (t137 + 1)) ≤ (x9.length : Int) then ((some (x9.drop ((wrap64 (t137 + 1)) : Int).toNat : List Int)).bind fun y152 => (if y149.length + y152.length < 17592186044416 then (gemotlaw5_WindowTurned.l1 k x2 (y149 ++ y152) (x11 ++ [rd x9 t137]) (wrap64 (x12 + 1))) else (none))) else (none)) else (none))) else (none))) else (none))) else (none)) else (none)) else (none))) else (none)) else (none))) else (if 0 < (x9.length : Int) then (if x11.length < 17592186044416 then ((some (([] : List Int) : List Int)).bind fun y163 => (if 0 ≤ (x9.length : Int) then ((some (x9.take 0 : List Int)).bind fun y166 => (if y163.length + y166.length < 17592186044416 then ((some (y163 ++ y166 : List Int)).bind fun y170 => (if (0 : Int) ≤ (0 + 1) then (if (0 + 1) ≤ (x9.length : Int) then ((some (x9.drop ((0 + 1) : Int).toNat : List Int)).bind fun y173 => (if y170.length + y173.length < 17592186044416 then (gemotlaw5_WindowTurned.l1 k x2 (y170 ++ y173) (x11 ++ [rd x9 0]) (wrap64 (x12 + 1))) else (none))) else (none)) else (none))) else (none))) else (none))) else (none)) else (none))) else ((window_All.f k x11).bind fun t180 => ((gemotlaw5_same.f k t180 x11).bind fun t183 => (if t183 = true then ((some (([] : List Int) : List Int)).bind fun y184 => (if y184.length + x11.length < 17592186044416 then ((some (y184 ++ x11 : List Int)).bind fun y187 => (if y187.length + x11.length < 17592186044416 then ((window_All.f k (y187 ++ x11)).bind fun t193 => ((gemotlaw5_same.f k t193 x11).bind fun t196 => (some t196))) else (none))) else (none))) else (some false))))
end
def gemotlaw5_WindowTurned.f (k : Nat) (a0 : Int) (a1 : Int) (l2 : List Int) : Option (Bool) := (gemotlaw5_shown.f k).bind fun t131 => (if t131 = true then (gemotlaw5_WindowTurned.j0 k a0 a1 l2 t131 (decide ((l2.length : Int) > 100))) else (gemotlaw5_WindowTurned.j0 k a0 a1 l2 t131 true))
theorem gemotlaw5_WindowTurned.mono_l : ∀ k, (∀ y0 y1 y2 y3 y4, LeO (gemotlaw5_WindowTurned.j0 k y0 y1 y2 y3 y4) (gemotlaw5_WindowTurned.j0 (k + 1) y0 y1 y2 y3 y4)) ∧ (∀ y0 y1 y2 y3 y4, LeO (gemotlaw5_WindowTurned.l0 k y0 y1 y2 y3 y4) (gemotlaw5_WindowTurned.l0 (k + 1) y0 y1 y2 y3 y4)) ∧ (∀ y0 y1 y2 y3, LeO (gemotlaw5_WindowTurned.l1 k y0 y1 y2 y3) (gemotlaw5_WindowTurned.l1 (k + 1) y0 y1 y2 y3))
  | 0 => ⟨fun _ _ _ _ _ r h => by simp [gemotlaw5_WindowTurned.j0] at h, fun _ _ _ _ _ r h => by simp [gemotlaw5_WindowTurned.l0] at h, fun _ _ _ _ r h => by simp [gemotlaw5_WindowTurned.l1] at h⟩
  | k + 1 => by
    obtain ⟨ih0, ih1, ih2⟩ := gemotlaw5_WindowTurned.mono_l k
    refine ⟨?_, ?_, ?_⟩
    · intro y0 y1 y2 y3 y4
      unfold gemotlaw5_WindowTurned.j0
      repeat' first
      | (with_reducible exact ih0 _ _ _ _ _)
      | (with_reducible exact ih1 _ _ _ _ _)
      | (with_reducible exact ih2 _ _ _ _)
      | (with_reducible exact gemotlaw5_same.mono _ _ _)
      | (with_reducible exact gemotlaw5_shown.mono _)
      | (with_reducible exact window_All.mono _ _)
      | (with_reducible exact LeO.refl _)
      | (with_reducible exact LeO.none _)
      | (with_reducible refine LeO.ite ?_ ?_)
      | (with_reducible refine LeO.bind ?_ (fun _ => ?_))
      | exact ih0 _ _ _ _ _
      | exact ih1 _ _ _ _ _
      | exact ih2 _ _ _ _
      | exact gemotlaw5_same.mono _ _ _
      | exact gemotlaw5_shown.mono _
      | exact window_All.mono _ _
      | exact LeO.none _
      | refine LeO.ite ?_ ?_
      | refine LeO.bind ?_ (fun _ => ?_)
    · intro y0 y1 y2 y3 y4
      unfold gemotlaw5_WindowTurned.l0
      repeat' first
      | (with_reducible exact ih0 _ _ _ _ _)
      | (with_reducible exact ih1 _ _ _ _ _)
      | (with_reducible exact ih2 _ _ _ _)
      | (with_reducible exact gemotlaw5_same.mono _ _ _)
      | (with_reducible exact gemotlaw5_shown.mono _)
      | (with_reducible exact window_All.mono _ _)
      | (with_reducible exact LeO.refl _)
      | (with_reducible exact LeO.none _)
      | (with_reducible refine LeO.ite ?_ ?_)
      | (with_reducible refine LeO.bind ?_ (fun _ => ?_))
      | exact ih0 _ _ _ _ _
      | exact ih1 _ _ _ _ _
      | exact ih2 _ _ _ _
      | exact gemotlaw5_same.mono _ _ _
      | exact gemotlaw5_shown.mono _
      | exact window_All.mono _ _
      | exact LeO.none _
      | refine LeO.ite ?_ ?_
      | refine LeO.bind ?_ (fun _ => ?_)
    · intro y0 y1 y2 y3
      unfold gemotlaw5_WindowTurned.l1
      repeat' first
      | (with_reducible exact ih0 _ _ _ _ _)
      | (with_reducible exact ih1 _ _ _ _ _)
      | (with_reducible exact ih2 _ _ _ _)
      | (with_reducible exact gemotlaw5_same.mono _ _ _)
      | (with_reducible exact gemotlaw5_shown.mono _)
      | (with_reducible exact window_All.mono _ _)
      | (with_reducible exact LeO.refl _)
      | (with_reducible exact LeO.none _)
      | (with_reducible refine LeO.ite ?_ ?_)
      | (with_reducible refine LeO.bind ?_ (fun _ => ?_))
      | exact ih0 _ _ _ _ _
      | exact ih1 _ _ _ _ _
      | exact ih2 _ _ _ _
      | exact gemotlaw5_same.mono _ _ _
      | exact gemotlaw5_shown.mono _
      | exact window_All.mono _ _
      | exact LeO.none _
      | refine LeO.ite ?_ ?_
      | refine LeO.bind ?_ (fun _ => ?_)
theorem gemotlaw5_WindowTurned.mono : ∀ a0 a1 a2 k, LeO (gemotlaw5_WindowTurned.f k a0 a1 a2) (gemotlaw5_WindowTurned.f (k + 1) a0 a1 a2) := by
  intro a0 a1 a2 k
  obtain ⟨ih0, ih1, ih2⟩ := gemotlaw5_WindowTurned.mono_l k
  unfold gemotlaw5_WindowTurned.f
  repeat' first
      | (with_reducible exact ih0 _ _ _ _ _)
      | (with_reducible exact ih1 _ _ _ _ _)
      | (with_reducible exact ih2 _ _ _ _)
      | (with_reducible exact gemotlaw5_same.mono _ _ _)
      | (with_reducible exact gemotlaw5_shown.mono _)
      | (with_reducible exact window_All.mono _ _)
      | (with_reducible exact LeO.refl _)
      | (with_reducible exact LeO.none _)
      | (with_reducible refine LeO.ite ?_ ?_)
      | (with_reducible refine LeO.bind ?_ (fun _ => ?_))
      | exact ih0 _ _ _ _ _
      | exact ih1 _ _ _ _ _
      | exact ih2 _ _ _ _
      | exact gemotlaw5_same.mono _ _ _
      | exact gemotlaw5_shown.mono _
      | exact window_All.mono _ _
      | exact LeO.none _
      | refine LeO.ite ?_ ?_
      | refine LeO.bind ?_ (fun _ => ?_)
def gemotlaw5_WindowTurned.T18 : Bool × List (List Nat × List Nat) := (true, [([], []), ([], []), ([], []), ([1, 2], [1, 2]), ([0, 3], [0, 3]), ([], []), ([], []), ([6], [6]), ([5, 7], [5, 7]), ([4, 8, 4], [4, 8]), ([9, 9, 0, 1, 2, 3, 4, 5, 6, 7, 8, 9], [1, 5, 9])])
def gemotlaw5_WindowTurned.B18 : List Nat := [0, 0, 0, 6, 15, 0, 0, 64, 224, 511, 1023]
theorem gemotlaw5_WindowTurned.tab18 : rtab .any (opsOf Try.f9 18) = gemotlaw5_WindowTurned.T18 := by kernel_rfl
theorem gemotlaw5_WindowTurned.bits18 : waitsOk gemotlaw5_WindowTurned.T18.2 gemotlaw5_WindowTurned.B18 = true := by kernel_rfl
set_option maxHeartbeats 8000000 in
set_option maxRecDepth 100000 in
theorem gemotlaw5_WindowTurned.calls (k : Nat) (a0 : Int) (a1 : Int) (A2 : Option Addr) (c2 : Nat) (l2 : List Int) (r : Bool) (w : World) (hr2 : Kd.C (Kd.int .i64) w A2 l2.length l2) (hc2 : l2.length ≤ c2) (h : gemotlaw5_WindowTurned.f k a0 a1 l2 = some r) :
    Calls Try.prog 9 #[.int .u64 a0, .int .i64 a1, .slice A2 l2.length c2] w fun e w' => e = .returned (.bool r) ∧ Below w.heap.size w w' := by
  have HR2 := Aside0.mk hr2
  have HC2 := Aside0.mk hc2
  clear hr2 hc2
  have HB := Aside0.mk (Below.refl w.heap.size w)
  have H : ((gemotlaw5_shown.f k).bind fun t131 => (if t131 = true then (gemotlaw5_WindowTurned.j0 k a0 a1 l2 t131 (decide ((l2.length : Int) > 100))) else (gemotlaw5_WindowTurned.j0 k a0 a1 l2 t131 true))) = some r := h
  clear h
  replace H := Option.bind_eq_some_iff.mp H
  obtain ⟨t131, A40, H⟩ := H
  replace H : (if t131 = true then (gemotlaw5_WindowTurned.j0 k a0 a1 l2 t131 (decide ((l2.length : Int) > 100))) else (gemotlaw5_WindowTurned.j0 k a0 a1 l2 t131 true)) = some r := H
  have A4 := Aside0.mk A40
  clear A40
  have HC5 := Aside0.mk H
  clear H
  go_enter Try.func9, Try.ntmps9
  go_upto_region 2 with (first | ((with_reducible refine gate_callee (f := 19) rfl ?_); refine goesL_ (some 14) rfl rfl Try.func19 (by kernel_rfl) rfl #[] rfl (by (try simp only [List.map_toArray, List.map_cons, List.map_nil]); first | done | rfl | (simp only [List.length_drop, List.length_take]; rfl)) ?_; (with_reducible refine (gemotlaw5_shown.calls k  t131 _ A4.out).mono ?_); rintro e w6 ⟨rfl, hb⟩; refine ⟨_, rfl, ?_⟩; have n0_ := Aside0.mk (below_step (by repeat (first | (with_reducible first | exact HB.out | apply below_alloc | apply pw_below_drewN | apply below_drew1) | exact HB.out)) hb); clear HB; have HB := n0_; clear n0_; (try clear hb); (try clear hb2); (try clear hk); (try clear hi)))
  (try simp only [Act.put, List.setIfInBounds_toArray, List.set_cons_zero, List.set_cons_succ])
  go_cut [21] (fun v21 wc => ∃ (kq : Nat) (x21_4 : Bool), v21 = .bool x21_4 ∧ Aside0 (gemotlaw5_WindowTurned.j0 kq a0 a1 l2 t131 x21_4 = some r) ∧ Aside0 (kq ≤ k) ∧ Aside0 (Below w.heap.size w wc))
  case first =>
    have H := HC5.out
    clear HC5
    by_cases c7 : t131 = true
    · subst c7
      have H1 : (gemotlaw5_WindowTurned.j0 k a0 a1 l2 true (decide ((l2.length : Int) > 100))) = some r := by rw [if_pos rfl] at H; exact H
      clear H
      have H := H1
      clear H1
      have H' := Aside0.mk H
      clear H
      go_wp2
      go_meet
      case rel => exact ⟨_, (decide ((l2.length : Int) > 100)), (by first | rfl | (simp; done) | (simp [*]; done)), H', ⟨by first | omega | exact Nat.le_refl _⟩, ⟨by repeat (first | (with_reducible first | exact HB.out | apply below_alloc | apply pw_below_drewN | apply below_drew1) | exact HB.out)⟩⟩
    · replace c7 := Bool.eq_false_iff.mpr c7
      subst c7
      have H1 : (gemotlaw5_WindowTurned.j0 k a0 a1 l2 false true) = some r := by rw [if_neg (show ¬ (false = true) by decide)] at H; exact H
      clear H
      have H := H1
      clear H1
      have H' := Aside0.mk H
      clear H
      go_wp2
      go_meet
      case rel => exact ⟨_, (true), (by first | rfl | (simp; done) | (simp [*]; done)), H', ⟨by first | omega | exact Nat.le_refl _⟩, ⟨by repeat (first | (with_reducible first | exact HB.out | apply below_alloc | apply pw_below_drewN | apply below_drew1) | exact HB.out)⟩⟩
  case rest =>
    clear HC5
    try clear c1
    try clear c2
    try clear p2
    try clear c7
    obtain ⟨kq, x21_4, rfl, HA, HJ4, HB⟩ := hcut
    cases kq with
    | zero => exact absurd HA.out (by simp [gemotlaw5_WindowTurned.j0])
    | succ kj4 =>
      have H := HA.out
      clear HA
      simp only [gemotlaw5_WindowTurned.j0] at H
      by_cases c8 : x21_4 = true
      · subst c8
        have H1 : (some t131) = some r := by rw [if_pos rfl] at H; exact H
        clear H
        have H := H1
        clear H1
        obtain rfl := Option.some.inj H
        go_wp2
        go_ret
        exact ⟨by first | rfl | (simp [errW_none, errW_some] <;> rfl) | (simp [*, errW_none, errW_some] <;> rfl), by repeat (first | (with_reducible first | exact HB.out | apply below_alloc | apply pw_below_drewN | apply below_drew1) | exact HB.out)⟩
      · replace c8 := Bool.eq_false_iff.mpr c8
        subst c8
        have H1 : ((gemotlaw5_pick.f a1 64).bind fun t132 => (gemotlaw5_WindowTurned.l0 kj4 a0 l2 (wrap64 (1 + t132)) ([] : List Int) 0)) = some r := by rw [if_neg (show ¬ (false = true) by decide)] at H; exact H
        clear H
        have H := H1
        clear H1
        replace H := Option.bind_eq_some_iff.mp H
        obtain ⟨t132, A90, H⟩ := H
        replace H : (gemotlaw5_WindowTurned.l0 kj4 a0 l2 (wrap64 (1 + t132)) ([] : List Int) 0) = some r := H
        have A9 := Aside0.mk A90
        clear A90
        have H' := Aside0.mk H
        clear H
        go_wp2_with (first | ((with_reducible refine gate_callee (f := 28) rfl ?_); refine goesL_ (some 24) rfl rfl Try.func28 (by kernel_rfl) rfl #[.int .i64 a1, .int .i64 64] rfl (by (try simp only [List.map_toArray, List.map_cons, List.map_nil]); first | done | rfl | (simp only [List.length_drop, List.length_take]; rfl)) ?_; (with_reducible refine (gemotlaw5_pick.calls a1 64 t132 _ A9.out).mono ?_); rintro e w' ⟨rfl, ⟨nd, rfl⟩⟩; refine ⟨_, rfl, ?_⟩))
        go_loopg [9, 10] kj4 (fun kq v9 v10 w' => ∃ (x9_2 : List Int) (x10_2 : Int), v10 = .int .i64 x10_2 ∧ Aside0 (gemotlaw5_WindowTurned.l0 kq a0 l2 (wrap64 (1 + t132)) x9_2 x10_2 = some r) ∧ Aside0 (kq ≤ kj4) ∧ Aside0 (Kd.R (Kd.int .u64) 37 w' w.heap.size (fun _ => True) v9 x9_2) ∧ Aside0 (Below w.heap.size w w'))
        case atStart => exact ⟨(([] : List Int)), (0), (by first | rfl | (simp; done) | (simp [*]; done)), H', ⟨Nat.le_refl _⟩, ⟨by first | exact Kd.R_nil _ _ _ _ _ | exact Kd.N_nil _ _ _ _ _ | exact Kd.V_nil _ _ _ _ _ | exact Kd.Q_nil _ _ _ _ _ | exact Kd.S_nil _ _ _ _ _⟩, ⟨by repeat (first | (with_reducible first | exact HB.out | apply below_alloc | apply pw_below_drewN | apply below_drew1) | exact HB.out)⟩⟩
        case round =>
          clear H'
          try clear c1
          try clear c2
          try clear p2
          try clear p6
          try clear c7
          try clear c8
          try clear c9
          try clear p2
          obtain ⟨x9_2, x10_2, rfl, HA, HK2, HO_9, HB⟩ := hrel
          cases gk with
          | zero => exact absurd HA.out (by simp [gemotlaw5_WindowTurned.l0])
          | succ k2 =>
            have H := HA.out
            clear HA
            simp only [gemotlaw5_WindowTurned.l0] at H
            by_cases c10 : x10_2 < (wrap64 (1 + t132))
            · rw [if_pos c10] at H
              have c10b0 : decide (x10_2 < (wrap64 (1 + t132))) = true := decide_eq_true c10
              clear c10
              by_cases c11 : x9_2.length < 17592186044416
              · rw [if_pos c11] at H
                have LMc11 := Aside0.mk c11
                clear c11
                obtain ⟨y133, hy133⟩ : ∃ y_ : List Int, y_ = (x9_2 ++ [IntKind.u64.wrap ((IntKind.u64.wrap ((Int.tmod a0 1099511627776) + 1)) + (IntKind.u64.wrap (x10_2)))]) := ⟨_, rfl⟩
                replace H : (gemotlaw5_WindowTurned.l0 k2 a0 l2 (wrap64 (1 + t132)) y133 (wrap64 (x10_2 + 1))) = some r := by first | (rw [hy133]; with_reducible exact H) | (have H2_ := (Option.bind_some _ _).symm.trans H; rw [hy133]; with_reducible exact H2_) | (have H2_ := (Option.bind_some _ _).symm.trans H; with_reducible exact H2_) | with_reducible exact H | (rw [hy133]; exact H) | exact H
                have Ny133 := Aside0.mk hy133
                clear hy133
                have H' := Aside0.mk H
                clear H
                go_wp2_with (first | ((with_reducible refine gate_builtin (b := .append) (xs := #[.tmp 31, .tmp 38]) rfl ?_); (try (refine gate_guard (by rfl) ?_; dsimp only)); at_builtin; refine Kd.R_append (Kd.int .u64) (w0 := w) w.heap.size rfl (.tmp 31) (.tmp 38) 36 37 (.int .u64 0) 8 rfl Try.underlying36 info37 rfl (by decide) (by omega) u9 x9_2 (IntKind.u64.wrap ((IntKind.u64.wrap ((Int.tmod a0 1099511627776) + 1)) + (IntKind.u64.wrap (x10_2)))) [.int .u64 (IntKind.u64.wrap ((IntKind.u64.wrap ((Int.tmod a0 1099511627776) + 1)) + (IntKind.u64.wrap (x10_2))))] (fun _ => True) (fun _ => False) rfl rfl ?aP (fun _ hk => hk.elim) ?aF ?aO ?aB ?aS ?aL ?_; (case aP => exact rfl); (case aB => exact (by repeat (first | (with_reducible first | exact HB.out | apply below_alloc | apply pw_below_drewN | apply below_drew1) | exact HB.out))); (case aF => exact (fun _ _ => trivial)); (case aO => exact (by (with_reducible repeat (first | apply Kd.R_alloc | apply Kd.R_drewN | apply Kd.R_drew)); exact HO_9.out)); (case aS => exact (below_size (by repeat (first | (with_reducible first | exact HB.out | apply below_alloc | apply pw_below_drewN | apply below_drew1) | exact HB.out)))); (case aL => have := LMc11.out; omega); intro v134 w12 ho hb hg hat; rw [← Ny133.out] at ho; have n0_ := Aside0.mk (hb); have n1_ := Aside0.mk (ho); clear HB; clear HO_9; have HB := n0_; have HO135 := n1_; clear n0_ n1_; clear ho hb hg hat))
                go_roundg k2
                case measure => have := HJ4.out; have := HK2.out; omega
                case rel => exact ⟨(y133), (wrap64 (x10_2 + 1)), (by first | rfl | (simp; done) | (simp [*]; done)), H', ⟨by have := HJ4.out; have := HK2.out; omega⟩, ⟨by (with_reducible repeat (first | apply Kd.R_alloc | apply Kd.R_drewN | apply Kd.R_drew)); exact HO135.out⟩, ⟨by repeat (first | (with_reducible first | exact HB.out | apply below_alloc | apply pw_below_drewN | apply below_drew1) | exact HB.out)⟩⟩
              · rw [if_neg c11] at H
                exact absurd H (by simp)
            · rw [if_neg c10] at H
              have c10b0 : decide (x10_2 < (wrap64 (1 + t132))) = false := decide_eq_false c10
              clear c10
              have H' := Aside0.mk H
              clear H
              go_wp2
              go_loopg [9, 11, 12] k2 (fun kq v9 v11 v12 w' => ∃ (x9_3 : List Int) (x11_3 : List Int) (x12_3 : Int), v12 = .int .i64 x12_3 ∧ Aside0 (gemotlaw5_WindowTurned.l1 kq l2 x9_3 x11_3 x12_3 = some r) ∧ Aside0 (kq ≤ k2) ∧ Aside0 (Kd.R (Kd.int .u64) 37 w' w.heap.size (fun k_ => some k_ ≠ (v11 : Value).ownBlock) v9 x9_3) ∧ Aside0 (Kd.R (Kd.int .u64) 37 w' w.heap.size (fun k_ => some k_ ≠ (v9 : Value).ownBlock) v11 x11_3) ∧ Aside0 (Below w.heap.size w w'))
              case atStart => exact ⟨(x9_2), (([] : List Int)), (0), (by first | rfl | (simp; done) | (simp [*]; done)), H', ⟨Nat.le_refl _⟩, ⟨by (with_reducible repeat (first | apply Kd.R_alloc | apply Kd.R_drewN | apply Kd.R_drew)); exact Kd.R_mono HO_9.out (fun _ hk => (by simp [Value.ownBlock]))⟩, ⟨by first | exact Kd.R_nil _ _ _ _ _ | exact Kd.N_nil _ _ _ _ _ | exact Kd.V_nil _ _ _ _ _ | exact Kd.Q_nil _ _ _ _ _ | exact Kd.S_nil _ _ _ _ _⟩, ⟨by repeat (first | (with_reducible first | exact HB.out | apply below_alloc | apply pw_below_drewN | apply below_drew1) | exact HB.out)⟩⟩
              case round =>
                clear H'
                try clear c1
                try clear c2
                try clear p2
                try clear p6
                try clear c7
                try clear c8
                try clear c9
                try clear c10
                try clear c10b0
                try clear c11
                try clear p2
                try clear p6
                obtain ⟨x9_3, x11_3, x12_3, rfl, HA, HK3, HO_9, HO_11, HB⟩ := hrel
                cases gk with
                | zero => exact absurd HA.out (by simp [gemotlaw5_WindowTurned.l1])
                | succ k3 =>
                  have H := HA.out
                  clear HA
                  simp only [gemotlaw5_WindowTurned.l1] at H
                  by_cases c13 : (x9_3.length : Int) > 0
                  · rw [if_pos c13] at H
                    have c13b0 : decide (0 < (x9_3.length : Int)) = true := decide_eq_true c13
                    have c13b1 : decide (0 < x9_3.length) = true := decide_eq_true (by omega)
                    clear c13
                    by_cases c14 : (l2.length : Int) > 0
                    · rw [if_pos c14] at H
                      have c14b0 : decide (0 < (l2.length : Int)) = true := decide_eq_true c14
                      have c14b1 : decide (0 < l2.length) = true := decide_eq_true (by omega)
                      clear c14
                      by_cases c15 : (l2.length : Int) = 0
                      · rw [if_pos c15] at H
                        exact absurd H (by simp)
                      · rw [if_neg c15] at H
                        have c15b0 : ((l2.length : Int) == 0) = false := beq_eq_false_iff_ne.mpr c15
                        have c15b1 : ((l2.length : Int) != 0) = true := bne_iff_ne.mpr c15
                        have c15b2 : ¬ (l2 = []) := fun h_ => c15 (by rw [h_]; rfl)
                        obtain ⟨ji16, hji16⟩ : ∃ j_ : Int, (Int.tmod x12_3 (l2.length : Int)) = j_ := ⟨_, rfl⟩
                        replace H : (if 0 ≤ (ji16) then (if (ji16) < (l2.length : Int) then ((gemotlaw5_pick.f (rd l2 (ji16)) (x9_3.length : Int)).bind fun t137 => (if 0 ≤ t137 then (if t137 < (x9_3.length : Int) then (if x11_3.length < 17592186044416 then ((some (([] : List Int) : List Int)).bind fun y142 => (if t137 ≤ (x9_3.length : Int) then ((some (x9_3.take (t137 : Int).toNat : List Int)).bind fun y145 => (if y142.length + y145.length < 17592186044416 then ((some (y142 ++ y145 : List Int)).bind fun y149 => (if 0 ≤ (wrap64 (t137 + 1)) then (if (wrap64 (t137 + 1)) ≤ (x9_3.length : Int) then ((some (x9_3.drop ((wrap64 (t137 + 1)) : Int).toNat : List Int)).bind fun y152 => (if y149.length + y152.length < 17592186044416 then (gemotlaw5_WindowTurned.l1 k3 l2 (y149 ++ y152) (x11_3 ++ [rd x9_3 t137]) (wrap64 (x12_3 + 1))) else (none))) else (none)) else (none))) else (none))) else (none))) else (none)) else (none)) else (none))) else (none)) else (none)) = some r := by first | (rw [hji16] at H; exact H) | (simp only [hji16] at H ⊢; exact H)
                        by_cases c17 : 0 ≤ (ji16)
                        · rw [if_pos c17] at H
                          have c17b0 : decide (0 ≤ (ji16)) = true := decide_eq_true c17
                          clear c17
                          by_cases c18 : (ji16) < (l2.length : Int)
                          · rw [if_pos c18] at H
                            have c18b0 : decide ((ji16) < (l2.length : Int)) = true := decide_eq_true c18
                            clear c18
                            replace H := Option.bind_eq_some_iff.mp H
                            obtain ⟨t137, A190, H⟩ := H
                            replace H : (if 0 ≤ t137 then (if t137 < (x9_3.length : Int) then (if x11_3.length < 17592186044416 then ((some (([] : List Int) : List Int)).bind fun y142 => (if t137 ≤ (x9_3.length : Int) then ((some (x9_3.take (t137 : Int).toNat : List Int)).bind fun y145 => (if y142.length + y145.length < 17592186044416 then ((some (y142 ++ y145 : List Int)).bind fun y149 => (if 0 ≤ (wrap64 (t137 + 1)) then (if (wrap64 (t137 + 1)) ≤ (x9_3.length : Int) then ((some (x9_3.drop ((wrap64 (t137 + 1)) : Int).toNat : List Int)).bind fun y152 => (if y149.length + y152.length < 17592186044416 then (gemotlaw5_WindowTurned.l1 k3 l2 (y149 ++ y152) (x11_3 ++ [rd x9_3 t137]) (wrap64 (x12_3 + 1))) else (none))) else (none)) else (none))) else (none))) else (none))) else (none)) else (none)) else (none)) = some r := H
                            have A19 := Aside0.mk A190
                            clear A190
                            by_cases c20 : 0 ≤ t137
                            · rw [if_pos c20] at H
                              have c20b0 : decide (0 ≤ t137) = true := decide_eq_true c20
                              clear c20
                              by_cases c21 : t137 < (x9_3.length : Int)
                              · rw [if_pos c21] at H
                                have c21b0 : decide (t137 < (x9_3.length : Int)) = true := decide_eq_true c21
                                clear c21
                                by_cases c22 : x11_3.length < 17592186044416
                                · rw [if_pos c22] at H
                                  have LMc22 := Aside0.mk c22
                                  clear c22
                                  obtain ⟨y139, hy139⟩ : ∃ y_ : List Int, y_ = (x11_3 ++ [rd x9_3 t137]) := ⟨_, rfl⟩
                                  replace H : ((some (([] : List Int) : List Int)).bind fun y142 => (if t137 ≤ (x9_3.length : Int) then ((some (x9_3.take (t137 : Int).toNat : List Int)).bind fun y145 => (if y142.length + y145.length < 17592186044416 then ((some (y142 ++ y145 : List Int)).bind fun y149 => (if 0 ≤ (wrap64 (t137 + 1)) then (if (wrap64 (t137 + 1)) ≤ (x9_3.length : Int) then ((some (x9_3.drop ((wrap64 (t137 + 1)) : Int).toNat : List Int)).bind fun y152 => (if y149.length + y152.length < 17592186044416 then (gemotlaw5_WindowTurned.l1 k3 l2 (y149 ++ y152) y139 (wrap64 (x12_3 + 1))) else (none))) else (none)) else (none))) else (none))) else (none))) = some r := by first | (rw [hy139]; with_reducible exact H) | (have H2_ := (Option.bind_some _ _).symm.trans H; rw [hy139]; with_reducible exact H2_) | (have H2_ := (Option.bind_some _ _).symm.trans H; with_reducible exact H2_) | with_reducible exact H | (rw [hy139]; exact H) | exact H
                                  have Ny139 := Aside0.mk hy139
                                  clear hy139
                                  obtain ⟨y142, hy142⟩ : ∃ y_ : List Int, y_ = (([] : List Int)) := ⟨_, rfl⟩
                                  replace H : (if t137 ≤ (x9_3.length : Int) then ((some (x9_3.take (t137 : Int).toNat : List Int)).bind fun y145 => (if y142.length + y145.length < 17592186044416 then ((some (y142 ++ y145 : List Int)).bind fun y149 => (if 0 ≤ (wrap64 (t137 + 1)) then (if (wrap64 (t137 + 1)) ≤ (x9_3.length : Int) then ((some (x9_3.drop ((wrap64 (t137 + 1)) : Int).toNat : List Int)).bind fun y152 => (if y149.length + y152.length < 17592186044416 then (gemotlaw5_WindowTurned.l1 k3 l2 (y149 ++ y152) y139 (wrap64 (x12_3 + 1))) else (none))) else (none)) else (none))) else (none))) else (none)) = some r := by first | (rw [hy142]; with_reducible exact H) | (have H2_ := (Option.bind_some _ _).symm.trans H; rw [hy142]; with_reducible exact H2_) | (have H2_ := (Option.bind_some _ _).symm.trans H; with_reducible exact H2_) | with_reducible exact H | (rw [hy142]; exact H) | exact H
                                  have Ny142 := Aside0.mk hy142
                                  clear hy142
                                  have c23b0 := eq_true (of_decide_eq_true (by first | (with_reducible assumption) | assumption) : 0 ≤ t137)
                                  by_cases c24 : t137 ≤ (x9_3.length : Int)
                                  · rw [if_pos c24] at H
                                    have c24b0 := eq_true c24
                                    have c24b1 : decide (t137 ≤ (x9_3.length : Int)) = true := decide_eq_true c24
                                    clear c24
                                    obtain ⟨y145, hy145⟩ : ∃ y_ : List Int, y_ = (x9_3.take (t137 : Int).toNat) := ⟨_, rfl⟩
                                    replace H : (if y142.length + y145.length < 17592186044416 then ((some (y142 ++ y145 : List Int)).bind fun y149 => (if 0 ≤ (wrap64 (t137 + 1)) then (if (wrap64 (t137 + 1)) ≤ (x9_3.length : Int) then ((some (x9_3.drop ((wrap64 (t137 + 1)) : Int).toNat : List Int)).bind fun y152 => (if y149.length + y152.length < 17592186044416 then (gemotlaw5_WindowTurned.l1 k3 l2 (y149 ++ y152) y139 (wrap64 (x12_3 + 1))) else (none))) else (none)) else (none))) else (none)) = some r := by first | (rw [hy145]; with_reducible exact H) | (have H2_ := (Option.bind_some _ _).symm.trans H; rw [hy145]; with_reducible exact H2_) | (have H2_ := (Option.bind_some _ _).symm.trans H; with_reducible exact H2_) | with_reducible exact H | (rw [hy145]; exact H) | exact H
                                    have Ny145 := Aside0.mk hy145
                                    clear hy145
                                    by_cases c25 : y142.length + y145.length < 17592186044416
                                    · rw [if_pos c25] at H
                                      have LMc25 := Aside0.mk c25
                                      clear c25
                                      obtain ⟨y149, hy149⟩ : ∃ y_ : List Int, y_ = (y142 ++ y145) := ⟨_, rfl⟩
                                      replace H : (if 0 ≤ (wrap64 (t137 + 1)) then (if (wrap64 (t137 + 1)) ≤ (x9_3.length : Int) then ((some (x9_3.drop ((wrap64 (t137 + 1)) : Int).toNat : List Int)).bind fun y152 => (if y149.length + y152.length < 17592186044416 then (gemotlaw5_WindowTurned.l1 k3 l2 (y149 ++ y152) y139 (wrap64 (x12_3 + 1))) else (none))) else (none)) else (none)) = some r := by first | (rw [hy149]; with_reducible exact H) | (have H2_ := (Option.bind_some _ _).symm.trans H; rw [hy149]; with_reducible exact H2_) | (have H2_ := (Option.bind_some _ _).symm.trans H; with_reducible exact H2_) | with_reducible exact H | (rw [hy149]; exact H) | exact H
                                      have Ny149 := Aside0.mk hy149
                                      clear hy149
                                      obtain ⟨ji26, hji26⟩ : ∃ j_ : Int, (wrap64 (t137 + 1)) = j_ := ⟨_, rfl⟩
                                      replace H : (if 0 ≤ (ji26) then (if (ji26) ≤ (x9_3.length : Int) then ((some (x9_3.drop ((ji26) : Int).toNat : List Int)).bind fun y152 => (if y149.length + y152.length < 17592186044416 then (gemotlaw5_WindowTurned.l1 k3 l2 (y149 ++ y152) y139 (wrap64 (x12_3 + 1))) else (none))) else (none)) else (none)) = some r := by first | (rw [hji26] at H; exact H) | (simp only [hji26] at H ⊢; exact H)
                                      (try rw [hji26] at A19)
                                      have hji26w : (IntKind.i64.wrap (t137 + 1)) = ji26 := (i64_w _).trans hji26
                                      by_cases c27 : 0 ≤ (ji26)
                                      · rw [if_pos c27] at H
                                        have c27b0 := eq_true c27
                                        have c27b1 : decide (0 ≤ (ji26)) = true := decide_eq_true c27
                                        clear c27
                                        by_cases c28 : (ji26) ≤ (x9_3.length : Int)
                                        · rw [if_pos c28] at H
                                          have c28b0 := eq_true c28
                                          have c28b1 : decide ((ji26) ≤ (x9_3.length : Int)) = true := decide_eq_true c28
                                          clear c28
                                          obtain ⟨y152, hy152⟩ : ∃ y_ : List Int, y_ = (x9_3.drop ((ji26) : Int).toNat) := ⟨_, rfl⟩
                                          replace H : (if y149.length + y152.length < 17592186044416 then (gemotlaw5_WindowTurned.l1 k3 l2 (y149 ++ y152) y139 (wrap64 (x12_3 + 1))) else (none)) = some r := by first | (rw [hy152]; with_reducible exact H) | (have H2_ := (Option.bind_some _ _).symm.trans H; rw [hy152]; with_reducible exact H2_) | (have H2_ := (Option.bind_some _ _).symm.trans H; with_reducible exact H2_) | with_reducible exact H | (rw [hy152]; exact H) | exact H
                                          have Ny152 := Aside0.mk hy152
                                          clear hy152
                                          by_cases c29 : y149.length + y152.length < 17592186044416
                                          · rw [if_pos c29] at H
                                            have LMc29 := Aside0.mk c29
                                            clear c29
                                            obtain ⟨y156, hy156⟩ : ∃ y_ : List Int, y_ = (y149 ++ y152) := ⟨_, rfl⟩
                                            replace H : (gemotlaw5_WindowTurned.l1 k3 l2 y156 y139 (wrap64 (x12_3 + 1))) = some r := by first | (rw [hy156]; with_reducible exact H) | (have H2_ := (Option.bind_some _ _).symm.trans H; rw [hy156]; with_reducible exact H2_) | (have H2_ := (Option.bind_some _ _).symm.trans H; with_reducible exact H2_) | with_reducible exact H | (rw [hy156]; exact H) | exact H
                                            have Ny156 := Aside0.mk hy156
                                            clear hy156
                                            have H' := Aside0.mk H
                                            clear H
                                            obtain ⟨Ao30, co30, eo30⟩ := Kd.R_slice HO_9.out
                                            subst eo30
                                            have p136 : 0 ≤ ((ji16) : Int) := of_decide_eq_true (by first | (with_reducible assumption) | assumption)
                                            have q136 : (ji16) < (l2.length : Int) := of_decide_eq_true (by first | (with_reducible assumption) | assumption)
                                            obtain ⟨ad136, e136, hx136_0⟩ := Kd.at_int HR2.out (ji16) p136 q136
                                            cases e136
                                            replace hx136_0 := (HB.out.cell (World.block_lt_of_cell? w _ hx136_0)).trans hx136_0
                                            replace p136 := eq_true p136
                                            replace q136 := eq_true q136
                                            try go_wp2_with (first | ((with_reducible refine gate_callee (f := 28) rfl ?_); refine goesL_ (some 57) rfl rfl Try.func28 (by kernel_rfl) rfl #[.int .i64 (rd l2 (ji16)), .int .i64 (x9_3.length : Int)] rfl (by (try simp only [List.map_toArray, List.map_cons, List.map_nil]); first | done | (simp only [hji16]; rfl) | rfl | (simp only [List.length_drop, List.length_take]; rfl)) ?_; (with_reducible refine (gemotlaw5_pick.calls (rd l2 (ji16)) (x9_3.length : Int) t137 _ A19.out).mono ?_); rintro e w' ⟨rfl, ⟨nd, rfl⟩⟩; refine ⟨_, rfl, ?_⟩; have p138 : 0 ≤ (t137 : Int) := of_decide_eq_true (by first | (with_reducible assumption) | assumption); have q138 : t137 < (x9_3.length : Int) := of_decide_eq_true (by first | (with_reducible assumption) | assumption); obtain ⟨ad138, e138, hx138_0⟩ := Kd.at_int (Kd.R_reads' HO_9.out).2.2 t137 p138 q138; cases e138; replace p138 := eq_true p138; replace q138 := eq_true q138) | ((with_reducible refine gate_builtin (b := .append) (xs := #[.tmp 58, .tmp 63]) rfl ?_); (try (refine gate_guard (by rfl) ?_; dsimp only)); at_builtin; refine Kd.R_append (Kd.int .u64) (w0 := w) w.heap.size rfl (.tmp 58) (.tmp 63) 36 37 (.int .u64 0) 8 rfl Try.underlying36 info37 rfl (by decide) (by omega) u11 x11_3 (rd x9_3 t137) [.int .u64 (rd x9_3 t137)] (fun k_ => some k_ ≠ (.slice (some ad138) x9_3.length co30 : Value).ownBlock) (fun _ => False) rfl rfl ?aP (fun _ hk => hk.elim) ?aF ?aO ?aB ?aS ?aL ?_; (case aP => exact rfl); (case aB => exact (by repeat (first | (with_reducible first | exact HB.out | apply below_alloc | apply pw_below_drewN | apply below_drew1) | exact HB.out))); (case aF => exact (fun k_ hk => Kd.fresh' (Kd.R_lt (by (with_reducible repeat (first | apply Kd.R_alloc | apply Kd.R_drewN | apply Kd.R_drew)); exact HO_9.out)) k_ hk)); (case aO => exact (by (with_reducible repeat (first | apply Kd.R_alloc | apply Kd.R_drewN | apply Kd.R_drew)); exact HO_11.out)); (case aS => exact (below_size (by repeat (first | (with_reducible first | exact HB.out | apply below_alloc | apply pw_below_drewN | apply below_drew1) | exact HB.out)))); (case aL => have := LMc22.out; omega); intro v140 w31 ho hb hg hat; rw [← Ny139.out] at ho; have n0_ := Aside0.mk (Kd.R_after (ok := (fun _ => True)) (by (with_reducible repeat (first | apply Kd.R_alloc | apply Kd.R_drewN | apply Kd.R_drew)); exact Kd.R_mono HO_9.out (fun _ hk => ⟨trivial, hk⟩)) hg hat); have n1_ := Aside0.mk (hb); have n2_ := Aside0.mk (ho); clear HO_9; clear HB; clear HO_11; have HO_9 := n0_; have HB := n1_; have HO141 := n2_; clear n0_ n1_ n2_; clear ho hb hg hat))
                                            have n0_ := Aside0.mk (Kd.R_drew HO_9.out)
                                            have n1_ := Aside0.mk (Kd.R_drew HO141.out)
                                            have n2_ := Aside0.mk (below_drew1 HB.out)
                                            clear HO_9
                                            clear HO141
                                            clear HB
                                            have HO_9 := n0_
                                            have HO141 := n1_
                                            have HB := n2_
                                            clear n0_ n1_ n2_
                                            have q33 : (t137 : Int) ≤ ((x9_3.length : Int) : Int) := of_decide_eq_true (by first | (with_reducible assumption) | assumption)
                                            obtain ⟨i033, hi033, _, hsz33, _⟩ := info_parts info37
                                            have hroom33 : x9_3.length ≤ co30 := (Kd.R_reads' HO_9.out).2.1
                                            have hC33 : Kd.C (Kd.int .u64) _ (some ad138) x9_3.length x9_3 := (Kd.R_reads' HO_9.out).2.2
                                            have hcut33 := cut_to (P := Try.prog) 36 37 .i64 Try.underlying36 hi033 (some ad138) x9_3.length co30 t137 (of_decide_eq_true (by first | (with_reducible assumption) | assumption)) q33 hroom33
                                            have hr33 := Kd.C_take (m := (t137 : Int).toNat) hC33 (by omega)
                                            have hy33 : y145.length = (t137 : Int).toNat := (by rw [Ny145.out, List.length_take]; omega)
                                            rw [← Ny145.out] at hr33
                                            rw [← hy33] at hcut33
                                            have HR148 := Aside0.mk hr33
                                            have HC148 := Aside0.mk (show y145.length ≤ co30 from by omega)
                                            clear hr33 hC33 hroom33 hi033 hsz33
                                            have KY33 := Aside0.mk hy33
                                            clear hy33
                                            have KL33 := Aside0.mk (show (t137 : Int).toNat ≤ x9_3.length from by omega)
                                            replace q33 := eq_true q33
                                            have q34 : ((ji26) : Int) ≤ ((x9_3.length : Int) : Int) := of_decide_eq_true (by first | (with_reducible assumption) | assumption)
                                            obtain ⟨i034, hi034, _, hsz34, _⟩ := info_parts info37
                                            have hroom34 : x9_3.length ≤ co30 := (Kd.R_reads' HO_9.out).2.1
                                            have hC34 : Kd.C (Kd.int .u64) _ (some ad138) x9_3.length x9_3 := (Kd.R_reads' HO_9.out).2.2
                                            have q034 : (0 : Int) ≤ ((ji26) : Int) := of_decide_eq_true (by first | (with_reducible assumption) | assumption)
                                            have hcut34 := cut_from (P := Try.prog) 36 37 .i64 Try.underlying36 hi034 1 hsz34 (some ad138) x9_3.length co30 (ji26) q034 q34
                                            have hr34 := Kd.C_drop (m := ((ji26) : Int).toNat) (c := co30) hC34 (by omega) hroom34
                                            obtain ⟨A34, hA34⟩ : ∃ A1, A1 = (if co30 = ((ji26) : Int).toNat then (some ad138) else ((some ad138) : Option Addr).map (·.add (((ji26) : Int).toNat * 1))) := ⟨_, rfl⟩
                                            obtain ⟨c34, hc34⟩ : ∃ c1, c1 = co30 - ((ji26) : Int).toNat := ⟨_, rfl⟩
                                            have hy34 : y152.length = x9_3.length - ((ji26) : Int).toNat := (by rw [Ny152.out, List.length_drop] <;> omega)
                                            rw [show (x9_3).drop ((ji26) : Int).toNat = y152 from Ny152.out.symm] at hr34
                                            replace hr34 : Kd.C (Kd.int .u64) _ A34 y152.length y152 := (by rw [hA34]; exact hr34)
                                            rw [← hy34, ← hA34, ← hc34] at hcut34
                                            have HR155 := Aside0.mk hr34
                                            have HC155 := Aside0.mk (show y152.length ≤ c34 from by rw [hy34, hc34]; exact Nat.sub_le_sub_right hroom34 _)
                                            clear hr34 hC34 hroom34 hi034 hsz34 hc34
                                            have KY34 := Aside0.mk hy34
                                            have KA34 := Aside0.mk hA34
                                            clear hy34 hA34
                                            have KL34 := Aside0.mk (show ((ji26) : Int).toNat ≤ x9_3.length from by omega)
                                            replace q34 := eq_true q34
                                            refine start_ (n := 11) (S := fun w' => True) (ds := []) #[false, false, false, false, false, false, false, false, false, false, false] (by kernel_rfl) rfl rfl trivial (fun hHeld => ?_); refine with_tabW gemotlaw5_WindowTurned.tab18 gemotlaw5_WindowTurned.bits18 (fun HT_ HW_ => ?_)
                                            generalize w31.drew = w32 at HO_9 HO141 HB HR148 HR155 hHeld ⊢
                                            refine pure_ (i := 1) (N := some 66) (v := ?_) (a' := ?_) #[false, true, false, false, false, false, false, false, false, false, false] rfl rfl (any_of HT_.out (by kernel_rfl)) (fun _ _ _ h => h) (Or.inl ⟨by rfl, ?_⟩) ?_ ?_
                                            rotate_left
                                            · intro w'
                                              go_simp
                                              with_reducible rfl
                                            rotate_left
                                            · simp only [Act.put, List.setIfInBounds_toArray, List.set_cons_zero, List.set_cons_succ, i64_w, i32_w]
                                              rfl
                                            refine pure_ (i := 2) (N := some 67) (v := ?_) (a' := ?_) #[false, true, true, false, false, false, false, false, false, false, false] rfl rfl (any_of HT_.out (by kernel_rfl)) (fun _ _ _ h => h) (Or.inl ⟨by rfl, ?_⟩) ?_ ?_
                                            rotate_left
                                            · intro w'
                                              go_simp
                                              with_reducible rfl
                                            rotate_left
                                            · simp only [Act.put, List.setIfInBounds_toArray, List.set_cons_zero, List.set_cons_succ, i64_w, i32_w]
                                              rfl
                                            refine pure_ (i := 3) (N := some 68) (v := ?_) (a' := ?_) #[false, true, true, true, false, false, false, false, false, false, false] rfl rfl (any_of HT_.out (by kernel_rfl)) (fun _ _ _ h => h) (Or.inl ⟨by rfl, ?_⟩) ?_ ?_
                                            rotate_left
                                            · intro w'
                                              go_simp
                                              with_reducible rfl
                                            rotate_left
                                            · simp only [Act.put, List.setIfInBounds_toArray, List.set_cons_zero, List.set_cons_succ, i64_w, i32_w]
                                              rfl
                                            refine pure_ (i := 5) (N := some 70) (v := ?_) (a' := ?_) #[false, true, true, true, false, true, false, false, false, false, false] rfl rfl (any_of HT_.out (by kernel_rfl)) (fun _ _ _ h => h) (Or.inl ⟨by rfl, ?_⟩) ?_ ?_
                                            rotate_left
                                            · intro w'
                                              go_simp
                                              with_reducible rfl
                                            rotate_left
                                            · simp only [Act.put, List.setIfInBounds_toArray, List.set_cons_zero, List.set_cons_succ, i64_w, i32_w]
                                              rfl
                                            refine pure_ (i := 6) (N := some 71) (v := ?_) (a' := ?_) #[false, true, true, true, false, true, true, false, false, false, false] rfl rfl (any_of HT_.out (by kernel_rfl)) (fun _ _ _ h => h) (Or.inl ⟨by rfl, ?_⟩) ?_ ?_
                                            rotate_left
                                            · intro w'
                                              go_simp
                                              with_reducible rfl
                                            rotate_left
                                            · simp only [Act.put, List.setIfInBounds_toArray, List.set_cons_zero, List.set_cons_succ, i64_w, i32_w]
                                              rfl
                                            refine pure_ (i := 7) (N := some 72) (v := ?_) (a' := ?_) #[false, true, true, true, false, true, true, true, false, false, false] rfl rfl (any_of HT_.out (by kernel_rfl)) (fun _ _ _ h => h) (Or.inl ⟨by rfl, ?_⟩) ?_ ?_
                                            rotate_left
                                            · intro w'
                                              go_simp
                                              with_reducible rfl
                                            rotate_left
                                            · simp only [Act.put, List.setIfInBounds_toArray, List.set_cons_zero, List.set_cons_succ, i64_w, i32_w]
                                              rfl
                                            refine pure_ (i := 8) (N := some 73) (v := ?_) (a' := ?_) #[false, true, true, true, false, true, true, true, true, false, false] rfl rfl (any_of HT_.out (by kernel_rfl)) (fun _ _ _ h => h) (Or.inl ⟨by rfl, ?_⟩) ?_ ?_
                                            rotate_left
                                            · intro w'
                                              go_simp
                                              with_reducible rfl
                                            rotate_left
                                            · simp only [Act.put, List.setIfInBounds_toArray, List.set_cons_zero, List.set_cons_succ, i64_w, i32_w]
                                              rfl
                                            refine one_ (i := 0) (N := some 65) #[true, true, true, true, false, true, true, true, true, false, false] rfl rfl (one_of HT_.out (by kernel_rfl)) (by decide) (fun K hK => ?_)
                                            refine Kd.R_lit_step (Kd.int .u64) _ 37 ?hg (N := 65) ?hd (xs := ([] : List Int)) (inner := []) (ok := fun _ => True) (okp := fun _ => True) ?hr ?hp (fun _ hk => hk) trivial (Below.refl _ _) (Nat.le_refl _) (by simp) ?_; (case hd => rfl); (case hg => rfl); (case hr => first | (go_simp; done) | (go_simp; rfl)); (case hp => exact (Reps.none _ _))
                                            intro v143 w35 ho36 hb hg_ hnew_
                                            clear hg_ hnew_
                                            (first | rw [← Ny142.out] at ho36 | (simp only [Int.reduceToNat] at ho36; rw [← Ny142.out] at ho36))
                                            have n0_ := Aside0.mk (Kd.R_elder' (by (with_reducible repeat (first | apply Kd.R_alloc | apply Kd.R_drewN | apply Kd.R_drew)); exact HO_9.out) (Kd.R_base ho36) hb)
                                            have n1_ := Aside0.mk (Kd.R_elder' (by (with_reducible repeat (first | apply Kd.R_alloc | apply Kd.R_drewN | apply Kd.R_drew)); exact HO141.out) (Kd.R_base ho36) hb)
                                            have n2_ := Aside0.mk (Kd.R_lower (Kd.R_new' (Kd.R_new' ho36 (Kd.R_lt (by (with_reducible repeat (first | apply Kd.R_alloc | apply Kd.R_drewN | apply Kd.R_drew)); exact HO_9.out))) (Kd.R_lt (by (with_reducible repeat (first | apply Kd.R_alloc | apply Kd.R_drewN | apply Kd.R_drew)); exact HO141.out))) (below_size (by repeat (first | (with_reducible first | exact HB.out | apply below_alloc | apply pw_below_drewN | apply below_drew1) | exact HB.out))))
                                            have n3_ := Aside0.mk (Kd.C_below (by repeat (first | (with_reducible exact HR148.out) | (with_reducible refine Kd.C_alloc ?_ _) | (with_reducible refine Kd.C_drewN ?_ _) | (with_reducible refine Kd.C_drew ?_) | exact HR148.out)) hb)
                                            have n4_ := Aside0.mk (Kd.C_below (by repeat (first | (with_reducible exact HR155.out) | (with_reducible refine Kd.C_alloc ?_ _) | (with_reducible refine Kd.C_drewN ?_ _) | (with_reducible refine Kd.C_drew ?_) | exact HR155.out)) hb)
                                            have n5_ := Aside0.mk (below_step (by repeat (first | (with_reducible first | exact HB.out | apply below_alloc | apply pw_below_drewN | apply below_drew1) | exact HB.out)) hb)
                                            clear HO_9
                                            clear HO141
                                            clear HR148
                                            clear HR155
                                            clear HB
                                            have HO_9 := n0_
                                            have HO141 := n1_
                                            have HO144 := n2_
                                            have HR148 := n3_
                                            have HR155 := n4_
                                            have HB := n5_
                                            clear n0_ n1_ n2_ n3_ n4_ n5_
                                            clear hb ho36
                                            refine hK.out _ _ trivial (fun hHeld => ?_)
                                            clear hK K
                                            refine norm_ (a' := ?_) ?_ ?_
                                            rotate_left
                                            · show Act.put _ (some 65) _ = _
                                              simp only [Act.put, List.setIfInBounds_toArray, List.set_cons_zero, List.set_cons_succ, i64_w, i32_w]
                                              rfl
                                            refine one_ (i := 4) (N := some 69) #[true, true, true, true, true, true, true, true, true, false, false] rfl rfl (one_of HT_.out (by kernel_rfl)) (by decide) (fun K hK => ?_)
                                            refine Kd.R_append_rows_step (Kd.int .u64) (w0 := w) w.heap.size (by rfl) (.tmp 65) (.tmp 68) 36 37 (.int .u64 0) 8 rfl Try.underlying36 info37 rfl (by decide) (by omega) v143 y142 y145 _ _ _ (fun k_ => some k_ ≠ (.slice (some ad138) x9_3.length co30 : Value).ownBlock ∧ some k_ ≠ (v140 : Value).ownBlock) (fun _ => False) rfl rfl ?aO ?aR (fun _ _ h => h) (fun _ h => h.elim) ?aF ?aB ?aS ?aL ?_
                                            (case aR => repeat (first | exact (by repeat (first | (with_reducible exact HR148.out) | (with_reducible refine Kd.C_alloc ?_ _) | (with_reducible refine Kd.C_drewN ?_ _) | (with_reducible refine Kd.C_drew ?_) | exact HR148.out)) | (with_reducible refine Kd.C_alloc ?_ _) | (with_reducible refine Kd.C_drewN ?_ _) | (with_reducible refine Kd.C_drew ?_)))
                                            (case aB => exact (by repeat (first | (with_reducible first | exact HB.out | apply below_alloc | apply pw_below_drewN | apply below_drew1) | exact HB.out)))
                                            (case aF => exact (fun k_ hk => ⟨Kd.fresh' (Kd.R_lt (by (with_reducible repeat (first | apply Kd.R_alloc | apply Kd.R_drewN | apply Kd.R_drew)); exact HO_9.out)) k_ hk, Kd.fresh' (Kd.R_lt (by (with_reducible repeat (first | apply Kd.R_alloc | apply Kd.R_drewN | apply Kd.R_drew)); exact HO141.out)) k_ hk⟩))
                                            (case aO => exact (by (with_reducible repeat (first | apply Kd.R_alloc | apply Kd.R_drewN | apply Kd.R_drew)); exact Kd.R_mono HO144.out (fun _ hk => ⟨hk.1.2, hk.2⟩)))
                                            (case aS => exact (below_size (by repeat (first | (with_reducible first | exact HB.out | apply below_alloc | apply pw_below_drewN | apply below_drew1) | exact HB.out))))
                                            (case aL => have := LMc25.out; omega)
                                            intro v150 w37 ho hb hg hat
                                            rw [← Ny149.out] at ho
                                            have n0_ := Aside0.mk (Kd.R_after (ok := (fun k_ => some k_ ≠ (v140 : Value).ownBlock)) (by (with_reducible repeat (first | apply Kd.R_alloc | apply Kd.R_drewN | apply Kd.R_drew)); exact Kd.R_mono HO_9.out (fun _ hk => ⟨hk.1.2, hk.2⟩)) hg hat)
                                            have n1_ := Aside0.mk (Kd.R_after (ok := (fun k_ => some k_ ≠ (.slice (some ad138) x9_3.length co30 : Value).ownBlock)) (by (with_reducible repeat (first | apply Kd.R_alloc | apply Kd.R_drewN | apply Kd.R_drew)); exact HO141.out) hg hat)
                                            have n2_ := Aside0.mk (hb)
                                            have n3_ := Aside0.mk ((show Kd.C (Kd.int .u64) w37 (some ad138) y145.length y145 from by rw [Ny145.out]; exact Kd.C_take (m := (t137 : Int).toNat) ((Kd.R_reads' (Kd.R_after (ok := (fun k_ => some k_ ≠ (v140 : Value).ownBlock)) (by (with_reducible repeat (first | apply Kd.R_alloc | apply Kd.R_drewN | apply Kd.R_drew)); exact Kd.R_mono HO_9.out (fun _ hk => ⟨hk.1.2, hk.2⟩)) hg hat)).2.2) KL33.out))
                                            have n4_ := Aside0.mk ((show Kd.C (Kd.int .u64) w37 A34 y152.length y152 from by rw [Ny152.out, KA34.out]; exact Kd.C_drop (m := ((ji26) : Int).toNat) (c := co30) ((Kd.R_reads' (Kd.R_after (ok := (fun k_ => some k_ ≠ (v140 : Value).ownBlock)) (by (with_reducible repeat (first | apply Kd.R_alloc | apply Kd.R_drewN | apply Kd.R_drew)); exact Kd.R_mono HO_9.out (fun _ hk => ⟨hk.1.2, hk.2⟩)) hg hat)).2.2) KL34.out ((Kd.R_reads' (Kd.R_after (ok := (fun k_ => some k_ ≠ (v140 : Value).ownBlock)) (by (with_reducible repeat (first | apply Kd.R_alloc | apply Kd.R_drewN | apply Kd.R_drew)); exact Kd.R_mono HO_9.out (fun _ hk => ⟨hk.1.2, hk.2⟩)) hg hat)).2.1)))
                                            have n5_ := Aside0.mk (ho)
                                            clear HO_9
                                            clear HO141
                                            clear HB
                                            clear HR148
                                            clear HR155
                                            clear HO144
                                            have HO_9 := n0_
                                            have HO141 := n1_
                                            have HB := n2_
                                            have HR148 := n3_
                                            have HR155 := n4_
                                            have HO151 := n5_
                                            clear n0_ n1_ n2_ n3_ n4_ n5_
                                            clear ho hb hg hat
                                            refine hK.out _ _ trivial (fun hHeld => ?_)
                                            clear hK K
                                            refine norm_ (a' := ?_) ?_ ?_
                                            rotate_left
                                            · show Act.put _ (some 69) _ = _
                                              simp only [Act.put, List.setIfInBounds_toArray, List.set_cons_zero, List.set_cons_succ, i64_w, i32_w]
                                              rfl
                                            refine one_ (i := 9) (N := some 74) #[true, true, true, true, true, true, true, true, true, true, false] rfl rfl (one_of HT_.out (by kernel_rfl)) (by decide) (fun K hK => ?_)
                                            refine Kd.R_append_rows_step (Kd.int .u64) (w0 := w) w.heap.size (by rfl) (.tmp 69) (.tmp 73) 36 37 (.int .u64 0) 8 rfl Try.underlying36 info37 rfl (by decide) (by omega) v150 y149 y152 _ _ _ (fun k_ => some k_ ≠ (.slice (some ad138) x9_3.length co30 : Value).ownBlock ∧ some k_ ≠ (v140 : Value).ownBlock) (fun _ => False) rfl rfl ?aO ?aR (fun _ _ h => h) (fun _ h => h.elim) ?aF ?aB ?aS ?aL ?_
                                            (case aR => repeat (first | exact (by repeat (first | (with_reducible exact HR155.out) | (with_reducible refine Kd.C_alloc ?_ _) | (with_reducible refine Kd.C_drewN ?_ _) | (with_reducible refine Kd.C_drew ?_) | exact HR155.out)) | (with_reducible refine Kd.C_alloc ?_ _) | (with_reducible refine Kd.C_drewN ?_ _) | (with_reducible refine Kd.C_drew ?_)))
                                            (case aB => exact (by repeat (first | (with_reducible first | exact HB.out | apply below_alloc | apply pw_below_drewN | apply below_drew1) | exact HB.out)))
                                            (case aF => exact (fun k_ hk => ⟨Kd.fresh' (Kd.R_lt (by (with_reducible repeat (first | apply Kd.R_alloc | apply Kd.R_drewN | apply Kd.R_drew)); exact HO_9.out)) k_ hk, Kd.fresh' (Kd.R_lt (by (with_reducible repeat (first | apply Kd.R_alloc | apply Kd.R_drewN | apply Kd.R_drew)); exact HO141.out)) k_ hk⟩))
                                            (case aO => exact (by (with_reducible repeat (first | apply Kd.R_alloc | apply Kd.R_drewN | apply Kd.R_drew)); exact HO151.out))
                                            (case aS => exact (below_size (by repeat (first | (with_reducible first | exact HB.out | apply below_alloc | apply pw_below_drewN | apply below_drew1) | exact HB.out))))
                                            (case aL => have := LMc29.out; omega)
                                            intro v157 w38 ho hb hg hat
                                            rw [← Ny156.out] at ho
                                            have n0_ := Aside0.mk (Kd.R_after (ok := (fun k_ => some k_ ≠ (v140 : Value).ownBlock)) (by (with_reducible repeat (first | apply Kd.R_alloc | apply Kd.R_drewN | apply Kd.R_drew)); exact HO_9.out) hg hat)
                                            have n1_ := Aside0.mk (Kd.R_after (ok := (fun k_ => some k_ ≠ (.slice (some ad138) x9_3.length co30 : Value).ownBlock)) (by (with_reducible repeat (first | apply Kd.R_alloc | apply Kd.R_drewN | apply Kd.R_drew)); exact HO141.out) hg hat)
                                            have n2_ := Aside0.mk (hb)
                                            have n3_ := Aside0.mk ((show Kd.C (Kd.int .u64) w38 (some ad138) y145.length y145 from by rw [Ny145.out]; exact Kd.C_take (m := (t137 : Int).toNat) ((Kd.R_reads' (Kd.R_after (ok := (fun k_ => some k_ ≠ (v140 : Value).ownBlock)) (by (with_reducible repeat (first | apply Kd.R_alloc | apply Kd.R_drewN | apply Kd.R_drew)); exact HO_9.out) hg hat)).2.2) KL33.out))
                                            have n4_ := Aside0.mk ((show Kd.C (Kd.int .u64) w38 A34 y152.length y152 from by rw [Ny152.out, KA34.out]; exact Kd.C_drop (m := ((ji26) : Int).toNat) (c := co30) ((Kd.R_reads' (Kd.R_after (ok := (fun k_ => some k_ ≠ (v140 : Value).ownBlock)) (by (with_reducible repeat (first | apply Kd.R_alloc | apply Kd.R_drewN | apply Kd.R_drew)); exact HO_9.out) hg hat)).2.2) KL34.out ((Kd.R_reads' (Kd.R_after (ok := (fun k_ => some k_ ≠ (v140 : Value).ownBlock)) (by (with_reducible repeat (first | apply Kd.R_alloc | apply Kd.R_drewN | apply Kd.R_drew)); exact HO_9.out) hg hat)).2.1)))
                                            have n5_ := Aside0.mk (ho)
                                            clear HO_9
                                            clear HO141
                                            clear HB
                                            clear HR148
                                            clear HR155
                                            clear HO151
                                            have HO_9 := n0_
                                            have HO141 := n1_
                                            have HB := n2_
                                            have HR148 := n3_
                                            have HR155 := n4_
                                            have HO158 := n5_
                                            clear n0_ n1_ n2_ n3_ n4_ n5_
                                            clear ho hb hg hat
                                            refine hK.out _ _ trivial (fun hHeld => ?_)
                                            clear hK K
                                            refine norm_ (a' := ?_) ?_ ?_
                                            rotate_left
                                            · show Act.put _ (some 74) _ = _
                                              simp only [Act.put, List.setIfInBounds_toArray, List.set_cons_zero, List.set_cons_succ, i64_w, i32_w]
                                              rfl
                                            refine pure_ (i := 10) (N := some 9) (v := ?_) (a' := ?_) #[true, true, true, true, true, true, true, true, true, true, true] rfl rfl (any_of HT_.out (by kernel_rfl)) (fun _ _ _ h => h) (Or.inl ⟨by rfl, ?_⟩) ?_ ?_
                                            rotate_left
                                            · intro w'
                                              go_simp
                                              with_reducible rfl
                                            rotate_left
                                            · simp only [Act.put, List.setIfInBounds_toArray, List.set_cons_zero, List.set_cons_succ, i64_w, i32_w]
                                              rfl
                                            refine done_ (done_of HT_.out (by kernel_rfl)) ?_
                                            try go_wp2
                                            go_roundg k3
                                            case measure => have := HJ4.out; have := HK2.out; have := HK3.out; omega
                                            case rel => exact ⟨(y156), (y139), (wrap64 (x12_3 + 1)), (by first | rfl | (simp; done) | (simp [*]; done)), H', ⟨by have := HJ4.out; have := HK2.out; have := HK3.out; omega⟩, ⟨by (with_reducible repeat (first | apply Kd.R_alloc | apply Kd.R_drewN | apply Kd.R_drew)); exact Kd.R_mono HO158.out (fun _ hk => hk.2)⟩, ⟨by (with_reducible repeat (first | apply Kd.R_alloc | apply Kd.R_drewN | apply Kd.R_drew)); exact Kd.R_mono HO141.out (fun _ hk => hk.2)⟩, ⟨by repeat (first | (with_reducible first | exact HB.out | apply below_alloc | apply pw_below_drewN | apply below_drew1) | exact HB.out)⟩⟩
                                          · rw [if_neg c29] at H
                                            exact absurd H (by simp)
                                        · rw [if_neg c28] at H
                                          exact absurd H (by simp)
                                      · rw [if_neg c27] at H
                                        exact absurd H (by simp)
                                    · rw [if_neg c25] at H
                                      exact absurd H (by simp)
                                  · rw [if_neg c24] at H
                                    exact absurd H (by simp)
                                · rw [if_neg c22] at H
                                  exact absurd H (by simp)
                              · rw [if_neg c21] at H
                                exact absurd H (by simp)
                            · rw [if_neg c20] at H
                              exact absurd H (by simp)
                          · rw [if_neg c18] at H
                            exact absurd H (by simp)
                        · rw [if_neg c17] at H
                          exact absurd H (by simp)
                    · rw [if_neg c14] at H
                      have c14b0 : decide (0 < (l2.length : Int)) = false := decide_eq_false c14
                      have c14b1 : decide (0 < l2.length) = false := decide_eq_false (by omega)
                      clear c14
                      by_cases c39 : 0 < (x9_3.length : Int)
                      · rw [if_pos c39] at H
                        have c39b0 : decide (0 < (x9_3.length : Int)) = true := decide_eq_true c39
                        have c39b1 : decide (0 < x9_3.length) = true := decide_eq_true (by omega)
                        clear c39
                        by_cases c40 : x11_3.length < 17592186044416
                        · rw [if_pos c40] at H
                          have LMc40 := Aside0.mk c40
                          clear c40
                          obtain ⟨y160, hy160⟩ : ∃ y_ : List Int, y_ = (x11_3 ++ [rd x9_3 0]) := ⟨_, rfl⟩
                          replace H : ((some (([] : List Int) : List Int)).bind fun y163 => (if 0 ≤ (x9_3.length : Int) then ((some (x9_3.take 0 : List Int)).bind fun y166 => (if y163.length + y166.length < 17592186044416 then ((some (y163 ++ y166 : List Int)).bind fun y170 => (if (0 : Int) ≤ (0 + 1) then (if (0 + 1) ≤ (x9_3.length : Int) then ((some (x9_3.drop ((0 + 1) : Int).toNat : List Int)).bind fun y173 => (if y170.length + y173.length < 17592186044416 then (gemotlaw5_WindowTurned.l1 k3 l2 (y170 ++ y173) y160 (wrap64 (x12_3 + 1))) else (none))) else (none)) else (none))) else (none))) else (none))) = some r := by first | (rw [hy160]; with_reducible exact H) | (have H2_ := (Option.bind_some _ _).symm.trans H; rw [hy160]; with_reducible exact H2_) | (have H2_ := (Option.bind_some _ _).symm.trans H; with_reducible exact H2_) | with_reducible exact H | (rw [hy160]; exact H) | exact H
                          have Ny160 := Aside0.mk hy160
                          clear hy160
                          obtain ⟨y163, hy163⟩ : ∃ y_ : List Int, y_ = (([] : List Int)) := ⟨_, rfl⟩
                          replace H : (if 0 ≤ (x9_3.length : Int) then ((some (x9_3.take 0 : List Int)).bind fun y166 => (if y163.length + y166.length < 17592186044416 then ((some (y163 ++ y166 : List Int)).bind fun y170 => (if (0 : Int) ≤ (0 + 1) then (if (0 + 1) ≤ (x9_3.length : Int) then ((some (x9_3.drop ((0 + 1) : Int).toNat : List Int)).bind fun y173 => (if y170.length + y173.length < 17592186044416 then (gemotlaw5_WindowTurned.l1 k3 l2 (y170 ++ y173) y160 (wrap64 (x12_3 + 1))) else (none))) else (none)) else (none))) else (none))) else (none)) = some r := by first | (rw [hy163]; with_reducible exact H) | (have H2_ := (Option.bind_some _ _).symm.trans H; rw [hy163]; with_reducible exact H2_) | (have H2_ := (Option.bind_some _ _).symm.trans H; with_reducible exact H2_) | with_reducible exact H | (rw [hy163]; exact H) | exact H
                          have Ny163 := Aside0.mk hy163
                          clear hy163
                          by_cases c41 : 0 ≤ (x9_3.length : Int)
                          · rw [if_pos c41] at H
                            have c41b0 := eq_true c41
                            have c41b1 : decide (0 ≤ (x9_3.length : Int)) = true := decide_eq_true c41
                            clear c41
                            obtain ⟨y166, hy166⟩ : ∃ y_ : List Int, y_ = (x9_3.take 0) := ⟨_, rfl⟩
                            replace H : (if y163.length + y166.length < 17592186044416 then ((some (y163 ++ y166 : List Int)).bind fun y170 => (if (0 : Int) ≤ (0 + 1) then (if (0 + 1) ≤ (x9_3.length : Int) then ((some (x9_3.drop ((0 + 1) : Int).toNat : List Int)).bind fun y173 => (if y170.length + y173.length < 17592186044416 then (gemotlaw5_WindowTurned.l1 k3 l2 (y170 ++ y173) y160 (wrap64 (x12_3 + 1))) else (none))) else (none)) else (none))) else (none)) = some r := by first | (rw [hy166]; with_reducible exact H) | (have H2_ := (Option.bind_some _ _).symm.trans H; rw [hy166]; with_reducible exact H2_) | (have H2_ := (Option.bind_some _ _).symm.trans H; with_reducible exact H2_) | with_reducible exact H | (rw [hy166]; exact H) | exact H
                            have Ny166 := Aside0.mk hy166
                            clear hy166
                            by_cases c42 : y163.length + y166.length < 17592186044416
                            · rw [if_pos c42] at H
                              have LMc42 := Aside0.mk c42
                              clear c42
                              obtain ⟨y170, hy170⟩ : ∃ y_ : List Int, y_ = (y163 ++ y166) := ⟨_, rfl⟩
                              replace H : (if (0 : Int) ≤ (0 + 1) then (if (0 + 1) ≤ (x9_3.length : Int) then ((some (x9_3.drop ((0 + 1) : Int).toNat : List Int)).bind fun y173 => (if y170.length + y173.length < 17592186044416 then (gemotlaw5_WindowTurned.l1 k3 l2 (y170 ++ y173) y160 (wrap64 (x12_3 + 1))) else (none))) else (none)) else (none)) = some r := by first | (rw [hy170]; with_reducible exact H) | (have H2_ := (Option.bind_some _ _).symm.trans H; rw [hy170]; with_reducible exact H2_) | (have H2_ := (Option.bind_some _ _).symm.trans H; with_reducible exact H2_) | with_reducible exact H | (rw [hy170]; exact H) | exact H
                              have Ny170 := Aside0.mk hy170
                              clear hy170
                              obtain ⟨ji43, hji43⟩ : ∃ j_ : Int, (0 + 1) = j_ := ⟨_, rfl⟩
                              have hji43w : wrap64 ji43 = ji43 := by subst hji43; unfold wrap64; decide
                              replace H : (if 0 ≤ (ji43) then (if (ji43) ≤ (x9_3.length : Int) then ((some (x9_3.drop ((ji43) : Int).toNat : List Int)).bind fun y173 => (if y170.length + y173.length < 17592186044416 then (gemotlaw5_WindowTurned.l1 k3 l2 (y170 ++ y173) y160 (wrap64 (x12_3 + 1))) else (none))) else (none)) else (none)) = some r := by first | (rw [hji43] at H; exact H) | (simp only [hji43] at H ⊢; exact H)
                              by_cases c44 : 0 ≤ (ji43)
                              · rw [if_pos c44] at H
                                have c44b0 := eq_true c44
                                have c44b1 : decide (0 ≤ (ji43)) = true := decide_eq_true c44
                                clear c44
                                by_cases c45 : (ji43) ≤ (x9_3.length : Int)
                                · rw [if_pos c45] at H
                                  have c45b0 := eq_true c45
                                  have c45b1 : decide ((ji43) ≤ (x9_3.length : Int)) = true := decide_eq_true c45
                                  clear c45
                                  obtain ⟨y173, hy173⟩ : ∃ y_ : List Int, y_ = (x9_3.drop ((ji43) : Int).toNat) := ⟨_, rfl⟩
                                  replace H : (if y170.length + y173.length < 17592186044416 then (gemotlaw5_WindowTurned.l1 k3 l2 (y170 ++ y173) y160 (wrap64 (x12_3 + 1))) else (none)) = some r := by first | (rw [hy173]; with_reducible exact H) | (have H2_ := (Option.bind_some _ _).symm.trans H; rw [hy173]; with_reducible exact H2_) | (have H2_ := (Option.bind_some _ _).symm.trans H; with_reducible exact H2_) | with_reducible exact H | (rw [hy173]; exact H) | exact H
                                  have Ny173 := Aside0.mk hy173
                                  clear hy173
                                  by_cases c46 : y170.length + y173.length < 17592186044416
                                  · rw [if_pos c46] at H
                                    have LMc46 := Aside0.mk c46
                                    clear c46
                                    obtain ⟨y177, hy177⟩ : ∃ y_ : List Int, y_ = (y170 ++ y173) := ⟨_, rfl⟩
                                    replace H : (gemotlaw5_WindowTurned.l1 k3 l2 y177 y160 (wrap64 (x12_3 + 1))) = some r := by first | (rw [hy177]; with_reducible exact H) | (have H2_ := (Option.bind_some _ _).symm.trans H; rw [hy177]; with_reducible exact H2_) | (have H2_ := (Option.bind_some _ _).symm.trans H; with_reducible exact H2_) | with_reducible exact H | (rw [hy177]; exact H) | exact H
                                    have Ny177 := Aside0.mk hy177
                                    clear hy177
                                    have H' := Aside0.mk H
                                    clear H
                                    obtain ⟨Ao47, co47, eo47⟩ := Kd.R_slice HO_9.out
                                    subst eo47
                                    have p159 : 0 ≤ (0 : Int) := (by omega)
                                    have q159 : 0 < (x9_3.length : Int) := of_decide_eq_true (by first | (with_reducible assumption) | assumption)
                                    obtain ⟨ad159, e159, hx159_0⟩ := Kd.at_int (Kd.R_reads' HO_9.out).2.2 0 p159 q159
                                    cases e159
                                    have qi159 : (0 < x9_3.length) = True := eq_true (by omega)
                                    (try rw [show ((0 : Int)).toNat = 0 from rfl] at hx159_0)
                                    (try rw [Addr.add_zero'] at hx159_0)
                                    replace p159 := eq_true p159
                                    replace q159 := eq_true q159
                                    try go_wp2_with (first | ((with_reducible refine gate_builtin (b := .append) (xs := #[.tmp 58, .tmp 63]) rfl ?_); (try (refine gate_guard (by rfl) ?_; dsimp only)); at_builtin; refine Kd.R_append (Kd.int .u64) (w0 := w) w.heap.size rfl (.tmp 58) (.tmp 63) 36 37 (.int .u64 0) 8 rfl Try.underlying36 info37 rfl (by decide) (by omega) u11 x11_3 (rd x9_3 0) [.int .u64 (rd x9_3 0)] (fun k_ => some k_ ≠ (.slice (some ad159) x9_3.length co47 : Value).ownBlock) (fun _ => False) rfl rfl ?aP (fun _ hk => hk.elim) ?aF ?aO ?aB ?aS ?aL ?_; (case aP => exact rfl); (case aB => exact (by repeat (first | (with_reducible first | exact HB.out | apply below_alloc | apply pw_below_drewN | apply below_drew1) | exact HB.out))); (case aF => exact (fun k_ hk => Kd.fresh' (Kd.R_lt (by (with_reducible repeat (first | apply Kd.R_alloc | apply Kd.R_drewN | apply Kd.R_drew)); exact HO_9.out)) k_ hk)); (case aO => exact (by (with_reducible repeat (first | apply Kd.R_alloc | apply Kd.R_drewN | apply Kd.R_drew)); exact HO_11.out)); (case aS => exact (below_size (by repeat (first | (with_reducible first | exact HB.out | apply below_alloc | apply pw_below_drewN | apply below_drew1) | exact HB.out)))); (case aL => have := LMc40.out; omega); intro v161 w48 ho hb hg hat; rw [← Ny160.out] at ho; have n0_ := Aside0.mk (Kd.R_after (ok := (fun _ => True)) (by (with_reducible repeat (first | apply Kd.R_alloc | apply Kd.R_drewN | apply Kd.R_drew)); exact Kd.R_mono HO_9.out (fun _ hk => ⟨trivial, hk⟩)) hg hat); have n1_ := Aside0.mk (hb); have n2_ := Aside0.mk (ho); clear HO_9; clear HB; clear HO_11; have HO_9 := n0_; have HB := n1_; have HO162 := n2_; clear n0_ n1_ n2_; clear ho hb hg hat))
                                    have n0_ := Aside0.mk (Kd.R_drew HO_9.out)
                                    have n1_ := Aside0.mk (Kd.R_drew HO162.out)
                                    have n2_ := Aside0.mk (below_drew1 HB.out)
                                    clear HO_9
                                    clear HO162
                                    clear HB
                                    have HO_9 := n0_
                                    have HO162 := n1_
                                    have HB := n2_
                                    clear n0_ n1_ n2_
                                    have q50 : (0 : Int) ≤ ((x9_3.length : Int) : Int) := of_decide_eq_true (by first | (with_reducible assumption) | assumption)
                                    obtain ⟨i050, hi050, _, hsz50, _⟩ := info_parts info37
                                    have hroom50 : x9_3.length ≤ co47 := (Kd.R_reads' HO_9.out).2.1
                                    have hC50 : Kd.C (Kd.int .u64) _ (some ad159) x9_3.length x9_3 := (Kd.R_reads' HO_9.out).2.2
                                    have hcut50 := cut_to (P := Try.prog) 36 37 .i64 Try.underlying36 hi050 (some ad159) x9_3.length co47 0 (by omega) q50 hroom50
                                    have hr50 := Kd.C_take (m := 0) hC50 (by omega)
                                    have hy50 : y166.length = (0 : Int).toNat := (by rw [Ny166.out, List.length_take]; omega)
                                    rw [← Ny166.out] at hr50
                                    rw [← hy50] at hcut50
                                    have HR169 := Aside0.mk hr50
                                    have HC169 := Aside0.mk (show y166.length ≤ co47 from by omega)
                                    clear hr50 hC50 hroom50 hi050 hsz50
                                    have KY50 := Aside0.mk hy50
                                    clear hy50
                                    have KL50 := Aside0.mk (show 0 ≤ x9_3.length from by omega)
                                    replace q50 := eq_true q50
                                    have q51 : ((ji43) : Int) ≤ ((x9_3.length : Int) : Int) := of_decide_eq_true (by first | (with_reducible assumption) | assumption)
                                    obtain ⟨i051, hi051, _, hsz51, _⟩ := info_parts info37
                                    have hroom51 : x9_3.length ≤ co47 := (Kd.R_reads' HO_9.out).2.1
                                    have hC51 : Kd.C (Kd.int .u64) _ (some ad159) x9_3.length x9_3 := (Kd.R_reads' HO_9.out).2.2
                                    have q051 : (0 : Int) ≤ ((ji43) : Int) := of_decide_eq_true (by first | (with_reducible assumption) | assumption)
                                    have hcut51 := cut_from (P := Try.prog) 36 37 .i64 Try.underlying36 hi051 1 hsz51 (some ad159) x9_3.length co47 (ji43) q051 q51
                                    have hr51 := Kd.C_drop (m := ((ji43) : Int).toNat) (c := co47) hC51 (by omega) hroom51
                                    obtain ⟨A51, hA51⟩ : ∃ A1, A1 = (if co47 = ((ji43) : Int).toNat then (some ad159) else ((some ad159) : Option Addr).map (·.add (((ji43) : Int).toNat * 1))) := ⟨_, rfl⟩
                                    obtain ⟨c51, hc51⟩ : ∃ c1, c1 = co47 - ((ji43) : Int).toNat := ⟨_, rfl⟩
                                    have hy51 : y173.length = x9_3.length - ((ji43) : Int).toNat := (by rw [Ny173.out, List.length_drop] <;> omega)
                                    rw [show (x9_3).drop ((ji43) : Int).toNat = y173 from Ny173.out.symm] at hr51
                                    replace hr51 : Kd.C (Kd.int .u64) _ A51 y173.length y173 := (by rw [hA51]; exact hr51)
                                    rw [← hy51, ← hA51, ← hc51] at hcut51
                                    have HR176 := Aside0.mk hr51
                                    have HC176 := Aside0.mk (show y173.length ≤ c51 from by rw [hy51, hc51]; exact Nat.sub_le_sub_right hroom51 _)
                                    clear hr51 hC51 hroom51 hi051 hsz51 hc51
                                    have KY51 := Aside0.mk hy51
                                    have KA51 := Aside0.mk hA51
                                    clear hy51 hA51
                                    have KL51 := Aside0.mk (show ((ji43) : Int).toNat ≤ x9_3.length from by omega)
                                    replace q51 := eq_true q51
                                    refine start_ (n := 11) (S := fun w' => True) (ds := []) #[false, false, false, false, false, false, false, false, false, false, false] (by kernel_rfl) rfl rfl trivial (fun hHeld => ?_); refine with_tabW gemotlaw5_WindowTurned.tab18 gemotlaw5_WindowTurned.bits18 (fun HT_ HW_ => ?_)
                                    generalize w48.drew = w49 at HO_9 HO162 HB HR169 HR176 hHeld ⊢
                                    refine pure_ (i := 1) (N := some 66) (v := ?_) (a' := ?_) #[false, true, false, false, false, false, false, false, false, false, false] rfl rfl (any_of HT_.out (by kernel_rfl)) (fun _ _ _ h => h) (Or.inl ⟨by rfl, ?_⟩) ?_ ?_
                                    rotate_left
                                    · intro w'
                                      go_simp
                                      with_reducible rfl
                                    rotate_left
                                    · simp only [Act.put, List.setIfInBounds_toArray, List.set_cons_zero, List.set_cons_succ, i64_w, i32_w]
                                      rfl
                                    refine pure_ (i := 2) (N := some 67) (v := ?_) (a' := ?_) #[false, true, true, false, false, false, false, false, false, false, false] rfl rfl (any_of HT_.out (by kernel_rfl)) (fun _ _ _ h => h) (Or.inl ⟨by rfl, ?_⟩) ?_ ?_
                                    rotate_left
                                    · intro w'
                                      go_simp
                                      with_reducible rfl
                                    rotate_left
                                    · simp only [Act.put, List.setIfInBounds_toArray, List.set_cons_zero, List.set_cons_succ, i64_w, i32_w]
                                      rfl
                                    refine pure_ (i := 3) (N := some 68) (v := ?_) (a' := ?_) #[false, true, true, true, false, false, false, false, false, false, false] rfl rfl (any_of HT_.out (by kernel_rfl)) (fun _ _ _ h => h) (Or.inl ⟨by rfl, ?_⟩) ?_ ?_
                                    rotate_left
                                    · intro w'
                                      go_simp
                                      with_reducible rfl
                                    rotate_left
                                    · simp only [Act.put, List.setIfInBounds_toArray, List.set_cons_zero, List.set_cons_succ, i64_w, i32_w]
                                      rfl
                                    refine pure_ (i := 5) (N := some 70) (v := ?_) (a' := ?_) #[false, true, true, true, false, true, false, false, false, false, false] rfl rfl (any_of HT_.out (by kernel_rfl)) (fun _ _ _ h => h) (Or.inl ⟨by rfl, ?_⟩) ?_ ?_
                                    rotate_left
                                    · intro w'
                                      go_simp
                                      with_reducible rfl
                                    rotate_left
                                    · simp only [Act.put, List.setIfInBounds_toArray, List.set_cons_zero, List.set_cons_succ, i64_w, i32_w]
                                      rfl
                                    refine pure_ (i := 6) (N := some 71) (v := ?_) (a' := ?_) #[false, true, true, true, false, true, true, false, false, false, false] rfl rfl (any_of HT_.out (by kernel_rfl)) (fun _ _ _ h => h) (Or.inl ⟨by rfl, ?_⟩) ?_ ?_
                                    rotate_left
                                    · intro w'
                                      go_simp
                                      with_reducible rfl
                                    rotate_left
                                    · simp only [Act.put, List.setIfInBounds_toArray, List.set_cons_zero, List.set_cons_succ, i64_w, i32_w]
                                      rfl
                                    refine pure_ (i := 7) (N := some 72) (v := ?_) (a' := ?_) #[false, true, true, true, false, true, true, true, false, false, false] rfl rfl (any_of HT_.out (by kernel_rfl)) (fun _ _ _ h => h) (Or.inl ⟨by rfl, ?_⟩) ?_ ?_
                                    rotate_left
                                    · intro w'
                                      go_simp
                                      with_reducible rfl
                                    rotate_left
                                    · simp only [Act.put, List.setIfInBounds_toArray, List.set_cons_zero, List.set_cons_succ, i64_w, i32_w]
                                      rfl
                                    refine pure_ (i := 8) (N := some 73) (v := ?_) (a' := ?_) #[false, true, true, true, false, true, true, true, true, false, false] rfl rfl (any_of HT_.out (by kernel_rfl)) (fun _ _ _ h => h) (Or.inl ⟨by rfl, ?_⟩) ?_ ?_
                                    rotate_left
                                    · intro w'
                                      go_simp
                                      with_reducible rfl
                                    rotate_left
                                    · simp only [Act.put, List.setIfInBounds_toArray, List.set_cons_zero, List.set_cons_succ, i64_w, i32_w]
                                      rfl
                                    refine one_ (i := 0) (N := some 65) #[true, true, true, true, false, true, true, true, true, false, false] rfl rfl (one_of HT_.out (by kernel_rfl)) (by decide) (fun K hK => ?_)
                                    refine Kd.R_lit_step (Kd.int .u64) _ 37 ?hg (N := 65) ?hd (xs := ([] : List Int)) (inner := []) (ok := fun _ => True) (okp := fun _ => True) ?hr ?hp (fun _ hk => hk) trivial (Below.refl _ _) (Nat.le_refl _) (by simp) ?_; (case hd => rfl); (case hg => rfl); (case hr => first | (go_simp; done) | (go_simp; rfl)); (case hp => exact (Reps.none _ _))
                                    intro v164 w52 ho53 hb hg_ hnew_
                                    clear hg_ hnew_
                                    (first | rw [← Ny163.out] at ho53 | (simp only [Int.reduceToNat] at ho53; rw [← Ny163.out] at ho53))
                                    have n0_ := Aside0.mk (Kd.R_elder' (by (with_reducible repeat (first | apply Kd.R_alloc | apply Kd.R_drewN | apply Kd.R_drew)); exact HO_9.out) (Kd.R_base ho53) hb)
                                    have n1_ := Aside0.mk (Kd.R_elder' (by (with_reducible repeat (first | apply Kd.R_alloc | apply Kd.R_drewN | apply Kd.R_drew)); exact HO162.out) (Kd.R_base ho53) hb)
                                    have n2_ := Aside0.mk (Kd.R_lower (Kd.R_new' (Kd.R_new' ho53 (Kd.R_lt (by (with_reducible repeat (first | apply Kd.R_alloc | apply Kd.R_drewN | apply Kd.R_drew)); exact HO_9.out))) (Kd.R_lt (by (with_reducible repeat (first | apply Kd.R_alloc | apply Kd.R_drewN | apply Kd.R_drew)); exact HO162.out))) (below_size (by repeat (first | (with_reducible first | exact HB.out | apply below_alloc | apply pw_below_drewN | apply below_drew1) | exact HB.out))))
                                    have n3_ := Aside0.mk (Kd.C_below (by repeat (first | (with_reducible exact HR169.out) | (with_reducible refine Kd.C_alloc ?_ _) | (with_reducible refine Kd.C_drewN ?_ _) | (with_reducible refine Kd.C_drew ?_) | exact HR169.out)) hb)
                                    have n4_ := Aside0.mk (Kd.C_below (by repeat (first | (with_reducible exact HR176.out) | (with_reducible refine Kd.C_alloc ?_ _) | (with_reducible refine Kd.C_drewN ?_ _) | (with_reducible refine Kd.C_drew ?_) | exact HR176.out)) hb)
                                    have n5_ := Aside0.mk (below_step (by repeat (first | (with_reducible first | exact HB.out | apply below_alloc | apply pw_below_drewN | apply below_drew1) | exact HB.out)) hb)
                                    clear HO_9
                                    clear HO162
                                    clear HR169
                                    clear HR176
                                    clear HB
                                    have HO_9 := n0_
                                    have HO162 := n1_
                                    have HO165 := n2_
                                    have HR169 := n3_
                                    have HR176 := n4_
                                    have HB := n5_
                                    clear n0_ n1_ n2_ n3_ n4_ n5_
                                    clear hb ho53
                                    refine hK.out _ _ trivial (fun hHeld => ?_)
                                    clear hK K
                                    refine norm_ (a' := ?_) ?_ ?_
                                    rotate_left
                                    · show Act.put _ (some 65) _ = _
                                      simp only [Act.put, List.setIfInBounds_toArray, List.set_cons_zero, List.set_cons_succ, i64_w, i32_w]
                                      rfl
                                    refine one_ (i := 4) (N := some 69) #[true, true, true, true, true, true, true, true, true, false, false] rfl rfl (one_of HT_.out (by kernel_rfl)) (by decide) (fun K hK => ?_)
                                    refine Kd.R_append_rows_step (Kd.int .u64) (w0 := w) w.heap.size (by rfl) (.tmp 65) (.tmp 68) 36 37 (.int .u64 0) 8 rfl Try.underlying36 info37 rfl (by decide) (by omega) v164 y163 y166 _ _ _ (fun k_ => some k_ ≠ (.slice (some ad159) x9_3.length co47 : Value).ownBlock ∧ some k_ ≠ (v161 : Value).ownBlock) (fun _ => False) rfl rfl ?aO ?aR (fun _ _ h => h) (fun _ h => h.elim) ?aF ?aB ?aS ?aL ?_
                                    (case aR => repeat (first | exact (by repeat (first | (with_reducible exact HR169.out) | (with_reducible refine Kd.C_alloc ?_ _) | (with_reducible refine Kd.C_drewN ?_ _) | (with_reducible refine Kd.C_drew ?_) | exact HR169.out)) | (with_reducible refine Kd.C_alloc ?_ _) | (with_reducible refine Kd.C_drewN ?_ _) | (with_reducible refine Kd.C_drew ?_)))
                                    (case aB => exact (by repeat (first | (with_reducible first | exact HB.out | apply below_alloc | apply pw_below_drewN | apply below_drew1) | exact HB.out)))
                                    (case aF => exact (fun k_ hk => ⟨Kd.fresh' (Kd.R_lt (by (with_reducible repeat (first | apply Kd.R_alloc | apply Kd.R_drewN | apply Kd.R_drew)); exact HO_9.out)) k_ hk, Kd.fresh' (Kd.R_lt (by (with_reducible repeat (first | apply Kd.R_alloc | apply Kd.R_drewN | apply Kd.R_drew)); exact HO162.out)) k_ hk⟩))
                                    (case aO => exact (by (with_reducible repeat (first | apply Kd.R_alloc | apply Kd.R_drewN | apply Kd.R_drew)); exact Kd.R_mono HO165.out (fun _ hk => ⟨hk.1.2, hk.2⟩)))
                                    (case aS => exact (below_size (by repeat (first | (with_reducible first | exact HB.out | apply below_alloc | apply pw_below_drewN | apply below_drew1) | exact HB.out))))
                                    (case aL => have := LMc42.out; omega)
                                    intro v171 w54 ho hb hg hat
                                    rw [← Ny170.out] at ho
                                    have n0_ := Aside0.mk (Kd.R_after (ok := (fun k_ => some k_ ≠ (v161 : Value).ownBlock)) (by (with_reducible repeat (first | apply Kd.R_alloc | apply Kd.R_drewN | apply Kd.R_drew)); exact Kd.R_mono HO_9.out (fun _ hk => ⟨hk.1.2, hk.2⟩)) hg hat)
                                    have n1_ := Aside0.mk (Kd.R_after (ok := (fun k_ => some k_ ≠ (.slice (some ad159) x9_3.length co47 : Value).ownBlock)) (by (with_reducible repeat (first | apply Kd.R_alloc | apply Kd.R_drewN | apply Kd.R_drew)); exact HO162.out) hg hat)
                                    have n2_ := Aside0.mk (hb)
                                    have n3_ := Aside0.mk ((show Kd.C (Kd.int .u64) w54 (some ad159) y166.length y166 from by rw [Ny166.out]; exact Kd.C_take (m := 0) ((Kd.R_reads' (Kd.R_after (ok := (fun k_ => some k_ ≠ (v161 : Value).ownBlock)) (by (with_reducible repeat (first | apply Kd.R_alloc | apply Kd.R_drewN | apply Kd.R_drew)); exact Kd.R_mono HO_9.out (fun _ hk => ⟨hk.1.2, hk.2⟩)) hg hat)).2.2) KL50.out))
                                    have n4_ := Aside0.mk ((show Kd.C (Kd.int .u64) w54 A51 y173.length y173 from by rw [Ny173.out, KA51.out]; exact Kd.C_drop (m := ((ji43) : Int).toNat) (c := co47) ((Kd.R_reads' (Kd.R_after (ok := (fun k_ => some k_ ≠ (v161 : Value).ownBlock)) (by (with_reducible repeat (first | apply Kd.R_alloc | apply Kd.R_drewN | apply Kd.R_drew)); exact Kd.R_mono HO_9.out (fun _ hk => ⟨hk.1.2, hk.2⟩)) hg hat)).2.2) KL51.out ((Kd.R_reads' (Kd.R_after (ok := (fun k_ => some k_ ≠ (v161 : Value).ownBlock)) (by (with_reducible repeat (first | apply Kd.R_alloc | apply Kd.R_drewN | apply Kd.R_drew)); exact Kd.R_mono HO_9.out (fun _ hk => ⟨hk.1.2, hk.2⟩)) hg hat)).2.1)))
                                    have n5_ := Aside0.mk (ho)
                                    clear HO_9
                                    clear HO162
                                    clear HB
                                    clear HR169
                                    clear HR176
                                    clear HO165
                                    have HO_9 := n0_
                                    have HO162 := n1_
                                    have HB := n2_
                                    have HR169 := n3_
                                    have HR176 := n4_
                                    have HO172 := n5_
                                    clear n0_ n1_ n2_ n3_ n4_ n5_
                                    clear ho hb hg hat
                                    refine hK.out _ _ trivial (fun hHeld => ?_)
                                    clear hK K
                                    refine norm_ (a' := ?_) ?_ ?_
                                    rotate_left
                                    · show Act.put _ (some 69) _ = _
                                      simp only [Act.put, List.setIfInBounds_toArray, List.set_cons_zero, List.set_cons_succ, i64_w, i32_w]
                                      rfl
                                    refine one_ (i := 9) (N := some 74) #[true, true, true, true, true, true, true, true, true, true, false] rfl rfl (one_of HT_.out (by kernel_rfl)) (by decide) (fun K hK => ?_)
                                    refine Kd.R_append_rows_step (Kd.int .u64) (w0 := w) w.heap.size (by rfl) (.tmp 69) (.tmp 73) 36 37 (.int .u64 0) 8 rfl Try.underlying36 info37 rfl (by decide) (by omega) v171 y170 y173 _ _ _ (fun k_ => some k_ ≠ (.slice (some ad159) x9_3.length co47 : Value).ownBlock ∧ some k_ ≠ (v161 : Value).ownBlock) (fun _ => False) rfl rfl ?aO ?aR (fun _ _ h => h) (fun _ h => h.elim) ?aF ?aB ?aS ?aL ?_
                                    (case aR => repeat (first | exact (by repeat (first | (with_reducible exact HR176.out) | (with_reducible refine Kd.C_alloc ?_ _) | (with_reducible refine Kd.C_drewN ?_ _) | (with_reducible refine Kd.C_drew ?_) | exact HR176.out)) | (with_reducible refine Kd.C_alloc ?_ _) | (with_reducible refine Kd.C_drewN ?_ _) | (with_reducible refine Kd.C_drew ?_)))
                                    (case aB => exact (by repeat (first | (with_reducible first | exact HB.out | apply below_alloc | apply pw_below_drewN | apply below_drew1) | exact HB.out)))
                                    (case aF => exact (fun k_ hk => ⟨Kd.fresh' (Kd.R_lt (by (with_reducible repeat (first | apply Kd.R_alloc | apply Kd.R_drewN | apply Kd.R_drew)); exact HO_9.out)) k_ hk, Kd.fresh' (Kd.R_lt (by (with_reducible repeat (first | apply Kd.R_alloc | apply Kd.R_drewN | apply Kd.R_drew)); exact HO162.out)) k_ hk⟩))
                                    (case aO => exact (by (with_reducible repeat (first | apply Kd.R_alloc | apply Kd.R_drewN | apply Kd.R_drew)); exact HO172.out))
                                    (case aS => exact (below_size (by repeat (first | (with_reducible first | exact HB.out | apply below_alloc | apply pw_below_drewN | apply below_drew1) | exact HB.out))))
                                    (case aL => have := LMc46.out; omega)
                                    intro v178 w55 ho hb hg hat
                                    rw [← Ny177.out] at ho
                                    have n0_ := Aside0.mk (Kd.R_after (ok := (fun k_ => some k_ ≠ (v161 : Value).ownBlock)) (by (with_reducible repeat (first | apply Kd.R_alloc | apply Kd.R_drewN | apply Kd.R_drew)); exact HO_9.out) hg hat)
                                    have n1_ := Aside0.mk (Kd.R_after (ok := (fun k_ => some k_ ≠ (.slice (some ad159) x9_3.length co47 : Value).ownBlock)) (by (with_reducible repeat (first | apply Kd.R_alloc | apply Kd.R_drewN | apply Kd.R_drew)); exact HO162.out) hg hat)
                                    have n2_ := Aside0.mk (hb)
                                    have n3_ := Aside0.mk ((show Kd.C (Kd.int .u64) w55 (some ad159) y166.length y166 from by rw [Ny166.out]; exact Kd.C_take (m := 0) ((Kd.R_reads' (Kd.R_after (ok := (fun k_ => some k_ ≠ (v161 : Value).ownBlock)) (by (with_reducible repeat (first | apply Kd.R_alloc | apply Kd.R_drewN | apply Kd.R_drew)); exact HO_9.out) hg hat)).2.2) KL50.out))
                                    have n4_ := Aside0.mk ((show Kd.C (Kd.int .u64) w55 A51 y173.length y173 from by rw [Ny173.out, KA51.out]; exact Kd.C_drop (m := ((ji43) : Int).toNat) (c := co47) ((Kd.R_reads' (Kd.R_after (ok := (fun k_ => some k_ ≠ (v161 : Value).ownBlock)) (by (with_reducible repeat (first | apply Kd.R_alloc | apply Kd.R_drewN | apply Kd.R_drew)); exact HO_9.out) hg hat)).2.2) KL51.out ((Kd.R_reads' (Kd.R_after (ok := (fun k_ => some k_ ≠ (v161 : Value).ownBlock)) (by (with_reducible repeat (first | apply Kd.R_alloc | apply Kd.R_drewN | apply Kd.R_drew)); exact HO_9.out) hg hat)).2.1)))
                                    have n5_ := Aside0.mk (ho)
                                    clear HO_9
                                    clear HO162
                                    clear HB
                                    clear HR169
                                    clear HR176
                                    clear HO172
                                    have HO_9 := n0_
                                    have HO162 := n1_
                                    have HB := n2_
                                    have HR169 := n3_
                                    have HR176 := n4_
                                    have HO179 := n5_
                                    clear n0_ n1_ n2_ n3_ n4_ n5_
                                    clear ho hb hg hat
                                    refine hK.out _ _ trivial (fun hHeld => ?_)
                                    clear hK K
                                    refine norm_ (a' := ?_) ?_ ?_
                                    rotate_left
                                    · show Act.put _ (some 74) _ = _
                                      simp only [Act.put, List.setIfInBounds_toArray, List.set_cons_zero, List.set_cons_succ, i64_w, i32_w]
                                      rfl
                                    refine pure_ (i := 10) (N := some 9) (v := ?_) (a' := ?_) #[true, true, true, true, true, true, true, true, true, true, true] rfl rfl (any_of HT_.out (by kernel_rfl)) (fun _ _ _ h => h) (Or.inl ⟨by rfl, ?_⟩) ?_ ?_
                                    rotate_left
                                    · intro w'
                                      go_simp
                                      with_reducible rfl
                                    rotate_left
                                    · simp only [Act.put, List.setIfInBounds_toArray, List.set_cons_zero, List.set_cons_succ, i64_w, i32_w]
                                      rfl
                                    refine done_ (done_of HT_.out (by kernel_rfl)) ?_
                                    try go_wp2
                                    go_roundg k3
                                    case measure => have := HJ4.out; have := HK2.out; have := HK3.out; omega
                                    case rel => exact ⟨(y177), (y160), (wrap64 (x12_3 + 1)), (by first | rfl | (simp; done) | (simp [*]; done)), H', ⟨by have := HJ4.out; have := HK2.out; have := HK3.out; omega⟩, ⟨by (with_reducible repeat (first | apply Kd.R_alloc | apply Kd.R_drewN | apply Kd.R_drew)); exact Kd.R_mono HO179.out (fun _ hk => hk.2)⟩, ⟨by (with_reducible repeat (first | apply Kd.R_alloc | apply Kd.R_drewN | apply Kd.R_drew)); exact Kd.R_mono HO162.out (fun _ hk => hk.2)⟩, ⟨by repeat (first | (with_reducible first | exact HB.out | apply below_alloc | apply pw_below_drewN | apply below_drew1) | exact HB.out)⟩⟩
                                  · rw [if_neg c46] at H
                                    exact absurd H (by simp)
                                · rw [if_neg c45] at H
                                  exact absurd H (by simp)
                              · rw [if_neg c44] at H
                                exact absurd H (by simp)
                            · rw [if_neg c42] at H
                              exact absurd H (by simp)
                          · rw [if_neg c41] at H
                            exact absurd H (by simp)
                        · rw [if_neg c40] at H
                          exact absurd H (by simp)
                      · rw [if_neg c39] at H
                        exact absurd H (by simp)
                  · rw [if_neg c13] at H
                    have c13b0 : decide (0 < (x9_3.length : Int)) = false := decide_eq_false c13
                    have c13b1 : decide (0 < x9_3.length) = false := decide_eq_false (by omega)
                    clear c13
                    replace H := Option.bind_eq_some_iff.mp H
                    obtain ⟨t180, A560, H⟩ := H
                    replace H : ((gemotlaw5_same.f k3 t180 x11_3).bind fun t183 => (if t183 = true then ((some (([] : List Int) : List Int)).bind fun y184 => (if y184.length + x11_3.length < 17592186044416 then ((some (y184 ++ x11_3 : List Int)).bind fun y187 => (if y187.length + x11_3.length < 17592186044416 then ((window_All.f k3 (y187 ++ x11_3)).bind fun t193 => ((gemotlaw5_same.f k3 t193 x11_3).bind fun t196 => (some t196))) else (none))) else (none))) else (some false))) = some r := H
                    have A56 := Aside0.mk A560
                    clear A560
                    replace H := Option.bind_eq_some_iff.mp H
                    obtain ⟨t183, A570, H⟩ := H
                    replace H : (if t183 = true then ((some (([] : List Int) : List Int)).bind fun y184 => (if y184.length + x11_3.length < 17592186044416 then ((some (y184 ++ x11_3 : List Int)).bind fun y187 => (if y187.length + x11_3.length < 17592186044416 then ((window_All.f k3 (y187 ++ x11_3)).bind fun t193 => ((gemotlaw5_same.f k3 t193 x11_3).bind fun t196 => (some t196))) else (none))) else (none))) else (some false)) = some r := H
                    have A57 := Aside0.mk A570
                    clear A570
                    by_cases c58 : t183 = true
                    · subst c58
                      have H1 : ((some (([] : List Int) : List Int)).bind fun y184 => (if y184.length + x11_3.length < 17592186044416 then ((some (y184 ++ x11_3 : List Int)).bind fun y187 => (if y187.length + x11_3.length < 17592186044416 then ((window_All.f k3 (y187 ++ x11_3)).bind fun t193 => ((gemotlaw5_same.f k3 t193 x11_3).bind fun t196 => (some t196))) else (none))) else (none))) = some r := by rw [if_pos rfl] at H; exact H
                      clear H
                      have H := H1
                      clear H1
                      obtain ⟨y184, hy184⟩ : ∃ y_ : List Int, y_ = (([] : List Int)) := ⟨_, rfl⟩
                      replace H : (if y184.length + x11_3.length < 17592186044416 then ((some (y184 ++ x11_3 : List Int)).bind fun y187 => (if y187.length + x11_3.length < 17592186044416 then ((window_All.f k3 (y187 ++ x11_3)).bind fun t193 => ((gemotlaw5_same.f k3 t193 x11_3).bind fun t196 => (some t196))) else (none))) else (none)) = some r := by first | (rw [hy184]; with_reducible exact H) | (have H2_ := (Option.bind_some _ _).symm.trans H; rw [hy184]; with_reducible exact H2_) | (have H2_ := (Option.bind_some _ _).symm.trans H; with_reducible exact H2_) | with_reducible exact H | (rw [hy184]; exact H) | exact H
                      have Ny184 := Aside0.mk hy184
                      clear hy184
                      by_cases c59 : y184.length + x11_3.length < 17592186044416
                      · rw [if_pos c59] at H
                        have LMc59 := Aside0.mk c59
                        clear c59
                        obtain ⟨y187, hy187⟩ : ∃ y_ : List Int, y_ = (y184 ++ x11_3) := ⟨_, rfl⟩
                        replace H : (if y187.length + x11_3.length < 17592186044416 then ((window_All.f k3 (y187 ++ x11_3)).bind fun t193 => ((gemotlaw5_same.f k3 t193 x11_3).bind fun t196 => (some t196))) else (none)) = some r := by first | (rw [hy187]; with_reducible exact H) | (have H2_ := (Option.bind_some _ _).symm.trans H; rw [hy187]; with_reducible exact H2_) | (have H2_ := (Option.bind_some _ _).symm.trans H; with_reducible exact H2_) | with_reducible exact H | (rw [hy187]; exact H) | exact H
                        have Ny187 := Aside0.mk hy187
                        clear hy187
                        by_cases c60 : y187.length + x11_3.length < 17592186044416
                        · rw [if_pos c60] at H
                          have LMc60 := Aside0.mk c60
                          clear c60
                          obtain ⟨y190, hy190⟩ : ∃ y_ : List Int, y_ = (y187 ++ x11_3) := ⟨_, rfl⟩
                          replace H : ((window_All.f k3 y190).bind fun t193 => ((gemotlaw5_same.f k3 t193 x11_3).bind fun t196 => (some t196))) = some r := by first | (rw [hy190]; with_reducible exact H) | (have H2_ := (Option.bind_some _ _).symm.trans H; rw [hy190]; with_reducible exact H2_) | (have H2_ := (Option.bind_some _ _).symm.trans H; with_reducible exact H2_) | with_reducible exact H | (rw [hy190]; exact H) | exact H
                          have Ny190 := Aside0.mk hy190
                          clear hy190
                          replace H := Option.bind_eq_some_iff.mp H
                          obtain ⟨t193, A610, H⟩ := H
                          replace H : ((gemotlaw5_same.f k3 t193 x11_3).bind fun t196 => (some t196)) = some r := H
                          have A61 := Aside0.mk A610
                          clear A610
                          replace H := Option.bind_eq_some_iff.mp H
                          obtain ⟨t196, A620, H⟩ := H
                          replace H : (some t196) = some r := H
                          have A62 := Aside0.mk A620
                          clear A620
                          obtain rfl := Option.some.inj H
                          obtain ⟨Ao63, co63, eo63⟩ := Kd.R_slice HO_9.out
                          subst eo63
                          obtain ⟨Ao64, co64, eo64⟩ := Kd.R_slice HO_11.out
                          subst eo64
                          go_wp2_with (first | ((with_reducible refine gate_callee (f := 27) rfl ?_); refine goesL_ (some 76) rfl rfl Try.func27 (by kernel_rfl) rfl #[.slice Ao64 x11_3.length co64] rfl (by (try simp only [List.map_toArray, List.map_cons, List.map_nil]); first | done | rfl | (simp only [List.length_drop, List.length_take]; rfl)) ?_; (with_reducible refine (window_All.calls k3 _ _ x11_3 t180 _ ?side1 ?side2 A56.out).mono ?_); (case side1 => repeat (first | exact (Kd.R_reads' HO_11.out).2.2 | (with_reducible refine Kd.C_alloc ?_ _) | (with_reducible refine Kd.C_drewN ?_ _) | (with_reducible refine Kd.C_drew ?_))); (case side2 => exact (Kd.R_reads' HO_11.out).2.1); rintro e w65 ⟨v181, rfl, ho0, hb⟩; refine ⟨_, rfl, ?_⟩; have n0_ := Aside0.mk (Kd.R_elder' (by (with_reducible repeat (first | apply Kd.R_alloc | apply Kd.R_drewN | apply Kd.R_drew)); exact HO_9.out) (Kd.R_base ho0) hb); have n1_ := Aside0.mk (Kd.R_elder' (by (with_reducible repeat (first | apply Kd.R_alloc | apply Kd.R_drewN | apply Kd.R_drew)); exact HO_11.out) (Kd.R_base ho0) hb); have n2_ := Aside0.mk (Kd.R_lower (Kd.R_new' (Kd.R_new' ho0 (Kd.R_lt (by (with_reducible repeat (first | apply Kd.R_alloc | apply Kd.R_drewN | apply Kd.R_drew)); exact HO_9.out))) (Kd.R_lt (by (with_reducible repeat (first | apply Kd.R_alloc | apply Kd.R_drewN | apply Kd.R_drew)); exact HO_11.out))) (below_size (by repeat (first | (with_reducible first | exact HB.out | apply below_alloc | apply pw_below_drewN | apply below_drew1) | exact HB.out)))); have n3_ := Aside0.mk (below_step (by repeat (first | (with_reducible first | exact HB.out | apply below_alloc | apply pw_below_drewN | apply below_drew1) | exact HB.out)) hb); clear HO_9; clear HO_11; clear HB; have HO_9 := n0_; have HO_11 := n1_; have HO182 := n2_; have HB := n3_; clear n0_ n1_ n2_ n3_; (try clear hb); (try clear hb2); (try clear hk); (try clear hi); (try clear ho0); obtain ⟨Ao66, co66, eo66⟩ := Kd.R_slice HO182.out; subst eo66) | ((with_reducible refine gate_callee (f := 26) rfl ?_); refine goesL_ (some 78) rfl rfl Try.func26 (by kernel_rfl) rfl #[.slice Ao66 t180.length co66, .slice Ao64 x11_3.length co64] rfl (by (try simp only [List.map_toArray, List.map_cons, List.map_nil]); first | done | rfl | (simp only [List.length_drop, List.length_take]; rfl)) ?_; (with_reducible refine (gemotlaw5_same.calls k3 _ _ t180 _ _ x11_3 true _ ?side1 ?side2 ?side3 ?side4 A57.out).mono ?_); (case side1 => repeat (first | exact (Kd.R_reads' HO182.out).2.2 | (with_reducible refine Kd.C_alloc ?_ _) | (with_reducible refine Kd.C_drewN ?_ _) | (with_reducible refine Kd.C_drew ?_))); (case side2 => exact (Kd.R_reads' HO182.out).2.1); (case side3 => repeat (first | exact (Kd.R_reads' HO_11.out).2.2 | (with_reducible refine Kd.C_alloc ?_ _) | (with_reducible refine Kd.C_drewN ?_ _) | (with_reducible refine Kd.C_drew ?_))); (case side4 => exact (Kd.R_reads' HO_11.out).2.1); rintro e w' ⟨rfl, ⟨nd, rfl⟩⟩; refine ⟨_, rfl, ?_⟩) | ((with_reducible refine gate_dst (N := 80) rfl ?_); (try (refine gate_guard (by rfl) ?_; dsimp only)); refine Kd.R_lit (Kd.int .u64) _ 37 ?hg (N := 80) ?hd (xs := ([] : List Int)) (inner := []) (ok := fun _ => True) (okp := fun _ => True) ?hr ?hp (fun _ hk => hk) trivial (Below.refl _ _) (Nat.le_refl _) (by simp) ?_; (case hd => rfl); (case hg => rfl); (case hr => first | (go_simp; done) | (go_simp; rfl)); (case hp => exact (Reps.none _ _)); intro v185 w67 ho68 hb hg_ hnew_; clear hg_ hnew_; (first | rw [← Ny184.out] at ho68 | (simp only [Int.reduceToNat] at ho68; rw [← Ny184.out] at ho68)); have n0_ := Aside0.mk (Kd.R_elder' (by (with_reducible repeat (first | apply Kd.R_alloc | apply Kd.R_drewN | apply Kd.R_drew)); exact HO_9.out) (Kd.R_base ho68) hb); have n1_ := Aside0.mk (Kd.R_elder' (by (with_reducible repeat (first | apply Kd.R_alloc | apply Kd.R_drewN | apply Kd.R_drew)); exact HO_11.out) (Kd.R_base ho68) hb); have n2_ := Aside0.mk (Kd.R_elder' (by (with_reducible repeat (first | apply Kd.R_alloc | apply Kd.R_drewN | apply Kd.R_drew)); exact HO182.out) (Kd.R_base ho68) hb); have n3_ := Aside0.mk (Kd.R_lower (Kd.R_new' (Kd.R_new' (Kd.R_new' ho68 (Kd.R_lt (by (with_reducible repeat (first | apply Kd.R_alloc | apply Kd.R_drewN | apply Kd.R_drew)); exact HO_9.out))) (Kd.R_lt (by (with_reducible repeat (first | apply Kd.R_alloc | apply Kd.R_drewN | apply Kd.R_drew)); exact HO_11.out))) (Kd.R_lt (by (with_reducible repeat (first | apply Kd.R_alloc | apply Kd.R_drewN | apply Kd.R_drew)); exact HO182.out))) (below_size (by repeat (first | (with_reducible first | exact HB.out | apply below_alloc | apply pw_below_drewN | apply below_drew1) | exact HB.out)))); have n4_ := Aside0.mk (below_step (by repeat (first | (with_reducible first | exact HB.out | apply below_alloc | apply pw_below_drewN | apply below_drew1) | exact HB.out)) hb); clear HO_9; clear HO_11; clear HO182; clear HB; have HO_9 := n0_; have HO_11 := n1_; have HO182 := n2_; have HO186 := n3_; have HB := n4_; clear n0_ n1_ n2_ n3_ n4_; clear hb ho68) | ((with_reducible refine gate_builtin (b := .append) (xs := #[.tmp 80, .tmp 81]) rfl ?_); (try (refine gate_guard (by rfl) ?_; dsimp only)); at_builtin; refine Kd.R_append_rows (Kd.int .u64) (w0 := w) w.heap.size rfl (.tmp 80) (.tmp 81) 36 37 (.int .u64 0) 8 rfl Try.underlying36 info37 rfl (by decide) (by omega) v185 y184 x11_3 _ _ _ (fun k_ => some k_ ≠ (.slice Ao63 x9_3.length co63 : Value).ownBlock ∧ some k_ ≠ (.slice Ao64 x11_3.length co64 : Value).ownBlock ∧ some k_ ≠ (.slice Ao66 t180.length co66 : Value).ownBlock) (fun _ => False) rfl rfl ?aO ?aR (fun _ _ h => h) (fun _ h => h.elim) ?aF ?aB ?aS ?aL ?_; (case aR => repeat (first | exact (Kd.R_reads' HO_11.out).2.2 | (with_reducible refine Kd.C_alloc ?_ _) | (with_reducible refine Kd.C_drewN ?_ _) | (with_reducible refine Kd.C_drew ?_))); (case aB => exact (by repeat (first | (with_reducible first | exact HB.out | apply below_alloc | apply pw_below_drewN | apply below_drew1) | exact HB.out))); (case aF => exact (fun k_ hk => ⟨Kd.fresh' (Kd.R_lt (by (with_reducible repeat (first | apply Kd.R_alloc | apply Kd.R_drewN | apply Kd.R_drew)); exact HO_9.out)) k_ hk, Kd.fresh' (Kd.R_lt (by (with_reducible repeat (first | apply Kd.R_alloc | apply Kd.R_drewN | apply Kd.R_drew)); exact HO_11.out)) k_ hk, Kd.fresh' (Kd.R_lt (by (with_reducible repeat (first | apply Kd.R_alloc | apply Kd.R_drewN | apply Kd.R_drew)); exact HO182.out)) k_ hk⟩)); (case aO => exact (by (with_reducible repeat (first | apply Kd.R_alloc | apply Kd.R_drewN | apply Kd.R_drew)); exact Kd.R_mono HO186.out (fun _ hk => ⟨hk.1.1.2, ⟨hk.1.2, hk.2⟩⟩))); (case aS => exact (below_size (by repeat (first | (with_reducible first | exact HB.out | apply below_alloc | apply pw_below_drewN | apply below_drew1) | exact HB.out)))); (case aL => have := LMc59.out; omega); intro v188 w69 ho hb hg hat; rw [← Ny187.out] at ho; have n0_ := Aside0.mk (Kd.R_after (ok := (fun k_ => some k_ ≠ (.slice Ao64 x11_3.length co64 : Value).ownBlock ∧ some k_ ≠ (.slice Ao66 t180.length co66 : Value).ownBlock)) (by (with_reducible repeat (first | apply Kd.R_alloc | apply Kd.R_drewN | apply Kd.R_drew)); exact HO_9.out) hg hat); have n1_ := Aside0.mk (Kd.R_after (ok := (fun k_ => some k_ ≠ (.slice Ao63 x9_3.length co63 : Value).ownBlock ∧ some k_ ≠ (.slice Ao66 t180.length co66 : Value).ownBlock)) (by (with_reducible repeat (first | apply Kd.R_alloc | apply Kd.R_drewN | apply Kd.R_drew)); exact HO_11.out) hg hat); have n2_ := Aside0.mk (Kd.R_after (ok := (fun k_ => some k_ ≠ (.slice Ao63 x9_3.length co63 : Value).ownBlock ∧ some k_ ≠ (.slice Ao64 x11_3.length co64 : Value).ownBlock)) (by (with_reducible repeat (first | apply Kd.R_alloc | apply Kd.R_drewN | apply Kd.R_drew)); exact Kd.R_mono HO182.out (fun _ hk => ⟨⟨hk.1.1.2, hk.1.2⟩, hk.2⟩)) hg hat); have n3_ := Aside0.mk (hb); have n4_ := Aside0.mk (ho); clear HO_9; clear HO_11; clear HO182; clear HB; clear HO186; have HO_9 := n0_; have HO_11 := n1_; have HO182 := n2_; have HB := n3_; have HO189 := n4_; clear n0_ n1_ n2_ n3_ n4_; clear ho hb hg hat) | ((with_reducible refine gate_builtin (b := .append) (xs := #[.tmp 82, .tmp 83]) rfl ?_); (try (refine gate_guard (by rfl) ?_; dsimp only)); at_builtin; refine Kd.R_append_rows (Kd.int .u64) (w0 := w) w.heap.size rfl (.tmp 82) (.tmp 83) 36 37 (.int .u64 0) 8 rfl Try.underlying36 info37 rfl (by decide) (by omega) v188 y187 x11_3 _ _ _ (fun k_ => some k_ ≠ (.slice Ao63 x9_3.length co63 : Value).ownBlock ∧ some k_ ≠ (.slice Ao64 x11_3.length co64 : Value).ownBlock ∧ some k_ ≠ (.slice Ao66 t180.length co66 : Value).ownBlock) (fun _ => False) rfl rfl ?aO ?aR (fun _ _ h => h) (fun _ h => h.elim) ?aF ?aB ?aS ?aL ?_; (case aR => repeat (first | exact (Kd.R_reads' HO_11.out).2.2 | (with_reducible refine Kd.C_alloc ?_ _) | (with_reducible refine Kd.C_drewN ?_ _) | (with_reducible refine Kd.C_drew ?_))); (case aB => exact (by repeat (first | (with_reducible first | exact HB.out | apply below_alloc | apply pw_below_drewN | apply below_drew1) | exact HB.out))); (case aF => exact (fun k_ hk => ⟨Kd.fresh' (Kd.R_lt (by (with_reducible repeat (first | apply Kd.R_alloc | apply Kd.R_drewN | apply Kd.R_drew)); exact HO_9.out)) k_ hk, Kd.fresh' (Kd.R_lt (by (with_reducible repeat (first | apply Kd.R_alloc | apply Kd.R_drewN | apply Kd.R_drew)); exact HO_11.out)) k_ hk, Kd.fresh' (Kd.R_lt (by (with_reducible repeat (first | apply Kd.R_alloc | apply Kd.R_drewN | apply Kd.R_drew)); exact HO182.out)) k_ hk⟩)); (case aO => exact (by (with_reducible repeat (first | apply Kd.R_alloc | apply Kd.R_drewN | apply Kd.R_drew)); exact HO189.out)); (case aS => exact (below_size (by repeat (first | (with_reducible first | exact HB.out | apply below_alloc | apply pw_below_drewN | apply below_drew1) | exact HB.out)))); (case aL => have := LMc60.out; omega); intro v191 w70 ho hb hg hat; rw [← Ny190.out] at ho; have n0_ := Aside0.mk (Kd.R_after (ok := (fun k_ => some k_ ≠ (.slice Ao64 x11_3.length co64 : Value).ownBlock ∧ some k_ ≠ (.slice Ao66 t180.length co66 : Value).ownBlock)) (by (with_reducible repeat (first | apply Kd.R_alloc | apply Kd.R_drewN | apply Kd.R_drew)); exact HO_9.out) hg hat); have n1_ := Aside0.mk (Kd.R_after (ok := (fun k_ => some k_ ≠ (.slice Ao63 x9_3.length co63 : Value).ownBlock ∧ some k_ ≠ (.slice Ao66 t180.length co66 : Value).ownBlock)) (by (with_reducible repeat (first | apply Kd.R_alloc | apply Kd.R_drewN | apply Kd.R_drew)); exact HO_11.out) hg hat); have n2_ := Aside0.mk (Kd.R_after (ok := (fun k_ => some k_ ≠ (.slice Ao63 x9_3.length co63 : Value).ownBlock ∧ some k_ ≠ (.slice Ao64 x11_3.length co64 : Value).ownBlock)) (by (with_reducible repeat (first | apply Kd.R_alloc | apply Kd.R_drewN | apply Kd.R_drew)); exact HO182.out) hg hat); have n3_ := Aside0.mk (hb); have n4_ := Aside0.mk (ho); clear HO_9; clear HO_11; clear HO182; clear HB; clear HO189; have HO_9 := n0_; have HO_11 := n1_; have HO182 := n2_; have HB := n3_; have HO192 := n4_; clear n0_ n1_ n2_ n3_ n4_; clear ho hb hg hat; obtain ⟨Ao71, co71, eo71⟩ := Kd.R_slice HO192.out; subst eo71) | (go_at_call 27; (with_reducible refine (window_All.calls k3 _ _ y190 t193 _ ?side1 ?side2 A61.out).mono ?_); (case side1 => repeat (first | exact (Kd.R_reads' HO192.out).2.2 | (with_reducible refine Kd.C_alloc ?_ _) | (with_reducible refine Kd.C_drewN ?_ _) | (with_reducible refine Kd.C_drew ?_))); (case side2 => exact (Kd.R_reads' HO192.out).2.1); rintro e w72 ⟨v194, rfl, ho0, hb⟩; have n0_ := Aside0.mk (Kd.R_elder' (by (with_reducible repeat (first | apply Kd.R_alloc | apply Kd.R_drewN | apply Kd.R_drew)); exact HO_9.out) (Kd.R_base ho0) hb); have n1_ := Aside0.mk (Kd.R_elder' (by (with_reducible repeat (first | apply Kd.R_alloc | apply Kd.R_drewN | apply Kd.R_drew)); exact HO_11.out) (Kd.R_base ho0) hb); have n2_ := Aside0.mk (Kd.R_elder' (by (with_reducible repeat (first | apply Kd.R_alloc | apply Kd.R_drewN | apply Kd.R_drew)); exact HO182.out) (Kd.R_base ho0) hb); have n3_ := Aside0.mk (Kd.R_elder' (by (with_reducible repeat (first | apply Kd.R_alloc | apply Kd.R_drewN | apply Kd.R_drew)); exact HO192.out) (Kd.R_base ho0) hb); have n4_ := Aside0.mk (Kd.R_lower (Kd.R_new' (Kd.R_new' (Kd.R_new' (Kd.R_new' ho0 (Kd.R_lt (by (with_reducible repeat (first | apply Kd.R_alloc | apply Kd.R_drewN | apply Kd.R_drew)); exact HO_9.out))) (Kd.R_lt (by (with_reducible repeat (first | apply Kd.R_alloc | apply Kd.R_drewN | apply Kd.R_drew)); exact HO_11.out))) (Kd.R_lt (by (with_reducible repeat (first | apply Kd.R_alloc | apply Kd.R_drewN | apply Kd.R_drew)); exact HO182.out))) (Kd.R_lt (by (with_reducible repeat (first | apply Kd.R_alloc | apply Kd.R_drewN | apply Kd.R_drew)); exact HO192.out))) (below_size (by repeat (first | (with_reducible first | exact HB.out | apply below_alloc | apply pw_below_drewN | apply below_drew1) | exact HB.out)))); have n5_ := Aside0.mk (below_step (by repeat (first | (with_reducible first | exact HB.out | apply below_alloc | apply pw_below_drewN | apply below_drew1) | exact HB.out)) hb); clear HO_9; clear HO_11; clear HO182; clear HO192; clear HB; have HO_9 := n0_; have HO_11 := n1_; have HO182 := n2_; have HO192 := n3_; have HO195 := n4_; have HB := n5_; clear n0_ n1_ n2_ n3_ n4_ n5_; (try clear hb); (try clear hb2); (try clear hk); (try clear hi); (try clear ho0); obtain ⟨Ao73, co73, eo73⟩ := Kd.R_slice HO195.out; subst eo73) | (go_at_call 26; (with_reducible refine (gemotlaw5_same.calls k3 _ _ t193 _ _ x11_3 t196 _ ?side1 ?side2 ?side3 ?side4 A62.out).mono ?_); (case side1 => repeat (first | exact (Kd.R_reads' HO195.out).2.2 | (with_reducible refine Kd.C_alloc ?_ _) | (with_reducible refine Kd.C_drewN ?_ _) | (with_reducible refine Kd.C_drew ?_))); (case side2 => exact (Kd.R_reads' HO195.out).2.1); (case side3 => repeat (first | exact (Kd.R_reads' HO_11.out).2.2 | (with_reducible refine Kd.C_alloc ?_ _) | (with_reducible refine Kd.C_drewN ?_ _) | (with_reducible refine Kd.C_drew ?_))); (case side4 => exact (Kd.R_reads' HO_11.out).2.1); rintro e w' ⟨rfl, ⟨nd, rfl⟩⟩))
                          go_ret
                          exact ⟨by first | rfl | (simp [errW_none, errW_some] <;> rfl) | (simp [*, errW_none, errW_some] <;> rfl), by repeat (first | (with_reducible first | exact HB.out | apply below_alloc | apply pw_below_drewN | apply below_drew1) | exact HB.out)⟩
                        · rw [if_neg c60] at H
                          exact absurd H (by simp)
                      · rw [if_neg c59] at H
                        exact absurd H (by simp)
                    · replace c58 := Bool.eq_false_iff.mpr c58
                      subst c58
                      have H1 : (some false) = some r := by rw [if_neg (show ¬ (false = true) by decide)] at H; exact H
                      clear H
                      have H := H1
                      clear H1
                      obtain rfl := Option.some.inj H
                      obtain ⟨Ao74, co74, eo74⟩ := Kd.R_slice HO_9.out
                      subst eo74
                      obtain ⟨Ao75, co75, eo75⟩ := Kd.R_slice HO_11.out
                      subst eo75
                      go_wp2_with (first | ((with_reducible refine gate_callee (f := 27) rfl ?_); refine goesL_ (some 76) rfl rfl Try.func27 (by kernel_rfl) rfl #[.slice Ao75 x11_3.length co75] rfl (by (try simp only [List.map_toArray, List.map_cons, List.map_nil]); first | done | rfl | (simp only [List.length_drop, List.length_take]; rfl)) ?_; (with_reducible refine (window_All.calls k3 _ _ x11_3 t180 _ ?side1 ?side2 A56.out).mono ?_); (case side1 => repeat (first | exact (Kd.R_reads' HO_11.out).2.2 | (with_reducible refine Kd.C_alloc ?_ _) | (with_reducible refine Kd.C_drewN ?_ _) | (with_reducible refine Kd.C_drew ?_))); (case side2 => exact (Kd.R_reads' HO_11.out).2.1); rintro e w76 ⟨v181, rfl, ho0, hb⟩; refine ⟨_, rfl, ?_⟩; have n0_ := Aside0.mk (Kd.R_elder' (by (with_reducible repeat (first | apply Kd.R_alloc | apply Kd.R_drewN | apply Kd.R_drew)); exact HO_9.out) (Kd.R_base ho0) hb); have n1_ := Aside0.mk (Kd.R_elder' (by (with_reducible repeat (first | apply Kd.R_alloc | apply Kd.R_drewN | apply Kd.R_drew)); exact HO_11.out) (Kd.R_base ho0) hb); have n2_ := Aside0.mk (Kd.R_lower (Kd.R_new' (Kd.R_new' ho0 (Kd.R_lt (by (with_reducible repeat (first | apply Kd.R_alloc | apply Kd.R_drewN | apply Kd.R_drew)); exact HO_9.out))) (Kd.R_lt (by (with_reducible repeat (first | apply Kd.R_alloc | apply Kd.R_drewN | apply Kd.R_drew)); exact HO_11.out))) (below_size (by repeat (first | (with_reducible first | exact HB.out | apply below_alloc | apply pw_below_drewN | apply below_drew1) | exact HB.out)))); have n3_ := Aside0.mk (below_step (by repeat (first | (with_reducible first | exact HB.out | apply below_alloc | apply pw_below_drewN | apply below_drew1) | exact HB.out)) hb); clear HO_9; clear HO_11; clear HB; have HO_9 := n0_; have HO_11 := n1_; have HO182 := n2_; have HB := n3_; clear n0_ n1_ n2_ n3_; (try clear hb); (try clear hb2); (try clear hk); (try clear hi); (try clear ho0); obtain ⟨Ao77, co77, eo77⟩ := Kd.R_slice HO182.out; subst eo77) | ((with_reducible refine gate_callee (f := 26) rfl ?_); refine goesL_ (some 78) rfl rfl Try.func26 (by kernel_rfl) rfl #[.slice Ao77 t180.length co77, .slice Ao75 x11_3.length co75] rfl (by (try simp only [List.map_toArray, List.map_cons, List.map_nil]); first | done | rfl | (simp only [List.length_drop, List.length_take]; rfl)) ?_; (with_reducible refine (gemotlaw5_same.calls k3 _ _ t180 _ _ x11_3 false _ ?side1 ?side2 ?side3 ?side4 A57.out).mono ?_); (case side1 => repeat (first | exact (Kd.R_reads' HO182.out).2.2 | (with_reducible refine Kd.C_alloc ?_ _) | (with_reducible refine Kd.C_drewN ?_ _) | (with_reducible refine Kd.C_drew ?_))); (case side2 => exact (Kd.R_reads' HO182.out).2.1); (case side3 => repeat (first | exact (Kd.R_reads' HO_11.out).2.2 | (with_reducible refine Kd.C_alloc ?_ _) | (with_reducible refine Kd.C_drewN ?_ _) | (with_reducible refine Kd.C_drew ?_))); (case side4 => exact (Kd.R_reads' HO_11.out).2.1); rintro e w' ⟨rfl, ⟨nd, rfl⟩⟩; refine ⟨_, rfl, ?_⟩))
                      go_ret
                      exact ⟨by first | rfl | (simp [errW_none, errW_some] <;> rfl) | (simp [*, errW_none, errW_some] <;> rfl), by repeat (first | (with_reducible first | exact HB.out | apply below_alloc | apply pw_below_drewN | apply below_drew1) | exact HB.out)⟩

/-- THE ONE PURE STATEMENT of gemotlaw5_WindowTurned: yours. -/
def gemotlaw5_WindowTurned.Pure : Prop := ∀ (a0 : Int) (a1 : Int) (l2 : List Int), (Lit.int .u64 a0).wf = true → (Lit.int .i64 a1).wf = true → l2.length ≤ maxLen → l2.length * 8 ≤ 140737488351232 → (∀ x ∈ l2, (Lit.int .i64 x).wf = true) → ∃ k, gemotlaw5_WindowTurned.f k a0 a1 l2 = some true
theorem gemotlaw5_WindowTurned.walk (P : gemotlaw5_WindowTurned.Pure) (a0 : Int) (a1 : Int) (a2 : Option Addr) (len2 cap2 : Nat) (z2 : List Int) (w : World) (w0 : (Lit.int .u64 a0).wf = true) (w1 : (Lit.int .i64 a1).wf = true) (w2 : (a2 = none ∧ len2 = 0 ∧ cap2 = 0 ∧ z2 = []) ∨ ∃ x, a2 = some x ∧ len2 ≤ cap2 ∧ cap2 ≤ maxLen ∧ z2.length = cap2 ∧ (∀ i, i < z2.length → w.cell? (x.add i) = some (.int .i64 (z2.getD i 0))) ∧ ∀ n ∈ z2, (Lit.int .i64 n).wf = true) (y2 : len2 * 8 ≤ 140737488351232) :
    Calls Try.prog 9 #[.int .u64 a0, .int .i64 a1, .slice a2 len2 cap2] w fun e w' => e = .returned (.bool true) ∧ Below w.heap.size w w' := by
  obtain ⟨l2, rfl, hr2, hm2, hw2, hc2⟩ := ReadsInt.ofRowC w2
  obtain ⟨k, h⟩ := P a0 a1 l2 w0 w1 hm2 y2 hw2
  refine (gemotlaw5_WindowTurned.calls k a0 a1 _ _ l2 true w (Kd.C_of_reads (d := (0 : Int)) (h1 := fun _ => rfl) hr2) hc2 h).mono ?_
  rintro e w' ⟨rfl, hd⟩
  exact ⟨rfl, hd⟩

end Go.Proofs.Ytgiipmdndfcgnaa.PWindowTurned
