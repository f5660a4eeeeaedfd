/- Walks, printed by a program of this proof's own. -/
import Derived.Test.YtgomlcfoifkdiaaGA
import Derived.Test.YtgomlcfoifkdiaaGB
import Derived.Test.YtgomlcfoifkdiaaMan11
import Derived.KernelRfl
namespace Go.Proofs.Ytgomlcfoifkdiaa.G
open Go.RowKit Go.Eng Go.Proofs
set_option linter.unusedVariables false
set_option maxRecDepth 20000
/-! gemot/gemotlaw11.rows -/
noncomputable def gemotlaw11_rows.b1 (x0 : List Int) (v2575 : List D_cut_Log) (v2579 : Int) (v3883 : Int) (v4025 : List (List UInt8)) (v4029 : Int) : Option (((List (List UInt8)) × Int) ⊕ (List (List UInt8))) := cond (decide (v4029 < v3883)) ((term_Number.f (IntKind.u64.wrap (IntKind.i64.wrap ((IntKind.i64.wrap ((100 : Int) * v2579)) + v4029)))).bind fun y4089 => roomM 16 (v4025.length + 1) (some (.inl ((v4025 ++ [y4089]), (IntKind.i64.wrap (v4029 + (1 : Int))))))) (some (.inr v4025))
noncomputable def gemotlaw11_rows.k2 (x0 : List Int) (v2579 : Int) (v3864 : List D_cut_Log) : Option (((List D_cut_Log) × Int) ⊕ (List D_cut_Log)) := some (.inl (v3864, (IntKind.i64.wrap (v2579 + (1 : Int)))))
noncomputable def gemotlaw11_rows.k3 (x0 : List Int) (v2575 : List D_cut_Log) (v2579 : Int) (v3883 : Int) (v4000 : List (List UInt8)) : Option (((List D_cut_Log) × Int) ⊕ (List D_cut_Log)) := cond (decide (v3883 > (0 : Int))) (roomM 32 (v2575.length + 1) (gemotlaw11_rows.k2 x0 v2579 (v2575 ++ [(v2579, v4000)]))) (gemotlaw11_rows.k2 x0 v2579 v2575)
noncomputable def gemotlaw11_rows.k4 (x0 : List Int) (v2575 : List D_cut_Log) (v2579 : Int) (v3883 : Int) : Option (((List D_cut_Log) × Int) ⊕ (List D_cut_Log)) := (loopM (fun s4085 : (List (List UInt8)) × Int => gemotlaw11_rows.b1 x0 v2575 v2579 v3883 s4085.1 s4085.2) (([] : List (List UInt8)), (0 : Int))).bind (fun (o4083 : (List (List UInt8))) => gemotlaw11_rows.k3 x0 v2575 v2579 v3883 o4083)
noncomputable def gemotlaw11_rows.b5 (x0 : List Int) (v2575 : List D_cut_Log) (v2579 : Int) : Option (((List D_cut_Log) × Int) ⊕ (List D_cut_Log)) := cond (decide (v2579 ≤ (3 : Int))) (cond (decide (v2579 ≤ (x0.length : Int))) ((idxL x0 (IntKind.i64.wrap (v2579 - (1 : Int)))).bind fun y3887 => (gemotlaw11_pick.f y3887 (6 : Int)).bind fun y3893 => gemotlaw11_rows.k4 x0 v2575 v2579 y3893) (gemotlaw11_rows.k4 x0 v2575 v2579 (0 : Int))) (some (.inr v2575))
noncomputable def gemotlaw11_rows.k6 (v2060 : List D_cut_Log) : Option ((List D_cut_Log)) := some v2060
noncomputable def gemotlaw11_rows.f (x0 : List Int) : Option ((List D_cut_Log)) := (loopM (fun s3611 : (List D_cut_Log) × Int => gemotlaw11_rows.b5 x0 s3611.1 s3611.2) (([] : List D_cut_Log), (1 : Int))).bind (fun (o3609 : (List D_cut_Log)) => gemotlaw11_rows.k6 o3609)
set_option maxHeartbeats 4000000 in
theorem gemotlaw11_rows_ok {ok : Nat → Prop} {w : World} {u1 : Value} {x0 : List Int} {r : (List D_cut_Log)} (hu2 : slR (tInt .i64) w ok u1 x0) (h : gemotlaw11_rows.f x0 = some r) :
    Calls Try.prog 26 #[u1] w fun e w' => ∃ v, e = .returned v ∧ (rowOut w w' ok t_cut_Log 58 v r ∧ Bel w.heap.size w w') := by
  have H : Eng.Own ok w w [] := Eng.Own.nil ok w
  obtain ⟨A3, c4, rfl, H⟩ := H.arg rfl hu2
  unfold gemotlaw11_rows.f at h
  refine enterN (args := [.slice A3 x0.length c4]) Try.func26 rfl Try.ntmps26 rfl rfl ?_
  refine nc_seq ?_
  refine nc ?_
  refine nc_seq ?_
  refine nc ?_
  refine nc_cut (fun e w2064 => ∃ (A2061 : Option Addr) (c2062 : Nat) (cs2063 : List Value) (v2060 : List D_cut_Log), gemotlaw11_rows.k6 v2060 = some r ∧ e = [(3, .slice A2061 v2060.length c2062)] ∧ Eng.Own ok w w2064 [.dat (dRows t_cut_Log v2060 cs2063), .row (.slice A2061 v2060.length c2062) 58 2 v2060.length cs2063]) ?_ ?_
  · skip
    refine nc_seq ?_
    refine nc ?_
    refine nc_block ?_
    replace H := H.nilRowD t_cut_Log 58
    obtain ⟨o3601, hL3602, hO3603⟩ := bindS h
    obtain ⟨n3604, hL3602⟩ := loopS hL3602
    refine nc ?_
    refine loop_ruleA (fun k e w3608 => ∃ (A2576 : Option Addr) (c2577 : Nat) (cs2578 : List Value) (v2575 : List D_cut_Log) (v2579 : Int), iterM (fun s3611 : (List D_cut_Log) × Int => gemotlaw11_rows.b5 x0 s3611.1 s3611.2) k (v2575, v2579) = some o3601 ∧ e = [(0, .slice A3 x0.length c4), (3, .slice A2576 v2575.length c2577), (4, .int .i64 v2579)] ∧ Eng.Own ok w w3608 [.dat (dSl (tInt .i64) (.slice A3 x0.length c4) x0), .dat (dRows t_cut_Log v2575 cs2578), .row (.slice A2576 v2575.length c2577) 58 2 v2575.length cs2578]) ⟨none, 0, [], _, _, hL3602, rfl, H.pickL [2, 0, 1] rfl⟩ ?_
    rintro k3613 _ w3612 ⟨A2576, c2577, cs2578, v2575, v2579, hL3602, rfl, H⟩
    obtain ⟨k3607, rfl, q3605, h, hq3606⟩ := iterS hL3602
    replace h : gemotlaw11_rows.b5 x0 v2575 v2579 = some q3605 := h
    unfold gemotlaw11_rows.b5 at h
    refine nc_seq ?_
    refine nc_seq ?_
    refine nc ?_
    refine nc_cond rfl (fun hc3614 => ?_) (fun hc3614 => ?_)
    · replace h := condT hc3614 h
      refine nc ?_
      refine nc_cut (fun e w3868 => ∃ (A3865 : Option Addr) (c3866 : Nat) (cs3867 : List Value) (v3864 : List D_cut_Log), gemotlaw11_rows.k2 x0 v2579 v3864 = some q3605 ∧ e = [(0, .slice A3 x0.length c4), (3, .slice A3865 v3864.length c3866), (4, .int .i64 v2579)] ∧ Eng.Own ok w w3868 [.dat (dSl (tInt .i64) (.slice A3 x0.length c4) x0), .dat (dRows t_cut_Log v3864 cs3867), .row (.slice A3865 v3864.length c3866) 58 2 v3864.length cs3867]) ?_ ?_
      · skip
        refine nc_block ?_
        refine nc_seq ?_
        refine nc ?_
        refine nc_cut (fun e w3884 => ∃ (v3883 : Int), gemotlaw11_rows.k4 x0 v2575 v2579 v3883 = some q3605 ∧ e = [(0, .slice A3 x0.length c4), (3, .slice A2576 v2575.length c2577), (4, .int .i64 v2579), (5, .int .i64 v3883)] ∧ Eng.Own ok w w3884 [.dat (dSl (tInt .i64) (.slice A3 x0.length c4) x0), .dat (dRows t_cut_Log v2575 cs2578), .row (.slice A2576 v2575.length c2577) 58 2 v2575.length cs2578]) ?_ ?_
        · skip
          refine nc_seq ?_
          refine nc ?_
          refine nc_cond rfl (fun hc3886 => ?_) (fun hc3886 => ?_)
          · replace h := condT hc3886 h
            refine nc ?_
            obtain ⟨y3887, hx3888, h⟩ := bindS h
            obtain ⟨a3889, cs3890, rfl, hR3891, H⟩ := H.elemI 0 rfl hx3888
            obtain rfl : cs3890 = [.int .i64 y3887] := hR3891
            refine idxA_rule (e := 3) 1 _ (by kernel_rfl) (by kernel_rfl) (idxL_some hx3888).1 (idxL_some hx3888).2.1 ?_
            refine own_loadD H 0 rfl 0 (by kernel_rfl) rfl ?_
            obtain ⟨y3893, hy3894, h⟩ := bindS h
            refine call_rule (by kernel_rfl) (gemotlaw11_pick_ok (ok := fun _ => False) hy3894) fun v3896 w3895 ⟨hv3897, hb3898⟩ => ?_
            subst hv3897
            replace H := H.call hb3898
            exact cut_inA ⟨_, h, rfl, H.pickL [1, 2, 3] rfl⟩
          · replace h := condF hc3886 h
            refine nc ?_
            exact cut_inA ⟨_, h, rfl, H.pickL [0, 1, 2] rfl⟩
        · rintro _ w3899 ⟨v3883, h, rfl, H⟩
          unfold gemotlaw11_rows.k4 at h
          refine nc_seq ?_
          refine nc ?_
          refine nc_cut (fun e w4004 => ∃ (A4001 : Option Addr) (c4002 : Nat) (cs4003 : List Value) (v4000 : List (List UInt8)), gemotlaw11_rows.k3 x0 v2575 v2579 v3883 v4000 = some q3605 ∧ e = [(0, .slice A3 x0.length c4), (3, .slice A2576 v2575.length c2577), (4, .int .i64 v2579), (5, .int .i64 v3883), (6, .slice A4001 v4000.length c4002)] ∧ Eng.Own ok w w4004 [.dat (dSl (tInt .i64) (.slice A3 x0.length c4) x0), .dat (dRows t_cut_Log v2575 cs2578), .row (.slice A2576 v2575.length c2577) 58 2 v2575.length cs2578, .dat (dRows tStr v4000 cs4003), .row (.slice A4001 v4000.length c4002) 62 1 v4000.length cs4003]) ?_ ?_
          · skip
            refine nc_seq ?_
            refine nc ?_
            refine nc_block ?_
            replace H := H.nilRowD tStr 62
            obtain ⟨o4075, hL4076, hO4077⟩ := bindS h
            obtain ⟨n4078, hL4076⟩ := loopS hL4076
            refine nc ?_
            refine loop_ruleA (fun k e w4082 => ∃ (A4026 : Option Addr) (c4027 : Nat) (cs4028 : List Value) (v4025 : List (List UInt8)) (v4029 : Int), iterM (fun s4085 : (List (List UInt8)) × Int => gemotlaw11_rows.b1 x0 v2575 v2579 v3883 s4085.1 s4085.2) k (v4025, v4029) = some o4075 ∧ e = [(0, .slice A3 x0.length c4), (3, .slice A2576 v2575.length c2577), (4, .int .i64 v2579), (5, .int .i64 v3883), (6, .slice A4026 v4025.length c4027), (7, .int .i64 v4029)] ∧ Eng.Own ok w w4082 [.dat (dSl (tInt .i64) (.slice A3 x0.length c4) x0), .dat (dRows t_cut_Log v2575 cs2578), .row (.slice A2576 v2575.length c2577) 58 2 v2575.length cs2578, .dat (dRows tStr v4025 cs4028), .row (.slice A4026 v4025.length c4027) 62 1 v4025.length cs4028]) ⟨none, 0, [], _, _, hL4076, rfl, H.pickL [2, 3, 4, 0, 1] rfl⟩ ?_
            rintro k4087 _ w4086 ⟨A4026, c4027, cs4028, v4025, v4029, hL4076, rfl, H⟩
            obtain ⟨k4081, rfl, q4079, h, hq4080⟩ := iterS hL4076
            replace h : gemotlaw11_rows.b1 x0 v2575 v2579 v3883 v4025 v4029 = some q4079 := h
            unfold gemotlaw11_rows.b1 at h
            refine nc_seq ?_
            refine nc_seq ?_
            refine nc ?_
            refine nc_cond rfl (fun hc4088 => ?_) (fun hc4088 => ?_)
            · replace h := condT hc4088 h
              refine nc ?_
              refine nc_seq ?_
              refine nc_block ?_
              refine nc ?_
              obtain ⟨y4089, hy4090, h⟩ := bindS h
              refine call_rule (by kernel_rfl) (term_Number_ok hy4090) fun v4092 w4091 ⟨hv4093, hb4094⟩ => ?_
              subst hv4093
              replace H := H.call hb4094
              refine own_buildSlice (e := 62) (sz := 1) (z := .string ⟨#[]⟩) (cs := [.string (bs y4089)]) H (by kernel_rfl) (by kernel_rfl) (by kernel_rfl) rfl rfl rfl rfl fun g4096 w4097 H => ?_
              obtain ⟨hr4098, h⟩ := roomS h
              refine own_append1 (k := tStr) (z := .string ⟨#[]⟩) (x := y4089) 16 H 4 3 rfl rfl rfl rfl (by kernel_rfl) (by kernel_rfl) rfl rfl hr4098 rfl fun z4099 cs4100 w4101 H => ?_
              obtain ⟨A4102, c4103, rfl, _, _⟩ := H.rowSl 4 rfl
              refine nc ?_
              cases h
              exact again_inA ⟨A4102, c4103, cs4100, _, _, hq4080, rfl, H.pickL [0, 1, 2, 3, 4] rfl⟩
            · replace h := condF hc4088 h
              refine nc ?_
              cases h
              replace hq4080 : v4025 = o4075 := hq4080
              subst hq4080
              have h := hO4077
              try dsimp only [Sum.elim_inl, Sum.elim_inr] at h
              exact cut_inA ⟨A4026, c4027, cs4028, _, h, rfl, H.pickL [0, 1, 2, 3, 4] rfl⟩
          · rintro _ w4105 ⟨A4001, c4002, cs4003, v4000, h, rfl, H⟩
            unfold gemotlaw11_rows.k3 at h
            refine nc_seq ?_
            refine nc ?_
            refine nc_cond rfl (fun hc4106 => ?_) (fun hc4106 => ?_)
            · replace h := condT hc4106 h
              refine nc ?_
              replace H := H.freeze (k := tStr) 4 3 rfl rfl
              refine own_buildSlice (e := 58) (sz := 2) (z := .agg #[.int .i64 0, .slice none 0 0]) (cs := [.int .i64 v2579, .slice A4001 v4000.length c4002]) H (by kernel_rfl) (by kernel_rfl) (by kernel_rfl) rfl rfl rfl rfl fun g4109 w4110 H => ?_
              obtain ⟨hr4111, h⟩ := roomS h
              refine own_append1 (k := t_cut_Log) (z := .agg #[.int .i64 0, .slice none 0 0]) (x := (v2579, v4000)) 32 H 2 1 rfl rfl rfl (cut_Log_in (x := (v2579, v4000)) (H.dat 5 rfl)) (by kernel_rfl) (by kernel_rfl) rfl rfl hr4111 rfl fun z4112 cs4113 w4114 H => ?_
              obtain ⟨A4115, c4116, rfl, _, _⟩ := H.rowSl 2 rfl
              exact cut_inA ⟨A4115, c4116, cs4113, _, h, rfl, H.pickL [0, 1, 2] rfl⟩
            · replace h := condF hc4106 h
              refine nc ?_
              exact cut_inA ⟨A2576, c2577, cs2578, _, h, rfl, H.pickL [0, 1, 2] rfl⟩
      · rintro _ w4118 ⟨A3865, c3866, cs3867, v3864, h, rfl, H⟩
        unfold gemotlaw11_rows.k2 at h
        refine nc ?_
        cases h
        exact again_inA ⟨A3865, c3866, cs3867, _, _, hq3606, rfl, H.pickL [0, 1, 2] rfl⟩
    · replace h := condF hc3614 h
      refine nc ?_
      cases h
      replace hq3606 : v2575 = o3601 := hq3606
      subst hq3606
      have h := hO3603
      try dsimp only [Sum.elim_inl, Sum.elim_inr] at h
      exact cut_inA ⟨A2576, c2577, cs2578, _, h, rfl, H.pickL [1, 2] rfl⟩
  · rintro _ w4119 ⟨A2061, c2062, cs2063, v2060, h, rfl, H⟩
    unfold gemotlaw11_rows.k6 at h
    refine nc_seq ?_
    refine nc ?_
    refine nc ?_
    replace h := Option.some.inj h
    subst h
    exact ret_inA [.slice A2061 v2060.length c2062] ⟨_, rfl, ⟨H.outR 1 0 rfl rfl rfl, H.frame⟩⟩
/-! gemot/gemotlaw11.shown -/
noncomputable def gemotlaw11_shown.k1 (v101 : Bool) : Option (Bool) := some v101
noncomputable def gemotlaw11_shown.f : Option (Bool) := (cut_Cut.f ([((1 : Int), ((0 : Int), (0 : Int)), ([((1 : Int), ([[103]] : List (List UInt8)))] : List D_cut_Log)), ((2 : Int), ((0 : Int), (0 : Int)), ([((1 : Int), ([[103], [104, 103]] : List (List UInt8)))] : List D_cut_Log)), ((3 : Int), ((0 : Int), (0 : Int)), ([] : List D_cut_Log))] : List D_cut_Report)).bind fun y21 => (cut_Missing.f y21 ((0 : Int), (0 : Int)) ([((1 : Int), ([[103]] : List (List UInt8)))] : List D_cut_Log)).bind fun y33 => cond ((y21.length : Int) == (1 : Int)) ((idxL y21 (0 : Int)).bind fun y105 => cond (y105.2.1 == (1 : Int)) ((idxL y21 (0 : Int)).bind fun y117 => (gemotlaw11_same.f y117.2.2 ([[103], [104, 103]] : List (List UInt8))).bind fun y132 => cond (cond (cond (cond ((y21.length : Int) == (1 : Int)) (y105.2.1 == (1 : Int)) false) y132 false) ((y33.length : Int) == (1 : Int)) false) ((idxL y33 (0 : Int)).bind fun y139 => (gemotlaw11_same.f y139.2 ([[104, 103]] : List (List UInt8))).bind fun y154 => gemotlaw11_shown.k1 (cond (cond (cond (cond ((y21.length : Int) == (1 : Int)) (y105.2.1 == (1 : Int)) false) y132 false) ((y33.length : Int) == (1 : Int)) false) y154 false)) (gemotlaw11_shown.k1 (cond (cond (cond (cond ((y21.length : Int) == (1 : Int)) (y105.2.1 == (1 : Int)) false) y132 false) ((y33.length : Int) == (1 : Int)) false) false false))) (gemotlaw11_shown.k1 (cond (cond (cond (cond ((y21.length : Int) == (1 : Int)) (y105.2.1 == (1 : Int)) false) false false) ((y33.length : Int) == (1 : Int)) false) false false))) (gemotlaw11_shown.k1 (cond (cond (cond (cond ((y21.length : Int) == (1 : Int)) ((0 : Int) == (1 : Int)) false) false false) ((y33.length : Int) == (1 : Int)) false) false false))
set_option maxHeartbeats 4000000 in
theorem gemotlaw11_shown_ok {ok : Nat → Prop} {w : World} {r : Bool} (h : gemotlaw11_shown.f = some r) :
    Calls Try.prog 12 #[] w fun e w' => ∃ v, e = .returned v ∧ (v = .bool r ∧ Bel w.heap.size w w') := by
  have H : Eng.Own ok w w [] := Eng.Own.nil ok w
  unfold gemotlaw11_shown.f at h
  refine enterN (args := []) Try.func12 rfl Try.ntmps12 rfl rfl ?_
  refine nc_seq ?_
  refine nc ?_
  refine nc_seq ?_
  refine nc ?_
  refine own_buildSlice (e := 62) (sz := 1) (z := .string ⟨#[]⟩) (cs := [.string (bs [103])]) H (by kernel_rfl) (by kernel_rfl) (by kernel_rfl) rfl rfl rfl rfl fun g2 w3 H => ?_
  replace H := H.blkSl (k := tStr) [[103]] 1 rfl rfl (by decide) ⟨_, _, rfl, rfl, rfl⟩
  refine own_buildSlice (e := 58) (sz := 2) (z := .agg #[.int .i64 0, .slice none 0 0]) (cs := [.int .i64 1, .slice (some ⟨g2, 0, none⟩) ([[103]] : List (List UInt8)).length 1]) H (by kernel_rfl) (by kernel_rfl) (by kernel_rfl) rfl rfl rfl rfl fun g6 w7 H => ?_
  replace H := H.blkSl (k := t_cut_Log) [((1 : Int), ([[103]] : List (List UInt8)))] 1 rfl rfl (by decide) ⟨_, _, rfl, (cut_Log_in (x := ((1 : Int), ([[103]] : List (List UInt8)))) (H.dat 1 rfl)), rfl⟩
  refine nc_seq ?_
  refine nc ?_
  refine own_buildSlice (e := 62) (sz := 1) (z := .string ⟨#[]⟩) (cs := [.string (bs [103]), .string (bs [104, 103])]) H (by kernel_rfl) (by kernel_rfl) (by kernel_rfl) rfl rfl rfl rfl fun g10 w11 H => ?_
  replace H := H.blkSl (k := tStr) [[103], [104, 103]] 2 rfl rfl (by decide) ⟨_, _, rfl, rfl, ⟨_, _, rfl, rfl, rfl⟩⟩
  refine own_buildSlice (e := 58) (sz := 2) (z := .agg #[.int .i64 0, .slice none 0 0]) (cs := [.int .i64 1, .slice (some ⟨g10, 0, none⟩) ([[103], [104, 103]] : List (List UInt8)).length 2]) H (by kernel_rfl) (by kernel_rfl) (by kernel_rfl) rfl rfl rfl rfl fun g14 w15 H => ?_
  replace H := H.blkSl (k := t_cut_Log) [((1 : Int), ([[103], [104, 103]] : List (List UInt8)))] 1 rfl rfl (by decide) ⟨_, _, rfl, (cut_Log_in (x := ((1 : Int), ([[103], [104, 103]] : List (List UInt8)))) (H.dat 1 rfl)), rfl⟩
  refine nc_seq ?_
  refine nc ?_
  refine own_buildSlice (e := 55) (sz := 4) (z := .agg #[.int .i64 0, .int .i64 0, .int .i64 0, .slice none 0 0]) (cs := [.int .i64 1, .int .i64 0, .int .i64 0, .slice (some ⟨g6, 0, none⟩) ([((1 : Int), ([[103]] : List (List UInt8)))] : List D_cut_Log).length 1, .int .i64 2, .int .i64 0, .int .i64 0, .slice (some ⟨g14, 0, none⟩) ([((1 : Int), ([[103], [104, 103]] : List (List UInt8)))] : List D_cut_Log).length 1, .int .i64 3, .int .i64 0, .int .i64 0, .slice none 0 0]) H (by kernel_rfl) (by kernel_rfl) (by kernel_rfl) rfl rfl rfl rfl fun g18 w19 H => ?_
  replace H := H.blkSl (k := t_cut_Report) [((1 : Int), ((0 : Int), (0 : Int)), ([((1 : Int), ([[103]] : List (List UInt8)))] : List D_cut_Log)), ((2 : Int), ((0 : Int), (0 : Int)), ([((1 : Int), ([[103], [104, 103]] : List (List UInt8)))] : List D_cut_Log)), ((3 : Int), ((0 : Int), (0 : Int)), ([] : List D_cut_Log))] 3 rfl rfl (by decide) ⟨_, _, rfl, (cut_Report_in (x := ((1 : Int), ((0 : Int), (0 : Int)), ([((1 : Int), ([[103]] : List (List UInt8)))] : List D_cut_Log))) (H.dat 3 rfl)), ⟨_, _, rfl, (cut_Report_in (x := ((2 : Int), ((0 : Int), (0 : Int)), ([((1 : Int), ([[103], [104, 103]] : List (List UInt8)))] : List D_cut_Log))) (H.dat 1 rfl)), ⟨_, _, rfl, (cut_Report_in (x := ((3 : Int), ((0 : Int), (0 : Int)), ([] : List D_cut_Log))) nilR), rfl⟩⟩⟩
  obtain ⟨y21, hy22, h⟩ := bindS h
  refine call_rule (by kernel_rfl) (cut_Cut_ok (H.dat 0 rfl) hy22) fun u27 w23 ⟨hu28, hb26⟩ => ?_
  replace H := H.callDats hb26 [dSl t_cut_Part u27 y21] ⟨hu28, trivial⟩
  obtain ⟨A29, c30, hA31, _⟩ := H.sl 0 rfl
  subst hA31
  refine nc_seq ?_
  refine nc ?_
  obtain ⟨y33, hy34, h⟩ := bindS h
  refine call_rule (by kernel_rfl) (cut_Missing_ok (x1 := ((0 : Int), (0 : Int))) (H.dat 0 rfl) (H.dat 4 rfl) hy34) fun u39 w35 ⟨hu40, hb38⟩ => ?_
  replace H := H.callDats hb38 [dSl t_cut_Log u39 y33] ⟨hu40, trivial⟩
  obtain ⟨A41, c42, hA43, _⟩ := H.sl 0 rfl
  subst hA43
  refine nc_cut (fun e w102 => ∃ (v101 : Bool), gemotlaw11_shown.k1 v101 = some r ∧ e = [(0, .bool v101)] ∧ Eng.Own ok w w102 []) ?_ ?_
  · skip
    refine nc ?_
    rcases Bool.eq_false_or_eq_true ((y21.length : Int) == (1 : Int)) with hg104 | hg104
    · replace h := condT hg104 h
      obtain ⟨y105, hx106, h⟩ := bindS h
      obtain ⟨a107, cs108, rfl, hR109, H⟩ := H.elemI 1 rfl hx106
      obtain ⟨u111, rfl, hu112⟩ := cut_Part_cells hR109
      obtain ⟨A113, c114, rfl, H⟩ := H.openD hu112
      refine idxA_rule (e := 37) 4 _ (by kernel_rfl) (by kernel_rfl) (idxL_some hx106).1 (idxL_some hx106).2.1 ?_
      refine own_loadD H 1 rfl 2 (by kernel_rfl) rfl ?_
      rcases Bool.eq_false_or_eq_true (y105.2.1 == (1 : Int)) with hg116 | hg116
      · replace h := condT hg116 h
        obtain ⟨y117, hx118, h⟩ := bindS h
        obtain ⟨cs120, hR121, H⟩ := H.elemJ 3 rfl hx118
        obtain ⟨u123, rfl, hu124⟩ := cut_Part_cells hR121
        obtain ⟨A125, c126, rfl, H⟩ := H.openD hu124
        refine idxA_rule (e := 37) 4 _ (by kernel_rfl) (by kernel_rfl) (idxL_some hx118).1 (idxL_some hx118).2.1 ?_
        refine own_loadD H 1 rfl 3 (by kernel_rfl) rfl ?_
        refine gBS (gT1 ((pickT hg104).trans hg116) rfl) ?_
        refine own_buildSlice (e := 9) (sz := 1) (z := .string ⟨#[]⟩) (cs := [.string (bs [103]), .string (bs [104, 103])]) H (by kernel_rfl) (by kernel_rfl) (by kernel_rfl) rfl rfl rfl rfl fun g129 w130 H => ?_
        replace H := H.blkSl (k := tStr) [[103], [104, 103]] 2 rfl rfl (by decide) ⟨_, _, rfl, rfl, ⟨_, _, rfl, rfl, rfl⟩⟩
        obtain ⟨y132, hy133, h⟩ := bindS h
        refine call_yes (gT1 ((pickT hg104).trans hg116) rfl) (by kernel_rfl) (gemotlaw11_same_ok (H.dat 1 rfl) (H.dat 0 rfl) hy133) fun v135 w134 ⟨hv136, hb137⟩ => ?_
        subst hv136
        replace H := H.call hb137
        rcases Bool.eq_false_or_eq_true (cond (cond (cond ((y21.length : Int) == (1 : Int)) (y105.2.1 == (1 : Int)) false) y132 false) ((y33.length : Int) == (1 : Int)) false) with hg138 | hg138
        · replace h := condT hg138 h
          obtain ⟨y139, hx140, h⟩ := bindS h
          obtain ⟨a141, cs142, rfl, hR143, H⟩ := H.elemI 5 rfl hx140
          obtain ⟨u145, rfl, hu146⟩ := cut_Log_cells hR143
          obtain ⟨A147, c148, rfl, H⟩ := H.openD hu146
          refine idxA_rule (e := 58) 2 _ (by kernel_rfl) (by kernel_rfl) (idxL_some hx140).1 (idxL_some hx140).2.1 ?_
          refine own_loadD H 1 rfl 1 (by kernel_rfl) rfl ?_
          refine gBS (gT1 hg138 rfl) ?_
          refine own_buildSlice (e := 9) (sz := 1) (z := .string ⟨#[]⟩) (cs := [.string (bs [104, 103])]) H (by kernel_rfl) (by kernel_rfl) (by kernel_rfl) rfl rfl rfl rfl fun g151 w152 H => ?_
          replace H := H.blkSl (k := tStr) [[104, 103]] 1 rfl rfl (by decide) ⟨_, _, rfl, rfl, rfl⟩
          obtain ⟨y154, hy155, h⟩ := bindS h
          refine call_yes (gT1 hg138 rfl) (by kernel_rfl) (gemotlaw11_same_ok (H.dat 1 rfl) (H.dat 0 rfl) hy155) fun v157 w156 ⟨hv158, hb159⟩ => ?_
          subst hv158
          replace H := H.call hb159
          exact cut_inA ⟨_, h, rfl, H.pickL [] rfl⟩
        · replace h := condF hg138 h
          refine skipIA (.pointer (some ⟨0, 0, none⟩)) (gF1 hg138) ?_
          refine skipLD (.slice none 0 0) (gF1 hg138) ?_
          refine skipBS (.slice none 0 0) (gF1 hg138) ?_
          refine call_skip (.bool false) (gF1 hg138) ?_
          exact cut_inA ⟨_, h, rfl, H.pickL [] rfl⟩
      · replace h := condF hg116 h
        refine skipIA (.pointer (some ⟨0, 0, none⟩)) (gF1 ((pickT hg104).trans hg116)) ?_
        refine skipLD (.slice none 0 0) (gF1 ((pickT hg104).trans hg116)) ?_
        refine skipBS (.slice none 0 0) (gF1 ((pickT hg104).trans hg116)) ?_
        refine call_skip (.bool false) (gF1 ((pickT hg104).trans hg116)) ?_
        refine skipIA (.pointer (some ⟨0, 0, none⟩)) (gF1 (pickF (pickF ((pickT hg104).trans hg116)))) ?_
        refine skipLD (.slice none 0 0) (gF1 (pickF (pickF ((pickT hg104).trans hg116)))) ?_
        refine skipBS (.slice none 0 0) (gF1 (pickF (pickF ((pickT hg104).trans hg116)))) ?_
        refine call_skip (.bool false) (gF1 (pickF (pickF ((pickT hg104).trans hg116)))) ?_
        exact cut_inA ⟨_, h, rfl, H.pickL [] rfl⟩
    · replace h := condF hg104 h
      refine skipIA (.pointer (some ⟨0, 0, none⟩)) (gF1 hg104) ?_
      refine skipLD (.int .i64 0) (gF1 hg104) ?_
      refine skipIA (.pointer (some ⟨0, 0, none⟩)) (gF1 (pickF hg104)) ?_
      refine skipLD (.slice none 0 0) (gF1 (pickF hg104)) ?_
      refine skipBS (.slice none 0 0) (gF1 (pickF hg104)) ?_
      refine call_skip (.bool false) (gF1 (pickF hg104)) ?_
      refine skipIA (.pointer (some ⟨0, 0, none⟩)) (gF1 (pickF (pickF (pickF hg104)))) ?_
      refine skipLD (.slice none 0 0) (gF1 (pickF (pickF (pickF hg104)))) ?_
      refine skipBS (.slice none 0 0) (gF1 (pickF (pickF (pickF hg104)))) ?_
      refine call_skip (.bool false) (gF1 (pickF (pickF (pickF hg104)))) ?_
      exact cut_inA ⟨_, h, rfl, H.pickL [] rfl⟩
  · rintro _ w160 ⟨v101, h, rfl, H⟩
    unfold gemotlaw11_shown.k1 at h
    refine nc ?_
    replace h := Option.some.inj h
    subst h
    exact ret_inA [.bool v101] ⟨_, rfl, ⟨rfl, H.frame⟩⟩
/-! gemot/gemotlaw11.CutOwn -/
noncomputable def gemotlaw11_CutOwn.k1 (y13 : Int) (y23 : (List D_cut_Log)) (y40 : (List D_cut_Part)) (y166 : (List D_cut_Log)) (v2231 : Int) (v3363 : Bool) : Option (Int ⊕ (Unit ⊕ Bool)) := cond v3363 (some (.inr (Sum.inr false))) (some (.inl (IntKind.i64.wrap (v2231 + (1 : Int)))))
noncomputable def gemotlaw11_CutOwn.b2 (y13 : Int) (y23 : (List D_cut_Log)) (y40 : (List D_cut_Part)) (y166 : (List D_cut_Log)) (v2231 : Int) : Option (Int ⊕ (Unit ⊕ Bool)) := cond (decide (v2231 < (y166.length : Int))) ((idxL y166 v2231).bind fun y3366 => (idxL y23 v2231).bind fun y3377 => cond (y3366.1 != y3377.1) (gemotlaw11_CutOwn.k1 y13 y23 y40 y166 v2231 (cond (cond (cond (y3366.1 != y3377.1) true (!false)) true ((0 : Int) != (0 : Int))) true false)) ((idxL y166 v2231).bind fun y3390 => (idxL y23 v2231).bind fun y3401 => (gemotlaw11_texts.f y3401.2).bind fun y3412 => (gemotlaw11_same.f y3390.2 y3412).bind fun y3421 => cond (!y3421) (gemotlaw11_CutOwn.k1 y13 y23 y40 y166 v2231 (cond (cond (cond (y3366.1 != y3377.1) true (!y3421)) true ((0 : Int) != (0 : Int))) true false)) ((idxL y40 v2231).bind fun y3429 => (idxL y23 v2231).bind fun y3440 => cond (y3429.2.1 != y3440.1) (gemotlaw11_CutOwn.k1 y13 y23 y40 y166 v2231 (cond (cond (cond (y3366.1 != y3377.1) true (!y3421)) true (y3429.2.1 != y3440.1)) true false)) ((idxL y40 v2231).bind fun y3453 => gemotlaw11_CutOwn.k1 y13 y23 y40 y166 v2231 (cond (cond (cond (y3366.1 != y3377.1) true (!y3421)) true (y3429.2.1 != y3440.1)) true (!((y3453.1.1 == y13) && (y3453.1.2 == (1 : Int))))))))) (some (.inr (Sum.inl ())))
noncomputable def gemotlaw11_CutOwn.k3 : Option (Bool) := some true
noncomputable def gemotlaw11_CutOwn.k4 (y13 : Int) (y23 : (List D_cut_Log)) (y40 : (List D_cut_Part)) (v135 : Bool) : Option (Bool) := cond v135 (some false) ((cut_Missing.f y40 (y13, (1 : Int)) ([] : List D_cut_Log)).bind fun y166 => cond ((y166.length : Int) != (y23.length : Int)) (some false) ((loopM (fun s3057 : Int => gemotlaw11_CutOwn.b2 y13 y23 y40 y166 s3057) (0 : Int)).bind (Sum.elim (fun (o3055 : Unit) => gemotlaw11_CutOwn.k3) (fun (o3056 : Bool) => some o3056))))
noncomputable def gemotlaw11_CutOwn.f (x0 : List Int) (x1 : Int) : Option (Bool) := (gemotlaw11_shown.f).bind fun y6 => cond (cond (!y6) true (decide ((x0.length : Int) > (20 : Int)))) (some y6) ((gemotlaw11_pick.f x1 (100 : Int)).bind fun y13 => (gemotlaw11_rows.f x0).bind fun y23 => (cut_Cut.f ([((2 : Int), (y13, (1 : Int)), y23)] : List D_cut_Report)).bind fun y40 => cond ((y40.length : Int) != (y23.length : Int)) (gemotlaw11_CutOwn.k4 y13 y23 y40 (cond (cond ((y40.length : Int) != (y23.length : Int)) true ((0 : Int) != (0 : Int))) true ((0 : Int) != (0 : Int)))) ((cut_Missing.f y40 (y13, (1 : Int)) y23).bind fun y139 => cond ((y139.length : Int) != (0 : Int)) (gemotlaw11_CutOwn.k4 y13 y23 y40 (cond (cond ((y40.length : Int) != (y23.length : Int)) true ((y139.length : Int) != (0 : Int))) true ((0 : Int) != (0 : Int)))) ((cut_Missing.f y40 (y13, (2 : Int)) ([] : List D_cut_Log)).bind fun y152 => gemotlaw11_CutOwn.k4 y13 y23 y40 (cond (cond ((y40.length : Int) != (y23.length : Int)) true ((y139.length : Int) != (0 : Int))) true ((y152.length : Int) != (0 : Int))))))
set_option maxHeartbeats 4000000 in
theorem gemotlaw11_CutOwn_ok {ok : Nat → Prop} {w : World} {u1 : Value} {x0 : List Int} {x1 : Int} {r : Bool} (hu2 : slR (tInt .i64) w ok u1 x0) (h : gemotlaw11_CutOwn.f x0 x1 = some r) :
    Calls Try.prog 5 #[u1, .int .i64 x1] w fun e w' => ∃ v, e = .returned v ∧ (v = .bool r ∧ Bel w.heap.size w w') := by
  have H : Eng.Own ok w w [] := Eng.Own.nil ok w
  obtain ⟨A3, c4, rfl, H⟩ := H.arg rfl hu2
  unfold gemotlaw11_CutOwn.f at h
  refine enterN (args := [.slice A3 x0.length c4, .int .i64 x1]) Try.func5 rfl Try.ntmps5 rfl rfl ?_
  refine nc_seq ?_
  refine nc ?_
  refine nc_seq ?_
  refine nc ?_
  obtain ⟨y6, hy7, h⟩ := bindS h
  refine call_rule (by kernel_rfl) (gemotlaw11_shown_ok (ok := fun _ => False) hy7) fun v9 w8 ⟨hv10, hb11⟩ => ?_
  subst hv10
  replace H := H.call hb11
  refine nc_seq ?_
  refine nc_seq ?_
  refine nc ?_
  refine nc_cond rfl (fun hc12 => ?_) (fun hc12 => ?_)
  · replace h := condT hc12 h
    refine nc_seq ?_
    refine nc ?_
    refine nc ?_
    replace h := Option.some.inj h
    subst h
    exact ret_inA [.bool y6] ⟨_, rfl, ⟨rfl, H.frame⟩⟩
  · replace h := condF hc12 h
    refine nc ?_
    refine nc_seq ?_
    refine nc ?_
    obtain ⟨y13, hy14, h⟩ := bindS h
    refine call_rule (by kernel_rfl) (gemotlaw11_pick_ok (ok := fun _ => False) hy14) fun v16 w15 ⟨hv17, hb18⟩ => ?_
    subst hv17
    replace H := H.call hb18
    refine own_alloc (z := .agg #[.int .i64 0, .int .i64 0]) H (by kernel_rfl) [.int .i64 0, .int .i64 0] rfl fun g20 w21 H => ?_
    refine own_storeB (m := 2) H 0 rfl (by kernel_rfl) [.int .i64 y13, .int .i64 1] rfl rfl rfl rfl fun w22 H => ?_
    refine nc_seq ?_
    refine nc ?_
    obtain ⟨y23, hy24, h⟩ := bindS h
    refine call_rule (by kernel_rfl) (gemotlaw11_rows_ok (H.dat 1 rfl) hy24) fun u29 w25 ⟨hu30, hb28⟩ => ?_
    obtain ⟨cs32, H⟩ := H.callRow hb28 hu30
    obtain ⟨A33, c34, rfl, _, _⟩ := H.rowSl 1 rfl
    refine nc_seq ?_
    refine nc ?_
    refine own_loadA (m := 2) H 2 rfl (by kernel_rfl) (by kernel_rfl) [.int .i64 y13, .int .i64 1] rfl rfl ?_
    replace H := H.freeze (k := t_cut_Log) 1 0 rfl rfl
    refine own_buildSlice (e := 55) (sz := 4) (z := .agg #[.int .i64 0, .int .i64 0, .int .i64 0, .slice none 0 0]) (cs := [.int .i64 2, .int .i64 y13, .int .i64 1, .slice A33 y23.length c34]) H (by kernel_rfl) (by kernel_rfl) (by kernel_rfl) rfl rfl rfl rfl fun g37 w38 H => ?_
    replace H := H.blkSl (k := t_cut_Report) [((2 : Int), (y13, (1 : Int)), y23)] 1 rfl rfl (by decide) ⟨_, _, rfl, (cut_Report_in (x := ((2 : Int), (y13, (1 : Int)), y23)) (H.dat 2 rfl)), rfl⟩
    obtain ⟨y40, hy41, h⟩ := bindS h
    refine call_rule (by kernel_rfl) (cut_Cut_ok (H.dat 0 rfl) hy41) fun u46 w42 ⟨hu47, hb45⟩ => ?_
    replace H := H.callDats hb45 [dSl t_cut_Part u46 y40] ⟨hu47, trivial⟩
    obtain ⟨A48, c49, hA50, _⟩ := H.sl 0 rfl
    subst hA50
    refine nc_seq ?_
    refine nc_cut (fun e w136 => ∃ (v135 : Bool), gemotlaw11_CutOwn.k4 y13 y23 y40 v135 = some r ∧ e = [(6, .pointer (some ⟨g20, 0, none⟩)), (7, .slice A33 y23.length c34), (8, .slice A48 y40.length c49), (51, .bool v135)] ∧ Eng.Own ok w w136 [.blk g20 [.int .i64 y13, .int .i64 1] 25, .dat (dSl t_cut_Log (.slice A33 y23.length c34) y23), .dat (dSl t_cut_Part (.slice A48 y40.length c49) y40)]) ?_ ?_
    · skip
      refine nc ?_
      refine own_loadA (m := 2) H 4 rfl (by kernel_rfl) (by kernel_rfl) [.int .i64 y13, .int .i64 1] rfl rfl ?_
      rcases Bool.eq_false_or_eq_true ((y40.length : Int) != (y23.length : Int)) with hg138 | hg138
      · replace h := condT hg138 h
        refine call_skip (.slice none 0 0) (gF0 hg138) ?_
        refine skipLD (.int .i64 0) (gF0 (pickT hg138)) ?_
        refine call_skip (.slice none 0 0) (gF0 (pickT hg138)) ?_
        exact cut_inA ⟨_, h, rfl, H.pickL [4, 3, 0] rfl⟩
      · replace h := condF hg138 h
        obtain ⟨y139, hy140, h⟩ := bindS h
        refine call_yes (gT0 hg138 rfl) (by kernel_rfl) (cut_Missing_ok (x1 := (y13, (1 : Int))) (H.dat 0 rfl) (H.dat 3 rfl) hy140) fun u145 w141 ⟨hu146, hb144⟩ => ?_
        replace H := H.callDats hb144 [dSl t_cut_Log u145 y139] ⟨hu146, trivial⟩
        obtain ⟨A147, c148, hA149, _⟩ := H.sl 0 rfl
        subst hA149
        refine own_load H 5 rfl (by kernel_rfl) (j := 0) rfl ?_
        rcases Bool.eq_false_or_eq_true ((y139.length : Int) != (0 : Int)) with hg151 | hg151
        · replace h := condT hg151 h
          refine call_skip (.slice none 0 0) (gF0 ((pickF hg138).trans hg151)) ?_
          exact cut_inA ⟨_, h, rfl, H.pickL [5, 4, 1] rfl⟩
        · replace h := condF hg151 h
          obtain ⟨y152, hy153, h⟩ := bindS h
          refine call_yes (gT0 ((pickF hg138).trans hg151) rfl) (by kernel_rfl) (cut_Missing_ok (x1 := (y13, (2 : Int))) (H.dat 1 rfl) nilR hy153) fun u158 w154 ⟨hu159, hb157⟩ => ?_
          replace H := H.callDats hb157 [dSl t_cut_Log u158 y152] ⟨hu159, trivial⟩
          obtain ⟨A160, c161, hA162, _⟩ := H.sl 0 rfl
          subst hA162
          exact cut_inA ⟨_, h, rfl, H.pickL [6, 5, 2] rfl⟩
    · rintro _ w164 ⟨v135, h, rfl, H⟩
      unfold gemotlaw11_CutOwn.k4 at h
      refine nc_cond rfl (fun hc165 => ?_) (fun hc165 => ?_)
      · replace h := condT hc165 h
        refine nc_seq ?_
        refine nc ?_
        refine nc ?_
        replace h := Option.some.inj h
        subst h
        exact ret_inA [.bool false] ⟨_, rfl, ⟨rfl, H.frame⟩⟩
      · replace h := condF hc165 h
        refine nc ?_
        refine nc_seq ?_
        refine nc ?_
        refine own_loadA (m := 2) H 0 rfl (by kernel_rfl) (by kernel_rfl) [.int .i64 y13, .int .i64 1] rfl rfl ?_
        obtain ⟨y166, hy167, h⟩ := bindS h
        refine call_rule (by kernel_rfl) (cut_Missing_ok (x1 := (y13, (1 : Int))) (H.dat 2 rfl) nilR hy167) fun u172 w168 ⟨hu173, hb171⟩ => ?_
        replace H := H.callDats hb171 [dSl t_cut_Log u172 y166] ⟨hu173, trivial⟩
        obtain ⟨A174, c175, hA176, _⟩ := H.sl 0 rfl
        subst hA176
        refine nc_seq ?_
        refine nc_seq ?_
        refine nc ?_
        refine nc_cond rfl (fun hc178 => ?_) (fun hc178 => ?_)
        · replace h := condT hc178 h
          refine nc_seq ?_
          refine nc ?_
          refine nc ?_
          replace h := Option.some.inj h
          subst h
          exact ret_inA [.bool false] ⟨_, rfl, ⟨rfl, H.frame⟩⟩
        · replace h := condF hc178 h
          refine nc ?_
          refine nc_cut (fun e w1822 => gemotlaw11_CutOwn.k3 = some r ∧ e = [] ∧ Eng.Own ok w w1822 []) ?_ ?_
          · skip
            refine nc_seq ?_
            refine nc ?_
            refine nc_block ?_
            obtain ⟨o3047, hL3048, hO3049⟩ := bindS h
            obtain ⟨n3050, hL3048⟩ := loopS hL3048
            refine nc ?_
            refine loop_ruleA (fun k e w3054 => ∃ (v2231 : Int), iterM (fun s3057 : Int => gemotlaw11_CutOwn.b2 y13 y23 y40 y166 s3057) k v2231 = some o3047 ∧ e = [(6, .pointer (some ⟨g20, 0, none⟩)), (7, .slice A33 y23.length c34), (8, .slice A48 y40.length c49), (9, .slice A174 y166.length c175), (10, .int .i64 v2231)] ∧ Eng.Own ok w w3054 [.blk g20 [.int .i64 y13, .int .i64 1] 25, .dat (dSl t_cut_Log (.slice A33 y23.length c34) y23), .dat (dSl t_cut_Part (.slice A48 y40.length c49) y40), .dat (dSl t_cut_Log (.slice A174 y166.length c175) y166)]) ⟨_, hL3048, rfl, H.pickL [1, 2, 3, 0] rfl⟩ ?_
            rintro k3059 _ w3058 ⟨v2231, hL3048, rfl, H⟩
            obtain ⟨k3053, rfl, q3051, h, hq3052⟩ := iterS hL3048
            replace h : gemotlaw11_CutOwn.b2 y13 y23 y40 y166 v2231 = some q3051 := h
            unfold gemotlaw11_CutOwn.b2 at h
            refine nc_seq ?_
            refine nc_seq ?_
            refine nc ?_
            refine nc_cond rfl (fun hc3060 => ?_) (fun hc3060 => ?_)
            · replace h := condT hc3060 h
              refine nc ?_
              refine nc_seq ?_
              refine nc_block ?_
              refine nc_cut (fun e w3364 => ∃ (v3363 : Bool), gemotlaw11_CutOwn.k1 y13 y23 y40 y166 v2231 v3363 = some q3051 ∧ e = [(6, .pointer (some ⟨g20, 0, none⟩)), (7, .slice A33 y23.length c34), (8, .slice A48 y40.length c49), (9, .slice A174 y166.length c175), (10, .int .i64 v2231), (113, .bool v3363)] ∧ Eng.Own ok w w3364 [.blk g20 [.int .i64 y13, .int .i64 1] 25, .dat (dSl t_cut_Log (.slice A33 y23.length c34) y23), .dat (dSl t_cut_Part (.slice A48 y40.length c49) y40), .dat (dSl t_cut_Log (.slice A174 y166.length c175) y166)]) ?_ ?_
              · skip
                obtain ⟨y3366, hx3367, h⟩ := bindS h
                obtain ⟨a3368, cs3369, rfl, hR3370, H⟩ := H.elemI 3 rfl hx3367
                obtain ⟨u3372, rfl, hu3373⟩ := cut_Log_cells hR3370
                obtain ⟨A3374, c3375, rfl, H⟩ := H.openD hu3373
                obtain ⟨y3377, hx3378, h⟩ := bindS h
                obtain ⟨a3379, cs3380, rfl, hR3381, H⟩ := H.elemI 3 rfl hx3378
                obtain ⟨u3383, rfl, hu3384⟩ := cut_Log_cells hR3381
                obtain ⟨A3385, c3386, rfl, H⟩ := H.openD hu3384
                rcases Bool.eq_false_or_eq_true (y3366.1 != y3377.1) with hg3388 | hg3388
                · replace h := condT hg3388 h
                  refine nc ?_
                  refine draw_rule [] (by kernel_rfl) (by kernel_rfl) H ?_
                  refine c_idxA (e := 58) 2 _ (by kernel_rfl) (by kernel_rfl) (idxL_some hx3367).1 (idxL_some hx3367).2.1 ?_
                  refine c_loadD 3 rfl 0 (by kernel_rfl) rfl ?_
                  refine c_idxA (e := 58) 2 _ (by kernel_rfl) (by kernel_rfl) (idxL_some hx3378).1 (idxL_some hx3378).2.1 ?_
                  refine c_loadD 1 rfl 0 (by kernel_rfl) rfl ?_
                  refine c_skipIA (.pointer (some ⟨0, 0, none⟩)) (gF0 hg3388) ?_
                  refine c_skipLD (.slice none 0 0) (gF0 hg3388) ?_
                  refine c_skipIA (.pointer (some ⟨0, 0, none⟩)) (gF0 hg3388) ?_
                  refine c_skipLD (.slice none 0 0) (gF0 hg3388) ?_
                  refine c_skipCL (.slice none 0 0) (gF0 hg3388) ?_
                  refine c_skipCL (.bool false) (gF0 hg3388) ?_
                  refine c_skipIA (.pointer (some ⟨0, 0, none⟩)) (gF0 (pickT hg3388)) ?_
                  refine c_skipLD (.int .i64 0) (gF0 (pickT hg3388)) ?_
                  refine c_skipIA (.pointer (some ⟨0, 0, none⟩)) (gF0 (pickT hg3388)) ?_
                  refine c_skipLD (.int .i64 0) (gF0 (pickT hg3388)) ?_
                  refine c_skipIA (.pointer (some ⟨0, 0, none⟩)) (gF0 (pickT (pickT hg3388))) ?_
                  refine c_skipLD (.agg #[.int .i64 0, .int .i64 0]) (gF0 (pickT (pickT hg3388))) ?_
                  refine c_skipLD (.agg #[.int .i64 0, .int .i64 0]) (gF0 (pickT (pickT hg3388))) ?_
                  refine c_skipBN (.bool false) (gF0 (pickT (pickT hg3388))) ?_
                  intro w3389 H
                  exact cut_inA ⟨_, h, rfl, H.pickL [4, 5, 6, 7] rfl⟩
                · replace h := condF hg3388 h
                  obtain ⟨y3390, hx3391, h⟩ := bindS h
                  obtain ⟨cs3393, hR3394, H⟩ := H.elemJ 7 rfl hx3391
                  obtain ⟨u3396, rfl, hu3397⟩ := cut_Log_cells hR3394
                  obtain ⟨A3398, c3399, rfl, H⟩ := H.openD hu3397
                  obtain ⟨y3401, hx3402, h⟩ := bindS h
                  obtain ⟨cs3404, hR3405, H⟩ := H.elemJ 7 rfl hx3402
                  obtain ⟨u3407, rfl, hu3408⟩ := cut_Log_cells hR3405
                  obtain ⟨A3409, c3410, rfl, H⟩ := H.openD hu3408
                  obtain ⟨y3412, hy3413, h⟩ := bindS h
                  obtain ⟨y3421, hy3422, h⟩ := bindS h
                  rcases Bool.eq_false_or_eq_true (!y3421) with hg3427 | hg3427
                  · replace h := condT hg3427 h
                    refine nc ?_
                    refine draw_rule [] (by kernel_rfl) (by kernel_rfl) H ?_
                    refine c_idxA (e := 58) 2 _ (by kernel_rfl) (by kernel_rfl) (idxL_some hx3367).1 (idxL_some hx3367).2.1 ?_
                    refine c_loadD 7 rfl 0 (by kernel_rfl) rfl ?_
                    refine c_idxA (e := 58) 2 _ (by kernel_rfl) (by kernel_rfl) (idxL_some hx3378).1 (idxL_some hx3378).2.1 ?_
                    refine c_loadD 5 rfl 0 (by kernel_rfl) rfl ?_
                    refine c_idxA (e := 58) 2 _ (by kernel_rfl) (by kernel_rfl) (idxL_some hx3391).1 (idxL_some hx3391).2.1 ?_
                    refine c_loadD 3 rfl 1 (by kernel_rfl) rfl ?_
                    refine c_idxA (e := 58) 2 _ (by kernel_rfl) (by kernel_rfl) (idxL_some hx3402).1 (idxL_some hx3402).2.1 ?_
                    refine c_loadD 1 rfl 1 (by kernel_rfl) rfl ?_
                    refine c_callR (gT0 hg3388 rfl) (by kernel_rfl) (fun _ H => gemotlaw11_texts_ok (H.dat 0 rfl) hy3413) ?_
                    intro A3418 c3419
                    refine c_call (.bool y3421) (by kernel_rfl) (fun _ _ H => gemotlaw11_same_ok (H.dat 3 rfl) (H.dat 0 rfl) hy3422) ?_
                    refine c_skipIA (.pointer (some ⟨0, 0, none⟩)) (gF0 ((pickF hg3388).trans hg3427)) ?_
                    refine c_skipLD (.int .i64 0) (gF0 ((pickF hg3388).trans hg3427)) ?_
                    refine c_skipIA (.pointer (some ⟨0, 0, none⟩)) (gF0 ((pickF hg3388).trans hg3427)) ?_
                    refine c_skipLD (.int .i64 0) (gF0 ((pickF hg3388).trans hg3427)) ?_
                    refine c_skipIA (.pointer (some ⟨0, 0, none⟩)) (gF0 (pickT ((pickF hg3388).trans hg3427))) ?_
                    refine c_skipLD (.agg #[.int .i64 0, .int .i64 0]) (gF0 (pickT ((pickF hg3388).trans hg3427))) ?_
                    refine c_skipLD (.agg #[.int .i64 0, .int .i64 0]) (gF0 (pickT ((pickF hg3388).trans hg3427))) ?_
                    refine c_skipBN (.bool false) (gF0 (pickT ((pickF hg3388).trans hg3427))) ?_
                    intro w3428 H
                    exact cut_inA ⟨_, h, rfl, H.pickL [9, 10, 11, 12] rfl⟩
                  · replace h := condF hg3427 h
                    obtain ⟨y3429, hx3430, h⟩ := bindS h
                    obtain ⟨a3431, cs3432, rfl, hR3433, H⟩ := H.elemI 10 rfl hx3430
                    obtain ⟨u3435, rfl, hu3436⟩ := cut_Part_cells hR3433
                    obtain ⟨A3437, c3438, rfl, H⟩ := H.openD hu3436
                    obtain ⟨y3440, hx3441, h⟩ := bindS h
                    obtain ⟨cs3443, hR3444, H⟩ := H.elemJ 11 rfl hx3441
                    obtain ⟨u3446, rfl, hu3447⟩ := cut_Log_cells hR3444
                    obtain ⟨A3448, c3449, rfl, H⟩ := H.openD hu3447
                    rcases Bool.eq_false_or_eq_true (y3429.2.1 != y3440.1) with hg3451 | hg3451
                    · replace h := condT hg3451 h
                      refine nc ?_
                      refine draw_rule [] (by kernel_rfl) (by kernel_rfl) H ?_
                      refine c_idxA (e := 58) 2 _ (by kernel_rfl) (by kernel_rfl) (idxL_some hx3367).1 (idxL_some hx3367).2.1 ?_
                      refine c_loadD 11 rfl 0 (by kernel_rfl) rfl ?_
                      refine c_idxA (e := 58) 2 _ (by kernel_rfl) (by kernel_rfl) (idxL_some hx3378).1 (idxL_some hx3378).2.1 ?_
                      refine c_loadD 9 rfl 0 (by kernel_rfl) rfl ?_
                      refine c_idxA (e := 58) 2 _ (by kernel_rfl) (by kernel_rfl) (idxL_some hx3391).1 (idxL_some hx3391).2.1 ?_
                      refine c_loadD 7 rfl 1 (by kernel_rfl) rfl ?_
                      refine c_idxA (e := 58) 2 _ (by kernel_rfl) (by kernel_rfl) (idxL_some hx3402).1 (idxL_some hx3402).2.1 ?_
                      refine c_loadD 5 rfl 1 (by kernel_rfl) rfl ?_
                      refine c_callR (gT0 hg3388 rfl) (by kernel_rfl) (fun _ H => gemotlaw11_texts_ok (H.dat 4 rfl) hy3413) ?_
                      intro A3418 c3419
                      refine c_call (.bool y3421) (by kernel_rfl) (fun _ _ H => gemotlaw11_same_ok (H.dat 7 rfl) (H.dat 0 rfl) hy3422) ?_
                      refine c_idxA (e := 37) 4 _ (by kernel_rfl) (by kernel_rfl) (idxL_some hx3430).1 (idxL_some hx3430).2.1 ?_
                      refine c_loadD 3 rfl 2 (by kernel_rfl) rfl ?_
                      refine c_idxA (e := 58) 2 _ (by kernel_rfl) (by kernel_rfl) (idxL_some hx3441).1 (idxL_some hx3441).2.1 ?_
                      refine c_loadD 1 rfl 0 (by kernel_rfl) rfl ?_
                      refine c_skipIA (.pointer (some ⟨0, 0, none⟩)) (gF0 ((pickF ((pickF hg3388).trans hg3427)).trans hg3451)) ?_
                      refine c_skipLD (.agg #[.int .i64 0, .int .i64 0]) (gF0 ((pickF ((pickF hg3388).trans hg3427)).trans hg3451)) ?_
                      refine c_skipLD (.agg #[.int .i64 0, .int .i64 0]) (gF0 ((pickF ((pickF hg3388).trans hg3427)).trans hg3451)) ?_
                      refine c_skipBN (.bool false) (gF0 ((pickF ((pickF hg3388).trans hg3427)).trans hg3451)) ?_
                      intro w3452 H
                      exact cut_inA ⟨_, h, rfl, H.pickL [13, 14, 15, 16] rfl⟩
                    · replace h := condF hg3451 h
                      obtain ⟨y3453, hx3454, h⟩ := bindS h
                      obtain ⟨cs3456, hR3457, H⟩ := H.elemJ 14 rfl hx3454
                      obtain ⟨u3459, rfl, hu3460⟩ := cut_Part_cells hR3457
                      obtain ⟨A3461, c3462, rfl, H⟩ := H.openD hu3460
                      refine nc ?_
                      refine draw_rule [] (by kernel_rfl) (by kernel_rfl) H ?_
                      refine c_idxA (e := 58) 2 _ (by kernel_rfl) (by kernel_rfl) (idxL_some hx3367).1 (idxL_some hx3367).2.1 ?_
                      refine c_loadD 13 rfl 0 (by kernel_rfl) rfl ?_
                      refine c_idxA (e := 58) 2 _ (by kernel_rfl) (by kernel_rfl) (idxL_some hx3378).1 (idxL_some hx3378).2.1 ?_
                      refine c_loadD 11 rfl 0 (by kernel_rfl) rfl ?_
                      refine c_idxA (e := 58) 2 _ (by kernel_rfl) (by kernel_rfl) (idxL_some hx3391).1 (idxL_some hx3391).2.1 ?_
                      refine c_loadD 9 rfl 1 (by kernel_rfl) rfl ?_
                      refine c_idxA (e := 58) 2 _ (by kernel_rfl) (by kernel_rfl) (idxL_some hx3402).1 (idxL_some hx3402).2.1 ?_
                      refine c_loadD 7 rfl 1 (by kernel_rfl) rfl ?_
                      refine c_callR (gT0 hg3388 rfl) (by kernel_rfl) (fun _ H => gemotlaw11_texts_ok (H.dat 6 rfl) hy3413) ?_
                      intro A3418 c3419
                      refine c_call (.bool y3421) (by kernel_rfl) (fun _ _ H => gemotlaw11_same_ok (H.dat 9 rfl) (H.dat 0 rfl) hy3422) ?_
                      refine c_idxA (e := 37) 4 _ (by kernel_rfl) (by kernel_rfl) (idxL_some hx3430).1 (idxL_some hx3430).2.1 ?_
                      refine c_loadD 5 rfl 2 (by kernel_rfl) rfl ?_
                      refine c_idxA (e := 58) 2 _ (by kernel_rfl) (by kernel_rfl) (idxL_some hx3441).1 (idxL_some hx3441).2.1 ?_
                      refine c_loadD 3 rfl 0 (by kernel_rfl) rfl ?_
                      refine c_idxA (e := 37) 4 _ (by kernel_rfl) (by kernel_rfl) (idxL_some hx3454).1 (idxL_some hx3454).2.1 ?_
                      refine c_loadDA (m := 2) 1 rfl 0 (by kernel_rfl) (by kernel_rfl) [.int .i64 y3453.1.1, .int .i64 y3453.1.2] rfl rfl ?_
                      refine c_loadA (m := 2) 14 rfl (by kernel_rfl) (by kernel_rfl) [.int .i64 y13, .int .i64 1] rfl rfl ?_
                      refine c_neq ((y3453.1.1 == y13) && (y3453.1.2 == (1 : Int))) (fun _ => (by kernel_rfl)) (fun _ => (by kernel_rfl)) ?_
                      intro w3464 H
                      exact cut_inA ⟨_, h, rfl, H.pickL [15, 16, 17, 18] rfl⟩
              · rintro _ w3465 ⟨v3363, h, rfl, H⟩
                unfold gemotlaw11_CutOwn.k1 at h
                refine nc_cond rfl (fun hc3466 => ?_) (fun hc3466 => ?_)
                · replace h := condT hc3466 h
                  refine nc_seq ?_
                  refine nc ?_
                  refine nc ?_
                  cases h
                  replace hq3052 : (Sum.inr false) = o3047 := hq3052
                  subst hq3052
                  have h := hO3049
                  try dsimp only [Sum.elim_inl, Sum.elim_inr] at h
                  replace h := Option.some.inj h
                  subst h
                  exact ret_inA [.bool false] ⟨_, rfl, ⟨rfl, H.frame⟩⟩
                · replace h := condF hc3466 h
                  refine nc ?_
                  refine nc ?_
                  cases h
                  exact again_inA ⟨_, hq3052, rfl, H.pickL [0, 1, 2, 3] rfl⟩
            · replace h := condF hc3060 h
              refine nc ?_
              cases h
              replace hq3052 : (Sum.inl ()) = o3047 := hq3052
              subst hq3052
              have h := hO3049
              try dsimp only [Sum.elim_inl, Sum.elim_inr] at h
              exact cut_inA ⟨h, rfl, H.pickL [] rfl⟩
          · rintro _ w3467 ⟨h, rfl, H⟩
            unfold gemotlaw11_CutOwn.k3 at h
            refine nc_seq ?_
            refine nc ?_
            refine nc ?_
            replace h := Option.some.inj h
            subst h
            exact ret_inA [.bool true] ⟨_, rfl, ⟨rfl, H.frame⟩⟩
/-! gemot/gemotlaw11.CutCuts -/
noncomputable def gemotlaw11_CutCuts.k1 (x0 : List D_cut_Report) (x1 : List D_cut_Part) (x2 : D_api_Id) (x3 : List D_cut_Log) (y25 : (List D_gemotref11_Report) × Bool) (y37 : (List D_gemotref11_Part) × Bool) (v1279 : Int) (v1949 : Bool) : Option (Int ⊕ (Unit ⊕ Bool)) := cond v1949 (some (.inr (Sum.inr false))) (some (.inl (IntKind.i64.wrap (v1279 + (1 : Int)))))
noncomputable def gemotlaw11_CutCuts.b2 (x0 : List D_cut_Report) (x1 : List D_cut_Part) (x2 : D_api_Id) (x3 : List D_cut_Log) (y25 : (List D_gemotref11_Report) × Bool) (y37 : (List D_gemotref11_Part) × Bool) (v1279 : Int) : Option (Int ⊕ (Unit ⊕ Bool)) := cond (decide ((IntKind.i64.wrap (v1279 + (1 : Int))) < (x1.length : Int))) ((idxL x1 v1279).bind fun y1882 => (idxL x1 (IntKind.i64.wrap (v1279 + (1 : Int)))).bind fun y1893 => (cut_Begins.f y1882.2.2 y1893.2.2).bind fun y1952 => (gemotlaw11_texts.f y1882.2.2).bind fun y1958 => (gemotlaw11_texts.f y1893.2.2).bind fun y1970 => (gemotref11_Begins.f y1958 y1970).bind fun y1984 => cond (y1952 != y1984) (gemotlaw11_CutCuts.k1 x0 x1 x2 x3 y25 y37 v1279 (cond (y1952 != y1984) true (!false))) ((cut_Begins.f y1882.2.2 y1882.2.2).bind fun y1991 => gemotlaw11_CutCuts.k1 x0 x1 x2 x3 y25 y37 v1279 (cond (y1952 != y1984) true (!y1991)))) (some (.inr (Sum.inl ())))
noncomputable def gemotlaw11_CutCuts.k3 (v2113 : Bool) : Option (Bool) := some v2113
noncomputable def gemotlaw11_CutCuts.k4 (x0 : List D_cut_Report) (x1 : List D_cut_Part) (x2 : D_api_Id) (x3 : List D_cut_Log) (y25 : (List D_gemotref11_Report) × Bool) (y37 : (List D_gemotref11_Part) × Bool) : Option (Bool) := (cut_Cut.f x0).bind fun y2116 => (gemotref11_Cut.f y25.1).bind fun y2125 => (gemotlaw11_sameParts.f y2116 y2125).bind fun y2134 => cond y2134 ((cut_Missing.f x1 (x2.1, x2.2) x3).bind fun y2141 => (gemotlaw11_asLogs.f x3).bind fun y2150 => (gemotref11_Missing.f y37.1 (x2.1, x2.2) y2150).bind fun y2159 => (gemotlaw11_sameLogs.f y2141 y2159).bind fun y2168 => cond y2168 ((cut_Cut.f x0).bind fun y2175 => (cut_Missing.f y2175 (x2.1, x2.2) x3).bind fun y2184 => (gemotref11_Cut.f y25.1).bind fun y2193 => (gemotlaw11_asLogs.f x3).bind fun y2202 => (gemotref11_Missing.f y2193 (x2.1, x2.2) y2202).bind fun y2211 => (gemotlaw11_sameLogs.f y2184 y2211).bind fun y2220 => gemotlaw11_CutCuts.k3 (cond (cond y2134 y2168 false) y2220 false)) (gemotlaw11_CutCuts.k3 (cond (cond y2134 y2168 false) false false))) (gemotlaw11_CutCuts.k3 (cond (cond y2134 false false) false false))
noncomputable def gemotlaw11_CutCuts.k5 (x0 : List D_cut_Report) (x1 : List D_cut_Part) (x2 : D_api_Id) (x3 : List D_cut_Log) (y19 : Bool) (y25 : (List D_gemotref11_Report) × Bool) (y37 : (List D_gemotref11_Part) × Bool) (v75 : Bool) : Option (Bool) := cond v75 (some y19) ((loopM (fun s1761 : Int => gemotlaw11_CutCuts.b2 x0 x1 x2 x3 y25 y37 s1761) (0 : Int)).bind (Sum.elim (fun (o1759 : Unit) => gemotlaw11_CutCuts.k4 x0 x1 x2 x3 y25 y37) (fun (o1760 : Bool) => some o1760)))
noncomputable def gemotlaw11_CutCuts.f (x0 : List D_cut_Report) (x1 : List D_cut_Part) (x2 : D_api_Id) (x3 : List D_cut_Log) : Option (Bool) := (gemotlaw11_shown.f).bind fun y19 => (gemotlaw11_asReports.f x0).bind fun y25 => (gemotlaw11_asParts.f x1).bind fun y37 => cond (cond (cond (!y19) true (!y25.2)) true (!y37.2)) (gemotlaw11_CutCuts.k5 x0 x1 x2 x3 y19 y25 y37 (cond (cond (cond (!y19) true (!y25.2)) true (!y37.2)) true (!false))) ((gemotlaw11_shortLogs.f x3).bind fun y79 => gemotlaw11_CutCuts.k5 x0 x1 x2 x3 y19 y25 y37 (cond (cond (cond (!y19) true (!y25.2)) true (!y37.2)) true (!y79)))
set_option maxHeartbeats 4000000 in
theorem gemotlaw11_CutCuts_ok {ok : Nat → Prop} {w : World} {u1 u6 u11 : Value} {x0 : List D_cut_Report} {x1 : List D_cut_Part} {x2 : D_api_Id} {x3 : List D_cut_Log} {r : Bool} (hu2 : slR t_cut_Report w ok u1 x0) (hu7 : slR t_cut_Part w ok u6 x1) (hu12 : slR t_cut_Log w ok u11 x3) (h : gemotlaw11_CutCuts.f x0 x1 x2 x3 = some r) :
    Calls Try.prog 3 #[u1, u6, .agg #[.int .i64 x2.1, .int .i64 x2.2], u11] w fun e w' => ∃ v, e = .returned v ∧ (v = .bool r ∧ Bel w.heap.size w w') := by
  have H : Eng.Own ok w w [] := Eng.Own.nil ok w
  obtain ⟨A3, c4, rfl, H⟩ := H.arg rfl hu2
  obtain ⟨A8, c9, rfl, H⟩ := H.arg rfl hu7
  obtain ⟨A13, c14, rfl, H⟩ := H.arg rfl hu12
  unfold gemotlaw11_CutCuts.f at h
  refine enterN (args := [.slice A3 x0.length c4, .slice A8 x1.length c9, .agg #[.int .i64 x2.1, .int .i64 x2.2], .slice A13 x3.length c14]) Try.func3 rfl Try.ntmps3 rfl rfl ?_
  refine nc_seq ?_
  refine nc ?_
  refine own_box H [.int .i64 x2.1, .int .i64 x2.2] rfl fun g17 w18 H => ?_
  refine nc_seq ?_
  refine nc ?_
  obtain ⟨y19, hy20, h⟩ := bindS h
  refine call_rule (by kernel_rfl) (gemotlaw11_shown_ok (ok := fun _ => False) hy20) fun v22 w21 ⟨hv23, hb24⟩ => ?_
  subst hv23
  replace H := H.call hb24
  refine nc_seq ?_
  refine nc ?_
  obtain ⟨y25, hy26, h⟩ := bindS h
  refine call_rule (by kernel_rfl) (gemotlaw11_asReports_ok (H.dat 3 rfl) hy26) fun v28 w27 ⟨u31, hv29, hu32, hb30⟩ => ?_
  subst hv29
  replace H := H.callDats hb30 [dSl t_gemotref11_Report u31 y25.1] ⟨hu32, trivial⟩
  obtain ⟨A33, c34, hA35, _⟩ := H.sl 0 rfl
  subst hA35
  refine nc_seq ?_
  refine nc ?_
  obtain ⟨y37, hy38, h⟩ := bindS h
  refine call_rule (by kernel_rfl) (gemotlaw11_asParts_ok (H.dat 3 rfl) hy38) fun v40 w39 ⟨u43, hv41, hu44, hb42⟩ => ?_
  subst hv41
  replace H := H.callDats hb42 [dSl t_gemotref11_Part u43 y37.1] ⟨hu44, trivial⟩
  obtain ⟨A45, c46, hA47, _⟩ := H.sl 0 rfl
  subst hA47
  refine nc_seq ?_
  refine nc_cut (fun e w76 => ∃ (v75 : Bool), gemotlaw11_CutCuts.k5 x0 x1 x2 x3 y19 y25 y37 v75 = some r ∧ e = [(0, .slice A3 x0.length c4), (1, .slice A8 x1.length c9), (3, .slice A13 x3.length c14), (6, .pointer (some ⟨g17, 0, none⟩)), (9, .bool y19), (10, .slice A33 y25.1.length c34), (12, .slice A45 y37.1.length c46), (42, .bool v75)] ∧ Eng.Own ok w w76 [.dat (dSl t_cut_Report (.slice A3 x0.length c4) x0), .dat (dSl t_cut_Part (.slice A8 x1.length c9) x1), .dat (dSl t_cut_Log (.slice A13 x3.length c14) x3), .blk g17 [.int .i64 x2.1, .int .i64 x2.2] 25, .dat (dSl t_gemotref11_Report (.slice A33 y25.1.length c34) y25.1), .dat (dSl t_gemotref11_Part (.slice A45 y37.1.length c46) y37.1)]) ?_ ?_
  · skip
    refine nc ?_
    rcases Bool.eq_false_or_eq_true (cond (cond (!y19) true (!y25.2)) true (!y37.2)) with hg78 | hg78
    · replace h := condT hg78 h
      refine call_skip (.bool false) (gF0 hg78) ?_
      exact cut_inA ⟨_, h, rfl, H.pickL [5, 4, 3, 2, 1, 0] rfl⟩
    · replace h := condF hg78 h
      obtain ⟨y79, hy80, h⟩ := bindS h
      refine call_yes (gT0 hg78 rfl) (by kernel_rfl) (gemotlaw11_shortLogs_ok (H.dat 3 rfl) hy80) fun v82 w81 ⟨hv83, hb84⟩ => ?_
      subst hv83
      replace H := H.call hb84
      exact cut_inA ⟨_, h, rfl, H.pickL [5, 4, 3, 2, 1, 0] rfl⟩
  · rintro _ w85 ⟨v75, h, rfl, H⟩
    unfold gemotlaw11_CutCuts.k5 at h
    refine nc_cond rfl (fun hc86 => ?_) (fun hc86 => ?_)
    · replace h := condT hc86 h
      refine nc_seq ?_
      refine nc ?_
      refine nc ?_
      replace h := Option.some.inj h
      subst h
      exact ret_inA [.bool y19] ⟨_, rfl, ⟨rfl, H.frame⟩⟩
    · replace h := condF hc86 h
      refine nc ?_
      refine nc_cut (fun e w1042 => gemotlaw11_CutCuts.k4 x0 x1 x2 x3 y25 y37 = some r ∧ e = [(0, .slice A3 x0.length c4), (1, .slice A8 x1.length c9), (3, .slice A13 x3.length c14), (6, .pointer (some ⟨g17, 0, none⟩)), (10, .slice A33 y25.1.length c34), (12, .slice A45 y37.1.length c46)] ∧ Eng.Own ok w w1042 [.dat (dSl t_cut_Report (.slice A3 x0.length c4) x0), .dat (dSl t_cut_Part (.slice A8 x1.length c9) x1), .dat (dSl t_cut_Log (.slice A13 x3.length c14) x3), .blk g17 [.int .i64 x2.1, .int .i64 x2.2] 25, .dat (dSl t_gemotref11_Report (.slice A33 y25.1.length c34) y25.1), .dat (dSl t_gemotref11_Part (.slice A45 y37.1.length c46) y37.1)]) ?_ ?_
      · skip
        refine nc_seq ?_
        refine nc ?_
        refine nc_block ?_
        obtain ⟨o1751, hL1752, hO1753⟩ := bindS h
        obtain ⟨n1754, hL1752⟩ := loopS hL1752
        refine nc ?_
        refine loop_ruleA (fun k e w1758 => ∃ (v1279 : Int), iterM (fun s1761 : Int => gemotlaw11_CutCuts.b2 x0 x1 x2 x3 y25 y37 s1761) k v1279 = some o1751 ∧ e = [(0, .slice A3 x0.length c4), (1, .slice A8 x1.length c9), (3, .slice A13 x3.length c14), (6, .pointer (some ⟨g17, 0, none⟩)), (10, .slice A33 y25.1.length c34), (12, .slice A45 y37.1.length c46), (14, .int .i64 v1279)] ∧ Eng.Own ok w w1758 [.dat (dSl t_cut_Report (.slice A3 x0.length c4) x0), .dat (dSl t_cut_Part (.slice A8 x1.length c9) x1), .dat (dSl t_cut_Log (.slice A13 x3.length c14) x3), .blk g17 [.int .i64 x2.1, .int .i64 x2.2] 25, .dat (dSl t_gemotref11_Report (.slice A33 y25.1.length c34) y25.1), .dat (dSl t_gemotref11_Part (.slice A45 y37.1.length c46) y37.1)]) ⟨_, hL1752, rfl, H.pickL [0, 1, 2, 3, 4, 5] rfl⟩ ?_
        rintro k1763 _ w1762 ⟨v1279, hL1752, rfl, H⟩
        obtain ⟨k1757, rfl, q1755, h, hq1756⟩ := iterS hL1752
        replace h : gemotlaw11_CutCuts.b2 x0 x1 x2 x3 y25 y37 v1279 = some q1755 := h
        unfold gemotlaw11_CutCuts.b2 at h
        refine nc_seq ?_
        refine nc_seq ?_
        refine nc ?_
        refine nc_cond rfl (fun hc1764 => ?_) (fun hc1764 => ?_)
        · replace h := condT hc1764 h
          refine nc ?_
          refine nc_seq ?_
          refine nc_block ?_
          refine nc_seq ?_
          refine nc ?_
          obtain ⟨y1882, hx1883, h⟩ := bindS h
          obtain ⟨a1884, cs1885, rfl, hR1886, H⟩ := H.elemI 1 rfl hx1883
          obtain ⟨u1888, rfl, hu1889⟩ := cut_Part_cells hR1886
          obtain ⟨A1890, c1891, rfl, H⟩ := H.openD hu1889
          refine idxA_rule (e := 37) 4 _ (by kernel_rfl) (by kernel_rfl) (idxL_some hx1883).1 (idxL_some hx1883).2.1 ?_
          refine own_loadD H 1 rfl 3 (by kernel_rfl) rfl ?_
          refine nc_seq ?_
          refine nc ?_
          obtain ⟨y1893, hx1894, h⟩ := bindS h
          obtain ⟨cs1896, hR1897, H⟩ := H.elemJ 3 rfl hx1894
          obtain ⟨u1899, rfl, hu1900⟩ := cut_Part_cells hR1897
          obtain ⟨A1901, c1902, rfl, H⟩ := H.openD hu1900
          refine idxA_rule (e := 37) 4 _ (by kernel_rfl) (by kernel_rfl) (idxL_some hx1894).1 (idxL_some hx1894).2.1 ?_
          refine own_loadD H 1 rfl 3 (by kernel_rfl) rfl ?_
          refine nc_cut (fun e w1950 => ∃ (v1949 : Bool), gemotlaw11_CutCuts.k1 x0 x1 x2 x3 y25 y37 v1279 v1949 = some q1755 ∧ e = [(0, .slice A3 x0.length c4), (1, .slice (some a1884) x1.length c9), (3, .slice A13 x3.length c14), (6, .pointer (some ⟨g17, 0, none⟩)), (10, .slice A33 y25.1.length c34), (12, .slice A45 y37.1.length c46), (14, .int .i64 v1279), (76, .bool v1949)] ∧ Eng.Own ok w w1950 [.dat (dSl t_cut_Report (.slice A3 x0.length c4) x0), .dat (dSl t_cut_Part (.slice (some a1884) x1.length c9) x1), .dat (dSl t_cut_Log (.slice A13 x3.length c14) x3), .blk g17 [.int .i64 x2.1, .int .i64 x2.2] 25, .dat (dSl t_gemotref11_Report (.slice A33 y25.1.length c34) y25.1), .dat (dSl t_gemotref11_Part (.slice A45 y37.1.length c46) y37.1)]) ?_ ?_
          · skip
            refine nc ?_
            obtain ⟨y1952, hy1953, h⟩ := bindS h
            refine call_rule (by kernel_rfl) (cut_Begins_ok (H.dat 2 rfl) (H.dat 0 rfl) hy1953) fun v1955 w1954 ⟨hv1956, hb1957⟩ => ?_
            subst hv1956
            replace H := H.call hb1957
            obtain ⟨y1958, hy1959, h⟩ := bindS h
            refine call_rule (by kernel_rfl) (gemotlaw11_texts_ok (H.dat 2 rfl) hy1959) fun u1964 w1960 ⟨hu1965, hb1963⟩ => ?_
            obtain ⟨cs1967, H⟩ := H.callRow hb1963 hu1965
            obtain ⟨A1968, c1969, rfl, _, _⟩ := H.rowSl 1 rfl
            obtain ⟨y1970, hy1971, h⟩ := bindS h
            refine call_rule (by kernel_rfl) (gemotlaw11_texts_ok (H.dat 2 rfl) hy1971) fun u1976 w1972 ⟨hu1977, hb1975⟩ => ?_
            obtain ⟨cs1979, H⟩ := H.callRow hb1975 hu1977
            obtain ⟨A1980, c1981, rfl, _, _⟩ := H.rowSl 1 rfl
            replace H := H.freeze (k := tStr) 3 2 rfl rfl
            replace H := H.freeze (k := tStr) 1 0 rfl rfl
            obtain ⟨y1984, hy1985, h⟩ := bindS h
            refine call_rule (by kernel_rfl) (gemotref11_Begins_ok (H.dat 3 rfl) (H.dat 1 rfl) hy1985) fun v1987 w1986 ⟨hv1988, hb1989⟩ => ?_
            subst hv1988
            replace H := H.call hb1989
            rcases Bool.eq_false_or_eq_true (y1952 != y1984) with hg1990 | hg1990
            · replace h := condT hg1990 h
              refine call_skip (.bool false) (gF0 hg1990) ?_
              exact cut_inA ⟨_, h, rfl, H.pickL [8, 9, 10, 11, 12, 13] rfl⟩
            · replace h := condF hg1990 h
              obtain ⟨y1991, hy1992, h⟩ := bindS h
              refine call_yes (gT0 hg1990 rfl) (by kernel_rfl) (cut_Begins_ok (H.dat 6 rfl) (H.dat 6 rfl) hy1992) fun v1994 w1993 ⟨hv1995, hb1996⟩ => ?_
              subst hv1995
              replace H := H.call hb1996
              exact cut_inA ⟨_, h, rfl, H.pickL [8, 9, 10, 11, 12, 13] rfl⟩
          · rintro _ w1997 ⟨v1949, h, rfl, H⟩
            unfold gemotlaw11_CutCuts.k1 at h
            refine nc_cond rfl (fun hc1998 => ?_) (fun hc1998 => ?_)
            · replace h := condT hc1998 h
              refine nc_seq ?_
              refine nc ?_
              refine nc ?_
              cases h
              replace hq1756 : (Sum.inr false) = o1751 := hq1756
              subst hq1756
              have h := hO1753
              try dsimp only [Sum.elim_inl, Sum.elim_inr] at h
              replace h := Option.some.inj h
              subst h
              exact ret_inA [.bool false] ⟨_, rfl, ⟨rfl, H.frame⟩⟩
            · replace h := condF hc1998 h
              refine nc ?_
              refine nc ?_
              cases h
              exact again_inA ⟨_, hq1756, rfl, H.pickL [0, 1, 2, 3, 4, 5] rfl⟩
        · replace h := condF hc1764 h
          refine nc ?_
          cases h
          replace hq1756 : (Sum.inl ()) = o1751 := hq1756
          subst hq1756
          have h := hO1753
          try dsimp only [Sum.elim_inl, Sum.elim_inr] at h
          exact cut_inA ⟨h, rfl, H.pickL [0, 1, 2, 3, 4, 5] rfl⟩
      · rintro _ w1999 ⟨h, rfl, H⟩
        unfold gemotlaw11_CutCuts.k4 at h
        refine nc_cut (fun e w2114 => ∃ (v2113 : Bool), gemotlaw11_CutCuts.k3 v2113 = some r ∧ e = [(8, .bool v2113)] ∧ Eng.Own ok w w2114 []) ?_ ?_
        · skip
          obtain ⟨y2116, hy2117, h⟩ := bindS h
          obtain ⟨y2125, hy2126, h⟩ := bindS h
          obtain ⟨y2134, hy2135, h⟩ := bindS h
          rcases Bool.eq_false_or_eq_true y2134 with hg2140 | hg2140
          · replace h := condT hg2140 h
            obtain ⟨y2141, hy2142, h⟩ := bindS h
            obtain ⟨y2150, hy2151, h⟩ := bindS h
            obtain ⟨y2159, hy2160, h⟩ := bindS h
            obtain ⟨y2168, hy2169, h⟩ := bindS h
            rcases Bool.eq_false_or_eq_true y2168 with hg2174 | hg2174
            · replace h := condT hg2174 h
              obtain ⟨y2175, hy2176, h⟩ := bindS h
              obtain ⟨y2184, hy2185, h⟩ := bindS h
              obtain ⟨y2193, hy2194, h⟩ := bindS h
              obtain ⟨y2202, hy2203, h⟩ := bindS h
              obtain ⟨y2211, hy2212, h⟩ := bindS h
              obtain ⟨y2220, hy2221, h⟩ := bindS h
              refine nc ?_
              refine draw_rule [] (by kernel_rfl) (by kernel_rfl) H ?_
              refine c_callS rfl (by kernel_rfl) (fun _ H => cut_Cut_ok (H.dat 0 rfl) hy2117) ?_
              intro A2122 c2123
              refine c_callS rfl (by kernel_rfl) (fun _ H => gemotref11_Cut_ok (H.dat 5 rfl) hy2126) ?_
              intro A2131 c2132
              refine c_call (.bool y2134) (by kernel_rfl) (fun _ _ H => gemotlaw11_sameParts_ok (H.dat 1 rfl) (H.dat 0 rfl) hy2135) ?_
              refine c_loadA (m := 2) 3 rfl (by kernel_rfl) (by kernel_rfl) [.int .i64 x2.1, .int .i64 x2.2] rfl rfl ?_
              refine c_callS (gT1 hg2140 rfl) (by kernel_rfl) (fun _ H => cut_Missing_ok (x1 := (x2.1, x2.2)) (H.dat 3 rfl) (H.dat 4 rfl) hy2142) ?_
              intro A2147 c2148
              refine c_loadA (m := 2) 3 rfl (by kernel_rfl) (by kernel_rfl) [.int .i64 x2.1, .int .i64 x2.2] rfl rfl ?_
              refine c_callR (gT1 hg2140 rfl) (by kernel_rfl) (fun _ H => gemotlaw11_asLogs_ok (H.dat 5 rfl) hy2151) ?_
              intro A2156 c2157
              refine c_callR (gT1 hg2140 rfl) (by kernel_rfl) (fun _ H => gemotref11_Missing_ok (x1 := (x2.1, x2.2)) (H.dat 9 rfl) (H.dat 0 rfl) hy2160) ?_
              intro A2165 c2166
              refine c_call (.bool y2168) (by kernel_rfl) (fun _ _ H => gemotlaw11_sameLogs_ok (H.dat 2 rfl) (H.dat 0 rfl) hy2169) ?_
              refine c_callS (gT1 ((pickT hg2140).trans hg2174) rfl) (by kernel_rfl) (fun _ H => cut_Cut_ok (H.dat 5 rfl) hy2176) ?_
              intro A2181 c2182
              refine c_loadA (m := 2) 3 rfl (by kernel_rfl) (by kernel_rfl) [.int .i64 x2.1, .int .i64 x2.2] rfl rfl ?_
              refine c_callS (gT1 ((pickT hg2140).trans hg2174) rfl) (by kernel_rfl) (fun _ H => cut_Missing_ok (x1 := (x2.1, x2.2)) (H.dat 0 rfl) (H.dat 8 rfl) hy2185) ?_
              intro A2190 c2191
              refine c_callS (gT1 ((pickT hg2140).trans hg2174) rfl) (by kernel_rfl) (fun _ H => gemotref11_Cut_ok (H.dat 11 rfl) hy2194) ?_
              intro A2199 c2200
              refine c_loadA (m := 2) 3 rfl (by kernel_rfl) (by kernel_rfl) [.int .i64 x2.1, .int .i64 x2.2] rfl rfl ?_
              refine c_callR (gT1 ((pickT hg2140).trans hg2174) rfl) (by kernel_rfl) (fun _ H => gemotlaw11_asLogs_ok (H.dat 10 rfl) hy2203) ?_
              intro A2208 c2209
              refine c_callR (gT1 ((pickT hg2140).trans hg2174) rfl) (by kernel_rfl) (fun _ H => gemotref11_Missing_ok (x1 := (x2.1, x2.2)) (H.dat 1 rfl) (H.dat 0 rfl) hy2212) ?_
              intro A2217 c2218
              refine c_call (.bool y2220) (by kernel_rfl) (fun _ _ H => gemotlaw11_sameLogs_ok (H.dat 3 rfl) (H.dat 0 rfl) hy2221) ?_
              intro w2226 H
              exact cut_inA ⟨_, h, rfl, H.pickL [] rfl⟩
            · replace h := condF hg2174 h
              refine nc ?_
              refine draw_rule [] (by kernel_rfl) (by kernel_rfl) H ?_
              refine c_callS rfl (by kernel_rfl) (fun _ H => cut_Cut_ok (H.dat 0 rfl) hy2117) ?_
              intro A2122 c2123
              refine c_callS rfl (by kernel_rfl) (fun _ H => gemotref11_Cut_ok (H.dat 5 rfl) hy2126) ?_
              intro A2131 c2132
              refine c_call (.bool y2134) (by kernel_rfl) (fun _ _ H => gemotlaw11_sameParts_ok (H.dat 1 rfl) (H.dat 0 rfl) hy2135) ?_
              refine c_loadA (m := 2) 3 rfl (by kernel_rfl) (by kernel_rfl) [.int .i64 x2.1, .int .i64 x2.2] rfl rfl ?_
              refine c_callS (gT1 hg2140 rfl) (by kernel_rfl) (fun _ H => cut_Missing_ok (x1 := (x2.1, x2.2)) (H.dat 3 rfl) (H.dat 4 rfl) hy2142) ?_
              intro A2147 c2148
              refine c_loadA (m := 2) 3 rfl (by kernel_rfl) (by kernel_rfl) [.int .i64 x2.1, .int .i64 x2.2] rfl rfl ?_
              refine c_callR (gT1 hg2140 rfl) (by kernel_rfl) (fun _ H => gemotlaw11_asLogs_ok (H.dat 5 rfl) hy2151) ?_
              intro A2156 c2157
              refine c_callR (gT1 hg2140 rfl) (by kernel_rfl) (fun _ H => gemotref11_Missing_ok (x1 := (x2.1, x2.2)) (H.dat 9 rfl) (H.dat 0 rfl) hy2160) ?_
              intro A2165 c2166
              refine c_call (.bool y2168) (by kernel_rfl) (fun _ _ H => gemotlaw11_sameLogs_ok (H.dat 2 rfl) (H.dat 0 rfl) hy2169) ?_
              refine c_skipCL (.slice none 0 0) (gF1 ((pickT hg2140).trans hg2174)) ?_
              refine c_skipLD (.agg #[.int .i64 0, .int .i64 0]) (gF1 ((pickT hg2140).trans hg2174)) ?_
              refine c_skipCL (.slice none 0 0) (gF1 ((pickT hg2140).trans hg2174)) ?_
              refine c_skipCL (.slice none 0 0) (gF1 ((pickT hg2140).trans hg2174)) ?_
              refine c_skipLD (.agg #[.int .i64 0, .int .i64 0]) (gF1 ((pickT hg2140).trans hg2174)) ?_
              refine c_skipCL (.slice none 0 0) (gF1 ((pickT hg2140).trans hg2174)) ?_
              refine c_skipCL (.slice none 0 0) (gF1 ((pickT hg2140).trans hg2174)) ?_
              refine c_skipCL (.bool false) (gF1 ((pickT hg2140).trans hg2174)) ?_
              intro w2227 H
              exact cut_inA ⟨_, h, rfl, H.pickL [] rfl⟩
          · replace h := condF hg2140 h
            refine nc ?_
            refine draw_rule [] (by kernel_rfl) (by kernel_rfl) H ?_
            refine c_callS rfl (by kernel_rfl) (fun _ H => cut_Cut_ok (H.dat 0 rfl) hy2117) ?_
            intro A2122 c2123
            refine c_callS rfl (by kernel_rfl) (fun _ H => gemotref11_Cut_ok (H.dat 5 rfl) hy2126) ?_
            intro A2131 c2132
            refine c_call (.bool y2134) (by kernel_rfl) (fun _ _ H => gemotlaw11_sameParts_ok (H.dat 1 rfl) (H.dat 0 rfl) hy2135) ?_
            refine c_loadA (m := 2) 3 rfl (by kernel_rfl) (by kernel_rfl) [.int .i64 x2.1, .int .i64 x2.2] rfl rfl ?_
            refine c_skipCL (.slice none 0 0) (gF1 hg2140) ?_
            refine c_skipLD (.agg #[.int .i64 0, .int .i64 0]) (gF1 hg2140) ?_
            refine c_skipCL (.slice none 0 0) (gF1 hg2140) ?_
            refine c_skipCL (.slice none 0 0) (gF1 hg2140) ?_
            refine c_skipCL (.bool false) (gF1 hg2140) ?_
            refine c_skipCL (.slice none 0 0) (gF1 (pickF hg2140)) ?_
            refine c_skipLD (.agg #[.int .i64 0, .int .i64 0]) (gF1 (pickF hg2140)) ?_
            refine c_skipCL (.slice none 0 0) (gF1 (pickF hg2140)) ?_
            refine c_skipCL (.slice none 0 0) (gF1 (pickF hg2140)) ?_
            refine c_skipLD (.agg #[.int .i64 0, .int .i64 0]) (gF1 (pickF hg2140)) ?_
            refine c_skipCL (.slice none 0 0) (gF1 (pickF hg2140)) ?_
            refine c_skipCL (.slice none 0 0) (gF1 (pickF hg2140)) ?_
            refine c_skipCL (.bool false) (gF1 (pickF hg2140)) ?_
            intro w2228 H
            exact cut_inA ⟨_, h, rfl, H.pickL [] rfl⟩
        · rintro _ w2229 ⟨v2113, h, rfl, H⟩
          unfold gemotlaw11_CutCuts.k3 at h
          refine nc ?_
          replace h := Option.some.inj h
          subst h
          exact ret_inA [.bool v2113] ⟨_, rfl, ⟨rfl, H.frame⟩⟩
end Go.Proofs.Ytgomlcfoifkdiaa.G
