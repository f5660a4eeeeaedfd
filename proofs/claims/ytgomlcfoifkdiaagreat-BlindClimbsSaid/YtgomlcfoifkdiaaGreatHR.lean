/- Walks, printed by a program of this proof's own. -/
import Derived.Test.YtgomlcfoifkdiaaGreatHS
import Derived.KernelRfl
namespace Go.Proofs.YtgomlcfoifkdiaaGreat.G
open Go.RowKit Go.Eng Go.Proofs
set_option linter.unusedVariables false
set_option maxRecDepth 20000
/-! gemot/gemotref1.Raised -/
noncomputable def gemotref1_Raised.k1 (v1826 : List (List UInt8)) (v1829 : List UInt8) (v2922 : Int) (v3019 : Int) : Option ((Int × Int) ⊕ Int) := some (.inl (v3019, (IntKind.i64.wrap (v2922 + (1 : Int)))))
noncomputable def gemotref1_Raised.b2 (v1826 : List (List UInt8)) (v1829 : List UInt8) (v2921 : Int) (v2922 : Int) : Option ((Int × Int) ⊕ Int) := cond (decide (v2922 < (v1826.length : Int))) ((idxL v1826 v2922).bind fun y3022 => (idxL v1826 v2921).bind fun y3028 => cond (strLt y3022 y3028) (gemotref1_Raised.k1 v1826 v1829 v2922 v2922) (gemotref1_Raised.k1 v1826 v1829 v2922 v2921)) (some (.inr v2921))
noncomputable def gemotref1_Raised.k3 (v1826 : List (List UInt8)) (v1829 : List UInt8) (v2852 : Int) : Option (((List (List UInt8)) × (List UInt8)) ⊕ (List UInt8)) := (idxL v1826 v2852).bind fun y3038 => roomM 1 (v1829.length + y3038.length) ((slcM v1826 (0 : Int) v2852).bind fun y3050 => roomM 16 (([] : List (List UInt8)).length + y3050.length) ((slcM v1826 (IntKind.i64.wrap (v2852 + (1 : Int))) (v1826.length : Int)).bind fun y3064 => roomM 16 ((([] : List (List UInt8)) ++ y3050).length + y3064.length) (some (.inl (((([] : List (List UInt8)) ++ y3050) ++ y3064), (v1829 ++ y3038))))))
noncomputable def gemotref1_Raised.b4 (v1826 : List (List UInt8)) (v1829 : List UInt8) : Option (((List (List UInt8)) × (List UInt8)) ⊕ (List UInt8)) := cond (decide ((v1826.length : Int) > (0 : Int))) ((loopM (fun s3001 : Int × Int => gemotref1_Raised.b2 v1826 v1829 s3001.1 s3001.2) ((0 : Int), (0 : Int))).bind (fun (o3000 : Int) => gemotref1_Raised.k3 v1826 v1829 o3000)) (some (.inr v1829))
noncomputable def gemotref1_Raised.k5 (v1551 : List UInt8) : Option ((List UInt8)) := some v1551
noncomputable def gemotref1_Raised.f (x0 : List (List UInt8)) : Option ((List UInt8)) := cond ((x0.length : Int) == (0 : Int)) (some [103]) (roomM 16 (([] : List (List UInt8)).length + x0.length) ((strM ([(IntKind.u8.wrap (x0.length : Int))] : List Int)).bind fun y23 => roomM 1 ([101].length + y23.length) ((loopM (fun s2666 : (List (List UInt8)) × (List UInt8) => gemotref1_Raised.b4 s2666.1 s2666.2) ((([] : List (List UInt8)) ++ x0), ([101] ++ y23))).bind (fun (o2664 : (List UInt8)) => gemotref1_Raised.k5 o2664))))
set_option maxHeartbeats 4000000 in
theorem gemotref1_Raised_ok {ok : Nat → Prop} {w : World} {u1 : Value} {x0 : List (List UInt8)} {r : (List UInt8)} (hu2 : slR tStr w ok u1 x0) (h : gemotref1_Raised.f x0 = some r) :
    Calls Tryz.prog 63 #[u1] w fun e w' => ∃ v, e = .returned v ∧ (v = .string (bs r) ∧ Bel w.heap.size w w') := by
  have H : Eng.Own ok w w [] := Eng.Own.nil ok w
  obtain ⟨A3, c4, rfl, H⟩ := H.arg rfl hu2
  unfold gemotref1_Raised.f at h
  refine enterN (args := [.slice A3 x0.length c4]) Tryz.func63 rfl Tryz.ntmps63 rfl rfl ?_
  refine nc_seq ?_
  refine nc ?_
  refine nc_seq ?_
  refine nc_seq ?_
  refine nc ?_
  refine nc_cond rfl (fun hc6 => ?_) (fun hc6 => ?_)
  · replace h := condT hc6 h
    refine nc_seq ?_
    refine nc ?_
    refine nc ?_
    replace h := Option.some.inj h
    subst h
    exact ret_inA [.string (bs [103])] ⟨_, rfl, ⟨rfl, H.frame⟩⟩
  · replace h := condF hc6 h
    refine nc ?_
    refine nc_seq ?_
    refine nc ?_
    refine own_buildEmpty (e := 9) (sz := 1) H (by kernel_rfl) (by kernel_rfl) fun z8 w11 H => ?_
    obtain ⟨A9, c10, rfl, _, _⟩ := H.rowSl 0 rfl
    replace H := H.addDat (dRows tStr [] []) rfl
    obtain ⟨hr12, h⟩ := roomS h
    refine own_appendD (k := tStr) (z := .string ⟨#[]⟩) 16 H 1 0 2 rfl rfl rfl rfl (by kernel_rfl) (by kernel_rfl) rfl rfl hr12 rfl fun z13 cs14 w15 H => ?_
    obtain ⟨A16, c17, rfl, _, _⟩ := H.rowSl 1 rfl
    refine nc_seq ?_
    refine nc ?_
    refine own_buildSlice (e := 5) (sz := 1) (z := .int .u8 0) (cs := [.int .u8 (IntKind.u8.wrap (x0.length : Int))]) H (by kernel_rfl) (by kernel_rfl) (by kernel_rfl) rfl rfl rfl rfl fun g20 w21 H => ?_
    replace H := H.blkSl (k := (tInt .u8)) [(IntKind.u8.wrap (x0.length : Int))] 1 rfl rfl (by decide) ⟨_, _, rfl, rfl, rfl⟩
    refine nc_seq ?_
    refine nc ?_
    obtain ⟨y23, hy24, h⟩ := bindS h
    refine own_strD (e := 5) H 0 rfl hy24 (by kernel_rfl) (by kernel_rfl) ?_
    obtain ⟨hr25, h⟩ := roomS h
    refine catM_rule hr25 ?_
    refine nc_cut (fun e w1552 => ∃ (v1551 : List UInt8), gemotref1_Raised.k5 v1551 = some r ∧ e = [(5, .string (bs v1551))] ∧ Eng.Own ok w w1552 []) ?_ ?_
    · skip
      refine nc_block ?_
      replace H := H.freeze (k := tStr) 2 1 rfl rfl
      obtain ⟨o2656, hL2657, hO2658⟩ := bindS h
      obtain ⟨n2659, hL2657⟩ := loopS hL2657
      refine nc ?_
      refine loop_ruleA (fun k e w2663 => ∃ (A1827 : Option Addr) (c1828 : Nat) (v1826 : List (List UInt8)) (v1829 : List UInt8), iterM (fun s2666 : (List (List UInt8)) × (List UInt8) => gemotref1_Raised.b4 s2666.1 s2666.2) k (v1826, v1829) = some o2656 ∧ e = [(3, .slice A1827 v1826.length c1828), (5, .string (bs v1829))] ∧ Eng.Own ok w w2663 [.dat (dSl tStr (.slice A1827 v1826.length c1828) v1826)]) ⟨A16, c17, _, _, hL2657, rfl, H.pickL [2] rfl⟩ ?_
      rintro k2668 _ w2667 ⟨A1827, c1828, v1826, v1829, hL2657, rfl, H⟩
      obtain ⟨k2662, rfl, q2660, h, hq2661⟩ := iterS hL2657
      replace h : gemotref1_Raised.b4 v1826 v1829 = some q2660 := h
      unfold gemotref1_Raised.b4 at h
      refine nc_seq ?_
      refine nc_seq ?_
      refine nc ?_
      refine nc_cond rfl (fun hc2669 => ?_) (fun hc2669 => ?_)
      · replace h := condT hc2669 h
        refine nc ?_
        refine nc_block ?_
        refine nc_seq ?_
        refine nc ?_
        refine nc_cut (fun e w2853 => ∃ (v2852 : Int), gemotref1_Raised.k3 v1826 v1829 v2852 = some q2660 ∧ e = [(3, .slice A1827 v1826.length c1828), (5, .string (bs v1829)), (6, .int .i64 v2852)] ∧ Eng.Own ok w w2853 [.dat (dSl tStr (.slice A1827 v1826.length c1828) v1826)]) ?_ ?_
        · skip
          refine nc_seq ?_
          refine nc ?_
          refine nc_block ?_
          obtain ⟨o2992, hL2993, hO2994⟩ := bindS h
          obtain ⟨n2995, hL2993⟩ := loopS hL2993
          refine nc ?_
          refine loop_ruleA (fun k e w2999 => ∃ (v2921 : Int) (v2922 : Int), iterM (fun s3001 : Int × Int => gemotref1_Raised.b2 v1826 v1829 s3001.1 s3001.2) k (v2921, v2922) = some o2992 ∧ e = [(3, .slice A1827 v1826.length c1828), (5, .string (bs v1829)), (6, .int .i64 v2921), (7, .int .i64 v2922)] ∧ Eng.Own ok w w2999 [.dat (dSl tStr (.slice A1827 v1826.length c1828) v1826)]) ⟨_, _, hL2993, rfl, H.pickL [0] rfl⟩ ?_
          rintro k3003 _ w3002 ⟨v2921, v2922, hL2993, rfl, H⟩
          obtain ⟨k2998, rfl, q2996, h, hq2997⟩ := iterS hL2993
          replace h : gemotref1_Raised.b2 v1826 v1829 v2921 v2922 = some q2996 := h
          unfold gemotref1_Raised.b2 at h
          refine nc_seq ?_
          refine nc_seq ?_
          refine nc ?_
          refine nc_cond rfl (fun hc3004 => ?_) (fun hc3004 => ?_)
          · replace h := condT hc3004 h
            refine nc ?_
            refine nc_cut (fun e w3020 => ∃ (v3019 : Int), gemotref1_Raised.k1 v1826 v1829 v2922 v3019 = some q2996 ∧ e = [(3, .slice A1827 v1826.length c1828), (5, .string (bs v1829)), (6, .int .i64 v3019), (7, .int .i64 v2922)] ∧ Eng.Own ok w w3020 [.dat (dSl tStr (.slice A1827 v1826.length c1828) v1826)]) ?_ ?_
            · skip
              refine nc_block ?_
              refine nc_seq ?_
              obtain ⟨y3022, hx3023, h⟩ := bindS h
              obtain ⟨a3024, cs3025, rfl, hR3026, H⟩ := H.elemI 0 rfl hx3023
              obtain rfl : cs3025 = [.string (bs y3022)] := hR3026
              obtain ⟨y3028, hx3029, h⟩ := bindS h
              obtain ⟨cs3031, hR3032, H⟩ := H.elemJ 1 rfl hx3029
              obtain rfl : cs3031 = [.string (bs y3028)] := hR3032
              refine nc ?_
              refine draw_rule [] (by kernel_rfl) (by kernel_rfl) H ?_
              refine c_idxA (e := 9) 1 _ (by kernel_rfl) (by kernel_rfl) (idxL_some hx3023).1 (idxL_some hx3023).2.1 ?_
              refine c_loadD 1 rfl 0 (by kernel_rfl) rfl ?_
              refine c_idxA (e := 9) 1 _ (by kernel_rfl) (by kernel_rfl) (idxL_some hx3029).1 (idxL_some hx3029).2.1 ?_
              refine c_loadD 0 rfl 0 (by kernel_rfl) rfl ?_
              intro w3034 H
              refine nc_cond rfl (fun hc3035 => ?_) (fun hc3035 => ?_)
              · replace h := condT hc3035 h
                refine nc ?_
                exact cut_inA ⟨_, h, rfl, H.pickL [2] rfl⟩
              · replace h := condF hc3035 h
                refine nc ?_
                exact cut_inA ⟨_, h, rfl, H.pickL [2] rfl⟩
            · rintro _ w3036 ⟨v3019, h, rfl, H⟩
              unfold gemotref1_Raised.k1 at h
              refine nc ?_
              cases h
              exact again_inA ⟨_, _, hq2997, rfl, H.pickL [0] rfl⟩
          · replace h := condF hc3004 h
            refine nc ?_
            cases h
            replace hq2997 : v2921 = o2992 := hq2997
            subst hq2997
            have h := hO2994
            try dsimp only [Sum.elim_inl, Sum.elim_inr] at h
            exact cut_inA ⟨_, h, rfl, H.pickL [0] rfl⟩
        · rintro _ w3037 ⟨v2852, h, rfl, H⟩
          unfold gemotref1_Raised.k3 at h
          refine nc_seq ?_
          refine nc ?_
          obtain ⟨y3038, hx3039, h⟩ := bindS h
          obtain ⟨a3040, cs3041, rfl, hR3042, H⟩ := H.elemI 0 rfl hx3039
          obtain rfl : cs3041 = [.string (bs y3038)] := hR3042
          refine idxA_rule (e := 9) 1 _ (by kernel_rfl) (by kernel_rfl) (idxL_some hx3039).1 (idxL_some hx3039).2.1 ?_
          refine own_loadD H 0 rfl 0 (by kernel_rfl) rfl ?_
          obtain ⟨hr3044, h⟩ := roomS h
          refine catM_rule hr3044 ?_
          obtain ⟨y3050, hx3051, h⟩ := bindS h
          obtain ⟨A3052, c3053, hp3054, H⟩ := H.pieceD 1 rfl hx3051
          have hn3056 := H.slLen 2 rfl
          obtain ⟨hr3057, h⟩ := roomS h
          obtain ⟨y3064, hx3065, h⟩ := bindS h
          obtain ⟨A3066, c3067, hp3068, H⟩ := H.pieceD 2 rfl hx3065
          have hn3070 := H.slLen 3 rfl
          obtain ⟨hr3071, h⟩ := roomS h
          refine nc ?_
          refine draw_rule [0, 0, 0, 0, 1000, 0, 0, 1000, 0, 1000, 0] (by kernel_rfl) (by kernel_rfl) H ?_
          refine c_buildEmpty (k := tStr) (e := 9) (by kernel_rfl) (by kernel_rfl) ?_
          intro A3047 c3048
          refine c_pieceI (e := 9) 1 (0 : Int) v2852 (by kernel_rfl) (by kernel_rfl) rfl ⟨_, rfl⟩ hx3051 hn3056 hp3054 ?_
          refine c_appendD (k := tStr) (z := .string ⟨#[]⟩) 16 1 0 3 rfl rfl rfl rfl (by kernel_rfl) (by kernel_rfl) rfl rfl hr3057 rfl ?_
          intro A3061 c3062 cs3059
          refine c_pieceI (e := 9) 1 (IntKind.i64.wrap (v2852 + (1 : Int))) (v1826.length : Int) (by kernel_rfl) (by kernel_rfl) ⟨_, rfl⟩ rfl hx3065 hn3070 hp3068 ?_
          refine c_appendF (k := tStr) (z := .string ⟨#[]⟩) 16 1 0 2 rfl rfl rfl rfl (by kernel_rfl) (by kernel_rfl) rfl rfl hr3071 rfl ?_
          intro A3075 c3076
          intro w3078 H
          cases h
          exact again_inA ⟨A3075, c3076, _, _, hq2661, rfl, H.pickL [0] rfl⟩
      · replace h := condF hc2669 h
        refine nc ?_
        cases h
        replace hq2661 : v1829 = o2656 := hq2661
        subst hq2661
        have h := hO2658
        try dsimp only [Sum.elim_inl, Sum.elim_inr] at h
        exact cut_inA ⟨_, h, rfl, H.pickL [] rfl⟩
    · rintro _ w3079 ⟨v1551, h, rfl, H⟩
      unfold gemotref1_Raised.k5 at h
      refine nc_seq ?_
      refine nc ?_
      refine nc ?_
      replace h := Option.some.inj h
      subst h
      exact ret_inA [.string (bs v1551)] ⟨_, rfl, ⟨rfl, H.frame⟩⟩
end Go.Proofs.YtgomlcfoifkdiaaGreat.G
