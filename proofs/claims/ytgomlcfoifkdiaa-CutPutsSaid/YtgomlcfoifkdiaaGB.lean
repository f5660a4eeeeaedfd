/- Walks, printed by a program of this proof's own. -/
import Derived.Test.YtgomlcfoifkdiaaGA
import Derived.KernelRfl
namespace Go.Proofs.Ytgomlcfoifkdiaa.G
open Go.RowKit Go.Eng Go.Proofs
set_option linter.unusedVariables false
set_option maxRecDepth 20000
/-! gemot/gemotlaw11.asLogs -/
noncomputable def gemotlaw11_asLogs.b1 (x0 : List D_cut_Log) (v261 : List D_gemotref11_Log) (v265 : Int) : Option (((List D_gemotref11_Log) × Int) ⊕ (List D_gemotref11_Log)) := cond (decide (v265 < (x0.length : Int))) ((idxL x0 v265).bind fun y377 => (idxL x0 v265).bind fun y388 => (gemotlaw11_texts.f y388.2).bind fun y399 => roomM 32 (v261.length + 1) (some (.inl ((v261 ++ [(y377.1, y399)]), (IntKind.i64.wrap (v265 + (1 : Int))))))) (some (.inr v261))
noncomputable def gemotlaw11_asLogs.k2 (v210 : List D_gemotref11_Log) : Option ((List D_gemotref11_Log)) := some v210
noncomputable def gemotlaw11_asLogs.f (x0 : List D_cut_Log) : Option ((List D_gemotref11_Log)) := (loopM (fun s373 : (List D_gemotref11_Log) × Int => gemotlaw11_asLogs.b1 x0 s373.1 s373.2) (([] : List D_gemotref11_Log), (0 : Int))).bind (fun (o371 : (List D_gemotref11_Log)) => gemotlaw11_asLogs.k2 o371)
set_option maxHeartbeats 4000000 in
theorem gemotlaw11_asLogs_ok {ok : Nat → Prop} {w : World} {u1 : Value} {x0 : List D_cut_Log} {r : (List D_gemotref11_Log)} (hu2 : slR t_cut_Log w ok u1 x0) (h : gemotlaw11_asLogs.f x0 = some r) :
    Calls Try.prog 25 #[u1] w fun e w' => ∃ v, e = .returned v ∧ (rowOut w w' ok t_gemotref11_Log 116 v r ∧ Bel w.heap.size w w') := by
  have H : Eng.Own ok w w [] := Eng.Own.nil ok w
  obtain ⟨A3, c4, rfl, H⟩ := H.arg rfl hu2
  unfold gemotlaw11_asLogs.f at h
  refine enterN (args := [.slice A3 x0.length c4]) Try.func25 rfl Try.ntmps25 rfl rfl ?_
  refine nc_seq ?_
  refine nc ?_
  refine nc_seq ?_
  refine nc ?_
  refine nc_cut (fun e w214 => ∃ (A211 : Option Addr) (c212 : Nat) (cs213 : List Value) (v210 : List D_gemotref11_Log), gemotlaw11_asLogs.k2 v210 = some r ∧ e = [(3, .slice A211 v210.length c212)] ∧ Eng.Own ok w w214 [.dat (dRows t_gemotref11_Log v210 cs213), .row (.slice A211 v210.length c212) 116 2 v210.length cs213]) ?_ ?_
  · skip
    refine nc_seq ?_
    refine nc ?_
    refine nc_block ?_
    replace H := H.nilRowD t_gemotref11_Log 116
    obtain ⟨o363, hL364, hO365⟩ := bindS h
    obtain ⟨n366, hL364⟩ := loopS hL364
    refine nc ?_
    refine loop_ruleA (fun k e w370 => ∃ (A262 : Option Addr) (c263 : Nat) (cs264 : List Value) (v261 : List D_gemotref11_Log) (v265 : Int), iterM (fun s373 : (List D_gemotref11_Log) × Int => gemotlaw11_asLogs.b1 x0 s373.1 s373.2) k (v261, v265) = some o363 ∧ e = [(0, .slice A3 x0.length c4), (3, .slice A262 v261.length c263), (4, .int .i64 v265)] ∧ Eng.Own ok w w370 [.dat (dSl t_cut_Log (.slice A3 x0.length c4) x0), .dat (dRows t_gemotref11_Log v261 cs264), .row (.slice A262 v261.length c263) 116 2 v261.length cs264]) ⟨none, 0, [], _, _, hL364, rfl, H.pickL [2, 0, 1] rfl⟩ ?_
    rintro k375 _ w374 ⟨A262, c263, cs264, v261, v265, hL364, rfl, H⟩
    obtain ⟨k369, rfl, q367, h, hq368⟩ := iterS hL364
    replace h : gemotlaw11_asLogs.b1 x0 v261 v265 = some q367 := h
    unfold gemotlaw11_asLogs.b1 at h
    refine nc_seq ?_
    refine nc_seq ?_
    refine nc ?_
    refine nc_cond rfl (fun hc376 => ?_) (fun hc376 => ?_)
    · replace h := condT hc376 h
      refine nc ?_
      refine nc_seq ?_
      refine nc_block ?_
      obtain ⟨y377, hx378, h⟩ := bindS h
      obtain ⟨a379, cs380, rfl, hR381, H⟩ := H.elemI 0 rfl hx378
      obtain ⟨u383, rfl, hu384⟩ := cut_Log_cells hR381
      obtain ⟨A385, c386, rfl, H⟩ := H.openD hu384
      obtain ⟨y388, hx389, h⟩ := bindS h
      obtain ⟨cs391, hR392, H⟩ := H.elemJ 2 rfl hx389
      obtain ⟨u394, rfl, hu395⟩ := cut_Log_cells hR392
      obtain ⟨A396, c397, rfl, H⟩ := H.openD hu395
      obtain ⟨y399, hy400, h⟩ := bindS h
      obtain ⟨hr411, h⟩ := roomS h
      refine nc ?_
      refine draw_rule [] (by kernel_rfl) (by kernel_rfl) H ?_
      refine c_idxA (e := 58) 2 _ (by kernel_rfl) (by kernel_rfl) (idxL_some hx378).1 (idxL_some hx378).2.1 ?_
      refine c_loadD 3 rfl 0 (by kernel_rfl) rfl ?_
      refine c_idxA (e := 58) 2 _ (by kernel_rfl) (by kernel_rfl) (idxL_some hx389).1 (idxL_some hx389).2.1 ?_
      refine c_loadD 1 rfl 1 (by kernel_rfl) rfl ?_
      refine c_callR rfl (by kernel_rfl) (fun _ H => gemotlaw11_texts_ok (H.dat 0 rfl) hy400) ?_
      intro A405 c406
      refine c_buildSlice (e := 116) (sz := 2) (z := .agg #[.int .i64 0, .slice none 0 0]) (cs := [.int .i64 y377.1, .slice A405 y399.length c406]) (by kernel_rfl) (by kernel_rfl) (by kernel_rfl) rfl rfl rfl rfl ?_
      intro g409
      refine c_append1 (k := t_gemotref11_Log) (z := .agg #[.int .i64 0, .slice none 0 0]) (x := (y377.1, y399)) 32 7 6 rfl rfl rfl (fun _ H => (gemotref11_Log_in (x := (y377.1, y399)) (H.dat 1 rfl))) (by kernel_rfl) (by kernel_rfl) rfl rfl hr411 rfl ?_
      intro z412 cs413
      intro w418 H
      obtain ⟨A415, c416, rfl, _, _⟩ := H.rowSl 7 rfl
      refine nc ?_
      cases h
      exact again_inA ⟨A415, c416, cs413, _, _, hq368, rfl, H.pickL [5, 6, 7] rfl⟩
    · replace h := condF hc376 h
      refine nc ?_
      cases h
      replace hq368 : v261 = o363 := hq368
      subst hq368
      have h := hO365
      try dsimp only [Sum.elim_inl, Sum.elim_inr] at h
      exact cut_inA ⟨A262, c263, cs264, _, h, rfl, H.pickL [1, 2] rfl⟩
  · rintro _ w419 ⟨A211, c212, cs213, v210, h, rfl, H⟩
    unfold gemotlaw11_asLogs.k2 at h
    refine nc_seq ?_
    refine nc ?_
    refine nc ?_
    replace h := Option.some.inj h
    subst h
    exact ret_inA [.slice A211 v210.length c212] ⟨_, rfl, ⟨H.outR 1 0 rfl rfl rfl, H.frame⟩⟩
/-! gemot/gemotlaw11.shortLogs -/
noncomputable def gemotlaw11_shortLogs.b1 (x0 : List D_cut_Log) (v1382 : Int) (v2106 : Int) (v2107 : Int) : Option ((Int × Int) ⊕ Int) := (idxL x0 v1382).bind fun y2181 => cond (decide (v2107 < (y2181.2.length : Int))) ((idxL x0 v1382).bind fun y2193 => (idxL y2193.2 v2107).bind fun y2204 => some (.inl ((IntKind.i64.wrap ((IntKind.i64.wrap (v2106 + (1 : Int))) + (y2204.length : Int))), (IntKind.i64.wrap (v2107 + (1 : Int)))))) (some (.inr v2106))
noncomputable def gemotlaw11_shortLogs.k2 (x0 : List D_cut_Log) (v1382 : Int) (v2074 : Int) : Option ((Int × Int) ⊕ Int) := some (.inl (v2074, (IntKind.i64.wrap (v1382 + (1 : Int)))))
noncomputable def gemotlaw11_shortLogs.b3 (x0 : List D_cut_Log) (v1381 : Int) (v1382 : Int) : Option ((Int × Int) ⊕ Int) := cond (decide (v1382 < (x0.length : Int))) ((loopM (fun s2178 : Int × Int => gemotlaw11_shortLogs.b1 x0 v1382 s2178.1 s2178.2) (v1381, (0 : Int))).bind (fun (o2177 : Int) => gemotlaw11_shortLogs.k2 x0 v1382 o2177)) (some (.inr v1381))
noncomputable def gemotlaw11_shortLogs.k4 (x0 : List D_cut_Log) (v1107 : Int) : Option (Bool) := some (cond (decide ((x0.length : Int) < (20 : Int))) (decide (v1107 < (3000 : Int))) false)
noncomputable def gemotlaw11_shortLogs.f (x0 : List D_cut_Log) : Option (Bool) := (loopM (fun s1937 : Int × Int => gemotlaw11_shortLogs.b3 x0 s1937.1 s1937.2) ((0 : Int), (0 : Int))).bind (fun (o1936 : Int) => gemotlaw11_shortLogs.k4 x0 o1936)
set_option maxHeartbeats 4000000 in
theorem gemotlaw11_shortLogs_ok {ok : Nat → Prop} {w : World} {u1 : Value} {x0 : List D_cut_Log} {r : Bool} (hu2 : slR t_cut_Log w ok u1 x0) (h : gemotlaw11_shortLogs.f x0 = some r) :
    Calls Try.prog 15 #[u1] w fun e w' => ∃ v, e = .returned v ∧ (v = .bool r ∧ Bel w.heap.size w w') := by
  have H : Eng.Own ok w w [] := Eng.Own.nil ok w
  obtain ⟨A3, c4, rfl, H⟩ := H.arg rfl hu2
  unfold gemotlaw11_shortLogs.f at h
  refine enterN (args := [.slice A3 x0.length c4]) Try.func15 rfl Try.ntmps15 rfl rfl ?_
  refine nc_seq ?_
  refine nc ?_
  refine nc_seq ?_
  refine nc ?_
  refine nc_cut (fun e w1108 => ∃ (v1107 : Int), gemotlaw11_shortLogs.k4 x0 v1107 = some r ∧ e = [(0, .slice A3 x0.length c4), (3, .int .i64 v1107)] ∧ Eng.Own ok w w1108 [.dat (dSl t_cut_Log (.slice A3 x0.length c4) x0)]) ?_ ?_
  · skip
    refine nc_seq ?_
    refine nc ?_
    refine nc_block ?_
    obtain ⟨o1928, hL1929, hO1930⟩ := bindS h
    obtain ⟨n1931, hL1929⟩ := loopS hL1929
    refine nc ?_
    refine loop_ruleA (fun k e w1935 => ∃ (v1381 : Int) (v1382 : Int), iterM (fun s1937 : Int × Int => gemotlaw11_shortLogs.b3 x0 s1937.1 s1937.2) k (v1381, v1382) = some o1928 ∧ e = [(0, .slice A3 x0.length c4), (3, .int .i64 v1381), (4, .int .i64 v1382)] ∧ Eng.Own ok w w1935 [.dat (dSl t_cut_Log (.slice A3 x0.length c4) x0)]) ⟨_, _, hL1929, rfl, H.pickL [0] rfl⟩ ?_
    rintro k1939 _ w1938 ⟨v1381, v1382, hL1929, rfl, H⟩
    obtain ⟨k1934, rfl, q1932, h, hq1933⟩ := iterS hL1929
    replace h : gemotlaw11_shortLogs.b3 x0 v1381 v1382 = some q1932 := h
    unfold gemotlaw11_shortLogs.b3 at h
    refine nc_seq ?_
    refine nc_seq ?_
    refine nc ?_
    refine nc_cond rfl (fun hc1940 => ?_) (fun hc1940 => ?_)
    · replace h := condT hc1940 h
      refine nc ?_
      refine nc_cut (fun e w2075 => ∃ (v2074 : Int), gemotlaw11_shortLogs.k2 x0 v1382 v2074 = some q1932 ∧ e = [(0, .slice A3 x0.length c4), (3, .int .i64 v2074), (4, .int .i64 v1382)] ∧ Eng.Own ok w w2075 [.dat (dSl t_cut_Log (.slice A3 x0.length c4) x0)]) ?_ ?_
      · skip
        refine nc_block ?_
        refine nc_seq ?_
        refine nc ?_
        refine nc_block ?_
        obtain ⟨o2169, hL2170, hO2171⟩ := bindS h
        obtain ⟨n2172, hL2170⟩ := loopS hL2170
        refine nc ?_
        refine loop_ruleA (fun k e w2176 => ∃ (v2106 : Int) (v2107 : Int), iterM (fun s2178 : Int × Int => gemotlaw11_shortLogs.b1 x0 v1382 s2178.1 s2178.2) k (v2106, v2107) = some o2169 ∧ e = [(0, .slice A3 x0.length c4), (3, .int .i64 v2106), (4, .int .i64 v1382), (5, .int .i64 v2107)] ∧ Eng.Own ok w w2176 [.dat (dSl t_cut_Log (.slice A3 x0.length c4) x0)]) ⟨_, _, hL2170, rfl, H.pickL [0] rfl⟩ ?_
        rintro k2180 _ w2179 ⟨v2106, v2107, hL2170, rfl, H⟩
        obtain ⟨k2175, rfl, q2173, h, hq2174⟩ := iterS hL2170
        replace h : gemotlaw11_shortLogs.b1 x0 v1382 v2106 v2107 = some q2173 := h
        unfold gemotlaw11_shortLogs.b1 at h
        refine nc_seq ?_
        refine nc_seq ?_
        refine nc ?_
        obtain ⟨y2181, hx2182, h⟩ := bindS h
        obtain ⟨a2183, cs2184, rfl, hR2185, H⟩ := H.elemI 0 rfl hx2182
        obtain ⟨u2187, rfl, hu2188⟩ := cut_Log_cells hR2185
        obtain ⟨A2189, c2190, rfl, H⟩ := H.openD hu2188
        refine idxA_rule (e := 58) 2 _ (by kernel_rfl) (by kernel_rfl) (idxL_some hx2182).1 (idxL_some hx2182).2.1 ?_
        refine own_loadD H 1 rfl 1 (by kernel_rfl) rfl ?_
        refine nc_cond rfl (fun hc2192 => ?_) (fun hc2192 => ?_)
        · replace h := condT hc2192 h
          refine nc ?_
          refine nc_seq ?_
          refine nc_block ?_
          refine nc ?_
          obtain ⟨y2193, hx2194, h⟩ := bindS h
          obtain ⟨cs2196, hR2197, H⟩ := H.elemJ 2 rfl hx2194
          obtain ⟨u2199, rfl, hu2200⟩ := cut_Log_cells hR2197
          obtain ⟨A2201, c2202, rfl, H⟩ := H.openD hu2200
          refine idxA_rule (e := 58) 2 _ (by kernel_rfl) (by kernel_rfl) (idxL_some hx2194).1 (idxL_some hx2194).2.1 ?_
          refine own_loadD H 1 rfl 1 (by kernel_rfl) rfl ?_
          obtain ⟨y2204, hx2205, h⟩ := bindS h
          obtain ⟨a2206, cs2207, rfl, hR2208, H⟩ := H.elemI 0 rfl hx2205
          obtain rfl : cs2207 = [.string (bs y2204)] := hR2208
          refine idxA_rule (e := 62) 1 _ (by kernel_rfl) (by kernel_rfl) (idxL_some hx2205).1 (idxL_some hx2205).2.1 ?_
          refine own_loadD H 0 rfl 0 (by kernel_rfl) rfl ?_
          refine nc ?_
          cases h
          exact again_inA ⟨_, _, hq2174, rfl, H.pickL [5] rfl⟩
        · replace h := condF hc2192 h
          refine nc ?_
          cases h
          replace hq2174 : v2106 = o2169 := hq2174
          subst hq2174
          have h := hO2171
          try dsimp only [Sum.elim_inl, Sum.elim_inr] at h
          exact cut_inA ⟨_, h, rfl, H.pickL [2] rfl⟩
      · rintro _ w2210 ⟨v2074, h, rfl, H⟩
        unfold gemotlaw11_shortLogs.k2 at h
        refine nc ?_
        cases h
        exact again_inA ⟨_, _, hq1933, rfl, H.pickL [0] rfl⟩
    · replace h := condF hc1940 h
      refine nc ?_
      cases h
      replace hq1933 : v1381 = o1928 := hq1933
      subst hq1933
      have h := hO1930
      try dsimp only [Sum.elim_inl, Sum.elim_inr] at h
      exact cut_inA ⟨_, h, rfl, H.pickL [0] rfl⟩
  · rintro _ w2211 ⟨v1107, h, rfl, H⟩
    unfold gemotlaw11_shortLogs.k4 at h
    refine nc_seq ?_
    refine nc ?_
    refine nc ?_
    replace h := Option.some.inj h
    subst h
    exact ret_inA [.bool (cond (decide ((x0.length : Int) < (20 : Int))) (decide (v1107 < (3000 : Int))) false)] ⟨_, rfl, ⟨rfl, H.frame⟩⟩
/-! gemot/gemotlaw11.asParts -/
noncomputable def gemotlaw11_asParts.b1 (x0 : List D_cut_Part) (v427 : List D_gemotref11_Part) (v431 : Int) : Option (((List D_gemotref11_Part) × Int) ⊕ ((List D_gemotref11_Part) ⊕ ((List D_gemotref11_Part) × Bool))) := cond (decide (v431 < (x0.length : Int))) ((idxL x0 v431).bind fun y610 => (gemotlaw11_shortLogs.f ([((0 : Int), y610.2.2)] : List D_cut_Log)).bind fun y625 => cond (!y625) (some (.inr (Sum.inr (([] : List D_gemotref11_Part), false)))) ((idxL x0 v431).bind fun y632 => (idxL x0 v431).bind fun y643 => (idxL x0 v431).bind fun y654 => (gemotlaw11_texts.f y654.2.2).bind fun y665 => roomM 48 (v427.length + 1) (some (.inl ((v427 ++ [((y632.1.1, y632.1.2), y643.2.1, y665)]), (IntKind.i64.wrap (v431 + (1 : Int)))))))) (some (.inr (Sum.inl v427)))
noncomputable def gemotlaw11_asParts.k2 (x0 : List D_cut_Part) (v343 : List D_gemotref11_Part) : Option ((List D_gemotref11_Part) × Bool) := some (v343, (decide ((x0.length : Int) < (20 : Int))))
noncomputable def gemotlaw11_asParts.f (x0 : List D_cut_Part) : Option ((List D_gemotref11_Part) × Bool) := (loopM (fun s606 : (List D_gemotref11_Part) × Int => gemotlaw11_asParts.b1 x0 s606.1 s606.2) (([] : List D_gemotref11_Part), (0 : Int))).bind (Sum.elim (fun (o603 : (List D_gemotref11_Part)) => gemotlaw11_asParts.k2 x0 o603) (fun (o604 : (List D_gemotref11_Part) × Bool) => some o604))
set_option maxHeartbeats 4000000 in
theorem gemotlaw11_asParts_ok {ok : Nat → Prop} {w : World} {u1 : Value} {x0 : List D_cut_Part} {r : (List D_gemotref11_Part) × Bool} (hu2 : slR t_cut_Part w ok u1 x0) (h : gemotlaw11_asParts.f x0 = some r) :
    Calls Try.prog 14 #[u1] w fun e w' => ∃ v, e = .returned v ∧ (∃ (u0_ : Value), v = .tuple #[u0_, .bool r.2] ∧ slR t_gemotref11_Part w' (fun b => ok b ∨ w.heap.size ≤ b) u0_ r.1 ∧ Bel w.heap.size w w') := by
  have H : Eng.Own ok w w [] := Eng.Own.nil ok w
  obtain ⟨A3, c4, rfl, H⟩ := H.arg rfl hu2
  unfold gemotlaw11_asParts.f at h
  refine enterN (args := [.slice A3 x0.length c4]) Try.func14 rfl Try.ntmps14 rfl rfl ?_
  refine nc_seq ?_
  refine nc ?_
  refine nc_seq ?_
  refine nc ?_
  refine nc_cut (fun e w347 => ∃ (A344 : Option Addr) (c345 : Nat) (cs346 : List Value) (v343 : List D_gemotref11_Part), gemotlaw11_asParts.k2 x0 v343 = some r ∧ e = [(0, .slice A3 x0.length c4), (4, .slice A344 v343.length c345)] ∧ Eng.Own ok w w347 [.dat (dSl t_cut_Part (.slice A3 x0.length c4) x0), .dat (dRows t_gemotref11_Part v343 cs346), .row (.slice A344 v343.length c345) 102 4 v343.length cs346]) ?_ ?_
  · skip
    refine nc_seq ?_
    refine nc ?_
    refine nc_block ?_
    replace H := H.nilRowD t_gemotref11_Part 102
    obtain ⟨o595, hL596, hO597⟩ := bindS h
    obtain ⟨n598, hL596⟩ := loopS hL596
    refine nc ?_
    refine loop_ruleA (fun k e w602 => ∃ (A428 : Option Addr) (c429 : Nat) (cs430 : List Value) (v427 : List D_gemotref11_Part) (v431 : Int), iterM (fun s606 : (List D_gemotref11_Part) × Int => gemotlaw11_asParts.b1 x0 s606.1 s606.2) k (v427, v431) = some o595 ∧ e = [(0, .slice A3 x0.length c4), (4, .slice A428 v427.length c429), (5, .int .i64 v431)] ∧ Eng.Own ok w w602 [.dat (dSl t_cut_Part (.slice A3 x0.length c4) x0), .dat (dRows t_gemotref11_Part v427 cs430), .row (.slice A428 v427.length c429) 102 4 v427.length cs430]) ⟨none, 0, [], _, _, hL596, rfl, H.pickL [2, 0, 1] rfl⟩ ?_
    rintro k608 _ w607 ⟨A428, c429, cs430, v427, v431, hL596, rfl, H⟩
    obtain ⟨k601, rfl, q599, h, hq600⟩ := iterS hL596
    replace h : gemotlaw11_asParts.b1 x0 v427 v431 = some q599 := h
    unfold gemotlaw11_asParts.b1 at h
    refine nc_seq ?_
    refine nc_seq ?_
    refine nc ?_
    refine nc_cond rfl (fun hc609 => ?_) (fun hc609 => ?_)
    · replace h := condT hc609 h
      refine nc ?_
      refine nc_seq ?_
      refine nc_block ?_
      refine nc_seq ?_
      refine nc_seq ?_
      refine nc ?_
      obtain ⟨y610, hx611, h⟩ := bindS h
      obtain ⟨a612, cs613, rfl, hR614, H⟩ := H.elemI 0 rfl hx611
      obtain ⟨u616, rfl, hu617⟩ := cut_Part_cells hR614
      obtain ⟨A618, c619, rfl, H⟩ := H.openD hu617
      refine idxA_rule (e := 37) 4 _ (by kernel_rfl) (by kernel_rfl) (idxL_some hx611).1 (idxL_some hx611).2.1 ?_
      refine own_loadD H 1 rfl 3 (by kernel_rfl) rfl ?_
      refine own_buildSlice (e := 58) (sz := 2) (z := .agg #[.int .i64 0, .slice none 0 0]) (cs := [.int .i64 0, .slice A618 y610.2.2.length c619]) H (by kernel_rfl) (by kernel_rfl) (by kernel_rfl) rfl rfl rfl rfl fun g622 w623 H => ?_
      replace H := H.blkSl (k := t_cut_Log) [((0 : Int), y610.2.2)] 1 rfl rfl (by decide) ⟨_, _, rfl, (cut_Log_in (x := ((0 : Int), y610.2.2)) (H.dat 1 rfl)), rfl⟩
      obtain ⟨y625, hy626, h⟩ := bindS h
      refine call_rule (by kernel_rfl) (gemotlaw11_shortLogs_ok (H.dat 0 rfl) hy626) fun v628 w627 ⟨hv629, hb630⟩ => ?_
      subst hv629
      replace H := H.call hb630
      refine nc_cond rfl (fun hc631 => ?_) (fun hc631 => ?_)
      · replace h := condT hc631 h
        refine nc_seq ?_
        refine nc ?_
        refine nc ?_
        cases h
        replace hq600 : (Sum.inr (([] : List D_gemotref11_Part), false)) = o595 := hq600
        subst hq600
        have h := hO597
        try dsimp only [Sum.elim_inl, Sum.elim_inr] at h
        replace h := Option.some.inj h
        subst h
        exact ret_inA [.slice none 0 0, .bool false] ⟨_, rfl, ⟨_, rfl, nilR, H.frame⟩⟩
      · replace h := condF hc631 h
        refine nc ?_
        obtain ⟨y632, hx633, h⟩ := bindS h
        obtain ⟨cs635, hR636, H⟩ := H.elemJ 3 rfl hx633
        obtain ⟨u638, rfl, hu639⟩ := cut_Part_cells hR636
        obtain ⟨A640, c641, rfl, H⟩ := H.openD hu639
        obtain ⟨y643, hx644, h⟩ := bindS h
        obtain ⟨cs646, hR647, H⟩ := H.elemJ 5 rfl hx644
        obtain ⟨u649, rfl, hu650⟩ := cut_Part_cells hR647
        obtain ⟨A651, c652, rfl, H⟩ := H.openD hu650
        obtain ⟨y654, hx655, h⟩ := bindS h
        obtain ⟨cs657, hR658, H⟩ := H.elemJ 7 rfl hx655
        obtain ⟨u660, rfl, hu661⟩ := cut_Part_cells hR658
        obtain ⟨A662, c663, rfl, H⟩ := H.openD hu661
        obtain ⟨y665, hy666, h⟩ := bindS h
        obtain ⟨hr677, h⟩ := roomS h
        refine nc ?_
        refine draw_rule [] (by kernel_rfl) (by kernel_rfl) H ?_
        refine c_idxA (e := 37) 4 _ (by kernel_rfl) (by kernel_rfl) (idxL_some hx633).1 (idxL_some hx633).2.1 ?_
        refine c_loadDA (m := 2) 5 rfl 0 (by kernel_rfl) (by kernel_rfl) [.int .i64 y632.1.1, .int .i64 y632.1.2] rfl rfl ?_
        refine c_idxA (e := 37) 4 _ (by kernel_rfl) (by kernel_rfl) (idxL_some hx644).1 (idxL_some hx644).2.1 ?_
        refine c_loadD 3 rfl 2 (by kernel_rfl) rfl ?_
        refine c_idxA (e := 37) 4 _ (by kernel_rfl) (by kernel_rfl) (idxL_some hx655).1 (idxL_some hx655).2.1 ?_
        refine c_loadD 1 rfl 3 (by kernel_rfl) rfl ?_
        refine c_callR rfl (by kernel_rfl) (fun _ H => gemotlaw11_texts_ok (H.dat 0 rfl) hy666) ?_
        intro A671 c672
        refine c_buildSlice (e := 102) (sz := 4) (z := .agg #[.int .i64 0, .int .i64 0, .int .i64 0, .slice none 0 0]) (cs := [.int .i64 y632.1.1, .int .i64 y632.1.2, .int .i64 y643.2.1, .slice A671 y665.length c672]) (by kernel_rfl) (by kernel_rfl) (by kernel_rfl) rfl rfl rfl rfl ?_
        intro g675
        refine c_append1 (k := t_gemotref11_Part) (z := .agg #[.int .i64 0, .int .i64 0, .int .i64 0, .slice none 0 0]) (x := ((y632.1.1, y632.1.2), y643.2.1, y665)) 48 12 11 rfl rfl rfl (fun _ H => (gemotref11_Part_in (x := ((y632.1.1, y632.1.2), y643.2.1, y665)) (H.dat 1 rfl))) (by kernel_rfl) (by kernel_rfl) rfl rfl hr677 rfl ?_
        intro z678 cs679
        intro w684 H
        obtain ⟨A681, c682, rfl, _, _⟩ := H.rowSl 12 rfl
        refine nc ?_
        cases h
        exact again_inA ⟨A681, c682, cs679, _, _, hq600, rfl, H.pickL [10, 11, 12] rfl⟩
    · replace h := condF hc609 h
      refine nc ?_
      cases h
      replace hq600 : (Sum.inl v427) = o595 := hq600
      subst hq600
      have h := hO597
      try dsimp only [Sum.elim_inl, Sum.elim_inr] at h
      exact cut_inA ⟨A428, c429, cs430, _, h, rfl, H.pickL [0, 1, 2] rfl⟩
  · rintro _ w685 ⟨A344, c345, cs346, v343, h, rfl, H⟩
    unfold gemotlaw11_asParts.k2 at h
    refine nc_seq ?_
    refine nc ?_
    refine nc ?_
    replace H := H.freeze (k := t_gemotref11_Part) 2 1 rfl rfl
    replace h := Option.some.inj h
    subst h
    exact ret_inA [.slice A344 v343.length c345, .bool (decide ((x0.length : Int) < (20 : Int)))] ⟨_, rfl, ⟨_, rfl, H.outD 2 rfl, H.frame⟩⟩
/-! gemot/gemotlaw11.asReports -/
noncomputable def gemotlaw11_asReports.b1 (x0 : List D_cut_Report) (v407 : List D_gemotref11_Report) (v411 : Int) : Option (((List D_gemotref11_Report) × Int) ⊕ ((List D_gemotref11_Report) ⊕ ((List D_gemotref11_Report) × Bool))) := cond (decide (v411 < (x0.length : Int))) ((idxL x0 v411).bind fun y582 => (gemotlaw11_shortLogs.f y582.2.2).bind fun y593 => cond (!y593) (some (.inr (Sum.inr (([] : List D_gemotref11_Report), false)))) ((idxL x0 v411).bind fun y600 => (idxL x0 v411).bind fun y611 => (idxL x0 v411).bind fun y622 => (gemotlaw11_asLogs.f y622.2.2).bind fun y633 => roomM 48 (v407.length + 1) (some (.inl ((v407 ++ [(y600.1, (y611.2.1.1, y611.2.1.2), y633)]), (IntKind.i64.wrap (v411 + (1 : Int)))))))) (some (.inr (Sum.inl v407)))
noncomputable def gemotlaw11_asReports.k2 (x0 : List D_cut_Report) (v327 : List D_gemotref11_Report) : Option ((List D_gemotref11_Report) × Bool) := some (v327, (decide ((x0.length : Int) < (12 : Int))))
noncomputable def gemotlaw11_asReports.f (x0 : List D_cut_Report) : Option ((List D_gemotref11_Report) × Bool) := (loopM (fun s578 : (List D_gemotref11_Report) × Int => gemotlaw11_asReports.b1 x0 s578.1 s578.2) (([] : List D_gemotref11_Report), (0 : Int))).bind (Sum.elim (fun (o575 : (List D_gemotref11_Report)) => gemotlaw11_asReports.k2 x0 o575) (fun (o576 : (List D_gemotref11_Report) × Bool) => some o576))
set_option maxHeartbeats 4000000 in
theorem gemotlaw11_asReports_ok {ok : Nat → Prop} {w : World} {u1 : Value} {x0 : List D_cut_Report} {r : (List D_gemotref11_Report) × Bool} (hu2 : slR t_cut_Report w ok u1 x0) (h : gemotlaw11_asReports.f x0 = some r) :
    Calls Try.prog 13 #[u1] w fun e w' => ∃ v, e = .returned v ∧ (∃ (u0_ : Value), v = .tuple #[u0_, .bool r.2] ∧ slR t_gemotref11_Report w' (fun b => ok b ∨ w.heap.size ≤ b) u0_ r.1 ∧ Bel w.heap.size w w') := by
  have H : Eng.Own ok w w [] := Eng.Own.nil ok w
  obtain ⟨A3, c4, rfl, H⟩ := H.arg rfl hu2
  unfold gemotlaw11_asReports.f at h
  refine enterN (args := [.slice A3 x0.length c4]) Try.func13 rfl Try.ntmps13 rfl rfl ?_
  refine nc_seq ?_
  refine nc ?_
  refine nc_seq ?_
  refine nc ?_
  refine nc_cut (fun e w331 => ∃ (A328 : Option Addr) (c329 : Nat) (cs330 : List Value) (v327 : List D_gemotref11_Report), gemotlaw11_asReports.k2 x0 v327 = some r ∧ e = [(0, .slice A3 x0.length c4), (4, .slice A328 v327.length c329)] ∧ Eng.Own ok w w331 [.dat (dSl t_cut_Report (.slice A3 x0.length c4) x0), .dat (dRows t_gemotref11_Report v327 cs330), .row (.slice A328 v327.length c329) 100 4 v327.length cs330]) ?_ ?_
  · skip
    refine nc_seq ?_
    refine nc ?_
    refine nc_block ?_
    replace H := H.nilRowD t_gemotref11_Report 100
    obtain ⟨o567, hL568, hO569⟩ := bindS h
    obtain ⟨n570, hL568⟩ := loopS hL568
    refine nc ?_
    refine loop_ruleA (fun k e w574 => ∃ (A408 : Option Addr) (c409 : Nat) (cs410 : List Value) (v407 : List D_gemotref11_Report) (v411 : Int), iterM (fun s578 : (List D_gemotref11_Report) × Int => gemotlaw11_asReports.b1 x0 s578.1 s578.2) k (v407, v411) = some o567 ∧ e = [(0, .slice A3 x0.length c4), (4, .slice A408 v407.length c409), (5, .int .i64 v411)] ∧ Eng.Own ok w w574 [.dat (dSl t_cut_Report (.slice A3 x0.length c4) x0), .dat (dRows t_gemotref11_Report v407 cs410), .row (.slice A408 v407.length c409) 100 4 v407.length cs410]) ⟨none, 0, [], _, _, hL568, rfl, H.pickL [2, 0, 1] rfl⟩ ?_
    rintro k580 _ w579 ⟨A408, c409, cs410, v407, v411, hL568, rfl, H⟩
    obtain ⟨k573, rfl, q571, h, hq572⟩ := iterS hL568
    replace h : gemotlaw11_asReports.b1 x0 v407 v411 = some q571 := h
    unfold gemotlaw11_asReports.b1 at h
    refine nc_seq ?_
    refine nc_seq ?_
    refine nc ?_
    refine nc_cond rfl (fun hc581 => ?_) (fun hc581 => ?_)
    · replace h := condT hc581 h
      refine nc ?_
      refine nc_seq ?_
      refine nc_block ?_
      refine nc_seq ?_
      refine nc_seq ?_
      refine nc ?_
      obtain ⟨y582, hx583, h⟩ := bindS h
      obtain ⟨a584, cs585, rfl, hR586, H⟩ := H.elemI 0 rfl hx583
      obtain ⟨u588, rfl, hu589⟩ := cut_Report_cells hR586
      obtain ⟨A590, c591, rfl, H⟩ := H.openD hu589
      refine idxA_rule (e := 55) 4 _ (by kernel_rfl) (by kernel_rfl) (idxL_some hx583).1 (idxL_some hx583).2.1 ?_
      refine own_loadD H 1 rfl 3 (by kernel_rfl) rfl ?_
      obtain ⟨y593, hy594, h⟩ := bindS h
      refine call_rule (by kernel_rfl) (gemotlaw11_shortLogs_ok (H.dat 0 rfl) hy594) fun v596 w595 ⟨hv597, hb598⟩ => ?_
      subst hv597
      replace H := H.call hb598
      refine nc_cond rfl (fun hc599 => ?_) (fun hc599 => ?_)
      · replace h := condT hc599 h
        refine nc_seq ?_
        refine nc ?_
        refine nc ?_
        cases h
        replace hq572 : (Sum.inr (([] : List D_gemotref11_Report), false)) = o567 := hq572
        subst hq572
        have h := hO569
        try dsimp only [Sum.elim_inl, Sum.elim_inr] at h
        replace h := Option.some.inj h
        subst h
        exact ret_inA [.slice none 0 0, .bool false] ⟨_, rfl, ⟨_, rfl, nilR, H.frame⟩⟩
      · replace h := condF hc599 h
        refine nc ?_
        obtain ⟨y600, hx601, h⟩ := bindS h
        obtain ⟨cs603, hR604, H⟩ := H.elemJ 2 rfl hx601
        obtain ⟨u606, rfl, hu607⟩ := cut_Report_cells hR604
        obtain ⟨A608, c609, rfl, H⟩ := H.openD hu607
        obtain ⟨y611, hx612, h⟩ := bindS h
        obtain ⟨cs614, hR615, H⟩ := H.elemJ 4 rfl hx612
        obtain ⟨u617, rfl, hu618⟩ := cut_Report_cells hR615
        obtain ⟨A619, c620, rfl, H⟩ := H.openD hu618
        obtain ⟨y622, hx623, h⟩ := bindS h
        obtain ⟨cs625, hR626, H⟩ := H.elemJ 6 rfl hx623
        obtain ⟨u628, rfl, hu629⟩ := cut_Report_cells hR626
        obtain ⟨A630, c631, rfl, H⟩ := H.openD hu629
        obtain ⟨y633, hy634, h⟩ := bindS h
        obtain ⟨hr645, h⟩ := roomS h
        refine nc ?_
        refine draw_rule [] (by kernel_rfl) (by kernel_rfl) H ?_
        refine c_idxA (e := 55) 4 _ (by kernel_rfl) (by kernel_rfl) (idxL_some hx601).1 (idxL_some hx601).2.1 ?_
        refine c_loadD 5 rfl 0 (by kernel_rfl) rfl ?_
        refine c_idxA (e := 55) 4 _ (by kernel_rfl) (by kernel_rfl) (idxL_some hx612).1 (idxL_some hx612).2.1 ?_
        refine c_loadDA (m := 2) 3 rfl 1 (by kernel_rfl) (by kernel_rfl) [.int .i64 y611.2.1.1, .int .i64 y611.2.1.2] rfl rfl ?_
        refine c_idxA (e := 55) 4 _ (by kernel_rfl) (by kernel_rfl) (idxL_some hx623).1 (idxL_some hx623).2.1 ?_
        refine c_loadD 1 rfl 3 (by kernel_rfl) rfl ?_
        refine c_callR rfl (by kernel_rfl) (fun _ H => gemotlaw11_asLogs_ok (H.dat 0 rfl) hy634) ?_
        intro A639 c640
        refine c_buildSlice (e := 100) (sz := 4) (z := .agg #[.int .i64 0, .int .i64 0, .int .i64 0, .slice none 0 0]) (cs := [.int .i64 y600.1, .int .i64 y611.2.1.1, .int .i64 y611.2.1.2, .slice A639 y633.length c640]) (by kernel_rfl) (by kernel_rfl) (by kernel_rfl) rfl rfl rfl rfl ?_
        intro g643
        refine c_append1 (k := t_gemotref11_Report) (z := .agg #[.int .i64 0, .int .i64 0, .int .i64 0, .slice none 0 0]) (x := (y600.1, (y611.2.1.1, y611.2.1.2), y633)) 48 11 10 rfl rfl rfl (fun _ H => (gemotref11_Report_in (x := (y600.1, (y611.2.1.1, y611.2.1.2), y633)) (H.dat 1 rfl))) (by kernel_rfl) (by kernel_rfl) rfl rfl hr645 rfl ?_
        intro z646 cs647
        intro w652 H
        obtain ⟨A649, c650, rfl, _, _⟩ := H.rowSl 11 rfl
        refine nc ?_
        cases h
        exact again_inA ⟨A649, c650, cs647, _, _, hq572, rfl, H.pickL [9, 10, 11] rfl⟩
    · replace h := condF hc581 h
      refine nc ?_
      cases h
      replace hq572 : (Sum.inl v407) = o567 := hq572
      subst hq572
      have h := hO569
      try dsimp only [Sum.elim_inl, Sum.elim_inr] at h
      exact cut_inA ⟨A408, c409, cs410, _, h, rfl, H.pickL [0, 1, 2] rfl⟩
  · rintro _ w653 ⟨A328, c329, cs330, v327, h, rfl, H⟩
    unfold gemotlaw11_asReports.k2 at h
    refine nc_seq ?_
    refine nc ?_
    refine nc ?_
    replace H := H.freeze (k := t_gemotref11_Report) 2 1 rfl rfl
    replace h := Option.some.inj h
    subst h
    exact ret_inA [.slice A328 v327.length c329, .bool (decide ((x0.length : Int) < (12 : Int)))] ⟨_, rfl, ⟨_, rfl, H.outD 2 rfl, H.frame⟩⟩
/-! gemot/gemotlaw11.sameLogs -/
noncomputable def gemotlaw11_sameLogs.k1 (x0 : List D_cut_Log) (x1 : List D_gemotref11_Log) (v1144 : Int) (v1770 : Bool) : Option (Int ⊕ (Unit ⊕ Bool)) := cond v1770 (some (.inr (Sum.inr false))) (some (.inl (IntKind.i64.wrap (v1144 + (1 : Int)))))
noncomputable def gemotlaw11_sameLogs.b2 (x0 : List D_cut_Log) (x1 : List D_gemotref11_Log) (v1144 : Int) : Option (Int ⊕ (Unit ⊕ Bool)) := cond (decide (v1144 < (x0.length : Int))) ((idxL x0 v1144).bind fun y1773 => (idxL x1 v1144).bind fun y1784 => cond (y1773.1 != y1784.1) (gemotlaw11_sameLogs.k1 x0 x1 v1144 (cond (y1773.1 != y1784.1) true (!false))) ((idxL x0 v1144).bind fun y1797 => (idxL x1 v1144).bind fun y1808 => (gemotlaw11_same.f y1797.2 y1808.2).bind fun y1819 => gemotlaw11_sameLogs.k1 x0 x1 v1144 (cond (y1773.1 != y1784.1) true (!y1819)))) (some (.inr (Sum.inl ())))
noncomputable def gemotlaw11_sameLogs.k3 : Option (Bool) := some true
noncomputable def gemotlaw11_sameLogs.f (x0 : List D_cut_Log) (x1 : List D_gemotref11_Log) : Option (Bool) := cond ((x0.length : Int) != (x1.length : Int)) (some false) ((loopM (fun s1602 : Int => gemotlaw11_sameLogs.b2 x0 x1 s1602) (0 : Int)).bind (Sum.elim (fun (o1600 : Unit) => gemotlaw11_sameLogs.k3) (fun (o1601 : Bool) => some o1601)))
set_option maxHeartbeats 4000000 in
theorem gemotlaw11_sameLogs_ok {ok : Nat → Prop} {w : World} {u1 u6 : Value} {x0 : List D_cut_Log} {x1 : List D_gemotref11_Log} {r : Bool} (hu2 : slR t_cut_Log w ok u1 x0) (hu7 : slR t_gemotref11_Log w ok u6 x1) (h : gemotlaw11_sameLogs.f x0 x1 = some r) :
    Calls Try.prog 22 #[u1, u6] w fun e w' => ∃ v, e = .returned v ∧ (v = .bool r ∧ Bel w.heap.size w w') := by
  have H : Eng.Own ok w w [] := Eng.Own.nil ok w
  obtain ⟨A3, c4, rfl, H⟩ := H.arg rfl hu2
  obtain ⟨A8, c9, rfl, H⟩ := H.arg rfl hu7
  unfold gemotlaw11_sameLogs.f at h
  refine enterN (args := [.slice A3 x0.length c4, .slice A8 x1.length c9]) Try.func22 rfl Try.ntmps22 rfl rfl ?_
  refine nc_seq ?_
  refine nc ?_
  refine nc_seq ?_
  refine nc_seq ?_
  refine nc ?_
  refine nc_cond rfl (fun hc11 => ?_) (fun hc11 => ?_)
  · replace h := condT hc11 h
    refine nc_seq ?_
    refine nc ?_
    refine nc ?_
    replace h := Option.some.inj h
    subst h
    exact ret_inA [.bool false] ⟨_, rfl, ⟨rfl, H.frame⟩⟩
  · replace h := condF hc11 h
    refine nc ?_
    refine nc_cut (fun e w919 => gemotlaw11_sameLogs.k3 = some r ∧ e = [] ∧ Eng.Own ok w w919 []) ?_ ?_
    · skip
      refine nc_seq ?_
      refine nc ?_
      refine nc_block ?_
      obtain ⟨o1592, hL1593, hO1594⟩ := bindS h
      obtain ⟨n1595, hL1593⟩ := loopS hL1593
      refine nc ?_
      refine loop_ruleA (fun k e w1599 => ∃ (v1144 : Int), iterM (fun s1602 : Int => gemotlaw11_sameLogs.b2 x0 x1 s1602) k v1144 = some o1592 ∧ e = [(0, .slice A3 x0.length c4), (1, .slice A8 x1.length c9), (5, .int .i64 v1144)] ∧ Eng.Own ok w w1599 [.dat (dSl t_cut_Log (.slice A3 x0.length c4) x0), .dat (dSl t_gemotref11_Log (.slice A8 x1.length c9) x1)]) ⟨_, hL1593, rfl, H.pickL [1, 0] rfl⟩ ?_
      rintro k1604 _ w1603 ⟨v1144, hL1593, rfl, H⟩
      obtain ⟨k1598, rfl, q1596, h, hq1597⟩ := iterS hL1593
      replace h : gemotlaw11_sameLogs.b2 x0 x1 v1144 = some q1596 := h
      unfold gemotlaw11_sameLogs.b2 at h
      refine nc_seq ?_
      refine nc_seq ?_
      refine nc ?_
      refine nc_cond rfl (fun hc1605 => ?_) (fun hc1605 => ?_)
      · replace h := condT hc1605 h
        refine nc ?_
        refine nc_seq ?_
        refine nc_block ?_
        refine nc_cut (fun e w1771 => ∃ (v1770 : Bool), gemotlaw11_sameLogs.k1 x0 x1 v1144 v1770 = some q1596 ∧ e = [(0, .slice A3 x0.length c4), (1, .slice A8 x1.length c9), (5, .int .i64 v1144), (41, .bool v1770)] ∧ Eng.Own ok w w1771 [.dat (dSl t_cut_Log (.slice A3 x0.length c4) x0), .dat (dSl t_gemotref11_Log (.slice A8 x1.length c9) x1)]) ?_ ?_
        · skip
          obtain ⟨y1773, hx1774, h⟩ := bindS h
          obtain ⟨a1775, cs1776, rfl, hR1777, H⟩ := H.elemI 0 rfl hx1774
          obtain ⟨u1779, rfl, hu1780⟩ := cut_Log_cells hR1777
          obtain ⟨A1781, c1782, rfl, H⟩ := H.openD hu1780
          obtain ⟨y1784, hx1785, h⟩ := bindS h
          obtain ⟨a1786, cs1787, rfl, hR1788, H⟩ := H.elemI 3 rfl hx1785
          obtain ⟨u1790, rfl, hu1791⟩ := gemotref11_Log_cells hR1788
          obtain ⟨A1792, c1793, rfl, H⟩ := H.openD hu1791
          rcases Bool.eq_false_or_eq_true (y1773.1 != y1784.1) with hg1795 | hg1795
          · replace h := condT hg1795 h
            refine nc ?_
            refine draw_rule [] (by kernel_rfl) (by kernel_rfl) H ?_
            refine c_idxA (e := 58) 2 _ (by kernel_rfl) (by kernel_rfl) (idxL_some hx1774).1 (idxL_some hx1774).2.1 ?_
            refine c_loadD 3 rfl 0 (by kernel_rfl) rfl ?_
            refine c_idxA (e := 116) 2 _ (by kernel_rfl) (by kernel_rfl) (idxL_some hx1785).1 (idxL_some hx1785).2.1 ?_
            refine c_loadD 1 rfl 0 (by kernel_rfl) rfl ?_
            refine c_skipIA (.pointer (some ⟨0, 0, none⟩)) (gF0 hg1795) ?_
            refine c_skipLD (.slice none 0 0) (gF0 hg1795) ?_
            refine c_skipIA (.pointer (some ⟨0, 0, none⟩)) (gF0 hg1795) ?_
            refine c_skipLD (.slice none 0 0) (gF0 hg1795) ?_
            refine c_skipCL (.bool false) (gF0 hg1795) ?_
            intro w1796 H
            exact cut_inA ⟨_, h, rfl, H.pickL [4, 5] rfl⟩
          · replace h := condF hg1795 h
            obtain ⟨y1797, hx1798, h⟩ := bindS h
            obtain ⟨cs1800, hR1801, H⟩ := H.elemJ 4 rfl hx1798
            obtain ⟨u1803, rfl, hu1804⟩ := cut_Log_cells hR1801
            obtain ⟨A1805, c1806, rfl, H⟩ := H.openD hu1804
            obtain ⟨y1808, hx1809, h⟩ := bindS h
            obtain ⟨cs1811, hR1812, H⟩ := H.elemJ 7 rfl hx1809
            obtain ⟨u1814, rfl, hu1815⟩ := gemotref11_Log_cells hR1812
            obtain ⟨A1816, c1817, rfl, H⟩ := H.openD hu1815
            obtain ⟨y1819, hy1820, h⟩ := bindS h
            refine nc ?_
            refine draw_rule [] (by kernel_rfl) (by kernel_rfl) H ?_
            refine c_idxA (e := 58) 2 _ (by kernel_rfl) (by kernel_rfl) (idxL_some hx1774).1 (idxL_some hx1774).2.1 ?_
            refine c_loadD 7 rfl 0 (by kernel_rfl) rfl ?_
            refine c_idxA (e := 116) 2 _ (by kernel_rfl) (by kernel_rfl) (idxL_some hx1785).1 (idxL_some hx1785).2.1 ?_
            refine c_loadD 5 rfl 0 (by kernel_rfl) rfl ?_
            refine c_idxA (e := 58) 2 _ (by kernel_rfl) (by kernel_rfl) (idxL_some hx1798).1 (idxL_some hx1798).2.1 ?_
            refine c_loadD 3 rfl 1 (by kernel_rfl) rfl ?_
            refine c_idxA (e := 116) 2 _ (by kernel_rfl) (by kernel_rfl) (idxL_some hx1809).1 (idxL_some hx1809).2.1 ?_
            refine c_loadD 1 rfl 1 (by kernel_rfl) rfl ?_
            refine c_call (.bool y1819) (by kernel_rfl) (fun _ _ H => gemotlaw11_same_ok (H.dat 2 rfl) (H.dat 0 rfl) hy1820) ?_
            intro w1825 H
            exact cut_inA ⟨_, h, rfl, H.pickL [8, 9] rfl⟩
        · rintro _ w1826 ⟨v1770, h, rfl, H⟩
          unfold gemotlaw11_sameLogs.k1 at h
          refine nc_cond rfl (fun hc1827 => ?_) (fun hc1827 => ?_)
          · replace h := condT hc1827 h
            refine nc_seq ?_
            refine nc ?_
            refine nc ?_
            cases h
            replace hq1597 : (Sum.inr false) = o1592 := hq1597
            subst hq1597
            have h := hO1594
            try dsimp only [Sum.elim_inl, Sum.elim_inr] at h
            replace h := Option.some.inj h
            subst h
            exact ret_inA [.bool false] ⟨_, rfl, ⟨rfl, H.frame⟩⟩
          · replace h := condF hc1827 h
            refine nc ?_
            refine nc ?_
            cases h
            exact again_inA ⟨_, hq1597, rfl, H.pickL [0, 1] rfl⟩
      · replace h := condF hc1605 h
        refine nc ?_
        cases h
        replace hq1597 : (Sum.inl ()) = o1592 := hq1597
        subst hq1597
        have h := hO1594
        try dsimp only [Sum.elim_inl, Sum.elim_inr] at h
        exact cut_inA ⟨h, rfl, H.pickL [] rfl⟩
    · rintro _ w1828 ⟨h, rfl, H⟩
      unfold gemotlaw11_sameLogs.k3 at h
      refine nc_seq ?_
      refine nc ?_
      refine nc ?_
      replace h := Option.some.inj h
      subst h
      exact ret_inA [.bool true] ⟨_, rfl, ⟨rfl, H.frame⟩⟩
/-! gemot/gemotlaw11.sameParts -/
noncomputable def gemotlaw11_sameParts.k1 (x0 : List D_cut_Part) (x1 : List D_gemotref11_Part) (v1624 : Int) (v2514 : Bool) : Option (Int ⊕ (Unit ⊕ Bool)) := cond v2514 (some (.inr (Sum.inr false))) (some (.inl (IntKind.i64.wrap (v1624 + (1 : Int)))))
noncomputable def gemotlaw11_sameParts.b2 (x0 : List D_cut_Part) (x1 : List D_gemotref11_Part) (v1624 : Int) : Option (Int ⊕ (Unit ⊕ Bool)) := cond (decide (v1624 < (x0.length : Int))) ((idxL x0 v1624).bind fun y2517 => (idxL x1 v1624).bind fun y2528 => cond (!((y2517.1.1 == y2528.1.1) && (y2517.1.2 == y2528.1.2))) (gemotlaw11_sameParts.k1 x0 x1 v1624 (cond (cond (!((y2517.1.1 == y2528.1.1) && (y2517.1.2 == y2528.1.2))) true ((0 : Int) != (0 : Int))) true (!false))) ((idxL x0 v1624).bind fun y2541 => (idxL x1 v1624).bind fun y2552 => cond (y2541.2.1 != y2552.2.1) (gemotlaw11_sameParts.k1 x0 x1 v1624 (cond (cond (!((y2517.1.1 == y2528.1.1) && (y2517.1.2 == y2528.1.2))) true (y2541.2.1 != y2552.2.1)) true (!false))) ((idxL x0 v1624).bind fun y2565 => (idxL x1 v1624).bind fun y2576 => (gemotlaw11_same.f y2565.2.2 y2576.2.2).bind fun y2587 => gemotlaw11_sameParts.k1 x0 x1 v1624 (cond (cond (!((y2517.1.1 == y2528.1.1) && (y2517.1.2 == y2528.1.2))) true (y2541.2.1 != y2552.2.1)) true (!y2587))))) (some (.inr (Sum.inl ())))
noncomputable def gemotlaw11_sameParts.k3 : Option (Bool) := some true
noncomputable def gemotlaw11_sameParts.f (x0 : List D_cut_Part) (x1 : List D_gemotref11_Part) : Option (Bool) := cond ((x0.length : Int) != (x1.length : Int)) (some false) ((loopM (fun s2274 : Int => gemotlaw11_sameParts.b2 x0 x1 s2274) (0 : Int)).bind (Sum.elim (fun (o2272 : Unit) => gemotlaw11_sameParts.k3) (fun (o2273 : Bool) => some o2273)))
set_option maxHeartbeats 4000000 in
theorem gemotlaw11_sameParts_ok {ok : Nat → Prop} {w : World} {u1 u6 : Value} {x0 : List D_cut_Part} {x1 : List D_gemotref11_Part} {r : Bool} (hu2 : slR t_cut_Part w ok u1 x0) (hu7 : slR t_gemotref11_Part w ok u6 x1) (h : gemotlaw11_sameParts.f x0 x1 = some r) :
    Calls Try.prog 19 #[u1, u6] w fun e w' => ∃ v, e = .returned v ∧ (v = .bool r ∧ Bel w.heap.size w w') := by
  have H : Eng.Own ok w w [] := Eng.Own.nil ok w
  obtain ⟨A3, c4, rfl, H⟩ := H.arg rfl hu2
  obtain ⟨A8, c9, rfl, H⟩ := H.arg rfl hu7
  unfold gemotlaw11_sameParts.f at h
  refine enterN (args := [.slice A3 x0.length c4, .slice A8 x1.length c9]) Try.func19 rfl Try.ntmps19 rfl rfl ?_
  refine nc_seq ?_
  refine nc ?_
  refine nc_seq ?_
  refine nc_seq ?_
  refine nc ?_
  refine nc_cond rfl (fun hc11 => ?_) (fun hc11 => ?_)
  · replace h := condT hc11 h
    refine nc_seq ?_
    refine nc ?_
    refine nc ?_
    replace h := Option.some.inj h
    subst h
    exact ret_inA [.bool false] ⟨_, rfl, ⟨rfl, H.frame⟩⟩
  · replace h := condF hc11 h
    refine nc ?_
    refine nc_cut (fun e w1303 => gemotlaw11_sameParts.k3 = some r ∧ e = [] ∧ Eng.Own ok w w1303 []) ?_ ?_
    · skip
      refine nc_seq ?_
      refine nc ?_
      refine nc_block ?_
      obtain ⟨o2264, hL2265, hO2266⟩ := bindS h
      obtain ⟨n2267, hL2265⟩ := loopS hL2265
      refine nc ?_
      refine loop_ruleA (fun k e w2271 => ∃ (v1624 : Int), iterM (fun s2274 : Int => gemotlaw11_sameParts.b2 x0 x1 s2274) k v1624 = some o2264 ∧ e = [(0, .slice A3 x0.length c4), (1, .slice A8 x1.length c9), (5, .int .i64 v1624)] ∧ Eng.Own ok w w2271 [.dat (dSl t_cut_Part (.slice A3 x0.length c4) x0), .dat (dSl t_gemotref11_Part (.slice A8 x1.length c9) x1)]) ⟨_, hL2265, rfl, H.pickL [1, 0] rfl⟩ ?_
      rintro k2276 _ w2275 ⟨v1624, hL2265, rfl, H⟩
      obtain ⟨k2270, rfl, q2268, h, hq2269⟩ := iterS hL2265
      replace h : gemotlaw11_sameParts.b2 x0 x1 v1624 = some q2268 := h
      unfold gemotlaw11_sameParts.b2 at h
      refine nc_seq ?_
      refine nc_seq ?_
      refine nc ?_
      refine nc_cond rfl (fun hc2277 => ?_) (fun hc2277 => ?_)
      · replace h := condT hc2277 h
        refine nc ?_
        refine nc_seq ?_
        refine nc_block ?_
        refine nc_cut (fun e w2515 => ∃ (v2514 : Bool), gemotlaw11_sameParts.k1 x0 x1 v1624 v2514 = some q2268 ∧ e = [(0, .slice A3 x0.length c4), (1, .slice A8 x1.length c9), (5, .int .i64 v1624), (54, .bool v2514)] ∧ Eng.Own ok w w2515 [.dat (dSl t_cut_Part (.slice A3 x0.length c4) x0), .dat (dSl t_gemotref11_Part (.slice A8 x1.length c9) x1)]) ?_ ?_
        · skip
          obtain ⟨y2517, hx2518, h⟩ := bindS h
          obtain ⟨a2519, cs2520, rfl, hR2521, H⟩ := H.elemI 0 rfl hx2518
          obtain ⟨u2523, rfl, hu2524⟩ := cut_Part_cells hR2521
          obtain ⟨A2525, c2526, rfl, H⟩ := H.openD hu2524
          obtain ⟨y2528, hx2529, h⟩ := bindS h
          obtain ⟨a2530, cs2531, rfl, hR2532, H⟩ := H.elemI 3 rfl hx2529
          obtain ⟨u2534, rfl, hu2535⟩ := gemotref11_Part_cells hR2532
          obtain ⟨A2536, c2537, rfl, H⟩ := H.openD hu2535
          rcases Bool.eq_false_or_eq_true (!((y2517.1.1 == y2528.1.1) && (y2517.1.2 == y2528.1.2))) with hg2539 | hg2539
          · replace h := condT hg2539 h
            refine nc ?_
            refine draw_rule [] (by kernel_rfl) (by kernel_rfl) H ?_
            refine c_idxA (e := 37) 4 _ (by kernel_rfl) (by kernel_rfl) (idxL_some hx2518).1 (idxL_some hx2518).2.1 ?_
            refine c_loadDA (m := 2) 3 rfl 0 (by kernel_rfl) (by kernel_rfl) [.int .i64 y2517.1.1, .int .i64 y2517.1.2] rfl rfl ?_
            refine c_idxA (e := 102) 4 _ (by kernel_rfl) (by kernel_rfl) (idxL_some hx2529).1 (idxL_some hx2529).2.1 ?_
            refine c_loadDA (m := 2) 1 rfl 0 (by kernel_rfl) (by kernel_rfl) [.int .i64 y2528.1.1, .int .i64 y2528.1.2] rfl rfl ?_
            refine c_neq ((y2517.1.1 == y2528.1.1) && (y2517.1.2 == y2528.1.2)) (fun _ => (by kernel_rfl)) (fun _ => (by kernel_rfl)) ?_
            refine c_skipIA (.pointer (some ⟨0, 0, none⟩)) (gF0 hg2539) ?_
            refine c_skipLD (.int .i64 0) (gF0 hg2539) ?_
            refine c_skipIA (.pointer (some ⟨0, 0, none⟩)) (gF0 hg2539) ?_
            refine c_skipLD (.int .i64 0) (gF0 hg2539) ?_
            refine c_skipIA (.pointer (some ⟨0, 0, none⟩)) (gF0 (pickT hg2539)) ?_
            refine c_skipLD (.slice none 0 0) (gF0 (pickT hg2539)) ?_
            refine c_skipIA (.pointer (some ⟨0, 0, none⟩)) (gF0 (pickT hg2539)) ?_
            refine c_skipLD (.slice none 0 0) (gF0 (pickT hg2539)) ?_
            refine c_skipCL (.bool false) (gF0 (pickT hg2539)) ?_
            intro w2540 H
            exact cut_inA ⟨_, h, rfl, H.pickL [4, 5] rfl⟩
          · replace h := condF hg2539 h
            obtain ⟨y2541, hx2542, h⟩ := bindS h
            obtain ⟨cs2544, hR2545, H⟩ := H.elemJ 4 rfl hx2542
            obtain ⟨u2547, rfl, hu2548⟩ := cut_Part_cells hR2545
            obtain ⟨A2549, c2550, rfl, H⟩ := H.openD hu2548
            obtain ⟨y2552, hx2553, h⟩ := bindS h
            obtain ⟨cs2555, hR2556, H⟩ := H.elemJ 7 rfl hx2553
            obtain ⟨u2558, rfl, hu2559⟩ := gemotref11_Part_cells hR2556
            obtain ⟨A2560, c2561, rfl, H⟩ := H.openD hu2559
            rcases Bool.eq_false_or_eq_true (y2541.2.1 != y2552.2.1) with hg2563 | hg2563
            · replace h := condT hg2563 h
              refine nc ?_
              refine draw_rule [] (by kernel_rfl) (by kernel_rfl) H ?_
              refine c_idxA (e := 37) 4 _ (by kernel_rfl) (by kernel_rfl) (idxL_some hx2518).1 (idxL_some hx2518).2.1 ?_
              refine c_loadDA (m := 2) 7 rfl 0 (by kernel_rfl) (by kernel_rfl) [.int .i64 y2517.1.1, .int .i64 y2517.1.2] rfl rfl ?_
              refine c_idxA (e := 102) 4 _ (by kernel_rfl) (by kernel_rfl) (idxL_some hx2529).1 (idxL_some hx2529).2.1 ?_
              refine c_loadDA (m := 2) 5 rfl 0 (by kernel_rfl) (by kernel_rfl) [.int .i64 y2528.1.1, .int .i64 y2528.1.2] rfl rfl ?_
              refine c_neq ((y2517.1.1 == y2528.1.1) && (y2517.1.2 == y2528.1.2)) (fun _ => (by kernel_rfl)) (fun _ => (by kernel_rfl)) ?_
              refine c_idxA (e := 37) 4 _ (by kernel_rfl) (by kernel_rfl) (idxL_some hx2542).1 (idxL_some hx2542).2.1 ?_
              refine c_loadD 3 rfl 2 (by kernel_rfl) rfl ?_
              refine c_idxA (e := 102) 4 _ (by kernel_rfl) (by kernel_rfl) (idxL_some hx2553).1 (idxL_some hx2553).2.1 ?_
              refine c_loadD 1 rfl 2 (by kernel_rfl) rfl ?_
              refine c_skipIA (.pointer (some ⟨0, 0, none⟩)) (gF0 ((pickF hg2539).trans hg2563)) ?_
              refine c_skipLD (.slice none 0 0) (gF0 ((pickF hg2539).trans hg2563)) ?_
              refine c_skipIA (.pointer (some ⟨0, 0, none⟩)) (gF0 ((pickF hg2539).trans hg2563)) ?_
              refine c_skipLD (.slice none 0 0) (gF0 ((pickF hg2539).trans hg2563)) ?_
              refine c_skipCL (.bool false) (gF0 ((pickF hg2539).trans hg2563)) ?_
              intro w2564 H
              exact cut_inA ⟨_, h, rfl, H.pickL [8, 9] rfl⟩
            · replace h := condF hg2563 h
              obtain ⟨y2565, hx2566, h⟩ := bindS h
              obtain ⟨cs2568, hR2569, H⟩ := H.elemJ 8 rfl hx2566
              obtain ⟨u2571, rfl, hu2572⟩ := cut_Part_cells hR2569
              obtain ⟨A2573, c2574, rfl, H⟩ := H.openD hu2572
              obtain ⟨y2576, hx2577, h⟩ := bindS h
              obtain ⟨cs2579, hR2580, H⟩ := H.elemJ 11 rfl hx2577
              obtain ⟨u2582, rfl, hu2583⟩ := gemotref11_Part_cells hR2580
              obtain ⟨A2584, c2585, rfl, H⟩ := H.openD hu2583
              obtain ⟨y2587, hy2588, h⟩ := bindS h
              refine nc ?_
              refine draw_rule [] (by kernel_rfl) (by kernel_rfl) H ?_
              refine c_idxA (e := 37) 4 _ (by kernel_rfl) (by kernel_rfl) (idxL_some hx2518).1 (idxL_some hx2518).2.1 ?_
              refine c_loadDA (m := 2) 11 rfl 0 (by kernel_rfl) (by kernel_rfl) [.int .i64 y2517.1.1, .int .i64 y2517.1.2] rfl rfl ?_
              refine c_idxA (e := 102) 4 _ (by kernel_rfl) (by kernel_rfl) (idxL_some hx2529).1 (idxL_some hx2529).2.1 ?_
              refine c_loadDA (m := 2) 9 rfl 0 (by kernel_rfl) (by kernel_rfl) [.int .i64 y2528.1.1, .int .i64 y2528.1.2] rfl rfl ?_
              refine c_neq ((y2517.1.1 == y2528.1.1) && (y2517.1.2 == y2528.1.2)) (fun _ => (by kernel_rfl)) (fun _ => (by kernel_rfl)) ?_
              refine c_idxA (e := 37) 4 _ (by kernel_rfl) (by kernel_rfl) (idxL_some hx2542).1 (idxL_some hx2542).2.1 ?_
              refine c_loadD 7 rfl 2 (by kernel_rfl) rfl ?_
              refine c_idxA (e := 102) 4 _ (by kernel_rfl) (by kernel_rfl) (idxL_some hx2553).1 (idxL_some hx2553).2.1 ?_
              refine c_loadD 5 rfl 2 (by kernel_rfl) rfl ?_
              refine c_idxA (e := 37) 4 _ (by kernel_rfl) (by kernel_rfl) (idxL_some hx2566).1 (idxL_some hx2566).2.1 ?_
              refine c_loadD 3 rfl 3 (by kernel_rfl) rfl ?_
              refine c_idxA (e := 102) 4 _ (by kernel_rfl) (by kernel_rfl) (idxL_some hx2577).1 (idxL_some hx2577).2.1 ?_
              refine c_loadD 1 rfl 3 (by kernel_rfl) rfl ?_
              refine c_call (.bool y2587) (by kernel_rfl) (fun _ _ H => gemotlaw11_same_ok (H.dat 2 rfl) (H.dat 0 rfl) hy2588) ?_
              intro w2593 H
              exact cut_inA ⟨_, h, rfl, H.pickL [12, 13] rfl⟩
        · rintro _ w2594 ⟨v2514, h, rfl, H⟩
          unfold gemotlaw11_sameParts.k1 at h
          refine nc_cond rfl (fun hc2595 => ?_) (fun hc2595 => ?_)
          · replace h := condT hc2595 h
            refine nc_seq ?_
            refine nc ?_
            refine nc ?_
            cases h
            replace hq2269 : (Sum.inr false) = o2264 := hq2269
            subst hq2269
            have h := hO2266
            try dsimp only [Sum.elim_inl, Sum.elim_inr] at h
            replace h := Option.some.inj h
            subst h
            exact ret_inA [.bool false] ⟨_, rfl, ⟨rfl, H.frame⟩⟩
          · replace h := condF hc2595 h
            refine nc ?_
            refine nc ?_
            cases h
            exact again_inA ⟨_, hq2269, rfl, H.pickL [0, 1] rfl⟩
      · replace h := condF hc2277 h
        refine nc ?_
        cases h
        replace hq2269 : (Sum.inl ()) = o2264 := hq2269
        subst hq2269
        have h := hO2266
        try dsimp only [Sum.elim_inl, Sum.elim_inr] at h
        exact cut_inA ⟨h, rfl, H.pickL [] rfl⟩
    · rintro _ w2596 ⟨h, rfl, H⟩
      unfold gemotlaw11_sameParts.k3 at h
      refine nc_seq ?_
      refine nc ?_
      refine nc ?_
      replace h := Option.some.inj h
      subst h
      exact ret_inA [.bool true] ⟨_, rfl, ⟨rfl, H.frame⟩⟩
/-! gemot/gemotref10.Less -/
noncomputable def gemotref10_Less.f (x0 : D_api_Id) (x1 : D_api_Id) : Option (Bool) := cond (x0.1 != x1.1) (some (decide (x0.1 < x1.1))) (some (decide (x0.2 < x1.2)))
set_option maxHeartbeats 4000000 in
theorem gemotref10_Less_ok {ok : Nat → Prop} {w : World} {x0 : D_api_Id} {x1 : D_api_Id} {r : Bool} (h : gemotref10_Less.f x0 x1 = some r) :
    Calls Try.prog 103 #[.agg #[.int .i64 x0.1, .int .i64 x0.2], .agg #[.int .i64 x1.1, .int .i64 x1.2]] w fun e w' => ∃ v, e = .returned v ∧ (v = .bool r ∧ Bel w.heap.size w w') := by
  have H : Eng.Own ok w w [] := Eng.Own.nil ok w
  unfold gemotref10_Less.f at h
  refine enterN (args := [.agg #[.int .i64 x0.1, .int .i64 x0.2], .agg #[.int .i64 x1.1, .int .i64 x1.2]]) Try.func103 rfl Try.ntmps103 rfl rfl ?_
  refine nc_seq ?_
  refine nc ?_
  refine own_box H [.int .i64 x0.1, .int .i64 x0.2] rfl fun g2 w3 H => ?_
  refine own_box H [.int .i64 x1.1, .int .i64 x1.2] rfl fun g5 w6 H => ?_
  refine nc_seq ?_
  refine nc_seq ?_
  refine nc ?_
  refine own_load H 1 rfl (by kernel_rfl) (j := 0) rfl ?_
  refine own_load H 0 rfl (by kernel_rfl) (j := 0) rfl ?_
  refine nc_cond rfl (fun hc7 => ?_) (fun hc7 => ?_)
  · replace h := condT hc7 h
    refine nc_seq ?_
    refine nc ?_
    refine own_load H 1 rfl (by kernel_rfl) (j := 0) rfl ?_
    refine own_load H 0 rfl (by kernel_rfl) (j := 0) rfl ?_
    refine nc ?_
    replace h := Option.some.inj h
    subst h
    exact ret_inA [.bool (decide (x0.1 < x1.1))] ⟨_, rfl, ⟨rfl, H.frame⟩⟩
  · replace h := condF hc7 h
    refine nc ?_
    refine nc_seq ?_
    refine nc ?_
    refine own_load H 1 rfl (by kernel_rfl) (j := 1) rfl ?_
    refine own_load H 0 rfl (by kernel_rfl) (j := 1) rfl ?_
    refine nc ?_
    replace h := Option.some.inj h
    subst h
    exact ret_inA [.bool (decide (x0.2 < x1.2))] ⟨_, rfl, ⟨rfl, H.frame⟩⟩
/-! gemot/gemotref11.ahead -/
noncomputable def gemotref11_ahead.f (x0 : D_gemotref11_Part) (x1 : D_gemotref11_Part) : Option (Bool) := (gemotref10_Less.f (x0.1.1, x0.1.2) (x1.1.1, x1.1.2)).bind fun y17 => some (cond y17 true (cond ((x0.1.1 == x1.1.1) && (x0.1.2 == x1.1.2)) (decide (x0.2.1 < x1.2.1)) false))
set_option maxHeartbeats 4000000 in
theorem gemotref11_ahead_ok {ok : Nat → Prop} {w : World} {u1 u6 : Value} {x0 : D_gemotref11_Part} {x1 : D_gemotref11_Part} {r : Bool} (hu2 : slR tStr w ok u1 x0.2.2) (hu7 : slR tStr w ok u6 x1.2.2) (h : gemotref11_ahead.f x0 x1 = some r) :
    Calls Try.prog 74 #[.agg #[.int .i64 x0.1.1, .int .i64 x0.1.2, .int .i64 x0.2.1, u1], .agg #[.int .i64 x1.1.1, .int .i64 x1.1.2, .int .i64 x1.2.1, u6]] w fun e w' => ∃ v, e = .returned v ∧ (v = .bool r ∧ Bel w.heap.size w w') := by
  have H : Eng.Own ok w w [] := Eng.Own.nil ok w
  obtain ⟨A3, c4, rfl, H⟩ := H.arg rfl hu2
  obtain ⟨A8, c9, rfl, H⟩ := H.arg rfl hu7
  unfold gemotref11_ahead.f at h
  refine enterN (args := [.agg #[.int .i64 x0.1.1, .int .i64 x0.1.2, .int .i64 x0.2.1, .slice A3 x0.2.2.length c4], .agg #[.int .i64 x1.1.1, .int .i64 x1.1.2, .int .i64 x1.2.1, .slice A8 x1.2.2.length c9]]) Try.func74 rfl Try.ntmps74 rfl rfl ?_
  refine nc_seq ?_
  refine nc ?_
  refine own_box H [.int .i64 x0.1.1, .int .i64 x0.1.2, .int .i64 x0.2.1, .slice A3 x0.2.2.length c4] rfl fun g12 w13 H => ?_
  refine own_box H [.int .i64 x1.1.1, .int .i64 x1.1.2, .int .i64 x1.2.1, .slice A8 x1.2.2.length c9] rfl fun g15 w16 H => ?_
  refine nc_seq ?_
  refine nc ?_
  refine own_loadA (m := 2) H 1 rfl (by kernel_rfl) (by kernel_rfl) [.int .i64 x0.1.1, .int .i64 x0.1.2] rfl rfl ?_
  refine own_loadA (m := 2) H 0 rfl (by kernel_rfl) (by kernel_rfl) [.int .i64 x1.1.1, .int .i64 x1.1.2] rfl rfl ?_
  obtain ⟨y17, hy18, h⟩ := bindS h
  refine call_rule (by kernel_rfl) (gemotref10_Less_ok (ok := fun _ => False) (x0 := (x0.1.1, x0.1.2)) (x1 := (x1.1.1, x1.1.2)) hy18) fun v20 w19 ⟨hv21, hb22⟩ => ?_
  subst hv21
  replace H := H.call hb22
  refine own_loadA (m := 2) H 1 rfl (by kernel_rfl) (by kernel_rfl) [.int .i64 x0.1.1, .int .i64 x0.1.2] rfl rfl ?_
  refine own_loadA (m := 2) H 0 rfl (by kernel_rfl) (by kernel_rfl) [.int .i64 x1.1.1, .int .i64 x1.1.2] rfl rfl ?_
  refine eql_rule ((x0.1.1 == x1.1.1) && (x0.1.2 == x1.1.2)) (fun _ => (by kernel_rfl)) (fun _ => (by kernel_rfl)) ?_
  refine own_load H 1 rfl (by kernel_rfl) (j := 2) rfl ?_
  refine own_load H 0 rfl (by kernel_rfl) (j := 2) rfl ?_
  refine nc ?_
  replace h := Option.some.inj h
  subst h
  exact ret_inA [.bool (cond y17 true (cond ((x0.1.1 == x1.1.1) && (x0.1.2 == x1.1.2)) (decide (x0.2.1 < x1.2.1)) false))] ⟨_, rfl, ⟨rfl, H.frame⟩⟩
/-! gemot/gemotref11.put -/
noncomputable def gemotref11_put.k1 (x0 : List D_gemotref11_Part) (x1 : D_gemotref11_Part) (v1168 : Int) (v1762 : Int) (v1763 : Int) (v1764 : Int) (v1766 : List (List UInt8)) (v1805 : List D_gemotref11_Part) (v1809 : Bool) : Option (((List D_gemotref11_Part) × Bool × Int) ⊕ ((List D_gemotref11_Part) × Bool)) := roomM 48 (v1805.length + 1) (some (.inl ((v1805 ++ [((v1762, v1763), v1764, v1766)]), v1809, (IntKind.i64.wrap (v1168 + (1 : Int))))))
noncomputable def gemotref11_put.k2 (x0 : List D_gemotref11_Part) (x1 : D_gemotref11_Part) (v1163 : List D_gemotref11_Part) (v1168 : Int) (v1761 : Bool) (v1762 : Int) (v1763 : Int) (v1764 : Int) (v1766 : List (List UInt8)) (v1819 : Bool) : Option (((List D_gemotref11_Part) × Bool × Int) ⊕ ((List D_gemotref11_Part) × Bool)) := cond v1819 (roomM 48 (v1163.length + 1) (gemotref11_put.k1 x0 x1 v1168 v1762 v1763 v1764 v1766 (v1163 ++ [((x1.1.1, x1.1.2), x1.2.1, x1.2.2)]) true)) (gemotref11_put.k1 x0 x1 v1168 v1762 v1763 v1764 v1766 v1163 v1761)
noncomputable def gemotref11_put.k3 (x0 : List D_gemotref11_Part) (x1 : D_gemotref11_Part) (v1163 : List D_gemotref11_Part) (v1168 : Int) (v1761 : Bool) (v1762 : Int) (v1763 : Int) (v1764 : Int) (v1766 : List (List UInt8)) : Option (((List D_gemotref11_Part) × Bool × Int) ⊕ ((List D_gemotref11_Part) × Bool)) := cond (!v1761) ((gemotref11_ahead.f ((x1.1.1, x1.1.2), x1.2.1, x1.2.2) ((v1762, v1763), v1764, v1766)).bind fun y1823 => gemotref11_put.k2 x0 x1 v1163 v1168 v1761 v1762 v1763 v1764 v1766 (cond (!v1761) y1823 false)) (gemotref11_put.k2 x0 x1 v1163 v1168 v1761 v1762 v1763 v1764 v1766 (cond (!v1761) false false))
noncomputable def gemotref11_put.b4 (x0 : List D_gemotref11_Part) (x1 : D_gemotref11_Part) (v1163 : List D_gemotref11_Part) (v1167 : Bool) (v1168 : Int) : Option (((List D_gemotref11_Part) × Bool × Int) ⊕ ((List D_gemotref11_Part) × Bool)) := cond (decide (v1168 < (x0.length : Int))) ((idxL x0 v1168).bind fun y1743 => cond (cond ((y1743.1.1 == x1.1.1) && (y1743.1.2 == x1.1.2)) (y1743.2.1 == x1.2.1) false) (cond (decide ((x1.2.2.length : Int) > (y1743.2.2.length : Int))) (gemotref11_put.k3 x0 x1 v1163 v1168 true x1.1.1 x1.1.2 x1.2.1 x1.2.2) (gemotref11_put.k3 x0 x1 v1163 v1168 true y1743.1.1 y1743.1.2 y1743.2.1 y1743.2.2)) (gemotref11_put.k3 x0 x1 v1163 v1168 v1167 y1743.1.1 y1743.1.2 y1743.2.1 y1743.2.2)) (some (.inr (v1163, v1167)))
noncomputable def gemotref11_put.k5 (v1865 : List D_gemotref11_Part) : Option ((List D_gemotref11_Part)) := some v1865
noncomputable def gemotref11_put.k6 (x1 : D_gemotref11_Part) (v930 : List D_gemotref11_Part) (v934 : Bool) : Option ((List D_gemotref11_Part)) := cond (!v934) (roomM 48 (v930.length + 1) (gemotref11_put.k5 (v930 ++ [((x1.1.1, x1.1.2), x1.2.1, x1.2.2)]))) (gemotref11_put.k5 v930)
noncomputable def gemotref11_put.f (x0 : List D_gemotref11_Part) (x1 : D_gemotref11_Part) : Option ((List D_gemotref11_Part)) := (loopM (fun s1630 : (List D_gemotref11_Part) × Bool × Int => gemotref11_put.b4 x0 x1 s1630.1 s1630.2.1 s1630.2.2) (([] : List D_gemotref11_Part), false, (0 : Int))).bind (fun (o1628 : (List D_gemotref11_Part) × Bool) => gemotref11_put.k6 x1 o1628.1 o1628.2)
set_option maxHeartbeats 4000000 in
theorem gemotref11_put_ok {ok : Nat → Prop} {w : World} {u1 u6 : Value} {x0 : List D_gemotref11_Part} {x1 : D_gemotref11_Part} {r : (List D_gemotref11_Part)} (hu2 : slR t_gemotref11_Part w ok u1 x0) (hu7 : slR tStr w ok u6 x1.2.2) (h : gemotref11_put.f x0 x1 = some r) :
    Calls Try.prog 63 #[u1, .agg #[.int .i64 x1.1.1, .int .i64 x1.1.2, .int .i64 x1.2.1, u6]] w fun e w' => ∃ v, e = .returned v ∧ (rowOut w w' ok t_gemotref11_Part 102 v r ∧ Bel w.heap.size w w') := by
  have H : Eng.Own ok w w [] := Eng.Own.nil ok w
  obtain ⟨A3, c4, rfl, H⟩ := H.arg rfl hu2
  obtain ⟨A8, c9, rfl, H⟩ := H.arg rfl hu7
  unfold gemotref11_put.f at h
  refine enterN (args := [.slice A3 x0.length c4, .agg #[.int .i64 x1.1.1, .int .i64 x1.1.2, .int .i64 x1.2.1, .slice A8 x1.2.2.length c9]]) Try.func63 rfl Try.ntmps63 rfl rfl ?_
  refine nc_seq ?_
  refine nc ?_
  refine own_box H [.int .i64 x1.1.1, .int .i64 x1.1.2, .int .i64 x1.2.1, .slice A8 x1.2.2.length c9] rfl fun g12 w13 H => ?_
  refine nc_seq ?_
  refine nc ?_
  refine nc_seq ?_
  refine nc ?_
  refine nc_cut (fun e w935 => ∃ (A931 : Option Addr) (c932 : Nat) (cs933 : List Value) (v930 : List D_gemotref11_Part) (v934 : Bool), gemotref11_put.k6 x1 v930 v934 = some r ∧ e = [(3, .pointer (some ⟨g12, 0, none⟩)), (5, .slice A931 v930.length c932), (6, .bool v934)] ∧ Eng.Own ok w w935 [.blk g12 [.int .i64 x1.1.1, .int .i64 x1.1.2, .int .i64 x1.2.1, .slice A8 x1.2.2.length c9] 102, .dat (dSl tStr (.slice A8 x1.2.2.length c9) x1.2.2), .dat (dRows t_gemotref11_Part v930 cs933), .row (.slice A931 v930.length c932) 102 4 v930.length cs933]) ?_ ?_
  · skip
    refine nc_seq ?_
    refine nc ?_
    refine nc_block ?_
    replace H := H.nilRowD t_gemotref11_Part 102
    obtain ⟨o1620, hL1621, hO1622⟩ := bindS h
    obtain ⟨n1623, hL1621⟩ := loopS hL1621
    refine nc ?_
    refine loop_ruleA (fun k e w1627 => ∃ (A1164 : Option Addr) (c1165 : Nat) (cs1166 : List Value) (v1163 : List D_gemotref11_Part) (v1167 : Bool) (v1168 : Int), iterM (fun s1630 : (List D_gemotref11_Part) × Bool × Int => gemotref11_put.b4 x0 x1 s1630.1 s1630.2.1 s1630.2.2) k (v1163, v1167, v1168) = some o1620 ∧ e = [(0, .slice A3 x0.length c4), (3, .pointer (some ⟨g12, 0, none⟩)), (5, .slice A1164 v1163.length c1165), (6, .bool v1167), (7, .int .i64 v1168)] ∧ Eng.Own ok w w1627 [.dat (dSl t_gemotref11_Part (.slice A3 x0.length c4) x0), .blk g12 [.int .i64 x1.1.1, .int .i64 x1.1.2, .int .i64 x1.2.1, .slice A8 x1.2.2.length c9] 102, .dat (dSl tStr (.slice A8 x1.2.2.length c9) x1.2.2), .dat (dRows t_gemotref11_Part v1163 cs1166), .row (.slice A1164 v1163.length c1165) 102 4 v1163.length cs1166]) ⟨none, 0, [], _, _, _, hL1621, rfl, H.pickL [4, 2, 3, 0, 1] rfl⟩ ?_
    rintro k1632 _ w1631 ⟨A1164, c1165, cs1166, v1163, v1167, v1168, hL1621, rfl, H⟩
    obtain ⟨k1626, rfl, q1624, h, hq1625⟩ := iterS hL1621
    replace h : gemotref11_put.b4 x0 x1 v1163 v1167 v1168 = some q1624 := h
    unfold gemotref11_put.b4 at h
    refine nc_seq ?_
    refine nc_seq ?_
    refine nc ?_
    refine nc_cond rfl (fun hc1633 => ?_) (fun hc1633 => ?_)
    · replace h := condT hc1633 h
      refine nc ?_
      refine nc_seq ?_
      refine nc_block ?_
      refine nc_seq ?_
      refine nc ?_
      obtain ⟨y1743, hx1744, h⟩ := bindS h
      obtain ⟨a1745, cs1746, rfl, hR1747, H⟩ := H.elemI 0 rfl hx1744
      obtain ⟨u1749, rfl, hu1750⟩ := gemotref11_Part_cells hR1747
      obtain ⟨A1751, c1752, rfl, H⟩ := H.openD hu1750
      refine idxA_rule (e := 102) 4 _ (by kernel_rfl) (by kernel_rfl) (idxL_some hx1744).1 (idxL_some hx1744).2.1 ?_
      refine own_loadDA (m := 4) H 1 rfl 0 (by kernel_rfl) (by kernel_rfl) [.int .i64 y1743.1.1, .int .i64 y1743.1.2, .int .i64 y1743.2.1, .slice A1751 y1743.2.2.length c1752] rfl rfl ?_
      refine own_alloc (z := .agg #[.int .i64 0, .int .i64 0, .int .i64 0, .slice none 0 0]) H (by kernel_rfl) [.int .i64 0, .int .i64 0, .int .i64 0, .slice none 0 0] rfl fun g1755 w1756 H => ?_
      refine own_storeB (m := 4) H 0 rfl (by kernel_rfl) [.int .i64 y1743.1.1, .int .i64 y1743.1.2, .int .i64 y1743.2.1, .slice A1751 y1743.2.2.length c1752] rfl rfl rfl rfl fun w1757 H => ?_
      refine nc_cut (fun e w1769 => ∃ (A1767 : Option Addr) (c1768 : Nat) (v1761 : Bool) (v1762 : Int) (v1763 : Int) (v1764 : Int) (v1766 : List (List UInt8)), gemotref11_put.k3 x0 x1 v1163 v1168 v1761 v1762 v1763 v1764 v1766 = some q1624 ∧ e = [(0, .slice (some a1745) x0.length c4), (3, .pointer (some ⟨g12, 0, none⟩)), (5, .slice A1164 v1163.length c1165), (6, .bool v1761), (7, .int .i64 v1168), (8, .pointer (some ⟨g1755, 0, none⟩))] ∧ Eng.Own ok w w1769 [.dat (dSl t_gemotref11_Part (.slice (some a1745) x0.length c4) x0), .blk g12 [.int .i64 x1.1.1, .int .i64 x1.1.2, .int .i64 x1.2.1, .slice A8 x1.2.2.length c9] 102, .dat (dSl tStr (.slice A8 x1.2.2.length c9) x1.2.2), .dat (dRows t_gemotref11_Part v1163 cs1166), .row (.slice A1164 v1163.length c1165) 102 4 v1163.length cs1166, .blk g1755 [.int .i64 v1762, .int .i64 v1763, .int .i64 v1764, .slice A1767 v1766.length c1768] 102, .dat (dSl tStr (.slice A1767 v1766.length c1768) v1766)]) ?_ ?_
      · skip
        refine nc_seq ?_
        refine nc ?_
        refine own_loadA (m := 2) H 0 rfl (by kernel_rfl) (by kernel_rfl) [.int .i64 y1743.1.1, .int .i64 y1743.1.2] rfl rfl ?_
        refine own_loadA (m := 2) H 4 rfl (by kernel_rfl) (by kernel_rfl) [.int .i64 x1.1.1, .int .i64 x1.1.2] rfl rfl ?_
        refine eql_rule ((y1743.1.1 == x1.1.1) && (y1743.1.2 == x1.1.2)) (fun _ => (by kernel_rfl)) (fun _ => (by kernel_rfl)) ?_
        refine own_load H 0 rfl (by kernel_rfl) (j := 2) rfl ?_
        refine own_load H 4 rfl (by kernel_rfl) (j := 2) rfl ?_
        refine nc_cond rfl (fun hc1771 => ?_) (fun hc1771 => ?_)
        · replace h := condT hc1771 h
          refine nc_seq ?_
          refine nc ?_
          refine nc_seq ?_
          refine nc ?_
          refine own_load H 4 rfl (by kernel_rfl) (j := 3) rfl ?_
          refine own_load H 0 rfl (by kernel_rfl) (j := 3) rfl ?_
          refine nc_cond rfl (fun hc1772 => ?_) (fun hc1772 => ?_)
          · replace h := condT hc1772 h
            refine nc ?_
            refine own_loadA (m := 4) H 4 rfl (by kernel_rfl) (by kernel_rfl) [.int .i64 x1.1.1, .int .i64 x1.1.2, .int .i64 x1.2.1, .slice A8 x1.2.2.length c9] rfl rfl ?_
            refine own_storeB (m := 4) H 0 rfl (by kernel_rfl) [.int .i64 x1.1.1, .int .i64 x1.1.2, .int .i64 x1.2.1, .slice A8 x1.2.2.length c9] rfl rfl rfl rfl fun w1773 H => ?_
            exact cut_inA ⟨A8, c9, _, _, _, _, _, h, rfl, H.pickL [3, 4, 5, 6, 7, 0, 5] rfl⟩
          · replace h := condF hc1772 h
            refine nc ?_
            exact cut_inA ⟨A1751, c1752, _, _, _, _, _, h, rfl, H.pickL [3, 4, 5, 6, 7, 0, 1] rfl⟩
        · replace h := condF hc1771 h
          refine nc ?_
          exact cut_inA ⟨A1751, c1752, _, _, _, _, _, h, rfl, H.pickL [3, 4, 5, 6, 7, 0, 1] rfl⟩
      · rintro _ w1774 ⟨A1767, c1768, v1761, v1762, v1763, v1764, v1766, h, rfl, H⟩
        unfold gemotref11_put.k3 at h
        refine nc_cut (fun e w1810 => ∃ (A1806 : Option Addr) (c1807 : Nat) (cs1808 : List Value) (v1805 : List D_gemotref11_Part) (v1809 : Bool), gemotref11_put.k1 x0 x1 v1168 v1762 v1763 v1764 v1766 v1805 v1809 = some q1624 ∧ e = [(0, .slice (some a1745) x0.length c4), (3, .pointer (some ⟨g12, 0, none⟩)), (5, .slice A1806 v1805.length c1807), (6, .bool v1809), (7, .int .i64 v1168), (8, .pointer (some ⟨g1755, 0, none⟩))] ∧ Eng.Own ok w w1810 [.dat (dSl t_gemotref11_Part (.slice (some a1745) x0.length c4) x0), .blk g12 [.int .i64 x1.1.1, .int .i64 x1.1.2, .int .i64 x1.2.1, .slice A8 x1.2.2.length c9] 102, .dat (dSl tStr (.slice A8 x1.2.2.length c9) x1.2.2), .dat (dRows t_gemotref11_Part v1805 cs1808), .row (.slice A1806 v1805.length c1807) 102 4 v1805.length cs1808, .blk g1755 [.int .i64 v1762, .int .i64 v1763, .int .i64 v1764, .slice A1767 v1766.length c1768] 102, .dat (dSl tStr (.slice A1767 v1766.length c1768) v1766)]) ?_ ?_
        · skip
          refine nc_cut (fun e w1820 => ∃ (v1819 : Bool), gemotref11_put.k2 x0 x1 v1163 v1168 v1761 v1762 v1763 v1764 v1766 v1819 = some q1624 ∧ e = [(0, .slice (some a1745) x0.length c4), (3, .pointer (some ⟨g12, 0, none⟩)), (5, .slice A1164 v1163.length c1165), (6, .bool v1761), (7, .int .i64 v1168), (8, .pointer (some ⟨g1755, 0, none⟩)), (45, .bool v1819)] ∧ Eng.Own ok w w1820 [.dat (dSl t_gemotref11_Part (.slice (some a1745) x0.length c4) x0), .blk g12 [.int .i64 x1.1.1, .int .i64 x1.1.2, .int .i64 x1.2.1, .slice A8 x1.2.2.length c9] 102, .dat (dSl tStr (.slice A8 x1.2.2.length c9) x1.2.2), .dat (dRows t_gemotref11_Part v1163 cs1166), .row (.slice A1164 v1163.length c1165) 102 4 v1163.length cs1166, .blk g1755 [.int .i64 v1762, .int .i64 v1763, .int .i64 v1764, .slice A1767 v1766.length c1768] 102, .dat (dSl tStr (.slice A1767 v1766.length c1768) v1766)]) ?_ ?_
          · skip
            refine nc ?_
            refine own_loadA (m := 4) H 1 rfl (by kernel_rfl) (by kernel_rfl) [.int .i64 x1.1.1, .int .i64 x1.1.2, .int .i64 x1.2.1, .slice A8 x1.2.2.length c9] rfl rfl ?_
            refine own_loadA (m := 4) H 5 rfl (by kernel_rfl) (by kernel_rfl) [.int .i64 v1762, .int .i64 v1763, .int .i64 v1764, .slice A1767 v1766.length c1768] rfl rfl ?_
            rcases Bool.eq_false_or_eq_true (!v1761) with hg1822 | hg1822
            · replace h := condT hg1822 h
              obtain ⟨y1823, hy1824, h⟩ := bindS h
              refine call_yes (gT1 hg1822 rfl) (by kernel_rfl) (gemotref11_ahead_ok (x0 := ((x1.1.1, x1.1.2), x1.2.1, x1.2.2)) (x1 := ((v1762, v1763), v1764, v1766)) (H.dat 2 rfl) (H.dat 6 rfl) hy1824) fun v1826 w1825 ⟨hv1827, hb1828⟩ => ?_
              subst hv1827
              replace H := H.call hb1828
              exact cut_inA ⟨_, h, rfl, H.pickL [0, 1, 2, 3, 4, 5, 6] rfl⟩
            · replace h := condF hg1822 h
              refine call_skip (.bool false) (gF1 hg1822) ?_
              exact cut_inA ⟨_, h, rfl, H.pickL [0, 1, 2, 3, 4, 5, 6] rfl⟩
          · rintro _ w1829 ⟨v1819, h, rfl, H⟩
            unfold gemotref11_put.k2 at h
            refine nc_cond rfl (fun hc1830 => ?_) (fun hc1830 => ?_)
            · replace h := condT hc1830 h
              refine nc_seq ?_
              refine nc ?_
              refine own_loadA (m := 4) H 1 rfl (by kernel_rfl) (by kernel_rfl) [.int .i64 x1.1.1, .int .i64 x1.1.2, .int .i64 x1.2.1, .slice A8 x1.2.2.length c9] rfl rfl ?_
              refine own_buildSlice (e := 102) (sz := 4) (z := .agg #[.int .i64 0, .int .i64 0, .int .i64 0, .slice none 0 0]) (cs := [.int .i64 x1.1.1, .int .i64 x1.1.2, .int .i64 x1.2.1, .slice A8 x1.2.2.length c9]) H (by kernel_rfl) (by kernel_rfl) (by kernel_rfl) rfl rfl rfl rfl fun g1832 w1833 H => ?_
              obtain ⟨hr1834, h⟩ := roomS h
              refine own_append1 (k := t_gemotref11_Part) (z := .agg #[.int .i64 0, .int .i64 0, .int .i64 0, .slice none 0 0]) (x := ((x1.1.1, x1.1.2), x1.2.1, x1.2.2)) 48 H 4 3 rfl rfl rfl (gemotref11_Part_in (x := ((x1.1.1, x1.1.2), x1.2.1, x1.2.2)) (H.dat 3 rfl)) (by kernel_rfl) (by kernel_rfl) rfl rfl hr1834 rfl fun z1835 cs1836 w1837 H => ?_
              obtain ⟨A1838, c1839, rfl, _, _⟩ := H.rowSl 4 rfl
              refine nc ?_
              exact cut_inA ⟨A1838, c1839, cs1836, _, _, h, rfl, H.pickL [0, 1, 2, 3, 4, 5, 6] rfl⟩
            · replace h := condF hc1830 h
              refine nc ?_
              exact cut_inA ⟨A1164, c1165, cs1166, _, _, h, rfl, H.pickL [0, 1, 2, 3, 4, 5, 6] rfl⟩
        · rintro _ w1841 ⟨A1806, c1807, cs1808, v1805, v1809, h, rfl, H⟩
          unfold gemotref11_put.k1 at h
          refine nc ?_
          refine own_loadA (m := 4) H 5 rfl (by kernel_rfl) (by kernel_rfl) [.int .i64 v1762, .int .i64 v1763, .int .i64 v1764, .slice A1767 v1766.length c1768] rfl rfl ?_
          refine own_buildSlice (e := 102) (sz := 4) (z := .agg #[.int .i64 0, .int .i64 0, .int .i64 0, .slice none 0 0]) (cs := [.int .i64 v1762, .int .i64 v1763, .int .i64 v1764, .slice A1767 v1766.length c1768]) H (by kernel_rfl) (by kernel_rfl) (by kernel_rfl) rfl rfl rfl rfl fun g1843 w1844 H => ?_
          obtain ⟨hr1845, h⟩ := roomS h
          refine own_append1 (k := t_gemotref11_Part) (z := .agg #[.int .i64 0, .int .i64 0, .int .i64 0, .slice none 0 0]) (x := ((v1762, v1763), v1764, v1766)) 48 H 4 3 rfl rfl rfl (gemotref11_Part_in (x := ((v1762, v1763), v1764, v1766)) (H.dat 7 rfl)) (by kernel_rfl) (by kernel_rfl) rfl rfl hr1845 rfl fun z1846 cs1847 w1848 H => ?_
          obtain ⟨A1849, c1850, rfl, _, _⟩ := H.rowSl 4 rfl
          refine nc ?_
          cases h
          exact again_inA ⟨A1849, c1850, cs1847, _, _, _, hq1625, rfl, H.pickL [0, 1, 2, 3, 4] rfl⟩
    · replace h := condF hc1633 h
      refine nc ?_
      cases h
      replace hq1625 : (v1163, v1167) = o1620 := hq1625
      subst hq1625
      have h := hO1622
      try dsimp only [Sum.elim_inl, Sum.elim_inr] at h
      exact cut_inA ⟨A1164, c1165, cs1166, _, _, h, rfl, H.pickL [1, 2, 3, 4] rfl⟩
  · rintro _ w1852 ⟨A931, c932, cs933, v930, v934, h, rfl, H⟩
    unfold gemotref11_put.k6 at h
    refine nc_cut (fun e w1869 => ∃ (A1866 : Option Addr) (c1867 : Nat) (cs1868 : List Value) (v1865 : List D_gemotref11_Part), gemotref11_put.k5 v1865 = some r ∧ e = [(5, .slice A1866 v1865.length c1867)] ∧ Eng.Own ok w w1869 [.dat (dRows t_gemotref11_Part v1865 cs1868), .row (.slice A1866 v1865.length c1867) 102 4 v1865.length cs1868]) ?_ ?_
    · skip
      refine nc_seq ?_
      refine nc ?_
      refine nc_cond rfl (fun hc1871 => ?_) (fun hc1871 => ?_)
      · replace h := condT hc1871 h
        refine nc ?_
        refine own_loadA (m := 4) H 0 rfl (by kernel_rfl) (by kernel_rfl) [.int .i64 x1.1.1, .int .i64 x1.1.2, .int .i64 x1.2.1, .slice A8 x1.2.2.length c9] rfl rfl ?_
        refine own_buildSlice (e := 102) (sz := 4) (z := .agg #[.int .i64 0, .int .i64 0, .int .i64 0, .slice none 0 0]) (cs := [.int .i64 x1.1.1, .int .i64 x1.1.2, .int .i64 x1.2.1, .slice A8 x1.2.2.length c9]) H (by kernel_rfl) (by kernel_rfl) (by kernel_rfl) rfl rfl rfl rfl fun g1873 w1874 H => ?_
        obtain ⟨hr1875, h⟩ := roomS h
        refine own_append1 (k := t_gemotref11_Part) (z := .agg #[.int .i64 0, .int .i64 0, .int .i64 0, .slice none 0 0]) (x := ((x1.1.1, x1.1.2), x1.2.1, x1.2.2)) 48 H 3 2 rfl rfl rfl (gemotref11_Part_in (x := ((x1.1.1, x1.1.2), x1.2.1, x1.2.2)) (H.dat 2 rfl)) (by kernel_rfl) (by kernel_rfl) rfl rfl hr1875 rfl fun z1876 cs1877 w1878 H => ?_
        obtain ⟨A1879, c1880, rfl, _, _⟩ := H.rowSl 3 rfl
        exact cut_inA ⟨A1879, c1880, cs1877, _, h, rfl, H.pickL [2, 3] rfl⟩
      · replace h := condF hc1871 h
        refine nc ?_
        exact cut_inA ⟨A931, c932, cs933, _, h, rfl, H.pickL [2, 3] rfl⟩
    · rintro _ w1882 ⟨A1866, c1867, cs1868, v1865, h, rfl, H⟩
      unfold gemotref11_put.k5 at h
      refine nc_seq ?_
      refine nc ?_
      refine nc ?_
      replace h := Option.some.inj h
      subst h
      exact ret_inA [.slice A1866 v1865.length c1867] ⟨_, rfl, ⟨H.outR 1 0 rfl rfl rfl, H.frame⟩⟩
/-! gemot/gemotref11.Cut -/
noncomputable def gemotref11_Cut.k1 (x0 : List D_gemotref11_Report) (v4951 : Int) (v7546 : Int) (v7859 : List D_gemotref11_Part) : Option (((List D_gemotref11_Part) × Int) ⊕ (List D_gemotref11_Part)) := some (.inl (v7859, (IntKind.i64.wrap (v7546 + (1 : Int)))))
noncomputable def gemotref11_Cut.b2 (x0 : List D_gemotref11_Report) (v4951 : Int) (v7543 : List D_gemotref11_Part) (v7546 : Int) : Option (((List D_gemotref11_Part) × Int) ⊕ (List D_gemotref11_Part)) := (idxL x0 v4951).bind fun y7798 => cond (decide (v7546 < (y7798.2.2.length : Int))) ((idxL x0 v4951).bind fun y7864 => (idxL y7864.2.2 v7546).bind fun y7875 => cond (decide ((y7875.2.length : Int) > (0 : Int))) ((idxL x0 v4951).bind fun y7891 => (gemotref11_put.f v7543 ((y7891.2.1.1, y7891.2.1.2), y7875.1, y7875.2)).bind fun y7902 => gemotref11_Cut.k1 x0 v4951 v7546 y7902) (gemotref11_Cut.k1 x0 v4951 v7546 v7543)) (some (.inr v7543))
noncomputable def gemotref11_Cut.k3 (x0 : List D_gemotref11_Report) (v4951 : Int) (v7422 : List D_gemotref11_Part) : Option (((List D_gemotref11_Part) × Int) ⊕ (List D_gemotref11_Part)) := some (.inl (v7422, (IntKind.i64.wrap (v4951 + (1 : Int)))))
noncomputable def gemotref11_Cut.b4 (x0 : List D_gemotref11_Report) (v4948 : List D_gemotref11_Part) (v4951 : Int) : Option (((List D_gemotref11_Part) × Int) ⊕ (List D_gemotref11_Part)) := cond (decide (v4951 < (x0.length : Int))) ((loopM (fun s7795 : (List D_gemotref11_Part) × Int => gemotref11_Cut.b2 x0 v4951 s7795.1 s7795.2) (v4948, (0 : Int))).bind (fun (o7794 : (List D_gemotref11_Part)) => gemotref11_Cut.k3 x0 v4951 o7794)) (some (.inr v4948))
noncomputable def gemotref11_Cut.k5 (v3958 : List D_gemotref11_Part) : Option ((List D_gemotref11_Part)) := some v3958
noncomputable def gemotref11_Cut.f (x0 : List D_gemotref11_Report) : Option ((List D_gemotref11_Part)) := (loopM (fun s6931 : (List D_gemotref11_Part) × Int => gemotref11_Cut.b4 x0 s6931.1 s6931.2) (([] : List D_gemotref11_Part), (0 : Int))).bind (fun (o6929 : (List D_gemotref11_Part)) => gemotref11_Cut.k5 o6929)
set_option maxHeartbeats 4000000 in
theorem gemotref11_Cut_ok {ok : Nat → Prop} {w : World} {u1 : Value} {x0 : List D_gemotref11_Report} {r : (List D_gemotref11_Part)} (hu2 : slR t_gemotref11_Report w ok u1 x0) (h : gemotref11_Cut.f x0 = some r) :
    Calls Try.prog 21 #[u1] w fun e w' => ∃ v, e = .returned v ∧ (slR t_gemotref11_Part w' (fun b => ok b ∨ w.heap.size ≤ b) v r ∧ Bel w.heap.size w w') := by
  have H : Eng.Own ok w w [] := Eng.Own.nil ok w
  obtain ⟨A3, c4, rfl, H⟩ := H.arg rfl hu2
  unfold gemotref11_Cut.f at h
  refine enterN (args := [.slice A3 x0.length c4]) Try.func21 rfl Try.ntmps21 rfl rfl ?_
  refine nc_seq ?_
  refine nc ?_
  refine nc_seq ?_
  refine nc ?_
  refine nc_cut (fun e w3961 => ∃ (A3959 : Option Addr) (c3960 : Nat) (v3958 : List D_gemotref11_Part), gemotref11_Cut.k5 v3958 = some r ∧ e = [(3, .slice A3959 v3958.length c3960)] ∧ Eng.Own ok w w3961 [.dat (dSl t_gemotref11_Part (.slice A3959 v3958.length c3960) v3958)]) ?_ ?_
  · skip
    refine nc_seq ?_
    refine nc ?_
    refine nc_block ?_
    replace H := H.addDat (dSl t_gemotref11_Part (.slice none 0 0) []) nilR
    obtain ⟨o6921, hL6922, hO6923⟩ := bindS h
    obtain ⟨n6924, hL6922⟩ := loopS hL6922
    refine nc ?_
    refine loop_ruleA (fun k e w6928 => ∃ (A4949 : Option Addr) (c4950 : Nat) (v4948 : List D_gemotref11_Part) (v4951 : Int), iterM (fun s6931 : (List D_gemotref11_Part) × Int => gemotref11_Cut.b4 x0 s6931.1 s6931.2) k (v4948, v4951) = some o6921 ∧ e = [(0, .slice A3 x0.length c4), (3, .slice A4949 v4948.length c4950), (4, .int .i64 v4951)] ∧ Eng.Own ok w w6928 [.dat (dSl t_gemotref11_Report (.slice A3 x0.length c4) x0), .dat (dSl t_gemotref11_Part (.slice A4949 v4948.length c4950) v4948)]) ⟨none, 0, _, _, hL6922, rfl, H.pickL [1, 0] rfl⟩ ?_
    rintro k6933 _ w6932 ⟨A4949, c4950, v4948, v4951, hL6922, rfl, H⟩
    obtain ⟨k6927, rfl, q6925, h, hq6926⟩ := iterS hL6922
    replace h : gemotref11_Cut.b4 x0 v4948 v4951 = some q6925 := h
    unfold gemotref11_Cut.b4 at h
    refine nc_seq ?_
    refine nc_seq ?_
    refine nc ?_
    refine nc_cond rfl (fun hc6934 => ?_) (fun hc6934 => ?_)
    · replace h := condT hc6934 h
      refine nc ?_
      refine nc_cut (fun e w7425 => ∃ (A7423 : Option Addr) (c7424 : Nat) (v7422 : List D_gemotref11_Part), gemotref11_Cut.k3 x0 v4951 v7422 = some q6925 ∧ e = [(0, .slice A3 x0.length c4), (3, .slice A7423 v7422.length c7424), (4, .int .i64 v4951)] ∧ Eng.Own ok w w7425 [.dat (dSl t_gemotref11_Report (.slice A3 x0.length c4) x0), .dat (dSl t_gemotref11_Part (.slice A7423 v7422.length c7424) v7422)]) ?_ ?_
      · skip
        refine nc_block ?_
        refine nc_seq ?_
        refine nc ?_
        refine nc_block ?_
        obtain ⟨o7786, hL7787, hO7788⟩ := bindS h
        obtain ⟨n7789, hL7787⟩ := loopS hL7787
        refine nc ?_
        refine loop_ruleA (fun k e w7793 => ∃ (A7544 : Option Addr) (c7545 : Nat) (v7543 : List D_gemotref11_Part) (v7546 : Int), iterM (fun s7795 : (List D_gemotref11_Part) × Int => gemotref11_Cut.b2 x0 v4951 s7795.1 s7795.2) k (v7543, v7546) = some o7786 ∧ e = [(0, .slice A3 x0.length c4), (3, .slice A7544 v7543.length c7545), (4, .int .i64 v4951), (5, .int .i64 v7546)] ∧ Eng.Own ok w w7793 [.dat (dSl t_gemotref11_Report (.slice A3 x0.length c4) x0), .dat (dSl t_gemotref11_Part (.slice A7544 v7543.length c7545) v7543)]) ⟨A4949, c4950, _, _, hL7787, rfl, H.pickL [0, 1] rfl⟩ ?_
        rintro k7797 _ w7796 ⟨A7544, c7545, v7543, v7546, hL7787, rfl, H⟩
        obtain ⟨k7792, rfl, q7790, h, hq7791⟩ := iterS hL7787
        replace h : gemotref11_Cut.b2 x0 v4951 v7543 v7546 = some q7790 := h
        unfold gemotref11_Cut.b2 at h
        refine nc_seq ?_
        refine nc_seq ?_
        refine nc ?_
        obtain ⟨y7798, hx7799, h⟩ := bindS h
        obtain ⟨a7800, cs7801, rfl, hR7802, H⟩ := H.elemI 0 rfl hx7799
        obtain ⟨u7804, rfl, hu7805⟩ := gemotref11_Report_cells hR7802
        obtain ⟨A7806, c7807, rfl, H⟩ := H.openD hu7805
        refine idxA_rule (e := 100) 4 _ (by kernel_rfl) (by kernel_rfl) (idxL_some hx7799).1 (idxL_some hx7799).2.1 ?_
        refine own_loadD H 1 rfl 3 (by kernel_rfl) rfl ?_
        refine nc_cond rfl (fun hc7809 => ?_) (fun hc7809 => ?_)
        · replace h := condT hc7809 h
          refine nc ?_
          refine nc_cut (fun e w7862 => ∃ (A7860 : Option Addr) (c7861 : Nat) (v7859 : List D_gemotref11_Part), gemotref11_Cut.k1 x0 v4951 v7546 v7859 = some q7790 ∧ e = [(0, .slice (some a7800) x0.length c4), (3, .slice A7860 v7859.length c7861), (4, .int .i64 v4951), (5, .int .i64 v7546)] ∧ Eng.Own ok w w7862 [.dat (dSl t_gemotref11_Report (.slice (some a7800) x0.length c4) x0), .dat (dSl t_gemotref11_Part (.slice A7860 v7859.length c7861) v7859)]) ?_ ?_
          · skip
            refine nc_block ?_
            refine nc_seq ?_
            refine nc ?_
            obtain ⟨y7864, hx7865, h⟩ := bindS h
            obtain ⟨cs7867, hR7868, H⟩ := H.elemJ 2 rfl hx7865
            obtain ⟨u7870, rfl, hu7871⟩ := gemotref11_Report_cells hR7868
            obtain ⟨A7872, c7873, rfl, H⟩ := H.openD hu7871
            refine idxA_rule (e := 100) 4 _ (by kernel_rfl) (by kernel_rfl) (idxL_some hx7865).1 (idxL_some hx7865).2.1 ?_
            refine own_loadD H 1 rfl 3 (by kernel_rfl) rfl ?_
            obtain ⟨y7875, hx7876, h⟩ := bindS h
            obtain ⟨a7877, cs7878, rfl, hR7879, H⟩ := H.elemI 0 rfl hx7876
            obtain ⟨u7881, rfl, hu7882⟩ := gemotref11_Log_cells hR7879
            obtain ⟨A7883, c7884, rfl, H⟩ := H.openD hu7882
            refine idxA_rule (e := 116) 2 _ (by kernel_rfl) (by kernel_rfl) (idxL_some hx7876).1 (idxL_some hx7876).2.1 ?_
            refine own_loadDA (m := 2) H 1 rfl 0 (by kernel_rfl) (by kernel_rfl) [.int .i64 y7875.1, .slice A7883 y7875.2.length c7884] rfl rfl ?_
            refine own_alloc (z := .agg #[.int .i64 0, .slice none 0 0]) H (by kernel_rfl) [.int .i64 0, .slice none 0 0] rfl fun g7887 w7888 H => ?_
            refine own_storeB (m := 2) H 0 rfl (by kernel_rfl) [.int .i64 y7875.1, .slice A7883 y7875.2.length c7884] rfl rfl rfl rfl fun w7889 H => ?_
            refine nc_seq ?_
            refine nc ?_
            refine own_load H 0 rfl (by kernel_rfl) (j := 1) rfl ?_
            refine nc_cond rfl (fun hc7890 => ?_) (fun hc7890 => ?_)
            · replace h := condT hc7890 h
              obtain ⟨y7891, hx7892, h⟩ := bindS h
              obtain ⟨cs7894, hR7895, H⟩ := H.elemJ 7 rfl hx7892
              obtain ⟨u7897, rfl, hu7898⟩ := gemotref11_Report_cells hR7895
              obtain ⟨A7899, c7900, rfl, H⟩ := H.openD hu7898
              obtain ⟨y7902, hy7903, h⟩ := bindS h
              refine nc ?_
              refine draw_rule [] (by kernel_rfl) (by kernel_rfl) H ?_
              refine c_idxA (e := 100) 4 _ (by kernel_rfl) (by kernel_rfl) (idxL_some hx7892).1 (idxL_some hx7892).2.1 ?_
              refine c_loadDA (m := 2) 1 rfl 1 (by kernel_rfl) (by kernel_rfl) [.int .i64 y7891.2.1.1, .int .i64 y7891.2.1.2] rfl rfl ?_
              refine c_load 2 rfl (by kernel_rfl) (j := 0) rfl ?_
              refine c_load 2 rfl (by kernel_rfl) (j := 1) rfl ?_
              refine c_callR rfl (by kernel_rfl) (fun _ H => gemotref11_put_ok (x1 := ((y7891.2.1.1, y7891.2.1.2), y7875.1, y7875.2)) (H.dat 10 rfl) (H.dat 3 rfl) hy7903) ?_
              intro A7908 c7909
              intro w7911 H
              exact cut_inA ⟨A7908, c7909, _, h, rfl, H.pickL [10, 0] rfl⟩
            · replace h := condF hc7890 h
              refine nc ?_
              exact cut_inA ⟨A7544, c7545, _, h, rfl, H.pickL [7, 8] rfl⟩
          · rintro _ w7912 ⟨A7860, c7861, v7859, h, rfl, H⟩
            unfold gemotref11_Cut.k1 at h
            refine nc ?_
            cases h
            exact again_inA ⟨A7860, c7861, _, _, hq7791, rfl, H.pickL [0, 1] rfl⟩
        · replace h := condF hc7809 h
          refine nc ?_
          cases h
          replace hq7791 : v7543 = o7786 := hq7791
          subst hq7791
          have h := hO7788
          try dsimp only [Sum.elim_inl, Sum.elim_inr] at h
          exact cut_inA ⟨A7544, c7545, _, h, rfl, H.pickL [2, 3] rfl⟩
      · rintro _ w7913 ⟨A7423, c7424, v7422, h, rfl, H⟩
        unfold gemotref11_Cut.k3 at h
        refine nc ?_
        cases h
        exact again_inA ⟨A7423, c7424, _, _, hq6926, rfl, H.pickL [0, 1] rfl⟩
    · replace h := condF hc6934 h
      refine nc ?_
      cases h
      replace hq6926 : v4948 = o6921 := hq6926
      subst hq6926
      have h := hO6923
      try dsimp only [Sum.elim_inl, Sum.elim_inr] at h
      exact cut_inA ⟨A4949, c4950, _, h, rfl, H.pickL [1] rfl⟩
  · rintro _ w7914 ⟨A3959, c3960, v3958, h, rfl, H⟩
    unfold gemotref11_Cut.k5 at h
    refine nc_seq ?_
    refine nc ?_
    refine nc ?_
    replace h := Option.some.inj h
    subst h
    exact ret_inA [.slice A3959 v3958.length c3960] ⟨_, rfl, ⟨H.outD 0 rfl, H.frame⟩⟩
/-! gemot/gemotref11.Missing -/
noncomputable def gemotref11_Missing.k1 (x0 : List D_gemotref11_Part) (x1 : D_api_Id) (x2 : List D_gemotref11_Log) (v8135 : List D_gemotref11_Log) (v8139 : Int) (v12647 : Int) (v12863 : List (List UInt8)) : Option (((List (List UInt8)) × Int) ⊕ (List (List UInt8))) := some (.inl (v12863, (IntKind.i64.wrap (v12647 - (1 : Int)))))
noncomputable def gemotref11_Missing.b2 (x0 : List D_gemotref11_Part) (x1 : D_api_Id) (x2 : List D_gemotref11_Log) (v8135 : List D_gemotref11_Log) (v8139 : Int) (v12644 : List (List UInt8)) (v12647 : Int) : Option (((List (List UInt8)) × Int) ⊕ (List (List UInt8))) := cond (decide (v12647 ≥ (0 : Int))) ((idxL x2 v12647).bind fun y12868 => (idxL x0 v8139).bind fun y12879 => cond (y12868.1 == y12879.2.1) ((idxL x2 v12647).bind fun y12892 => gemotref11_Missing.k1 x0 x1 x2 v8135 v8139 v12647 y12892.2) (gemotref11_Missing.k1 x0 x1 x2 v8135 v8139 v12647 v12644)) (some (.inr v12644))
noncomputable def gemotref11_Missing.k3 (x0 : List D_gemotref11_Part) (x1 : D_api_Id) (x2 : List D_gemotref11_Log) (v8139 : Int) (v12199 : List D_gemotref11_Log) : Option (((List D_gemotref11_Log) × Int) ⊕ (List D_gemotref11_Log)) := some (.inl (v12199, (IntKind.i64.wrap (v8139 + (1 : Int)))))
noncomputable def gemotref11_Missing.k4 (x0 : List D_gemotref11_Part) (x1 : D_api_Id) (x2 : List D_gemotref11_Log) (v8135 : List D_gemotref11_Log) (v8139 : Int) (v12559 : List (List UInt8)) (v12934 : Bool) : Option (((List D_gemotref11_Log) × Int) ⊕ (List D_gemotref11_Log)) := cond v12934 ((idxL x0 v8139).bind fun y12968 => (idxL x0 v8139).bind fun y12979 => (slcM y12979.2.2 (v12559.length : Int) (y12979.2.2.length : Int)).bind fun y12990 => roomM 32 (v8135.length + 1) (gemotref11_Missing.k3 x0 x1 x2 v8139 (v8135 ++ [(y12968.2.1, y12990)]))) (gemotref11_Missing.k3 x0 x1 x2 v8139 v8135)
noncomputable def gemotref11_Missing.k5 (x0 : List D_gemotref11_Part) (x1 : D_api_Id) (x2 : List D_gemotref11_Log) (v8135 : List D_gemotref11_Log) (v8139 : Int) (v12559 : List (List UInt8)) : Option (((List D_gemotref11_Log) × Int) ⊕ (List D_gemotref11_Log)) := (idxL x0 v8139).bind fun y12937 => (gemotref11_Begins.f v12559 y12937.2.2).bind fun y12948 => cond y12948 ((idxL x0 v8139).bind fun y12955 => gemotref11_Missing.k4 x0 x1 x2 v8135 v8139 v12559 (cond y12948 (decide ((v12559.length : Int) < (y12955.2.2.length : Int))) false)) (gemotref11_Missing.k4 x0 x1 x2 v8135 v8139 v12559 (cond y12948 (decide ((v12559.length : Int) < (0 : Int))) false))
noncomputable def gemotref11_Missing.b6 (x0 : List D_gemotref11_Part) (x1 : D_api_Id) (x2 : List D_gemotref11_Log) (v8135 : List D_gemotref11_Log) (v8139 : Int) : Option (((List D_gemotref11_Log) × Int) ⊕ (List D_gemotref11_Log)) := cond (decide (v8139 < (x0.length : Int))) ((idxL x0 v8139).bind fun y12205 => cond (!((y12205.1.1 == x1.1) && (y12205.1.2 == x1.2))) (gemotref11_Missing.k3 x0 x1 x2 v8139 v8135) ((loopM (fun s12823 : (List (List UInt8)) × Int => gemotref11_Missing.b2 x0 x1 x2 v8135 v8139 s12823.1 s12823.2) (([] : List (List UInt8)), (IntKind.i64.wrap ((x2.length : Int) - (1 : Int))))).bind (fun (o12821 : (List (List UInt8))) => gemotref11_Missing.k5 x0 x1 x2 v8135 v8139 o12821))) (some (.inr v8135))
noncomputable def gemotref11_Missing.k7 (v6509 : List D_gemotref11_Log) : Option ((List D_gemotref11_Log)) := some v6509
noncomputable def gemotref11_Missing.f (x0 : List D_gemotref11_Part) (x1 : D_api_Id) (x2 : List D_gemotref11_Log) : Option ((List D_gemotref11_Log)) := (loopM (fun s11391 : (List D_gemotref11_Log) × Int => gemotref11_Missing.b6 x0 x1 x2 s11391.1 s11391.2) (([] : List D_gemotref11_Log), (0 : Int))).bind (fun (o11389 : (List D_gemotref11_Log)) => gemotref11_Missing.k7 o11389)
set_option maxHeartbeats 4000000 in
theorem gemotref11_Missing_ok {ok : Nat → Prop} {w : World} {u1 u6 : Value} {x0 : List D_gemotref11_Part} {x1 : D_api_Id} {x2 : List D_gemotref11_Log} {r : (List D_gemotref11_Log)} (hu2 : slR t_gemotref11_Part w ok u1 x0) (hu7 : slR t_gemotref11_Log w ok u6 x2) (h : gemotref11_Missing.f x0 x1 x2 = some r) :
    Calls Try.prog 24 #[u1, .agg #[.int .i64 x1.1, .int .i64 x1.2], u6] w fun e w' => ∃ v, e = .returned v ∧ (rowOut w w' ok t_gemotref11_Log 116 v r ∧ Bel w.heap.size w w') := by
  have H : Eng.Own ok w w [] := Eng.Own.nil ok w
  obtain ⟨A3, c4, rfl, H⟩ := H.arg rfl hu2
  obtain ⟨A8, c9, rfl, H⟩ := H.arg rfl hu7
  unfold gemotref11_Missing.f at h
  refine enterN (args := [.slice A3 x0.length c4, .agg #[.int .i64 x1.1, .int .i64 x1.2], .slice A8 x2.length c9]) Try.func24 rfl Try.ntmps24 rfl rfl ?_
  refine nc_seq ?_
  refine nc ?_
  refine own_box H [.int .i64 x1.1, .int .i64 x1.2] rfl fun g12 w13 H => ?_
  refine nc_seq ?_
  refine nc ?_
  refine nc_cut (fun e w6513 => ∃ (A6510 : Option Addr) (c6511 : Nat) (cs6512 : List Value) (v6509 : List D_gemotref11_Log), gemotref11_Missing.k7 v6509 = some r ∧ e = [(7, .slice A6510 v6509.length c6511)] ∧ Eng.Own ok w w6513 [.dat (dRows t_gemotref11_Log v6509 cs6512), .row (.slice A6510 v6509.length c6511) 116 2 v6509.length cs6512]) ?_ ?_
  · skip
    refine nc_seq ?_
    refine nc ?_
    refine nc_block ?_
    replace H := H.nilRowD t_gemotref11_Log 116
    obtain ⟨o11381, hL11382, hO11383⟩ := bindS h
    obtain ⟨n11384, hL11382⟩ := loopS hL11382
    refine nc ?_
    refine loop_ruleA (fun k e w11388 => ∃ (A8136 : Option Addr) (c8137 : Nat) (cs8138 : List Value) (v8135 : List D_gemotref11_Log) (v8139 : Int), iterM (fun s11391 : (List D_gemotref11_Log) × Int => gemotref11_Missing.b6 x0 x1 x2 s11391.1 s11391.2) k (v8135, v8139) = some o11381 ∧ e = [(0, .slice A3 x0.length c4), (2, .slice A8 x2.length c9), (4, .pointer (some ⟨g12, 0, none⟩)), (7, .slice A8136 v8135.length c8137), (8, .int .i64 v8139)] ∧ Eng.Own ok w w11388 [.dat (dSl t_gemotref11_Part (.slice A3 x0.length c4) x0), .dat (dSl t_gemotref11_Log (.slice A8 x2.length c9) x2), .blk g12 [.int .i64 x1.1, .int .i64 x1.2] 25, .dat (dRows t_gemotref11_Log v8135 cs8138), .row (.slice A8136 v8135.length c8137) 116 2 v8135.length cs8138]) ⟨none, 0, [], _, _, hL11382, rfl, H.pickL [4, 3, 2, 0, 1] rfl⟩ ?_
    rintro k11393 _ w11392 ⟨A8136, c8137, cs8138, v8135, v8139, hL11382, rfl, H⟩
    obtain ⟨k11387, rfl, q11385, h, hq11386⟩ := iterS hL11382
    replace h : gemotref11_Missing.b6 x0 x1 x2 v8135 v8139 = some q11385 := h
    unfold gemotref11_Missing.b6 at h
    refine nc_seq ?_
    refine nc_seq ?_
    refine nc ?_
    refine nc_cond rfl (fun hc11394 => ?_) (fun hc11394 => ?_)
    · replace h := condT hc11394 h
      refine nc ?_
      refine nc_cut (fun e w12203 => ∃ (A12200 : Option Addr) (c12201 : Nat) (cs12202 : List Value) (v12199 : List D_gemotref11_Log), gemotref11_Missing.k3 x0 x1 x2 v8139 v12199 = some q11385 ∧ e = [(0, .slice A3 x0.length c4), (2, .slice A8 x2.length c9), (4, .pointer (some ⟨g12, 0, none⟩)), (7, .slice A12200 v12199.length c12201), (8, .int .i64 v8139)] ∧ Eng.Own ok w w12203 [.dat (dSl t_gemotref11_Part (.slice A3 x0.length c4) x0), .dat (dSl t_gemotref11_Log (.slice A8 x2.length c9) x2), .blk g12 [.int .i64 x1.1, .int .i64 x1.2] 25, .dat (dRows t_gemotref11_Log v12199 cs12202), .row (.slice A12200 v12199.length c12201) 116 2 v12199.length cs12202]) ?_ ?_
      · skip
        refine nc_block ?_
        refine nc_seq ?_
        refine nc_seq ?_
        obtain ⟨y12205, hx12206, h⟩ := bindS h
        obtain ⟨a12207, cs12208, rfl, hR12209, H⟩ := H.elemI 0 rfl hx12206
        obtain ⟨u12211, rfl, hu12212⟩ := gemotref11_Part_cells hR12209
        obtain ⟨A12213, c12214, rfl, H⟩ := H.openD hu12212
        refine nc ?_
        refine draw_rule [] (by kernel_rfl) (by kernel_rfl) H ?_
        refine c_idxA (e := 102) 4 _ (by kernel_rfl) (by kernel_rfl) (idxL_some hx12206).1 (idxL_some hx12206).2.1 ?_
        refine c_loadDA (m := 2) 1 rfl 0 (by kernel_rfl) (by kernel_rfl) [.int .i64 y12205.1.1, .int .i64 y12205.1.2] rfl rfl ?_
        refine c_loadA (m := 2) 4 rfl (by kernel_rfl) (by kernel_rfl) [.int .i64 x1.1, .int .i64 x1.2] rfl rfl ?_
        refine c_neq ((y12205.1.1 == x1.1) && (y12205.1.2 == x1.2)) (fun _ => (by kernel_rfl)) (fun _ => (by kernel_rfl)) ?_
        intro w12216 H
        refine nc_cond rfl (fun hc12217 => ?_) (fun hc12217 => ?_)
        · replace h := condT hc12217 h
          refine nc ?_
          exact cut_inA ⟨A8136, c8137, cs8138, _, h, rfl, H.pickL [2, 3, 4, 5, 6] rfl⟩
        · replace h := condF hc12217 h
          refine nc ?_
          refine nc_seq ?_
          refine nc ?_
          refine nc_cut (fun e w12562 => ∃ (A12560 : Option Addr) (c12561 : Nat) (v12559 : List (List UInt8)), gemotref11_Missing.k5 x0 x1 x2 v8135 v8139 v12559 = some q11385 ∧ e = [(0, .slice (some a12207) x0.length c4), (2, .slice A8 x2.length c9), (4, .pointer (some ⟨g12, 0, none⟩)), (7, .slice A8136 v8135.length c8137), (8, .int .i64 v8139), (9, .slice A12560 v12559.length c12561)] ∧ Eng.Own ok w w12562 [.dat (dSl t_gemotref11_Part (.slice (some a12207) x0.length c4) x0), .dat (dSl t_gemotref11_Log (.slice A8 x2.length c9) x2), .blk g12 [.int .i64 x1.1, .int .i64 x1.2] 25, .dat (dRows t_gemotref11_Log v8135 cs8138), .row (.slice A8136 v8135.length c8137) 116 2 v8135.length cs8138, .dat (dSl tStr (.slice A12560 v12559.length c12561) v12559)]) ?_ ?_
          · skip
            refine nc_seq ?_
            refine nc ?_
            refine nc_block ?_
            replace H := H.addDat (dSl tStr (.slice none 0 0) []) nilR
            obtain ⟨o12813, hL12814, hO12815⟩ := bindS h
            obtain ⟨n12816, hL12814⟩ := loopS hL12814
            refine nc ?_
            refine loop_ruleA (fun k e w12820 => ∃ (A12645 : Option Addr) (c12646 : Nat) (v12644 : List (List UInt8)) (v12647 : Int), iterM (fun s12823 : (List (List UInt8)) × Int => gemotref11_Missing.b2 x0 x1 x2 v8135 v8139 s12823.1 s12823.2) k (v12644, v12647) = some o12813 ∧ e = [(0, .slice (some a12207) x0.length c4), (2, .slice A8 x2.length c9), (4, .pointer (some ⟨g12, 0, none⟩)), (7, .slice A8136 v8135.length c8137), (8, .int .i64 v8139), (9, .slice A12645 v12644.length c12646), (10, .int .i64 v12647)] ∧ Eng.Own ok w w12820 [.dat (dSl t_gemotref11_Part (.slice (some a12207) x0.length c4) x0), .dat (dSl t_gemotref11_Log (.slice A8 x2.length c9) x2), .blk g12 [.int .i64 x1.1, .int .i64 x1.2] 25, .dat (dRows t_gemotref11_Log v8135 cs8138), .row (.slice A8136 v8135.length c8137) 116 2 v8135.length cs8138, .dat (dSl tStr (.slice A12645 v12644.length c12646) v12644)]) ⟨none, 0, _, _, hL12814, rfl, H.pickL [3, 4, 5, 6, 7, 0] rfl⟩ ?_
            rintro k12825 _ w12824 ⟨A12645, c12646, v12644, v12647, hL12814, rfl, H⟩
            obtain ⟨k12819, rfl, q12817, h, hq12818⟩ := iterS hL12814
            replace h : gemotref11_Missing.b2 x0 x1 x2 v8135 v8139 v12644 v12647 = some q12817 := h
            unfold gemotref11_Missing.b2 at h
            refine nc_seq ?_
            refine nc_seq ?_
            refine nc ?_
            refine nc_cond rfl (fun hc12826 => ?_) (fun hc12826 => ?_)
            · replace h := condT hc12826 h
              refine nc ?_
              refine nc_cut (fun e w12866 => ∃ (A12864 : Option Addr) (c12865 : Nat) (v12863 : List (List UInt8)), gemotref11_Missing.k1 x0 x1 x2 v8135 v8139 v12647 v12863 = some q12817 ∧ e = [(0, .slice (some a12207) x0.length c4), (2, .slice A8 x2.length c9), (4, .pointer (some ⟨g12, 0, none⟩)), (7, .slice A8136 v8135.length c8137), (8, .int .i64 v8139), (9, .slice A12864 v12863.length c12865), (10, .int .i64 v12647)] ∧ Eng.Own ok w w12866 [.dat (dSl t_gemotref11_Part (.slice (some a12207) x0.length c4) x0), .dat (dSl t_gemotref11_Log (.slice A8 x2.length c9) x2), .blk g12 [.int .i64 x1.1, .int .i64 x1.2] 25, .dat (dRows t_gemotref11_Log v8135 cs8138), .row (.slice A8136 v8135.length c8137) 116 2 v8135.length cs8138, .dat (dSl tStr (.slice A12864 v12863.length c12865) v12863)]) ?_ ?_
              · skip
                refine nc_block ?_
                refine nc_seq ?_
                obtain ⟨y12868, hx12869, h⟩ := bindS h
                obtain ⟨a12870, cs12871, rfl, hR12872, H⟩ := H.elemI 1 rfl hx12869
                obtain ⟨u12874, rfl, hu12875⟩ := gemotref11_Log_cells hR12872
                obtain ⟨A12876, c12877, rfl, H⟩ := H.openD hu12875
                obtain ⟨y12879, hx12880, h⟩ := bindS h
                obtain ⟨cs12882, hR12883, H⟩ := H.elemJ 2 rfl hx12880
                obtain ⟨u12885, rfl, hu12886⟩ := gemotref11_Part_cells hR12883
                obtain ⟨A12887, c12888, rfl, H⟩ := H.openD hu12886
                refine nc ?_
                refine draw_rule [] (by kernel_rfl) (by kernel_rfl) H ?_
                refine c_idxA (e := 116) 2 _ (by kernel_rfl) (by kernel_rfl) (idxL_some hx12869).1 (idxL_some hx12869).2.1 ?_
                refine c_loadD 3 rfl 0 (by kernel_rfl) rfl ?_
                refine c_idxA (e := 102) 4 _ (by kernel_rfl) (by kernel_rfl) (idxL_some hx12880).1 (idxL_some hx12880).2.1 ?_
                refine c_loadD 1 rfl 2 (by kernel_rfl) rfl ?_
                intro w12890 H
                refine nc_cond rfl (fun hc12891 => ?_) (fun hc12891 => ?_)
                · replace h := condT hc12891 h
                  refine nc ?_
                  obtain ⟨y12892, hx12893, h⟩ := bindS h
                  obtain ⟨cs12895, hR12896, H⟩ := H.elemJ 5 rfl hx12893
                  obtain ⟨u12898, rfl, hu12899⟩ := gemotref11_Log_cells hR12896
                  obtain ⟨A12900, c12901, rfl, H⟩ := H.openD hu12899
                  refine idxA_rule (e := 116) 2 _ (by kernel_rfl) (by kernel_rfl) (idxL_some hx12893).1 (idxL_some hx12893).2.1 ?_
                  refine own_loadD H 1 rfl 1 (by kernel_rfl) rfl ?_
                  exact cut_inA ⟨A12900, c12901, _, h, rfl, H.pickL [6, 7, 8, 9, 10, 0] rfl⟩
                · replace h := condF hc12891 h
                  refine nc ?_
                  exact cut_inA ⟨A12645, c12646, _, h, rfl, H.pickL [4, 5, 6, 7, 8, 9] rfl⟩
              · rintro _ w12903 ⟨A12864, c12865, v12863, h, rfl, H⟩
                unfold gemotref11_Missing.k1 at h
                refine nc ?_
                cases h
                exact again_inA ⟨A12864, c12865, _, _, hq12818, rfl, H.pickL [0, 1, 2, 3, 4, 5] rfl⟩
            · replace h := condF hc12826 h
              refine nc ?_
              cases h
              replace hq12818 : v12644 = o12813 := hq12818
              subst hq12818
              have h := hO12815
              try dsimp only [Sum.elim_inl, Sum.elim_inr] at h
              exact cut_inA ⟨A12645, c12646, _, h, rfl, H.pickL [0, 1, 2, 3, 4, 5] rfl⟩
          · rintro _ w12904 ⟨A12560, c12561, v12559, h, rfl, H⟩
            unfold gemotref11_Missing.k5 at h
            refine nc_cut (fun e w12935 => ∃ (v12934 : Bool), gemotref11_Missing.k4 x0 x1 x2 v8135 v8139 v12559 v12934 = some q11385 ∧ e = [(0, .slice (some a12207) x0.length c4), (2, .slice A8 x2.length c9), (4, .pointer (some ⟨g12, 0, none⟩)), (7, .slice A8136 v8135.length c8137), (8, .int .i64 v8139), (9, .slice A12560 v12559.length c12561), (64, .bool v12934)] ∧ Eng.Own ok w w12935 [.dat (dSl t_gemotref11_Part (.slice (some a12207) x0.length c4) x0), .dat (dSl t_gemotref11_Log (.slice A8 x2.length c9) x2), .blk g12 [.int .i64 x1.1, .int .i64 x1.2] 25, .dat (dRows t_gemotref11_Log v8135 cs8138), .row (.slice A8136 v8135.length c8137) 116 2 v8135.length cs8138, .dat (dSl tStr (.slice A12560 v12559.length c12561) v12559)]) ?_ ?_
            · skip
              refine nc ?_
              obtain ⟨y12937, hx12938, h⟩ := bindS h
              obtain ⟨cs12940, hR12941, H⟩ := H.elemJ 0 rfl hx12938
              obtain ⟨u12943, rfl, hu12944⟩ := gemotref11_Part_cells hR12941
              obtain ⟨A12945, c12946, rfl, H⟩ := H.openD hu12944
              refine idxA_rule (e := 102) 4 _ (by kernel_rfl) (by kernel_rfl) (idxL_some hx12938).1 (idxL_some hx12938).2.1 ?_
              refine own_loadD H 1 rfl 3 (by kernel_rfl) rfl ?_
              obtain ⟨y12948, hy12949, h⟩ := bindS h
              refine call_rule (by kernel_rfl) (gemotref11_Begins_ok (H.dat 7 rfl) (H.dat 0 rfl) hy12949) fun v12951 w12950 ⟨hv12952, hb12953⟩ => ?_
              subst hv12952
              replace H := H.call hb12953
              rcases Bool.eq_false_or_eq_true y12948 with hg12954 | hg12954
              · replace h := condT hg12954 h
                obtain ⟨y12955, hx12956, h⟩ := bindS h
                obtain ⟨cs12958, hR12959, H⟩ := H.elemJ 2 rfl hx12956
                obtain ⟨u12961, rfl, hu12962⟩ := gemotref11_Part_cells hR12959
                obtain ⟨A12963, c12964, rfl, H⟩ := H.openD hu12962
                refine idxA_rule (e := 102) 4 _ (by kernel_rfl) (by kernel_rfl) (idxL_some hx12956).1 (idxL_some hx12956).2.1 ?_
                refine own_loadD H 1 rfl 3 (by kernel_rfl) rfl ?_
                exact cut_inA ⟨_, h, rfl, H.pickL [4, 5, 6, 7, 8, 9] rfl⟩
              · replace h := condF hg12954 h
                refine skipIA (.pointer (some ⟨0, 0, none⟩)) (gF1 hg12954) ?_
                refine skipLD (.slice none 0 0) (gF1 hg12954) ?_
                exact cut_inA ⟨_, h, rfl, H.pickL [2, 3, 4, 5, 6, 7] rfl⟩
            · rintro _ w12966 ⟨v12934, h, rfl, H⟩
              unfold gemotref11_Missing.k4 at h
              refine nc_cond rfl (fun hc12967 => ?_) (fun hc12967 => ?_)
              · replace h := condT hc12967 h
                obtain ⟨y12968, hx12969, h⟩ := bindS h
                obtain ⟨cs12971, hR12972, H⟩ := H.elemJ 0 rfl hx12969
                obtain ⟨u12974, rfl, hu12975⟩ := gemotref11_Part_cells hR12972
                obtain ⟨A12976, c12977, rfl, H⟩ := H.openD hu12975
                obtain ⟨y12979, hx12980, h⟩ := bindS h
                obtain ⟨cs12982, hR12983, H⟩ := H.elemJ 2 rfl hx12980
                obtain ⟨u12985, rfl, hu12986⟩ := gemotref11_Part_cells hR12983
                obtain ⟨A12987, c12988, rfl, H⟩ := H.openD hu12986
                obtain ⟨y12990, hx12991, h⟩ := bindS h
                obtain ⟨A12992, c12993, hp12994, H⟩ := H.pieceD 0 rfl hx12991
                have hn12996 := H.slLen 1 rfl
                obtain ⟨hr13000, h⟩ := roomS h
                refine nc ?_
                refine draw_rule [] (by kernel_rfl) (by kernel_rfl) H ?_
                refine c_idxA (e := 102) 4 _ (by kernel_rfl) (by kernel_rfl) (idxL_some hx12969).1 (idxL_some hx12969).2.1 ?_
                refine c_loadD 4 rfl 2 (by kernel_rfl) rfl ?_
                refine c_idxA (e := 102) 4 _ (by kernel_rfl) (by kernel_rfl) (idxL_some hx12980).1 (idxL_some hx12980).2.1 ?_
                refine c_loadD 2 rfl 3 (by kernel_rfl) rfl ?_
                refine c_pieceI (e := 9) 1 (v12559.length : Int) (y12979.2.2.length : Int) (by kernel_rfl) (by kernel_rfl) ⟨_, rfl⟩ rfl hx12991 hn12996 hp12994 ?_
                refine c_buildSlice (e := 116) (sz := 2) (z := .agg #[.int .i64 0, .slice none 0 0]) (cs := [.int .i64 y12968.2.1, .slice A12992 y12990.length c12993]) (by kernel_rfl) (by kernel_rfl) (by kernel_rfl) rfl rfl rfl rfl ?_
                intro g12998
                refine c_append1 (k := t_gemotref11_Log) (z := .agg #[.int .i64 0, .slice none 0 0]) (x := (y12968.2.1, y12990)) 32 9 8 rfl rfl rfl (fun _ H => (gemotref11_Log_in (x := (y12968.2.1, y12990)) (H.dat 1 rfl))) (by kernel_rfl) (by kernel_rfl) rfl rfl hr13000 rfl ?_
                intro z13001 cs13002
                intro w13007 H
                obtain ⟨A13004, c13005, rfl, _, _⟩ := H.rowSl 9 rfl
                exact cut_inA ⟨A13004, c13005, cs13002, _, h, rfl, H.pickL [5, 6, 7, 8, 9] rfl⟩
              · replace h := condF hc12967 h
                refine nc ?_
                exact cut_inA ⟨A8136, c8137, cs8138, _, h, rfl, H.pickL [0, 1, 2, 3, 4] rfl⟩
      · rintro _ w13008 ⟨A12200, c12201, cs12202, v12199, h, rfl, H⟩
        unfold gemotref11_Missing.k3 at h
        refine nc ?_
        cases h
        exact again_inA ⟨A12200, c12201, cs12202, _, _, hq11386, rfl, H.pickL [0, 1, 2, 3, 4] rfl⟩
    · replace h := condF hc11394 h
      refine nc ?_
      cases h
      replace hq11386 : v8135 = o11381 := hq11386
      subst hq11386
      have h := hO11383
      try dsimp only [Sum.elim_inl, Sum.elim_inr] at h
      exact cut_inA ⟨A8136, c8137, cs8138, _, h, rfl, H.pickL [3, 4] rfl⟩
  · rintro _ w13009 ⟨A6510, c6511, cs6512, v6509, h, rfl, H⟩
    unfold gemotref11_Missing.k7 at h
    refine nc_seq ?_
    refine nc ?_
    refine nc ?_
    replace h := Option.some.inj h
    subst h
    exact ret_inA [.slice A6510 v6509.length c6511] ⟨_, rfl, ⟨H.outR 1 0 rfl rfl rfl, H.frame⟩⟩
end Go.Proofs.Ytgomlcfoifkdiaa.G
