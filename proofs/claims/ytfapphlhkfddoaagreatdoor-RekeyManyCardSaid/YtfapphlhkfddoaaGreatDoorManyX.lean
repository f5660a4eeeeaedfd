/- What is needed besides; put together by a program of this proof. -/
import Derived.Test.YtfapphlhkfddoaaGreatDoorSized
import Derived.KernelRfl
namespace Go.Proofs.YtfapphlhkfddoaaGreatDoor.G
open Go.RowKit Go.Eng Go.Proofs Go.Proofs.YtfapphlhkfddoaaGreatDoor.Cut Go.Sort
set_option linter.unusedVariables false
set_option maxRecDepth 20000
variable {ok : Nat → Prop} {w0 w : World} {L R : List Eng.Item}

theorem nodesT_pos (T : Tr) (pre : List UInt8) : 0 < (nodesT pre T).length := by cases T <;> simp [nodesT]
end Go.Proofs.YtfapphlhkfddoaaGreatDoor.G

namespace Go.Proofs.YtfapphlhkfddoaaGreatDoor.G
open Go.RowKit Go.Eng Go.Proofs Go.Proofs.YtfapphlhkfddoaaGreatDoor.Cut
set_option linter.unusedVariables false
set_option linter.unusedSimpArgs false

section
variable {s : List UInt8} {xs : List (List UInt8)} {N : List (List UInt8)} {m k : List Int} {out : List D_blind_Blind} {i : Int} {at_ : List UInt8 × Int}
end
theorem nodes_count : ∀ (T : Tr) (pre : List UInt8), (nodesT pre T).length + 1 = 2 * T.leavesR.length
  | .leaf p, pre => by simp [nodesT, Tr.leavesR]
  | .two l r, pre => by
    have h1 := nodes_count l (pre ++ [108])
    have h2 := nodes_count r (pre ++ [114])
    simp only [nodesT, Tr.leavesR, List.length_cons, List.length_append]
    omega
end Go.Proofs.YtfapphlhkfddoaaGreatDoor.G

namespace Go.Proofs.YtfapphlhkfddoaaGreatDoor.G
open Go.RowKit Go.Eng Go.Proofs Go.Proofs.YtfapphlhkfddoaaGreatDoor.Cut
set_option linter.unusedVariables false
set_option linter.unusedSimpArgs false

section
variable {T : Tr} {V : D_api_View} {first : Int} {o : Nat → O_rekey_Round} {P : Nat → Prop}
theorem end_can (hv : ViewOk T V) (h : SysOk T V first P o []) (hP : ∀ i, P i) {i : Nat} (hi : i < nN T) : canI T o i = (duT T (mAt T i)).length := by
  have h1 := end_full hv h hP hi
  obtain ⟨c, c1, c2, c3, c4, c5⟩ := duty_nodes hv (mAt_path hi)
  unfold canI canT
  omega
end
end Go.Proofs.YtfapphlhkfddoaaGreatDoor.G

/- Walks, printed by a program of this proof's own. -/
namespace Go.Proofs.YtfapphlhkfddoaaGreatDoor.G
open Go.RowKit Go.Eng Go.Proofs
set_option linter.unusedVariables false
set_option maxRecDepth 20000
/-! gemot/gemotlaw16.RekeyMany -/
noncomputable def gemotlaw16_RekeyMany.k1 (y29 : (List (Option O_rekey_Round)) × (List (List UInt8))) (v1495 : Int) (v2211 : List (Option O_rekey_Round)) (v2216 : Int) (v2217 : Int) : Option (((List (Option O_rekey_Round)) × Int × Int × Int) ⊕ ((List (Option O_rekey_Round)) × Int × Int)) := some (.inl (v2211, v2216, v2217, (IntKind.i64.wrap (v1495 + (1 : Int)))))
noncomputable def gemotlaw16_RekeyMany.k2 (y29 : (List (Option O_rekey_Round)) × (List (List UInt8))) (v1494 : Int) (v1495 : Int) (v2267 : Int) (v2327 : List (Option O_rekey_Round)) (v2332 : Bool) : Option (((List (Option O_rekey_Round)) × Int × Int × Int) ⊕ ((List (Option O_rekey_Round)) × Int × Int)) := cond v2332 (gemotlaw16_RekeyMany.k1 y29 v1495 v2327 v2267 (IntKind.i64.wrap (v1494 + (1 : Int)))) (gemotlaw16_RekeyMany.k1 y29 v1495 v2327 v2267 v1494)
noncomputable def gemotlaw16_RekeyMany.k3 (y29 : (List (Option O_rekey_Round)) × (List (List UInt8))) (v1494 : Int) (v1495 : Int) (v2262 : List (Option O_rekey_Round)) (v2267 : Int) : Option (((List (Option O_rekey_Round)) × Int × Int × Int) ⊕ ((List (Option O_rekey_Round)) × Int × Int)) := (idxL y29.2 v1495).bind fun y2335 => cond (!(strEq y2335 ([] : List UInt8))) ((idxL y29.2 v1495).bind fun y2342 => (idxS y2342 (0 : Int)).bind fun y2347 => gemotlaw16_RekeyMany.k2 y29 v1494 v1495 v2267 v2262 (cond (!(strEq y2335 ([] : List UInt8))) (y2347 == (104 : Int)) false)) (gemotlaw16_RekeyMany.k2 y29 v1494 v1495 v2267 v2262 (cond (!(strEq y2335 ([] : List UInt8))) ((0 : Int) == (104 : Int)) false))
noncomputable def gemotlaw16_RekeyMany.k4 (y29 : (List (Option O_rekey_Round)) × (List (List UInt8))) (v1493 : Int) (v1494 : Int) (v1495 : Int) (v2286 : List (Option O_rekey_Round)) (v2291 : Bool) : Option (((List (Option O_rekey_Round)) × Int × Int × Int) ⊕ ((List (Option O_rekey_Round)) × Int × Int)) := cond v2291 (gemotlaw16_RekeyMany.k3 y29 v1494 v1495 v2286 (IntKind.i64.wrap (v1493 + (1 : Int)))) (gemotlaw16_RekeyMany.k3 y29 v1494 v1495 v2286 v1493)
noncomputable def gemotlaw16_RekeyMany.b5 (y29 : (List (Option O_rekey_Round)) × (List (List UInt8))) (v1488 : List (Option O_rekey_Round)) (v1493 : Int) (v1494 : Int) (v1495 : Int) : Option (((List (Option O_rekey_Round)) × Int × Int × Int) ⊕ ((List (Option O_rekey_Round)) × Int × Int)) := cond (decide (v1495 < (y29.2.length : Int))) ((idxL y29.2 v1495).bind fun y2294 => cond (!(strEq y2294 ([] : List UInt8))) ((idxL y29.2 v1495).bind fun y2301 => (idxS y2301 (0 : Int)).bind fun y2306 => gemotlaw16_RekeyMany.k4 y29 v1493 v1494 v1495 v1488 (cond (!(strEq y2294 ([] : List UInt8))) (y2306 == (101 : Int)) false)) (gemotlaw16_RekeyMany.k4 y29 v1493 v1494 v1495 v1488 (cond (!(strEq y2294 ([] : List UInt8))) ((0 : Int) == (101 : Int)) false))) (some (.inr (v1488, v1493, v1494)))
noncomputable def gemotlaw16_RekeyMany.k6 (y29 : (List (Option O_rekey_Round)) × (List (List UInt8))) (v1195 : List (Option O_rekey_Round)) (v1200 : Int) (v1201 : Int) : Option (Bool) := some (cond (v1200 == (IntKind.i64.wrap ((IntKind.i64.wrap ((y29.1.length : Int) - (1 : Int))) * (IntKind.i64.wrap ((IntKind.i64.wrap ((2 : Int) * (v1195.length : Int))) - (2 : Int)))))) (v1201 == (IntKind.i64.wrap ((IntKind.i64.wrap ((y29.1.length : Int) - (1 : Int))) * (v1195.length : Int)))) false)
noncomputable def gemotlaw16_RekeyMany.f (x0 : Int) (x1 : Int) (x2 : List Int) : Option (Bool) := (gemotlaw16_shown.f).bind fun y6 => cond (cond (!y6) true (decide ((x2.length : Int) > (60 : Int)))) (some y6) ((gemotlaw16_of.f x0 (3 : Int)).bind fun y13 => (gemotlaw16_all.f y13 x1 x2).bind fun y29 => cond ((y29.1.length : Int) != (y13.2.length : Int)) (some false) ((loopM (fun s2074 : (List (Option O_rekey_Round)) × Int × Int × Int => gemotlaw16_RekeyMany.b5 y29 s2074.1 s2074.2.1 s2074.2.2.1 s2074.2.2.2) (y29.1, (0 : Int), (0 : Int), (0 : Int))).bind (fun (o2073 : (List (Option O_rekey_Round)) × Int × Int) => gemotlaw16_RekeyMany.k6 y29 o2073.1 o2073.2.1 o2073.2.2)))
set_option maxHeartbeats 4000000 in
theorem gemotlaw16_RekeyMany_ok {ok : Nat → Prop} {w : World} {u1 : Value} {x0 : Int} {x1 : Int} {x2 : List Int} {r : Bool} (hu2 : slR (tInt .i64) w ok u1 x2) (h : gemotlaw16_RekeyMany.f x0 x1 x2 = some r) :
    Calls Tryz.prog 5 #[.int .i64 x0, .int .u64 x1, u1] w fun e w' => ∃ v, e = .returned v ∧ (v = .bool r ∧ Bel w.heap.size w w') := by
  have H : Eng.Own ok w w [] := Eng.Own.nil ok w
  obtain ⟨A3, c4, rfl, H⟩ := H.arg rfl hu2
  unfold gemotlaw16_RekeyMany.f at h
  refine enterN (args := [.int .i64 x0, .int .u64 x1, .slice A3 x2.length c4]) Tryz.func5 rfl Tryz.ntmps5 rfl rfl ?_
  refine nc_seq ?_
  refine nc ?_
  refine nc_seq ?_
  refine nc ?_
  obtain ⟨y6, hy7, h⟩ := bindS h
  refine call_rule (by kernel_rfl) (gemotlaw16_shown_ok (ok := fun _ => False) hy7) fun v9 w8 ⟨hv10, hb11⟩ => ?_
  subst hv10
  replace H := H.call hb11
  refine nc_seq ?_
  refine nc_seq ?_
  refine nc ?_
  refine nc_cond rfl (fun hc12 => ?_) (fun hc12 => ?_)
  · replace h := condT hc12 h
    refine nc_seq ?_
    refine nc ?_
    refine nc ?_
    replace h := Option.some.inj h
    subst h
    exact ret_inA [.bool y6] ⟨_, rfl, ⟨rfl, H.frame⟩⟩
  · replace h := condF hc12 h
    refine nc ?_
    refine nc_seq ?_
    refine nc ?_
    obtain ⟨y13, hy14, h⟩ := bindS h
    refine call_rule (by kernel_rfl) (gemotlaw16_of_ok (ok := fun _ => False) hy14) fun v16 w15 ⟨u19, hv17, hu20, hb18⟩ => ?_
    subst hv17
    replace H := H.callDats hb18 [dSl (tInt .i64) u19 y13.2] ⟨(slR_any hu20), trivial⟩
    obtain ⟨A21, c22, hA23, _⟩ := H.sl 0 rfl
    subst hA23
    refine own_alloc (z := .agg #[.int .i64 0, .int .i64 0, .slice none 0 0]) H (by kernel_rfl) [.int .i64 0, .int .i64 0, .slice none 0 0] rfl fun g26 w27 H => ?_
    refine own_storeB (m := 3) H 0 rfl (by kernel_rfl) [.int .i64 y13.1.1, .int .i64 y13.1.2, .slice A21 y13.2.length c22] rfl rfl rfl rfl fun w28 H => ?_
    refine nc_seq ?_
    refine nc ?_
    refine own_loadA (m := 3) H 0 rfl (by kernel_rfl) (by kernel_rfl) [.int .i64 y13.1.1, .int .i64 y13.1.2, .slice A21 y13.2.length c22] rfl rfl ?_
    obtain ⟨y29, hy30, h⟩ := bindS h
    refine call_rule (by kernel_rfl) (gemotlaw16_all_ok (x0 := y13) H (H.dat 1 rfl) (H.dat 2 rfl) hy30) fun v42 w41 ⟨A31, c32, cs33, al34, A37, c38, cs39, hv43, H⟩ => ?_
    subst hv43
    refine nc_seq ?_
    refine nc_seq ?_
    refine nc ?_
    refine own_load H 5 rfl (by kernel_rfl) (j := 2) rfl ?_
    refine nc_cond rfl (fun hc44 => ?_) (fun hc44 => ?_)
    · replace h := condT hc44 h
      refine nc_seq ?_
      refine nc ?_
      refine nc ?_
      replace h := Option.some.inj h
      subst h
      exact ret_inA [.bool false] ⟨_, rfl, ⟨rfl, H.frame⟩⟩
    · replace h := condF hc44 h
      refine nc ?_
      refine nc_seq ?_
      refine nc ?_
      refine nc_seq ?_
      refine nc ?_
      refine nc_seq ?_
      refine nc ?_
      refine nc_cut (fun e w1202 => ∃ (A1196 : Option Addr) (c1197 : Nat) (cs1198 : List Value) (al1199 : List (Nat × A_rekey_Round)) (v1195 : List (Option O_rekey_Round)) (v1200 : Int) (v1201 : Int), gemotlaw16_RekeyMany.k6 y29 v1195 v1200 v1201 = some r ∧ e = [(9, .slice A1196 v1195.length c1197), (11, .int .i64 (IntKind.i64.wrap ((y29.1.length : Int) - (1 : Int)))), (12, .int .i64 v1200), (13, .int .i64 v1201)] ∧ Eng.Own ok w w1202 [.dat (dRows tPtr (ptrA al1199 v1195) cs1198), .row (.slice A1196 v1195.length c1197) 46 1 v1195.length cs1198, box (shelfL (objO oL_rekey_Round) al1199 v1195)]) ?_ ?_
      · skip
        refine nc_seq ?_
        refine nc ?_
        refine nc_block ?_
        obtain ⟨o2065, hL2066, hO2067⟩ := bindS h
        obtain ⟨n2068, hL2066⟩ := loopS hL2066
        refine nc ?_
        refine loop_ruleA (fun k e w2072 => ∃ (A1489 : Option Addr) (c1490 : Nat) (cs1491 : List Value) (al1492 : List (Nat × A_rekey_Round)) (v1488 : List (Option O_rekey_Round)) (v1493 : Int) (v1494 : Int) (v1495 : Int), iterM (fun s2074 : (List (Option O_rekey_Round)) × Int × Int × Int => gemotlaw16_RekeyMany.b5 y29 s2074.1 s2074.2.1 s2074.2.2.1 s2074.2.2.2) k (v1488, v1493, v1494, v1495) = some o2065 ∧ e = [(9, .slice A1489 v1488.length c1490), (10, .slice A37 y29.2.length c38), (11, .int .i64 (IntKind.i64.wrap ((y29.1.length : Int) - (1 : Int)))), (12, .int .i64 v1493), (13, .int .i64 v1494), (14, .int .i64 v1495)] ∧ Eng.Own ok w w2072 [.dat (dRows tPtr (ptrA al1492 v1488) cs1491), .row (.slice A1489 v1488.length c1490) 46 1 v1488.length cs1491, box (shelfL (objO oL_rekey_Round) al1492 v1488), .dat (dRows tStr y29.2 cs39), .row (.slice A37 y29.2.length c38) 28 1 y29.2.length cs39]) ⟨A31, c32, cs33, al34, _, _, _, _, hL2066, rfl, H.pickL [0, 1, 2, 3, 4] rfl⟩ ?_
        rintro k2076 _ w2075 ⟨A1489, c1490, cs1491, al1492, v1488, v1493, v1494, v1495, hL2066, rfl, H⟩
        obtain ⟨k2071, rfl, q2069, h, hq2070⟩ := iterS hL2066
        replace h : gemotlaw16_RekeyMany.b5 y29 v1488 v1493 v1494 v1495 = some q2069 := h
        unfold gemotlaw16_RekeyMany.b5 at h
        refine nc_seq ?_
        refine nc_seq ?_
        refine nc ?_
        refine nc_cond rfl (fun hc2077 => ?_) (fun hc2077 => ?_)
        · replace h := condT hc2077 h
          refine nc ?_
          refine nc_cut (fun e w2218 => ∃ (A2212 : Option Addr) (c2213 : Nat) (cs2214 : List Value) (al2215 : List (Nat × A_rekey_Round)) (v2211 : List (Option O_rekey_Round)) (v2216 : Int) (v2217 : Int), gemotlaw16_RekeyMany.k1 y29 v1495 v2211 v2216 v2217 = some q2069 ∧ e = [(9, .slice A2212 v2211.length c2213), (10, .slice A37 y29.2.length c38), (11, .int .i64 (IntKind.i64.wrap ((y29.1.length : Int) - (1 : Int)))), (12, .int .i64 v2216), (13, .int .i64 v2217), (14, .int .i64 v1495)] ∧ Eng.Own ok w w2218 [.dat (dRows tPtr (ptrA al2215 v2211) cs2214), .row (.slice A2212 v2211.length c2213) 46 1 v2211.length cs2214, box (shelfL (objO oL_rekey_Round) al2215 v2211), .dat (dRows tStr y29.2 cs39), .row (.slice A37 y29.2.length c38) 28 1 y29.2.length cs39]) ?_ ?_
          · skip
            refine nc_block ?_
            refine nc_cut (fun e w2268 => ∃ (A2263 : Option Addr) (c2264 : Nat) (cs2265 : List Value) (al2266 : List (Nat × A_rekey_Round)) (v2262 : List (Option O_rekey_Round)) (v2267 : Int), gemotlaw16_RekeyMany.k3 y29 v1494 v1495 v2262 v2267 = some q2069 ∧ e = [(9, .slice A2263 v2262.length c2264), (10, .slice A37 y29.2.length c38), (11, .int .i64 (IntKind.i64.wrap ((y29.1.length : Int) - (1 : Int)))), (12, .int .i64 v2267), (13, .int .i64 v1494), (14, .int .i64 v1495)] ∧ Eng.Own ok w w2268 [.dat (dRows tPtr (ptrA al2266 v2262) cs2265), .row (.slice A2263 v2262.length c2264) 46 1 v2262.length cs2265, box (shelfL (objO oL_rekey_Round) al2266 v2262), .dat (dRows tStr y29.2 cs39), .row (.slice A37 y29.2.length c38) 28 1 y29.2.length cs39]) ?_ ?_
            · skip
              refine nc_cut (fun e w2292 => ∃ (A2287 : Option Addr) (c2288 : Nat) (cs2289 : List Value) (al2290 : List (Nat × A_rekey_Round)) (v2286 : List (Option O_rekey_Round)) (v2291 : Bool), gemotlaw16_RekeyMany.k4 y29 v1493 v1494 v1495 v2286 v2291 = some q2069 ∧ e = [(9, .slice A2287 v2286.length c2288), (10, .slice A37 y29.2.length c38), (11, .int .i64 (IntKind.i64.wrap ((y29.1.length : Int) - (1 : Int)))), (12, .int .i64 v1493), (13, .int .i64 v1494), (14, .int .i64 v1495), (60, .bool v2291)] ∧ Eng.Own ok w w2292 [.dat (dRows tPtr (ptrA al2290 v2286) cs2289), .row (.slice A2287 v2286.length c2288) 46 1 v2286.length cs2289, box (shelfL (objO oL_rekey_Round) al2290 v2286), .dat (dRows tStr y29.2 cs39), .row (.slice A37 y29.2.length c38) 28 1 y29.2.length cs39]) ?_ ?_
              · skip
                refine nc ?_
                obtain ⟨y2294, hx2295, h⟩ := bindS h
                obtain ⟨a2296, _, rfl, _, _⟩ := H.rowElem (k := tStr) 4 3 rfl rfl rfl hx2295
                refine idxA_rule (e := 28) 1 _ (by kernel_rfl) (by kernel_rfl) (idxL_some hx2295).1 (idxL_some hx2295).2.1 ?_
                obtain ⟨cs2297, hR2298, hC2299⟩ := H.rowElemJ (k := tStr) 4 3 rfl rfl rfl hx2295
                replace hR2298 : cs2297 = [.string (bs y2294)] := by exact hR2298
                subst hR2298
                refine load_at hC2299 0 (by kernel_rfl) rfl ?_
                rcases Bool.eq_false_or_eq_true (!(strEq y2294 ([] : List UInt8))) with hg2300 | hg2300
                · replace h := condT hg2300 h
                  obtain ⟨y2301, hx2302, h⟩ := bindS h
                  refine idxA_rule (e := 28) 1 _ (by kernel_rfl) (by kernel_rfl) (idxL_some hx2302).1 (idxL_some hx2302).2.1 ?_
                  obtain ⟨cs2303, hR2304, hC2305⟩ := H.rowElemJ (k := tStr) 4 3 rfl rfl rfl hx2302
                  replace hR2304 : cs2303 = [.string (bs y2301)] := by exact hR2304
                  subst hR2304
                  refine load_at hC2305 0 (by kernel_rfl) rfl ?_
                  obtain ⟨y2306, hx2307, h⟩ := bindS h
                  refine idxS_rule (by kernel_rfl) hx2307 ?_
                  exact cut_inA ⟨A1489, c1490, cs1491, al1492, _, _, h, rfl, H.pickL [0, 1, 2, 3, 4] rfl⟩
                · replace h := condF hg2300 h
                  refine skipIA (.pointer (some ⟨0, 0, none⟩)) (gF1 hg2300) ?_
                  refine skipLD (.string (bs ([] : List UInt8))) (gF1 hg2300) ?_
                  refine skipIX (.int .u8 0) (gF1 hg2300) ?_
                  exact cut_inA ⟨A1489, c1490, cs1491, al1492, _, _, h, rfl, H.pickL [0, 1, 2, 3, 4] rfl⟩
              · rintro _ w2308 ⟨A2287, c2288, cs2289, al2290, v2286, v2291, h, rfl, H⟩
                unfold gemotlaw16_RekeyMany.k4 at h
                refine nc_cond rfl (fun hc2309 => ?_) (fun hc2309 => ?_)
                · replace h := condT hc2309 h
                  refine nc ?_
                  exact cut_inA ⟨A2287, c2288, cs2289, al2290, _, _, h, rfl, H.pickL [0, 1, 2, 3, 4] rfl⟩
                · replace h := condF hc2309 h
                  refine nc ?_
                  exact cut_inA ⟨A2287, c2288, cs2289, al2290, _, _, h, rfl, H.pickL [0, 1, 2, 3, 4] rfl⟩
            · rintro _ w2310 ⟨A2263, c2264, cs2265, al2266, v2262, v2267, h, rfl, H⟩
              unfold gemotlaw16_RekeyMany.k3 at h
              refine nc_cut (fun e w2333 => ∃ (A2328 : Option Addr) (c2329 : Nat) (cs2330 : List Value) (al2331 : List (Nat × A_rekey_Round)) (v2327 : List (Option O_rekey_Round)) (v2332 : Bool), gemotlaw16_RekeyMany.k2 y29 v1494 v1495 v2267 v2327 v2332 = some q2069 ∧ e = [(9, .slice A2328 v2327.length c2329), (10, .slice A37 y29.2.length c38), (11, .int .i64 (IntKind.i64.wrap ((y29.1.length : Int) - (1 : Int)))), (12, .int .i64 v2267), (13, .int .i64 v1494), (14, .int .i64 v1495), (75, .bool v2332)] ∧ Eng.Own ok w w2333 [.dat (dRows tPtr (ptrA al2331 v2327) cs2330), .row (.slice A2328 v2327.length c2329) 46 1 v2327.length cs2330, box (shelfL (objO oL_rekey_Round) al2331 v2327), .dat (dRows tStr y29.2 cs39), .row (.slice A37 y29.2.length c38) 28 1 y29.2.length cs39]) ?_ ?_
              · skip
                refine nc ?_
                obtain ⟨y2335, hx2336, h⟩ := bindS h
                obtain ⟨a2337, _, rfl, _, _⟩ := H.rowElem (k := tStr) 4 3 rfl rfl rfl hx2336
                refine idxA_rule (e := 28) 1 _ (by kernel_rfl) (by kernel_rfl) (idxL_some hx2336).1 (idxL_some hx2336).2.1 ?_
                obtain ⟨cs2338, hR2339, hC2340⟩ := H.rowElemJ (k := tStr) 4 3 rfl rfl rfl hx2336
                replace hR2339 : cs2338 = [.string (bs y2335)] := by exact hR2339
                subst hR2339
                refine load_at hC2340 0 (by kernel_rfl) rfl ?_
                rcases Bool.eq_false_or_eq_true (!(strEq y2335 ([] : List UInt8))) with hg2341 | hg2341
                · replace h := condT hg2341 h
                  obtain ⟨y2342, hx2343, h⟩ := bindS h
                  refine idxA_rule (e := 28) 1 _ (by kernel_rfl) (by kernel_rfl) (idxL_some hx2343).1 (idxL_some hx2343).2.1 ?_
                  obtain ⟨cs2344, hR2345, hC2346⟩ := H.rowElemJ (k := tStr) 4 3 rfl rfl rfl hx2343
                  replace hR2345 : cs2344 = [.string (bs y2342)] := by exact hR2345
                  subst hR2345
                  refine load_at hC2346 0 (by kernel_rfl) rfl ?_
                  obtain ⟨y2347, hx2348, h⟩ := bindS h
                  refine idxS_rule (by kernel_rfl) hx2348 ?_
                  exact cut_inA ⟨A2263, c2264, cs2265, al2266, _, _, h, rfl, H.pickL [0, 1, 2, 3, 4] rfl⟩
                · replace h := condF hg2341 h
                  refine skipIA (.pointer (some ⟨0, 0, none⟩)) (gF1 hg2341) ?_
                  refine skipLD (.string (bs ([] : List UInt8))) (gF1 hg2341) ?_
                  refine skipIX (.int .u8 0) (gF1 hg2341) ?_
                  exact cut_inA ⟨A2263, c2264, cs2265, al2266, _, _, h, rfl, H.pickL [0, 1, 2, 3, 4] rfl⟩
              · rintro _ w2349 ⟨A2328, c2329, cs2330, al2331, v2327, v2332, h, rfl, H⟩
                unfold gemotlaw16_RekeyMany.k2 at h
                refine nc_cond rfl (fun hc2350 => ?_) (fun hc2350 => ?_)
                · replace h := condT hc2350 h
                  refine nc ?_
                  exact cut_inA ⟨A2328, c2329, cs2330, al2331, _, _, _, h, rfl, H.pickL [0, 1, 2, 3, 4] rfl⟩
                · replace h := condF hc2350 h
                  refine nc ?_
                  exact cut_inA ⟨A2328, c2329, cs2330, al2331, _, _, _, h, rfl, H.pickL [0, 1, 2, 3, 4] rfl⟩
          · rintro _ w2351 ⟨A2212, c2213, cs2214, al2215, v2211, v2216, v2217, h, rfl, H⟩
            unfold gemotlaw16_RekeyMany.k1 at h
            refine nc ?_
            cases h
            exact again_inA ⟨A2212, c2213, cs2214, al2215, _, _, _, _, hq2070, rfl, H.pickL [0, 1, 2, 3, 4] rfl⟩
        · replace h := condF hc2077 h
          refine nc ?_
          cases h
          replace hq2070 : (v1488, v1493, v1494) = o2065 := hq2070
          subst hq2070
          have h := hO2067
          try dsimp only [Sum.elim_inl, Sum.elim_inr] at h
          exact cut_inA ⟨A1489, c1490, cs1491, al1492, _, _, _, h, rfl, H.pickL [0, 1, 2] rfl⟩
      · rintro _ w2352 ⟨A1196, c1197, cs1198, al1199, v1195, v1200, v1201, h, rfl, H⟩
        unfold gemotlaw16_RekeyMany.k6 at h
        refine nc_seq ?_
        refine nc ?_
        refine nc ?_
        replace h := Option.some.inj h
        subst h
        exact ret_inA [.bool (cond (v1200 == (IntKind.i64.wrap ((IntKind.i64.wrap ((y29.1.length : Int) - (1 : Int))) * (IntKind.i64.wrap ((IntKind.i64.wrap ((2 : Int) * (v1195.length : Int))) - (2 : Int)))))) (v1201 == (IntKind.i64.wrap ((IntKind.i64.wrap ((y29.1.length : Int) - (1 : Int))) * (v1195.length : Int)))) false)] ⟨_, rfl, ⟨rfl, H.frame⟩⟩
end Go.Proofs.YtfapphlhkfddoaaGreatDoor.G

/- RekeyMany, as it is reckoned. -/
namespace Go.Proofs.YtfapphlhkfddoaaGreatDoor.G
open Go.RowKit Go.Eng Go.Proofs Go.Proofs.YtfapphlhkfddoaaGreatDoor.Cut
set_option linter.unusedVariables false
set_option linter.unusedSimpArgs false

/-! All duties together -/
theorem names_nd : ∀ (T : Tr) (pre : List UInt8), ((nodesT pre T).map (·.1)).Nodup
  | .leaf p, pre => by simp [nodesT]
  | .two l r, pre => by
    have h1 := names_nd l (pre ++ [108])
    have h2 := names_nd r (pre ++ [114])
    simp only [nodesT, List.map_cons, List.map_append]
    refine List.nodup_cons.2 ⟨fun hm => ?_, List.nodup_append.2 ⟨h1, h2, fun a ha b hb e => ?_⟩⟩
    · rcases List.mem_append.1 hm with q | q
      · obtain ⟨x, hx, e⟩ := List.mem_map.1 q
        obtain ⟨t, ht⟩ := nodes_pre l _ x hx
        rw [ht] at e
        have := congrArg List.length e
        simp at this
      · obtain ⟨x, hx, e⟩ := List.mem_map.1 q
        obtain ⟨t, ht⟩ := nodes_pre r _ x hx
        rw [ht] at e
        have := congrArg List.length e
        simp at this
    · obtain ⟨x, hx, e1⟩ := List.mem_map.1 ha
      obtain ⟨y, hy, e2⟩ := List.mem_map.1 hb
      obtain ⟨t, ht⟩ := nodes_pre l _ x hx
      obtain ⟨u, hu⟩ := nodes_pre r _ y hy
      rw [← e1, ← e2, ht, hu, List.append_assoc, List.append_assoc] at e
      have := List.append_cancel_left e
      exact absurd (List.cons.inj this).1 (by decide)
theorem names_mem (T : Tr) (n : List UInt8) : n ∈ (nodesT [] T).map (·.1) ↔ ∃ S, subT T n = some S := by
  have h := find_sub T [] n
  rw [List.nil_append] at h
  constructor
  · intro hm
    obtain ⟨x, hx, e⟩ := List.mem_map.1 hm
    cases hs : subT T n with
    | some S => exact ⟨S, rfl⟩
    | none =>
      rw [hs] at h
      have := List.find?_eq_none.1 h x hx
      exact absurd e (by simpa using this)
  · rintro ⟨S, hs⟩
    rw [hs] at h
    have := List.mem_of_find?_eq_some h
    exact List.mem_map.2 ⟨_, this, rfl⟩
theorem count_by {α : Type} (f : α → Int) : ∀ (A : List Int) (B : List α), A.Nodup → (∀ b ∈ B, f b ∈ A) → (A.map fun p => (B.filter fun b => decide (f b = p)).length).sum = B.length := by
  intro A B
  induction B with
  | nil =>
    intro _ _
    have : ∀ A : List Int, (A.map fun p => (([] : List α).filter fun b => decide (f b = p)).length).sum = 0 := by
      intro A
      induction A with
      | nil => rfl
      | cons a A ih =>
        rw [List.map_cons, List.sum_cons, ih]
        rfl
    exact this A
  | cons b B ih =>
    intro hA hB
    have h1 := ih hA fun x hx => hB x (List.mem_cons_of_mem _ hx)
    have h2 : ∀ A : List Int, A.Nodup → (A.map fun p => ((b :: B).filter fun x => decide (f x = p)).length).sum = (A.map fun p => (B.filter fun x => decide (f x = p)).length).sum + (if f b ∈ A then 1 else 0) := by
      intro A
      induction A with
      | nil => intro _; rfl
      | cons a A ihA =>
        intro hn
        obtain ⟨n1, n2⟩ := List.nodup_cons.1 hn
        have ihA' := ihA n2
        rw [List.map_cons, List.sum_cons, List.map_cons, List.sum_cons, ihA']
        by_cases e : f b = a
        · have e2 : ((b :: B).filter fun x => decide (f x = a)).length = (B.filter fun x => decide (f x = a)).length + 1 := by
            rw [List.filter_cons, if_pos (by simpa using e), List.length_cons]
          rw [e2, if_neg (by rw [e]; exact n1), if_pos (by rw [e]; exact List.mem_cons_self)]
          omega
        · have e2 : ((b :: B).filter fun x => decide (f x = a)).length = (B.filter fun x => decide (f x = a)).length := by
            rw [List.filter_cons, if_neg (by simpa using e)]
          have e3 : (f b ∈ a :: A) ↔ f b ∈ A := ⟨fun q => (List.mem_cons.1 q).resolve_left e, List.mem_cons_of_mem _⟩
          rw [e2]
          simp only [e3]
          omega
    rw [h2 A hA, h1, if_pos (hB b List.mem_cons_self), List.length_cons]
theorem duties_sum {T : Tr} (hk : T.ok) (hn : T.leavesR.Nodup) : sumN (fun i => (duT T (mAt T i)).length) (nN T) + 2 = 2 * nN T := by
  have ho : ofM T.text = some T := by rw [ofM_iff hk, if_pos hn]
  have hd : (memS T).Nodup := (sortZ_perm _).nodup_iff.2 hn
  have hnd := names_nd T []
  -- all nodes but the root
  have hroot : ([] : List UInt8) ∈ (nodesT [] T).map (·.1) := (names_mem T []).2 ⟨T, subT_nil T⟩
  have hB : (((nodesT [] T).map (·.1)).erase []).length + 1 = (nodesT [] T).length := by
    rw [List.length_erase_of_mem hroot, List.length_map]
    have := nodesT_pos T []
    omega
  have hcount := nodes_count T []
  have hmemB : ∀ n, n ∈ ((nodesT [] T).map (·.1)).erase [] ↔ n ≠ [] ∧ ∃ S, subT T n = some S := fun n => by
    rw [hnd.mem_erase_iff, names_mem]
  have hndB : (((nodesT [] T).map (·.1)).erase []).Nodup := hnd.erase _
  have hlen : ∀ p ∈ memS T, (duT T p).length = ((((nodesT [] T).map (·.1)).erase []).filter fun n => decide (sponM T.text n = p)).length := fun p hp => by
    have hp' : p ∈ T.leavesR := (sortZ_perm _).mem_iff.1 hp
    obtain ⟨π, hπ⟩ := leaf_path hp'
    have hpm : pathM T.text p = upT π := by rw [pathM_eq ho, hπ]
    have hdn : (duT T p).Nodup := dut_nodup _ _ (by rw [hpm]; exact up_nodup π)
    refine List.Perm.length_eq ((List.perm_ext_iff_of_nodup hdn (hndB.filter _)).2 fun n => ?_)
    rw [List.mem_filter, hmemB, decide_eq_true_iff]
    constructor
    · intro h
      have hu : n ∈ upT π := by rw [← hpm]; exact (List.mem_filter.1 h).1
      obtain ⟨i, hi, e⟩ := List.mem_map.1 (show n ∈ (List.range (π.length + 1)).map fun j => π.take (π.length - j) from hu)
      obtain ⟨S, hs, _⟩ := path_node hπ (π.length - i)
      rw [e] at hs
      have := (dut_mem hk hn hs p).1 h
      exact ⟨⟨this.1, S, hs⟩, this.2⟩
    · rintro ⟨⟨h1, S, hs⟩, h2⟩
      exact (dut_mem hk hn hs p).2 ⟨h1, h2⟩
  have hsum := count_by (fun n => sponM T.text n) (memS T) (((nodesT [] T).map (·.1)).erase []) hd fun n hm => by
    obtain ⟨h1, S, hs⟩ := (hmemB n).1 hm
    refine (sortZ_perm _).mem_iff.2 ?_
    rw [sponM_in ho, hs]
    exact (sub_ok4 hk hn hs).2.2.1 _ (head_in (leavesR_pos S))
  have e : sumN (fun i => (duT T (mAt T i)).length) (nN T) = ((memS T).map fun p => ((((nodesT [] T).map (·.1)).erase []).filter fun n => decide (sponM T.text n = p)).length).sum := by
    unfold sumN
    congr 1
    refine List.ext_getElem (by simp) fun i h1 h2 => ?_
    have hi : i < nN T := by simpa using h1
    simp only [List.getElem_map, List.getElem_range]
    rw [mAt_get hi]
    exact hlen _ (List.getElem_mem hi)
  have hsl : nN T = T.leavesR.length := sortZ_len _
  omega
/-! What was heard -/
def cntH (c : UInt8) (l : List (List UInt8)) : Nat := (l.filter fun t => decide (t.head? = some c)).length
theorem cntH_app (c : UInt8) (a b : List (List UInt8)) : cntH c (a ++ b) = cntH c a + cntH c b := by unfold cntH; rw [List.filter_append, List.length_append]
theorem cntH_one (c d : UInt8) (r : List UInt8) : cntH c [d :: r] = if d = c then 1 else 0 := by
  unfold cntH
  by_cases h : d = c
  · rw [if_pos h, h]; simp
  · rw [if_neg h]; simp [h]
theorem cntH_le (c : UInt8) (l : List (List UInt8)) : cntH c l ≤ l.length := List.length_filter_le _ _
section
variable {T : Tr} {V : D_api_View} {first : Int} {o : Nat → O_rekey_Round}
theorem heard_cnt : ∀ dl : List D_list_Message, (∀ x ∈ dl, toldBy T V first o x) → cntH 101 (dl.flatMap termsOf) = sumW 1 0 dl ∧ cntH 104 (dl.flatMap termsOf) = sumW 0 1 dl ∧ ∀ t ∈ dl.flatMap termsOf, t ≠ [] := by
  intro dl
  induction dl with
  | nil => intro _; exact ⟨rfl, rfl, fun t ht => by cases ht⟩
  | cons x dl ih =>
    intro h
    obtain ⟨h1, h2, h3⟩ := ih fun y hy => h y (List.mem_cons_of_mem _ hy)
    have e1 : sumW 1 0 (x :: dl) = wM 1 0 x + sumW 1 0 dl := by simp [sumW]
    have e2 : sumW 0 1 (x :: dl) = wM 0 1 x + sumW 0 1 dl := by simp [sumW]
    rw [List.flatMap_cons, cntH_app, cntH_app, h1, h2, e1, e2]
    obtain ⟨i, hi, ⟨n, hn, rfl⟩ | ⟨rfl, hb⟩⟩ := h x List.mem_cons_self
    · have f1 : cntH 101 (termsOf (msgB T V first n)) = 1 := by
        show cntH 101 ([116 :: 0 :: UInt8.ofNat n.length :: n] ++ [101 :: 1 :: secAt T (nmS T first) n]) = 1
        rw [cntH_app, cntH_one, cntH_one]; rfl
      have f2 : cntH 104 (termsOf (msgB T V first n)) = 0 := by
        show cntH 104 ([116 :: 0 :: UInt8.ofNat n.length :: n] ++ [101 :: 1 :: secAt T (nmS T first) n]) = 0
        rw [cntH_app, cntH_one, cntH_one]; rfl
      refine ⟨by rw [f1]; rfl, by rw [f2]; rfl, fun t ht => ?_⟩
      rcases List.mem_append.1 ht with q | q
      · rcases List.mem_cons.1 q with rfl | q
        · exact fun e => by cases e
        · rw [List.mem_singleton.1 q]; exact fun e => by cases e
      · exact h3 t q
    · have f1 : cntH 101 (termsOf (msgC T V first (mAt T i))) = 0 := by
        show cntH 101 [104 :: 112 :: (keyT T V first ++ countedT 117 (IntKind.u64.wrap (mAt T i)))] = 0
        rw [cntH_one]; rfl
      have f2 : cntH 104 (termsOf (msgC T V first (mAt T i))) = 1 := by
        show cntH 104 [104 :: 112 :: (keyT T V first ++ countedT 117 (IntKind.u64.wrap (mAt T i)))] = 1
        rw [cntH_one]; rfl
      refine ⟨by rw [f1]; rfl, by rw [f2]; rfl, fun t ht => ?_⟩
      rcases List.mem_append.1 ht with q | q
      · rw [List.mem_singleton.1 q]; exact fun e => by cases e
      · exact h3 t q
theorem phi_end (hv : ViewOk T V) {P : Nat → Prop} (h : SysOk T V first P o []) (hP : ∀ i, P i) (wb wc : Nat) : phiW wb wc T o [] = 0 := by
  have e : sumN (fun i => leftW wb wc T (mAt T i) (pth T (mAt T i)) (o i)) (nN T) = sumN (fun _ => 0) (nN T) := sumN_congr fun i hi => by
    have h1 : canT T (mAt T i) (pth T (mAt T i)) (o i) = (duT T (mAt T i)).length := end_can hv h hP hi
    unfold leftW
    rw [h1, Nat.sub_self, Nat.mul_zero, if_pos (end_marked hv h hP hi)]
  have z : ∀ N, sumN (fun _ => 0) N = 0 := fun N => by
    have := sumN_le (f := fun _ => 0) (c := 0) (N := N) fun _ _ => Nat.le_refl _
    omega
  unfold phiW
  rw [e, z, Nat.mul_zero]
  rfl
end
theorem many_loop {heard : List (List UInt8)} {ro : List (Option O_rekey_Round)} (hne : ∀ t ∈ heard, t ≠ []) (hl : heard.length ≤ 100000) :
    loopM (fun s2074 : (List (Option O_rekey_Round)) × Int × Int × Int => gemotlaw16_RekeyMany.b5 (ro, heard) s2074.1 s2074.2.1 s2074.2.2.1 s2074.2.2.2) (ro, (0 : Int), (0 : Int), (0 : Int)) = some (ro, (cntH 101 heard : Int), (cntH 104 heard : Int)) := by
  refine loop_count (fun i => (ro, (cntH 101 (heard.take i) : Int), (cntH 104 (heard.take i) : Int), (i : Int))) heard.length (fun i hi => ?_) ?_
  · show gemotlaw16_RekeyMany.b5 (ro, heard) ro (cntH 101 (heard.take i) : Int) (cntH 104 (heard.take i) : Int) (i : Int) = _
    have hcl := cntH_le 101 (heard.take i)
    have hcl2 := cntH_le 104 (heard.take i)
    rw [List.length_take] at hcl hcl2
    obtain ⟨c, r, hcr⟩ := List.exists_cons_of_ne_nil (hne _ (List.getElem_mem hi))
    have hx : idxL heard (i : Int) = some (c :: r) := by rw [idxL_lt hi, hcr]
    have hs : strEq (c :: r) ([] : List UInt8) = false := by rw [strEq_eq, decide_eq_false (by simp)]
    have hi0 : idxS (c :: r) (0 : Int) = some (c.toNat : Int) := rfl
    have hq : ∀ d : UInt8, ((c.toNat : Int) == (d.toNat : Int)) = decide (c = d) := fun d => by
      by_cases e : c = d
      · rw [e]; simp
      · rw [decide_eq_false e]
        refine beq_eq_false_iff_ne.2 fun q => e (UInt8.toNat_inj.1 ?_)
        omega
    have h101 := hq 101
    have h104 := hq 104
    rw [show (((101 : UInt8).toNat : Nat) : Int) = 101 from rfl] at h101
    rw [show (((104 : UInt8).toNat : Nat) : Int) = 104 from rfl] at h104
    have t1 : cntH 101 (heard.take (i + 1)) = cntH 101 (heard.take i) + if c = 101 then 1 else 0 := by rw [← take_snoc hi, cntH_app, hcr, cntH_one]
    have t2 : cntH 104 (heard.take (i + 1)) = cntH 104 (heard.take i) + if c = 104 then 1 else 0 := by rw [← take_snoc hi, cntH_app, hcr, cntH_one]
    have hk2 : ∀ (a : Int), gemotlaw16_RekeyMany.k3 (ro, heard) (cntH 104 (heard.take i) : Int) (i : Int) ro a = some (.inl (ro, a, (cntH 104 (heard.take (i + 1)) : Int), ((i + 1 : Nat) : Int))) := fun a => by
      unfold gemotlaw16_RekeyMany.k3
      dsimp only
      rw [hx, Option.bind_some, hs, Bool.not_false, cond_true, Option.bind_some, hi0, Option.bind_some, cond_true, h104]
      unfold gemotlaw16_RekeyMany.k2 gemotlaw16_RekeyMany.k1
      rw [t2, wrap1 i (by omega)]
      by_cases e : c = 104
      · rw [decide_eq_true e, cond_true, if_pos e, wrap1 _ (by omega)]
      · rw [decide_eq_false e, cond_false, if_neg e]; rfl
    unfold gemotlaw16_RekeyMany.b5
    dsimp only
    rw [cond_t (by omega), hx, Option.bind_some, hs, Bool.not_false, cond_true, Option.bind_some, hi0, Option.bind_some, cond_true, h101]
    unfold gemotlaw16_RekeyMany.k4
    rw [t1]
    by_cases e : c = 101
    · rw [decide_eq_true e, cond_true, if_pos e, wrap1 _ (by omega), hk2]
    · rw [decide_eq_false e, cond_false, if_neg e, hk2]; rfl
  · show gemotlaw16_RekeyMany.b5 (ro, heard) _ _ _ (heard.length : Int) = _
    unfold gemotlaw16_RekeyMany.b5
    dsimp only
    rw [cond_f (Int.lt_irrefl _), List.take_length]
theorem many_law {x0 : Int} (h0 : inI64 x0) (x1 : Int) {x2 : List Int} (h2 : ∀ x ∈ x2, inI64 x) : gemotlaw16_RekeyMany.f x0 x1 x2 = some true := by
  obtain ⟨ms, hm, hof⟩ := of_is h0
  obtain ⟨e, h, hV, hh, he0, he1⟩ := hof 3 (by constructor <;> decide)
  unfold gemotlaw16_RekeyMany.f
  rw [shown16, Option.bind_some, Bool.not_true, cond_false]
  by_cases hl : (x2.length : Int) > (60 : Int)
  · rw [decide_eq_true hl]; rfl
  rw [decide_eq_false hl, cond_false]
  have he : 0 ≤ e ∧ e ≤ 1000 := ⟨he0, by omega⟩
  have hv := view_of hm hh he
  obtain ⟨o, dl, a1, a2, a3, a4⟩ := all_is hm hh he (first := x1) h2 (by omega)
  have hms : memS (buildT ms) = ms := buildT_ms hm
  have hN : nN (buildT ms) = ms.length := by show (memS (buildT ms)).length = _; rw [hms]
  have h8 := nN_le hv
  have hP : ∀ i : Nat, (fun _ => True) i := fun _ => trivial
  obtain ⟨c1, c2, c3⟩ := heard_cnt dl a3
  have hdl : dl.length ≤ 448 := by
    have := a4 1 1
    rw [sumW_one] at this
    have := allW_le hv
    omega
  have hhl := heard_len dl fun x hx => toldBy_terms (a3 x hx)
  have hds := duties_sum hv.ok hv.nd
  have hA : sumW 1 0 dl = (nN (buildT ms) - 1) * (2 * nN (buildT ms) - 2) := by
    have := a4 1 0
    rw [phi_end hv a2 hP, Nat.add_zero] at this
    rw [this]
    unfold allW
    rw [sumN_congr (f := fun i => 1 * (duT (buildT ms) (mAt (buildT ms) i)).length + 0) (g := fun i => (duT (buildT ms) (mAt (buildT ms) i)).length) (fun i _ => by show 1 * _ + 0 = _; omega)]
    congr 1
    omega
  have one : ∀ N, sumN (fun _ => 1) N = N := fun N => by
    induction N with
    | zero => rfl
    | succ N ih => rw [sumN_succ, ih]
  have hB : sumW 0 1 dl = (nN (buildT ms) - 1) * nN (buildT ms) := by
    have := a4 0 1
    rw [phi_end hv a2 hP, Nat.add_zero] at this
    rw [this]
    unfold allW
    rw [sumN_congr (f := fun i => 0 * (duT (buildT ms) (mAt (buildT ms) i)).length + 1) (g := fun _ => 1) (fun i _ => by show 0 * _ + 1 = _; omega), one]
  rw [hV, Option.bind_some, a1, Option.bind_some]
  dsimp only
  rw [osL_len, ← hN, bne_self_eq_false, cond_false, many_loop c3 (by omega), Option.bind_some]
  unfold gemotlaw16_RekeyMany.k6
  dsimp only
  rw [osL_len, c1, c2, hA, hB]
  have hp : 0 < nN (buildT ms) := by
    show 0 < (memS (buildT ms)).length
    rw [hms]
    exact List.length_pos_iff.2 hm.ne
  generalize nN (buildT ms) = N at *
  have w1 : IntKind.i64.wrap ((N : Int) - (1 : Int)) = ((N - 1 : Nat) : Int) := by rw [Eng.i64_id (by omega) (by omega)]; omega
  have w2 : IntKind.i64.wrap ((IntKind.i64.wrap ((2 : Int) * (N : Int))) - (2 : Int)) = ((2 * N - 2 : Nat) : Int) := by rw [Eng.i64_id (x := (2 : Int) * (N : Int)) (by omega) (by omega), Eng.i64_id (by omega) (by omega)]; omega
  have b1 := Nat.mul_le_mul (show N - 1 ≤ 7 by omega) (show 2 * N - 2 ≤ 14 by omega)
  have b2 := Nat.mul_le_mul (show N - 1 ≤ 7 by omega) (show N ≤ 8 by omega)
  rw [w1, w2, ← Int.natCast_mul, ← Int.natCast_mul, Eng.i64_id (by omega) (by omega), Eng.i64_id (by omega) (by omega)]
  simp
theorem many_row {ok : Nat → Prop} {w : World} {u2 : Value} {x0 x1 : Int} {x2 : List Int} (hu : slR (tInt .i64) w ok u2 x2) (h2 : ∀ x ∈ x2, inI64 x) (h0 : inI64 x0) :
    Calls Tryz.prog 5 #[.int .i64 x0, .int .u64 x1, u2] w fun e w' => ∃ r, e = .returned r ∧ r = .bool true ∧ Below w.heap.size w w' :=
  (gemotlaw16_RekeyMany_ok hu (many_law h0 x1 h2)).mono fun e w' ⟨v, h1, h2, h3⟩ => ⟨v, h1, h2, h3.toBelow⟩
end Go.Proofs.YtfapphlhkfddoaaGreatDoor.G

