/- Walks, printed by a program of this proof's own. -/
import Derived.Test.YtgomlcfoifkdiaaGC
import Derived.KernelRfl
namespace Go.Proofs.Ytgomlcfoifkdiaa.G
open Go.RowKit Go.Eng Go.Proofs
set_option linter.unusedVariables false
set_option maxRecDepth 20000
/-! gemot/gemotlaw11.CutAll -/
noncomputable def gemotlaw11_CutAll.k1 (x0 : List (List Int)) (x1 : Int) (v8630 : List D_cut_Report) (v8639 : Int) (y12966 : (List D_cut_Log)) (v12984 : Int) (v12985 : Int) (v13488 : List Int) (v13492 : Int) (v13741 : Bool) : Option (((List Int) × Int) ⊕ (List Int)) := cond v13741 ((idxL v13488 v13492).bind fun y13758 => (idxL x0 v8639).bind fun y13761 => (idxL y13761 v13492).bind fun y13772 => (gemotlaw11_pick.f y13772 (6 : Int)).bind fun y13778 => (idxL v13488 v13492).bind fun y13784 => some (.inl ((v13488.set (v13492).toNat (maxI y13758 y13778)), (IntKind.i64.wrap (v13492 + (1 : Int)))))) (some (.inr v13488))
noncomputable def gemotlaw11_CutAll.b2 (x0 : List (List Int)) (x1 : Int) (v8630 : List D_cut_Report) (v8639 : Int) (y12966 : (List D_cut_Log)) (v12984 : Int) (v12985 : Int) (v13488 : List Int) (v13492 : Int) : Option (((List Int) × Int) ⊕ (List Int)) := cond (decide (v13492 < (3 : Int))) ((idxL x0 v8639).bind fun y13745 => gemotlaw11_CutAll.k1 x0 x1 v8630 v8639 y12966 v12984 v12985 v13488 v13492 (cond (cond (decide (v13492 < (3 : Int))) (decide (v13492 < (y13745.length : Int))) false) (v8639 != x1) false)) (gemotlaw11_CutAll.k1 x0 x1 v8630 v8639 y12966 v12984 v12985 v13488 v13492 (cond (cond (decide (v13492 < (3 : Int))) (decide (v13492 < (0 : Int))) false) (v8639 != x1) false))
noncomputable def gemotlaw11_CutAll.k3 (x0 : List (List Int)) (x1 : Int) (v8639 : Int) (v12944 : List D_cut_Report) (v12949 : List Int) : Option (((List D_cut_Report) × (List Int) × Int) ⊕ ((List D_cut_Report) × (List Int))) := some (.inl (v12944, v12949, (IntKind.i64.wrap (v8639 + (1 : Int)))))
noncomputable def gemotlaw11_CutAll.k4 (x0 : List (List Int)) (x1 : Int) (v8630 : List D_cut_Report) (v8639 : Int) (y12966 : (List D_cut_Log)) (v12984 : Int) (v12985 : Int) (v13389 : List Int) : Option (((List D_cut_Report) × (List Int) × Int) ⊕ ((List D_cut_Report) × (List Int))) := roomM 48 (v8630.length + 1) (gemotlaw11_CutAll.k3 x0 x1 v8639 (v8630 ++ [((IntKind.i64.wrap (v8639 + (1 : Int))), (v12984, v12985), y12966)]) v13389)
noncomputable def gemotlaw11_CutAll.k5 (x0 : List (List Int)) (x1 : Int) (v8630 : List D_cut_Report) (v8635 : List Int) (v8639 : Int) (y12966 : (List D_cut_Log)) (v12984 : Int) (v12985 : Int) : Option (((List D_cut_Report) × (List Int) × Int) ⊕ ((List D_cut_Report) × (List Int))) := (loopM (fun s13697 : (List Int) × Int => gemotlaw11_CutAll.b2 x0 x1 v8630 v8639 y12966 v12984 v12985 s13697.1 s13697.2) (v8635, (0 : Int))).bind (fun (o13696 : (List Int)) => gemotlaw11_CutAll.k4 x0 x1 v8630 v8639 y12966 v12984 v12985 o13696)
noncomputable def gemotlaw11_CutAll.b6 (x0 : List (List Int)) (x1 : Int) (v8630 : List D_cut_Report) (v8635 : List Int) (v8639 : Int) : Option (((List D_cut_Report) × (List Int) × Int) ⊕ ((List D_cut_Report) × (List Int))) := cond (decide (v8639 < (x0.length : Int))) ((idxL x0 v8639).bind fun y12955 => (gemotlaw11_rows.f y12955).bind fun y12966 => cond (v8639 == x1) (gemotlaw11_CutAll.k5 x0 x1 v8630 v8635 v8639 y12966 (5 : Int) (1 : Int)) (gemotlaw11_CutAll.k5 x0 x1 v8630 v8635 v8639 y12966 (0 : Int) (0 : Int))) (some (.inr (v8630, v8635)))
noncomputable def gemotlaw11_CutAll.k7 (x0 : List (List Int)) (x1 : Int) (y13806 : (List D_cut_Part)) (y13819 : (List D_cut_Log)) (v147258 : Int) (y213991 : (List D_cut_Log)) (y214003 : (List D_cut_Log)) (v217337 : Int) (v226171 : Int) (v226426 : List (List UInt8)) : Option (((List (List UInt8)) × Int) ⊕ (List (List UInt8))) := some (.inl (v226426, (IntKind.i64.wrap (v226171 + (1 : Int)))))
noncomputable def gemotlaw11_CutAll.b8 (x0 : List (List Int)) (x1 : Int) (y13806 : (List D_cut_Part)) (y13819 : (List D_cut_Log)) (v147258 : Int) (y213991 : (List D_cut_Log)) (y214003 : (List D_cut_Log)) (v217337 : Int) (v226167 : List (List UInt8)) (v226171 : Int) : Option (((List (List UInt8)) × Int) ⊕ (List (List UInt8))) := cond (decide (v226171 < (y213991.length : Int))) ((idxL y213991 v226171).bind fun y226432 => (idxL y13819 v217337).bind fun y226443 => cond (y226432.1 == y226443.1) ((idxL y213991 v226171).bind fun y226456 => roomM 16 (v226167.length + y226456.2.length) (gemotlaw11_CutAll.k7 x0 x1 y13806 y13819 v147258 y213991 y214003 v217337 v226171 (v226167 ++ y226456.2))) (gemotlaw11_CutAll.k7 x0 x1 y13806 y13819 v147258 y213991 y214003 v217337 v226171 v226167)) (some (.inr v226167))
noncomputable def gemotlaw11_CutAll.k9 (x0 : List (List Int)) (x1 : Int) (y13806 : (List D_cut_Part)) (y13819 : (List D_cut_Log)) (v147258 : Int) (y213991 : (List D_cut_Log)) (y214003 : (List D_cut_Log)) (v217337 : Int) (v226982 : Int) (v227236 : List (List UInt8)) : Option (((List (List UInt8)) × Int) ⊕ (List (List UInt8))) := some (.inl (v227236, (IntKind.i64.wrap (v226982 + (1 : Int)))))
noncomputable def gemotlaw11_CutAll.b10 (x0 : List (List Int)) (x1 : Int) (y13806 : (List D_cut_Part)) (y13819 : (List D_cut_Log)) (v147258 : Int) (y213991 : (List D_cut_Log)) (y214003 : (List D_cut_Log)) (v217337 : Int) (v226978 : List (List UInt8)) (v226982 : Int) : Option (((List (List UInt8)) × Int) ⊕ (List (List UInt8))) := cond (decide (v226982 < (y214003.length : Int))) ((idxL y214003 v226982).bind fun y227242 => (idxL y13819 v217337).bind fun y227253 => cond (y227242.1 == y227253.1) ((idxL y214003 v226982).bind fun y227266 => roomM 16 (v226978.length + y227266.2.length) (gemotlaw11_CutAll.k9 x0 x1 y13806 y13819 v147258 y213991 y214003 v217337 v226982 (v226978 ++ y227266.2))) (gemotlaw11_CutAll.k9 x0 x1 y13806 y13819 v147258 y213991 y214003 v217337 v226982 v226978)) (some (.inr v226978))
noncomputable def gemotlaw11_CutAll.k11 (x0 : List (List Int)) (x1 : Int) (y13806 : (List D_cut_Part)) (y13819 : (List D_cut_Log)) (v147258 : Int) (y213991 : (List D_cut_Log)) (y214003 : (List D_cut_Log)) (v217337 : Int) : Option (Int ⊕ (Unit ⊕ Bool)) := some (.inl (IntKind.i64.wrap (v217337 + (1 : Int))))
noncomputable def gemotlaw11_CutAll.k12 (x0 : List (List Int)) (x1 : Int) (y13806 : (List D_cut_Part)) (y13819 : (List D_cut_Log)) (v147258 : Int) (y213991 : (List D_cut_Log)) (y214003 : (List D_cut_Log)) (v217337 : Int) (v226878 : List (List UInt8)) : Option (Int ⊕ (Unit ⊕ Bool)) := (idxL y13819 v217337).bind fun y227286 => (gemotlaw11_texts.f y227286.2).bind fun y227297 => (gemotlaw11_same.f v226878 y227297).bind fun y227310 => cond (!y227310) (some (.inr (Sum.inr false))) (gemotlaw11_CutAll.k11 x0 x1 y13806 y13819 v147258 y213991 y214003 v217337)
noncomputable def gemotlaw11_CutAll.k13 (x0 : List (List Int)) (x1 : Int) (y13806 : (List D_cut_Part)) (y13819 : (List D_cut_Log)) (v147258 : Int) (y213991 : (List D_cut_Log)) (y214003 : (List D_cut_Log)) (v217337 : Int) (v226064 : List (List UInt8)) : Option (Int ⊕ (Unit ⊕ Bool)) := (loopM (fun s227189 : (List (List UInt8)) × Int => gemotlaw11_CutAll.b10 x0 x1 y13806 y13819 v147258 y213991 y214003 v217337 s227189.1 s227189.2) (v226064, (0 : Int))).bind (fun (o227188 : (List (List UInt8))) => gemotlaw11_CutAll.k12 x0 x1 y13806 y13819 v147258 y213991 y214003 v217337 o227188)
noncomputable def gemotlaw11_CutAll.b14 (x0 : List (List Int)) (x1 : Int) (y13806 : (List D_cut_Part)) (y13819 : (List D_cut_Log)) (v147258 : Int) (y213991 : (List D_cut_Log)) (y214003 : (List D_cut_Log)) (v217337 : Int) : Option (Int ⊕ (Unit ⊕ Bool)) := cond (decide (v217337 < (y13819.length : Int))) ((loopM (fun s226379 : (List (List UInt8)) × Int => gemotlaw11_CutAll.b8 x0 x1 y13806 y13819 v147258 y213991 y214003 v217337 s226379.1 s226379.2) (([] : List (List UInt8)), (0 : Int))).bind (fun (o226377 : (List (List UInt8))) => gemotlaw11_CutAll.k13 x0 x1 y13806 y13819 v147258 y213991 y214003 v217337 o226377)) (some (.inr (Sum.inl ())))
noncomputable def gemotlaw11_CutAll.k15 (x0 : List (List Int)) (x1 : Int) (y13806 : (List D_cut_Part)) (y13819 : (List D_cut_Log)) (v147258 : Int) : Option (Int ⊕ (Unit ⊕ Bool)) := some (.inl (IntKind.i64.wrap (v147258 + (1 : Int))))
noncomputable def gemotlaw11_CutAll.b16 (x0 : List (List Int)) (x1 : Int) (y13806 : (List D_cut_Part)) (y13819 : (List D_cut_Log)) (v147258 : Int) : Option (Int ⊕ (Unit ⊕ Bool)) := cond (decide (v147258 < (x0.length : Int))) (cond (v147258 == x1) (gemotlaw11_CutAll.k15 x0 x1 y13806 y13819 v147258) ((idxL x0 v147258).bind fun y213980 => (gemotlaw11_rows.f y213980).bind fun y213991 => (cut_Missing.f y13806 ((0 : Int), (0 : Int)) y213991).bind fun y214003 => (loopM (fun s223993 : Int => gemotlaw11_CutAll.b14 x0 x1 y13806 y13819 v147258 y213991 y214003 s223993) (0 : Int)).bind (Sum.elim (fun (o223991 : Unit) => gemotlaw11_CutAll.k15 x0 x1 y13806 y13819 v147258) (fun (o223992 : Bool) => some (.inr (Sum.inr o223992)))))) (some (.inr (Sum.inl ())))
noncomputable def gemotlaw11_CutAll.k17 : Option (Bool) := some true
noncomputable def gemotlaw11_CutAll.k18 (x0 : List (List Int)) (x1 : Int) (v6906 : List D_cut_Report) (v6911 : List Int) : Option (Bool) := (cut_Cut.f v6906).bind fun y13806 => (gemotlaw11_rows.f v6911).bind fun y13819 => (loopM (fun s200634 : Int => gemotlaw11_CutAll.b16 x0 x1 y13806 y13819 s200634) (0 : Int)).bind (Sum.elim (fun (o200632 : Unit) => gemotlaw11_CutAll.k17) (fun (o200633 : Bool) => some o200633))
noncomputable def gemotlaw11_CutAll.f (x0 : List (List Int)) (x1 : Int) : Option (Bool) := (gemotlaw11_shown.f).bind fun y6 => cond (cond (cond (!y6) true ((x0.length : Int) == (0 : Int))) true (decide ((x0.length : Int) > (8 : Int)))) (some y6) ((loopM (fun s12091 : (List D_cut_Report) × (List Int) × Int => gemotlaw11_CutAll.b6 x0 x1 s12091.1 s12091.2.1 s12091.2.2) (([] : List D_cut_Report), (List.replicate 3 (0 : Int)), (0 : Int))).bind (fun (o12089 : (List D_cut_Report) × (List Int)) => gemotlaw11_CutAll.k18 x0 x1 o12089.1 o12089.2))
set_option maxHeartbeats 4000000 in
theorem gemotlaw11_CutAll_ok {ok : Nat → Prop} {w : World} {u1 : Value} {x0 : List (List Int)} {x1 : Int} {r : Bool} (hu2 : slR (tSl (tInt .i64)) w ok u1 x0) (h : gemotlaw11_CutAll.f x0 x1 = some r) :
    Calls Try.prog 4 #[u1, .int .i64 x1] w fun e w' => ∃ v, e = .returned v ∧ (v = .bool r ∧ Bel w.heap.size w w') := by
  have H : Eng.Own ok w w [] := Eng.Own.nil ok w
  obtain ⟨A3, c4, rfl, H⟩ := H.arg rfl hu2
  unfold gemotlaw11_CutAll.f at h
  refine enterN (args := [.slice A3 x0.length c4, .int .i64 x1]) Try.func4 rfl Try.ntmps4 rfl rfl ?_
  refine nc_seq ?_
  refine nc ?_
  refine nc_seq ?_
  refine nc ?_
  obtain ⟨y6, hy7, h⟩ := bindS h
  refine call_rule (by kernel_rfl) (gemotlaw11_shown_ok (ok := fun _ => False) hy7) fun v9 w8 ⟨hv10, hb11⟩ => ?_
  subst hv10
  replace H := H.call hb11
  refine nc_seq ?_
  refine nc_seq ?_
  refine nc ?_
  refine nc_cond rfl (fun hc12 => ?_) (fun hc12 => ?_)
  · replace h := condT hc12 h
    refine nc_seq ?_
    refine nc ?_
    refine nc ?_
    replace h := Option.some.inj h
    subst h
    exact ret_inA [.bool y6] ⟨_, rfl, ⟨rfl, H.frame⟩⟩
  · replace h := condF hc12 h
    refine nc ?_
    refine nc_seq ?_
    refine nc ?_
    refine nc_seq ?_
    refine nc ?_
    refine own_makeSlice (e := 3) (k := (tInt .i64)) (z := .int .i64 0) (0 : Int) 3 8 H (by kernel_rfl) (by kernel_rfl) rfl (fun _ _ => rfl) (by decide) (by decide) fun A13 c14 cs15 w16 H => ?_
    refine nc_cut (fun e w6915 => ∃ (A6907 : Option Addr) (c6908 : Nat) (cs6909 : List Value) (A6912 : Option Addr) (c6913 : Nat) (cs6914 : List Value) (v6906 : List D_cut_Report) (v6911 : List Int), gemotlaw11_CutAll.k18 x0 x1 v6906 v6911 = some r ∧ e = [(0, .slice A3 x0.length c4), (1, .int .i64 x1), (6, .slice A6907 v6906.length c6908), (7, .slice A6912 v6911.length c6913)] ∧ Eng.Own ok w w6915 [.dat (dSl (tSl (tInt .i64)) (.slice A3 x0.length c4) x0), .dat (dRows t_cut_Report v6906 cs6909), .row (.slice A6907 v6906.length c6908) 55 4 v6906.length cs6909, .dat (dRows (tInt .i64) v6911 cs6914), .row (.slice A6912 v6911.length c6913) 3 1 v6911.length cs6914]) ?_ ?_
    · skip
      refine nc_seq ?_
      refine nc ?_
      refine nc_block ?_
      replace H := H.nilRowD t_cut_Report 55
      obtain ⟨o12081, hL12082, hO12083⟩ := bindS h
      obtain ⟨n12084, hL12082⟩ := loopS hL12082
      refine nc ?_
      refine loop_ruleA (fun k e w12088 => ∃ (A8631 : Option Addr) (c8632 : Nat) (cs8633 : List Value) (A8636 : Option Addr) (c8637 : Nat) (cs8638 : List Value) (v8630 : List D_cut_Report) (v8635 : List Int) (v8639 : Int), iterM (fun s12091 : (List D_cut_Report) × (List Int) × Int => gemotlaw11_CutAll.b6 x0 x1 s12091.1 s12091.2.1 s12091.2.2) k (v8630, v8635, v8639) = some o12081 ∧ e = [(0, .slice A3 x0.length c4), (1, .int .i64 x1), (6, .slice A8631 v8630.length c8632), (7, .slice A8636 v8635.length c8637), (8, .int .i64 v8639)] ∧ Eng.Own ok w w12088 [.dat (dSl (tSl (tInt .i64)) (.slice A3 x0.length c4) x0), .dat (dRows t_cut_Report v8630 cs8633), .row (.slice A8631 v8630.length c8632) 55 4 v8630.length cs8633, .dat (dRows (tInt .i64) v8635 cs8638), .row (.slice A8636 v8635.length c8637) 3 1 v8635.length cs8638]) ⟨none, 0, [], A13, c14, cs15, _, _, _, hL12082, rfl, H.pickL [4, 0, 1, 2, 3] rfl⟩ ?_
      rintro k12093 _ w12092 ⟨A8631, c8632, cs8633, A8636, c8637, cs8638, v8630, v8635, v8639, hL12082, rfl, H⟩
      obtain ⟨k12087, rfl, q12085, h, hq12086⟩ := iterS hL12082
      replace h : gemotlaw11_CutAll.b6 x0 x1 v8630 v8635 v8639 = some q12085 := h
      unfold gemotlaw11_CutAll.b6 at h
      refine nc_seq ?_
      refine nc_seq ?_
      refine nc ?_
      refine nc_cond rfl (fun hc12094 => ?_) (fun hc12094 => ?_)
      · replace h := condT hc12094 h
        refine nc ?_
        refine nc_cut (fun e w12953 => ∃ (A12945 : Option Addr) (c12946 : Nat) (cs12947 : List Value) (A12950 : Option Addr) (c12951 : Nat) (cs12952 : List Value) (v12944 : List D_cut_Report) (v12949 : List Int), gemotlaw11_CutAll.k3 x0 x1 v8639 v12944 v12949 = some q12085 ∧ e = [(0, .slice A3 x0.length c4), (1, .int .i64 x1), (6, .slice A12945 v12944.length c12946), (7, .slice A12950 v12949.length c12951), (8, .int .i64 v8639)] ∧ Eng.Own ok w w12953 [.dat (dSl (tSl (tInt .i64)) (.slice A3 x0.length c4) x0), .dat (dRows t_cut_Report v12944 cs12947), .row (.slice A12945 v12944.length c12946) 55 4 v12944.length cs12947, .dat (dRows (tInt .i64) v12949 cs12952), .row (.slice A12950 v12949.length c12951) 3 1 v12949.length cs12952]) ?_ ?_
        · skip
          refine nc_block ?_
          refine nc_seq ?_
          refine nc ?_
          obtain ⟨y12955, hx12956, h⟩ := bindS h
          obtain ⟨a12957, cs12958, rfl, hR12959, H⟩ := H.elemI 0 rfl hx12956
          obtain ⟨u12961, rfl, hu12962⟩ := hR12959
          obtain ⟨A12963, c12964, rfl, H⟩ := H.openD hu12962
          refine idxA_rule (e := 52) 1 _ (by kernel_rfl) (by kernel_rfl) (idxL_some hx12956).1 (idxL_some hx12956).2.1 ?_
          refine own_loadD H 1 rfl 0 (by kernel_rfl) rfl ?_
          obtain ⟨y12966, hy12967, h⟩ := bindS h
          refine call_rule (by kernel_rfl) (gemotlaw11_rows_ok (H.dat 0 rfl) hy12967) fun u12972 w12968 ⟨hu12973, hb12971⟩ => ?_
          replace H := H.callDats hb12971 [dSl t_cut_Log u12972 y12966] ⟨(rowOut_sl hu12973 hb12971), trivial⟩
          obtain ⟨A12974, c12975, hA12976, _⟩ := H.sl 0 rfl
          subst hA12976
          refine own_alloc (z := .agg #[.int .i64 0, .int .i64 0, .int .i64 0, .slice none 0 0]) H (by kernel_rfl) [.int .i64 0, .int .i64 0, .int .i64 0, .slice none 0 0] rfl fun g12979 w12980 H => ?_
          refine own_storeB (m := 4) H 0 rfl (by kernel_rfl) [.int .i64 (IntKind.i64.wrap (v8639 + (1 : Int))), .int .i64 0, .int .i64 0, .slice A12974 y12966.length c12975] rfl rfl rfl rfl fun w12981 H => ?_
          refine nc_cut (fun e w12986 => ∃ (v12984 : Int) (v12985 : Int), gemotlaw11_CutAll.k5 x0 x1 v8630 v8635 v8639 y12966 v12984 v12985 = some q12085 ∧ e = [(0, .slice (some a12957) x0.length c4), (1, .int .i64 x1), (6, .slice A8631 v8630.length c8632), (7, .slice A8636 v8635.length c8637), (8, .int .i64 v8639), (9, .pointer (some ⟨g12979, 0, none⟩))] ∧ Eng.Own ok w w12986 [.dat (dSl (tSl (tInt .i64)) (.slice (some a12957) x0.length c4) x0), .dat (dRows t_cut_Report v8630 cs8633), .row (.slice A8631 v8630.length c8632) 55 4 v8630.length cs8633, .dat (dRows (tInt .i64) v8635 cs8638), .row (.slice A8636 v8635.length c8637) 3 1 v8635.length cs8638, .blk g12979 [.int .i64 (IntKind.i64.wrap (v8639 + (1 : Int))), .int .i64 v12984, .int .i64 v12985, .slice A12974 y12966.length c12975] 55, .dat (dSl t_cut_Log (.slice A12974 y12966.length c12975) y12966)]) ?_ ?_
          · skip
            refine nc_seq ?_
            refine nc ?_
            refine nc_cond rfl (fun hc12988 => ?_) (fun hc12988 => ?_)
            · replace h := condT hc12988 h
              refine nc ?_
              refine own_storeB (m := 2) H 0 rfl (by kernel_rfl) [.int .i64 5, .int .i64 1] rfl rfl rfl rfl fun w12989 H => ?_
              exact cut_inA ⟨_, _, h, rfl, H.pickL [4, 5, 6, 7, 8, 0, 1] rfl⟩
            · replace h := condF hc12988 h
              refine nc ?_
              exact cut_inA ⟨_, _, h, rfl, H.pickL [4, 5, 6, 7, 8, 0, 1] rfl⟩
          · rintro _ w12990 ⟨v12984, v12985, h, rfl, H⟩
            unfold gemotlaw11_CutAll.k5 at h
            refine nc_cut (fun e w13393 => ∃ (A13390 : Option Addr) (c13391 : Nat) (cs13392 : List Value) (v13389 : List Int), gemotlaw11_CutAll.k4 x0 x1 v8630 v8639 y12966 v12984 v12985 v13389 = some q12085 ∧ e = [(0, .slice (some a12957) x0.length c4), (1, .int .i64 x1), (6, .slice A8631 v8630.length c8632), (7, .slice A13390 v13389.length c13391), (8, .int .i64 v8639), (9, .pointer (some ⟨g12979, 0, none⟩))] ∧ Eng.Own ok w w13393 [.dat (dSl (tSl (tInt .i64)) (.slice (some a12957) x0.length c4) x0), .dat (dRows t_cut_Report v8630 cs8633), .row (.slice A8631 v8630.length c8632) 55 4 v8630.length cs8633, .dat (dRows (tInt .i64) v13389 cs13392), .row (.slice A13390 v13389.length c13391) 3 1 v13389.length cs13392, .blk g12979 [.int .i64 (IntKind.i64.wrap (v8639 + (1 : Int))), .int .i64 v12984, .int .i64 v12985, .slice A12974 y12966.length c12975] 55, .dat (dSl t_cut_Log (.slice A12974 y12966.length c12975) y12966)]) ?_ ?_
            · skip
              refine nc_seq ?_
              refine nc ?_
              refine nc_block ?_
              obtain ⟨o13688, hL13689, hO13690⟩ := bindS h
              obtain ⟨n13691, hL13689⟩ := loopS hL13689
              refine nc ?_
              refine loop_ruleA (fun k e w13695 => ∃ (A13489 : Option Addr) (c13490 : Nat) (cs13491 : List Value) (v13488 : List Int) (v13492 : Int), iterM (fun s13697 : (List Int) × Int => gemotlaw11_CutAll.b2 x0 x1 v8630 v8639 y12966 v12984 v12985 s13697.1 s13697.2) k (v13488, v13492) = some o13688 ∧ e = [(0, .slice (some a12957) x0.length c4), (1, .int .i64 x1), (6, .slice A8631 v8630.length c8632), (7, .slice A13489 v13488.length c13490), (8, .int .i64 v8639), (9, .pointer (some ⟨g12979, 0, none⟩)), (10, .int .i64 v13492)] ∧ Eng.Own ok w w13695 [.dat (dSl (tSl (tInt .i64)) (.slice (some a12957) x0.length c4) x0), .dat (dRows t_cut_Report v8630 cs8633), .row (.slice A8631 v8630.length c8632) 55 4 v8630.length cs8633, .dat (dRows (tInt .i64) v13488 cs13491), .row (.slice A13489 v13488.length c13490) 3 1 v13488.length cs13491, .blk g12979 [.int .i64 (IntKind.i64.wrap (v8639 + (1 : Int))), .int .i64 v12984, .int .i64 v12985, .slice A12974 y12966.length c12975] 55, .dat (dSl t_cut_Log (.slice A12974 y12966.length c12975) y12966)]) ⟨A8636, c8637, cs8638, _, _, hL13689, rfl, H.pickL [0, 1, 2, 3, 4, 5, 6] rfl⟩ ?_
              rintro k13699 _ w13698 ⟨A13489, c13490, cs13491, v13488, v13492, hL13689, rfl, H⟩
              obtain ⟨k13694, rfl, q13692, h, hq13693⟩ := iterS hL13689
              replace h : gemotlaw11_CutAll.b2 x0 x1 v8630 v8639 y12966 v12984 v12985 v13488 v13492 = some q13692 := h
              unfold gemotlaw11_CutAll.b2 at h
              refine nc_seq ?_
              refine nc_cut (fun e w13742 => ∃ (v13741 : Bool), gemotlaw11_CutAll.k1 x0 x1 v8630 v8639 y12966 v12984 v12985 v13488 v13492 v13741 = some q13692 ∧ e = [(0, .slice (some a12957) x0.length c4), (1, .int .i64 x1), (6, .slice A8631 v8630.length c8632), (7, .slice A13489 v13488.length c13490), (8, .int .i64 v8639), (9, .pointer (some ⟨g12979, 0, none⟩)), (10, .int .i64 v13492), (69, .bool v13741)] ∧ Eng.Own ok w w13742 [.dat (dSl (tSl (tInt .i64)) (.slice (some a12957) x0.length c4) x0), .dat (dRows t_cut_Report v8630 cs8633), .row (.slice A8631 v8630.length c8632) 55 4 v8630.length cs8633, .dat (dRows (tInt .i64) v13488 cs13491), .row (.slice A13489 v13488.length c13490) 3 1 v13488.length cs13491, .blk g12979 [.int .i64 (IntKind.i64.wrap (v8639 + (1 : Int))), .int .i64 v12984, .int .i64 v12985, .slice A12974 y12966.length c12975] 55, .dat (dSl t_cut_Log (.slice A12974 y12966.length c12975) y12966)]) ?_ ?_
              · skip
                refine nc ?_
                rcases Bool.eq_false_or_eq_true (decide (v13492 < (3 : Int))) with hg13744 | hg13744
                · replace h := condT hg13744 h
                  obtain ⟨y13745, hx13746, h⟩ := bindS h
                  obtain ⟨cs13748, hR13749, H⟩ := H.elemJ 0 rfl hx13746
                  obtain ⟨u13751, rfl, hu13752⟩ := hR13749
                  obtain ⟨A13753, c13754, rfl, H⟩ := H.openD hu13752
                  refine idxA_rule (e := 52) 1 _ (by kernel_rfl) (by kernel_rfl) (idxL_some hx13746).1 (idxL_some hx13746).2.1 ?_
                  refine own_loadD H 1 rfl 0 (by kernel_rfl) rfl ?_
                  exact cut_inA ⟨_, h, rfl, H.pickL [2, 3, 4, 5, 6, 7, 8] rfl⟩
                · replace h := condF hg13744 h
                  refine skipIA (.pointer (some ⟨0, 0, none⟩)) (gF1 hg13744) ?_
                  refine skipLD (.slice none 0 0) (gF1 hg13744) ?_
                  exact cut_inA ⟨_, h, rfl, H.pickL [0, 1, 2, 3, 4, 5, 6] rfl⟩
              · rintro _ w13756 ⟨v13741, h, rfl, H⟩
                unfold gemotlaw11_CutAll.k1 at h
                refine nc_cond rfl (fun hc13757 => ?_) (fun hc13757 => ?_)
                · replace h := condT hc13757 h
                  refine nc ?_
                  refine nc_seq ?_
                  refine nc_block ?_
                  obtain ⟨y13758, hx13759, h⟩ := bindS h
                  obtain ⟨a13760, _, rfl, _, _⟩ := H.rowElem (k := (tInt .i64)) 4 3 rfl rfl rfl hx13759
                  obtain ⟨y13761, hx13762, h⟩ := bindS h
                  obtain ⟨cs13764, hR13765, H⟩ := H.elemJ 0 rfl hx13762
                  obtain ⟨u13767, rfl, hu13768⟩ := hR13765
                  obtain ⟨A13769, c13770, rfl, H⟩ := H.openD hu13768
                  obtain ⟨y13772, hx13773, h⟩ := bindS h
                  obtain ⟨a13774, cs13775, rfl, hR13776, H⟩ := H.elemI 0 rfl hx13773
                  obtain rfl : cs13775 = [.int .i64 y13772] := hR13776
                  obtain ⟨y13778, hy13779, h⟩ := bindS h
                  obtain ⟨y13784, hx13785, h⟩ := bindS h
                  have hx13788 := idxL_set hx13785 (maxI y13758 y13778)
                  refine nc ?_
                  refine draw_rule [] (by kernel_rfl) (by kernel_rfl) H ?_
                  refine c_idxA (e := 3) 1 _ (by kernel_rfl) (by kernel_rfl) (idxL_some hx13759).1 (idxL_some hx13759).2.1 ?_
                  refine c_rowLoad (k := (tInt .i64)) v13492 7 6 0 rfl rfl rfl hx13759 (by kernel_rfl) (fun _ _ cs hR => (show cs = [.int .i64 y13758] → cs[0]? = some (.int .i64 y13758) from fun h => by subst h; rfl) (by exact hR)) ?_
                  refine c_idxA (e := 52) 1 _ (by kernel_rfl) (by kernel_rfl) (idxL_some hx13762).1 (idxL_some hx13762).2.1 ?_
                  refine c_loadD 2 rfl 0 (by kernel_rfl) rfl ?_
                  refine c_idxA (e := 3) 1 _ (by kernel_rfl) (by kernel_rfl) (idxL_some hx13773).1 (idxL_some hx13773).2.1 ?_
                  refine c_loadD 0 rfl 0 (by kernel_rfl) rfl ?_
                  refine c_call (.int .i64 y13778) (by kernel_rfl) (fun _ _ H => gemotlaw11_pick_ok (ok := fun _ => False) hy13779) ?_
                  refine c_idxA (e := 3) 1 _ (by kernel_rfl) (by kernel_rfl) (idxL_some hx13785).1 (idxL_some hx13785).2.1 ?_
                  refine c_rowStore (k := (tInt .i64)) (m := 1) (maxI y13758 y13778) 7 6 rfl rfl v13492 0 rfl hx13785 (by kernel_rfl) [.int .i64 (maxI y13758 y13778)] rfl rfl rfl rfl (fun _ _ cs hR => (show cs = [.int .i64 y13784] → ((tInt .i64)).R _ _ (maxI y13758 y13778) (setRange cs 0 [.int .i64 (maxI y13758 y13778)]) from fun h => by subst h; exact rfl) (by exact hR)) ?_
                  intro cs13787
                  intro w13791 H
                  rw [show v13488.length = (v13488.set (v13492).toNat (maxI y13758 y13778)).length from List.length_set.symm] at H ⊢
                  refine nc ?_
                  cases h
                  exact again_inA ⟨some a13760, c13490, cs13787, _, _, hq13693, rfl, H.pickL [3, 4, 5, 6, 7, 8, 9] rfl⟩
                · replace h := condF hc13757 h
                  refine nc ?_
                  cases h
                  replace hq13693 : v13488 = o13688 := hq13693
                  subst hq13693
                  have h := hO13690
                  try dsimp only [Sum.elim_inl, Sum.elim_inr] at h
                  exact cut_inA ⟨A13489, c13490, cs13491, _, h, rfl, H.pickL [0, 1, 2, 3, 4, 5, 6] rfl⟩
            · rintro _ w13792 ⟨A13390, c13391, cs13392, v13389, h, rfl, H⟩
              unfold gemotlaw11_CutAll.k4 at h
              refine nc ?_
              refine own_loadA (m := 4) H 5 rfl (by kernel_rfl) (by kernel_rfl) [.int .i64 (IntKind.i64.wrap (v8639 + (1 : Int))), .int .i64 v12984, .int .i64 v12985, .slice A12974 y12966.length c12975] rfl rfl ?_
              refine own_buildSlice (e := 55) (sz := 4) (z := .agg #[.int .i64 0, .int .i64 0, .int .i64 0, .slice none 0 0]) (cs := [.int .i64 (IntKind.i64.wrap (v8639 + (1 : Int))), .int .i64 v12984, .int .i64 v12985, .slice A12974 y12966.length c12975]) H (by kernel_rfl) (by kernel_rfl) (by kernel_rfl) rfl rfl rfl rfl fun g13794 w13795 H => ?_
              obtain ⟨hr13796, h⟩ := roomS h
              refine own_append1 (k := t_cut_Report) (z := .agg #[.int .i64 0, .int .i64 0, .int .i64 0, .slice none 0 0]) (x := ((IntKind.i64.wrap (v8639 + (1 : Int))), (v12984, v12985), y12966)) 48 H 2 1 rfl rfl rfl (cut_Report_in (x := ((IntKind.i64.wrap (v8639 + (1 : Int))), (v12984, v12985), y12966)) (H.dat 7 rfl)) (by kernel_rfl) (by kernel_rfl) rfl rfl hr13796 rfl fun z13797 cs13798 w13799 H => ?_
              obtain ⟨A13800, c13801, rfl, _, _⟩ := H.rowSl 2 rfl
              exact cut_inA ⟨A13800, c13801, cs13798, A13390, c13391, cs13392, _, _, h, rfl, H.pickL [0, 1, 2, 3, 4] rfl⟩
        · rintro _ w13803 ⟨A12945, c12946, cs12947, A12950, c12951, cs12952, v12944, v12949, h, rfl, H⟩
          unfold gemotlaw11_CutAll.k3 at h
          refine nc ?_
          cases h
          exact again_inA ⟨A12945, c12946, cs12947, A12950, c12951, cs12952, _, _, _, hq12086, rfl, H.pickL [0, 1, 2, 3, 4] rfl⟩
      · replace h := condF hc12094 h
        refine nc ?_
        cases h
        replace hq12086 : (v8630, v8635) = o12081 := hq12086
        subst hq12086
        have h := hO12083
        try dsimp only [Sum.elim_inl, Sum.elim_inr] at h
        exact cut_inA ⟨A8631, c8632, cs8633, A8636, c8637, cs8638, _, _, h, rfl, H.pickL [0, 1, 2, 3, 4] rfl⟩
    · rintro _ w13804 ⟨A6907, c6908, cs6909, A6912, c6913, cs6914, v6906, v6911, h, rfl, H⟩
      unfold gemotlaw11_CutAll.k18 at h
      refine nc_seq ?_
      refine nc ?_
      replace H := H.freeze (k := t_cut_Report) 2 1 rfl rfl
      obtain ⟨y13806, hy13807, h⟩ := bindS h
      refine call_rule (by kernel_rfl) (cut_Cut_ok (H.dat 2 rfl) hy13807) fun u13812 w13808 ⟨hu13813, hb13811⟩ => ?_
      replace H := H.callDats hb13811 [dSl t_cut_Part u13812 y13806] ⟨hu13813, trivial⟩
      obtain ⟨A13814, c13815, hA13816, _⟩ := H.sl 0 rfl
      subst hA13816
      refine nc_seq ?_
      refine nc ?_
      replace H := H.freeze (k := (tInt .i64)) 5 4 rfl rfl
      obtain ⟨y13819, hy13820, h⟩ := bindS h
      refine call_rule (by kernel_rfl) (gemotlaw11_rows_ok (H.dat 5 rfl) hy13820) fun u13825 w13821 ⟨hu13826, hb13824⟩ => ?_
      replace H := H.callDats hb13824 [dSl t_cut_Log u13825 y13819] ⟨(rowOut_sl hu13826 hb13824), trivial⟩
      obtain ⟨A13827, c13828, hA13829, _⟩ := H.sl 0 rfl
      subst hA13829
      refine nc_cut (fun e w120574 => gemotlaw11_CutAll.k17 = some r ∧ e = [] ∧ Eng.Own ok w w120574 []) ?_ ?_
      · skip
        refine nc_seq ?_
        refine nc ?_
        refine nc_block ?_
        obtain ⟨o200624, hL200625, hO200626⟩ := bindS h
        obtain ⟨n200627, hL200625⟩ := loopS hL200625
        refine nc ?_
        refine loop_ruleA (fun k e w200631 => ∃ (v147258 : Int), iterM (fun s200634 : Int => gemotlaw11_CutAll.b16 x0 x1 y13806 y13819 s200634) k v147258 = some o200624 ∧ e = [(0, .slice A3 x0.length c4), (1, .int .i64 x1), (11, .slice A13814 y13806.length c13815), (12, .slice A13827 y13819.length c13828), (13, .int .i64 v147258)] ∧ Eng.Own ok w w200631 [.dat (dSl (tSl (tInt .i64)) (.slice A3 x0.length c4) x0), .dat (dSl t_cut_Part (.slice A13814 y13806.length c13815) y13806), .dat (dSl t_cut_Log (.slice A13827 y13819.length c13828) y13819)]) ⟨_, hL200625, rfl, H.pickL [2, 1, 0] rfl⟩ ?_
        rintro k200636 _ w200635 ⟨v147258, hL200625, rfl, H⟩
        obtain ⟨k200630, rfl, q200628, h, hq200629⟩ := iterS hL200625
        replace h : gemotlaw11_CutAll.b16 x0 x1 y13806 y13819 v147258 = some q200628 := h
        unfold gemotlaw11_CutAll.b16 at h
        refine nc_seq ?_
        refine nc_seq ?_
        refine nc ?_
        refine nc_cond rfl (fun hc200637 => ?_) (fun hc200637 => ?_)
        · replace h := condT hc200637 h
          refine nc ?_
          refine nc_cut (fun e w213977 => gemotlaw11_CutAll.k15 x0 x1 y13806 y13819 v147258 = some q200628 ∧ e = [(0, .slice A3 x0.length c4), (1, .int .i64 x1), (11, .slice A13814 y13806.length c13815), (12, .slice A13827 y13819.length c13828), (13, .int .i64 v147258)] ∧ Eng.Own ok w w213977 [.dat (dSl (tSl (tInt .i64)) (.slice A3 x0.length c4) x0), .dat (dSl t_cut_Part (.slice A13814 y13806.length c13815) y13806), .dat (dSl t_cut_Log (.slice A13827 y13819.length c13828) y13819)]) ?_ ?_
          · skip
            refine nc_block ?_
            refine nc_seq ?_
            refine nc_seq ?_
            refine nc ?_
            refine nc_cond rfl (fun hc213979 => ?_) (fun hc213979 => ?_)
            · replace h := condT hc213979 h
              refine nc ?_
              exact cut_inA ⟨h, rfl, H.pickL [0, 1, 2] rfl⟩
            · replace h := condF hc213979 h
              refine nc ?_
              refine nc_seq ?_
              refine nc ?_
              obtain ⟨y213980, hx213981, h⟩ := bindS h
              obtain ⟨a213982, cs213983, rfl, hR213984, H⟩ := H.elemI 0 rfl hx213981
              obtain ⟨u213986, rfl, hu213987⟩ := hR213984
              obtain ⟨A213988, c213989, rfl, H⟩ := H.openD hu213987
              refine idxA_rule (e := 52) 1 _ (by kernel_rfl) (by kernel_rfl) (idxL_some hx213981).1 (idxL_some hx213981).2.1 ?_
              refine own_loadD H 1 rfl 0 (by kernel_rfl) rfl ?_
              obtain ⟨y213991, hy213992, h⟩ := bindS h
              refine call_rule (by kernel_rfl) (gemotlaw11_rows_ok (H.dat 0 rfl) hy213992) fun u213997 w213993 ⟨hu213998, hb213996⟩ => ?_
              replace H := H.callDats hb213996 [dSl t_cut_Log u213997 y213991] ⟨(rowOut_sl hu213998 hb213996), trivial⟩
              obtain ⟨A213999, c214000, hA214001, _⟩ := H.sl 0 rfl
              subst hA214001
              refine nc_seq ?_
              refine nc ?_
              obtain ⟨y214003, hy214004, h⟩ := bindS h
              refine call_rule (by kernel_rfl) (cut_Missing_ok (x1 := ((0 : Int), (0 : Int))) (H.dat 4 rfl) (H.dat 0 rfl) hy214004) fun u214009 w214005 ⟨hu214010, hb214008⟩ => ?_
              replace H := H.callDats hb214008 [dSl t_cut_Log u214009 y214003] ⟨hu214010, trivial⟩
              obtain ⟨A214011, c214012, hA214013, _⟩ := H.sl 0 rfl
              subst hA214013
              refine nc_seq ?_
              refine nc ?_
              refine nc_block ?_
              obtain ⟨o223983, hL223984, hO223985⟩ := bindS h
              obtain ⟨n223986, hL223984⟩ := loopS hL223984
              refine nc ?_
              refine loop_ruleA (fun k e w223990 => ∃ (v217337 : Int), iterM (fun s223993 : Int => gemotlaw11_CutAll.b14 x0 x1 y13806 y13819 v147258 y213991 y214003 s223993) k v217337 = some o223983 ∧ e = [(0, .slice (some a213982) x0.length c4), (1, .int .i64 x1), (11, .slice A13814 y13806.length c13815), (12, .slice A13827 y13819.length c13828), (13, .int .i64 v147258), (14, .slice A213999 y213991.length c214000), (15, .slice A214011 y214003.length c214012), (16, .int .i64 v217337)] ∧ Eng.Own ok w w223990 [.dat (dSl (tSl (tInt .i64)) (.slice (some a213982) x0.length c4) x0), .dat (dSl t_cut_Part (.slice A13814 y13806.length c13815) y13806), .dat (dSl t_cut_Log (.slice A13827 y13819.length c13828) y13819), .dat (dSl t_cut_Log (.slice A213999 y213991.length c214000) y213991), .dat (dSl t_cut_Log (.slice A214011 y214003.length c214012) y214003)]) ⟨_, hL223984, rfl, H.pickL [4, 5, 6, 1, 0] rfl⟩ ?_
              rintro k223995 _ w223994 ⟨v217337, hL223984, rfl, H⟩
              obtain ⟨k223989, rfl, q223987, h, hq223988⟩ := iterS hL223984
              replace h : gemotlaw11_CutAll.b14 x0 x1 y13806 y13819 v147258 y213991 y214003 v217337 = some q223987 := h
              unfold gemotlaw11_CutAll.b14 at h
              refine nc_seq ?_
              refine nc_seq ?_
              refine nc ?_
              refine nc_cond rfl (fun hc223996 => ?_) (fun hc223996 => ?_)
              · replace h := condT hc223996 h
                refine nc ?_
                refine nc_cut (fun e w225656 => gemotlaw11_CutAll.k11 x0 x1 y13806 y13819 v147258 y213991 y214003 v217337 = some q223987 ∧ e = [(0, .slice (some a213982) x0.length c4), (1, .int .i64 x1), (11, .slice A13814 y13806.length c13815), (12, .slice A13827 y13819.length c13828), (13, .int .i64 v147258), (14, .slice A213999 y213991.length c214000), (15, .slice A214011 y214003.length c214012), (16, .int .i64 v217337)] ∧ Eng.Own ok w w225656 [.dat (dSl (tSl (tInt .i64)) (.slice (some a213982) x0.length c4) x0), .dat (dSl t_cut_Part (.slice A13814 y13806.length c13815) y13806), .dat (dSl t_cut_Log (.slice A13827 y13819.length c13828) y13819), .dat (dSl t_cut_Log (.slice A213999 y213991.length c214000) y213991), .dat (dSl t_cut_Log (.slice A214011 y214003.length c214012) y214003)]) ?_ ?_
                · skip
                  refine nc_block ?_
                  refine nc_seq ?_
                  refine nc ?_
                  refine nc_cut (fun e w226068 => ∃ (A226065 : Option Addr) (c226066 : Nat) (cs226067 : List Value) (v226064 : List (List UInt8)), gemotlaw11_CutAll.k13 x0 x1 y13806 y13819 v147258 y213991 y214003 v217337 v226064 = some q223987 ∧ e = [(0, .slice (some a213982) x0.length c4), (1, .int .i64 x1), (11, .slice A13814 y13806.length c13815), (12, .slice A13827 y13819.length c13828), (13, .int .i64 v147258), (14, .slice A213999 y213991.length c214000), (15, .slice A214011 y214003.length c214012), (16, .int .i64 v217337), (17, .slice A226065 v226064.length c226066)] ∧ Eng.Own ok w w226068 [.dat (dSl (tSl (tInt .i64)) (.slice (some a213982) x0.length c4) x0), .dat (dSl t_cut_Part (.slice A13814 y13806.length c13815) y13806), .dat (dSl t_cut_Log (.slice A13827 y13819.length c13828) y13819), .dat (dSl t_cut_Log (.slice A213999 y213991.length c214000) y213991), .dat (dSl t_cut_Log (.slice A214011 y214003.length c214012) y214003), .dat (dRows tStr v226064 cs226067), .row (.slice A226065 v226064.length c226066) 62 1 v226064.length cs226067]) ?_ ?_
                  · skip
                    refine nc_seq ?_
                    refine nc ?_
                    refine nc_block ?_
                    replace H := H.nilRowD tStr 62
                    obtain ⟨o226369, hL226370, hO226371⟩ := bindS h
                    obtain ⟨n226372, hL226370⟩ := loopS hL226370
                    refine nc ?_
                    refine loop_ruleA (fun k e w226376 => ∃ (A226168 : Option Addr) (c226169 : Nat) (cs226170 : List Value) (v226167 : List (List UInt8)) (v226171 : Int), iterM (fun s226379 : (List (List UInt8)) × Int => gemotlaw11_CutAll.b8 x0 x1 y13806 y13819 v147258 y213991 y214003 v217337 s226379.1 s226379.2) k (v226167, v226171) = some o226369 ∧ e = [(0, .slice (some a213982) x0.length c4), (1, .int .i64 x1), (11, .slice A13814 y13806.length c13815), (12, .slice A13827 y13819.length c13828), (13, .int .i64 v147258), (14, .slice A213999 y213991.length c214000), (15, .slice A214011 y214003.length c214012), (16, .int .i64 v217337), (17, .slice A226168 v226167.length c226169), (18, .int .i64 v226171)] ∧ Eng.Own ok w w226376 [.dat (dSl (tSl (tInt .i64)) (.slice (some a213982) x0.length c4) x0), .dat (dSl t_cut_Part (.slice A13814 y13806.length c13815) y13806), .dat (dSl t_cut_Log (.slice A13827 y13819.length c13828) y13819), .dat (dSl t_cut_Log (.slice A213999 y213991.length c214000) y213991), .dat (dSl t_cut_Log (.slice A214011 y214003.length c214012) y214003), .dat (dRows tStr v226167 cs226170), .row (.slice A226168 v226167.length c226169) 62 1 v226167.length cs226170]) ⟨none, 0, [], _, _, hL226370, rfl, H.pickL [2, 3, 4, 5, 6, 0, 1] rfl⟩ ?_
                    rintro k226381 _ w226380 ⟨A226168, c226169, cs226170, v226167, v226171, hL226370, rfl, H⟩
                    obtain ⟨k226375, rfl, q226373, h, hq226374⟩ := iterS hL226370
                    replace h : gemotlaw11_CutAll.b8 x0 x1 y13806 y13819 v147258 y213991 y214003 v217337 v226167 v226171 = some q226373 := h
                    unfold gemotlaw11_CutAll.b8 at h
                    refine nc_seq ?_
                    refine nc_seq ?_
                    refine nc ?_
                    refine nc_cond rfl (fun hc226382 => ?_) (fun hc226382 => ?_)
                    · replace h := condT hc226382 h
                      refine nc ?_
                      refine nc_cut (fun e w226430 => ∃ (A226427 : Option Addr) (c226428 : Nat) (cs226429 : List Value) (v226426 : List (List UInt8)), gemotlaw11_CutAll.k7 x0 x1 y13806 y13819 v147258 y213991 y214003 v217337 v226171 v226426 = some q226373 ∧ e = [(0, .slice (some a213982) x0.length c4), (1, .int .i64 x1), (11, .slice A13814 y13806.length c13815), (12, .slice A13827 y13819.length c13828), (13, .int .i64 v147258), (14, .slice A213999 y213991.length c214000), (15, .slice A214011 y214003.length c214012), (16, .int .i64 v217337), (17, .slice A226427 v226426.length c226428), (18, .int .i64 v226171)] ∧ Eng.Own ok w w226430 [.dat (dSl (tSl (tInt .i64)) (.slice (some a213982) x0.length c4) x0), .dat (dSl t_cut_Part (.slice A13814 y13806.length c13815) y13806), .dat (dSl t_cut_Log (.slice A13827 y13819.length c13828) y13819), .dat (dSl t_cut_Log (.slice A213999 y213991.length c214000) y213991), .dat (dSl t_cut_Log (.slice A214011 y214003.length c214012) y214003), .dat (dRows tStr v226426 cs226429), .row (.slice A226427 v226426.length c226428) 62 1 v226426.length cs226429]) ?_ ?_
                      · skip
                        refine nc_block ?_
                        refine nc_seq ?_
                        obtain ⟨y226432, hx226433, h⟩ := bindS h
                        obtain ⟨a226434, cs226435, rfl, hR226436, H⟩ := H.elemI 3 rfl hx226433
                        obtain ⟨u226438, rfl, hu226439⟩ := cut_Log_cells hR226436
                        obtain ⟨A226440, c226441, rfl, H⟩ := H.openD hu226439
                        obtain ⟨y226443, hx226444, h⟩ := bindS h
                        obtain ⟨a226445, cs226446, rfl, hR226447, H⟩ := H.elemI 4 rfl hx226444
                        obtain ⟨u226449, rfl, hu226450⟩ := cut_Log_cells hR226447
                        obtain ⟨A226451, c226452, rfl, H⟩ := H.openD hu226450
                        refine nc ?_
                        refine draw_rule [] (by kernel_rfl) (by kernel_rfl) H ?_
                        refine c_idxA (e := 58) 2 _ (by kernel_rfl) (by kernel_rfl) (idxL_some hx226433).1 (idxL_some hx226433).2.1 ?_
                        refine c_loadD 3 rfl 0 (by kernel_rfl) rfl ?_
                        refine c_idxA (e := 58) 2 _ (by kernel_rfl) (by kernel_rfl) (idxL_some hx226444).1 (idxL_some hx226444).2.1 ?_
                        refine c_loadD 1 rfl 0 (by kernel_rfl) rfl ?_
                        intro w226454 H
                        refine nc_cond rfl (fun hc226455 => ?_) (fun hc226455 => ?_)
                        · replace h := condT hc226455 h
                          refine nc ?_
                          obtain ⟨y226456, hx226457, h⟩ := bindS h
                          obtain ⟨cs226459, hR226460, H⟩ := H.elemJ 7 rfl hx226457
                          obtain ⟨u226462, rfl, hu226463⟩ := cut_Log_cells hR226460
                          obtain ⟨A226464, c226465, rfl, H⟩ := H.openD hu226463
                          refine idxA_rule (e := 58) 2 _ (by kernel_rfl) (by kernel_rfl) (idxL_some hx226457).1 (idxL_some hx226457).2.1 ?_
                          refine own_loadD H 1 rfl 1 (by kernel_rfl) rfl ?_
                          obtain ⟨hr226467, h⟩ := roomS h
                          refine own_appendD (k := tStr) (z := .string ⟨#[]⟩) 16 H 12 11 0 rfl rfl rfl rfl (by kernel_rfl) (by kernel_rfl) rfl rfl hr226467 rfl fun z226468 cs226469 w226470 H => ?_
                          obtain ⟨A226471, c226472, rfl, _, _⟩ := H.rowSl 12 rfl
                          exact cut_inA ⟨A226471, c226472, cs226469, _, h, rfl, H.pickL [6, 7, 8, 9, 10, 11, 12] rfl⟩
                        · replace h := condF hc226455 h
                          refine nc ?_
                          exact cut_inA ⟨A226168, c226169, cs226170, _, h, rfl, H.pickL [4, 5, 6, 7, 8, 9, 10] rfl⟩
                      · rintro _ w226474 ⟨A226427, c226428, cs226429, v226426, h, rfl, H⟩
                        unfold gemotlaw11_CutAll.k7 at h
                        refine nc ?_
                        cases h
                        exact again_inA ⟨A226427, c226428, cs226429, _, _, hq226374, rfl, H.pickL [0, 1, 2, 3, 4, 5, 6] rfl⟩
                    · replace h := condF hc226382 h
                      refine nc ?_
                      cases h
                      replace hq226374 : v226167 = o226369 := hq226374
                      subst hq226374
                      have h := hO226371
                      try dsimp only [Sum.elim_inl, Sum.elim_inr] at h
                      exact cut_inA ⟨A226168, c226169, cs226170, _, h, rfl, H.pickL [0, 1, 2, 3, 4, 5, 6] rfl⟩
                  · rintro _ w226475 ⟨A226065, c226066, cs226067, v226064, h, rfl, H⟩
                    unfold gemotlaw11_CutAll.k13 at h
                    refine nc_cut (fun e w226882 => ∃ (A226879 : Option Addr) (c226880 : Nat) (cs226881 : List Value) (v226878 : List (List UInt8)), gemotlaw11_CutAll.k12 x0 x1 y13806 y13819 v147258 y213991 y214003 v217337 v226878 = some q223987 ∧ e = [(0, .slice (some a213982) x0.length c4), (1, .int .i64 x1), (11, .slice A13814 y13806.length c13815), (12, .slice A13827 y13819.length c13828), (13, .int .i64 v147258), (14, .slice A213999 y213991.length c214000), (15, .slice A214011 y214003.length c214012), (16, .int .i64 v217337), (17, .slice A226879 v226878.length c226880)] ∧ Eng.Own ok w w226882 [.dat (dSl (tSl (tInt .i64)) (.slice (some a213982) x0.length c4) x0), .dat (dSl t_cut_Part (.slice A13814 y13806.length c13815) y13806), .dat (dSl t_cut_Log (.slice A13827 y13819.length c13828) y13819), .dat (dSl t_cut_Log (.slice A213999 y213991.length c214000) y213991), .dat (dSl t_cut_Log (.slice A214011 y214003.length c214012) y214003), .dat (dRows tStr v226878 cs226881), .row (.slice A226879 v226878.length c226880) 62 1 v226878.length cs226881]) ?_ ?_
                    · skip
                      refine nc_seq ?_
                      refine nc ?_
                      refine nc_block ?_
                      obtain ⟨o227180, hL227181, hO227182⟩ := bindS h
                      obtain ⟨n227183, hL227181⟩ := loopS hL227181
                      refine nc ?_
                      refine loop_ruleA (fun k e w227187 => ∃ (A226979 : Option Addr) (c226980 : Nat) (cs226981 : List Value) (v226978 : List (List UInt8)) (v226982 : Int), iterM (fun s227189 : (List (List UInt8)) × Int => gemotlaw11_CutAll.b10 x0 x1 y13806 y13819 v147258 y213991 y214003 v217337 s227189.1 s227189.2) k (v226978, v226982) = some o227180 ∧ e = [(0, .slice (some a213982) x0.length c4), (1, .int .i64 x1), (11, .slice A13814 y13806.length c13815), (12, .slice A13827 y13819.length c13828), (13, .int .i64 v147258), (14, .slice A213999 y213991.length c214000), (15, .slice A214011 y214003.length c214012), (16, .int .i64 v217337), (17, .slice A226979 v226978.length c226980), (19, .int .i64 v226982)] ∧ Eng.Own ok w w227187 [.dat (dSl (tSl (tInt .i64)) (.slice (some a213982) x0.length c4) x0), .dat (dSl t_cut_Part (.slice A13814 y13806.length c13815) y13806), .dat (dSl t_cut_Log (.slice A13827 y13819.length c13828) y13819), .dat (dSl t_cut_Log (.slice A213999 y213991.length c214000) y213991), .dat (dSl t_cut_Log (.slice A214011 y214003.length c214012) y214003), .dat (dRows tStr v226978 cs226981), .row (.slice A226979 v226978.length c226980) 62 1 v226978.length cs226981]) ⟨A226065, c226066, cs226067, _, _, hL227181, rfl, H.pickL [0, 1, 2, 3, 4, 5, 6] rfl⟩ ?_
                      rintro k227191 _ w227190 ⟨A226979, c226980, cs226981, v226978, v226982, hL227181, rfl, H⟩
                      obtain ⟨k227186, rfl, q227184, h, hq227185⟩ := iterS hL227181
                      replace h : gemotlaw11_CutAll.b10 x0 x1 y13806 y13819 v147258 y213991 y214003 v217337 v226978 v226982 = some q227184 := h
                      unfold gemotlaw11_CutAll.b10 at h
                      refine nc_seq ?_
                      refine nc_seq ?_
                      refine nc ?_
                      refine nc_cond rfl (fun hc227192 => ?_) (fun hc227192 => ?_)
                      · replace h := condT hc227192 h
                        refine nc ?_
                        refine nc_cut (fun e w227240 => ∃ (A227237 : Option Addr) (c227238 : Nat) (cs227239 : List Value) (v227236 : List (List UInt8)), gemotlaw11_CutAll.k9 x0 x1 y13806 y13819 v147258 y213991 y214003 v217337 v226982 v227236 = some q227184 ∧ e = [(0, .slice (some a213982) x0.length c4), (1, .int .i64 x1), (11, .slice A13814 y13806.length c13815), (12, .slice A13827 y13819.length c13828), (13, .int .i64 v147258), (14, .slice A213999 y213991.length c214000), (15, .slice A214011 y214003.length c214012), (16, .int .i64 v217337), (17, .slice A227237 v227236.length c227238), (19, .int .i64 v226982)] ∧ Eng.Own ok w w227240 [.dat (dSl (tSl (tInt .i64)) (.slice (some a213982) x0.length c4) x0), .dat (dSl t_cut_Part (.slice A13814 y13806.length c13815) y13806), .dat (dSl t_cut_Log (.slice A13827 y13819.length c13828) y13819), .dat (dSl t_cut_Log (.slice A213999 y213991.length c214000) y213991), .dat (dSl t_cut_Log (.slice A214011 y214003.length c214012) y214003), .dat (dRows tStr v227236 cs227239), .row (.slice A227237 v227236.length c227238) 62 1 v227236.length cs227239]) ?_ ?_
                        · skip
                          refine nc_block ?_
                          refine nc_seq ?_
                          obtain ⟨y227242, hx227243, h⟩ := bindS h
                          obtain ⟨a227244, cs227245, rfl, hR227246, H⟩ := H.elemI 4 rfl hx227243
                          obtain ⟨u227248, rfl, hu227249⟩ := cut_Log_cells hR227246
                          obtain ⟨A227250, c227251, rfl, H⟩ := H.openD hu227249
                          obtain ⟨y227253, hx227254, h⟩ := bindS h
                          obtain ⟨a227255, cs227256, rfl, hR227257, H⟩ := H.elemI 4 rfl hx227254
                          obtain ⟨u227259, rfl, hu227260⟩ := cut_Log_cells hR227257
                          obtain ⟨A227261, c227262, rfl, H⟩ := H.openD hu227260
                          refine nc ?_
                          refine draw_rule [] (by kernel_rfl) (by kernel_rfl) H ?_
                          refine c_idxA (e := 58) 2 _ (by kernel_rfl) (by kernel_rfl) (idxL_some hx227243).1 (idxL_some hx227243).2.1 ?_
                          refine c_loadD 3 rfl 0 (by kernel_rfl) rfl ?_
                          refine c_idxA (e := 58) 2 _ (by kernel_rfl) (by kernel_rfl) (idxL_some hx227254).1 (idxL_some hx227254).2.1 ?_
                          refine c_loadD 1 rfl 0 (by kernel_rfl) rfl ?_
                          intro w227264 H
                          refine nc_cond rfl (fun hc227265 => ?_) (fun hc227265 => ?_)
                          · replace h := condT hc227265 h
                            refine nc ?_
                            obtain ⟨y227266, hx227267, h⟩ := bindS h
                            obtain ⟨cs227269, hR227270, H⟩ := H.elemJ 8 rfl hx227267
                            obtain ⟨u227272, rfl, hu227273⟩ := cut_Log_cells hR227270
                            obtain ⟨A227274, c227275, rfl, H⟩ := H.openD hu227273
                            refine idxA_rule (e := 58) 2 _ (by kernel_rfl) (by kernel_rfl) (idxL_some hx227267).1 (idxL_some hx227267).2.1 ?_
                            refine own_loadD H 1 rfl 1 (by kernel_rfl) rfl ?_
                            obtain ⟨hr227277, h⟩ := roomS h
                            refine own_appendD (k := tStr) (z := .string ⟨#[]⟩) 16 H 12 11 0 rfl rfl rfl rfl (by kernel_rfl) (by kernel_rfl) rfl rfl hr227277 rfl fun z227278 cs227279 w227280 H => ?_
                            obtain ⟨A227281, c227282, rfl, _, _⟩ := H.rowSl 12 rfl
                            exact cut_inA ⟨A227281, c227282, cs227279, _, h, rfl, H.pickL [6, 7, 8, 9, 10, 11, 12] rfl⟩
                          · replace h := condF hc227265 h
                            refine nc ?_
                            exact cut_inA ⟨A226979, c226980, cs226981, _, h, rfl, H.pickL [4, 5, 6, 7, 8, 9, 10] rfl⟩
                        · rintro _ w227284 ⟨A227237, c227238, cs227239, v227236, h, rfl, H⟩
                          unfold gemotlaw11_CutAll.k9 at h
                          refine nc ?_
                          cases h
                          exact again_inA ⟨A227237, c227238, cs227239, _, _, hq227185, rfl, H.pickL [0, 1, 2, 3, 4, 5, 6] rfl⟩
                      · replace h := condF hc227192 h
                        refine nc ?_
                        cases h
                        replace hq227185 : v226978 = o227180 := hq227185
                        subst hq227185
                        have h := hO227182
                        try dsimp only [Sum.elim_inl, Sum.elim_inr] at h
                        exact cut_inA ⟨A226979, c226980, cs226981, _, h, rfl, H.pickL [0, 1, 2, 3, 4, 5, 6] rfl⟩
                    · rintro _ w227285 ⟨A226879, c226880, cs226881, v226878, h, rfl, H⟩
                      unfold gemotlaw11_CutAll.k12 at h
                      refine nc_seq ?_
                      refine nc ?_
                      obtain ⟨y227286, hx227287, h⟩ := bindS h
                      obtain ⟨a227288, cs227289, rfl, hR227290, H⟩ := H.elemI 2 rfl hx227287
                      obtain ⟨u227292, rfl, hu227293⟩ := cut_Log_cells hR227290
                      obtain ⟨A227294, c227295, rfl, H⟩ := H.openD hu227293
                      refine idxA_rule (e := 58) 2 _ (by kernel_rfl) (by kernel_rfl) (idxL_some hx227287).1 (idxL_some hx227287).2.1 ?_
                      refine own_loadD H 1 rfl 1 (by kernel_rfl) rfl ?_
                      obtain ⟨y227297, hy227298, h⟩ := bindS h
                      refine call_rule (by kernel_rfl) (gemotlaw11_texts_ok (H.dat 0 rfl) hy227298) fun u227303 w227299 ⟨hu227304, hb227302⟩ => ?_
                      replace H := H.callDats hb227302 [dSl tStr u227303 y227297] ⟨(rowOut_sl hu227304 hb227302), trivial⟩
                      obtain ⟨A227305, c227306, hA227307, _⟩ := H.sl 0 rfl
                      subst hA227307
                      replace H := H.freeze (k := tStr) 9 8 rfl rfl
                      obtain ⟨y227310, hy227311, h⟩ := bindS h
                      refine call_rule (by kernel_rfl) (gemotlaw11_same_ok (H.dat 9 rfl) (H.dat 0 rfl) hy227311) fun v227313 w227312 ⟨hv227314, hb227315⟩ => ?_
                      subst hv227314
                      replace H := H.call hb227315
                      refine nc_cond rfl (fun hc227316 => ?_) (fun hc227316 => ?_)
                      · replace h := condT hc227316 h
                        refine nc_seq ?_
                        refine nc ?_
                        refine nc ?_
                        cases h
                        replace hq223988 : (Sum.inr false) = o223983 := hq223988
                        subst hq223988
                        have h := hO223985
                        try dsimp only [Sum.elim_inl, Sum.elim_inr] at h
                        cases h
                        replace hq200629 : (Sum.inr false) = o200624 := hq200629
                        subst hq200629
                        have h := hO200626
                        try dsimp only [Sum.elim_inl, Sum.elim_inr] at h
                        replace h := Option.some.inj h
                        subst h
                        exact ret_inA [.bool false] ⟨_, rfl, ⟨rfl, H.frame⟩⟩
                      · replace h := condF hc227316 h
                        refine nc ?_
                        exact cut_inA ⟨h, rfl, H.pickL [3, 4, 5, 6, 7] rfl⟩
                · rintro _ w227317 ⟨h, rfl, H⟩
                  unfold gemotlaw11_CutAll.k11 at h
                  refine nc ?_
                  cases h
                  exact again_inA ⟨_, hq223988, rfl, H.pickL [0, 1, 2, 3, 4] rfl⟩
              · replace h := condF hc223996 h
                refine nc ?_
                cases h
                replace hq223988 : (Sum.inl ()) = o223983 := hq223988
                subst hq223988
                have h := hO223985
                try dsimp only [Sum.elim_inl, Sum.elim_inr] at h
                exact cut_inA ⟨h, rfl, H.pickL [0, 1, 2] rfl⟩
          · rintro _ w227318 ⟨h, rfl, H⟩
            unfold gemotlaw11_CutAll.k15 at h
            refine nc ?_
            cases h
            exact again_inA ⟨_, hq200629, rfl, H.pickL [0, 1, 2] rfl⟩
        · replace h := condF hc200637 h
          refine nc ?_
          cases h
          replace hq200629 : (Sum.inl ()) = o200624 := hq200629
          subst hq200629
          have h := hO200626
          try dsimp only [Sum.elim_inl, Sum.elim_inr] at h
          exact cut_inA ⟨h, rfl, H.pickL [] rfl⟩
      · rintro _ w227319 ⟨h, rfl, H⟩
        unfold gemotlaw11_CutAll.k17 at h
        refine nc_seq ?_
        refine nc ?_
        refine nc ?_
        replace h := Option.some.inj h
        subst h
        exact ret_inA [.bool true] ⟨_, rfl, ⟨rfl, H.frame⟩⟩
end Go.Proofs.Ytgomlcfoifkdiaa.G
