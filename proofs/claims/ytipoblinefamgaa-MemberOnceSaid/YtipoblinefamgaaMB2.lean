/- Walks, printed by a program of this proof's own. -/
import Derived.Test.YtipoblinefamgaaMB1
import Derived.KernelRfl
namespace Go.Proofs.Ytipoblinefamgaa.G
open Go.RowKit Go.Eng Go.Proofs
set_option linter.unusedVariables false
set_option maxRecDepth 20000
/-! (*gemot/member.Node).enter -/
noncomputable def member_Node_enter.b1 (x1 : D_api_View) (y1061 : (List D_cut_Log)) (v1275 : Int) (y1885 : D_cut_Log) (v1941 : O_member_Node) (v1943 : Int) : Option ((O_member_Node × Int) ⊕ O_member_Node) := cond (decide (v1943 < (y1885.2.length : Int))) ((idxL y1885.2 v1943).bind fun y1988 => (member_Node_deliver.f v1941 y1885.1 y1988).bind fun y1994 => some (.inl (y1994, (IntKind.i64.wrap (v1943 + (1 : Int)))))) (some (.inr v1941))
noncomputable def member_Node_enter.k2 (x1 : D_api_View) (y1061 : (List D_cut_Log)) (v1275 : Int) (v1881 : O_member_Node) : Option ((O_member_Node × Int) ⊕ O_member_Node) := some (.inl (v1881, (IntKind.i64.wrap (v1275 + (1 : Int)))))
noncomputable def member_Node_enter.b3 (x1 : D_api_View) (y1061 : (List D_cut_Log)) (v1273 : O_member_Node) (v1275 : Int) : Option ((O_member_Node × Int) ⊕ O_member_Node) := cond (decide (v1275 < (y1061.length : Int))) ((idxL y1061 v1275).bind fun y1885 => cond (y1885.1 == v1273.me_) (member_Node_enter.k2 x1 y1061 v1275 v1273) ((loopM (fun s1984 : O_member_Node × Int => member_Node_enter.b1 x1 y1061 v1275 y1885 s1984.1 s1984.2) (v1273, (0 : Int))).bind (fun (o1983 : O_member_Node) => member_Node_enter.k2 x1 y1061 v1275 o1983))) (some (.inr v1273))
noncomputable def member_Node_enter.k4 (x1 : D_api_View) (v1006 : O_member_Node) (v2353 : List D_member_cast) (v2356 : Int) (v2812 : O_member_Node) : Option ((O_member_Node × (List D_member_cast) × Int) ⊕ O_member_Node) := some (.inl (v2812, v2353, (IntKind.i64.wrap (v2356 + (1 : Int)))))
noncomputable def member_Node_enter.b5 (x1 : D_api_View) (v1006 : O_member_Node) (v2350 : O_member_Node) (v2353 : List D_member_cast) (v2356 : Int) : Option ((O_member_Node × (List D_member_cast) × Int) ⊕ O_member_Node) := cond (decide (v2356 < ((({ v1006 with view_ := ((x1.1.1, x1.1.2), x1.2), rows_ := ([] : List (Int × (List (List UInt8)))), promised_ := ((x1.1.1, x1.1.2), x1.2), seen_ := (v1006.seen_.1, v1006.seen_.2), plan_ := none, early_ := v1006.early_, outs_ := v1006.outs_, events_ := v1006.events_ : O_member_Node }).early_).length : Int))) ((idxL v2353 v2356).bind fun y2816 => cond ((y2816.2.2.1.1 == x1.1.1) && (y2816.2.2.1.2 == x1.1.2)) ((member_Node_cast.f v2350 y2816.1 y2816.2).bind fun y2837 => member_Node_enter.k4 x1 v1006 v2353 v2356 y2837) ((view_Less.f x1.1 y2816.2.2.1).bind fun y2843 => cond y2843 (roomM 104 (v2350.early_.length + 1) (member_Node_enter.k4 x1 v1006 v2353 v2356 ({ v2350 with early_ := (v2350.early_ ++ [y2816]) : O_member_Node }))) (member_Node_enter.k4 x1 v1006 v2353 v2356 v2350))) (some (.inr v2350))
noncomputable def member_Node_enter.k6 (x1 : D_api_View) (v1006 : O_member_Node) : Option (O_member_Node) := (member_Node_View.f ({ v1006 with view_ := ((x1.1.1, x1.1.2), x1.2), rows_ := ([] : List (Int × (List (List UInt8)))), promised_ := ((x1.1.1, x1.1.2), x1.2), seen_ := (v1006.seen_.1, v1006.seen_.2), plan_ := none, early_ := v1006.early_, outs_ := v1006.outs_, events_ := v1006.events_ : O_member_Node })).bind fun y2182 => roomM 80 ((({ v1006 with view_ := ((x1.1.1, x1.1.2), x1.2), rows_ := ([] : List (Int × (List (List UInt8)))), promised_ := ((x1.1.1, x1.1.2), x1.2), seen_ := (v1006.seen_.1, v1006.seen_.2), plan_ := none, early_ := v1006.early_, outs_ := v1006.outs_, events_ := v1006.events_ : O_member_Node }).events_).length + 1) ((loopM (fun s2724 : O_member_Node × (List D_member_cast) × Int => member_Node_enter.b5 x1 v1006 s2724.1 s2724.2.1 s2724.2.2) ({ { v1006 with view_ := ((x1.1.1, x1.1.2), x1.2), rows_ := ([] : List (Int × (List (List UInt8)))), promised_ := ((x1.1.1, x1.1.2), x1.2), seen_ := (v1006.seen_.1, v1006.seen_.2), plan_ := none, early_ := v1006.early_, outs_ := v1006.outs_, events_ := v1006.events_ : O_member_Node } with early_ := ([] : List D_member_cast), events_ := (({ v1006 with view_ := ((x1.1.1, x1.1.2), x1.2), rows_ := ([] : List (Int × (List (List UInt8)))), promised_ := ((x1.1.1, x1.1.2), x1.2), seen_ := (v1006.seen_.1, v1006.seen_.2), plan_ := none, early_ := v1006.early_, outs_ := v1006.outs_, events_ := v1006.events_ : O_member_Node }).events_ ++ [((2 : Int), y2182, (0 : Int), (0 : Int), ([] : List UInt8))]) : O_member_Node }, ({ v1006 with view_ := ((x1.1.1, x1.1.2), x1.2), rows_ := ([] : List (Int × (List (List UInt8)))), promised_ := ((x1.1.1, x1.1.2), x1.2), seen_ := (v1006.seen_.1, v1006.seen_.2), plan_ := none, early_ := v1006.early_, outs_ := v1006.outs_, events_ := v1006.events_ : O_member_Node }).early_, (0 : Int))).bind (fun (o2722 : O_member_Node) => some o2722))
noncomputable def member_Node_enter.k7 (x1 : D_api_View) (v1006 : O_member_Node) : Option (O_member_Node) := member_Node_enter.k6 x1 v1006
noncomputable def member_Node_enter.f (x0 : O_member_Node) (x1 : D_api_View) (x2 : List D_cut_Part) : Option (O_member_Node) := (member_Node_Logs.f x0).bind fun y1053 => (cut_Missing.f x2 x0.view_.1 y1053).bind fun y1061 => (loopM (fun s1762 : O_member_Node × Int => member_Node_enter.b3 x1 y1061 s1762.1 s1762.2) (x0, (0 : Int))).bind (fun (o1761 : O_member_Node) => member_Node_enter.k7 x1 o1761)
set_option maxHeartbeats 8000000 in
theorem member_Node_enter_ok {ok : Nat → Prop} {w0 w : World} {R : List Eng.Item} {g0_ : Nat} {a0_ : A_member_Node} {u2 : Value} {u4 : Value} {x0 : O_member_Node} {x1 : D_api_View} {x2 : List D_cut_Part} {r : O_member_Node} (H : Eng.Own ok w0 w (box (oL_member_Node g0_ a0_ x0) :: R)) (hu3 : slR (tInt .i64) w (okOf ok w0 (box (oL_member_Node g0_ a0_ x0) :: R)) u2 x1.2) (hu5 : slR t_cut_Part w (okOf ok w0 (box (oL_member_Node g0_ a0_ x0) :: R)) u4 x2) (h : member_Node_enter.f x0 x1 x2 = some r) :
    Calls Try.prog 41 #[.pointer (some ⟨g0_, 0, none⟩), .agg #[.int .i64 x1.1.1, .int .i64 x1.1.2, u2], u4] w fun e w' => ∃ v, e = .returned v ∧ ∃ (a1' : A_member_Node), v = .tuple #[] ∧ Eng.Own ok w0 w' (box (oL_member_Node g0_ a1' r) :: R) := by
  obtain ⟨A6, c7, rfl, H⟩ := H.openD hu3
  obtain ⟨A9, c10, rfl, H⟩ := H.openD hu5
  replace H := H.tailBox 3
  unfold member_Node_enter.f at h
  refine enterN (args := [.pointer (some ⟨g0_, 0, none⟩), .agg #[.int .i64 x1.1.1, .int .i64 x1.1.2, .slice A6 x1.2.length c7], .slice A9 x2.length c10]) Try.func41 rfl Try.ntmps41 rfl rfl ?_
  refine nc_seq ?_
  refine nc ?_
  refine own_box H [.int .i64 x1.1.1, .int .i64 x1.1.2, .slice A6 x1.2.length c7] rfl fun g13 w14 H => ?_
  refine nc_scope ?_
  refine nc_cut (fun e w1008 => ∃ (a1007 : A_member_Node) (v1006 : O_member_Node), member_Node_enter.k7 x1 v1006 = some r ∧ e = [(0, .pointer (some ⟨g0_, 0, none⟩)), (4, .pointer (some ⟨g13, 0, none⟩))] ∧ Eng.Own ok w0 w1008 [box (oL_member_Node g0_ a1007 v1006), .blk g13 [.int .i64 x1.1.1, .int .i64 x1.1.2, .slice A6 x1.2.length c7] 49, .dat (dSl (tInt .i64) (.slice A6 x1.2.length c7) x1.2), box R]) ?_ ?_
  · skip
    refine nc_seq ?_
    obtain ⟨A1010, c1011, b1012, al1013, A1014, c1015, g1016, a1017, A1018, c1019, cs1020, A1021, c1022, cs1023, A1024, c1025, cs1026⟩ := a0_
    replace H := H.openAs 3 (oU_member_Node g0_ ⟨A1010, c1011, b1012, al1013, A1014, c1015, g1016, a1017, A1018, c1019, cs1020, A1021, c1022, cs1023, A1024, c1025, cs1026⟩ x0) rfl rfl
    try dsimp only [oU_member_Node, lastL, pickI, List.drop, List.take, List.set, List.eraseIdx, List.getElem?_cons_zero, List.getElem?_cons_succ, List.cons_append, List.nil_append, List.map] at H
    obtain ⟨y1053, hy1054, h⟩ := bindS h
    obtain ⟨y1061, hy1062, h⟩ := bindS h
    try dsimp only [lastL, pickI, List.drop, List.take, List.set, List.eraseIdx, List.getElem?_cons_zero, List.getElem?_cons_succ, List.cons_append, List.nil_append, List.map] at H
    refine nc ?_
    refine draw_rule [] (by kernel_rfl) (by kernel_rfl) H ?_
    refine c_loadA (m := 2) 0 rfl (by kernel_rfl) (by kernel_rfl) [.int .i64 x0.view_.1.1, .int .i64 x0.view_.1.2] rfl rfl ?_
    refine c_callRd [0, 1, 2, 3, 4, 5, 6, 7, 8, 9, 10, 11, 12, 13, 14, 15] 12 (oL_member_Node g0_ (A1010, c1011, b1012, al1013, A1014, c1015, g1016, a1017, A1018, c1019, cs1020, A1021, c1022, cs1023, A1024, c1025, cs1026) x0) (fun v X => ∃ A1055, ∃ c1056, v = .slice A1055 y1053.length c1056 ∧ X = [dSl t_cut_Log (.slice A1055 y1053.length c1056) y1053]) rfl (by kernel_rfl) rfl rfl (fun _ H => Calls.mono (member_Node_Logs_ok (x0 := x0) H hy1054) fun e w' ⟨v, he, A1055, c1056, cs1057, hv, H⟩ => ⟨v, he, _, ⟨A1055, c1056, hv, rfl⟩, (H.freeze (k := t_cut_Log) 1 0 rfl rfl).tail⟩) ?_
    rintro v1059 X1060 ⟨A1055, c1056, rfl, rfl⟩
    dsimp only [subLb, lastL, pickI, List.drop, List.take, List.set, List.eraseIdx, List.getElem?_cons_zero, List.getElem?_cons_succ, List.cons_append, List.nil_append, List.map]
    refine c_callS rfl (by kernel_rfl) (fun _ H => cut_Missing_ok (x1 := x0.view_.1) (H.dat 14 rfl) (H.dat 0 rfl) hy1062) ?_
    intro A1067 c1068
    intro w1070 H
    dsimp only [lastL, pickI, List.drop, List.take, List.set, List.eraseIdx, List.getElem?_cons_zero, List.getElem?_cons_succ, List.cons_append, List.nil_append, List.map] at H
    refine nc_block ?_
    replace H := (H.pickL [2, 3, 4, 5, 6, 7, 8, 9, 10, 11, 12, 13, 0, 1, 14, 15, 16, 17] rfl).shutAs 12 (oL_member_Node g0_ (A1010, c1011, b1012, al1013, A1014, c1015, g1016, a1017, A1018, c1019, cs1020, A1021, c1022, cs1023, A1024, c1025, cs1026) x0) rfl
    try dsimp only [lastL, pickI, List.drop, List.take, List.set, List.eraseIdx, List.getElem?_cons_zero, List.getElem?_cons_succ, List.cons_append, List.nil_append, List.map] at H
    obtain ⟨o1753, hL1754, hO1755⟩ := bindS h
    obtain ⟨n1756, hL1754⟩ := loopS hL1754
    refine nc ?_
    refine loop_ruleA (fun k e w1760 => ∃ (a1274 : A_member_Node) (v1273 : O_member_Node) (v1275 : Int), iterM (fun s1762 : O_member_Node × Int => member_Node_enter.b3 x1 y1061 s1762.1 s1762.2) k (v1273, v1275) = some o1753 ∧ e = [(0, .pointer (some ⟨g0_, 0, none⟩)), (4, .pointer (some ⟨g13, 0, none⟩)), (21, .slice A1067 y1061.length c1068), (22, .int .i64 (y1061.length : Int)), (23, .int .i64 v1275)] ∧ Eng.Own ok w0 w1760 [box (oL_member_Node g0_ a1274 v1273), .blk g13 [.int .i64 x1.1.1, .int .i64 x1.1.2, .slice A6 x1.2.length c7] 49, .dat (dSl (tInt .i64) (.slice A6 x1.2.length c7) x1.2), .dat (dSl t_cut_Log (.slice A1067 y1061.length c1068) y1061), box R]) ⟨(A1010, c1011, b1012, al1013, A1014, c1015, g1016, a1017, A1018, c1019, cs1020, A1021, c1022, cs1023, A1024, c1025, cs1026), _, _, hL1754, rfl, H.pickL [0, 3, 5, 1, 6] rfl⟩ ?_
    rintro k1764 _ w1763 ⟨a1274, v1273, v1275, hL1754, rfl, H⟩
    obtain ⟨k1759, rfl, q1757, h, hq1758⟩ := iterS hL1754
    replace h : member_Node_enter.b3 x1 y1061 v1273 v1275 = some q1757 := h
    unfold member_Node_enter.b3 at h
    refine nc_seq ?_
    refine nc ?_
    refine nc_seq ?_
    refine nc_cond rfl (fun hc1765 => ?_) (fun hc1765 => ?_)
    · replace h := condT hc1765 h
      refine nc ?_
      refine nc_cut (fun e w1883 => ∃ (a1882 : A_member_Node) (v1881 : O_member_Node), member_Node_enter.k2 x1 y1061 v1275 v1881 = some q1757 ∧ e = [(0, .pointer (some ⟨g0_, 0, none⟩)), (4, .pointer (some ⟨g13, 0, none⟩)), (21, .slice A1067 y1061.length c1068), (22, .int .i64 (y1061.length : Int)), (23, .int .i64 v1275)] ∧ Eng.Own ok w0 w1883 [box (oL_member_Node g0_ a1882 v1881), .blk g13 [.int .i64 x1.1.1, .int .i64 x1.1.2, .slice A6 x1.2.length c7] 49, .dat (dSl (tInt .i64) (.slice A6 x1.2.length c7) x1.2), .dat (dSl t_cut_Log (.slice A1067 y1061.length c1068) y1061), box R]) ?_ ?_
      · skip
        refine nc_block ?_
        refine nc_seq ?_
        refine nc ?_
        obtain ⟨y1885, hx1886, h⟩ := bindS h
        obtain ⟨a1887, cs1888, rfl, hR1889, H⟩ := H.elemI 3 rfl hx1886
        obtain ⟨u1891, rfl, hu1892⟩ := cut_Log_cells hR1889
        obtain ⟨A1893, c1894, rfl, H⟩ := H.openD hu1892
        refine idxA_rule (e := 88) 2 _ (by kernel_rfl) (by kernel_rfl) (idxL_some hx1886).1 (idxL_some hx1886).2.1 ?_
        refine own_loadDA (m := 2) H 1 rfl 0 (by kernel_rfl) (by kernel_rfl) [.int .i64 y1885.1, .slice A1893 y1885.2.length c1894] rfl rfl ?_
        refine own_alloc (z := .agg #[.int .i64 0, .slice none 0 0]) H (by kernel_rfl) [.int .i64 0, .slice none 0 0] rfl fun g1897 w1898 H => ?_
        refine own_storeB (m := 2) H 0 rfl (by kernel_rfl) [.int .i64 y1885.1, .slice A1893 y1885.2.length c1894] rfl rfl rfl rfl fun w1899 H => ?_
        refine nc_seq ?_
        refine nc_seq ?_
        obtain ⟨A1900, c1901, b1902, al1903, A1904, c1905, g1906, a1907, A1908, c1909, cs1910, A1911, c1912, cs1913, A1914, c1915, cs1916⟩ := a1274
        replace H := H.openAs 3 (oU_member_Node g0_ ⟨A1900, c1901, b1902, al1903, A1904, c1905, g1906, a1907, A1908, c1909, cs1910, A1911, c1912, cs1913, A1914, c1915, cs1916⟩ v1273) rfl rfl
        try dsimp only [oU_member_Node, lastL, pickI, List.drop, List.take, List.set, List.eraseIdx, List.getElem?_cons_zero, List.getElem?_cons_succ, List.cons_append, List.nil_append, List.map] at H
        refine nc ?_
        refine draw_rule [] (by kernel_rfl) (by kernel_rfl) H ?_
        refine c_load 12 rfl (by kernel_rfl) (j := 0) rfl ?_
        refine c_load 0 rfl (by kernel_rfl) (j := 0) rfl ?_
        intro w1926 H
        refine nc_cond rfl (fun hc1927 => ?_) (fun hc1927 => ?_)
        · replace h := condT hc1927 h
          refine nc ?_
          replace H := (H.pickL [0, 1, 2, 3, 4, 5, 6, 7, 8, 9, 10, 11, 12, 13, 14, 15, 16, 17, 18] rfl).shutAs 12 (oL_member_Node g0_ (A1900, c1901, b1902, al1903, A1904, c1905, g1906, a1907, A1908, c1909, cs1910, A1911, c1912, cs1913, A1914, c1915, cs1916) v1273) rfl
          try dsimp only [lastL, pickI, List.drop, List.take, List.set, List.eraseIdx, List.getElem?_cons_zero, List.getElem?_cons_succ, List.cons_append, List.nil_append, List.map] at H
          exact cut_inA ⟨(A1900, c1901, b1902, al1903, A1904, c1905, g1906, a1907, A1908, c1909, cs1910, A1911, c1912, cs1913, A1914, c1915, cs1916), _, h, rfl, H.pickL [0, 4, 5, 6, 7] rfl⟩
        · replace h := condF hc1927 h
          refine nc ?_
          refine nc_seq ?_
          refine nc ?_
          refine own_load H 12 rfl (by kernel_rfl) (j := 1) rfl ?_
          refine nc_block ?_
          replace H := (H.pickL [0, 1, 2, 3, 4, 5, 6, 7, 8, 9, 10, 11, 12, 13, 14, 15, 16, 17, 18] rfl).shutAs 12 (oL_member_Node g0_ (A1900, c1901, b1902, al1903, A1904, c1905, g1906, a1907, A1908, c1909, cs1910, A1911, c1912, cs1913, A1914, c1915, cs1916) v1273) rfl
          try dsimp only [lastL, pickI, List.drop, List.take, List.set, List.eraseIdx, List.getElem?_cons_zero, List.getElem?_cons_succ, List.cons_append, List.nil_append, List.map] at H
          obtain ⟨o1975, hL1976, hO1977⟩ := bindS h
          obtain ⟨n1978, hL1976⟩ := loopS hL1976
          refine nc ?_
          refine loop_ruleA (fun k e w1982 => ∃ (a1942 : A_member_Node) (v1941 : O_member_Node) (v1943 : Int), iterM (fun s1984 : O_member_Node × Int => member_Node_enter.b1 x1 y1061 v1275 y1885 s1984.1 s1984.2) k (v1941, v1943) = some o1975 ∧ e = [(0, .pointer (some ⟨g0_, 0, none⟩)), (4, .pointer (some ⟨g13, 0, none⟩)), (7, .pointer (some ⟨g1897, 0, none⟩)), (21, .slice (some a1887) y1061.length c1068), (22, .int .i64 (y1061.length : Int)), (23, .int .i64 v1275), (35, .slice A1893 y1885.2.length c1894), (36, .int .i64 (y1885.2.length : Int)), (37, .int .i64 v1943)] ∧ Eng.Own ok w0 w1982 [box (oL_member_Node g0_ a1942 v1941), .blk g13 [.int .i64 x1.1.1, .int .i64 x1.1.2, .slice A6 x1.2.length c7] 49, .dat (dSl (tInt .i64) (.slice A6 x1.2.length c7) x1.2), .blk g1897 [.int .i64 y1885.1, .slice A1893 y1885.2.length c1894] 88, .dat (dSl tStr (.slice A1893 y1885.2.length c1894) y1885.2), .dat (dSl t_cut_Log (.slice (some a1887) y1061.length c1068) y1061), box R]) ⟨(A1900, c1901, b1902, al1903, A1904, c1905, g1906, a1907, A1908, c1909, cs1910, A1911, c1912, cs1913, A1914, c1915, cs1916), _, _, hL1976, rfl, H.pickL [0, 4, 5, 1, 2, 6, 7] rfl⟩ ?_
          rintro k1986 _ w1985 ⟨a1942, v1941, v1943, hL1976, rfl, H⟩
          obtain ⟨k1981, rfl, q1979, h, hq1980⟩ := iterS hL1976
          replace h : member_Node_enter.b1 x1 y1061 v1275 y1885 v1941 v1943 = some q1979 := h
          unfold member_Node_enter.b1 at h
          refine nc_seq ?_
          refine nc ?_
          refine nc_seq ?_
          refine nc_cond rfl (fun hc1987 => ?_) (fun hc1987 => ?_)
          · replace h := condT hc1987 h
            refine nc ?_
            refine nc_seq ?_
            refine nc_block ?_
            refine nc_seq ?_
            refine nc ?_
            obtain ⟨y1988, hx1989, h⟩ := bindS h
            obtain ⟨a1990, cs1991, rfl, hR1992, H⟩ := H.elemI 4 rfl hx1989
            obtain rfl : cs1991 = [.string (bs y1988)] := hR1992
            refine idxA_rule (e := 45) 1 _ (by kernel_rfl) (by kernel_rfl) (idxL_some hx1989).1 (idxL_some hx1989).2.1 ?_
            refine own_loadD H 0 rfl 0 (by kernel_rfl) rfl ?_
            refine nc ?_
            refine own_load H 4 rfl (by kernel_rfl) (j := 0) rfl ?_
            replace H := H.pickL [1, 0, 2, 3, 4, 5, 6, 7] rfl
            try dsimp only [lastL, pickI, List.drop, List.take, List.set, List.eraseIdx, List.getElem?_cons_zero, List.getElem?_cons_succ, List.cons_append, List.nil_append, List.map] at H
            obtain ⟨y1994, hy1995, h⟩ := bindS h
            refine call_rule (by kernel_rfl) (member_Node_deliver_ok (x0 := v1941) H hy1995) fun v1998 w1997 ⟨a1996, hv1999, H⟩ => ?_
            subst hv1999
            refine nc ?_
            cases h
            exact again_inA ⟨a1996, _, _, hq1980, rfl, H.pickL [0, 2, 3, 4, 5, 6, 7] rfl⟩
          · replace h := condF hc1987 h
            refine nc ?_
            cases h
            replace hq1980 : v1941 = o1975 := hq1980
            subst hq1980
            have h := hO1977
            try dsimp only [Sum.elim_inl, Sum.elim_inr] at h
            exact cut_inA ⟨a1942, _, h, rfl, H.pickL [0, 1, 2, 5, 6] rfl⟩
      · rintro _ w2000 ⟨a1882, v1881, h, rfl, H⟩
        unfold member_Node_enter.k2 at h
        refine nc ?_
        cases h
        exact again_inA ⟨a1882, _, _, hq1758, rfl, H.pickL [0, 1, 2, 3, 4] rfl⟩
    · replace h := condF hc1765 h
      refine nc ?_
      cases h
      replace hq1758 : v1273 = o1753 := hq1758
      subst hq1758
      have h := hO1755
      try dsimp only [Sum.elim_inl, Sum.elim_inr] at h
      exact cut_inA ⟨a1274, _, h, rfl, H.pickL [0, 1, 2, 4] rfl⟩
  · rintro _ w2001 ⟨a1007, v1006, h, rfl, H⟩
    unfold member_Node_enter.k7 at h
    refine nc_cut (fun e w2069 => ∃ (a2068 : A_member_Node), member_Node_enter.k6 x1 v1006 = some r ∧ e = [(0, .pointer (some ⟨g0_, 0, none⟩)), (4, .pointer (some ⟨g13, 0, none⟩))] ∧ Eng.Own ok w0 w2069 [box (oL_member_Node g0_ a2068 ({ v1006 with view_ := ((x1.1.1, x1.1.2), x1.2), rows_ := ([] : List (Int × (List (List UInt8)))), promised_ := ((x1.1.1, x1.1.2), x1.2), seen_ := (v1006.seen_.1, v1006.seen_.2), plan_ := none, early_ := v1006.early_, outs_ := v1006.outs_, events_ := v1006.events_ : O_member_Node })), .blk g13 [.int .i64 x1.1.1, .int .i64 x1.1.2, .slice A6 x1.2.length c7] 49, .dat (dSl (tInt .i64) (.slice A6 x1.2.length c7) x1.2), box R]) ?_ ?_
    · skip
      obtain ⟨A2074, c2075, b2076, al2077, A2078, c2079, g2080, a2081, A2082, c2083, cs2084, A2085, c2086, cs2087, A2088, c2089, cs2090⟩ := a1007
      replace H := H.openAs 0 (oU_member_Node g0_ ⟨A2074, c2075, b2076, al2077, A2078, c2079, g2080, a2081, A2082, c2083, cs2084, A2085, c2086, cs2087, A2088, c2089, cs2090⟩ v1006) rfl rfl
      try dsimp only [oU_member_Node, lastL, pickI, List.drop, List.take, List.set, List.eraseIdx, List.getElem?_cons_zero, List.getElem?_cons_succ, List.cons_append, List.nil_append, List.map] at H
      refine nc ?_
      refine draw_tree (by kernel_rfl) fun a hf => (any_two 6 9 [0, 1, 2, 3, 4, 5, 6, 7, 8, 9, 10, 11, 12, 13, 14, 15, 16, 17, 18] [0, 1, 2, 3, 4, 5, 7, 8, 9, 6, 10, 11, 12, 13, 14, 15, 16, 17, 18] [0, 1, 2, 3, 4, 5, 9, 6, 7, 8, 10, 11, 12, 13, 14, 15, 16, 17, 18] (by kernel_rfl) (any_leafB hf [.blk g13 [.int .i64 x1.1.1, .int .i64 x1.1.2, .slice A6 x1.2.length c7] 49] [1000, 1000, 1000, 1000, 0, 1000, 1000, 1000, 1000, 1000, 1000, 1000, 1000, 1000, 1000, 1000, 1000, 1000, 1000] (by kernel_rfl) H (by repeat first | exact List.nil_sublist _ | apply List.Sublist.cons_cons | apply List.Sublist.cons) ?_) (any_two 9 12 [0, 1, 2, 3, 4, 5, 6, 7, 8, 9, 10, 11, 12, 13, 14, 15, 16, 17, 18] [0, 1, 2, 3, 4, 5, 6, 7, 8, 10, 11, 12, 9, 13, 14, 15, 16, 17, 18] [0, 1, 2, 3, 4, 5, 6, 7, 8, 12, 9, 10, 11, 13, 14, 15, 16, 17, 18] (by kernel_rfl) (any_leafB hf [.blk g13 [.int .i64 x1.1.1, .int .i64 x1.1.2, .slice A6 x1.2.length c7] 49] [1000, 1000, 1000, 1000, 0, 1000, 1000, 1000, 1000, 1000, 1000, 1000, 1000, 1000, 1000, 1000, 1000, 1000, 1000] (by kernel_rfl) H (by repeat first | exact List.nil_sublist _ | apply List.Sublist.cons_cons | apply List.Sublist.cons) ?_) (any_leafB hf [.blk g13 [.int .i64 x1.1.1, .int .i64 x1.1.2, .slice A6 x1.2.length c7] 49] [1000, 1000, 1000, 1000, 0, 1000, 1000, 1000, 1000, 1000, 1000, 1000, 1000, 1000, 1000, 1000, 1000, 1000, 1000] (by kernel_rfl) H (by repeat first | exact List.nil_sublist _ | apply List.Sublist.cons_cons | apply List.Sublist.cons) ?_)))
      · skip
        refine c_loadA (m := 3) 12 rfl (by kernel_rfl) (by kernel_rfl) [.int .i64 x1.1.1, .int .i64 x1.1.2, .slice A6 x1.2.length c7] rfl rfl ?_
        refine c_loadA (m := 3) 0 rfl (by kernel_rfl) (by kernel_rfl) [.int .i64 x1.1.1, .int .i64 x1.1.2, .slice A6 x1.2.length c7] rfl rfl ?_
        refine c_makeMap (enc := (Value.int .i64)) ?_
        intro b2108
        refine ⟨(by repeat first | exact List.nil_sublist _ | apply List.Sublist.cons_cons | apply List.Sublist.cons), ?_⟩
        refine c_storeB (m := 3) 1 rfl (by kernel_rfl) [.int .i64 x1.1.1, .int .i64 x1.1.2, .slice A6 x1.2.length c7] rfl rfl rfl rfl ?_
        refine ⟨(by repeat first | exact List.nil_sublist _ | apply List.Sublist.cons_cons | apply List.Sublist.cons), ?_⟩
        refine c_storeB (m := 3) 1 rfl (by kernel_rfl) [.int .i64 x1.1.1, .int .i64 x1.1.2, .slice A6 x1.2.length c7] rfl rfl rfl rfl ?_
        refine ⟨(by repeat first | exact List.nil_sublist _ | apply List.Sublist.cons_cons | apply List.Sublist.cons), ?_⟩
        refine c_storeB (m := 1) 1 rfl (by kernel_rfl) [.map (some b2108)] rfl rfl rfl rfl ?_
        refine ⟨(by repeat first | exact List.nil_sublist _ | apply List.Sublist.cons_cons | apply List.Sublist.cons), ?_⟩
        refine c_storeB (m := 1) 1 rfl (by kernel_rfl) [.pointer none] rfl rfl rfl rfl ?_
        refine ⟨(by repeat first | exact List.nil_sublist _ | apply List.Sublist.cons_cons | apply List.Sublist.cons), ?_⟩
        intro w2114 H
        replace H := Own.shelf0 (f := rowI (κ := Int) tStr 45) H
        replace H := H.box0
        replace H := (H.pickL [3, 16, 2, 1, 16, 0, 9, 10, 11, 12, 13, 14, 4, 5, 6, 7, 8, 15, 16, 17] rfl).shutAs 12 (oL_member_Node g0_ (A6, c7, b2108, [], A6, c7, 0, default, A2082, c2083, cs2084, A2085, c2086, cs2087, A2088, c2089, cs2090) ({ v1006 with view_ := ((x1.1.1, x1.1.2), x1.2), rows_ := ([] : List (Int × (List (List UInt8)))), promised_ := ((x1.1.1, x1.1.2), x1.2), seen_ := (v1006.seen_.1, v1006.seen_.2), plan_ := none, early_ := v1006.early_, outs_ := v1006.outs_, events_ := v1006.events_ : O_member_Node })) rfl
        try dsimp only [lastL, pickI, List.drop, List.take, List.set, List.eraseIdx, List.getElem?_cons_zero, List.getElem?_cons_succ, List.cons_append, List.nil_append, List.map] at H
        exact cut_inA ⟨(A6, c7, b2108, [], A6, c7, 0, default, A2082, c2083, cs2084, A2085, c2086, cs2087, A2088, c2089, cs2090), h, rfl, H.pickL [0, 6, 7, 8] rfl⟩
      · skip
        refine c_loadA (m := 3) 12 rfl (by kernel_rfl) (by kernel_rfl) [.int .i64 x1.1.1, .int .i64 x1.1.2, .slice A6 x1.2.length c7] rfl rfl ?_
        refine c_loadA (m := 3) 0 rfl (by kernel_rfl) (by kernel_rfl) [.int .i64 x1.1.1, .int .i64 x1.1.2, .slice A6 x1.2.length c7] rfl rfl ?_
        refine c_storeB (m := 3) 0 rfl (by kernel_rfl) [.int .i64 x1.1.1, .int .i64 x1.1.2, .slice A6 x1.2.length c7] rfl rfl rfl rfl ?_
        refine ⟨(by repeat first | exact List.nil_sublist _ | apply List.Sublist.cons_cons | apply List.Sublist.cons), ?_⟩
        refine c_makeMap (enc := (Value.int .i64)) ?_
        intro b2119
        refine ⟨(by repeat first | exact List.nil_sublist _ | apply List.Sublist.cons_cons | apply List.Sublist.cons), ?_⟩
        refine c_storeB (m := 3) 1 rfl (by kernel_rfl) [.int .i64 x1.1.1, .int .i64 x1.1.2, .slice A6 x1.2.length c7] rfl rfl rfl rfl ?_
        refine ⟨(by repeat first | exact List.nil_sublist _ | apply List.Sublist.cons_cons | apply List.Sublist.cons), ?_⟩
        refine c_storeB (m := 1) 1 rfl (by kernel_rfl) [.map (some b2119)] rfl rfl rfl rfl ?_
        refine ⟨(by repeat first | exact List.nil_sublist _ | apply List.Sublist.cons_cons | apply List.Sublist.cons), ?_⟩
        refine c_storeB (m := 1) 1 rfl (by kernel_rfl) [.pointer none] rfl rfl rfl rfl ?_
        refine ⟨(by repeat first | exact List.nil_sublist _ | apply List.Sublist.cons_cons | apply List.Sublist.cons), ?_⟩
        intro w2124 H
        replace H := Own.shelf0 (f := rowI (κ := Int) tStr 45) H
        replace H := H.box0
        replace H := (H.pickL [3, 16, 2, 1, 16, 0, 9, 10, 11, 12, 13, 14, 4, 5, 6, 7, 8, 15, 16, 17] rfl).shutAs 12 (oL_member_Node g0_ (A6, c7, b2119, [], A6, c7, 0, default, A2082, c2083, cs2084, A2085, c2086, cs2087, A2088, c2089, cs2090) ({ v1006 with view_ := ((x1.1.1, x1.1.2), x1.2), rows_ := ([] : List (Int × (List (List UInt8)))), promised_ := ((x1.1.1, x1.1.2), x1.2), seen_ := (v1006.seen_.1, v1006.seen_.2), plan_ := none, early_ := v1006.early_, outs_ := v1006.outs_, events_ := v1006.events_ : O_member_Node })) rfl
        try dsimp only [lastL, pickI, List.drop, List.take, List.set, List.eraseIdx, List.getElem?_cons_zero, List.getElem?_cons_succ, List.cons_append, List.nil_append, List.map] at H
        exact cut_inA ⟨(A6, c7, b2119, [], A6, c7, 0, default, A2082, c2083, cs2084, A2085, c2086, cs2087, A2088, c2089, cs2090), h, rfl, H.pickL [0, 6, 7, 8] rfl⟩
      · skip
        refine c_loadA (m := 3) 12 rfl (by kernel_rfl) (by kernel_rfl) [.int .i64 x1.1.1, .int .i64 x1.1.2, .slice A6 x1.2.length c7] rfl rfl ?_
        refine c_loadA (m := 3) 0 rfl (by kernel_rfl) (by kernel_rfl) [.int .i64 x1.1.1, .int .i64 x1.1.2, .slice A6 x1.2.length c7] rfl rfl ?_
        refine c_storeB (m := 3) 0 rfl (by kernel_rfl) [.int .i64 x1.1.1, .int .i64 x1.1.2, .slice A6 x1.2.length c7] rfl rfl rfl rfl ?_
        refine ⟨(by repeat first | exact List.nil_sublist _ | apply List.Sublist.cons_cons | apply List.Sublist.cons), ?_⟩
        refine c_storeB (m := 3) 0 rfl (by kernel_rfl) [.int .i64 x1.1.1, .int .i64 x1.1.2, .slice A6 x1.2.length c7] rfl rfl rfl rfl ?_
        refine ⟨(by repeat first | exact List.nil_sublist _ | apply List.Sublist.cons_cons | apply List.Sublist.cons), ?_⟩
        refine c_makeMap (enc := (Value.int .i64)) ?_
        intro b2130
        refine ⟨(by repeat first | exact List.nil_sublist _ | apply List.Sublist.cons_cons | apply List.Sublist.cons), ?_⟩
        refine c_storeB (m := 1) 1 rfl (by kernel_rfl) [.map (some b2130)] rfl rfl rfl rfl ?_
        refine ⟨(by repeat first | exact List.nil_sublist _ | apply List.Sublist.cons_cons | apply List.Sublist.cons), ?_⟩
        refine c_storeB (m := 1) 1 rfl (by kernel_rfl) [.pointer none] rfl rfl rfl rfl ?_
        refine ⟨(by repeat first | exact List.nil_sublist _ | apply List.Sublist.cons_cons | apply List.Sublist.cons), ?_⟩
        intro w2134 H
        replace H := Own.shelf0 (f := rowI (κ := Int) tStr 45) H
        replace H := H.box0
        replace H := (H.pickL [3, 16, 2, 1, 16, 0, 9, 10, 11, 12, 13, 14, 4, 5, 6, 7, 8, 15, 16, 17] rfl).shutAs 12 (oL_member_Node g0_ (A6, c7, b2130, [], A6, c7, 0, default, A2082, c2083, cs2084, A2085, c2086, cs2087, A2088, c2089, cs2090) ({ v1006 with view_ := ((x1.1.1, x1.1.2), x1.2), rows_ := ([] : List (Int × (List (List UInt8)))), promised_ := ((x1.1.1, x1.1.2), x1.2), seen_ := (v1006.seen_.1, v1006.seen_.2), plan_ := none, early_ := v1006.early_, outs_ := v1006.outs_, events_ := v1006.events_ : O_member_Node })) rfl
        try dsimp only [lastL, pickI, List.drop, List.take, List.set, List.eraseIdx, List.getElem?_cons_zero, List.getElem?_cons_succ, List.cons_append, List.nil_append, List.map] at H
        exact cut_inA ⟨(A6, c7, b2130, [], A6, c7, 0, default, A2082, c2083, cs2084, A2085, c2086, cs2087, A2088, c2089, cs2090), h, rfl, H.pickL [0, 6, 7, 8] rfl⟩
    · rintro _ w2137 ⟨a2068, h, rfl, H⟩
      unfold member_Node_enter.k6 at h
      refine nc_seq ?_
      obtain ⟨A2138, c2139, b2140, al2141, A2142, c2143, g2144, a2145, A2146, c2147, cs2148, A2149, c2150, cs2151, A2152, c2153, cs2154⟩ := a2068
      replace H := H.openAs 0 (oU_member_Node g0_ ⟨A2138, c2139, b2140, al2141, A2142, c2143, g2144, a2145, A2146, c2147, cs2148, A2149, c2150, cs2151, A2152, c2153, cs2154⟩ ({ v1006 with view_ := ((x1.1.1, x1.1.2), x1.2), rows_ := ([] : List (Int × (List (List UInt8)))), promised_ := ((x1.1.1, x1.1.2), x1.2), seen_ := (v1006.seen_.1, v1006.seen_.2), plan_ := none, early_ := v1006.early_, outs_ := v1006.outs_, events_ := v1006.events_ : O_member_Node })) rfl rfl
      try dsimp only [oU_member_Node, lastL, pickI, List.drop, List.take, List.set, List.eraseIdx, List.getElem?_cons_zero, List.getElem?_cons_succ, List.cons_append, List.nil_append, List.map] at H
      obtain ⟨y2182, hy2183, h⟩ := bindS h
      obtain ⟨hr2192, h⟩ := roomS h
      try dsimp only [lastL, pickI, List.drop, List.take, List.set, List.eraseIdx, List.getElem?_cons_zero, List.getElem?_cons_succ, List.cons_append, List.nil_append, List.map] at H
      refine nc ?_
      refine draw_rule [] (by kernel_rfl) (by kernel_rfl) H ?_
      refine c_load 0 rfl (by kernel_rfl) (j := 13) rfl ?_
      refine c_callRd [0, 1, 2, 3, 4, 5, 6, 7, 8, 9, 10, 11, 12, 13, 14] 12 (oL_member_Node g0_ (A2138, c2139, b2140, al2141, A2142, c2143, g2144, a2145, A2146, c2147, cs2148, A2149, c2150, cs2151, A2152, c2153, cs2154) ({ v1006 with view_ := ((x1.1.1, x1.1.2), x1.2), rows_ := ([] : List (Int × (List (List UInt8)))), promised_ := ((x1.1.1, x1.1.2), x1.2), seen_ := (v1006.seen_.1, v1006.seen_.2), plan_ := none, early_ := v1006.early_, outs_ := v1006.outs_, events_ := v1006.events_ : O_member_Node })) (fun v X => ∃ A2184, ∃ c2185, v = .agg #[.int .i64 y2182.1.1, .int .i64 y2182.1.2, .slice A2184 y2182.2.length c2185] ∧ X = [dSl (tInt .i64) (.slice A2184 y2182.2.length c2185) y2182.2]) rfl (by kernel_rfl) rfl rfl (fun _ H => Calls.mono (member_Node_View_ok (x0 := ({ v1006 with view_ := ((x1.1.1, x1.1.2), x1.2), rows_ := ([] : List (Int × (List (List UInt8)))), promised_ := ((x1.1.1, x1.1.2), x1.2), seen_ := (v1006.seen_.1, v1006.seen_.2), plan_ := none, early_ := v1006.early_, outs_ := v1006.outs_, events_ := v1006.events_ : O_member_Node })) H hy2183) fun e w' ⟨v, he, A2184, c2185, hv, H⟩ => ⟨v, he, _, ⟨A2184, c2185, hv, rfl⟩, H⟩) ?_
      rintro v2187 X2188 ⟨A2184, c2185, rfl, rfl⟩
      dsimp only [subLb, lastL, pickI, List.drop, List.take, List.set, List.eraseIdx, List.getElem?_cons_zero, List.getElem?_cons_succ, List.cons_append, List.nil_append, List.map]
      refine c_buildSlice (e := 51) (sz := 7) (z := .agg #[.int .i64 0, .int .i64 0, .int .i64 0, .slice none 0 0, .int .i64 0, .int .i64 0, .string ⟨#[]⟩]) (cs := [.int .i64 2, .int .i64 y2182.1.1, .int .i64 y2182.1.2, .slice A2184 y2182.2.length c2185, .int .i64 0, .int .i64 0, .string (bs ([] : List UInt8))]) (by kernel_rfl) (by kernel_rfl) (by kernel_rfl) rfl rfl rfl rfl ?_
      intro g2190
      refine c_append1S (k := t_member_Event) (z := .agg #[.int .i64 0, .int .i64 0, .int .i64 0, .slice none 0 0, .int .i64 0, .int .i64 0, .string ⟨#[]⟩]) (x := ((2 : Int), y2182, (0 : Int), (0 : Int), ([] : List UInt8))) 80 12 11 rfl rfl rfl (fun _ H => (member_Event_in (x := ((2 : Int), y2182, (0 : Int), (0 : Int), ([] : List UInt8))) (H.dat 1 rfl))) (by kernel_rfl) (by kernel_rfl) rfl rfl hr2192 rfl ?_
      intro A2196 c2197 cs2194
      refine c_storeB (m := 1) 1 rfl (by kernel_rfl) [.slice A2196 (({ v1006 with view_ := ((x1.1.1, x1.1.2), x1.2), rows_ := ([] : List (Int × (List (List UInt8)))), promised_ := ((x1.1.1, x1.1.2), x1.2), seen_ := (v1006.seen_.1, v1006.seen_.2), plan_ := none, early_ := v1006.early_, outs_ := v1006.outs_, events_ := v1006.events_ : O_member_Node }).events_ ++ [((2 : Int), y2182, (0 : Int), (0 : Int), ([] : List UInt8))]).length c2197] rfl rfl rfl rfl ?_
      intro w2200 H
      dsimp only [lastL, pickI, List.drop, List.take, List.set, List.eraseIdx, List.getElem?_cons_zero, List.getElem?_cons_succ, List.cons_append, List.nil_append, List.map] at H
      refine nc_seq ?_
      refine nc ?_
      refine own_load H 1 rfl (by kernel_rfl) (j := 11) rfl ?_
      refine nc_seq ?_
      refine nc ?_
      refine own_storeB (m := 1) H 1 rfl (by kernel_rfl) [.slice none 0 0] rfl rfl rfl rfl fun w2201 H => ?_
      refine nc_seq ?_
      refine nc ?_
      refine nc_seq ?_
      refine nc ?_
      refine nc_block ?_
      replace H := H.nilRowD t_member_cast 101
      replace H := (H.pickL [3, 4, 5, 6, 7, 8, 0, 1, 11, 12, 13, 14, 2, 9, 10, 15, 16, 17] rfl).shutAs 12 (oL_member_Node g0_ (A2138, c2139, b2140, al2141, A2142, c2143, g2144, a2145, none, 0, [], A2149, c2150, cs2151, A2196, c2197, cs2194) ({ { v1006 with view_ := ((x1.1.1, x1.1.2), x1.2), rows_ := ([] : List (Int × (List (List UInt8)))), promised_ := ((x1.1.1, x1.1.2), x1.2), seen_ := (v1006.seen_.1, v1006.seen_.2), plan_ := none, early_ := v1006.early_, outs_ := v1006.outs_, events_ := v1006.events_ : O_member_Node } with early_ := ([] : List D_member_cast), events_ := (({ v1006 with view_ := ((x1.1.1, x1.1.2), x1.2), rows_ := ([] : List (Int × (List (List UInt8)))), promised_ := ((x1.1.1, x1.1.2), x1.2), seen_ := (v1006.seen_.1, v1006.seen_.2), plan_ := none, early_ := v1006.early_, outs_ := v1006.outs_, events_ := v1006.events_ : O_member_Node }).events_ ++ [((2 : Int), y2182, (0 : Int), (0 : Int), ([] : List UInt8))]) : O_member_Node })) rfl
      try dsimp only [lastL, pickI, List.drop, List.take, List.set, List.eraseIdx, List.getElem?_cons_zero, List.getElem?_cons_succ, List.cons_append, List.nil_append, List.map] at H
      replace H := H.freeze (k := t_member_cast) 3 2 rfl rfl
      obtain ⟨o2714, hL2715, hO2716⟩ := bindS h
      obtain ⟨n2717, hL2715⟩ := loopS hL2715
      refine nc ?_
      refine loop_ruleA (fun k e w2721 => ∃ (a2351 : A_member_Node) (A2354 : Option Addr) (c2355 : Nat) (v2350 : O_member_Node) (v2353 : List D_member_cast) (v2356 : Int), iterM (fun s2724 : O_member_Node × (List D_member_cast) × Int => member_Node_enter.b5 x1 v1006 s2724.1 s2724.2.1 s2724.2.2) k (v2350, v2353, v2356) = some o2714 ∧ e = [(0, .pointer (some ⟨g0_, 0, none⟩)), (4, .pointer (some ⟨g13, 0, none⟩)), (82, .slice A2354 v2353.length c2355), (83, .int .i64 ((({ v1006 with view_ := ((x1.1.1, x1.1.2), x1.2), rows_ := ([] : List (Int × (List (List UInt8)))), promised_ := ((x1.1.1, x1.1.2), x1.2), seen_ := (v1006.seen_.1, v1006.seen_.2), plan_ := none, early_ := v1006.early_, outs_ := v1006.outs_, events_ := v1006.events_ : O_member_Node }).early_).length : Int)), (84, .int .i64 v2356)] ∧ Eng.Own ok w0 w2721 [box (oL_member_Node g0_ a2351 v2350), .blk g13 [.int .i64 x1.1.1, .int .i64 x1.1.2, .slice A6 x1.2.length c7] 49, .dat (dSl (tInt .i64) (.slice A6 x1.2.length c7) x1.2), .dat (dSl t_member_cast (.slice A2354 v2353.length c2355) v2353), box R]) ⟨(A2138, c2139, b2140, al2141, A2142, c2143, g2144, a2145, none, 0, [], A2149, c2150, cs2151, A2196, c2197, cs2194), A2146, c2147, _, _, _, hL2715, rfl, H.pickL [0, 4, 5, 3, 6] rfl⟩ ?_
      rintro k2726 _ w2725 ⟨a2351, A2354, c2355, v2350, v2353, v2356, hL2715, rfl, H⟩
      obtain ⟨k2720, rfl, q2718, h, hq2719⟩ := iterS hL2715
      replace h : member_Node_enter.b5 x1 v1006 v2350 v2353 v2356 = some q2718 := h
      unfold member_Node_enter.b5 at h
      refine nc_seq ?_
      refine nc ?_
      refine nc_seq ?_
      refine nc_cond rfl (fun hc2727 => ?_) (fun hc2727 => ?_)
      · replace h := condT hc2727 h
        refine nc ?_
        refine nc_cut (fun e w2814 => ∃ (a2813 : A_member_Node) (v2812 : O_member_Node), member_Node_enter.k4 x1 v1006 v2353 v2356 v2812 = some q2718 ∧ e = [(0, .pointer (some ⟨g0_, 0, none⟩)), (4, .pointer (some ⟨g13, 0, none⟩)), (82, .slice A2354 v2353.length c2355), (83, .int .i64 ((({ v1006 with view_ := ((x1.1.1, x1.1.2), x1.2), rows_ := ([] : List (Int × (List (List UInt8)))), promised_ := ((x1.1.1, x1.1.2), x1.2), seen_ := (v1006.seen_.1, v1006.seen_.2), plan_ := none, early_ := v1006.early_, outs_ := v1006.outs_, events_ := v1006.events_ : O_member_Node }).early_).length : Int)), (84, .int .i64 v2356)] ∧ Eng.Own ok w0 w2814 [box (oL_member_Node g0_ a2813 v2812), .blk g13 [.int .i64 x1.1.1, .int .i64 x1.1.2, .slice A6 x1.2.length c7] 49, .dat (dSl (tInt .i64) (.slice A6 x1.2.length c7) x1.2), .dat (dSl t_member_cast (.slice A2354 v2353.length c2355) v2353), box R]) ?_ ?_
        · skip
          refine nc_block ?_
          refine nc_seq ?_
          refine nc ?_
          obtain ⟨y2816, hx2817, h⟩ := bindS h
          obtain ⟨a2818, cs2819, rfl, hR2820, H⟩ := H.elemI 3 rfl hx2817
          obtain ⟨u2822, u2823, rfl, hu2824, hu2825⟩ := member_cast_cells hR2820
          obtain ⟨A2826, c2827, rfl, H⟩ := H.openD hu2824
          obtain ⟨A2829, c2830, rfl, H⟩ := H.openD hu2825
          refine idxA_rule (e := 101) 9 _ (by kernel_rfl) (by kernel_rfl) (idxL_some hx2817).1 (idxL_some hx2817).2.1 ?_
          refine own_loadDA (m := 9) H 2 rfl 0 (by kernel_rfl) (by kernel_rfl) [.int .i64 y2816.1, .int .i64 y2816.2.1, .int .i64 y2816.2.2.1.1, .int .i64 y2816.2.2.1.2, .int .i64 y2816.2.2.2.1.1, .int .i64 y2816.2.2.2.1.2, .int .i64 y2816.2.2.2.2.1, .slice A2826 y2816.2.2.2.2.2.1.length c2827, .slice A2829 y2816.2.2.2.2.2.2.length c2830] rfl rfl ?_
          refine own_alloc (z := .agg #[.int .i64 0, .int .i64 0, .int .i64 0, .int .i64 0, .int .i64 0, .int .i64 0, .int .i64 0, .slice none 0 0, .slice none 0 0]) H (by kernel_rfl) [.int .i64 0, .int .i64 0, .int .i64 0, .int .i64 0, .int .i64 0, .int .i64 0, .int .i64 0, .slice none 0 0, .slice none 0 0] rfl fun g2833 w2834 H => ?_
          refine own_storeB (m := 9) H 0 rfl (by kernel_rfl) [.int .i64 y2816.1, .int .i64 y2816.2.1, .int .i64 y2816.2.2.1.1, .int .i64 y2816.2.2.1.2, .int .i64 y2816.2.2.2.1.1, .int .i64 y2816.2.2.2.1.2, .int .i64 y2816.2.2.2.2.1, .slice A2826 y2816.2.2.2.2.2.1.length c2827, .slice A2829 y2816.2.2.2.2.2.2.length c2830] rfl rfl rfl rfl fun w2835 H => ?_
          refine nc_block ?_
          refine nc_seq ?_
          refine nc ?_
          refine own_loadA (m := 2) H 0 rfl (by kernel_rfl) (by kernel_rfl) [.int .i64 y2816.2.2.1.1, .int .i64 y2816.2.2.1.2] rfl rfl ?_
          refine own_loadA (m := 2) H 5 rfl (by kernel_rfl) (by kernel_rfl) [.int .i64 x1.1.1, .int .i64 x1.1.2] rfl rfl ?_
          refine eql_rule ((y2816.2.2.1.1 == x1.1.1) && (y2816.2.2.1.2 == x1.1.2)) (fun _ => (by kernel_rfl)) (fun _ => (by kernel_rfl)) ?_
          refine nc_cond rfl (fun hc2836 => ?_) (fun hc2836 => ?_)
          · replace h := condT hc2836 h
            refine nc ?_
            refine own_load H 0 rfl (by kernel_rfl) (j := 0) rfl ?_
            refine own_loadA (m := 8) H 0 rfl (by kernel_rfl) (by kernel_rfl) [.int .i64 y2816.2.1, .int .i64 y2816.2.2.1.1, .int .i64 y2816.2.2.1.2, .int .i64 y2816.2.2.2.1.1, .int .i64 y2816.2.2.2.1.2, .int .i64 y2816.2.2.2.2.1, .slice A2826 y2816.2.2.2.2.2.1.length c2827, .slice A2829 y2816.2.2.2.2.2.2.length c2830] rfl rfl ?_
            replace H := H.pickL [4, 0, 1, 2, 3, 5, 6, 7, 8] rfl
            try dsimp only [lastL, pickI, List.drop, List.take, List.set, List.eraseIdx, List.getElem?_cons_zero, List.getElem?_cons_succ, List.cons_append, List.nil_append, List.map] at H
            obtain ⟨y2837, hy2838, h⟩ := bindS h
            refine call_rule (by kernel_rfl) (member_Node_cast_ok (x0 := v2350) (x2 := y2816.2) H (H.dat 3 rfl) (H.dat 2 rfl) hy2838) fun v2841 w2840 ⟨a2839, hv2842, H⟩ => ?_
            subst hv2842
            exact cut_inA ⟨a2839, _, h, rfl, H.pickL [0, 5, 6, 7, 8] rfl⟩
          · replace h := condF hc2836 h
            refine nc_seq ?_
            refine nc ?_
            refine own_loadA (m := 2) H 5 rfl (by kernel_rfl) (by kernel_rfl) [.int .i64 x1.1.1, .int .i64 x1.1.2] rfl rfl ?_
            refine own_loadA (m := 2) H 0 rfl (by kernel_rfl) (by kernel_rfl) [.int .i64 y2816.2.2.1.1, .int .i64 y2816.2.2.1.2] rfl rfl ?_
            obtain ⟨y2843, hy2844, h⟩ := bindS h
            refine call_rule (by kernel_rfl) (view_Less_ok (x0 := x1.1) (x1 := y2816.2.2.1) hy2844) fun v2846 w2845 ⟨hv2847, hb2848⟩ => ?_
            subst hv2847
            replace H := H.call hb2848
            refine nc_cond rfl (fun hc2849 => ?_) (fun hc2849 => ?_)
            · replace h := condT hc2849 h
              obtain ⟨A2850, c2851, b2852, al2853, A2854, c2855, g2856, a2857, A2858, c2859, cs2860, A2861, c2862, cs2863, A2864, c2865, cs2866⟩ := a2351
              replace H := H.openAs 4 (oU_member_Node g0_ ⟨A2850, c2851, b2852, al2853, A2854, c2855, g2856, a2857, A2858, c2859, cs2860, A2861, c2862, cs2863, A2864, c2865, cs2866⟩ v2350) rfl rfl
              try dsimp only [oU_member_Node, lastL, pickI, List.drop, List.take, List.set, List.eraseIdx, List.getElem?_cons_zero, List.getElem?_cons_succ, List.cons_append, List.nil_append, List.map] at H
              obtain ⟨hr2890, h⟩ := roomS h
              refine nc ?_
              refine draw_rule [] (by kernel_rfl) (by kernel_rfl) H ?_
              refine c_load 0 rfl (by kernel_rfl) (j := 11) rfl ?_
              refine c_loadA (m := 9) 12 rfl (by kernel_rfl) (by kernel_rfl) [.int .i64 y2816.1, .int .i64 y2816.2.1, .int .i64 y2816.2.2.1.1, .int .i64 y2816.2.2.1.2, .int .i64 y2816.2.2.2.1.1, .int .i64 y2816.2.2.2.1.2, .int .i64 y2816.2.2.2.2.1, .slice A2826 y2816.2.2.2.2.2.1.length c2827, .slice A2829 y2816.2.2.2.2.2.2.length c2830] rfl rfl ?_
              refine c_buildSlice (e := 101) (sz := 9) (z := .agg #[.int .i64 0, .int .i64 0, .int .i64 0, .int .i64 0, .int .i64 0, .int .i64 0, .int .i64 0, .slice none 0 0, .slice none 0 0]) (cs := [.int .i64 y2816.1, .int .i64 y2816.2.1, .int .i64 y2816.2.2.1.1, .int .i64 y2816.2.2.1.2, .int .i64 y2816.2.2.2.1.1, .int .i64 y2816.2.2.2.1.2, .int .i64 y2816.2.2.2.2.1, .slice A2826 y2816.2.2.2.2.2.1.length c2827, .slice A2829 y2816.2.2.2.2.2.2.length c2830]) (by kernel_rfl) (by kernel_rfl) (by kernel_rfl) rfl rfl rfl rfl ?_
              intro g2888
              refine c_append1S (k := t_member_cast) (z := .agg #[.int .i64 0, .int .i64 0, .int .i64 0, .int .i64 0, .int .i64 0, .int .i64 0, .int .i64 0, .slice none 0 0, .slice none 0 0]) (x := y2816) 104 7 6 rfl rfl rfl (fun _ H => (member_cast_in (x := y2816) (H.dat 15 rfl) (H.dat 14 rfl))) (by kernel_rfl) (by kernel_rfl) rfl rfl hr2890 rfl ?_
              intro A2894 c2895 cs2892
              refine c_storeB (m := 1) 0 rfl (by kernel_rfl) [.slice A2894 (v2350.early_ ++ [y2816]).length c2895] rfl rfl rfl rfl ?_
              intro w2898 H
              replace H := (H.pickL [0, 1, 2, 3, 4, 5, 6, 7, 8, 9, 10, 11, 12, 13, 14, 15, 16, 17, 18, 19] rfl).shutAs 12 (oL_member_Node g0_ (A2850, c2851, b2852, al2853, A2854, c2855, g2856, a2857, A2894, c2895, cs2892, A2861, c2862, cs2863, A2864, c2865, cs2866) ({ v2350 with early_ := (v2350.early_ ++ [y2816]) : O_member_Node })) rfl
              try dsimp only [lastL, pickI, List.drop, List.take, List.set, List.eraseIdx, List.getElem?_cons_zero, List.getElem?_cons_succ, List.cons_append, List.nil_append, List.map] at H
              exact cut_inA ⟨(A2850, c2851, b2852, al2853, A2854, c2855, g2856, a2857, A2894, c2895, cs2892, A2861, c2862, cs2863, A2864, c2865, cs2866), _, h, rfl, H.pickL [0, 5, 6, 7, 8] rfl⟩
            · replace h := condF hc2849 h
              refine nc ?_
              exact cut_inA ⟨a2351, _, h, rfl, H.pickL [4, 5, 6, 7, 8] rfl⟩
        · rintro _ w2900 ⟨a2813, v2812, h, rfl, H⟩
          unfold member_Node_enter.k4 at h
          refine nc ?_
          cases h
          exact again_inA ⟨a2813, A2354, c2355, _, _, _, hq2719, rfl, H.pickL [0, 1, 2, 3, 4] rfl⟩
      · replace h := condF hc2727 h
        refine nc ?_
        cases h
        replace hq2719 : v2350 = o2714 := hq2719
        subst hq2719
        have h := hO2716
        try dsimp only [Sum.elim_inl, Sum.elim_inr] at h
        replace h := Option.some.inj h
        subst h
        exact ret_inA [] ⟨_, rfl, a2351, rfl, (H.pickL [0, 4] rfl).tailOpen 1 rfl⟩
end Go.Proofs.Ytipoblinefamgaa.G
