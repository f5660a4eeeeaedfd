/- Walks, printed by a program of this proof's own. -/
import Derived.Test.YtfapphlhkfddoaaGreatDoorHT
import Derived.Test.YtfapphlhkfddoaaGreatDoorClimbP
import Derived.KernelRfl
namespace Go.Proofs.YtfapphlhkfddoaaGreatDoor.G
open Go.RowKit Go.Eng Go.Proofs
set_option linter.unusedVariables false
set_option maxRecDepth 20000
/-! gemot/gemotlaw15.pick -/
noncomputable def gemotlaw15_pick.k1 (x1 : Int) (v2 : Int) : Option (Int) := (remM v2 x1).bind fun _ => some (v2.tmod x1)
noncomputable def gemotlaw15_pick.f (x0 : Int) (x1 : Int) : Option (Int) := cond (decide (x0 < (0 : Int))) (gemotlaw15_pick.k1 x1 (IntKind.i64.wrap (0 - (IntKind.i64.wrap (x0 + (1 : Int)))))) (gemotlaw15_pick.k1 x1 x0)
set_option maxHeartbeats 4000000 in
theorem gemotlaw15_pick_ok {ok : Nat → Prop} {w : World} {x0 : Int} {x1 : Int} {r : Int} (h : gemotlaw15_pick.f x0 x1 = some r) :
    Calls Tryz.prog 17 #[.int .i64 x0, .int .i64 x1] w fun e w' => ∃ v, e = .returned v ∧ (v = .int .i64 r ∧ Bel w.heap.size w w') := by
  have H : Eng.Own ok w w [] := Eng.Own.nil ok w
  unfold gemotlaw15_pick.f at h
  refine enterN (args := [.int .i64 x0, .int .i64 x1]) Tryz.func17 rfl Tryz.ntmps17 rfl rfl ?_
  refine nc_seq ?_
  refine nc ?_
  refine nc_cut (fun e w3 => ∃ (v2 : Int), gemotlaw15_pick.k1 x1 v2 = some r ∧ e = [(0, .int .i64 v2), (1, .int .i64 x1)] ∧ Eng.Own ok w w3 []) ?_ ?_
  · skip
    refine nc_seq ?_
    refine nc ?_
    refine nc_cond rfl (fun hc5 => ?_) (fun hc5 => ?_)
    · replace h := condT hc5 h
      refine nc ?_
      exact cut_inA ⟨_, h, rfl, H.pickL [] rfl⟩
    · replace h := condF hc5 h
      refine nc ?_
      exact cut_inA ⟨_, h, rfl, H.pickL [] rfl⟩
  · rintro _ w6 ⟨v2, h, rfl, H⟩
    unfold gemotlaw15_pick.k1 at h
    refine nc_seq ?_
    refine nc ?_
    obtain ⟨y7, hy8, h⟩ := bindS h
    obtain ⟨hy8b, rfl⟩ := remS hy8
    refine rem_rule (fun _ => hy8b) ?_
    refine nc ?_
    replace h := Option.some.inj h
    subst h
    exact ret_inA [.int .i64 (v2.tmod x1)] ⟨_, rfl, ⟨rfl, H.frame⟩⟩
/-! gemot/gemotlaw15.made -/
noncomputable def gemotlaw15_made.k1 (x0 : List Int) (v1182 : Int) (v1774 : List UInt8) : Option (((List UInt8) × Int) ⊕ (List UInt8)) := some (.inl (v1774, (IntKind.i64.wrap (v1182 + (1 : Int)))))
noncomputable def gemotlaw15_made.k2 (x0 : List Int) (v1181 : List UInt8) (v1182 : Int) (v1865 : List UInt8) (v1866 : Int) : Option (((List UInt8) × Int) ⊕ (List UInt8)) := cond (v1866 == (0 : Int)) (gemotlaw15_made.k1 x0 v1182 v1865) (gemotlaw15_made.k1 x0 v1182 v1181)
noncomputable def gemotlaw15_made.k3 (x0 : List Int) (v1181 : List UInt8) (v1182 : Int) (y1791 : (List UInt8) × Int) (v1822 : List UInt8) (v1823 : Int) : Option (((List UInt8) × Int) ⊕ (List UInt8)) := (idxL x0 v1182).bind fun y1869 => (gemotlaw15_pick.f y1869 (3 : Int)).bind fun y1875 => cond (y1875 == (2 : Int)) ((tree_Merge.f v1181 y1791.1).bind fun y1882 => gemotlaw15_made.k2 x0 v1181 v1182 y1882.1 y1882.2) (gemotlaw15_made.k2 x0 v1181 v1182 v1822 v1823)
noncomputable def gemotlaw15_made.b4 (x0 : List Int) (v1181 : List UInt8) (v1182 : Int) : Option (((List UInt8) × Int) ⊕ (List UInt8)) := cond (cond (decide (v1182 < (x0.length : Int))) (decide (v1182 < (30 : Int))) false) ((idxL x0 v1182).bind fun y1777 => (divM .i64 y1777 (3 : Int)).bind fun _ => (gemotlaw15_pick.f (IntKind.i64.wrap (y1777.tdiv (3 : Int))) (8 : Int)).bind fun y1785 => (tree_Leaf.f (IntKind.i64.wrap ((1 : Int) + y1785))).bind fun y1791 => (tree_Join.f v1181 (IntKind.i64.wrap ((1 : Int) + y1785))).bind fun y1797 => (idxL x0 v1182).bind fun y1826 => (gemotlaw15_pick.f y1826 (3 : Int)).bind fun y1832 => cond (y1832 == (1 : Int)) ((tree_Leave.f v1181 (IntKind.i64.wrap ((1 : Int) + y1785))).bind fun y1839 => gemotlaw15_made.k3 x0 v1181 v1182 y1791 y1839.1 y1839.2) (gemotlaw15_made.k3 x0 v1181 v1182 y1791 y1797.1 y1797.2)) (some (.inr v1181))
noncomputable def gemotlaw15_made.k5 (v947 : List UInt8) : Option ((List UInt8)) := some v947
noncomputable def gemotlaw15_made.f (x0 : List Int) : Option ((List UInt8)) := (loopM (fun s1657 : (List UInt8) × Int => gemotlaw15_made.b4 x0 s1657.1 s1657.2) ([49], (0 : Int))).bind (fun (o1656 : (List UInt8)) => gemotlaw15_made.k5 o1656)
set_option maxHeartbeats 4000000 in
theorem gemotlaw15_made_ok {ok : Nat → Prop} {w : World} {u1 : Value} {x0 : List Int} {r : (List UInt8)} (hu2 : slR (tInt .i64) w ok u1 x0) (h : gemotlaw15_made.f x0 = some r) :
    Calls Tryz.prog 13 #[u1] w fun e w' => ∃ v, e = .returned v ∧ (v = .string (bs r) ∧ Bel w.heap.size w w') := by
  have H : Eng.Own ok w w [] := Eng.Own.nil ok w
  obtain ⟨A3, c4, rfl, H⟩ := H.arg rfl hu2
  unfold gemotlaw15_made.f at h
  refine enterN (args := [.slice A3 x0.length c4]) Tryz.func13 rfl Tryz.ntmps13 rfl rfl ?_
  refine nc_seq ?_
  refine nc ?_
  refine nc_seq ?_
  refine nc ?_
  refine nc_cut (fun e w948 => ∃ (v947 : List UInt8), gemotlaw15_made.k5 v947 = some r ∧ e = [(3, .string (bs v947))] ∧ Eng.Own ok w w948 []) ?_ ?_
  · skip
    refine nc_seq ?_
    refine nc ?_
    refine nc_block ?_
    obtain ⟨o1648, hL1649, hO1650⟩ := bindS h
    obtain ⟨n1651, hL1649⟩ := loopS hL1649
    refine nc ?_
    refine loop_ruleA (fun k e w1655 => ∃ (v1181 : List UInt8) (v1182 : Int), iterM (fun s1657 : (List UInt8) × Int => gemotlaw15_made.b4 x0 s1657.1 s1657.2) k (v1181, v1182) = some o1648 ∧ e = [(0, .slice A3 x0.length c4), (3, .string (bs v1181)), (4, .int .i64 v1182)] ∧ Eng.Own ok w w1655 [.dat (dSl (tInt .i64) (.slice A3 x0.length c4) x0)]) ⟨_, _, hL1649, rfl, H.pickL [0] rfl⟩ ?_
    rintro k1659 _ w1658 ⟨v1181, v1182, hL1649, rfl, H⟩
    obtain ⟨k1654, rfl, q1652, h, hq1653⟩ := iterS hL1649
    replace h : gemotlaw15_made.b4 x0 v1181 v1182 = some q1652 := h
    unfold gemotlaw15_made.b4 at h
    refine nc_seq ?_
    refine nc_seq ?_
    refine nc ?_
    refine nc_cond rfl (fun hc1660 => ?_) (fun hc1660 => ?_)
    · replace h := condT hc1660 h
      refine nc ?_
      refine nc_cut (fun e w1775 => ∃ (v1774 : List UInt8), gemotlaw15_made.k1 x0 v1182 v1774 = some q1652 ∧ e = [(0, .slice A3 x0.length c4), (3, .string (bs v1774)), (4, .int .i64 v1182)] ∧ Eng.Own ok w w1775 [.dat (dSl (tInt .i64) (.slice A3 x0.length c4) x0)]) ?_ ?_
      · skip
        refine nc_block ?_
        refine nc_seq ?_
        refine nc ?_
        obtain ⟨y1777, hx1778, h⟩ := bindS h
        obtain ⟨a1779, cs1780, rfl, hR1781, H⟩ := H.elemI 0 rfl hx1778
        obtain rfl : cs1780 = [.int .i64 y1777] := hR1781
        refine idxA_rule (e := 3) 1 _ (by kernel_rfl) (by kernel_rfl) (idxL_some hx1778).1 (idxL_some hx1778).2.1 ?_
        refine own_loadD H 0 rfl 0 (by kernel_rfl) rfl ?_
        obtain ⟨y1783, hy1784, h⟩ := bindS h
        obtain ⟨hy1784b, rfl⟩ := divS hy1784
        refine quo_rule (fun _ => hy1784b) ?_
        obtain ⟨y1785, hy1786, h⟩ := bindS h
        refine call_rule (by kernel_rfl) (gemotlaw15_pick_ok (ok := fun _ => False) hy1786) fun v1788 w1787 ⟨hv1789, hb1790⟩ => ?_
        subst hv1789
        replace H := H.call hb1790
        refine nc_seq ?_
        refine nc ?_
        obtain ⟨y1791, hy1792, h⟩ := bindS h
        refine call_rule (by kernel_rfl) (tree_Leaf_ok hy1792) fun v1794 w1793 ⟨hv1795, hb1796⟩ => ?_
        subst hv1795
        replace H := H.call hb1796
        refine nc_seq ?_
        refine nc ?_
        obtain ⟨y1797, hy1798, h⟩ := bindS h
        refine call_rule (by kernel_rfl) (tree_Join_ok hy1798) fun v1800 w1799 ⟨hv1801, hb1802⟩ => ?_
        subst hv1801
        replace H := H.call hb1802
        refine nc_cut (fun e w1824 => ∃ (v1822 : List UInt8) (v1823 : Int), gemotlaw15_made.k3 x0 v1181 v1182 y1791 v1822 v1823 = some q1652 ∧ e = [(0, .slice (some a1779) x0.length c4), (3, .string (bs v1181)), (4, .int .i64 v1182), (6, .string (bs y1791.1)), (8, .string (bs v1822)), (9, .int .i64 v1823)] ∧ Eng.Own ok w w1824 [.dat (dSl (tInt .i64) (.slice (some a1779) x0.length c4) x0)]) ?_ ?_
        · skip
          refine nc_seq ?_
          refine nc ?_
          obtain ⟨y1826, hx1827, h⟩ := bindS h
          obtain ⟨cs1829, hR1830, H⟩ := H.elemJ 1 rfl hx1827
          obtain rfl : cs1829 = [.int .i64 y1826] := hR1830
          refine idxA_rule (e := 3) 1 _ (by kernel_rfl) (by kernel_rfl) (idxL_some hx1827).1 (idxL_some hx1827).2.1 ?_
          refine own_loadD H 0 rfl 0 (by kernel_rfl) rfl ?_
          obtain ⟨y1832, hy1833, h⟩ := bindS h
          refine call_rule (by kernel_rfl) (gemotlaw15_pick_ok (ok := fun _ => False) hy1833) fun v1835 w1834 ⟨hv1836, hb1837⟩ => ?_
          subst hv1836
          replace H := H.call hb1837
          refine nc_cond rfl (fun hc1838 => ?_) (fun hc1838 => ?_)
          · replace h := condT hc1838 h
            refine nc ?_
            obtain ⟨y1839, hy1840, h⟩ := bindS h
            refine call_rule (by kernel_rfl) (tree_Leave_ok hy1840) fun v1842 w1841 ⟨hv1843, hb1844⟩ => ?_
            subst hv1843
            replace H := H.call hb1844
            exact cut_inA ⟨_, _, h, rfl, H.pickL [2] rfl⟩
          · replace h := condF hc1838 h
            refine nc ?_
            exact cut_inA ⟨_, _, h, rfl, H.pickL [2] rfl⟩
        · rintro _ w1845 ⟨v1822, v1823, h, rfl, H⟩
          unfold gemotlaw15_made.k3 at h
          refine nc_cut (fun e w1867 => ∃ (v1865 : List UInt8) (v1866 : Int), gemotlaw15_made.k2 x0 v1181 v1182 v1865 v1866 = some q1652 ∧ e = [(0, .slice (some a1779) x0.length c4), (3, .string (bs v1181)), (4, .int .i64 v1182), (8, .string (bs v1865)), (9, .int .i64 v1866)] ∧ Eng.Own ok w w1867 [.dat (dSl (tInt .i64) (.slice (some a1779) x0.length c4) x0)]) ?_ ?_
          · skip
            refine nc_seq ?_
            refine nc ?_
            obtain ⟨y1869, hx1870, h⟩ := bindS h
            obtain ⟨cs1872, hR1873, H⟩ := H.elemJ 0 rfl hx1870
            obtain rfl : cs1872 = [.int .i64 y1869] := hR1873
            refine idxA_rule (e := 3) 1 _ (by kernel_rfl) (by kernel_rfl) (idxL_some hx1870).1 (idxL_some hx1870).2.1 ?_
            refine own_loadD H 0 rfl 0 (by kernel_rfl) rfl ?_
            obtain ⟨y1875, hy1876, h⟩ := bindS h
            refine call_rule (by kernel_rfl) (gemotlaw15_pick_ok (ok := fun _ => False) hy1876) fun v1878 w1877 ⟨hv1879, hb1880⟩ => ?_
            subst hv1879
            replace H := H.call hb1880
            refine nc_cond rfl (fun hc1881 => ?_) (fun hc1881 => ?_)
            · replace h := condT hc1881 h
              refine nc ?_
              obtain ⟨y1882, hy1883, h⟩ := bindS h
              refine call_rule (by kernel_rfl) (tree_Merge_ok hy1883) fun v1885 w1884 ⟨hv1886, hb1887⟩ => ?_
              subst hv1886
              replace H := H.call hb1887
              exact cut_inA ⟨_, _, h, rfl, H.pickL [1] rfl⟩
            · replace h := condF hc1881 h
              refine nc ?_
              exact cut_inA ⟨_, _, h, rfl, H.pickL [1] rfl⟩
          · rintro _ w1888 ⟨v1865, v1866, h, rfl, H⟩
            unfold gemotlaw15_made.k2 at h
            refine nc_seq ?_
            refine nc ?_
            refine nc_cond rfl (fun hc1889 => ?_) (fun hc1889 => ?_)
            · replace h := condT hc1889 h
              refine nc ?_
              exact cut_inA ⟨_, h, rfl, H.pickL [0] rfl⟩
            · replace h := condF hc1889 h
              refine nc ?_
              exact cut_inA ⟨_, h, rfl, H.pickL [0] rfl⟩
      · rintro _ w1890 ⟨v1774, h, rfl, H⟩
        unfold gemotlaw15_made.k1 at h
        refine nc ?_
        cases h
        exact again_inA ⟨_, _, hq1653, rfl, H.pickL [0] rfl⟩
    · replace h := condF hc1660 h
      refine nc ?_
      cases h
      replace hq1653 : v1181 = o1648 := hq1653
      subst hq1653
      have h := hO1650
      try dsimp only [Sum.elim_inl, Sum.elim_inr] at h
      exact cut_inA ⟨_, h, rfl, H.pickL [] rfl⟩
  · rintro _ w1891 ⟨v947, h, rfl, H⟩
    unfold gemotlaw15_made.k5 at h
    refine nc_seq ?_
    refine nc ?_
    refine nc ?_
    replace h := Option.some.inj h
    subst h
    exact ret_inA [.string (bs v947)] ⟨_, rfl, ⟨rfl, H.frame⟩⟩
/-! gemot/gemotlaw15.secrets -/
noncomputable def gemotlaw15_secrets.b1 (x0 : Int) (x1 : Int) (v126 : List (List UInt8)) (v130 : Int) : Option (((List (List UInt8)) × Int) ⊕ (List (List UInt8))) := cond (decide (v130 < x0)) ((term_Name.f (IntKind.u64.wrap (x1 + (IntKind.u64.wrap v130)))).bind fun y190 => roomM 16 (v126.length + 1) (some (.inl ((v126 ++ [y190]), (IntKind.i64.wrap (v130 + (1 : Int))))))) (some (.inr v126))
noncomputable def gemotlaw15_secrets.k2 (v101 : List (List UInt8)) : Option ((List (List UInt8))) := some v101
noncomputable def gemotlaw15_secrets.f (x0 : Int) (x1 : Int) : Option ((List (List UInt8))) := (loopM (fun s186 : (List (List UInt8)) × Int => gemotlaw15_secrets.b1 x0 x1 s186.1 s186.2) (([] : List (List UInt8)), (0 : Int))).bind (fun (o184 : (List (List UInt8))) => gemotlaw15_secrets.k2 o184)
set_option maxHeartbeats 4000000 in
theorem gemotlaw15_secrets_ok {ok : Nat → Prop} {w : World} {x0 : Int} {x1 : Int} {r : (List (List UInt8))} (h : gemotlaw15_secrets.f x0 x1 = some r) :
    Calls Tryz.prog 16 #[.int .i64 x0, .int .u64 x1] w fun e w' => ∃ v, e = .returned v ∧ (rowOut w w' ok tStr 28 v r ∧ Bel w.heap.size w w') := by
  have H : Eng.Own ok w w [] := Eng.Own.nil ok w
  unfold gemotlaw15_secrets.f at h
  refine enterN (args := [.int .i64 x0, .int .u64 x1]) Tryz.func16 rfl Tryz.ntmps16 rfl rfl ?_
  refine nc_seq ?_
  refine nc ?_
  refine nc_seq ?_
  refine nc ?_
  refine nc_cut (fun e w105 => ∃ (A102 : Option Addr) (c103 : Nat) (cs104 : List Value) (v101 : List (List UInt8)), gemotlaw15_secrets.k2 v101 = some r ∧ e = [(5, .slice A102 v101.length c103)] ∧ Eng.Own ok w w105 [.dat (dRows tStr v101 cs104), .row (.slice A102 v101.length c103) 28 1 v101.length cs104]) ?_ ?_
  · skip
    refine nc_seq ?_
    refine nc ?_
    refine nc_block ?_
    replace H := H.nilRowD tStr 28
    obtain ⟨o176, hL177, hO178⟩ := bindS h
    obtain ⟨n179, hL177⟩ := loopS hL177
    refine nc ?_
    refine loop_ruleA (fun k e w183 => ∃ (A127 : Option Addr) (c128 : Nat) (cs129 : List Value) (v126 : List (List UInt8)) (v130 : Int), iterM (fun s186 : (List (List UInt8)) × Int => gemotlaw15_secrets.b1 x0 x1 s186.1 s186.2) k (v126, v130) = some o176 ∧ e = [(0, .int .i64 x0), (1, .int .u64 x1), (5, .slice A127 v126.length c128), (6, .int .i64 v130)] ∧ Eng.Own ok w w183 [.dat (dRows tStr v126 cs129), .row (.slice A127 v126.length c128) 28 1 v126.length cs129]) ⟨none, 0, [], _, _, hL177, rfl, H.pickL [0, 1] rfl⟩ ?_
    rintro k188 _ w187 ⟨A127, c128, cs129, v126, v130, hL177, rfl, H⟩
    obtain ⟨k182, rfl, q180, h, hq181⟩ := iterS hL177
    replace h : gemotlaw15_secrets.b1 x0 x1 v126 v130 = some q180 := h
    unfold gemotlaw15_secrets.b1 at h
    refine nc_seq ?_
    refine nc_seq ?_
    refine nc ?_
    refine nc_cond rfl (fun hc189 => ?_) (fun hc189 => ?_)
    · replace h := condT hc189 h
      refine nc ?_
      refine nc_seq ?_
      refine nc_block ?_
      refine nc ?_
      obtain ⟨y190, hy191, h⟩ := bindS h
      refine call_rule (by kernel_rfl) (term_Name_ok hy191) fun v193 w192 ⟨hv194, hb195⟩ => ?_
      subst hv194
      replace H := H.call hb195
      refine own_buildSlice (e := 28) (sz := 1) (z := .string ⟨#[]⟩) (cs := [.string (bs y190)]) H (by kernel_rfl) (by kernel_rfl) (by kernel_rfl) rfl rfl rfl rfl fun g197 w198 H => ?_
      obtain ⟨hr199, h⟩ := roomS h
      refine own_append1 (k := tStr) (z := .string ⟨#[]⟩) (x := y190) 16 H 1 0 rfl rfl rfl rfl (by kernel_rfl) (by kernel_rfl) rfl rfl hr199 rfl fun z200 cs201 w202 H => ?_
      obtain ⟨A203, c204, rfl, _, _⟩ := H.rowSl 1 rfl
      refine nc ?_
      cases h
      exact again_inA ⟨A203, c204, cs201, _, _, hq181, rfl, H.pickL [0, 1] rfl⟩
    · replace h := condF hc189 h
      refine nc ?_
      cases h
      replace hq181 : v126 = o176 := hq181
      subst hq181
      have h := hO178
      try dsimp only [Sum.elim_inl, Sum.elim_inr] at h
      exact cut_inA ⟨A127, c128, cs129, _, h, rfl, H.pickL [0, 1] rfl⟩
  · rintro _ w206 ⟨A102, c103, cs104, v101, h, rfl, H⟩
    unfold gemotlaw15_secrets.k2 at h
    refine nc_seq ?_
    refine nc ?_
    refine nc ?_
    replace h := Option.some.inj h
    subst h
    exact ret_inA [.slice A102 v101.length c103] ⟨_, rfl, ⟨H.outR 1 0 rfl rfl rfl, H.frame⟩⟩
/-! gemot/gemotlaw15.texts -/
noncomputable def gemotlaw15_texts.b1 (x0 : List (List UInt8)) (v131 : List (List UInt8)) (v135 : Int) : Option (((List (List UInt8)) × Int) ⊕ (List (List UInt8))) := cond (decide (v135 < (x0.length : Int))) ((idxL x0 v135).bind fun y195 => roomM 16 (v131.length + 1) (some (.inl ((v131 ++ [y195]), (IntKind.i64.wrap (v135 + (1 : Int))))))) (some (.inr v131))
noncomputable def gemotlaw15_texts.k2 (v106 : List (List UInt8)) : Option ((List (List UInt8))) := some v106
noncomputable def gemotlaw15_texts.f (x0 : List (List UInt8)) : Option ((List (List UInt8))) := (loopM (fun s191 : (List (List UInt8)) × Int => gemotlaw15_texts.b1 x0 s191.1 s191.2) (([] : List (List UInt8)), (0 : Int))).bind (fun (o189 : (List (List UInt8))) => gemotlaw15_texts.k2 o189)
set_option maxHeartbeats 4000000 in
theorem gemotlaw15_texts_ok {ok : Nat → Prop} {w : World} {u1 : Value} {x0 : List (List UInt8)} {r : (List (List UInt8))} (hu2 : slR tStr w ok u1 x0) (h : gemotlaw15_texts.f x0 = some r) :
    Calls Tryz.prog 40 #[u1] w fun e w' => ∃ v, e = .returned v ∧ (rowOut w w' ok tStr 9 v r ∧ Bel w.heap.size w w') := by
  have H : Eng.Own ok w w [] := Eng.Own.nil ok w
  obtain ⟨A3, c4, rfl, H⟩ := H.arg rfl hu2
  unfold gemotlaw15_texts.f at h
  refine enterN (args := [.slice A3 x0.length c4]) Tryz.func40 rfl Tryz.ntmps40 rfl rfl ?_
  refine nc_seq ?_
  refine nc ?_
  refine nc_seq ?_
  refine nc ?_
  refine nc_cut (fun e w110 => ∃ (A107 : Option Addr) (c108 : Nat) (cs109 : List Value) (v106 : List (List UInt8)), gemotlaw15_texts.k2 v106 = some r ∧ e = [(3, .slice A107 v106.length c108)] ∧ Eng.Own ok w w110 [.dat (dRows tStr v106 cs109), .row (.slice A107 v106.length c108) 9 1 v106.length cs109]) ?_ ?_
  · skip
    refine nc_seq ?_
    refine nc ?_
    refine nc_block ?_
    replace H := H.nilRowD tStr 9
    obtain ⟨o181, hL182, hO183⟩ := bindS h
    obtain ⟨n184, hL182⟩ := loopS hL182
    refine nc ?_
    refine loop_ruleA (fun k e w188 => ∃ (A132 : Option Addr) (c133 : Nat) (cs134 : List Value) (v131 : List (List UInt8)) (v135 : Int), iterM (fun s191 : (List (List UInt8)) × Int => gemotlaw15_texts.b1 x0 s191.1 s191.2) k (v131, v135) = some o181 ∧ e = [(0, .slice A3 x0.length c4), (3, .slice A132 v131.length c133), (4, .int .i64 v135)] ∧ Eng.Own ok w w188 [.dat (dSl tStr (.slice A3 x0.length c4) x0), .dat (dRows tStr v131 cs134), .row (.slice A132 v131.length c133) 9 1 v131.length cs134]) ⟨none, 0, [], _, _, hL182, rfl, H.pickL [2, 0, 1] rfl⟩ ?_
    rintro k193 _ w192 ⟨A132, c133, cs134, v131, v135, hL182, rfl, H⟩
    obtain ⟨k187, rfl, q185, h, hq186⟩ := iterS hL182
    replace h : gemotlaw15_texts.b1 x0 v131 v135 = some q185 := h
    unfold gemotlaw15_texts.b1 at h
    refine nc_seq ?_
    refine nc_seq ?_
    refine nc ?_
    refine nc_cond rfl (fun hc194 => ?_) (fun hc194 => ?_)
    · replace h := condT hc194 h
      refine nc ?_
      refine nc_seq ?_
      refine nc_block ?_
      refine nc ?_
      obtain ⟨y195, hx196, h⟩ := bindS h
      obtain ⟨a197, cs198, rfl, hR199, H⟩ := H.elemI 0 rfl hx196
      obtain rfl : cs198 = [.string (bs y195)] := hR199
      refine idxA_rule (e := 28) 1 _ (by kernel_rfl) (by kernel_rfl) (idxL_some hx196).1 (idxL_some hx196).2.1 ?_
      refine own_loadD H 0 rfl 0 (by kernel_rfl) rfl ?_
      refine own_buildSlice (e := 9) (sz := 1) (z := .string ⟨#[]⟩) (cs := [.string (bs y195)]) H (by kernel_rfl) (by kernel_rfl) (by kernel_rfl) rfl rfl rfl rfl fun g202 w203 H => ?_
      obtain ⟨hr204, h⟩ := roomS h
      refine own_append1 (k := tStr) (z := .string ⟨#[]⟩) (x := y195) 16 H 3 2 rfl rfl rfl rfl (by kernel_rfl) (by kernel_rfl) rfl rfl hr204 rfl fun z205 cs206 w207 H => ?_
      obtain ⟨A208, c209, rfl, _, _⟩ := H.rowSl 3 rfl
      refine nc ?_
      cases h
      exact again_inA ⟨A208, c209, cs206, _, _, hq186, rfl, H.pickL [1, 2, 3] rfl⟩
    · replace h := condF hc194 h
      refine nc ?_
      cases h
      replace hq186 : v131 = o181 := hq186
      subst hq186
      have h := hO183
      try dsimp only [Sum.elim_inl, Sum.elim_inr] at h
      exact cut_inA ⟨A132, c133, cs134, _, h, rfl, H.pickL [1, 2] rfl⟩
  · rintro _ w211 ⟨A107, c108, cs109, v106, h, rfl, H⟩
    unfold gemotlaw15_texts.k2 at h
    refine nc_seq ?_
    refine nc ?_
    refine nc ?_
    replace h := Option.some.inj h
    subst h
    exact ret_inA [.slice A107 v106.length c108] ⟨_, rfl, ⟨H.outR 1 0 rfl rfl rfl, H.frame⟩⟩
/-! gemot/gemotlaw15.same -/
noncomputable def gemotlaw15_same.b1 (x0 : List (List UInt8)) (x1 : List (List UInt8)) (v104 : Int) : Option (Int ⊕ (Unit ⊕ Bool)) := cond (decide (v104 < (x0.length : Int))) ((idxL x0 v104).bind fun y150 => (idxL x1 v104).bind fun y156 => cond (!(strEq y150 y156)) (some (.inr (Sum.inr false))) (some (.inl (IntKind.i64.wrap (v104 + (1 : Int)))))) (some (.inr (Sum.inl ())))
noncomputable def gemotlaw15_same.k2 : Option (Bool) := some true
noncomputable def gemotlaw15_same.f (x0 : List (List UInt8)) (x1 : List (List UInt8)) : Option (Bool) := cond ((x0.length : Int) != (x1.length : Int)) (some false) ((loopM (fun s146 : Int => gemotlaw15_same.b1 x0 x1 s146) (0 : Int)).bind (Sum.elim (fun (o144 : Unit) => gemotlaw15_same.k2) (fun (o145 : Bool) => some o145)))
set_option maxHeartbeats 4000000 in
theorem gemotlaw15_same_ok {ok : Nat → Prop} {w : World} {u1 u6 : Value} {x0 : List (List UInt8)} {x1 : List (List UInt8)} {r : Bool} (hu2 : slR tStr w ok u1 x0) (hu7 : slR tStr w ok u6 x1) (h : gemotlaw15_same.f x0 x1 = some r) :
    Calls Tryz.prog 39 #[u1, u6] w fun e w' => ∃ v, e = .returned v ∧ (v = .bool r ∧ Bel w.heap.size w w') := by
  have H : Eng.Own ok w w [] := Eng.Own.nil ok w
  obtain ⟨A3, c4, rfl, H⟩ := H.arg rfl hu2
  obtain ⟨A8, c9, rfl, H⟩ := H.arg rfl hu7
  unfold gemotlaw15_same.f at h
  refine enterN (args := [.slice A3 x0.length c4, .slice A8 x1.length c9]) Tryz.func39 rfl Tryz.ntmps39 rfl rfl ?_
  refine nc_seq ?_
  refine nc ?_
  refine nc_seq ?_
  refine nc_seq ?_
  refine nc ?_
  refine nc_cond rfl (fun hc11 => ?_) (fun hc11 => ?_)
  · replace h := condT hc11 h
    refine nc_seq ?_
    refine nc ?_
    refine nc ?_
    replace h := Option.some.inj h
    subst h
    exact ret_inA [.bool false] ⟨_, rfl, ⟨rfl, H.frame⟩⟩
  · replace h := condF hc11 h
    refine nc ?_
    refine nc_cut (fun e w87 => gemotlaw15_same.k2 = some r ∧ e = [] ∧ Eng.Own ok w w87 []) ?_ ?_
    · skip
      refine nc_seq ?_
      refine nc ?_
      refine nc_block ?_
      obtain ⟨o136, hL137, hO138⟩ := bindS h
      obtain ⟨n139, hL137⟩ := loopS hL137
      refine nc ?_
      refine loop_ruleA (fun k e w143 => ∃ (v104 : Int), iterM (fun s146 : Int => gemotlaw15_same.b1 x0 x1 s146) k v104 = some o136 ∧ e = [(0, .slice A3 x0.length c4), (1, .slice A8 x1.length c9), (5, .int .i64 v104)] ∧ Eng.Own ok w w143 [.dat (dSl tStr (.slice A3 x0.length c4) x0), .dat (dSl tStr (.slice A8 x1.length c9) x1)]) ⟨_, hL137, rfl, H.pickL [1, 0] rfl⟩ ?_
      rintro k148 _ w147 ⟨v104, hL137, rfl, H⟩
      obtain ⟨k142, rfl, q140, h, hq141⟩ := iterS hL137
      replace h : gemotlaw15_same.b1 x0 x1 v104 = some q140 := h
      unfold gemotlaw15_same.b1 at h
      refine nc_seq ?_
      refine nc_seq ?_
      refine nc ?_
      refine nc_cond rfl (fun hc149 => ?_) (fun hc149 => ?_)
      · replace h := condT hc149 h
        refine nc ?_
        refine nc_seq ?_
        refine nc_block ?_
        refine nc_seq ?_
        obtain ⟨y150, hx151, h⟩ := bindS h
        obtain ⟨a152, cs153, rfl, hR154, H⟩ := H.elemI 0 rfl hx151
        obtain rfl : cs153 = [.string (bs y150)] := hR154
        obtain ⟨y156, hx157, h⟩ := bindS h
        obtain ⟨a158, cs159, rfl, hR160, H⟩ := H.elemI 2 rfl hx157
        obtain rfl : cs159 = [.string (bs y156)] := hR160
        refine nc ?_
        refine draw_rule [] (by kernel_rfl) (by kernel_rfl) H ?_
        refine c_idxA (e := 28) 1 _ (by kernel_rfl) (by kernel_rfl) (idxL_some hx151).1 (idxL_some hx151).2.1 ?_
        refine c_loadD 1 rfl 0 (by kernel_rfl) rfl ?_
        refine c_idxA (e := 9) 1 _ (by kernel_rfl) (by kernel_rfl) (idxL_some hx157).1 (idxL_some hx157).2.1 ?_
        refine c_loadD 0 rfl 0 (by kernel_rfl) rfl ?_
        intro w162 H
        refine nc_cond rfl (fun hc163 => ?_) (fun hc163 => ?_)
        · replace h := condT hc163 h
          refine nc_seq ?_
          refine nc ?_
          refine nc ?_
          cases h
          replace hq141 : (Sum.inr false) = o136 := hq141
          subst hq141
          have h := hO138
          try dsimp only [Sum.elim_inl, Sum.elim_inr] at h
          replace h := Option.some.inj h
          subst h
          exact ret_inA [.bool false] ⟨_, rfl, ⟨rfl, H.frame⟩⟩
        · replace h := condF hc163 h
          refine nc ?_
          refine nc ?_
          cases h
          exact again_inA ⟨_, hq141, rfl, H.pickL [2, 3] rfl⟩
      · replace h := condF hc149 h
        refine nc ?_
        cases h
        replace hq141 : (Sum.inl ()) = o136 := hq141
        subst hq141
        have h := hO138
        try dsimp only [Sum.elim_inl, Sum.elim_inr] at h
        exact cut_inA ⟨h, rfl, H.pickL [] rfl⟩
    · rintro _ w164 ⟨h, rfl, H⟩
      unfold gemotlaw15_same.k2 at h
      refine nc_seq ?_
      refine nc ?_
      refine nc ?_
      replace h := Option.some.inj h
      subst h
      exact ret_inA [.bool true] ⟨_, rfl, ⟨rfl, H.frame⟩⟩
/-! gemot/gemotlaw15.has -/
noncomputable def gemotlaw15_has.b1 (x0 : List D_blind_Blind) (x1 : List UInt8) (v63 : Int) : Option (Int ⊕ (Unit ⊕ Bool)) := cond (decide (v63 < (x0.length : Int))) ((idxL x0 v63).bind fun y95 => cond (strEq y95.1 x1) (some (.inr (Sum.inr true))) (some (.inl (IntKind.i64.wrap (v63 + (1 : Int)))))) (some (.inr (Sum.inl ())))
noncomputable def gemotlaw15_has.k2 : Option (Bool) := some false
noncomputable def gemotlaw15_has.f (x0 : List D_blind_Blind) (x1 : List UInt8) : Option (Bool) := (loopM (fun s91 : Int => gemotlaw15_has.b1 x0 x1 s91) (0 : Int)).bind (Sum.elim (fun (o89 : Unit) => gemotlaw15_has.k2) (fun (o90 : Bool) => some o90))
set_option maxHeartbeats 4000000 in
theorem gemotlaw15_has_ok {ok : Nat → Prop} {w : World} {u1 : Value} {x0 : List D_blind_Blind} {x1 : List UInt8} {r : Bool} (hu2 : slR t_blind_Blind w ok u1 x0) (h : gemotlaw15_has.f x0 x1 = some r) :
    Calls Tryz.prog 38 #[u1, .string (bs x1)] w fun e w' => ∃ v, e = .returned v ∧ (v = .bool r ∧ Bel w.heap.size w w') := by
  have H : Eng.Own ok w w [] := Eng.Own.nil ok w
  obtain ⟨A3, c4, rfl, H⟩ := H.arg rfl hu2
  unfold gemotlaw15_has.f at h
  refine enterN (args := [.slice A3 x0.length c4, .string (bs x1)]) Tryz.func38 rfl Tryz.ntmps38 rfl rfl ?_
  refine nc_seq ?_
  refine nc ?_
  refine nc_cut (fun e w53 => gemotlaw15_has.k2 = some r ∧ e = [] ∧ Eng.Own ok w w53 []) ?_ ?_
  · skip
    refine nc_seq ?_
    refine nc ?_
    refine nc_block ?_
    obtain ⟨o81, hL82, hO83⟩ := bindS h
    obtain ⟨n84, hL82⟩ := loopS hL82
    refine nc ?_
    refine loop_ruleA (fun k e w88 => ∃ (v63 : Int), iterM (fun s91 : Int => gemotlaw15_has.b1 x0 x1 s91) k v63 = some o81 ∧ e = [(0, .slice A3 x0.length c4), (1, .string (bs x1)), (5, .int .i64 v63)] ∧ Eng.Own ok w w88 [.dat (dSl t_blind_Blind (.slice A3 x0.length c4) x0)]) ⟨_, hL82, rfl, H.pickL [0] rfl⟩ ?_
    rintro k93 _ w92 ⟨v63, hL82, rfl, H⟩
    obtain ⟨k87, rfl, q85, h, hq86⟩ := iterS hL82
    replace h : gemotlaw15_has.b1 x0 x1 v63 = some q85 := h
    unfold gemotlaw15_has.b1 at h
    refine nc_seq ?_
    refine nc_seq ?_
    refine nc ?_
    refine nc_cond rfl (fun hc94 => ?_) (fun hc94 => ?_)
    · replace h := condT hc94 h
      refine nc ?_
      refine nc_seq ?_
      refine nc_block ?_
      refine nc_seq ?_
      refine nc ?_
      obtain ⟨y95, hx96, h⟩ := bindS h
      obtain ⟨a97, cs98, rfl, hR99, H⟩ := H.elemI 0 rfl hx96
      obtain rfl := blind_Blind_cells hR99
      refine idxA_rule (e := 76) 2 _ (by kernel_rfl) (by kernel_rfl) (idxL_some hx96).1 (idxL_some hx96).2.1 ?_
      refine own_loadD H 0 rfl 0 (by kernel_rfl) rfl ?_
      refine nc_cond rfl (fun hc101 => ?_) (fun hc101 => ?_)
      · replace h := condT hc101 h
        refine nc_seq ?_
        refine nc ?_
        refine nc ?_
        cases h
        replace hq86 : (Sum.inr true) = o81 := hq86
        subst hq86
        have h := hO83
        try dsimp only [Sum.elim_inl, Sum.elim_inr] at h
        replace h := Option.some.inj h
        subst h
        exact ret_inA [.bool true] ⟨_, rfl, ⟨rfl, H.frame⟩⟩
      · replace h := condF hc101 h
        refine nc ?_
        refine nc ?_
        cases h
        exact again_inA ⟨_, hq86, rfl, H.pickL [1] rfl⟩
    · replace h := condF hc94 h
      refine nc ?_
      cases h
      replace hq86 : (Sum.inl ()) = o81 := hq86
      subst hq86
      have h := hO83
      try dsimp only [Sum.elim_inl, Sum.elim_inr] at h
      exact cut_inA ⟨h, rfl, H.pickL [] rfl⟩
  · rintro _ w102 ⟨h, rfl, H⟩
    unfold gemotlaw15_has.k2 at h
    refine nc_seq ?_
    refine nc ?_
    refine nc ?_
    replace h := Option.some.inj h
    subst h
    exact ret_inA [.bool false] ⟨_, rfl, ⟨rfl, H.frame⟩⟩
/-! gemot/gemotlaw15.blinds -/
noncomputable def gemotlaw15_blinds.k1 (x0 : List UInt8) (x1 : List (List UInt8)) (y6 : (List (List UInt8))) (y18 : (List Int)) (v51079 : List D_blind_Blind) (v51083 : Int) (y76620 : (List UInt8) × Int) (y76626 : (List Int)) (v79791 : Int) (v81441 : Int) (v81635 : List (List UInt8)) : Option (((List (List UInt8)) × Int) ⊕ (List (List UInt8))) := some (.inl (v81635, (IntKind.i64.wrap (v81441 + (1 : Int)))))
noncomputable def gemotlaw15_blinds.b2 (x0 : List UInt8) (x1 : List (List UInt8)) (y6 : (List (List UInt8))) (y18 : (List Int)) (v51079 : List D_blind_Blind) (v51083 : Int) (y76620 : (List UInt8) × Int) (y76626 : (List Int)) (v79791 : Int) (v81437 : List (List UInt8)) (v81441 : Int) : Option (((List (List UInt8)) × Int) ⊕ (List (List UInt8))) := cond (decide (v81441 < (y76626.length : Int))) ((idxL y76626 v81441).bind fun y81641 => (idxL y18 v79791).bind fun y81647 => cond (y81641 == y81647) ((idxL x1 v79791).bind fun y81655 => roomM 16 (v81437.length + 1) (gemotlaw15_blinds.k1 x0 x1 y6 y18 v51079 v51083 y76620 y76626 v79791 v81441 (v81437 ++ [y81655]))) (gemotlaw15_blinds.k1 x0 x1 y6 y18 v51079 v51083 y76620 y76626 v79791 v81441 v81437)) (some (.inr v81437))
noncomputable def gemotlaw15_blinds.k3 (x0 : List UInt8) (x1 : List (List UInt8)) (y6 : (List (List UInt8))) (y18 : (List Int)) (v51079 : List D_blind_Blind) (v51083 : Int) (y76620 : (List UInt8) × Int) (y76626 : (List Int)) (v79791 : Int) (v81361 : List (List UInt8)) : Option (((List (List UInt8)) × Int) ⊕ (List (List UInt8))) := some (.inl (v81361, (IntKind.i64.wrap (v79791 + (1 : Int)))))
noncomputable def gemotlaw15_blinds.b4 (x0 : List UInt8) (x1 : List (List UInt8)) (y6 : (List (List UInt8))) (y18 : (List Int)) (v51079 : List D_blind_Blind) (v51083 : Int) (y76620 : (List UInt8) × Int) (y76626 : (List Int)) (v79787 : List (List UInt8)) (v79791 : Int) : Option (((List (List UInt8)) × Int) ⊕ (List (List UInt8))) := cond (cond (decide (v79791 < (y18.length : Int))) (decide (v79791 < (x1.length : Int))) false) ((loopM (fun s81600 : (List (List UInt8)) × Int => gemotlaw15_blinds.b2 x0 x1 y6 y18 v51079 v51083 y76620 y76626 v79791 s81600.1 s81600.2) (v79787, (0 : Int))).bind (fun (o81599 : (List (List UInt8))) => gemotlaw15_blinds.k3 x0 x1 y6 y18 v51079 v51083 y76620 y76626 v79791 o81599)) (some (.inr v79787))
noncomputable def gemotlaw15_blinds.k5 (x0 : List UInt8) (x1 : List (List UInt8)) (y6 : (List (List UInt8))) (y18 : (List Int)) (v51083 : Int) (v76608 : List D_blind_Blind) : Option (((List D_blind_Blind) × Int) ⊕ (List D_blind_Blind)) := some (.inl (v76608, (IntKind.i64.wrap (v51083 + (1 : Int)))))
noncomputable def gemotlaw15_blinds.k6 (x0 : List UInt8) (x1 : List (List UInt8)) (y6 : (List (List UInt8))) (y18 : (List Int)) (v51079 : List D_blind_Blind) (v51083 : Int) (y76620 : (List UInt8) × Int) (v79153 : List (List UInt8)) : Option (((List D_blind_Blind) × Int) ⊕ (List D_blind_Blind)) := (blind_Root.f y76620.1 v79153).bind fun y81675 => (blind_Element.f y81675.1).bind fun y81681 => (idxL y6 v51083).bind fun y81687 => cond (!(strEq y81687 ([] : List UInt8))) ((idxL y6 v51083).bind fun y81694 => roomM 32 (v51079.length + 1) (gemotlaw15_blinds.k5 x0 x1 y6 y18 v51083 (v51079 ++ [(y81694, y81681.1)]))) (gemotlaw15_blinds.k5 x0 x1 y6 y18 v51083 v51079)
noncomputable def gemotlaw15_blinds.b7 (x0 : List UInt8) (x1 : List (List UInt8)) (y6 : (List (List UInt8))) (y18 : (List Int)) (v51079 : List D_blind_Blind) (v51083 : Int) : Option (((List D_blind_Blind) × Int) ⊕ (List D_blind_Blind)) := cond (decide (v51083 < (y6.length : Int))) ((idxL y6 v51083).bind fun y76614 => (place_At.f x0 y76614).bind fun y76620 => (tree_Members.f y76620.1).bind fun y76626 => (loopM (fun s81051 : (List (List UInt8)) × Int => gemotlaw15_blinds.b4 x0 x1 y6 y18 v51079 v51083 y76620 y76626 s81051.1 s81051.2) (([] : List (List UInt8)), (0 : Int))).bind (fun (o81049 : (List (List UInt8))) => gemotlaw15_blinds.k6 x0 x1 y6 y18 v51079 v51083 y76620 o81049)) (some (.inr v51079))
noncomputable def gemotlaw15_blinds.k8 (v40868 : List D_blind_Blind) : Option ((List D_blind_Blind)) := some v40868
noncomputable def gemotlaw15_blinds.f (x0 : List UInt8) (x1 : List (List UInt8)) : Option ((List D_blind_Blind)) := (place_Nodes.f x0).bind fun y6 => (tree_Members.f x0).bind fun y18 => (loopM (fun s71507 : (List D_blind_Blind) × Int => gemotlaw15_blinds.b7 x0 x1 y6 y18 s71507.1 s71507.2) (([] : List D_blind_Blind), (0 : Int))).bind (fun (o71505 : (List D_blind_Blind)) => gemotlaw15_blinds.k8 o71505)
set_option maxHeartbeats 4000000 in
theorem gemotlaw15_blinds_ok {ok : Nat → Prop} {w : World} {u1 : Value} {x0 : List UInt8} {x1 : List (List UInt8)} {r : (List D_blind_Blind)} (hu2 : slR tStr w ok u1 x1) (h : gemotlaw15_blinds.f x0 x1 = some r) :
    Calls Tryz.prog 34 #[.string (bs x0), u1] w fun e w' => ∃ v, e = .returned v ∧ (rowOut w w' ok t_blind_Blind 76 v r ∧ Bel w.heap.size w w') := by
  have H : Eng.Own ok w w [] := Eng.Own.nil ok w
  obtain ⟨A3, c4, rfl, H⟩ := H.arg rfl hu2
  unfold gemotlaw15_blinds.f at h
  refine enterN (args := [.string (bs x0), .slice A3 x1.length c4]) Tryz.func34 rfl Tryz.ntmps34 rfl rfl ?_
  refine nc_seq ?_
  refine nc ?_
  refine nc_seq ?_
  refine nc ?_
  refine nc_seq ?_
  refine nc ?_
  obtain ⟨y6, hy7, h⟩ := bindS h
  refine call_rule (by kernel_rfl) (place_Nodes_ok (ok := fun _ => False) hy7) fun u12 w8 ⟨hu13, hb11⟩ => ?_
  replace H := H.callDats hb11 [dSl tStr u12 y6] ⟨(slR_any hu13), trivial⟩
  obtain ⟨A14, c15, hA16, _⟩ := H.sl 0 rfl
  subst hA16
  refine nc_seq ?_
  refine nc ?_
  obtain ⟨y18, hy19, h⟩ := bindS h
  refine call_rule (by kernel_rfl) (tree_Members_ok (ok := fun _ => False) hy19) fun u24 w20 ⟨hu25, hb23⟩ => ?_
  replace H := H.callDats hb23 [dSl (tInt .i64) u24 y18] ⟨(slR_any hu25), trivial⟩
  obtain ⟨A26, c27, hA28, _⟩ := H.sl 0 rfl
  subst hA28
  refine nc_cut (fun e w40872 => ∃ (A40869 : Option Addr) (c40870 : Nat) (cs40871 : List Value) (v40868 : List D_blind_Blind), gemotlaw15_blinds.k8 v40868 = some r ∧ e = [(5, .slice A40869 v40868.length c40870)] ∧ Eng.Own ok w w40872 [.dat (dRows t_blind_Blind v40868 cs40871), .row (.slice A40869 v40868.length c40870) 76 2 v40868.length cs40871]) ?_ ?_
  · skip
    refine nc_seq ?_
    refine nc ?_
    refine nc_block ?_
    replace H := H.nilRowD t_blind_Blind 76
    obtain ⟨o71497, hL71498, hO71499⟩ := bindS h
    obtain ⟨n71500, hL71498⟩ := loopS hL71498
    refine nc ?_
    refine loop_ruleA (fun k e w71504 => ∃ (A51080 : Option Addr) (c51081 : Nat) (cs51082 : List Value) (v51079 : List D_blind_Blind) (v51083 : Int), iterM (fun s71507 : (List D_blind_Blind) × Int => gemotlaw15_blinds.b7 x0 x1 y6 y18 s71507.1 s71507.2) k (v51079, v51083) = some o71497 ∧ e = [(0, .string (bs x0)), (1, .slice A3 x1.length c4), (5, .slice A51080 v51079.length c51081), (6, .slice A14 y6.length c15), (7, .slice A26 y18.length c27), (8, .int .i64 v51083)] ∧ Eng.Own ok w w71504 [.dat (dSl tStr (.slice A3 x1.length c4) x1), .dat (dRows t_blind_Blind v51079 cs51082), .row (.slice A51080 v51079.length c51081) 76 2 v51079.length cs51082, .dat (dSl tStr (.slice A14 y6.length c15) y6), .dat (dSl (tInt .i64) (.slice A26 y18.length c27) y18)]) ⟨none, 0, [], _, _, hL71498, rfl, H.pickL [4, 0, 1, 3, 2] rfl⟩ ?_
    rintro k71509 _ w71508 ⟨A51080, c51081, cs51082, v51079, v51083, hL71498, rfl, H⟩
    obtain ⟨k71503, rfl, q71501, h, hq71502⟩ := iterS hL71498
    replace h : gemotlaw15_blinds.b7 x0 x1 y6 y18 v51079 v51083 = some q71501 := h
    unfold gemotlaw15_blinds.b7 at h
    refine nc_seq ?_
    refine nc_seq ?_
    refine nc ?_
    refine nc_cond rfl (fun hc71510 => ?_) (fun hc71510 => ?_)
    · replace h := condT hc71510 h
      refine nc ?_
      refine nc_cut (fun e w76612 => ∃ (A76609 : Option Addr) (c76610 : Nat) (cs76611 : List Value) (v76608 : List D_blind_Blind), gemotlaw15_blinds.k5 x0 x1 y6 y18 v51083 v76608 = some q71501 ∧ e = [(0, .string (bs x0)), (1, .slice A3 x1.length c4), (5, .slice A76609 v76608.length c76610), (6, .slice A14 y6.length c15), (7, .slice A26 y18.length c27), (8, .int .i64 v51083)] ∧ Eng.Own ok w w76612 [.dat (dSl tStr (.slice A3 x1.length c4) x1), .dat (dRows t_blind_Blind v76608 cs76611), .row (.slice A76609 v76608.length c76610) 76 2 v76608.length cs76611, .dat (dSl tStr (.slice A14 y6.length c15) y6), .dat (dSl (tInt .i64) (.slice A26 y18.length c27) y18)]) ?_ ?_
      · skip
        refine nc_block ?_
        refine nc_seq ?_
        refine nc ?_
        obtain ⟨y76614, hx76615, h⟩ := bindS h
        obtain ⟨a76616, cs76617, rfl, hR76618, H⟩ := H.elemI 3 rfl hx76615
        obtain rfl : cs76617 = [.string (bs y76614)] := hR76618
        refine idxA_rule (e := 9) 1 _ (by kernel_rfl) (by kernel_rfl) (idxL_some hx76615).1 (idxL_some hx76615).2.1 ?_
        refine own_loadD H 0 rfl 0 (by kernel_rfl) rfl ?_
        obtain ⟨y76620, hy76621, h⟩ := bindS h
        refine call_rule (by kernel_rfl) (place_At_ok hy76621) fun v76623 w76622 ⟨hv76624, hb76625⟩ => ?_
        subst hv76624
        replace H := H.call hb76625
        refine nc_seq ?_
        refine nc ?_
        refine nc_seq ?_
        refine nc ?_
        obtain ⟨y76626, hy76627, h⟩ := bindS h
        refine call_rule (by kernel_rfl) (tree_Members_ok (ok := fun _ => False) hy76627) fun u76632 w76628 ⟨hu76633, hb76631⟩ => ?_
        replace H := H.callDats hb76631 [dSl (tInt .i64) u76632 y76626] ⟨(slR_any hu76633), trivial⟩
        obtain ⟨A76634, c76635, hA76636, _⟩ := H.sl 0 rfl
        subst hA76636
        refine nc_cut (fun e w79157 => ∃ (A79154 : Option Addr) (c79155 : Nat) (cs79156 : List Value) (v79153 : List (List UInt8)), gemotlaw15_blinds.k6 x0 x1 y6 y18 v51079 v51083 y76620 v79153 = some q71501 ∧ e = [(0, .string (bs x0)), (1, .slice A3 x1.length c4), (5, .slice A51080 v51079.length c51081), (6, .slice (some a76616) y6.length c15), (7, .slice A26 y18.length c27), (8, .int .i64 v51083), (9, .string (bs y76620.1)), (11, .slice A79154 v79153.length c79155)] ∧ Eng.Own ok w w79157 [.dat (dSl tStr (.slice A3 x1.length c4) x1), .dat (dRows t_blind_Blind v51079 cs51082), .row (.slice A51080 v51079.length c51081) 76 2 v51079.length cs51082, .dat (dSl tStr (.slice (some a76616) y6.length c15) y6), .dat (dSl (tInt .i64) (.slice A26 y18.length c27) y18), .dat (dRows tStr v79153 cs79156), .row (.slice A79154 v79153.length c79155) 28 1 v79153.length cs79156]) ?_ ?_
        · skip
          refine nc_seq ?_
          refine nc ?_
          refine nc_block ?_
          replace H := H.nilRowD tStr 28
          obtain ⟨o81041, hL81042, hO81043⟩ := bindS h
          obtain ⟨n81044, hL81042⟩ := loopS hL81042
          refine nc ?_
          refine loop_ruleA (fun k e w81048 => ∃ (A79788 : Option Addr) (c79789 : Nat) (cs79790 : List Value) (v79787 : List (List UInt8)) (v79791 : Int), iterM (fun s81051 : (List (List UInt8)) × Int => gemotlaw15_blinds.b4 x0 x1 y6 y18 v51079 v51083 y76620 y76626 s81051.1 s81051.2) k (v79787, v79791) = some o81041 ∧ e = [(0, .string (bs x0)), (1, .slice A3 x1.length c4), (5, .slice A51080 v51079.length c51081), (6, .slice (some a76616) y6.length c15), (7, .slice A26 y18.length c27), (8, .int .i64 v51083), (9, .string (bs y76620.1)), (11, .slice A79788 v79787.length c79789), (12, .slice A76634 y76626.length c76635), (13, .int .i64 v79791)] ∧ Eng.Own ok w w81048 [.dat (dSl tStr (.slice A3 x1.length c4) x1), .dat (dRows t_blind_Blind v51079 cs51082), .row (.slice A51080 v51079.length c51081) 76 2 v51079.length cs51082, .dat (dSl tStr (.slice (some a76616) y6.length c15) y6), .dat (dSl (tInt .i64) (.slice A26 y18.length c27) y18), .dat (dRows tStr v79787 cs79790), .row (.slice A79788 v79787.length c79789) 28 1 v79787.length cs79790, .dat (dSl (tInt .i64) (.slice A76634 y76626.length c76635) y76626)]) ⟨none, 0, [], _, _, hL81042, rfl, H.pickL [4, 5, 6, 7, 8, 0, 1, 2] rfl⟩ ?_
          rintro k81053 _ w81052 ⟨A79788, c79789, cs79790, v79787, v79791, hL81042, rfl, H⟩
          obtain ⟨k81047, rfl, q81045, h, hq81046⟩ := iterS hL81042
          replace h : gemotlaw15_blinds.b4 x0 x1 y6 y18 v51079 v51083 y76620 y76626 v79787 v79791 = some q81045 := h
          unfold gemotlaw15_blinds.b4 at h
          refine nc_seq ?_
          refine nc_seq ?_
          refine nc ?_
          refine nc_cond rfl (fun hc81054 => ?_) (fun hc81054 => ?_)
          · replace h := condT hc81054 h
            refine nc ?_
            refine nc_cut (fun e w81365 => ∃ (A81362 : Option Addr) (c81363 : Nat) (cs81364 : List Value) (v81361 : List (List UInt8)), gemotlaw15_blinds.k3 x0 x1 y6 y18 v51079 v51083 y76620 y76626 v79791 v81361 = some q81045 ∧ e = [(0, .string (bs x0)), (1, .slice A3 x1.length c4), (5, .slice A51080 v51079.length c51081), (6, .slice (some a76616) y6.length c15), (7, .slice A26 y18.length c27), (8, .int .i64 v51083), (9, .string (bs y76620.1)), (11, .slice A81362 v81361.length c81363), (12, .slice A76634 y76626.length c76635), (13, .int .i64 v79791)] ∧ Eng.Own ok w w81365 [.dat (dSl tStr (.slice A3 x1.length c4) x1), .dat (dRows t_blind_Blind v51079 cs51082), .row (.slice A51080 v51079.length c51081) 76 2 v51079.length cs51082, .dat (dSl tStr (.slice (some a76616) y6.length c15) y6), .dat (dSl (tInt .i64) (.slice A26 y18.length c27) y18), .dat (dRows tStr v81361 cs81364), .row (.slice A81362 v81361.length c81363) 28 1 v81361.length cs81364, .dat (dSl (tInt .i64) (.slice A76634 y76626.length c76635) y76626)]) ?_ ?_
            · skip
              refine nc_block ?_
              refine nc_seq ?_
              refine nc ?_
              refine nc_block ?_
              obtain ⟨o81591, hL81592, hO81593⟩ := bindS h
              obtain ⟨n81594, hL81592⟩ := loopS hL81592
              refine nc ?_
              refine loop_ruleA (fun k e w81598 => ∃ (A81438 : Option Addr) (c81439 : Nat) (cs81440 : List Value) (v81437 : List (List UInt8)) (v81441 : Int), iterM (fun s81600 : (List (List UInt8)) × Int => gemotlaw15_blinds.b2 x0 x1 y6 y18 v51079 v51083 y76620 y76626 v79791 s81600.1 s81600.2) k (v81437, v81441) = some o81591 ∧ e = [(0, .string (bs x0)), (1, .slice A3 x1.length c4), (5, .slice A51080 v51079.length c51081), (6, .slice (some a76616) y6.length c15), (7, .slice A26 y18.length c27), (8, .int .i64 v51083), (9, .string (bs y76620.1)), (11, .slice A81438 v81437.length c81439), (12, .slice A76634 y76626.length c76635), (13, .int .i64 v79791), (14, .int .i64 v81441)] ∧ Eng.Own ok w w81598 [.dat (dSl tStr (.slice A3 x1.length c4) x1), .dat (dRows t_blind_Blind v51079 cs51082), .row (.slice A51080 v51079.length c51081) 76 2 v51079.length cs51082, .dat (dSl tStr (.slice (some a76616) y6.length c15) y6), .dat (dSl (tInt .i64) (.slice A26 y18.length c27) y18), .dat (dRows tStr v81437 cs81440), .row (.slice A81438 v81437.length c81439) 28 1 v81437.length cs81440, .dat (dSl (tInt .i64) (.slice A76634 y76626.length c76635) y76626)]) ⟨A79788, c79789, cs79790, _, _, hL81592, rfl, H.pickL [0, 1, 2, 3, 4, 5, 6, 7] rfl⟩ ?_
              rintro k81602 _ w81601 ⟨A81438, c81439, cs81440, v81437, v81441, hL81592, rfl, H⟩
              obtain ⟨k81597, rfl, q81595, h, hq81596⟩ := iterS hL81592
              replace h : gemotlaw15_blinds.b2 x0 x1 y6 y18 v51079 v51083 y76620 y76626 v79791 v81437 v81441 = some q81595 := h
              unfold gemotlaw15_blinds.b2 at h
              refine nc_seq ?_
              refine nc_seq ?_
              refine nc ?_
              refine nc_cond rfl (fun hc81603 => ?_) (fun hc81603 => ?_)
              · replace h := condT hc81603 h
                refine nc ?_
                refine nc_cut (fun e w81639 => ∃ (A81636 : Option Addr) (c81637 : Nat) (cs81638 : List Value) (v81635 : List (List UInt8)), gemotlaw15_blinds.k1 x0 x1 y6 y18 v51079 v51083 y76620 y76626 v79791 v81441 v81635 = some q81595 ∧ e = [(0, .string (bs x0)), (1, .slice A3 x1.length c4), (5, .slice A51080 v51079.length c51081), (6, .slice (some a76616) y6.length c15), (7, .slice A26 y18.length c27), (8, .int .i64 v51083), (9, .string (bs y76620.1)), (11, .slice A81636 v81635.length c81637), (12, .slice A76634 y76626.length c76635), (13, .int .i64 v79791), (14, .int .i64 v81441)] ∧ Eng.Own ok w w81639 [.dat (dSl tStr (.slice A3 x1.length c4) x1), .dat (dRows t_blind_Blind v51079 cs51082), .row (.slice A51080 v51079.length c51081) 76 2 v51079.length cs51082, .dat (dSl tStr (.slice (some a76616) y6.length c15) y6), .dat (dSl (tInt .i64) (.slice A26 y18.length c27) y18), .dat (dRows tStr v81635 cs81638), .row (.slice A81636 v81635.length c81637) 28 1 v81635.length cs81638, .dat (dSl (tInt .i64) (.slice A76634 y76626.length c76635) y76626)]) ?_ ?_
                · skip
                  refine nc_block ?_
                  refine nc_seq ?_
                  obtain ⟨y81641, hx81642, h⟩ := bindS h
                  obtain ⟨a81643, cs81644, rfl, hR81645, H⟩ := H.elemI 7 rfl hx81642
                  obtain rfl : cs81644 = [.int .i64 y81641] := hR81645
                  obtain ⟨y81647, hx81648, h⟩ := bindS h
                  obtain ⟨a81649, cs81650, rfl, hR81651, H⟩ := H.elemI 5 rfl hx81648
                  obtain rfl : cs81650 = [.int .i64 y81647] := hR81651
                  refine nc ?_
                  refine draw_rule [] (by kernel_rfl) (by kernel_rfl) H ?_
                  refine c_idxA (e := 3) 1 _ (by kernel_rfl) (by kernel_rfl) (idxL_some hx81642).1 (idxL_some hx81642).2.1 ?_
                  refine c_loadD 1 rfl 0 (by kernel_rfl) rfl ?_
                  refine c_idxA (e := 3) 1 _ (by kernel_rfl) (by kernel_rfl) (idxL_some hx81648).1 (idxL_some hx81648).2.1 ?_
                  refine c_loadD 0 rfl 0 (by kernel_rfl) rfl ?_
                  intro w81653 H
                  refine nc_cond rfl (fun hc81654 => ?_) (fun hc81654 => ?_)
                  · replace h := condT hc81654 h
                    refine nc ?_
                    obtain ⟨y81655, hx81656, h⟩ := bindS h
                    obtain ⟨a81657, cs81658, rfl, hR81659, H⟩ := H.elemI 2 rfl hx81656
                    obtain rfl : cs81658 = [.string (bs y81655)] := hR81659
                    refine idxA_rule (e := 28) 1 _ (by kernel_rfl) (by kernel_rfl) (idxL_some hx81656).1 (idxL_some hx81656).2.1 ?_
                    refine own_loadD H 0 rfl 0 (by kernel_rfl) rfl ?_
                    refine own_buildSlice (e := 28) (sz := 1) (z := .string ⟨#[]⟩) (cs := [.string (bs y81655)]) H (by kernel_rfl) (by kernel_rfl) (by kernel_rfl) rfl rfl rfl rfl fun g81662 w81663 H => ?_
                    obtain ⟨hr81664, h⟩ := roomS h
                    refine own_append1 (k := tStr) (z := .string ⟨#[]⟩) (x := y81655) 16 H 9 8 rfl rfl rfl rfl (by kernel_rfl) (by kernel_rfl) rfl rfl hr81664 rfl fun z81665 cs81666 w81667 H => ?_
                    obtain ⟨A81668, c81669, rfl, _, _⟩ := H.rowSl 9 rfl
                    exact cut_inA ⟨A81668, c81669, cs81666, _, h, rfl, H.pickL [3, 4, 5, 6, 7, 8, 9, 10] rfl⟩
                  · replace h := condF hc81654 h
                    refine nc ?_
                    exact cut_inA ⟨A81438, c81439, cs81440, _, h, rfl, H.pickL [2, 3, 4, 5, 6, 7, 8, 9] rfl⟩
                · rintro _ w81671 ⟨A81636, c81637, cs81638, v81635, h, rfl, H⟩
                  unfold gemotlaw15_blinds.k1 at h
                  refine nc ?_
                  cases h
                  exact again_inA ⟨A81636, c81637, cs81638, _, _, hq81596, rfl, H.pickL [0, 1, 2, 3, 4, 5, 6, 7] rfl⟩
              · replace h := condF hc81603 h
                refine nc ?_
                cases h
                replace hq81596 : v81437 = o81591 := hq81596
                subst hq81596
                have h := hO81593
                try dsimp only [Sum.elim_inl, Sum.elim_inr] at h
                exact cut_inA ⟨A81438, c81439, cs81440, _, h, rfl, H.pickL [0, 1, 2, 3, 4, 5, 6, 7] rfl⟩
            · rintro _ w81672 ⟨A81362, c81363, cs81364, v81361, h, rfl, H⟩
              unfold gemotlaw15_blinds.k3 at h
              refine nc ?_
              cases h
              exact again_inA ⟨A81362, c81363, cs81364, _, _, hq81046, rfl, H.pickL [0, 1, 2, 3, 4, 5, 6, 7] rfl⟩
          · replace h := condF hc81054 h
            refine nc ?_
            cases h
            replace hq81046 : v79787 = o81041 := hq81046
            subst hq81046
            have h := hO81043
            try dsimp only [Sum.elim_inl, Sum.elim_inr] at h
            exact cut_inA ⟨A79788, c79789, cs79790, _, h, rfl, H.pickL [0, 1, 2, 3, 4, 5, 6] rfl⟩
        · rintro _ w81673 ⟨A79154, c79155, cs79156, v79153, h, rfl, H⟩
          unfold gemotlaw15_blinds.k6 at h
          refine nc_seq ?_
          refine nc ?_
          replace H := H.freeze (k := tStr) 6 5 rfl rfl
          obtain ⟨y81675, hy81676, h⟩ := bindS h
          refine call_rule (by kernel_rfl) (blind_Root_ok (H.dat 6 rfl) hy81676) fun v81678 w81677 ⟨hv81679, hb81680⟩ => ?_
          subst hv81679
          replace H := H.call hb81680
          refine nc_seq ?_
          refine nc ?_
          obtain ⟨y81681, hy81682, h⟩ := bindS h
          refine call_rule (by kernel_rfl) (blind_Element_ok (ok := fun _ => False) hy81682) fun v81684 w81683 ⟨hv81685, hb81686⟩ => ?_
          subst hv81685
          replace H := H.call hb81686
          refine nc_seq ?_
          refine nc ?_
          obtain ⟨y81687, hx81688, h⟩ := bindS h
          obtain ⟨cs81690, hR81691, H⟩ := H.elemJ 3 rfl hx81688
          obtain rfl : cs81690 = [.string (bs y81687)] := hR81691
          refine idxA_rule (e := 9) 1 _ (by kernel_rfl) (by kernel_rfl) (idxL_some hx81688).1 (idxL_some hx81688).2.1 ?_
          refine own_loadD H 0 rfl 0 (by kernel_rfl) rfl ?_
          refine nc_cond rfl (fun hc81693 => ?_) (fun hc81693 => ?_)
          · replace h := condT hc81693 h
            refine nc ?_
            obtain ⟨y81694, hx81695, h⟩ := bindS h
            obtain ⟨cs81697, hR81698, H⟩ := H.elemJ 4 rfl hx81695
            obtain rfl : cs81697 = [.string (bs y81694)] := hR81698
            refine idxA_rule (e := 9) 1 _ (by kernel_rfl) (by kernel_rfl) (idxL_some hx81695).1 (idxL_some hx81695).2.1 ?_
            refine own_loadD H 0 rfl 0 (by kernel_rfl) rfl ?_
            refine own_buildSlice (e := 76) (sz := 2) (z := .agg #[.string ⟨#[]⟩, .string ⟨#[]⟩]) (cs := [.string (bs y81694), .string (bs y81681.1)]) H (by kernel_rfl) (by kernel_rfl) (by kernel_rfl) rfl rfl rfl rfl fun g81701 w81702 H => ?_
            obtain ⟨hr81703, h⟩ := roomS h
            refine own_append1 (k := t_blind_Blind) (z := .agg #[.string ⟨#[]⟩, .string ⟨#[]⟩]) (x := (y81694, y81681.1)) 32 H 4 3 rfl rfl rfl (blind_Blind_in (x := (y81694, y81681.1))) (by kernel_rfl) (by kernel_rfl) rfl rfl hr81703 rfl fun z81704 cs81705 w81706 H => ?_
            obtain ⟨A81707, c81708, rfl, _, _⟩ := H.rowSl 4 rfl
            exact cut_inA ⟨A81707, c81708, cs81705, _, h, rfl, H.pickL [2, 3, 4, 5, 6] rfl⟩
          · replace h := condF hc81693 h
            refine nc ?_
            exact cut_inA ⟨A51080, c51081, cs51082, _, h, rfl, H.pickL [1, 2, 3, 4, 5] rfl⟩
      · rintro _ w81710 ⟨A76609, c76610, cs76611, v76608, h, rfl, H⟩
        unfold gemotlaw15_blinds.k5 at h
        refine nc ?_
        cases h
        exact again_inA ⟨A76609, c76610, cs76611, _, _, hq71502, rfl, H.pickL [0, 1, 2, 3, 4] rfl⟩
    · replace h := condF hc71510 h
      refine nc ?_
      cases h
      replace hq71502 : v51079 = o71497 := hq71502
      subst hq71502
      have h := hO71499
      try dsimp only [Sum.elim_inl, Sum.elim_inr] at h
      exact cut_inA ⟨A51080, c51081, cs51082, _, h, rfl, H.pickL [1, 2] rfl⟩
  · rintro _ w81711 ⟨A40869, c40870, cs40871, v40868, h, rfl, H⟩
    unfold gemotlaw15_blinds.k8 at h
    refine nc_seq ?_
    refine nc ?_
    refine nc ?_
    replace h := Option.some.inj h
    subst h
    exact ret_inA [.slice A40869 v40868.length c40870] ⟨_, rfl, ⟨H.outR 1 0 rfl rfl rfl, H.frame⟩⟩
/-! gemot/gemotlaw15.BlindMeet -/
noncomputable def gemotlaw15_BlindMeet.k1 (y13 : (List UInt8)) (y19 : (List Int)) (y31 : (List (List UInt8))) (y43 : (List UInt8) × Int) (y49 : (List D_blind_Blind)) (v994 : Int) (v1530 : Bool) : Option (Int ⊕ (Unit ⊕ Bool)) := cond v1530 (some (.inr (Sum.inr false))) (some (.inl (IntKind.i64.wrap (v994 + (1 : Int)))))
noncomputable def gemotlaw15_BlindMeet.b2 (y13 : (List UInt8)) (y19 : (List Int)) (y31 : (List (List UInt8))) (y43 : (List UInt8) × Int) (y49 : (List D_blind_Blind)) (v994 : Int) : Option (Int ⊕ (Unit ⊕ Bool)) := cond (decide (v994 < (y19.length : Int))) ((idxL y19 v994).bind fun y1467 => (idxL y31 v994).bind fun y1473 => (blind_Climb.f y13 y1467 y1473 y49).bind fun y1479 => (idxL y19 v994).bind fun y1489 => (place_Path.f y13 y1489).bind fun y1495 => cond ((y1479.length : Int) != (y1495.length : Int)) (gemotlaw15_BlindMeet.k1 y13 y19 y31 y43 y49 v994 (cond (cond ((y1479.length : Int) != (y1495.length : Int)) true (!(strEq ([] : List UInt8) ([] : List UInt8)))) true (!(strEq ([] : List UInt8) y43.1)))) ((idxL y1479 (0 : Int)).bind fun y1535 => (idxL y31 v994).bind fun y1541 => cond (!(strEq y1535 y1541)) (gemotlaw15_BlindMeet.k1 y13 y19 y31 y43 y49 v994 (cond (cond ((y1479.length : Int) != (y1495.length : Int)) true (!(strEq y1535 y1541))) true (!(strEq ([] : List UInt8) y43.1)))) ((idxL y1479 (IntKind.i64.wrap ((y1479.length : Int) - (1 : Int)))).bind fun y1549 => gemotlaw15_BlindMeet.k1 y13 y19 y31 y43 y49 v994 (cond (cond ((y1479.length : Int) != (y1495.length : Int)) true (!(strEq y1535 y1541))) true (!(strEq y1549 y43.1)))))) (some (.inr (Sum.inl ())))
noncomputable def gemotlaw15_BlindMeet.k3 : Option (Bool) := some true
noncomputable def gemotlaw15_BlindMeet.f (x0 : List Int) (x1 : Int) : Option (Bool) := (gemotlaw15_shown.f).bind fun y6 => cond (!y6) (some false) ((gemotlaw15_made.f x0).bind fun y13 => (tree_Members.f y13).bind fun y19 => (gemotlaw15_secrets.f (y19.length : Int) x1).bind fun y31 => (blind_Root.f y13 y31).bind fun y43 => (gemotlaw15_blinds.f y13 y31).bind fun y49 => cond (cond (y43.2 != (0 : Int)) true ((y49.length : Int) != (IntKind.i64.wrap ((IntKind.i64.wrap ((2 : Int) * (y19.length : Int))) - (2 : Int))))) (some false) ((loopM (fun s1372 : Int => gemotlaw15_BlindMeet.b2 y13 y19 y31 y43 y49 s1372) (0 : Int)).bind (Sum.elim (fun (o1370 : Unit) => gemotlaw15_BlindMeet.k3) (fun (o1371 : Bool) => some o1371))))
set_option maxHeartbeats 4000000 in
theorem gemotlaw15_BlindMeet_ok {ok : Nat → Prop} {w : World} {u1 : Value} {x0 : List Int} {x1 : Int} {r : Bool} (hu2 : slR (tInt .i64) w ok u1 x0) (h : gemotlaw15_BlindMeet.f x0 x1 = some r) :
    Calls Tryz.prog 9 #[u1, .int .u64 x1] w fun e w' => ∃ v, e = .returned v ∧ (v = .bool r ∧ Bel w.heap.size w w') := by
  have H : Eng.Own ok w w [] := Eng.Own.nil ok w
  obtain ⟨A3, c4, rfl, H⟩ := H.arg rfl hu2
  unfold gemotlaw15_BlindMeet.f at h
  refine enterN (args := [.slice A3 x0.length c4, .int .u64 x1]) Tryz.func9 rfl Tryz.ntmps9 rfl rfl ?_
  refine nc_seq ?_
  refine nc ?_
  refine nc_seq ?_
  refine nc ?_
  obtain ⟨y6, hy7, h⟩ := bindS h
  refine call_rule (by kernel_rfl) (gemotlaw15_shown_ok (ok := fun _ => False) hy7) fun v9 w8 ⟨hv10, hb11⟩ => ?_
  subst hv10
  replace H := H.call hb11
  refine nc_seq ?_
  refine nc_seq ?_
  refine nc ?_
  refine nc_cond rfl (fun hc12 => ?_) (fun hc12 => ?_)
  · replace h := condT hc12 h
    refine nc_seq ?_
    refine nc ?_
    refine nc ?_
    replace h := Option.some.inj h
    subst h
    exact ret_inA [.bool false] ⟨_, rfl, ⟨rfl, H.frame⟩⟩
  · replace h := condF hc12 h
    refine nc ?_
    refine nc_seq ?_
    refine nc ?_
    obtain ⟨y13, hy14, h⟩ := bindS h
    refine call_rule (by kernel_rfl) (gemotlaw15_made_ok (H.dat 0 rfl) hy14) fun v16 w15 ⟨hv17, hb18⟩ => ?_
    subst hv17
    replace H := H.call hb18
    refine nc_seq ?_
    refine nc ?_
    obtain ⟨y19, hy20, h⟩ := bindS h
    refine call_rule (by kernel_rfl) (tree_Members_ok (ok := fun _ => False) hy20) fun u25 w21 ⟨hu26, hb24⟩ => ?_
    replace H := H.callDats hb24 [dSl (tInt .i64) u25 y19] ⟨(slR_any hu26), trivial⟩
    obtain ⟨A27, c28, hA29, _⟩ := H.sl 0 rfl
    subst hA29
    refine nc_seq ?_
    refine nc ?_
    obtain ⟨y31, hy32, h⟩ := bindS h
    refine call_rule (by kernel_rfl) (gemotlaw15_secrets_ok (ok := fun _ => False) hy32) fun u37 w33 ⟨hu38, hb36⟩ => ?_
    replace H := H.callDats hb36 [dSl tStr u37 y31] ⟨(rowOut_sl (rowOut_any hu38) hb36), trivial⟩
    obtain ⟨A39, c40, hA41, _⟩ := H.sl 0 rfl
    subst hA41
    refine nc_seq ?_
    refine nc ?_
    obtain ⟨y43, hy44, h⟩ := bindS h
    refine call_rule (by kernel_rfl) (blind_Root_ok (H.dat 0 rfl) hy44) fun v46 w45 ⟨hv47, hb48⟩ => ?_
    subst hv47
    replace H := H.call hb48
    refine nc_seq ?_
    refine nc ?_
    obtain ⟨y49, hy50, h⟩ := bindS h
    refine call_rule (by kernel_rfl) (gemotlaw15_blinds_ok (H.dat 0 rfl) hy50) fun u55 w51 ⟨hu56, hb54⟩ => ?_
    replace H := H.callDats hb54 [dSl t_blind_Blind u55 y49] ⟨(rowOut_sl hu56 hb54), trivial⟩
    obtain ⟨A57, c58, hA59, _⟩ := H.sl 0 rfl
    subst hA59
    refine nc_seq ?_
    refine nc_seq ?_
    refine nc ?_
    refine nc_cond rfl (fun hc61 => ?_) (fun hc61 => ?_)
    · replace h := condT hc61 h
      refine nc_seq ?_
      refine nc ?_
      refine nc ?_
      replace h := Option.some.inj h
      subst h
      exact ret_inA [.bool false] ⟨_, rfl, ⟨rfl, H.frame⟩⟩
    · replace h := condF hc61 h
      refine nc ?_
      refine nc_cut (fun e w809 => gemotlaw15_BlindMeet.k3 = some r ∧ e = [] ∧ Eng.Own ok w w809 []) ?_ ?_
      · skip
        refine nc_seq ?_
        refine nc ?_
        refine nc_block ?_
        obtain ⟨o1362, hL1363, hO1364⟩ := bindS h
        obtain ⟨n1365, hL1363⟩ := loopS hL1363
        refine nc ?_
        refine loop_ruleA (fun k e w1369 => ∃ (v994 : Int), iterM (fun s1372 : Int => gemotlaw15_BlindMeet.b2 y13 y19 y31 y43 y49 s1372) k v994 = some o1362 ∧ e = [(6, .string (bs y13)), (7, .slice A27 y19.length c28), (8, .slice A39 y31.length c40), (9, .string (bs y43.1)), (11, .slice A57 y49.length c58), (12, .int .i64 v994)] ∧ Eng.Own ok w w1369 [.dat (dSl (tInt .i64) (.slice A27 y19.length c28) y19), .dat (dSl tStr (.slice A39 y31.length c40) y31), .dat (dSl t_blind_Blind (.slice A57 y49.length c58) y49)]) ⟨_, hL1363, rfl, H.pickL [2, 1, 0] rfl⟩ ?_
        rintro k1374 _ w1373 ⟨v994, hL1363, rfl, H⟩
        obtain ⟨k1368, rfl, q1366, h, hq1367⟩ := iterS hL1363
        replace h : gemotlaw15_BlindMeet.b2 y13 y19 y31 y43 y49 v994 = some q1366 := h
        unfold gemotlaw15_BlindMeet.b2 at h
        refine nc_seq ?_
        refine nc_seq ?_
        refine nc ?_
        refine nc_cond rfl (fun hc1375 => ?_) (fun hc1375 => ?_)
        · replace h := condT hc1375 h
          refine nc ?_
          refine nc_seq ?_
          refine nc_block ?_
          refine nc_seq ?_
          obtain ⟨y1467, hx1468, h⟩ := bindS h
          obtain ⟨a1469, cs1470, rfl, hR1471, H⟩ := H.elemI 0 rfl hx1468
          obtain rfl : cs1470 = [.int .i64 y1467] := hR1471
          obtain ⟨y1473, hx1474, h⟩ := bindS h
          obtain ⟨a1475, cs1476, rfl, hR1477, H⟩ := H.elemI 2 rfl hx1474
          obtain rfl : cs1476 = [.string (bs y1473)] := hR1477
          obtain ⟨y1479, hy1480, h⟩ := bindS h
          refine nc ?_
          refine draw_rule [] (by kernel_rfl) (by kernel_rfl) H ?_
          refine c_idxA (e := 3) 1 _ (by kernel_rfl) (by kernel_rfl) (idxL_some hx1468).1 (idxL_some hx1468).2.1 ?_
          refine c_loadD 1 rfl 0 (by kernel_rfl) rfl ?_
          refine c_idxA (e := 28) 1 _ (by kernel_rfl) (by kernel_rfl) (idxL_some hx1474).1 (idxL_some hx1474).2.1 ?_
          refine c_loadD 0 rfl 0 (by kernel_rfl) rfl ?_
          refine c_callS rfl (by kernel_rfl) (fun _ H => blind_Climb_ok (H.dat 4 rfl) hy1480) ?_
          intro A1485 c1486
          intro w1488 H
          refine nc_seq ?_
          refine nc ?_
          obtain ⟨y1489, hx1490, h⟩ := bindS h
          obtain ⟨cs1492, hR1493, H⟩ := H.elemJ 3 rfl hx1490
          obtain rfl : cs1492 = [.int .i64 y1489] := hR1493
          refine idxA_rule (e := 3) 1 _ (by kernel_rfl) (by kernel_rfl) (idxL_some hx1490).1 (idxL_some hx1490).2.1 ?_
          refine own_loadD H 0 rfl 0 (by kernel_rfl) rfl ?_
          obtain ⟨y1495, hy1496, h⟩ := bindS h
          refine call_rule (by kernel_rfl) (place_Path_ok (ok := fun _ => False) hy1496) fun u1501 w1497 ⟨hu1502, hb1500⟩ => ?_
          replace H := H.callDats hb1500 [dSl tStr u1501 y1495] ⟨(slR_any hu1502), trivial⟩
          obtain ⟨A1503, c1504, hA1505, _⟩ := H.sl 0 rfl
          subst hA1505
          refine nc_cut (fun e w1531 => ∃ (v1530 : Bool), gemotlaw15_BlindMeet.k1 y13 y19 y31 y43 y49 v994 v1530 = some q1366 ∧ e = [(6, .string (bs y13)), (7, .slice (some a1469) y19.length c28), (8, .slice (some a1475) y31.length c40), (9, .string (bs y43.1)), (11, .slice A57 y49.length c58), (12, .int .i64 v994), (93, .bool v1530)] ∧ Eng.Own ok w w1531 [.dat (dSl (tInt .i64) (.slice (some a1469) y19.length c28) y19), .dat (dSl tStr (.slice (some a1475) y31.length c40) y31), .dat (dSl t_blind_Blind (.slice A57 y49.length c58) y49)]) ?_ ?_
          · skip
            rcases Bool.eq_false_or_eq_true ((y1479.length : Int) != (y1495.length : Int)) with hg1533 | hg1533
            · replace h := condT hg1533 h
              refine nc ?_
              refine draw_rule [] (by kernel_rfl) (by kernel_rfl) H ?_
              refine c_skipIA (.pointer (some ⟨0, 0, none⟩)) (gF0 hg1533) ?_
              refine c_skipLD (.string (bs ([] : List UInt8))) (gF0 hg1533) ?_
              refine c_skipIA (.pointer (some ⟨0, 0, none⟩)) (gF0 hg1533) ?_
              refine c_skipLD (.string (bs ([] : List UInt8))) (gF0 hg1533) ?_
              refine c_skipIA (.pointer (some ⟨0, 0, none⟩)) (gF0 (pickT hg1533)) ?_
              refine c_skipLD (.string (bs ([] : List UInt8))) (gF0 (pickT hg1533)) ?_
              intro w1534 H
              exact cut_inA ⟨_, h, rfl, H.pickL [5, 6, 7] rfl⟩
            · replace h := condF hg1533 h
              obtain ⟨y1535, hx1536, h⟩ := bindS h
              obtain ⟨a1537, cs1538, rfl, hR1539, H⟩ := H.elemI 2 rfl hx1536
              obtain rfl : cs1538 = [.string (bs y1535)] := hR1539
              obtain ⟨y1541, hx1542, h⟩ := bindS h
              obtain ⟨cs1544, hR1545, H⟩ := H.elemJ 7 rfl hx1542
              obtain rfl : cs1544 = [.string (bs y1541)] := hR1545
              rcases Bool.eq_false_or_eq_true (!(strEq y1535 y1541)) with hg1547 | hg1547
              · replace h := condT hg1547 h
                refine nc ?_
                refine draw_rule [] (by kernel_rfl) (by kernel_rfl) H ?_
                refine c_idxA (e := 28) 1 _ (by kernel_rfl) (by kernel_rfl) (idxL_some hx1536).1 (idxL_some hx1536).2.1 ?_
                refine c_loadD 1 rfl 0 (by kernel_rfl) rfl ?_
                refine c_idxA (e := 28) 1 _ (by kernel_rfl) (by kernel_rfl) (idxL_some hx1542).1 (idxL_some hx1542).2.1 ?_
                refine c_loadD 0 rfl 0 (by kernel_rfl) rfl ?_
                refine c_skipIA (.pointer (some ⟨0, 0, none⟩)) (gF0 ((pickF hg1533).trans hg1547)) ?_
                refine c_skipLD (.string (bs ([] : List UInt8))) (gF0 ((pickF hg1533).trans hg1547)) ?_
                intro w1548 H
                exact cut_inA ⟨_, h, rfl, H.pickL [7, 8, 9] rfl⟩
              · replace h := condF hg1547 h
                obtain ⟨y1549, hx1550, h⟩ := bindS h
                obtain ⟨cs1552, hR1553, H⟩ := H.elemJ 4 rfl hx1550
                obtain rfl : cs1552 = [.string (bs y1549)] := hR1553
                refine nc ?_
                refine draw_rule [] (by kernel_rfl) (by kernel_rfl) H ?_
                refine c_idxA (e := 28) 1 _ (by kernel_rfl) (by kernel_rfl) (idxL_some hx1536).1 (idxL_some hx1536).2.1 ?_
                refine c_loadD 2 rfl 0 (by kernel_rfl) rfl ?_
                refine c_idxA (e := 28) 1 _ (by kernel_rfl) (by kernel_rfl) (idxL_some hx1542).1 (idxL_some hx1542).2.1 ?_
                refine c_loadD 1 rfl 0 (by kernel_rfl) rfl ?_
                refine c_idxA (e := 28) 1 _ (by kernel_rfl) (by kernel_rfl) (idxL_some hx1550).1 (idxL_some hx1550).2.1 ?_
                refine c_loadD 0 rfl 0 (by kernel_rfl) rfl ?_
                intro w1555 H
                exact cut_inA ⟨_, h, rfl, H.pickL [8, 9, 10] rfl⟩
          · rintro _ w1556 ⟨v1530, h, rfl, H⟩
            unfold gemotlaw15_BlindMeet.k1 at h
            refine nc_cond rfl (fun hc1557 => ?_) (fun hc1557 => ?_)
            · replace h := condT hc1557 h
              refine nc_seq ?_
              refine nc ?_
              refine nc ?_
              cases h
              replace hq1367 : (Sum.inr false) = o1362 := hq1367
              subst hq1367
              have h := hO1364
              try dsimp only [Sum.elim_inl, Sum.elim_inr] at h
              replace h := Option.some.inj h
              subst h
              exact ret_inA [.bool false] ⟨_, rfl, ⟨rfl, H.frame⟩⟩
            · replace h := condF hc1557 h
              refine nc ?_
              refine nc ?_
              cases h
              exact again_inA ⟨_, hq1367, rfl, H.pickL [0, 1, 2] rfl⟩
        · replace h := condF hc1375 h
          refine nc ?_
          cases h
          replace hq1367 : (Sum.inl ()) = o1362 := hq1367
          subst hq1367
          have h := hO1364
          try dsimp only [Sum.elim_inl, Sum.elim_inr] at h
          exact cut_inA ⟨h, rfl, H.pickL [] rfl⟩
      · rintro _ w1558 ⟨h, rfl, H⟩
        unfold gemotlaw15_BlindMeet.k3 at h
        refine nc_seq ?_
        refine nc ?_
        refine nc ?_
        replace h := Option.some.inj h
        subst h
        exact ret_inA [.bool true] ⟨_, rfl, ⟨rfl, H.frame⟩⟩
end Go.Proofs.YtfapphlhkfddoaaGreatDoor.G
