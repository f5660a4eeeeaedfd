/- Walks, printed by a program of this proof's own. -/
import Derived.Test.YtgomlcfoifkdiaaGTypes
import Derived.KernelRfl
namespace Go.Proofs.Ytgomlcfoifkdiaa.G
open Go.RowKit Go.Eng Go.Proofs
set_option linter.unusedVariables false
set_option maxRecDepth 20000
/-! gemot/gemotlaw11.texts -/
noncomputable def gemotlaw11_texts.b1 (x0 : List (List UInt8)) (v131 : List (List UInt8)) (v135 : Int) : Option (((List (List UInt8)) × Int) ⊕ (List (List UInt8))) := cond (decide (v135 < (x0.length : Int))) ((idxL x0 v135).bind fun y195 => roomM 16 (v131.length + 1) (some (.inl ((v131 ++ [y195]), (IntKind.i64.wrap (v135 + (1 : Int))))))) (some (.inr v131))
noncomputable def gemotlaw11_texts.k2 (v106 : List (List UInt8)) : Option ((List (List UInt8))) := some v106
noncomputable def gemotlaw11_texts.f (x0 : List (List UInt8)) : Option ((List (List UInt8))) := (loopM (fun s191 : (List (List UInt8)) × Int => gemotlaw11_texts.b1 x0 s191.1 s191.2) (([] : List (List UInt8)), (0 : Int))).bind (fun (o189 : (List (List UInt8))) => gemotlaw11_texts.k2 o189)
set_option maxHeartbeats 4000000 in
theorem gemotlaw11_texts_ok {ok : Nat → Prop} {w : World} {u1 : Value} {x0 : List (List UInt8)} {r : (List (List UInt8))} (hu2 : slR tStr w ok u1 x0) (h : gemotlaw11_texts.f x0 = some r) :
    Calls Try.prog 18 #[u1] w fun e w' => ∃ v, e = .returned v ∧ (rowOut w w' ok tStr 9 v r ∧ Bel w.heap.size w w') := by
  have H : Eng.Own ok w w [] := Eng.Own.nil ok w
  obtain ⟨A3, c4, rfl, H⟩ := H.arg rfl hu2
  unfold gemotlaw11_texts.f at h
  refine enterN (args := [.slice A3 x0.length c4]) Try.func18 rfl Try.ntmps18 rfl rfl ?_
  refine nc_seq ?_
  refine nc ?_
  refine nc_seq ?_
  refine nc ?_
  refine nc_cut (fun e w110 => ∃ (A107 : Option Addr) (c108 : Nat) (cs109 : List Value) (v106 : List (List UInt8)), gemotlaw11_texts.k2 v106 = some r ∧ e = [(3, .slice A107 v106.length c108)] ∧ Eng.Own ok w w110 [.dat (dRows tStr v106 cs109), .row (.slice A107 v106.length c108) 9 1 v106.length cs109]) ?_ ?_
  · skip
    refine nc_seq ?_
    refine nc ?_
    refine nc_block ?_
    replace H := H.nilRowD tStr 9
    obtain ⟨o181, hL182, hO183⟩ := bindS h
    obtain ⟨n184, hL182⟩ := loopS hL182
    refine nc ?_
    refine loop_ruleA (fun k e w188 => ∃ (A132 : Option Addr) (c133 : Nat) (cs134 : List Value) (v131 : List (List UInt8)) (v135 : Int), iterM (fun s191 : (List (List UInt8)) × Int => gemotlaw11_texts.b1 x0 s191.1 s191.2) k (v131, v135) = some o181 ∧ e = [(0, .slice A3 x0.length c4), (3, .slice A132 v131.length c133), (4, .int .i64 v135)] ∧ Eng.Own ok w w188 [.dat (dSl tStr (.slice A3 x0.length c4) x0), .dat (dRows tStr v131 cs134), .row (.slice A132 v131.length c133) 9 1 v131.length cs134]) ⟨none, 0, [], _, _, hL182, rfl, H.pickL [2, 0, 1] rfl⟩ ?_
    rintro k193 _ w192 ⟨A132, c133, cs134, v131, v135, hL182, rfl, H⟩
    obtain ⟨k187, rfl, q185, h, hq186⟩ := iterS hL182
    replace h : gemotlaw11_texts.b1 x0 v131 v135 = some q185 := h
    unfold gemotlaw11_texts.b1 at h
    refine nc_seq ?_
    refine nc_seq ?_
    refine nc ?_
    refine nc_cond rfl (fun hc194 => ?_) (fun hc194 => ?_)
    · replace h := condT hc194 h
      refine nc ?_
      refine nc_seq ?_
      refine nc_block ?_
      refine nc ?_
      obtain ⟨y195, hx196, h⟩ := bindS h
      obtain ⟨a197, cs198, rfl, hR199, H⟩ := H.elemI 0 rfl hx196
      obtain rfl : cs198 = [.string (bs y195)] := hR199
      refine idxA_rule (e := 62) 1 _ (by kernel_rfl) (by kernel_rfl) (idxL_some hx196).1 (idxL_some hx196).2.1 ?_
      refine own_loadD H 0 rfl 0 (by kernel_rfl) rfl ?_
      refine own_buildSlice (e := 9) (sz := 1) (z := .string ⟨#[]⟩) (cs := [.string (bs y195)]) H (by kernel_rfl) (by kernel_rfl) (by kernel_rfl) rfl rfl rfl rfl fun g202 w203 H => ?_
      obtain ⟨hr204, h⟩ := roomS h
      refine own_append1 (k := tStr) (z := .string ⟨#[]⟩) (x := y195) 16 H 3 2 rfl rfl rfl rfl (by kernel_rfl) (by kernel_rfl) rfl rfl hr204 rfl fun z205 cs206 w207 H => ?_
      obtain ⟨A208, c209, rfl, _, _⟩ := H.rowSl 3 rfl
      refine nc ?_
      cases h
      exact again_inA ⟨A208, c209, cs206, _, _, hq186, rfl, H.pickL [1, 2, 3] rfl⟩
    · replace h := condF hc194 h
      refine nc ?_
      cases h
      replace hq186 : v131 = o181 := hq186
      subst hq186
      have h := hO183
      try dsimp only [Sum.elim_inl, Sum.elim_inr] at h
      exact cut_inA ⟨A132, c133, cs134, _, h, rfl, H.pickL [1, 2] rfl⟩
  · rintro _ w211 ⟨A107, c108, cs109, v106, h, rfl, H⟩
    unfold gemotlaw11_texts.k2 at h
    refine nc_seq ?_
    refine nc ?_
    refine nc ?_
    replace h := Option.some.inj h
    subst h
    exact ret_inA [.slice A107 v106.length c108] ⟨_, rfl, ⟨H.outR 1 0 rfl rfl rfl, H.frame⟩⟩
/-! gemot/gemotlaw11.same -/
noncomputable def gemotlaw11_same.b1 (x0 : List (List UInt8)) (x1 : List (List UInt8)) (v104 : Int) : Option (Int ⊕ (Unit ⊕ Bool)) := cond (decide (v104 < (x0.length : Int))) ((idxL x0 v104).bind fun y150 => (idxL x1 v104).bind fun y156 => cond (!(strEq y150 y156)) (some (.inr (Sum.inr false))) (some (.inl (IntKind.i64.wrap (v104 + (1 : Int)))))) (some (.inr (Sum.inl ())))
noncomputable def gemotlaw11_same.k2 : Option (Bool) := some true
noncomputable def gemotlaw11_same.f (x0 : List (List UInt8)) (x1 : List (List UInt8)) : Option (Bool) := cond ((x0.length : Int) != (x1.length : Int)) (some false) ((loopM (fun s146 : Int => gemotlaw11_same.b1 x0 x1 s146) (0 : Int)).bind (Sum.elim (fun (o144 : Unit) => gemotlaw11_same.k2) (fun (o145 : Bool) => some o145)))
set_option maxHeartbeats 4000000 in
theorem gemotlaw11_same_ok {ok : Nat → Prop} {w : World} {u1 u6 : Value} {x0 : List (List UInt8)} {x1 : List (List UInt8)} {r : Bool} (hu2 : slR tStr w ok u1 x0) (hu7 : slR tStr w ok u6 x1) (h : gemotlaw11_same.f x0 x1 = some r) :
    Calls Try.prog 28 #[u1, u6] w fun e w' => ∃ v, e = .returned v ∧ (v = .bool r ∧ Bel w.heap.size w w') := by
  have H : Eng.Own ok w w [] := Eng.Own.nil ok w
  obtain ⟨A3, c4, rfl, H⟩ := H.arg rfl hu2
  obtain ⟨A8, c9, rfl, H⟩ := H.arg rfl hu7
  unfold gemotlaw11_same.f at h
  refine enterN (args := [.slice A3 x0.length c4, .slice A8 x1.length c9]) Try.func28 rfl Try.ntmps28 rfl rfl ?_
  refine nc_seq ?_
  refine nc ?_
  refine nc_seq ?_
  refine nc_seq ?_
  refine nc ?_
  refine nc_cond rfl (fun hc11 => ?_) (fun hc11 => ?_)
  · replace h := condT hc11 h
    refine nc_seq ?_
    refine nc ?_
    refine nc ?_
    replace h := Option.some.inj h
    subst h
    exact ret_inA [.bool false] ⟨_, rfl, ⟨rfl, H.frame⟩⟩
  · replace h := condF hc11 h
    refine nc ?_
    refine nc_cut (fun e w87 => gemotlaw11_same.k2 = some r ∧ e = [] ∧ Eng.Own ok w w87 []) ?_ ?_
    · skip
      refine nc_seq ?_
      refine nc ?_
      refine nc_block ?_
      obtain ⟨o136, hL137, hO138⟩ := bindS h
      obtain ⟨n139, hL137⟩ := loopS hL137
      refine nc ?_
      refine loop_ruleA (fun k e w143 => ∃ (v104 : Int), iterM (fun s146 : Int => gemotlaw11_same.b1 x0 x1 s146) k v104 = some o136 ∧ e = [(0, .slice A3 x0.length c4), (1, .slice A8 x1.length c9), (5, .int .i64 v104)] ∧ Eng.Own ok w w143 [.dat (dSl tStr (.slice A3 x0.length c4) x0), .dat (dSl tStr (.slice A8 x1.length c9) x1)]) ⟨_, hL137, rfl, H.pickL [1, 0] rfl⟩ ?_
      rintro k148 _ w147 ⟨v104, hL137, rfl, H⟩
      obtain ⟨k142, rfl, q140, h, hq141⟩ := iterS hL137
      replace h : gemotlaw11_same.b1 x0 x1 v104 = some q140 := h
      unfold gemotlaw11_same.b1 at h
      refine nc_seq ?_
      refine nc_seq ?_
      refine nc ?_
      refine nc_cond rfl (fun hc149 => ?_) (fun hc149 => ?_)
      · replace h := condT hc149 h
        refine nc ?_
        refine nc_seq ?_
        refine nc_block ?_
        refine nc_seq ?_
        obtain ⟨y150, hx151, h⟩ := bindS h
        obtain ⟨a152, cs153, rfl, hR154, H⟩ := H.elemI 0 rfl hx151
        obtain rfl : cs153 = [.string (bs y150)] := hR154
        obtain ⟨y156, hx157, h⟩ := bindS h
        obtain ⟨a158, cs159, rfl, hR160, H⟩ := H.elemI 2 rfl hx157
        obtain rfl : cs159 = [.string (bs y156)] := hR160
        refine nc ?_
        refine draw_rule [] (by kernel_rfl) (by kernel_rfl) H ?_
        refine c_idxA (e := 62) 1 _ (by kernel_rfl) (by kernel_rfl) (idxL_some hx151).1 (idxL_some hx151).2.1 ?_
        refine c_loadD 1 rfl 0 (by kernel_rfl) rfl ?_
        refine c_idxA (e := 9) 1 _ (by kernel_rfl) (by kernel_rfl) (idxL_some hx157).1 (idxL_some hx157).2.1 ?_
        refine c_loadD 0 rfl 0 (by kernel_rfl) rfl ?_
        intro w162 H
        refine nc_cond rfl (fun hc163 => ?_) (fun hc163 => ?_)
        · replace h := condT hc163 h
          refine nc_seq ?_
          refine nc ?_
          refine nc ?_
          cases h
          replace hq141 : (Sum.inr false) = o136 := hq141
          subst hq141
          have h := hO138
          try dsimp only [Sum.elim_inl, Sum.elim_inr] at h
          replace h := Option.some.inj h
          subst h
          exact ret_inA [.bool false] ⟨_, rfl, ⟨rfl, H.frame⟩⟩
        · replace h := condF hc163 h
          refine nc ?_
          refine nc ?_
          cases h
          exact again_inA ⟨_, hq141, rfl, H.pickL [2, 3] rfl⟩
      · replace h := condF hc149 h
        refine nc ?_
        cases h
        replace hq141 : (Sum.inl ()) = o136 := hq141
        subst hq141
        have h := hO138
        try dsimp only [Sum.elim_inl, Sum.elim_inr] at h
        exact cut_inA ⟨h, rfl, H.pickL [] rfl⟩
    · rintro _ w164 ⟨h, rfl, H⟩
      unfold gemotlaw11_same.k2 at h
      refine nc_seq ?_
      refine nc ?_
      refine nc ?_
      replace h := Option.some.inj h
      subst h
      exact ret_inA [.bool true] ⟨_, rfl, ⟨rfl, H.frame⟩⟩
/-! gemot/gemotlaw11.pick -/
noncomputable def gemotlaw11_pick.k1 (x1 : Int) (v2 : Int) : Option (Int) := (remM v2 x1).bind fun _ => some (v2.tmod x1)
noncomputable def gemotlaw11_pick.f (x0 : Int) (x1 : Int) : Option (Int) := cond (decide (x0 < (0 : Int))) (gemotlaw11_pick.k1 x1 (IntKind.i64.wrap (0 - (IntKind.i64.wrap (x0 + (1 : Int)))))) (gemotlaw11_pick.k1 x1 x0)
set_option maxHeartbeats 4000000 in
theorem gemotlaw11_pick_ok {ok : Nat → Prop} {w : World} {x0 : Int} {x1 : Int} {r : Int} (h : gemotlaw11_pick.f x0 x1 = some r) :
    Calls Try.prog 27 #[.int .i64 x0, .int .i64 x1] w fun e w' => ∃ v, e = .returned v ∧ (v = .int .i64 r ∧ Bel w.heap.size w w') := by
  have H : Eng.Own ok w w [] := Eng.Own.nil ok w
  unfold gemotlaw11_pick.f at h
  refine enterN (args := [.int .i64 x0, .int .i64 x1]) Try.func27 rfl Try.ntmps27 rfl rfl ?_
  refine nc_seq ?_
  refine nc ?_
  refine nc_cut (fun e w3 => ∃ (v2 : Int), gemotlaw11_pick.k1 x1 v2 = some r ∧ e = [(0, .int .i64 v2), (1, .int .i64 x1)] ∧ Eng.Own ok w w3 []) ?_ ?_
  · skip
    refine nc_seq ?_
    refine nc ?_
    refine nc_cond rfl (fun hc5 => ?_) (fun hc5 => ?_)
    · replace h := condT hc5 h
      refine nc ?_
      exact cut_inA ⟨_, h, rfl, H.pickL [] rfl⟩
    · replace h := condF hc5 h
      refine nc ?_
      exact cut_inA ⟨_, h, rfl, H.pickL [] rfl⟩
  · rintro _ w6 ⟨v2, h, rfl, H⟩
    unfold gemotlaw11_pick.k1 at h
    refine nc_seq ?_
    refine nc ?_
    obtain ⟨y7, hy8, h⟩ := bindS h
    obtain ⟨hy8b, rfl⟩ := remS hy8
    refine rem_rule (fun _ => hy8b) ?_
    refine nc ?_
    replace h := Option.some.inj h
    subst h
    exact ret_inA [.int .i64 (v2.tmod x1)] ⟨_, rfl, ⟨rfl, H.frame⟩⟩
/-! gemot/gemotref11.Begins -/
noncomputable def gemotref11_Begins.b1 (x0 : List (List UInt8)) (x1 : List (List UInt8)) (v104 : Int) : Option (Int ⊕ (Unit ⊕ Bool)) := cond (decide (v104 < (x0.length : Int))) ((idxL x0 v104).bind fun y150 => (idxL x1 v104).bind fun y156 => cond (!(strEq y150 y156)) (some (.inr (Sum.inr false))) (some (.inl (IntKind.i64.wrap (v104 + (1 : Int)))))) (some (.inr (Sum.inl ())))
noncomputable def gemotref11_Begins.k2 : Option (Bool) := some true
noncomputable def gemotref11_Begins.f (x0 : List (List UInt8)) (x1 : List (List UInt8)) : Option (Bool) := cond (decide ((x0.length : Int) > (x1.length : Int))) (some false) ((loopM (fun s146 : Int => gemotref11_Begins.b1 x0 x1 s146) (0 : Int)).bind (Sum.elim (fun (o144 : Unit) => gemotref11_Begins.k2) (fun (o145 : Bool) => some o145)))
set_option maxHeartbeats 4000000 in
theorem gemotref11_Begins_ok {ok : Nat → Prop} {w : World} {u1 u6 : Value} {x0 : List (List UInt8)} {x1 : List (List UInt8)} {r : Bool} (hu2 : slR tStr w ok u1 x0) (hu7 : slR tStr w ok u6 x1) (h : gemotref11_Begins.f x0 x1 = some r) :
    Calls Try.prog 17 #[u1, u6] w fun e w' => ∃ v, e = .returned v ∧ (v = .bool r ∧ Bel w.heap.size w w') := by
  have H : Eng.Own ok w w [] := Eng.Own.nil ok w
  obtain ⟨A3, c4, rfl, H⟩ := H.arg rfl hu2
  obtain ⟨A8, c9, rfl, H⟩ := H.arg rfl hu7
  unfold gemotref11_Begins.f at h
  refine enterN (args := [.slice A3 x0.length c4, .slice A8 x1.length c9]) Try.func17 rfl Try.ntmps17 rfl rfl ?_
  refine nc_seq ?_
  refine nc ?_
  refine nc_seq ?_
  refine nc_seq ?_
  refine nc ?_
  refine nc_cond rfl (fun hc11 => ?_) (fun hc11 => ?_)
  · replace h := condT hc11 h
    refine nc_seq ?_
    refine nc ?_
    refine nc ?_
    replace h := Option.some.inj h
    subst h
    exact ret_inA [.bool false] ⟨_, rfl, ⟨rfl, H.frame⟩⟩
  · replace h := condF hc11 h
    refine nc ?_
    refine nc_cut (fun e w87 => gemotref11_Begins.k2 = some r ∧ e = [] ∧ Eng.Own ok w w87 []) ?_ ?_
    · skip
      refine nc_seq ?_
      refine nc ?_
      refine nc_block ?_
      obtain ⟨o136, hL137, hO138⟩ := bindS h
      obtain ⟨n139, hL137⟩ := loopS hL137
      refine nc ?_
      refine loop_ruleA (fun k e w143 => ∃ (v104 : Int), iterM (fun s146 : Int => gemotref11_Begins.b1 x0 x1 s146) k v104 = some o136 ∧ e = [(0, .slice A3 x0.length c4), (1, .slice A8 x1.length c9), (5, .int .i64 v104)] ∧ Eng.Own ok w w143 [.dat (dSl tStr (.slice A3 x0.length c4) x0), .dat (dSl tStr (.slice A8 x1.length c9) x1)]) ⟨_, hL137, rfl, H.pickL [1, 0] rfl⟩ ?_
      rintro k148 _ w147 ⟨v104, hL137, rfl, H⟩
      obtain ⟨k142, rfl, q140, h, hq141⟩ := iterS hL137
      replace h : gemotref11_Begins.b1 x0 x1 v104 = some q140 := h
      unfold gemotref11_Begins.b1 at h
      refine nc_seq ?_
      refine nc_seq ?_
      refine nc ?_
      refine nc_cond rfl (fun hc149 => ?_) (fun hc149 => ?_)
      · replace h := condT hc149 h
        refine nc ?_
        refine nc_seq ?_
        refine nc_block ?_
        refine nc_seq ?_
        obtain ⟨y150, hx151, h⟩ := bindS h
        obtain ⟨a152, cs153, rfl, hR154, H⟩ := H.elemI 0 rfl hx151
        obtain rfl : cs153 = [.string (bs y150)] := hR154
        obtain ⟨y156, hx157, h⟩ := bindS h
        obtain ⟨a158, cs159, rfl, hR160, H⟩ := H.elemI 2 rfl hx157
        obtain rfl : cs159 = [.string (bs y156)] := hR160
        refine nc ?_
        refine draw_rule [] (by kernel_rfl) (by kernel_rfl) H ?_
        refine c_idxA (e := 9) 1 _ (by kernel_rfl) (by kernel_rfl) (idxL_some hx151).1 (idxL_some hx151).2.1 ?_
        refine c_loadD 1 rfl 0 (by kernel_rfl) rfl ?_
        refine c_idxA (e := 9) 1 _ (by kernel_rfl) (by kernel_rfl) (idxL_some hx157).1 (idxL_some hx157).2.1 ?_
        refine c_loadD 0 rfl 0 (by kernel_rfl) rfl ?_
        intro w162 H
        refine nc_cond rfl (fun hc163 => ?_) (fun hc163 => ?_)
        · replace h := condT hc163 h
          refine nc_seq ?_
          refine nc ?_
          refine nc ?_
          cases h
          replace hq141 : (Sum.inr false) = o136 := hq141
          subst hq141
          have h := hO138
          try dsimp only [Sum.elim_inl, Sum.elim_inr] at h
          replace h := Option.some.inj h
          subst h
          exact ret_inA [.bool false] ⟨_, rfl, ⟨rfl, H.frame⟩⟩
        · replace h := condF hc163 h
          refine nc ?_
          refine nc ?_
          cases h
          exact again_inA ⟨_, hq141, rfl, H.pickL [2, 3] rfl⟩
      · replace h := condF hc149 h
        refine nc ?_
        cases h
        replace hq141 : (Sum.inl ()) = o136 := hq141
        subst hq141
        have h := hO138
        try dsimp only [Sum.elim_inl, Sum.elim_inr] at h
        exact cut_inA ⟨h, rfl, H.pickL [] rfl⟩
    · rintro _ w164 ⟨h, rfl, H⟩
      unfold gemotref11_Begins.k2 at h
      refine nc_seq ?_
      refine nc ?_
      refine nc ?_
      replace h := Option.some.inj h
      subst h
      exact ret_inA [.bool true] ⟨_, rfl, ⟨rfl, H.frame⟩⟩
end Go.Proofs.Ytgomlcfoifkdiaa.G
