/- The secrets of a path. -/
import Derived.Test.YtfapphlhkfddoaaGreatDoorHT
import Derived.Test.YtfapphlhkfddoaaGreatDoorH2
import Derived.Test.YtfapphlhkfddoaaGreatDoorListPut15
namespace Go.Proofs.YtfapphlhkfddoaaGreatDoor.G
open Go.RowKit Go.Eng Go.Proofs Go.Proofs.YtfapphlhkfddoaaGreatDoor.Cut
set_option linter.unusedVariables false
set_option maxRecDepth 20000
variable {ok : Nat → Prop} {w0 w : World} {L R : List Eng.Item}

set_option maxHeartbeats 1000000 in
theorem IndexBlind_own (H : Eng.Own ok w0 w L) (i : Nat) {v : Value} {ls : List D_blind_Blind} (hi : L[i]? = some (.dat (dSl t_blind_Blind v ls))) (hl : ls.length ≤ 140737488355328) {f : FuncId} {cap : Array Value} (t : D_blind_Blind → Bool) (hb : bodyB Tryz.prog f = true)
    (hf : ∀ (w' : World) (x : D_blind_Blind), Eng.Own ok w0 w' L → Calls Tryz.prog f ((#[] ++ [Value.agg #[.string (bs x.1), .string (bs x.2)]].toArray) ++ cap) w' fun e w'' => ∃ r, e = .returned r ∧ (r = .bool (t x) ∧ Bel w'.heap.size w' w'')) :
    Calls Tryz.prog 74 #[v, .func (.func f) #[] cap] w fun e w' => ∃ r, e = .returned r ∧ (r = .int .i64 (idxOf t ls) ∧ Eng.Own ok w0 w' L) := by
  obtain ⟨A, c, hA, hc⟩ := H.sl i hi
  subst hA
  refine enter (args := [.slice A ls.length c, .func (.func f) #[] cap]) Tryz.func74 rfl Tryz.ntmps74 rfl rfl ?_
  try refine nc ?_
  try refine nc ?_
  refine loop_rule (fun k e w' => ∃ j : Nat, j + k = ls.length ∧ e = [(0, .slice A ls.length c), (1, .func (.func f) #[] cap), (7, .int .i64 (ls.length : Nat)), (8, .int .i64 (j : Int))] ∧ (∀ q (h : q < ls.length), q < j → t ls[q] = false) ∧ Eng.Own ok w0 w' L) ls.length [(0, .slice A ls.length c), (1, .func (.func f) #[] cap), (7, .int .i64 (ls.length : Nat)), (8, .int .i64 ((0 : Nat) : Int))] ⟨rfl, rfl, rfl, rfl, trivial⟩ ⟨0, by omega, rfl, fun _ _ h => by omega, H⟩ ?_
  rintro k e w' ⟨j, hjk, rfl, ht, H⟩
  try refine nc ?_
  try refine nc ?_
  refine cond_of (fun hc => ?_) (fun hc => ?_)
  · have hlt : j < ls.length := by have := of_decide_eq_true hc; omega
    try refine nc ?_
    try refine nc ?_
    obtain ⟨a, c', cs, hA, hR, H'⟩ := H.elem i hi j hlt
    cases hA
    obtain rfl := blind_Blind_cells hR
    refine indexAddr_rule (e := 76) 2 j (by kernel_rfl) (by kernel_rfl) (fun _ => hlt) ?_
    refine own_loadDA (m := 2) H' 0 rfl 0 (by kernel_rfl) (by kernel_rfl) [.string (bs ls[j].1), .string (bs ls[j].2)] rfl rfl ?_
    refine callV_rule hb (hf w' ls[j] H) fun v w2 ⟨hv, hbel⟩ => ?_
    subst hv
    replace H := H.call hbel
    try refine nc ?_
    try refine nc ?_
    refine cond_of (fun hd => ?_) (fun hd => ?_)
    · try refine nc ?_
      try refine nc ?_
      refine ret_of [.int .i64 (j : Nat)] ⟨rfl, trivial⟩ ⟨_, rfl, ?_, H⟩
      have : ls.findIdx? t = some j := List.findIdx?_eq_some_iff_getElem.2 ⟨hlt, hd, fun q hq => by simpa using ht q (by omega) hq⟩
      unfold idxOf; rw [this]; rfl
    · try refine nc ?_
      try refine nc ?_
      refine again_in (k - 1) (by omega) [(0, .slice (some a) ls.length c), (1, .func (.func f) #[] cap), (7, .int .i64 (ls.length : Nat)), (8, .int .i64 ((j + 1 : Nat) : Int))] ⟨rfl, rfl, rfl, ?_, trivial⟩ ⟨j + 1, by omega, rfl, fun q hq hq2 => ?_, H⟩
      · show some (Value.int .i64 (IntKind.i64.wrap ((j : Int) + 1))) = _
        rw [Eng.i64_id (by omega) (by omega)]; rfl
      · by_cases h : q = j
        · subst h; exact hd
        · exact ht q hq (by omega)
  · have hge : j = ls.length := by have := of_decide_eq_false hc; omega
    try refine nc ?_
    try refine nc ?_
    refine ret_of [.int .i64 (-1)] ⟨rfl, trivial⟩ ⟨_, rfl, ?_, H⟩
    have : ls.findIdx? t = none := List.findIdx?_eq_none_iff.2 fun x hx => by
      obtain ⟨q, hq, rfl⟩ := List.mem_iff_getElem.1 hx
      exact ht q hq (by omega)
    unfold idxOf; rw [this]; rfl
theorem Climb1_calls (H : Eng.Own ok w0 w L) (i : Nat) {g : Nat} {n : List UInt8} (hi : L[i]? = some (.blk g [.string (bs n)] 9)) (x : D_blind_Blind) :
    Calls Tryz.prog 75 ((#[] ++ [Value.agg #[.string (bs x.1), .string (bs x.2)]].toArray) ++ #[.pointer (some ⟨g, 0, none⟩)]) w fun e w'' => ∃ r, e = .returned r ∧ (r = .bool (decide (x.1 = n)) ∧ Bel w.heap.size w w'') := by
  have ea : ((#[] ++ [Value.agg #[.string (bs x.1), .string (bs x.2)]].toArray) ++ #[.pointer (some ⟨g, 0, none⟩)] : Array Value) = [Value.agg #[.string (bs x.1), .string (bs x.2)], .pointer (some ⟨g, 0, none⟩)].toArray := rfl
  rw [ea]
  have hcell : w.cell? ⟨g, 0, none⟩ = some (.string (bs n)) := H.cell i hi 0 rfl
  have hglt : g < w.heap.size := H.lt g (mem_muts.2 ⟨_, List.mem_of_getElem? hi, by simp [Item.muts]⟩)
  have H0 : Eng.Own (fun _ => False) w w [] := Eng.Own.nil _ w
  refine enter (args := [.agg #[.string (bs x.1), .string (bs x.2)], .pointer (some ⟨g, 0, none⟩)]) Tryz.func75 rfl Tryz.ntmps75 rfl rfl ?_
  try refine nc ?_
  refine own_box H0 [.string (bs x.1), .string (bs x.2)] rfl fun q w1 H1 => ?_
  have hcell1 : w1.cell? ⟨g, 0, none⟩ = some (.string (bs n)) := (H1.frame.toBelow.cell (p := ⟨g, 0, none⟩) hglt).trans hcell
  try refine nc ?_
  try refine nc ?_
  refine own_load H1 0 rfl (by kernel_rfl) (j := 0) rfl ?_
  refine load_rule (v := .string (bs n)) (by kernel_rfl) (fun _ => hcell1) ?_
  try refine nc ?_
  try refine nc ?_
  refine ret_of [.bool ((bs x.1).toList == (bs n).toList)] ⟨rfl, trivial⟩ ⟨_, rfl, ?_, H1.frame⟩
  rw [bs_toList, bs_toList]
  show Value.bool (x.1 == n) = _
  congr 1
  rw [Bool.eq_iff_iff]; simp
/-- The secrets behind one's own, node by node. -/
noncomputable def climbGo (l : List D_blind_Blind) : List (List UInt8) → List UInt8 → Option (List (List UInt8))
  | [], _ => some []
  | n :: co, s => if idxOf (fun b : D_blind_Blind => decide (b.1 = n)) l < 0 then some [] else (idxL l (idxOf (fun b : D_blind_Blind => decide (b.1 = n)) l)).bind fun b => (blind_Above.f s b.2).bind fun r => if r.2 ≠ 0 then some [] else (climbGo l co r.1).map (r.1 :: ·)
noncomputable def blind_Climb.f (s : List UInt8) (p : Int) (own : List UInt8) (l : List D_blind_Blind) : Option (List (List UInt8)) :=
  (place_Path.f s p).bind fun path => if path = [] then some [] else (place_Co.f s p).bind fun co => givenM (co.length ≤ 10000000 ∧ l.length ≤ 140737488355328) ((climbGo l co own).map (own :: ·))
theorem mapS {α β : Type} {f : α → β} {x : Option α} {y : β} (h : x.map f = some y) : ∃ z, x = some z ∧ f z = y := by
  cases x with
  | none => cases h
  | some z => exact ⟨z, rfl, Option.some.inj h⟩
set_option maxHeartbeats 4000000 in
theorem blind_Climb_ok {u3 : Value} {x0 : List UInt8} {x1 : Int} {x2 : List UInt8} {x3 : List D_blind_Blind} {r : List (List UInt8)} (hu3 : slR t_blind_Blind w ok u3 x3) (h : blind_Climb.f x0 x1 x2 x3 = some r) :
    Calls Tryz.prog 35 #[.string (bs x0), .int .i64 x1, .string (bs x2), u3] w fun e w' => ∃ u, e = .returned u ∧ (slR tStr w' (fun b => ok b ∨ w.heap.size ≤ b) u r ∧ Bel w.heap.size w w') := by
  have H : Eng.Own ok w w [] := Eng.Own.nil ok w
  obtain ⟨A3, c3, rfl, H⟩ := H.arg rfl hu3
  unfold blind_Climb.f at h
  obtain ⟨path, hp, h⟩ := bindS h
  refine enterN (args := [.string (bs x0), .int .i64 x1, .string (bs x2), .slice A3 x3.length c3]) Tryz.func35 rfl Tryz.ntmps35 rfl rfl ?_
  refine Eng.nc_seq ?_
  refine nc ?_
  refine Eng.nc_seq ?_
  refine Eng.nc_seq ?_
  refine nc ?_
  have hpl : x0.length ≤ 900000 ∧ pathM x0 x1 = path := by
    unfold place_Path.f at hp
    obtain ⟨h1, h2⟩ := givenS hp
    exact ⟨h1, Option.some.inj h2⟩
  refine call_rule (by kernel_rfl) (path_calls (ok := fun _ => False) (s := x0) (p := x1) hpl.1) fun v1 w1 ⟨⟨hv, hv0⟩, hb⟩ => ?_
  rw [hpl.2] at hv hv0
  replace H := H.call hb
  by_cases hpn : path = []
  · rw [if_pos hpn] at h
    cases h
    rw [hv0 hpn]
    refine eqlSl_rule (by kernel_rfl) ?_
    refine Eng.nc_cond (b := true) rfl (fun hc => ?_) (fun hc => ?_)
    · refine Eng.nc_seq ?_
      refine nc ?_
      refine nc ?_
      exact ret_inA [.slice none 0 0] ⟨_, rfl, ⟨none, 0, rfl, Nat.le_refl _, .inl ⟨rfl, fun _ => rfl⟩⟩, H.frame⟩
    · cases hc
  rw [if_neg hpn] at h
  obtain ⟨Ap, cp, rfl, hcp, hcase⟩ := hv
  rcases hcase with ⟨h0, _⟩ | ⟨ap, rfl, _⟩
  · exact absurd h0 hpn
  refine eqlSl_rule (by kernel_rfl) ?_
  refine Eng.nc_cond (b := false) rfl (fun hc => ?_) (fun hc => ?_)
  · cases hc
  refine nc ?_
  obtain ⟨co, hco, h⟩ := bindS h
  obtain ⟨⟨hcl, hll⟩, h⟩ := givenS h
  obtain ⟨rest0, hr0, rfl⟩ := mapS h
  refine Eng.nc_seq ?_
  refine nc ?_
  refine own_buildSlice (e := 28) (sz := 1) (z := .string (bs [])) (cs := [.string (bs x2)]) H (by kernel_rfl) (by kernel_rfl) (by kernel_rfl) rfl rfl rfl rfl fun g w2 H => ?_
  replace H := H.blkRow (n := 1) (sz := 1) rfl (by decide)
  refine nc_cut (fun e w' => ∃ z, e = [(9, z)] ∧ Eng.Own ok w w' [.row z 28 1 (x2 :: rest0).length (strs (x2 :: rest0))]) ?_ ?_
  · refine Eng.nc_seq ?_
    refine nc ?_
    refine call_rule (by kernel_rfl) (place_Co_ok (ok := okOf ok w [.row (.slice (some ⟨g, 0, none⟩) 1 1) 28 1 1 [.string (bs x2)], .dat (dSl t_blind_Blind (.slice A3 x3.length c3) x3)]) hco) fun v3 w3 ⟨hv3, hb⟩ => ?_
    have hsl := rowOut_sl hv3 hb
    obtain ⟨Ac, cc, rfl, _, _⟩ := id hsl
    replace H := H.callDat hb (dSl tStr (.slice Ac co.length cc) co) hsl
    refine Eng.nc_block ?_
    refine nc ?_
    refine loop_rule (fun k e w' => ∃ (j : Nat) (z : Value) (sec : List UInt8) (out rest : List (List UInt8)), j + k = co.length ∧ out.length = j + 1 ∧ climbGo x3 (co.drop j) sec = some rest ∧ out ++ rest = x2 :: rest0 ∧ e = [(2, .string (bs sec)), (3, .slice A3 x3.length c3), (9, z), (23, .slice Ac co.length cc), (24, .int .i64 (co.length : Nat)), (25, .int .i64 (j : Int))] ∧ Eng.Own ok w w' [.row z 28 1 out.length (strs out), .dat (dSl tStr (.slice Ac co.length cc) co), .dat (dSl t_blind_Blind (.slice A3 x3.length c3) x3)]) co.length
      [(2, .string (bs x2)), (3, .slice A3 x3.length c3), (9, .slice (some ⟨g, 0, none⟩) 1 1), (23, .slice Ac co.length cc), (24, .int .i64 (co.length : Nat)), (25, .int .i64 ((0 : Nat) : Int))] ⟨rfl, rfl, rfl, rfl, rfl, rfl, trivial⟩ ⟨0, _, x2, [x2], rest0, by omega, rfl, hr0, rfl, rfl, H.pickL [1, 0, 2] rfl⟩ ?_
    rintro k e w4 ⟨j, z, sec, out, rest, hjk, hol, hgo, hout, rfl, H⟩
    obtain ⟨Az, cz, rfl, hA1, hA2⟩ := H.rowSl 0 rfl
    have hend : rest = [] → ∃ z, [((9 : Nat), (Value.slice Az out.length cz))] = [(9, z)] ∧ Eng.Own ok w w4 [.row z 28 1 (x2 :: rest0).length (strs (x2 :: rest0))] := by
      intro hr
      rw [hr, List.append_nil] at hout
      rw [← hout]
      exact ⟨_, rfl, H.pickL [0] rfl⟩
    refine Eng.nc_seq ?_
    refine nc ?_
    refine Eng.nc_seq ?_
    refine Eng.nc_cond (b := decide ((j : Int) < ((co.length : Nat) : Int))) rfl (fun hc => ?_) (fun hc => ?_)
    · have hlt : j < co.length := by have := of_decide_eq_true hc; omega
      refine nc ?_
      rw [List.drop_eq_getElem_cons hlt] at hgo
      unfold climbGo at hgo
      refine Eng.nc_seq ?_
      refine Eng.nc_block ?_
      refine Eng.nc_seq ?_
      refine nc ?_
      obtain ⟨a, c', cs, hA, hR, H'⟩ := H.elem 1 rfl j hlt
      cases hA
      have hR : cs = [.string (bs co[j])] := hR
      subst hR
      refine indexAddr_rule (e := 9) 1 j (by kernel_rfl) (by kernel_rfl) (fun _ => hlt) ?_
      refine own_loadD H' 0 rfl 0 (by kernel_rfl) rfl ?_
      refine own_alloc (z := .string (bs [])) H (by kernel_rfl) [.string (bs [])] rfl fun gn w5 H => ?_
      refine own_store H 0 rfl (by kernel_rfl) (j := 0) rfl rfl fun w6 H => ?_
      replace H : Eng.Own ok w w6 [.blk gn [.string (bs co[j])] 9, .row (.slice Az out.length cz) 28 1 out.length (strs out), .dat (dSl tStr (.slice (some a) co.length cc) co), .dat (dSl t_blind_Blind (.slice A3 x3.length c3) x3)] := H
      refine Eng.nc_seq ?_
      refine nc ?_
      refine call_rule (by kernel_rfl) (IndexBlind_own H 3 rfl hll (f := 75) (cap := #[.pointer (some ⟨gn, 0, none⟩)]) (fun b : D_blind_Blind => decide (b.1 = co[j])) (by kernel_rfl) (fun w' x H => Climb1_calls H 0 rfl x)) fun v7 w7 ⟨hv7, H⟩ => ?_
      subst hv7
      refine Eng.nc_seq ?_
      refine Eng.nc_seq ?_
      refine nc ?_
      refine Eng.nc_cond (b := decide (idxOf (fun b : D_blind_Blind => decide (b.1 = co[j])) x3 < 0)) rfl (fun hd => ?_) (fun hd => ?_)
      · have hd := of_decide_eq_true hd
        rw [if_pos hd] at hgo
        refine nc ?_
        exact cut_in (e' := [(9, .slice Az out.length cz)]) ⟨rfl, trivial⟩ (by
          have hr := (Option.some.inj hgo).symm
          rw [hr, List.append_nil] at hout
          rw [← hout]
          exact ⟨_, rfl, H.pickL [1] rfl⟩)
      have hd := of_decide_eq_false hd
      rw [if_neg hd] at hgo
      obtain ⟨b, hb2, hgo⟩ := bindS hgo
      obtain ⟨rr, hrr, hgo⟩ := bindS hgo
      refine nc ?_
      refine Eng.nc_seq ?_
      obtain ⟨a2, cs2, hA2, hR2, H'⟩ := H.elemI (x := idxOf (fun b : D_blind_Blind => decide (b.1 = co[j])) x3) (y := b) 3 rfl hb2
      cases hA2
      obtain rfl := blind_Blind_cells hR2
      refine nc ?_
      refine idxA_rule (e := 76) 2 (idxOf (fun b : D_blind_Blind => decide (b.1 = co[j])) x3) (by kernel_rfl) (by kernel_rfl) (idxL_some hb2).1 (idxL_some hb2).2.1 ?_
      refine own_loadD H' 0 rfl 1 (by kernel_rfl) rfl ?_
      refine call_rule (by kernel_rfl) (blind_Above_ok (ok := fun _ => False) hrr) fun v8 w8 ⟨hv8, hb8⟩ => ?_
      subst hv8
      replace H := H.call hb8
      refine Eng.nc_seq ?_
      refine Eng.nc_seq ?_
      refine nc ?_
      refine Eng.nc_cond (b := (rr.2 != 0)) rfl (fun he => ?_) (fun he => ?_)
      · rw [if_pos (by simpa using he)] at hgo
        refine nc ?_
        exact cut_in (e' := [(9, .slice Az out.length cz)]) ⟨rfl, trivial⟩ (by
          have hr := (Option.some.inj hgo).symm
          rw [hr, List.append_nil] at hout
          rw [← hout]
          exact ⟨_, rfl, H.pickL [1] rfl⟩)
      rw [if_neg (by simpa using he)] at hgo
      obtain ⟨rest2, hr2, rfl⟩ := mapS hgo
      refine nc ?_
      refine nc ?_
      refine own_buildSlice (e := 28) (sz := 1) (z := .string (bs [])) (cs := [.string (bs rr.1)]) H (by kernel_rfl) (by kernel_rfl) (by kernel_rfl) rfl rfl rfl rfl fun g2 w10 H => ?_
      refine own_appendBlk (e := 28) (sz := 1) (z := .string (bs [])) (by_ := 16) (m := 1) H 2 0 rfl rfl (by kernel_rfl) (by kernel_rfl) rfl rfl rfl (by intro v hv; simp at hv; subst hv; rfl) (by omega) (by omega) fun v5 w11 H => ?_
      have hw : IntKind.i64.wrap ((j : Int) + 1) = ((j + 1 : Nat) : Int) := by rw [Eng.i64_id (by omega) (by omega)]; omega
      refine nc ?_
      refine again_in (k - 1) (by omega) [(2, .string (bs rr.1)), (3, .slice (some a2) x3.length c3), (9, v5), (23, .slice (some a) co.length cc), (24, .int .i64 (co.length : Nat)), (25, .int .i64 ((j + 1 : Nat) : Int))] ⟨rfl, rfl, rfl, rfl, rfl, ?_, trivial⟩ ⟨j + 1, v5, rr.1, out ++ [rr.1], rest2, by omega, by simp [hol], hr2, by rw [← hout]; simp, rfl, ?_⟩
      · show some (Value.int .i64 (IntKind.i64.wrap ((j : Int) + 1))) = _
        rw [hw]
      · have e : strs (out ++ [rr.1]) = strs out ++ [.string (bs rr.1)] := by simp [strs]
        rw [e, List.length_append]
        exact H.pickL [2, 3, 4] rfl
    · have hge : j = co.length := by have := of_decide_eq_false hc; omega
      refine nc ?_
      rw [List.drop_of_length_le (by omega)] at hgo
      have hr : rest = [] := (Option.some.inj hgo).symm
      exact cut_in (e' := [(9, .slice Az out.length cz)]) ⟨rfl, trivial⟩ (hend hr)
  · rintro _ w5 ⟨z, rfl, H⟩
    obtain ⟨Az, cz, rfl, _, _⟩ := H.rowSl 0 rfl
    replace H := H.freezeS 0 rfl
    refine Eng.nc_seq ?_
    refine nc ?_
    refine nc ?_
    exact ret_inA [.slice Az (x2 :: rest0).length cz] ⟨_, rfl, H.outD 0 rfl, H.frame⟩
end Go.Proofs.YtfapphlhkfddoaaGreatDoor.G
