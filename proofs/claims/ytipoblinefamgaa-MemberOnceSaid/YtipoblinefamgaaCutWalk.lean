/- cut.Cut, walked. -/
import Derived.Test.YtipoblinefamgaaCut
namespace Go.Proofs.Ytipoblinefamgaa.Cut
open Go.RowKit Go.Eng Go.Proofs
set_option linter.unusedVariables false
set_option maxRecDepth 20000

variable {ok : Nat → Prop} {w0 w : World} {L : List Eng.Item}

theorem foldl_snoc {α β : Type} (f : β → α → β) (b : β) (l : List α) (j : Nat) (h : j < l.length) : (l.take (j + 1)).foldl f b = f ((l.take j).foldl f b) l[j] := by
  have : l.take (j + 1) = l.take j ++ [l[j]] := by rw [List.take_add_one, List.getElem?_eq_getElem h]; rfl
  rw [this, List.foldl_append]; rfl
theorem wrapS (j : Nat) (h : j ≤ 1000000000) : some (Value.int .i64 (IntKind.i64.wrap ((j : Int) + 1))) = some (Value.int .i64 ((j + 1 : Nat) : Int)) := by
  rw [Eng.i64_id (by omega) (by omega)]; rfl

theorem getA_mem {β : Type} {p : Pl} {x : β} : ∀ {m : List (Pl × β)}, getA p m = some x → (p, x) ∈ m := by
  intro m
  induction m with
  | nil => intro h; cases h
  | cons e m ih =>
    intro h
    simp only [getA] at h
    split at h
    · rename_i he; cases h; subst he; exact List.mem_cons_self
    · exact List.mem_cons_of_mem _ (ih h)

set_option maxHeartbeats 8000000 in
theorem Cut_calls {ok : Nat → Prop} {w : World} {v : Value} {rs : List ReportD} (hv : slR tReport w ok v rs) (hr : rs.length ≤ 1000000000) (hl : ∀ r ∈ rs, r.2.2.length ≤ 1000000000) (hk : (cutM rs).length ≤ 1000000000) (hx : ∀ e ∈ cutM rs, e.2.length ≤ 8796093022208) (hg : ∀ r ∈ rs, ∀ g ∈ r.2.2, g.2.length ≤ 8796093022208) :
    Calls Try.prog 40 #[v] w fun e w' => ∃ r, e = .returned r ∧ (slR tPart w' (fun b => ok b ∨ w.heap.size ≤ b) r (cutL rs) ∧ Bel w.heap.size w w') := by
  have H : Eng.Own ok w w [.dat (dSl tReport v rs)] := own_one hv
  obtain ⟨A, c, hA, hc⟩ := H.sl 0 rfl
  subst hA
  refine enter (args := [.slice A rs.length c]) Try.func40 rfl Try.ntmps40 rfl rfl ?_
  try refine nc ?_
  try refine nc ?_
  refine makeMap_rule (enc := plV) H fun a w1 H => ?_
  try refine nc ?_
  refine makeMap_rule (enc := plV) H fun b w2 H => ?_
  have H0 : Eng.Own ok w w2 [.obj b (mapOk plV []), .obj a (mapOk plV (lens [])), .dat (dVals [] []), .dat (dSl tReport (.slice A rs.length c) rs)] := (H.addDat (dVals [] []) trivial).perm (List.Perm.trans (List.Perm.swap _ _ _) (List.Perm.cons _ (List.Perm.swap _ _ _)))
  refine nc_cut (fun e w' => ∃ rm, e = [(3, .map (some a)), (4, .map (some b))] ∧ Eng.Own ok w w' [.obj b (mapOk plV rm), .obj a (mapOk plV (lens (cutM rs))), .dat (dVals (cutM rs) rm), .dat (dSl tReport (.slice A rs.length c) rs)]) ?_ ?_
  · refine nc ?_
    try refine nc ?_
    refine loop_rule (fun k e w' => ∃ (i : Nat) (rm : List (Pl × Value)), i + k = rs.length ∧ e = [(3, .map (some a)), (4, .map (some b)), (15, .slice A rs.length c), (16, .int .i64 (rs.length : Nat)), (17, .int .i64 (i : Int))] ∧
        Eng.Own ok w w' [.obj b (mapOk plV rm), .obj a (mapOk plV (lens ((rs.take i).foldl stepR []))), .dat (dVals ((rs.take i).foldl stepR []) rm), .dat (dSl tReport (.slice A rs.length c) rs)])
      rs.length [(3, .map (some a)), (4, .map (some b)), (15, .slice A rs.length c), (16, .int .i64 (rs.length : Nat)), (17, .int .i64 ((0 : Nat) : Int))] ⟨rfl, rfl, rfl, rfl, rfl, trivial⟩ ⟨0, [], by omega, rfl, H0⟩ ?_
    rintro k e w' ⟨i, rm, hik, rfl, H⟩
    try refine nc ?_
    try refine nc ?_
    refine cond_of (fun hc => ?_) (fun hc => ?_)
    · have hlt : i < rs.length := by have := of_decide_eq_true hc; omega
      have hm := foldl_snoc stepR [] rs i hlt
      have hll := hl _ (List.getElem_mem hlt)
      obtain ⟨⟨rf, ⟨re, rc⟩, logs⟩, hR0⟩ : ∃ y, rs[i] = y := ⟨_, rfl⟩
      rw [hR0] at hm hll
      replace hll : logs.length ≤ 1000000000 := hll
      generalize hmi : (rs.take i).foldl stepR [] = m0 at H hm
      try refine nc ?_
      try refine nc ?_
      obtain ⟨x, c', cs, hA, hR, H⟩ := H.elem 3 rfl i hlt
      cases hA
      rw [hR0] at hR
      obtain ⟨lv, rfl, hlv⟩ := report_cells hR
      refine indexAddr_rule (e := 72) 4 i (by kernel_rfl) (by kernel_rfl) (fun _ => hlt) ?_
      refine own_loadDA (m := 4) H 0 rfl 0 (by kernel_rfl) (by kernel_rfl) [.int .i64 rf, .int .i64 re, .int .i64 rc, lv] rfl rfl ?_
      replace H := H.tail.tail
      replace H := H.addDat (dSl tLog lv logs) hlv
      obtain ⟨Lv, cl, hLv, hcl⟩ := H.sl 0 rfl
      subst hLv
      refine own_alloc (z := .agg #[.int .i64 0, .int .i64 0, .int .i64 0, .slice none 0 0]) H (by kernel_rfl) [.int .i64 0, .int .i64 0, .int .i64 0, .slice none 0 0] rfl fun g w3 H => ?_
      refine own_storeA (m := 4) H 0 rfl (by kernel_rfl) [.int .i64 rf, .int .i64 re, .int .i64 rc, .slice Lv logs.length cl] rfl rfl (by intro v hv; simp at hv; rcases hv with rfl | rfl | rfl | rfl <;> rfl) (by decide) fun w4 H => ?_
      replace H : Eng.Own ok w w4 [.blk g [.int .i64 rf, .int .i64 re, .int .i64 rc, .slice Lv logs.length cl] 72, .dat (dSl tLog (.slice Lv logs.length cl) logs), .obj b (mapOk plV rm), .obj a (mapOk plV (lens m0)), .dat (dVals m0 rm), .dat (dSl tReport (.slice (some x) rs.length c) rs)] := H
      try refine nc ?_
      refine own_load H 0 rfl (by kernel_rfl) (j := 3) rfl ?_
      try refine nc ?_
      refine loop_rule (fun k e w' => ∃ (j : Nat) (rm : List (Pl × Value)), j + k = logs.length ∧ e = [(3, .map (some a)), (4, .map (some b)), (6, .pointer (some ⟨g, 0, none⟩)), (15, .slice (some x) rs.length c), (16, .int .i64 (rs.length : Nat)), (17, .int .i64 (i : Int)), (22, .slice Lv logs.length cl), (23, .int .i64 (logs.length : Nat)), (24, .int .i64 (j : Int))] ∧
          Eng.Own ok w w' [.blk g [.int .i64 rf, .int .i64 re, .int .i64 rc, .slice Lv logs.length cl] 72, .dat (dSl tLog (.slice Lv logs.length cl) logs), .obj b (mapOk plV rm), .obj a (mapOk plV (lens ((logs.take j).foldl (stepG (re, rc)) m0))), .dat (dVals ((logs.take j).foldl (stepG (re, rc)) m0) rm), .dat (dSl tReport (.slice (some x) rs.length c) rs)])
        logs.length [(3, .map (some a)), (4, .map (some b)), (6, .pointer (some ⟨g, 0, none⟩)), (15, .slice (some x) rs.length c), (16, .int .i64 (rs.length : Nat)), (17, .int .i64 (i : Int)), (22, .slice Lv logs.length cl), (23, .int .i64 (logs.length : Nat)), (24, .int .i64 ((0 : Nat) : Int))] ⟨rfl, rfl, rfl, rfl, rfl, rfl, rfl, rfl, rfl, trivial⟩ ⟨0, rm, by omega, rfl, H⟩ ?_
      rintro k2 e w5 ⟨j, rm, hjk, rfl, H⟩
      try refine nc ?_
      try refine nc ?_
      refine cond_of (fun hc2 => ?_) (fun hc2 => ?_)
      · have hlt2 : j < logs.length := by have := of_decide_eq_true hc2; omega
        have hm2 := foldl_snoc (stepG (re, rc)) m0 logs j hlt2
        obtain ⟨⟨s, items⟩, hL0⟩ : ∃ y, logs[j] = y := ⟨_, rfl⟩
        rw [hL0] at hm2
        generalize hmj : (logs.take j).foldl (stepG (re, rc)) m0 = m1 at H hm2
        have hil : items.length ≤ 8796093022208 := by
          have h1 : rs[i] ∈ rs := List.getElem_mem hlt
          rw [hR0] at h1
          have h2 : logs[j] ∈ logs := List.getElem_mem hlt2
          rw [hL0] at h2
          exact hg _ h1 _ h2
        try refine nc ?_
        try refine nc ?_
        obtain ⟨x2, c2, cs, hA, hR, H⟩ := H.elem 1 rfl j hlt2
        cases hA
        rw [hL0] at hR
        obtain ⟨iv, rfl, hiv⟩ := log_cells hR
        refine indexAddr_rule (e := 88) 2 j (by kernel_rfl) (by kernel_rfl) (fun _ => hlt2) ?_
        refine own_loadDA (m := 2) H 0 rfl 0 (by kernel_rfl) (by kernel_rfl) [.int .i64 s, iv] rfl rfl ?_
        replace H := H.tail.tail
        replace H := H.addDat (dSl tStr iv items) hiv
        obtain ⟨I, ci, hI, hci⟩ := H.sl 0 rfl
        subst hI
        refine own_alloc (z := .agg #[.int .i64 0, .slice none 0 0]) H (by kernel_rfl) [.int .i64 0, .slice none 0 0] rfl fun g2 w6 H => ?_
        refine own_storeA (m := 2) H 0 rfl (by kernel_rfl) [.int .i64 s, .slice I items.length ci] rfl rfl (by intro v hv; simp at hv; rcases hv with rfl | rfl <;> rfl) (by decide) fun w7 H => ?_
        replace H : Eng.Own ok w w7 [.blk g2 [.int .i64 s, .slice I items.length ci] 88, .dat (dSl tStr (.slice I items.length ci) items), .blk g [.int .i64 rf, .int .i64 re, .int .i64 rc, .slice (some x2) logs.length cl] 72, .dat (dSl tLog (.slice (some x2) logs.length cl) logs), .obj b (mapOk plV rm), .obj a (mapOk plV (lens m1)), .dat (dVals m1 rm), .dat (dSl tReport (.slice (some x) rs.length c) rs)] := H
        try refine nc ?_
        try refine nc ?_
        refine own_loadA (m := 2) H 2 rfl (by kernel_rfl) (by kernel_rfl) [.int .i64 re, .int .i64 rc] rfl rfl ?_
        refine own_load H 0 rfl (by kernel_rfl) (j := 0) rfl ?_
        refine own_alloc (z := plV (0, 0, 0)) H (by kernel_rfl) (plC (0, 0, 0)) rfl fun g3 w8 H => ?_
        refine own_storeA (m := 3) H 0 rfl (by kernel_rfl) (plC (re, rc, s)) rfl rfl (by intro v hv; simp [plC] at hv; rcases hv with rfl | rfl | rfl <;> rfl) (by decide) fun w9 H => ?_
        replace H : Eng.Own ok w w9 [.blk g3 (plC (re, rc, s)) 106, .blk g2 [.int .i64 s, .slice I items.length ci] 88, .dat (dSl tStr (.slice I items.length ci) items), .blk g [.int .i64 rf, .int .i64 re, .int .i64 rc, .slice (some x2) logs.length cl] 72, .dat (dSl tLog (.slice (some x2) logs.length cl) logs), .obj b (mapOk plV rm), .obj a (mapOk plV (lens m1)), .dat (dVals m1 rm), .dat (dSl tReport (.slice (some x) rs.length c) rs)] := H
        try refine nc ?_
        refine draw_rule [] (by kernel_rfl) (by kernel_rfl) H ?_
        refine c_load 1 rfl (by kernel_rfl) (j := 1) rfl ?_
        refine c_loadA (m := 3) 0 rfl (by kernel_rfl) (by kernel_rfl) (plC (re, rc, s)) rfl rfl ?_
        refine c_lookupV (kt := 106) (et := 3) (z := .int .i64 0) (by kernel_rfl) (by kernel_rfl) keyP (re, rc, s) 6 rfl _ (get_lens _ _) ?_
        refine fun w10 H => ?_
        try refine nc ?_
        refine cond_of (fun hd => ?_) (fun hd => ?_)
        · have hgt : ((getA (re, rc, s) m1).getD []).length < items.length := by have := of_decide_eq_true hd; omega
          have hst : stepG (re, rc) m1 (s, items) = putA (re, rc, s) items m1 := by unfold stepG; rw [if_pos hgt]
          rw [hst] at hm2
          try refine nc ?_
          refine draw_ruleB [.blk g3 (plC (re, rc, s)) 106, .blk g2 [.int .i64 s, .slice I items.length ci] 88] [] (fun _ => undef) [1000, 1000, 1000, 1000, 1000, 1000, 1000, 1000, 1000] (by kernel_rfl) (by kernel_rfl) H (by repeat first | exact List.nil_sublist _ | apply List.Sublist.cons_cons | apply List.Sublist.cons) ?_
          refine c_loadA (m := 3) 0 rfl (by kernel_rfl) (by kernel_rfl) (plC (re, rc, s)) rfl rfl ?_
          refine c_loadA (m := 3) 0 rfl (by kernel_rfl) (by kernel_rfl) (plC (re, rc, s)) rfl rfl ?_
          refine c_load 1 rfl (by kernel_rfl) (j := 1) rfl ?_
          refine c_load 1 rfl (by kernel_rfl) (j := 1) rfl ?_
          refine c_mapUpdate (kt := 106) (et := 3) (by kernel_rfl) keyP (re, rc, s) (.int .i64 (items.length : Int)) 6 rfl ?_
          refine ⟨(by repeat first | exact List.nil_sublist _ | apply List.Sublist.cons_cons | apply List.Sublist.cons), ?_⟩
          refine c_mapUpdate (kt := 106) (et := 36) (by kernel_rfl) keyP (re, rc, s) (.slice I items.length ci) 5 rfl ?_
          refine ⟨(by repeat first | exact List.nil_sublist _ | apply List.Sublist.cons_cons | apply List.Sublist.cons), ?_⟩
          intro w11 H
          rw [put_lens] at H
          replace H := H.addDat (dVals (putA (re, rc, s) items m1) (putA (re, rc, s) (.slice I items.length ci) rm)) (vals_put (H.dat 2 rfl) (H.dat 7 rfl))
          try refine nc ?_
          try refine nc ?_
          refine again_in (k2 - 1) (by omega) [(3, .map (some a)), (4, .map (some b)), (6, .pointer (some ⟨g, 0, none⟩)), (15, .slice (some x) rs.length c), (16, .int .i64 (rs.length : Nat)), (17, .int .i64 (i : Int)), (22, .slice (some x2) logs.length cl), (23, .int .i64 (logs.length : Nat)), (24, .int .i64 ((j + 1 : Nat) : Int))] ⟨rfl, rfl, rfl, rfl, rfl, rfl, rfl, rfl, wrapS j (by omega), trivial⟩ ⟨j + 1, putA (re, rc, s) (.slice I items.length ci) rm, by omega, rfl, ?_⟩
          rw [hm2]
          refine Eng.Own.less (H.perm (L' := [.blk g3 (plC (re, rc, s)) 106, .blk g2 [.int .i64 s, .slice I items.length ci] 88, .dat (dSl tStr (.slice I items.length ci) items), .blk g [.int .i64 rf, .int .i64 re, .int .i64 rc, .slice (some x2) logs.length cl] 72, .dat (dSl tLog (.slice (some x2) logs.length cl) logs), .obj b (mapOk plV (putA (re, rc, s) (.slice I items.length ci) rm)), .obj a (mapOk plV (lens (putA (re, rc, s) items m1))), .dat (dVals (putA (re, rc, s) items m1) (putA (re, rc, s) (.slice I items.length ci) rm)), .dat (dVals m1 rm), .dat (dSl tReport (.slice (some x) rs.length c) rs)]) (List.perm_middle (l₁ := [_, _, _, _, _, _, _])).symm) (by repeat first | exact List.Sublist.refl _ | apply List.Sublist.cons_cons | apply List.Sublist.cons)
        · have hst : stepG (re, rc) m1 (s, items) = m1 := by
            unfold stepG
            rw [if_neg]
            have := of_decide_eq_false hd
            show ¬ (((getA (re, rc, s) m1).getD []).length < items.length)
            omega
          rw [hst] at hm2
          try refine nc ?_
          try refine nc ?_
          refine again_in (k2 - 1) (by omega) [(3, .map (some a)), (4, .map (some b)), (6, .pointer (some ⟨g, 0, none⟩)), (15, .slice (some x) rs.length c), (16, .int .i64 (rs.length : Nat)), (17, .int .i64 (i : Int)), (22, .slice (some x2) logs.length cl), (23, .int .i64 (logs.length : Nat)), (24, .int .i64 ((j + 1 : Nat) : Int))] ⟨rfl, rfl, rfl, rfl, rfl, rfl, rfl, rfl, wrapS j (by omega), trivial⟩ ⟨j + 1, rm, by omega, rfl, ?_⟩
          rw [hm2]; exact H.less (by repeat first | exact List.Sublist.refl _ | apply List.Sublist.cons_cons | apply List.Sublist.cons)
      · have hge : j = logs.length := by have := of_decide_eq_false hc2; omega
        subst hge
        rw [List.take_length] at H
        try refine nc ?_
        try refine nc ?_
        refine again_in (k - 1) (by omega) [(3, .map (some a)), (4, .map (some b)), (15, .slice (some x) rs.length c), (16, .int .i64 (rs.length : Nat)), (17, .int .i64 ((i + 1 : Nat) : Int))] ⟨rfl, rfl, rfl, rfl, wrapS i (by omega), trivial⟩ ⟨i + 1, rm, by omega, rfl, ?_⟩
        rw [hm]; exact H.tail.tail
    · have hge : i = rs.length := by have := of_decide_eq_false hc; omega
      subst hge
      rw [List.take_length] at H
      try refine nc ?_
      refine cut_in (e' := [(3, .map (some a)), (4, .map (some b))]) ⟨rfl, rfl, trivial⟩ ⟨rm, rfl, H⟩
  · rintro e w3 ⟨rm, rfl, H⟩
    have hkeys := vals_keys (H.dat 2 rfl)
    have hrl : rm.length = (cutM rs).length := by have := congrArg List.length hkeys; simpa using this
    refine nc ?_
    refine nc ?_
    refine call_rule (by kernel_rfl) (keys_own (g := b) H) fun fv w4 ⟨q, hfv, H⟩ => ?_
    subst hfv
    refine call_rule (by kernel_rfl) (sortedFunc_own (M := [.blk q [.map (some b)] 113, .obj b (mapOk plV rm)]) (L := [.obj a (mapOk plV (lens (cutM rs))), .dat (dVals (cutM rs) rm), .dat (dSl tReport (.slice A rs.length c) rs)]) (by kernel_rfl) keys_iter (fun pre ⟨rest, hp⟩ => by have := hp.length_eq; simp at this; omega) (fun xs hp => by have := hp.length_eq; simp at this; omega) H) fun sv w5 ⟨xs, hxs, H⟩ => ?_
    have hks : sortPl xs = sortPl ((cutM rs).map (·.1)) := by rw [sortPl_perm hxs, hkeys]
    rw [hks] at H
    have hkl : (sortPl ((cutM rs).map (·.1))).length = (cutM rs).length := by rw [show (sortPl ((cutM rs).map (·.1))).length = ((cutM rs).map (·.1)).length from (List.mergeSort_perm _ _).length_eq]; simp
    have hkm : ∀ p ∈ sortPl ((cutM rs).map (·.1)), p ∈ (cutM rs).map (·.1) := fun p hp => (List.mergeSort_perm _ _).mem_iff.1 hp
    have hcut : cutL rs = (sortPl ((cutM rs).map (·.1))).map (partOf (cutM rs)) := rfl
    rw [hcut]
    generalize sortPl ((cutM rs).map (·.1)) = ks at H hkl hkm
    obtain ⟨K, ck, hK, _, _⟩ := H.rowSl 0 rfl
    subst hK
    replace H := (H.addDat (dRows tPl ks (plsC ks)) (rows_pl ks)).freeze (k := tPl) 1 0 rfl rfl
    have H0 : Eng.Own ok w w5 [.dat (dRows tPart [] []), .row (.slice none 0 0) 57 4 0 [], .dat (dSl tPl (.slice K ks.length ck) ks), .obj b (mapOk plV rm), .dat (dVals (cutM rs) rm)] :=
      ((H.nilRow 57 4).addDat (dRows tPart [] []) rfl).less (by repeat first | exact List.nil_sublist _ | apply List.Sublist.cons_cons | apply List.Sublist.cons)
    try refine nc ?_
    try refine nc ?_
    refine loop_rule (fun k e w' => ∃ (i : Nat) (z : Value) (cells : List Value), i + k = ks.length ∧ e = [(4, .map (some b)), (10, z), (53, .slice K ks.length ck), (54, .int .i64 (ks.length : Nat)), (55, .int .i64 (i : Int))] ∧
        Eng.Own ok w w' [.dat (dRows tPart ((ks.take i).map (partOf (cutM rs))) cells), .row z 57 4 ((ks.take i).map (partOf (cutM rs))).length cells, .dat (dSl tPl (.slice K ks.length ck) ks), .obj b (mapOk plV rm), .dat (dVals (cutM rs) rm)])
      ks.length [(4, .map (some b)), (10, .slice none 0 0), (53, .slice K ks.length ck), (54, .int .i64 (ks.length : Nat)), (55, .int .i64 ((0 : Nat) : Int))] ⟨rfl, rfl, rfl, rfl, rfl, trivial⟩ ⟨0, .slice none 0 0, [], by omega, rfl, H0⟩ ?_
    rintro k e w6 ⟨i, z, cells, hik, rfl, H⟩
    try refine nc ?_
    try refine nc ?_
    refine cond_of (fun hc => ?_) (fun hc => ?_)
    · have hlt : i < ks.length := by have := of_decide_eq_true hc; omega
      have ht1 : (ks.take (i + 1)).map (partOf (cutM rs)) = (ks.take i).map (partOf (cutM rs)) ++ [partOf (cutM rs) ks[i]] := by rw [List.take_add_one, List.getElem?_eq_getElem hlt, List.map_append]; rfl
      have hpm := hkm _ (List.getElem_mem hlt)
      obtain ⟨⟨pe, pc, psd⟩, hp0⟩ : ∃ y, ks[i] = y := ⟨_, rfl⟩
      rw [hp0] at ht1 hpm
      have hol : ((ks.take i).map (partOf (cutM rs))).length = i := by simp; omega
      try refine nc ?_
      try refine nc ?_
      obtain ⟨x, c', cs, hA, hR, H⟩ := H.elem 2 rfl i hlt
      cases hA
      rw [hp0] at hR
      have := pl_cells hR
      subst this
      refine indexAddr_rule (e := 106) 3 i (by kernel_rfl) (by kernel_rfl) (fun _ => hlt) ?_
      refine own_loadDA (m := 3) H 0 rfl 0 (by kernel_rfl) (by kernel_rfl) (plC (pe, pc, psd)) rfl rfl ?_
      replace H := H.tail.tail
      obtain ⟨items, iv, hg1, hg2, hiv⟩ := vals_get (p := (pe, pc, psd)) (H.dat 4 rfl) hpm
      have hil : items.length ≤ 8796093022208 := hx _ (getA_mem hg1)
      replace H := H.addDat (dSl tStr iv items) hiv
      refine own_alloc (z := plV (0, 0, 0)) H (by kernel_rfl) (plC (0, 0, 0)) rfl fun g w7 H => ?_
      refine own_storeA (m := 3) H 0 rfl (by kernel_rfl) (plC (pe, pc, psd)) rfl rfl (by intro v hv; simp [plC] at hv; rcases hv with rfl | rfl | rfl <;> rfl) (by decide) fun w8 H => ?_
      replace H : Eng.Own ok w w8 [.blk g (plC (pe, pc, psd)) 106, .dat (dSl tStr iv items), .dat (dRows tPart ((ks.take i).map (partOf (cutM rs))) cells), .row z 57 4 ((ks.take i).map (partOf (cutM rs))).length cells, .dat (dSl tPl (.slice (some x) ks.length ck) ks), .obj b (mapOk plV rm), .dat (dVals (cutM rs) rm)] := H
      try refine nc ?_
      refine draw_rule [] (by kernel_rfl) (by kernel_rfl) H ?_
      refine c_loadA (m := 2) 0 rfl (by kernel_rfl) (by kernel_rfl) [.int .i64 pe, .int .i64 pc] rfl rfl ?_
      refine c_load 0 rfl (by kernel_rfl) (j := 2) rfl ?_
      refine c_loadA (m := 3) 0 rfl (by kernel_rfl) (by kernel_rfl) (plC (pe, pc, psd)) rfl rfl ?_
      refine c_lookupV (kt := 106) (et := 36) (z := .slice none 0 0) (by kernel_rfl) (by kernel_rfl) keyP (pe, pc, psd) 5 rfl iv (by rw [hg2]; rfl) ?_
      refine c_callDat (fun v => dSl tStr v items) (fun r => ∃ A0 c0, r = .slice A0 items.length c0) (by kernel_rfl) (fun w9 H => by
        refine (Clone_calls (H.dat 1 rfl) (by omega)).mono ?_
        rintro e w10 ⟨r, rfl, h1, h2⟩
        exact ⟨_, rfl, (by obtain ⟨A0, c0, hr0, _⟩ := h1; exact ⟨A0, c0, hr0⟩), (dSl tStr r _).mono (fun b hb => .inr hb) h1, h2⟩) ?_
      rintro r ⟨A0, c0, hr0⟩
      subst hr0
      refine c_buildSlice (e := 57) (sz := 4) (z := .agg #[.int .i64 0, .int .i64 0, .int .i64 0, .slice none 0 0]) (cs := [.int .i64 pe, .int .i64 pc, .int .i64 psd, .slice A0 items.length c0]) (by kernel_rfl) (by kernel_rfl) (by kernel_rfl) rfl rfl rfl rfl ?_
      intro b2
      refine c_appendBlk (e := 57) (sz := 4) (z := .agg #[.int .i64 0, .int .i64 0, .int .i64 0, .slice none 0 0]) (by_ := 48) (m := 1) 5 0 rfl rfl (by kernel_rfl) (by kernel_rfl) rfl rfl rfl (by intro v hv; simp at hv; rcases hv with rfl | rfl | rfl | rfl <;> rfl) (by omega) (by omega) ?_
      intro z' w11 H
      replace H : Eng.Own ok w w11 [.blk b2 [.int .i64 pe, .int .i64 pc, .int .i64 psd, .slice A0 items.length c0] 57, .dat (dSl tStr (.slice A0 items.length c0) items), .blk g (plC (pe, pc, psd)) 106, .dat (dSl tStr iv items), .dat (dRows tPart ((ks.take i).map (partOf (cutM rs))) cells), .row z' 57 4 (((ks.take i).map (partOf (cutM rs))).length + 1) (cells ++ [.int .i64 pe, .int .i64 pc, .int .i64 psd, .slice A0 items.length c0]), .dat (dSl tPl (.slice (some x) ks.length ck) ks), .obj b (mapOk plV rm), .dat (dVals (cutM rs) rm)] := H
      have hpo : partOf (cutM rs) (pe, pc, psd) = ((pe, pc), psd, items) := by unfold partOf; rw [hg1]; rfl
      have hn : rowsR tPart w11 (okOf ok w _) ((ks.take i).map (partOf (cutM rs)) ++ [((pe, pc), psd, items)]) (cells ++ [.int .i64 pe, .int .i64 pc, .int .i64 psd, .slice A0 items.length c0]) := rowsR_snoc (part_in (x := ((pe, pc), psd, items)) (H.dat 1 rfl)) (H.dat 4 rfl)
      rw [← hpo, ← ht1] at hn
      replace H := H.addDat _ (show (dRows tPart _ _).φ w11 _ from hn)
      try refine nc ?_
      try refine nc ?_
      refine again_in (k - 1) (by omega) [(4, .map (some b)), (10, z'), (53, .slice (some x) ks.length ck), (54, .int .i64 (ks.length : Nat)), (55, .int .i64 ((i + 1 : Nat) : Int))] ⟨rfl, rfl, rfl, rfl, wrapS i (by omega), trivial⟩ ⟨i + 1, z', cells ++ [.int .i64 pe, .int .i64 pc, .int .i64 psd, .slice A0 items.length c0], by omega, rfl, ?_⟩
      have hlen : ((ks.take (i + 1)).map (partOf (cutM rs))).length = ((ks.take i).map (partOf (cutM rs))).length + 1 := by rw [ht1]; simp
      rw [hlen]
      exact H.less (by repeat first | exact List.Sublist.refl _ | apply List.Sublist.cons_cons | apply List.Sublist.cons)
    · have hge : i = ks.length := by have := of_decide_eq_false hc; omega
      subst hge
      rw [List.take_length] at H
      try refine nc ?_
      try refine nc ?_
      refine ret_of [z] ⟨rfl, trivial⟩ ⟨_, rfl, ?_, H.frame⟩
      exact H.rowSlRin (k := tPart) 1 rfl (H.dat 0 rfl) (fun b h => h.1) (fun b h => .inr h)
end Go.Proofs.Ytipoblinefamgaa.Cut
