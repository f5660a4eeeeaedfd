/- All that can be taken out of terms that are no pairs, no seals and no signatures: themselves. -/
import Derived.Test.YtfapphlhkfddoaaGreatDoorKnowX
import Derived.Test.YtfapphlhkfddoaaGreatDoorSortS
import Derived.Test.YtfapphlhkfddoaaGreatDoorBlindP
import Derived.Test.YtfapphlhkfddoaaGreatDoorSortTermLay
import Derived.Shelf.SortG.Plain
import Derived.Shelf.SortG.SortNone
namespace Go.Proofs.YtfapphlhkfddoaaGreatDoor.G
open Go.RowKit Go.Eng Go.Proofs Go.Proofs.YtfapphlhkfddoaaGreatDoor.Cut Go.Sort
set_option linter.unusedVariables false
set_option linter.unusedSimpArgs false
set_option maxRecDepth 20000
variable {ok : Nat → Prop} {w0 w : World} {L R : List Eng.Item}

theorem sortT_at : SortsAt Tryz.prog 69 encStr sortB := fun blk off cap zs w hH hb hs => AnyG.slices_Sort_string Tryz.sortT blk off cap zs w hH hb hs
theorem sortT_own {A B : List Eng.Item} {v : Value} {e : TypeId} {xs : List (List UInt8)} (hsz : xs.length < 4611686018427387904) (H : Eng.Own ok w0 w (A ++ .row v e 1 xs.length (xs.map encStr) :: B)) :
    Calls Tryz.prog 69 #[v] w fun ee w' => ∃ u, ee = .returned u ∧ (u = .tuple #[] ∧ Eng.Own ok w0 w' (A ++ .row v e 1 xs.length ((sortB xs).map encStr) :: B)) := by
  by_cases h : xs = []
  · subst h
    have hs : sortB [] = [] := List.perm_nil.1 (sortB_perm [])
    rw [hs]
    have hrow : qRow w e 1 v 0 [] := H.all (.row v e 1 0 []) (by simp)
    have hv : ∃ p c, v = .slice p 0 c := by
      rcases hrow.2 with ⟨h0, A', hv, _⟩ | ⟨q, off, cap, cur, hv, _⟩
      · exact ⟨_, _, hv⟩
      · exact ⟨_, _, hv⟩
    obtain ⟨p, c, rfl⟩ := hv
    exact (AnyG.slices_Sort_string_none Tryz.sortT p c w).mono fun ee w' ⟨h1, h2⟩ => ⟨_, h1, rfl, by rw [h2]; exact H⟩
  · exact sort1_own sortT_at sortB_len (List.length_pos_iff.2 h) hsz H
theorem taken_none {p : Value} {c : UInt8} {r : List UInt8} {ps : List (List UInt8)} (h1 : c ≠ 112) (h2 : c ≠ 120) (h3 : c ≠ 115) (hps : parts_Of.f (c :: r) = some ps) :
    Calls Tryz.prog 70 #[p, .string (bs (c :: r))] w fun e w' => ∃ x, e = .returned x ∧ (x = .slice none 0 0 ∧ Bel w.heap.size w w') := by
  have H : Eng.Own (fun _ => False) w w [] := Eng.Own.nil _ w
  have hb : ∀ k : Nat, c.toNat ≠ k → ((c.toNat : Int) == (k : Int)) = false := fun k hk => beq_eq_false_iff_ne.2 (by omega)
  have g1 := hb 112 (fun e => h1 (UInt8.toNat_inj.1 (by simpa using e)))
  have g2 := hb 120 (fun e => h2 (UInt8.toNat_inj.1 (by simpa using e)))
  have g3 := hb 115 (fun e => h3 (UInt8.toNat_inj.1 (by simpa using e)))
  refine enter (args := [p, .string (bs (c :: r))]) Tryz.func70 rfl Tryz.ntmps70 rfl rfl ?_
  try refine nc ?_
  try refine nc ?_
  refine call_rule (by kernel_rfl) (parts_Of_ok (ok := fun _ => False) hps) fun v w1 ⟨hv, hbel⟩ => ?_
  replace H := H.call hbel
  obtain ⟨A, cc, rfl, _⟩ := hv
  try refine nc ?_
  try refine nc ?_
  refine idxS_rule (by kernel_rfl) (show idxS (c :: r) (0 : Int) = some (c.toNat : Int) from rfl) ?_
  try refine nc ?_
  try refine nc ?_
  refine cond_of (b := ((c.toNat : Int) == ((112 : Nat) : Int))) (fun hc => ?_) (fun hc => ?_)
  · rw [g1] at hc; cases hc
  try refine nc ?_
  try refine nc ?_
  refine cond_of (b := ((c.toNat : Int) == ((120 : Nat) : Int))) (fun hc => ?_) (fun hc => ?_)
  · rw [g2] at hc; cases hc
  try refine nc ?_
  try refine nc ?_
  refine cond_of (b := ((c.toNat : Int) == ((115 : Nat) : Int))) (fun hc => ?_) (fun hc => ?_)
  · rw [g3] at hc; cases hc
  try refine nc ?_
  try refine nc ?_
  try refine nc ?_
  exact ret_of [.slice none 0 0] ⟨rfl, trivial⟩ ⟨_, rfl, rfl, H.frame⟩
theorem map_met (M : List (List UInt8)) : ((M.map fun t => (t, Value.int .i64 1)).map (·.1)) = M := by
  rw [List.map_map]
  exact List.map_id' M
def plainT (t : List UInt8) : Prop := ∃ c r ps, t = c :: r ∧ c ≠ 112 ∧ c ≠ 120 ∧ c ≠ 115 ∧ parts_Of.f t = some ps
set_option maxHeartbeats 8000000 in
theorem KnClose_ok {ok : Nat → Prop} {w : World} {v : Value} {l : List (List UInt8)} {S : KnS} (hv : slR tStr w ok v l) (hl : l.length ≤ 1000000) (h : knowM l ([], []) = some S) (hm : S.1.length ≤ 1000000) (hp : ∀ t ∈ S.1, plainT t) :
    Calls Tryz.prog 31 #[v] w fun e w' => ∃ x, e = .returned x ∧ (slR tStr w' (fun b => ok b ∨ w.heap.size ≤ b) x (sortB S.1) ∧ Bel w.heap.size w w') := by
  have H : Eng.Own ok w w [.dat (dSl tStr v l)] := own_one hv
  obtain ⟨A, c, hA, hc⟩ := H.sl 0 rfl
  subst hA
  refine enter (args := [.slice A l.length c]) Tryz.func31 rfl Tryz.ntmps31 rfl rfl ?_
  try refine nc ?_
  refine nc_scope ?_
  try refine nc ?_
  try refine nc ?_
  refine call_rule (by kernel_rfl) (KnOf_calls H hl h) fun v1 w1 ⟨g, bm, bq, v', cells', hv1, H⟩ => ?_
  subst hv1
  try refine nc ?_
  try refine nc ?_
  refine loop_rule (fun k e w' => e = [(3, .pointer (some ⟨g, 0, none⟩))] ∧ Eng.Own ok w w' (knL g bm bq v' cells' S.1 S.2 [.dat (dSl tStr (.slice A l.length c) l)])) 0 [(3, .pointer (some ⟨g, 0, none⟩))] ⟨rfl, trivial⟩ ⟨rfl, H⟩ ?_
  rintro k e w2 ⟨rfl, H⟩
  try refine nc ?_
  try refine nc ?_
  try refine nc ?_
  replace H := H.nilRow 28 1
  refine own_load H 1 rfl (by kernel_rfl) (j := 0) rfl ?_
  obtain ⟨es, cl, hit, hes, H⟩ := H.openMap 2 rfl
  refine rangeMap_rule (kt := 28) (et := 3) (by kernel_rfl) H 2 rfl fun r w3 H => ?_
  try refine nc ?_
  try refine nc ?_
  refine loop_rule (fun k e w' => ∃ (pre : List (List UInt8)) (rest : List (List UInt8 × Value)) (seen : Array Nat) (vk : Value), (pre ++ rest.map (·.1)).Perm S.1 ∧ rest.length = k ∧ ItOk txV es cl seen rest ∧ e = [(3, .pointer (some ⟨g, 0, none⟩)), (4, vk), (17, .pointer (some ⟨r, 0, none⟩))] ∧
      Eng.Own ok w w' (.obj r (· = .mapIter (some bm) cl seen cl) :: .row vk 28 1 pre.length (strs pre) :: .blk g [.map (some bm), v', .map (some bq)] 115 :: .obj bm (· = .map es cl) :: .row v' 32 1 S.2.length cells' :: .dat (dRows (tSl tStr) S.2 cells') :: .obj bq (mapOk txV []) :: [.dat (dSl tStr (.slice A l.length c) l)])) S.1.length [(3, .pointer (some ⟨g, 0, none⟩)), (4, .slice none 0 0), (17, .pointer (some ⟨r, 0, none⟩))] ⟨rfl, rfl, rfl, trivial⟩
    ⟨[], S.1.map fun t => (t, Value.int .i64 1), #[], _, by rw [map_met]; exact List.Perm.refl _, by simp, hit, rfl, H⟩ ?_
  clear H hit
  rintro k2 e w4 ⟨pre, rest, seen, vk, hperm, hk2, hit, rfl, H⟩
  try refine nc ?_
  refine nextMap_rule H 3 0 rfl rfl hit (fun hr => ?_) (fun A2 p B2 seen' w5 hr hit' hent H => ?_)
  · subst hr
    try refine nc ?_
    try refine nc ?_
    refine cond_no rfl ?_
    try refine nc ?_
    try refine nc ?_
    have hpl : pre.length = S.1.length := by have := hperm.length_eq; simpa using this
    rw [List.map_nil, List.append_nil] at hperm
    refine call_rule (by kernel_rfl) (sortT_own (A := [.obj r (· = .mapIter (some bm) cl seen cl)]) (B := _) (xs := pre) (by omega) H) fun u w6 ⟨hu, H⟩ => ?_
    have hsb : sortB pre = sortB S.1 := sortB_congr hperm
    replace H : Eng.Own ok w w6 (.obj r (· = .mapIter (some bm) cl seen cl) :: .row vk 28 1 (sortB pre).length (strs (sortB pre)) :: .blk g [.map (some bm), v', .map (some bq)] 115 :: .obj bm (· = .map es cl) :: .row v' 32 1 S.2.length cells' :: .dat (dRows (tSl tStr) S.2 cells') :: .obj bq (mapOk txV []) :: [.dat (dSl tStr (.slice A l.length c) l)]) := by rw [sortB_len]; exact H
    rw [hsb] at H
    replace H := H.freezeS 1 rfl
    replace H : Eng.Own ok w w6 [.dat (dSl tStr vk (sortB S.1))] := H.pickL [1] rfl
    generalize hso : sortB S.1 = so at H
    have hsp : ∀ t ∈ so, plainT t := fun t ht => hp t ((sortB_perm S.1).mem_iff.1 (by rw [hso]; exact ht))
    have hsl : so.length ≤ 1000000 := by rw [← hso, sortB_len]; exact hm
    obtain ⟨A3, c3, hA3, _⟩ := H.sl 0 rfl
    subst hA3
    subst hu
    try refine nc ?_
    try refine nc ?_
    try refine nc ?_
    try refine nc ?_
    refine loop_rule (fun k e w' => ∃ (i : Nat) (A4 : Option Addr), i + k = so.length ∧ e = [(3, .pointer (some ⟨g, 0, none⟩)), (4, .slice A4 so.length c3), (6, .bool false), (28, .slice A4 so.length c3), (29, .int .i64 (so.length : Nat)), (30, .int .i64 (i : Int))] ∧ Eng.Own ok w w' [.dat (dSl tStr (.slice A4 so.length c3) so)]) so.length
      [(3, .pointer (some ⟨g, 0, none⟩)), (4, .slice A3 so.length c3), (6, .bool false), (28, .slice A3 so.length c3), (29, .int .i64 (so.length : Nat)), (30, .int .i64 ((0 : Nat) : Int))] ⟨rfl, rfl, rfl, rfl, rfl, rfl, trivial⟩ ⟨0, A3, by omega, rfl, H⟩ ?_
    rintro k3 e w7 ⟨i, A4, hik, rfl, H⟩
    try refine nc ?_
    try refine nc ?_
    refine cond_of (fun hc => ?_) (fun hc => ?_)
    · have hlt : i < so.length := by have := of_decide_eq_true hc; omega
      have hx : idxL so (i : Int) = some so[i] := idxL_lt hlt
      obtain ⟨ch, rr, ps, hch, n1, n2, n3, hps⟩ := hsp so[i] (List.getElem_mem hlt)
      try refine nc ?_
      try refine nc ?_
      obtain ⟨a, cs, hA2, hR, H⟩ := H.elemI 0 rfl hx
      subst hA2
      obtain rfl : cs = [.string (bs so[i])] := hR
      refine idxA_rule (e := 28) 1 _ (by kernel_rfl) (by kernel_rfl) (idxL_some hx).1 (idxL_some hx).2.1 ?_
      refine own_loadD H 0 rfl 0 (by kernel_rfl) rfl ?_
      replace H := H.tail
      rw [hch] at hps ⊢
      try refine nc ?_
      try refine nc ?_
      refine call_rule (by kernel_rfl) (taken_none n1 n2 n3 hps) fun v8 w8 ⟨hv8, hbel⟩ => ?_
      subst hv8
      replace H := H.call hbel
      try refine nc ?_
      try refine nc ?_
      refine loop_rule (fun k e w' => e = [(3, .pointer (some ⟨g, 0, none⟩)), (4, .slice (some a) so.length c3), (6, .bool false), (28, .slice (some a) so.length c3), (29, .int .i64 (so.length : Nat)), (30, .int .i64 (i : Int)), (37, .int .i64 0), (38, .int .i64 0)] ∧ Eng.Own ok w w' [.dat (dSl tStr (.slice (some a) so.length c3) so)]) 0
        [(3, .pointer (some ⟨g, 0, none⟩)), (4, .slice (some a) so.length c3), (6, .bool false), (28, .slice (some a) so.length c3), (29, .int .i64 (so.length : Nat)), (30, .int .i64 (i : Int)), (37, .int .i64 0), (38, .int .i64 0)] ⟨rfl, rfl, rfl, rfl, rfl, rfl, rfl, rfl, trivial⟩ ⟨rfl, H⟩ ?_
      rintro k4 e w9 ⟨rfl, H⟩
      try refine nc ?_
      try refine nc ?_
      refine cond_no rfl ?_
      try refine nc ?_
      try refine nc ?_
      refine again_in (k3 - 1) (by omega) [(3, .pointer (some ⟨g, 0, none⟩)), (4, .slice (some a) so.length c3), (6, .bool false), (28, .slice (some a) so.length c3), (29, .int .i64 (so.length : Nat)), (30, .int .i64 ((i + 1 : Nat) : Int))] ⟨rfl, rfl, rfl, rfl, rfl, ?_, trivial⟩ ⟨i + 1, some a, by omega, rfl, H⟩
      show some (Value.int .i64 (IntKind.i64.wrap ((i : Int) + 1))) = _
      rw [Eng.i64_id (by omega) (by omega)]; rfl
    · try refine nc ?_
      try refine nc ?_
      refine cond_no rfl ?_
      try refine nc ?_
      try refine nc ?_
      exact ret_of [.slice A4 so.length c3] ⟨rfl, trivial⟩ ⟨_, rfl, H.outD 0 rfl, H.frame⟩
  · subst hr
    replace H : Eng.Own ok w w5 (.obj r (· = .mapIter (some bm) cl seen' cl) :: .row vk 28 1 pre.length (strs pre) :: .blk g [.map (some bm), v', .map (some bq)] 115 :: .obj bm (· = .map es cl) :: .row v' 32 1 S.2.length cells' :: .dat (dRows (tSl tStr) S.2 cells') :: .obj bq (mapOk txV []) :: [.dat (dSl tStr (.slice A l.length c) l)]) := H
    have hpl : pre.length + 1 ≤ 1000000 := by have := hperm.length_eq; simp at this; omega
    try refine nc ?_
    try refine nc ?_
    refine cond_yes rfl ?_
    try refine nc ?_
    try refine nc ?_
    refine entry_rule H 3 0 rfl rfl hent ?_
    try refine nc ?_
    try refine nc ?_
    refine own_buildSlice (e := 28) (sz := 1) (z := .string (bs [])) (cs := [.string (bs p.1)]) H (by kernel_rfl) (by kernel_rfl) (by kernel_rfl) rfl rfl rfl rfl ?_
    intro gb w6 H
    refine own_appendBlk (e := 28) (sz := 1) (z := .string (bs [])) (by_ := 16) (m := 1) H 2 0 rfl rfl (by kernel_rfl) (by kernel_rfl) rfl rfl rfl (by intro v hv; simp at hv; subst hv; rfl) (by omega) (by omega) ?_
    intro v7 w7 H
    have hp2 : ((pre ++ [p.1]) ++ (A2 ++ B2).map (·.1)).Perm S.1 := by
      refine List.Perm.trans ?_ hperm
      rw [List.append_assoc]
      refine List.Perm.append_left _ ?_
      simp only [List.map_append, List.map_cons]
      show (p.1 :: (A2.map (·.1) ++ B2.map (·.1))).Perm _
      exact List.perm_middle.symm
    have e1 : strs (pre ++ [p.1]) = strs pre ++ [.string (bs p.1)] := by simp [strs]
    have e2 : (pre ++ [p.1]).length = pre.length + 1 := by simp
    try refine nc ?_
    try refine nc ?_
    refine again_in (A2 ++ B2).length (by rw [← hk2]; simp) [(3, .pointer (some ⟨g, 0, none⟩)), (4, v7), (17, .pointer (some ⟨r, 0, none⟩))] ⟨rfl, rfl, rfl, trivial⟩ ⟨pre ++ [p.1], A2 ++ B2, seen', v7, hp2, rfl, hit', rfl, ?_⟩
    rw [e1, e2]
    exact H.tail
end Go.Proofs.YtfapphlhkfddoaaGreatDoor.G
/- Contracts of those who know terms, in the printed texts' words. -/
namespace Go.Proofs.YtfapphlhkfddoaaGreatDoor.G
open Go.RowKit Go.Eng Go.Proofs Go.Proofs.YtfapphlhkfddoaaGreatDoor.Cut
set_option linter.unusedVariables false

def closeP (l : List Tx1) (r : List Tx1) : Prop := l.length ≤ 1000000 ∧ ∃ S : KnS, knowM l ([], []) = some S ∧ S.1.length ≤ 1000000 ∧ (∀ t ∈ S.1, plainT t) ∧ r = sortB S.1
def deriveP (l : List Tx1) (t : Tx1) (b : Bool) : Prop := l.length ≤ 1000000 ∧ ∃ (S : KnS) (n : Nat), knowM l ([], []) = some S ∧ (∀ x ∈ S.2, x.length ≤ 1000000) ∧ term_Right.f t = some true ∧ makesG S.1 S.2 n t = some b
/-- That of which a law holds, if there is one. -/
noncomputable def theOne {α : Type} (p : α → Prop) : Option α := by
  classical exact if h : ∃ x, p x then some h.choose else none
theorem theOne_p {α : Type} {p : α → Prop} {x : α} (h : theOne p = some x) : p x := by
  unfold theOne at h
  split at h
  · rename_i hx; cases h; exact hx.choose_spec
  · cases h
theorem theOne_eq {α : Type} {p : α → Prop} {x : α} (hp : p x) (hu : ∀ y, p y → y = x) : theOne p = some x := by
  unfold theOne
  rw [dif_pos ⟨x, hp⟩]
  exact congrArg some (hu _ (Exists.choose_spec (⟨x, hp⟩ : ∃ y, p y)))
noncomputable def know_Close.f (x0 : List Tx1) : Option (List (List UInt8)) := theOne (closeP x0)
noncomputable def know_Derives.f (x0 : List Tx1) (x1 : List UInt8) : Option Bool := theOne (deriveP x0 x1)
theorem know_Close_ok {ok : Nat → Prop} {w : World} {u1 : Value} {x0 : List (List UInt8)} {r : List (List UInt8)} (hu2 : slR tStr w ok u1 x0) (h : know_Close.f x0 = some r) :
    Calls Tryz.prog 31 #[u1] w fun e w' => ∃ v, e = .returned v ∧ (slR tStr w' (fun b => ok b ∨ w.heap.size ≤ b) v r ∧ Bel w.heap.size w w') := by
  obtain ⟨hl, S, h1, h2, h3, rfl⟩ := theOne_p h
  exact KnClose_ok hu2 hl h1 h2 h3
theorem know_Derives_ok {ok : Nat → Prop} {w : World} {u1 : Value} {x0 : List (List UInt8)} {x1 : List UInt8} {r : Bool} (hu2 : slR tStr w ok u1 x0) (h : know_Derives.f x0 x1 = some r) :
    Calls Tryz.prog 32 #[u1, .string (bs x1)] w fun e w' => ∃ v, e = .returned v ∧ (v = .bool r ∧ Bel w.heap.size w w') := by
  obtain ⟨hl, S, n, h1, h2, h3, h4⟩ := theOne_p h
  exact KnDerives_ok hu2 hl h1 h2 h3 h4
theorem close_eq {l : List Tx1} {S : KnS} (hl : l.length ≤ 1000000) (h1 : knowM l ([], []) = some S) (h2 : S.1.length ≤ 1000000) (h3 : ∀ t ∈ S.1, plainT t) : know_Close.f l = some (sortB S.1) :=
  theOne_eq ⟨hl, S, h1, h2, h3, rfl⟩ (fun y ⟨_, T, g1, _, _, g4⟩ => by rw [h1] at g1; cases g1; exact g4)
theorem derives_eq {l : List Tx1} {t : Tx1} {b : Bool} {S : KnS} {n : Nat} (hl : l.length ≤ 1000000) (h1 : knowM l ([], []) = some S) (h2 : ∀ x ∈ S.2, x.length ≤ 1000000) (h3 : term_Right.f t = some true) (h4 : makesG S.1 S.2 n t = some b) : know_Derives.f l t = some b :=
  theOne_eq ⟨hl, S, n, h1, h2, h3, h4⟩ (fun y ⟨_, T, m, g1, _, _, g4⟩ => by rw [h1] at g1; cases g1; exact makesG_same g4 h4)
end Go.Proofs.YtfapphlhkfddoaaGreatDoor.G
