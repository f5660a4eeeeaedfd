/- BlindApart, as it is reckoned. -/
import Derived.Test.YtfapphlhkfddoaaGreatDoorViewT
namespace Go.Proofs.YtfapphlhkfddoaaGreatDoor.G
open Go.RowKit Go.Eng Go.Proofs Go.Proofs.YtfapphlhkfddoaaGreatDoor.Cut
set_option linter.unusedVariables false
set_option linter.unusedSimpArgs false

theorem full_pairT {t x : List UInt8} {left : Nat} (ht : full t left) (hx : full x left) : full (112 :: (t ++ x)) (left + 1) := by
  refine full_of (n := 2) (o := 1) (p := false) (h := [112]) (l := []) (xs := [t, x]) ?_ (by simp) rfl rfl (fun y hy => ?_) (fun hp => by cases hp)
  · unfold openT
    rw [if_neg (by decide), if_neg (by decide), if_pos (by decide)]
  · rcases List.mem_cons.1 hy with q | q
    · rw [q]; exact ht
    · rw [List.mem_singleton.1 q]; exact hx
theorem full_hash {x : List UInt8} {left : Nat} (hx : full x left) : full (104 :: x) (left + 1) := by
  refine full_of (n := 1) (o := 1) (p := false) (h := [104]) (l := []) (xs := [x]) ?_ (by simp) rfl rfl (fun y hy => ?_) (fun hp => by cases hp)
  · unfold openT
    simp
  · rw [List.mem_singleton.1 hy]; exact hx
theorem whole_of {s : List UInt8} (h : full s 400) (hl : s.length ≤ 20000) : wholeE s = (s, 0) := by
  unfold wholeE
  rw [if_neg (by omega), if_pos (full_right h hl)]
/-- The term of a view. -/
theorem view_full (v : D_api_View) (hl : v.2.length ≤ 100) : full (putT (viewL v)) (v.2.length + 8) ∧ (putT (viewL v)).length ≤ 10 * (v.2.length + 7) + 9 := by
  have hf : ∀ t ∈ viewL v, full t 1 := fun t ht => by obtain ⟨n, rfl⟩ := viewL_num v t ht; exact full_number n
  have hlen := putT_len_le 9 (viewL v) (fun t ht => by obtain ⟨n, rfl⟩ := viewL_num v t ht; simp [countedT, bytesOf_length])
  have hn := viewL_len v
  refine ⟨full_mono (full_put _ hf (by omega)) (by omega), by rw [hn] at hlen; exact hlen⟩
theorem group_of {v : D_api_View} {x : List UInt8} (hv : rightV v = true) (hl : v.2.length ≤ 100) (hx : full x 398) (hxl : x.length ≤ 1000) : blind_Group.f v x = some (104 :: 112 :: (putT (viewL v) ++ x), 0) := by
  obtain ⟨f, l⟩ := view_full v hl
  have f1 := full_mono f (show v.2.length + 8 ≤ 398 by omega)
  have fp := full_pairT f1 hx
  have fh := full_hash fp
  unfold blind_Group.f
  rw [show ((v.1.1, v.1.2), v.2) = v from rfl, viewTerm_eq v hl, Option.bind_some]
  unfold viewE
  rw [if_pos hv]
  generalize putT (viewL v) = t at f1 fp fh l
  have e1 : ofE [112] [t, x] = (112 :: (t ++ x), 0) := by
    unfold ofE
    rw [if_pos (by simp [full_right (full_mono f1 (show 398 ≤ 400 by omega)) (show t.length ≤ 20000 by omega), full_right (full_mono hx (show 398 ≤ 400 by omega)) (show x.length ≤ 20000 by omega)])]
    rw [show [112] ++ [t, x].flatten = 112 :: (t ++ x) by simp, whole_of (full_mono fp (by omega)) (by simp; omega)]
  have e2 : ofE [104] [112 :: (t ++ x)] = (104 :: 112 :: (t ++ x), 0) := by
    unfold ofE
    rw [if_pos (by simp [full_right (full_mono fp (show 399 ≤ 400 by omega)) (show (112 :: (t ++ x)).length ≤ 20000 by simp; omega)])]
    rw [show [104] ++ [112 :: (t ++ x)].flatten = 104 :: 112 :: (t ++ x) by simp, whole_of fh (by simp; omega)]
  have hp : term_Pair.f t x = some (112 :: (t ++ x), 0) := by
    unfold term_Pair.f
    rw [of_spec (by
      intro y hy
      rcases List.mem_cons.1 hy with q | q
      · rw [q]; omega
      · rw [List.mem_singleton.1 q]; omega) (by simp), e1]; rfl
  have hh : term_Hash.f (112 :: (t ++ x)) = some (104 :: 112 :: (t ++ x), 0) := by
    unfold term_Hash.f
    rw [of_spec (by
      intro y hy
      rw [List.mem_singleton.1 hy]; simp; omega) (by simp), e2]; rfl
  show (term_Pair.f t x).bind _ = _
  rw [hp, Option.bind_some]
  show (term_Hash.f (112 :: (t ++ x))).bind _ = _
  rw [hh]; rfl
theorem group_inj {v v' : D_api_View} {x x' : List UInt8} (h1 : v.2.length ≤ 100) (h2 : v'.2.length ≤ 100) (h : (104 : UInt8) :: 112 :: (putT (viewL v) ++ x) = 104 :: 112 :: (putT (viewL v') ++ x')) : putT (viewL v) = putT (viewL v') ∧ x = x' := by
  obtain ⟨f, l⟩ := view_full v h1
  obtain ⟨f', l'⟩ := view_full v' h2
  have h := (List.cons.inj (List.cons.inj h).2).2
  exact full_cancel (full_mono f (show v.2.length + 8 ≤ 200 by omega)) (full_mono f' (show v'.2.length + 8 ≤ 200 by omega)) h
/-- Of another first number the term is another. -/
theorem view_first {a b c : Int} {m : List Int} (ha : 0 ≤ a ∧ a ≤ 1000) (hb : 0 ≤ b ∧ b ≤ 1000) (h : putT (viewL ((a, c), m)) = putT (viewL ((b, c), m))) : a = b := by
  have e : ∀ q : Int, putT (viewL ((q, c), m)) = 112 :: (countedT 117 0 ++ 112 :: (countedT 117 (IntKind.u64.wrap q) ++ putT (([c, 0, 0, 0, (m.length : Int)] ++ m).map fun n => countedT 117 (IntKind.u64.wrap n)))) := by
    intro q
    show putT (countedT 117 (IntKind.u64.wrap 0) :: countedT 117 (IntKind.u64.wrap q) :: ([c, 0, 0, 0, (m.length : Int)] ++ m).map fun n => countedT 117 (IntKind.u64.wrap n)) = _
    rw [putT_cons, putT_cons]
    rfl
  rw [e, e] at h
  have h := (List.cons.inj h).2
  have h := (List.cons.inj (List.append_cancel_left h)).2
  have h := (List.append_inj h (by simp [countedT, bytesOf_length])).1
  have w : ∀ q : Int, 0 ≤ q ∧ q ≤ 1000 → IntKind.u64.wrap q = q := by
    intro q hq
    have : IntKind.u64.wrap q = q % 18446744073709551616 := by simp [IntKind.wrap, IntKind.bits, IntKind.signed]
    omega
  rw [w a ha, w b hb] at h
  exact name_inj (by omega) (by omega) h
/-- Of the same secret, the same names. -/
theorem sec_perm {nm nm' : Int → List UInt8} : ∀ (S S' : Tr), smallT nm S → smallT nm' S' → secT nm S = secT nm' S' → (S.leavesR.map nm).Perm (S'.leavesR.map nm')
  | .leaf p, .leaf q, _, _, h => by
    have h : nm p = nm' q := h
    show [nm p].Perm [nm' q]
    rw [h]
  | .leaf p, .two l r, h1, h2, h => by
    have l1 := (secT_full (.leaf p) h1.1).2
    have l2 := (secT_full (.two l r) h2.1).2
    have p1 := leavesR_pos l
    have p2 := leavesR_pos r
    have e1 : (Tr.leaf p).leavesR.length = 1 := rfl
    have e2 : (Tr.two l r).leavesR.length = r.leavesR.length + l.leavesR.length := by simp [Tr.leavesR]
    have := congrArg List.length h
    omega
  | .two l r, .leaf p, h2, h1, h => by
    have l1 := (secT_full (.leaf p) h1.1).2
    have l2 := (secT_full (.two l r) h2.1).2
    have p1 := leavesR_pos l
    have p2 := leavesR_pos r
    have e1 : (Tr.leaf p).leavesR.length = 1 := rfl
    have e2 : (Tr.two l r).leavesR.length = r.leavesR.length + l.leavesR.length := by simp [Tr.leavesR]
    have := congrArg List.length h
    omega
  | .two l r, .two l' r', h1, h2, h => by
    obtain ⟨a1, a2⟩ := small_two h1
    obtain ⟨b1, b2⟩ := small_two h2
    have hp := above_perm (sec_le a1).1 (sec_le a2).1 (sec_le b1).1 (sec_le b2).1 h
    rw [leavesR_two, leavesR_two, List.map_append, List.map_append]
    by_cases e : secT nm l = secT nm' l'
    · rw [e] at hp
      have e2 := pair_cancel hp
      exact (sec_perm r r' a2 b2 e2).append (sec_perm l l' a1 b1 e)
    · have hm : secT nm l ∈ [secT nm' l', secT nm' r'] := hp.mem_iff.1 List.mem_cons_self
      have e1 : secT nm l = secT nm' r' := by
        rcases List.mem_cons.1 hm with q | q
        · exact absurd q e
        · exact List.mem_singleton.1 q
      rw [e1] at hp
      have e2 : secT nm r = secT nm' l' := pair_cancel (hp.trans (List.Perm.swap _ _ _))
      exact ((sec_perm r l' a2 b1 e2).append (sec_perm l r' a1 b2 e1)).trans List.perm_append_comm
theorem u64_mod (x : Int) : IntKind.u64.wrap x = x % 18446744073709551616 := by simp [IntKind.wrap, IntKind.bits, IntKind.signed]
theorem nm_num {x y : Int} {i j : Nat} (hi : i ≤ 1000) (hj : j ≤ 1000) (h : nmAt x i = nmAt y j) : (x + i) % 18446744073709551616 = (y + j) % 18446744073709551616 := by
  unfold nmAt at h
  rw [u64_mod, u64_mod, u64_mod, u64_mod, Int.emod_eq_of_lt (a := (i : Int)) (by omega) (by omega), Int.emod_eq_of_lt (a := (j : Int)) (by omega) (by omega)] at h
  exact name_inj (by omega) (by omega) h
/-- Of other names another secret. -/
theorem root_apart {T : Tr} (hk : T.ok) (hn : T.leavesR.Nodup) {x y : Int} (hx : 0 ≤ x ∧ x < 18446744073709551616) (hy : 0 ≤ y ∧ y < 18446744073709551616)
    (h : secT (nmOf (sortZ T.leavesR) x) T = secT (nmOf (sortZ T.leavesR) y) T) : x = y := by
  have h8 := leaves_eight hk hn
  have hpos := leavesR_pos T
  have hsl := sortZ_len T.leavesR
  have hnd := (sortZ_perm T.leavesR).nodup_iff.2 hn
  have hp := sec_perm T T (nm_small hk hn _ x (subT_nil T)) (nm_small hk hn _ y (subT_nil T)) h
  have hq : ((List.range (sortZ T.leavesR).length).map (nmAt x)).Perm ((List.range (sortZ T.leavesR).length).map (nmAt y)) := by
    rw [names_map hnd, names_map hnd]
    exact (((sortZ_perm T.leavesR).map _).trans hp).trans ((sortZ_perm T.leavesR).map _).symm
  have key : ∀ a b : Int, ((List.range (sortZ T.leavesR).length).map (nmAt a)).Perm ((List.range (sortZ T.leavesR).length).map (nmAt b)) → ∃ j : Nat, j < 8 ∧ a % 18446744073709551616 = (b + j) % 18446744073709551616 := by
    intro a b hab
    have hm : nmAt a 0 ∈ (List.range (sortZ T.leavesR).length).map (nmAt b) := hab.mem_iff.1 (List.mem_map.2 ⟨0, List.mem_range.2 (by omega), rfl⟩)
    obtain ⟨j, hj, e⟩ := List.mem_map.1 hm
    have hj := List.mem_range.1 hj
    have := nm_num (x := b) (y := a) (i := j) (j := 0) (by omega) (by omega) e
    exact ⟨j, by omega, by simpa using this.symm⟩
  obtain ⟨i, hi, e1⟩ := key x y hq
  obtain ⟨j, hj, e2⟩ := key y x hq.symm
  omega
theorem sec_head {T : Tr} {m : List Int} {x : Int} : ∃ c r, secT (nmOf m x) T = c :: r ∧ (c = 110 ∨ c = 107) := by
  cases T with
  | leaf p => exact ⟨110, _, rfl, .inl rfl⟩
  | two l r => exact ⟨107, _, rfl, .inr rfl⟩
theorem bapart_law {x0 : List Int} {x1 x2 x3 x4 : Int} (h0 : ∀ x ∈ x0, inI64 x) (h1 : 0 ≤ x1 ∧ x1 < 18446744073709551616) (h2 : 0 ≤ x2 ∧ x2 < 18446744073709551616) (h3 : inI64 x3) (h4 : inI64 x4) : gemotlaw15_BlindApart.f x0 x1 x2 x3 x4 = some true := by
  obtain ⟨T, hk, hn, hT⟩ := made_is h0
  have h8 := leaves_eight hk hn
  have hpos := leavesR_pos T
  have hsl := sortZ_len T.leavesR
  obtain ⟨a, ha, a0, a8⟩ := pick15 (n := 100) h3 (by omega)
  obtain ⟨b, hb, b0, b8⟩ := pick15 (n := 100) h4 (by omega)
  have hroot := root_apart hk hn h1 h2
  have s1 := sec_le (nm_small hk hn (sortZ T.leavesR) x1 (subT_nil T))
  have s2 := sec_le (nm_small hk hn (sortZ T.leavesR) x2 (subT_nil T))
  obtain ⟨cc, rr, hc1, hc2⟩ := sec_head (T := T) (m := sortZ T.leavesR) (x := x1)
  unfold gemotlaw15_BlindApart.f
  rw [shown15, Option.bind_some, Bool.not_true, cond_false, hT, Option.bind_some, members_of hk hn, Option.bind_some, secrets_of hk hn, Option.bind_some, root_of hk hn, Option.bind_some, secrets_of hk hn, Option.bind_some, root_of hk hn, Option.bind_some, ha, Option.bind_some]
  have hrow : rowB (sortZ T.leavesR) = true := by
    have hl : T.leavesR ≠ [] := fun e => by rw [e] at hpos; simp at hpos
    have hr : ∀ T : Tr, T.ok → ∀ x ∈ T.leavesR, 0 < x ∧ x ≤ 8 := by
      intro T
      induction T with
      | leaf p => intro h x hx; rw [List.mem_singleton.1 hx]; have h : 1 ≤ p ∧ p ≤ 8 := h; omega
      | two l r ihl ihr =>
        intro h x hx
        rcases List.mem_append.1 hx with q | q
        · exact ihr h.2 x q
        · exact ihl h.1 x q
    exact (rowB_sort _).2 ⟨hl, hr T hk, hn⟩
  have hm0 : 0 < (sortZ T.leavesR).length := by omega
  have hg0 : idxL (sortZ T.leavesR) (0 : Int) = some (sortZ T.leavesR)[0] := idxL_lt hm0
  have hin : (sortZ T.leavesR)[0] ∈ sortZ T.leavesR := List.getElem_mem hm0
  rw [hg0, Option.bind_some, hb, Option.bind_some]
  generalize (sortZ T.leavesR)[0] = p at hin
  have hml : (sortZ T.leavesR).length ≤ 8 := by omega
  have hback : x1 = x2 → secT (nmOf (sortZ T.leavesR) x1) T = secT (nmOf (sortZ T.leavesR) x2) T := fun e => by rw [e]
  revert hroot s1 s2 hc1 hback
  generalize secT (nmOf (sortZ T.leavesR) x1) T = r1
  generalize secT (nmOf (sortZ T.leavesR) x2) T = r2
  intro hroot s1 s2 hc1 hback
  generalize sortZ T.leavesR = m at *
  have hv : ∀ y : Int, 0 ≤ y → y < 100 → rightV ((y, p), m) = true := by
    intro y y0 y1
    unfold rightV
    rw [hrow, decide_eq_true (show (((y, p), m) : D_api_View).1.2 ∈ m from hin), decide_eq_true (show (0 : Int) ≤ (((y, p), m) : D_api_View).1.1 from y0), decide_eq_true (show (((y, p), m) : D_api_View).1.1 ≤ (2147483647 : Int) from (by show y ≤ _; omega))]
    rfl
  have hg : ∀ (y : Int) (r : List UInt8), 0 ≤ y → y < 100 → full r 398 ∧ r.length ≤ 96 → blind_Group.f ((y, p), m) r = some (104 :: 112 :: (putT (viewL ((y, p), m)) ++ r), 0) :=
    fun y r y0 y1 hr => group_of (hv y y0 y1) (by show m.length ≤ 100; omega) hr.1 (by omega)
  rw [hg a r1 a0 a8 s1, Option.bind_some, hg b r1 b0 b8 s1, Option.bind_some, hg a r2 a0 a8 s2, Option.bind_some]
  have hl : ∀ y : Int, (((y, p), m) : D_api_View).2.length ≤ 100 := fun y => by show m.length ≤ 100; omega
  have e1 : decide (r1 = r2) = (x1 == x2) := by
    by_cases h : x1 = x2
    · rw [decide_eq_true (hback h), beq_iff_eq.2 h]
    · rw [decide_eq_false (fun q => h (hroot q)), beq_eq_false_iff_ne.2 h]
  have e2 : decide ((104 : UInt8) :: 112 :: (putT (viewL ((a, p), m)) ++ r1) = 104 :: 112 :: (putT (viewL ((b, p), m)) ++ r1)) = (a == b) := by
    by_cases h : a = b
    · rw [h, decide_eq_true rfl, beq_iff_eq.2 rfl]
    · rw [decide_eq_false (fun q => h (view_first ⟨a0, by omega⟩ ⟨b0, by omega⟩ (group_inj (hl a) (hl b) q).1)), beq_eq_false_iff_ne.2 h]
  have e3 : decide ((104 : UInt8) :: 112 :: (putT (viewL ((a, p), m)) ++ r1) = 104 :: 112 :: (putT (viewL ((a, p), m)) ++ r2)) = decide (r1 = r2) := by
    rw [decide_eq_decide]
    exact ⟨fun q => (group_inj (hl a) (hl a) q).2, fun q => by rw [q]⟩
  have e4 : ¬ ((104 : UInt8) :: 112 :: (putT (viewL ((a, p), m)) ++ r1) = r1) := by
    intro q
    rw [hc1] at q
    have := (List.cons.inj q).1
    rcases hc2 with h | h <;> rw [h] at this <;> cases this
  simp only [strEq_eq]
  rw [e3, e2, decide_eq_false e4, e1]
  simp
theorem bapart_row {ok : Nat → Prop} {w : World} {u0 : Value} {x0 : List Int} {x1 x2 x3 x4 : Int} (hu : slR (tInt .i64) w ok u0 x0) (h0 : ∀ x ∈ x0, inI64 x) (h1 : 0 ≤ x1 ∧ x1 < 18446744073709551616) (h2 : 0 ≤ x2 ∧ x2 < 18446744073709551616) (h3 : inI64 x3) (h4 : inI64 x4) :
    Calls Tryz.prog 3 #[u0, .int .u64 x1, .int .u64 x2, .int .i64 x3, .int .i64 x4] w fun e w' => ∃ r, e = .returned r ∧ r = .bool true ∧ Below w.heap.size w w' :=
  (gemotlaw15_BlindApart_ok hu (bapart_law h0 h1 h2 h3 h4)).mono fun e w' ⟨v, h1, h2, h3⟩ => ⟨v, h1, h2, h3.toBelow⟩
end Go.Proofs.YtfapphlhkfddoaaGreatDoor.G
