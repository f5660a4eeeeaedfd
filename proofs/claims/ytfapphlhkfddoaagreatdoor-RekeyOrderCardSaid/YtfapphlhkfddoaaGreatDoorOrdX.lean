/- RekeyOrder, as it is reckoned. -/
import Derived.Test.YtfapphlhkfddoaaGreatDoorSized
import Derived.KernelRfl
set_option linter.unusedVariables false
namespace Go.Eng
open Go.RowKit Go.ChangeShapes Go.WideShapes
set_option linter.unusedSectionVars false
variable [Inhabited Keep] [Inhabited Hard]

section
variable {P : Program} {t : TypeId}
theorem wf_u64 {n : Int} (h : (Lit.int .u64 n).wf = true) : 0 ≤ n ∧ n ≤ 18446744073709551615 := by
  simp only [Lit.wf, Bool.and_eq_true, decide_eq_true_eq] at h
  exact h
end
end Go.Eng

namespace Go.Proofs.YtfapphlhkfddoaaGreatDoor.G
open Go.RowKit Go.Eng Go.Proofs Go.Proofs.YtfapphlhkfddoaaGreatDoor.Cut
set_option linter.unusedVariables false
set_option linter.unusedSimpArgs false
def valE (l : List UInt8) : Nat := l.foldl (fun v b => 256 * v + b.toNat) 0
theorem bytesOf8 (n : Int) : bytesOf n 8 = [byteAt n 56, byteAt n 48, byteAt n 40, byteAt n 32, byteAt n 24, byteAt n 16, byteAt n 8, byteAt n 0] := rfl
theorem byte_nat (n : Nat) (k : Nat) (hk : k ≤ 64) : ((byteAt (n : Int) (k : Int)).toNat : Nat) = n / 2 ^ k % 256 := by
  unfold byteAt b8
  rw [show min ((k : Int)).toNat IntKind.u64.bits = k by simp [IntKind.bits]; omega]
  have : ((n : Int).fdiv (2 ^ k) % 256).toNat = n / 2 ^ k % 256 := by
    have h : (n : Int).fdiv (2 ^ k) = ((n / 2 ^ k : Nat) : Int) := by
      rw [Int.fdiv_eq_ediv_of_nonneg _ (by exact_mod_cast Nat.zero_le _)]
      norm_cast
    rw [h]; omega
  rw [this]
  simp
theorem bytes_nat (n : Nat) : (byteAt (n : Int) 56).toNat = n / 72057594037927936 % 256 ∧ (byteAt (n : Int) 48).toNat = n / 281474976710656 % 256 ∧ (byteAt (n : Int) 40).toNat = n / 1099511627776 % 256 ∧ (byteAt (n : Int) 32).toNat = n / 4294967296 % 256 ∧ (byteAt (n : Int) 24).toNat = n / 16777216 % 256 ∧ (byteAt (n : Int) 16).toNat = n / 65536 % 256 ∧ (byteAt (n : Int) 8).toNat = n / 256 % 256 ∧ (byteAt (n : Int) 0).toNat = n / 1 % 256 :=
  ⟨byte_nat n 56 (by omega), byte_nat n 48 (by omega), byte_nat n 40 (by omega), byte_nat n 32 (by omega), byte_nat n 24 (by omega), byte_nat n 16 (by omega), byte_nat n 8 (by omega), byte_nat n 0 (by omega)⟩
theorem valE_bytes (n : Nat) (h : n < 18446744073709551616) : valE (bytesOf (n : Int) 8) = n := by
  rw [bytesOf8]
  obtain ⟨e56, e48, e40, e32, e24, e16, e8, e0⟩ := bytes_nat n
  simp only [valE, List.foldl_cons, List.foldl_nil, e56, e48, e40, e32, e24, e16, e8, e0]
  omega
theorem name_inj {a b : Int} {c : UInt8} (ha : 0 ≤ a ∧ a < 18446744073709551616) (hb : 0 ≤ b ∧ b < 18446744073709551616) (h : countedT c a = countedT c b) : a = b := by
  have h1 : bytesOf a 8 = bytesOf b 8 := (List.cons.inj h).2
  obtain ⟨n, rfl⟩ : ∃ n : Nat, a = (n : Int) := ⟨a.toNat, by omega⟩
  obtain ⟨m, rfl⟩ : ∃ m : Nat, b = (m : Int) := ⟨b.toNat, by omega⟩
  have h2 := congrArg valE h1
  rw [valE_bytes n (by omega), valE_bytes m (by omega)] at h2
  rw [h2]
theorem full_cancel {x y r r' : List UInt8} {left : Nat} (hx : full x left) (hy : full y left) (h : x ++ r = y ++ r') : x = y ∧ r = r' := by
  have h1 := full_at (p := []) (r := r) hx
  have h2 := full_at (p := []) (r := r') hy
  simp only [List.nil_append] at h1 h2
  rw [h, h2] at h1
  exact List.append_inj h (by omega)
theorem flatten_inj {left : Nat} : ∀ {l m : List (List UInt8)}, (∀ x ∈ l, full x left) → (∀ x ∈ m, full x left) → l.flatten = m.flatten → l = m
  | [], [], _, _, _ => rfl
  | [], y :: m, _, hm, h => by
    have := full_pos (hm y List.mem_cons_self)
    have := congrArg List.length h
    simp only [List.flatten_nil, List.flatten_cons, List.length_append, List.length_nil] at this
    omega
  | x :: l, [], hl, _, h => by
    have := full_pos (hl x List.mem_cons_self)
    have := congrArg List.length h
    simp only [List.flatten_nil, List.flatten_cons, List.length_append, List.length_nil] at this
    omega
  | x :: l, y :: m, hl, hm, h => by
    obtain ⟨h1, h2⟩ := full_cancel (hl x List.mem_cons_self) (hm y List.mem_cons_self) (show x ++ l.flatten = y ++ m.flatten from h)
    rw [h1, flatten_inj (fun z hz => hl z (List.mem_cons_of_mem _ hz)) (fun z hz => hm z (List.mem_cons_of_mem _ hz)) h2]
theorem powT_perm {l m : List (List UInt8)} {left : Nat} (hl : ∀ x ∈ l, full x left) (hm : ∀ x ∈ m, full x left) (h : powT l = powT m) : l.Perm m := by
  have h1 : (sortB l).flatten = (sortB m).flatten := (List.cons.inj (List.cons.inj h).2).2
  have h2 := flatten_inj (fun x hx => hl x ((sortB_perm l).mem_iff.1 hx)) (fun x hx => hm x ((sortB_perm m).mem_iff.1 hx)) h1
  exact (sortB_perm l).symm.trans (h2 ▸ sortB_perm m)
/-- Of two pairs that are the same and share one the others are the same. -/
theorem pair_cancel {a b c : List UInt8} (h : [a, b].Perm [a, c]) : b = c := List.singleton_perm_singleton.1 ((List.perm_cons a).1 h)
end Go.Proofs.YtfapphlhkfddoaaGreatDoor.G

namespace Go.Proofs.YtfapphlhkfddoaaGreatDoor.G
open Go.RowKit Go.Eng Go.Proofs Go.Proofs.YtfapphlhkfddoaaGreatDoor.Cut
set_option linter.unusedVariables false
set_option linter.unusedSimpArgs false

/-- Secrets above are the same of the same ones alone. -/
theorem above_perm {a b c d : List UInt8} {left : Nat} (ha : full a left) (hb : full b left) (hc : full c left) (hd : full d left) (h : 107 :: powT [a, b] = 107 :: powT [c, d]) : [a, b].Perm [c, d] :=
  powT_perm (left := left) (fun x hx => by
    rcases List.mem_cons.1 hx with h | h
    · rw [h]; exact ha
    · rw [List.mem_singleton.1 h]; exact hb) (fun x hx => by
    rcases List.mem_cons.1 hx with h | h
    · rw [h]; exact hc
    · rw [List.mem_singleton.1 h]; exact hd) (List.cons.inj h).2
end Go.Proofs.YtfapphlhkfddoaaGreatDoor.G

namespace Go.Proofs.YtfapphlhkfddoaaGreatDoor.G
open Go.RowKit Go.Eng Go.Proofs Go.Proofs.YtfapphlhkfddoaaGreatDoor.Cut
set_option linter.unusedVariables false
set_option linter.unusedSimpArgs false

theorem small_two {nm : Int → List UInt8} {l r : Tr} (h : smallT nm (.two l r)) : smallT nm l ∧ smallT nm r := by
  obtain ⟨h1, h2⟩ := h
  have e : (Tr.two l r).leavesR.length = r.leavesR.length + l.leavesR.length := by simp [Tr.leavesR]
  exact ⟨⟨(isNm_two h1).1, by omega⟩, ⟨(isNm_two h1).2, by omega⟩⟩
theorem names_map {m : List Int} (hn : m.Nodup) (first : Int) : (List.range m.length).map (nmAt first) = m.map (nmOf m first) := by
  apply List.ext_getElem
  · simp
  · intro i h1 h2
    simp only [List.getElem_map, List.getElem_range]
    unfold nmOf
    rw [hn.idxOf_getElem]
end Go.Proofs.YtfapphlhkfddoaaGreatDoor.G

namespace Go.Proofs.YtfapphlhkfddoaaGreatDoor.G
open Go.RowKit Go.Eng Go.Proofs Go.Proofs.YtfapphlhkfddoaaGreatDoor.Cut
set_option linter.unusedVariables false
set_option linter.unusedSimpArgs false

theorem group_inj {v v' : D_api_View} {x x' : List UInt8} (h1 : v.2.length ≤ 100) (h2 : v'.2.length ≤ 100) (h : (104 : UInt8) :: 112 :: (putT (viewL v) ++ x) = 104 :: 112 :: (putT (viewL v') ++ x')) : putT (viewL v) = putT (viewL v') ∧ x = x' := by
  obtain ⟨f, l⟩ := view_full v h1
  obtain ⟨f', l'⟩ := view_full v' h2
  have h := (List.cons.inj (List.cons.inj h).2).2
  exact full_cancel (full_mono f (show v.2.length + 8 ≤ 200 by omega)) (full_mono f' (show v'.2.length + 8 ≤ 200 by omega)) h
/-- Of the same secret, the same names. -/
theorem sec_perm {nm nm' : Int → List UInt8} : ∀ (S S' : Tr), smallT nm S → smallT nm' S' → secT nm S = secT nm' S' → (S.leavesR.map nm).Perm (S'.leavesR.map nm')
  | .leaf p, .leaf q, _, _, h => by
    have h : nm p = nm' q := h
    show [nm p].Perm [nm' q]
    rw [h]
  | .leaf p, .two l r, h1, h2, h => by
    have l1 := (secT_full (.leaf p) h1.1).2
    have l2 := (secT_full (.two l r) h2.1).2
    have p1 := leavesR_pos l
    have p2 := leavesR_pos r
    have e1 : (Tr.leaf p).leavesR.length = 1 := rfl
    have e2 : (Tr.two l r).leavesR.length = r.leavesR.length + l.leavesR.length := by simp [Tr.leavesR]
    have := congrArg List.length h
    omega
  | .two l r, .leaf p, h2, h1, h => by
    have l1 := (secT_full (.leaf p) h1.1).2
    have l2 := (secT_full (.two l r) h2.1).2
    have p1 := leavesR_pos l
    have p2 := leavesR_pos r
    have e1 : (Tr.leaf p).leavesR.length = 1 := rfl
    have e2 : (Tr.two l r).leavesR.length = r.leavesR.length + l.leavesR.length := by simp [Tr.leavesR]
    have := congrArg List.length h
    omega
  | .two l r, .two l' r', h1, h2, h => by
    obtain ⟨a1, a2⟩ := small_two h1
    obtain ⟨b1, b2⟩ := small_two h2
    have hp := above_perm (sec_le a1).1 (sec_le a2).1 (sec_le b1).1 (sec_le b2).1 h
    rw [leavesR_two, leavesR_two, List.map_append, List.map_append]
    by_cases e : secT nm l = secT nm' l'
    · rw [e] at hp
      have e2 := pair_cancel hp
      exact (sec_perm r r' a2 b2 e2).append (sec_perm l l' a1 b1 e)
    · have hm : secT nm l ∈ [secT nm' l', secT nm' r'] := hp.mem_iff.1 List.mem_cons_self
      have e1 : secT nm l = secT nm' r' := by
        rcases List.mem_cons.1 hm with q | q
        · exact absurd q e
        · exact List.mem_singleton.1 q
      rw [e1] at hp
      have e2 : secT nm r = secT nm' l' := pair_cancel (hp.trans (List.Perm.swap _ _ _))
      exact ((sec_perm r l' a2 b1 e2).append (sec_perm l r' a1 b2 e1)).trans List.perm_append_comm
theorem u64_mod (x : Int) : IntKind.u64.wrap x = x % 18446744073709551616 := by simp [IntKind.wrap, IntKind.bits, IntKind.signed]
theorem nm_num {x y : Int} {i j : Nat} (hi : i ≤ 1000) (hj : j ≤ 1000) (h : nmAt x i = nmAt y j) : (x + i) % 18446744073709551616 = (y + j) % 18446744073709551616 := by
  unfold nmAt at h
  rw [u64_mod, u64_mod, u64_mod, u64_mod, Int.emod_eq_of_lt (a := (i : Int)) (by omega) (by omega), Int.emod_eq_of_lt (a := (j : Int)) (by omega) (by omega)] at h
  exact name_inj (by omega) (by omega) h
/-- Of other names another secret. -/
theorem root_apart {T : Tr} (hk : T.ok) (hn : T.leavesR.Nodup) {x y : Int} (hx : 0 ≤ x ∧ x < 18446744073709551616) (hy : 0 ≤ y ∧ y < 18446744073709551616)
    (h : secT (nmOf (sortZ T.leavesR) x) T = secT (nmOf (sortZ T.leavesR) y) T) : x = y := by
  have h8 := leaves_eight hk hn
  have hpos := leavesR_pos T
  have hsl := sortZ_len T.leavesR
  have hnd := (sortZ_perm T.leavesR).nodup_iff.2 hn
  have hp := sec_perm T T (nm_small hk hn _ x (subT_nil T)) (nm_small hk hn _ y (subT_nil T)) h
  have hq : ((List.range (sortZ T.leavesR).length).map (nmAt x)).Perm ((List.range (sortZ T.leavesR).length).map (nmAt y)) := by
    rw [names_map hnd, names_map hnd]
    exact (((sortZ_perm T.leavesR).map _).trans hp).trans ((sortZ_perm T.leavesR).map _).symm
  have key : ∀ a b : Int, ((List.range (sortZ T.leavesR).length).map (nmAt a)).Perm ((List.range (sortZ T.leavesR).length).map (nmAt b)) → ∃ j : Nat, j < 8 ∧ a % 18446744073709551616 = (b + j) % 18446744073709551616 := by
    intro a b hab
    have hm : nmAt a 0 ∈ (List.range (sortZ T.leavesR).length).map (nmAt b) := hab.mem_iff.1 (List.mem_map.2 ⟨0, List.mem_range.2 (by omega), rfl⟩)
    obtain ⟨j, hj, e⟩ := List.mem_map.1 hm
    have hj := List.mem_range.1 hj
    have := nm_num (x := b) (y := a) (i := j) (j := 0) (by omega) (by omega) e
    exact ⟨j, by omega, by simpa using this.symm⟩
  obtain ⟨i, hi, e1⟩ := key x y hq
  obtain ⟨j, hj, e2⟩ := key y x hq.symm
  omega
end Go.Proofs.YtfapphlhkfddoaaGreatDoor.G

namespace Go.Proofs.YtfapphlhkfddoaaGreatDoor.G
open Go.RowKit Go.Eng Go.Proofs
set_option linter.unusedVariables false
set_option maxRecDepth 20000
/-! gemot/gemotlaw16.RekeyOrder -/
noncomputable def gemotlaw16_RekeyOrder.f (x0 : Int) (x1 : List Int) (x2 : List Int) (x3 : Int) (x4 : Int) : Option (Bool) := (gemotlaw16_shown.f).bind fun y11 => cond (cond (cond (!y11) true (decide ((x1.length : Int) > (60 : Int)))) true (decide ((x2.length : Int) > (60 : Int)))) (some y11) ((gemotlaw16_of.f x0 (3 : Int)).bind fun y18 => (gemotlaw16_all.f y18 x3 x1).bind fun y34 => (gemotlaw16_all.f y18 x3 x2).bind fun y49 => (gemotlaw16_all.f y18 x4 x1).bind fun y64 => cond (cond (cond ((y34.1.length : Int) == (0 : Int)) true ((y49.1.length : Int) == (0 : Int))) true ((y64.1.length : Int) == (0 : Int))) (some false) ((idxL y34.1 (0 : Int)).bind fun y80 => (y80).bind fun y90 => (rekey_Round_Key.f y90).bind fun y95 => (some (IntKind.i64.wrap ((y49.1.length : Int) - (1 : Int)))).bind fun j100 => (idxL y49.1 j100).bind fun y102 => (y102).bind fun y112 => (rekey_Round_Key.f y112).bind fun y117 => (idxL y64.1 (0 : Int)).bind fun y122 => (y122).bind fun y132 => (rekey_Round_Key.f y132).bind fun y137 => some (cond (cond (cond (cond y95.2 y117.2 false) y137.2 false) (strEq y95.1 y117.1) false) ((strEq y137.1 y95.1) == (x3 == x4)) false)))
set_option maxHeartbeats 4000000 in
theorem gemotlaw16_RekeyOrder_ok {ok : Nat → Prop} {w : World} {u1 u6 : Value} {x0 : Int} {x1 : List Int} {x2 : List Int} {x3 : Int} {x4 : Int} {r : Bool} (hu2 : slR (tInt .i64) w ok u1 x1) (hu7 : slR (tInt .i64) w ok u6 x2) (h : gemotlaw16_RekeyOrder.f x0 x1 x2 x3 x4 = some r) :
    Calls Tryz.prog 7 #[.int .i64 x0, u1, u6, .int .u64 x3, .int .u64 x4] w fun e w' => ∃ v, e = .returned v ∧ (v = .bool r ∧ Bel w.heap.size w w') := by
  have H : Eng.Own ok w w [] := Eng.Own.nil ok w
  obtain ⟨A3, c4, rfl, H⟩ := H.arg rfl hu2
  obtain ⟨A8, c9, rfl, H⟩ := H.arg rfl hu7
  unfold gemotlaw16_RekeyOrder.f at h
  refine enterN (args := [.int .i64 x0, .slice A3 x1.length c4, .slice A8 x2.length c9, .int .u64 x3, .int .u64 x4]) Tryz.func7 rfl Tryz.ntmps7 rfl rfl ?_
  refine nc_seq ?_
  refine nc ?_
  refine nc_seq ?_
  refine nc ?_
  obtain ⟨y11, hy12, h⟩ := bindS h
  refine call_rule (by kernel_rfl) (gemotlaw16_shown_ok (ok := fun _ => False) hy12) fun v14 w13 ⟨hv15, hb16⟩ => ?_
  subst hv15
  replace H := H.call hb16
  refine nc_seq ?_
  refine nc_seq ?_
  refine nc ?_
  refine nc_cond rfl (fun hc17 => ?_) (fun hc17 => ?_)
  · replace h := condT hc17 h
    refine nc_seq ?_
    refine nc ?_
    refine nc ?_
    replace h := Option.some.inj h
    subst h
    exact ret_inA [.bool y11] ⟨_, rfl, ⟨rfl, H.frame⟩⟩
  · replace h := condF hc17 h
    refine nc ?_
    refine nc_seq ?_
    refine nc ?_
    obtain ⟨y18, hy19, h⟩ := bindS h
    refine call_rule (by kernel_rfl) (gemotlaw16_of_ok (ok := fun _ => False) hy19) fun v21 w20 ⟨u24, hv22, hu25, hb23⟩ => ?_
    subst hv22
    replace H := H.callDats hb23 [dSl (tInt .i64) u24 y18.2] ⟨(slR_any hu25), trivial⟩
    obtain ⟨A26, c27, hA28, _⟩ := H.sl 0 rfl
    subst hA28
    refine own_alloc (z := .agg #[.int .i64 0, .int .i64 0, .slice none 0 0]) H (by kernel_rfl) [.int .i64 0, .int .i64 0, .slice none 0 0] rfl fun g31 w32 H => ?_
    refine own_storeB (m := 3) H 0 rfl (by kernel_rfl) [.int .i64 y18.1.1, .int .i64 y18.1.2, .slice A26 y18.2.length c27] rfl rfl rfl rfl fun w33 H => ?_
    refine nc_seq ?_
    refine nc ?_
    refine own_loadA (m := 3) H 0 rfl (by kernel_rfl) (by kernel_rfl) [.int .i64 y18.1.1, .int .i64 y18.1.2, .slice A26 y18.2.length c27] rfl rfl ?_
    obtain ⟨y34, hy35, h⟩ := bindS h
    refine call_rule (by kernel_rfl) (gemotlaw16_all_ok (x0 := y18) H (H.dat 1 rfl) (H.dat 3 rfl) hy35) fun v47 w46 ⟨A36, c37, cs38, al39, A42, c43, cs44, hv48, H⟩ => ?_
    subst hv48
    refine nc_seq ?_
    refine nc ?_
    refine own_loadA (m := 3) H 5 rfl (by kernel_rfl) (by kernel_rfl) [.int .i64 y18.1.1, .int .i64 y18.1.2, .slice A26 y18.2.length c27] rfl rfl ?_
    obtain ⟨y49, hy50, h⟩ := bindS h
    refine call_rule (by kernel_rfl) (gemotlaw16_all_ok (x0 := y18) H (H.dat 6 rfl) (H.dat 7 rfl) hy50) fun v62 w61 ⟨A51, c52, cs53, al54, A57, c58, cs59, hv63, H⟩ => ?_
    subst hv63
    refine nc_seq ?_
    refine nc ?_
    refine own_loadA (m := 3) H 10 rfl (by kernel_rfl) (by kernel_rfl) [.int .i64 y18.1.1, .int .i64 y18.1.2, .slice A26 y18.2.length c27] rfl rfl ?_
    obtain ⟨y64, hy65, h⟩ := bindS h
    refine call_rule (by kernel_rfl) (gemotlaw16_all_ok (x0 := y18) H (H.dat 11 rfl) (H.dat 13 rfl) hy65) fun v77 w76 ⟨A66, c67, cs68, al69, A72, c73, cs74, hv78, H⟩ => ?_
    subst hv78
    refine nc_seq ?_
    refine nc_seq ?_
    refine nc ?_
    refine nc_cond rfl (fun hc79 => ?_) (fun hc79 => ?_)
    · replace h := condT hc79 h
      refine nc_seq ?_
      refine nc ?_
      refine nc ?_
      replace h := Option.some.inj h
      subst h
      exact ret_inA [.bool false] ⟨_, rfl, ⟨rfl, H.frame⟩⟩
    · replace h := condF hc79 h
      refine nc ?_
      refine nc_seq ?_
      refine nc ?_
      obtain ⟨y80, hx81, h⟩ := bindS h
      have ho82 := H.objsLen 12 rfl
      obtain ⟨g85, a86, gp87, hq83, hput84, H⟩ := idxOff (H.pickL [12, 0, 1, 2, 3, 4, 5, 6, 7, 8, 9, 10, 11, 13, 14, 15, 16, 17, 18] rfl) hx81
      obtain ⟨a89, _, rfl, _, _⟩ := H.rowElem (k := tPtr) 13 12 rfl rfl ho82 hq83
      refine idxA_rule (e := 46) 1 _ (by kernel_rfl) (by kernel_rfl) (idxL_some hx81).1 (idxL_some hx81).2.1 ?_
      obtain ⟨y90, hy91, h⟩ := bindS h
      replace H := H.someAt 0 rfl hy91
      try rw [hy91]
      rw [hy91] at hq83
      obtain ⟨cs92, hR93, hC94⟩ := H.rowElemJ (k := tPtr) 13 12 rfl rfl ho82 hq83
      replace hR93 : cs92 = [.pointer (some ⟨g85, 0, none⟩)] := hR93
      subst hR93
      refine load_at hC94 0 (by kernel_rfl) rfl ?_
      obtain ⟨y95, hy96, h⟩ := bindS h
      refine call_rule (by kernel_rfl) (rekey_Round_Key_ok (x0 := y90) H hy96) fun v98 w97 ⟨hv99, H⟩ => ?_
      subst hv99
      refine nc_seq ?_
      refine nc ?_
      obtain ⟨j100, hJ101, h⟩ := bindS h
      obtain ⟨y102, hx103, h⟩ := bindS h
      have ho104 := H.objsLen 9 rfl
      obtain ⟨g107, a108, gp109, hq105, hput106, H⟩ := idxOff (H.pickL [9, 0, 1, 2, 3, 4, 5, 6, 7, 8, 10, 11, 12, 13, 14, 15, 16, 17, 18, 19] rfl) hx103
      obtain ⟨a111, _, rfl, _, _⟩ := H.rowElem (k := tPtr) 10 9 rfl rfl ho104 hq105
      refine idxA_ruleJ (e := 46) 1 _ j100 hJ101 (by kernel_rfl) (by kernel_rfl) (idxL_some hx103).1 (idxL_some hx103).2.1 ?_
      obtain ⟨y112, hy113, h⟩ := bindS h
      replace H := H.someAt 0 rfl hy113
      try rw [hy113]
      rw [hy113] at hq105
      obtain ⟨cs114, hR115, hC116⟩ := H.rowElemJ (k := tPtr) 10 9 rfl rfl ho104 hq105
      replace hR115 : cs114 = [.pointer (some ⟨g107, 0, none⟩)] := hR115
      subst hR115
      refine load_at hC116 0 (by kernel_rfl) rfl ?_
      obtain ⟨y117, hy118, h⟩ := bindS h
      refine call_rule (by kernel_rfl) (rekey_Round_Key_ok (x0 := y112) H hy118) fun v120 w119 ⟨hv121, H⟩ => ?_
      subst hv121
      refine nc_seq ?_
      refine nc ?_
      obtain ⟨y122, hx123, h⟩ := bindS h
      have ho124 := H.objsLen 6 rfl
      obtain ⟨g127, a128, gp129, hq125, hput126, H⟩ := idxOff (H.pickL [6, 0, 1, 2, 3, 4, 5, 7, 8, 9, 10, 11, 12, 13, 14, 15, 16, 17, 18, 19, 20] rfl) hx123
      obtain ⟨a131, _, rfl, _, _⟩ := H.rowElem (k := tPtr) 7 6 rfl rfl ho124 hq125
      refine idxA_rule (e := 46) 1 _ (by kernel_rfl) (by kernel_rfl) (idxL_some hx123).1 (idxL_some hx123).2.1 ?_
      obtain ⟨y132, hy133, h⟩ := bindS h
      replace H := H.someAt 0 rfl hy133
      try rw [hy133]
      rw [hy133] at hq125
      obtain ⟨cs134, hR135, hC136⟩ := H.rowElemJ (k := tPtr) 7 6 rfl rfl ho124 hq125
      replace hR135 : cs134 = [.pointer (some ⟨g127, 0, none⟩)] := hR135
      subst hR135
      refine load_at hC136 0 (by kernel_rfl) rfl ?_
      obtain ⟨y137, hy138, h⟩ := bindS h
      refine call_rule (by kernel_rfl) (rekey_Round_Key_ok (x0 := y132) H hy138) fun v140 w139 ⟨hv141, H⟩ => ?_
      subst hv141
      refine nc_seq ?_
      refine nc ?_
      refine nc ?_
      replace h := Option.some.inj h
      subst h
      exact ret_inA [.bool (cond (cond (cond (cond y95.2 y117.2 false) y137.2 false) (strEq y95.1 y117.1) false) ((strEq y137.1 y95.1) == (x3 == x4)) false)] ⟨_, rfl, ⟨rfl, H.frame⟩⟩
end Go.Proofs.YtfapphlhkfddoaaGreatDoor.G

namespace Go.Proofs.YtfapphlhkfddoaaGreatDoor.G
open Go.RowKit Go.Eng Go.Proofs Go.Proofs.YtfapphlhkfddoaaGreatDoor.Cut
set_option linter.unusedVariables false
set_option linter.unusedSimpArgs false

theorem order_u64 : True := by
  have := @Eng.wf_u64
  trivial
theorem nN_pos2 {ms : List Int} (hm : MsOk ms) : 0 < nN (buildT ms) := by
  show 0 < (memS (buildT ms)).length
  rw [buildT_ms hm]
  exact List.length_pos_iff.2 hm.ne
theorem keyT_apart {T : Tr} {V : D_api_View} (hv : ViewOk T V) {x y : Int} (hx : 0 ≤ x ∧ x < 18446744073709551616) (hy : 0 ≤ y ∧ y < 18446744073709551616) : keyT T V x = keyT T V y ↔ x = y := by
  constructor
  · intro h
    have h8 := leaves_eight hv.ok hv.nd
    have hl : V.2.length ≤ 100 := by rw [hv.ms, sortZ_len]; omega
    exact root_apart hv.ok hv.nd hx hy (group_inj hl hl h).2
  · intro h; rw [h]
theorem order_law {x0 : Int} (h0 : inI64 x0) {x1 x2 : List Int} (h1 : ∀ x ∈ x1, inI64 x) (h2 : ∀ x ∈ x2, inI64 x) {x3 x4 : Int} (h3 : 0 ≤ x3 ∧ x3 < 18446744073709551616) (h4 : 0 ≤ x4 ∧ x4 < 18446744073709551616) : gemotlaw16_RekeyOrder.f x0 x1 x2 x3 x4 = some true := by
  obtain ⟨ms, hm, hof⟩ := of_is h0
  obtain ⟨e, h, hV, hh, he0, he1⟩ := hof 3 (by constructor <;> decide)
  unfold gemotlaw16_RekeyOrder.f
  rw [shown16, Option.bind_some, Bool.not_true, cond_false]
  by_cases hl : (x1.length : Int) > (60 : Int)
  · rw [decide_eq_true hl]; rfl
  by_cases hl2 : (x2.length : Int) > (60 : Int)
  · rw [decide_eq_true hl2, decide_eq_false hl]; rfl
  rw [decide_eq_false hl, decide_eq_false hl2, cond_false, cond_false]
  have he : 0 ≤ e ∧ e ≤ 1000 := ⟨he0, by omega⟩
  have hv := view_of hm hh he
  obtain ⟨o, dl, a1, a2, a3, a4⟩ := all_is hm hh he (first := x3) h1 (by omega)
  obtain ⟨p, dp, b1, b2, b3, b4⟩ := all_is hm hh he (first := x3) h2 (by omega)
  obtain ⟨q, dq, c1, c2, c3, c4⟩ := all_is hm hh he (first := x4) h1 (by omega)
  have hp := nN_pos2 hm
  have h8 := nN_le hv
  have hP : ∀ i : Nat, (fun _ => True) i := fun _ => trivial
  rw [hV, Option.bind_some, a1, Option.bind_some, b1, Option.bind_some, c1, Option.bind_some]
  have hz : ∀ o : Nat → O_rekey_Round, (((osL o (nN (buildT ms))).length : Int) == (0 : Int)) = false := fun o => by rw [osL_len]; exact beq_eq_false_iff_ne.2 (by omega)
  dsimp only
  rw [hz, hz, hz, cond_false, cond_false, cond_false]
  have hk0 : ∀ o : Nat → O_rekey_Round, idxL (osL o (nN (buildT ms))) (0 : Int) = some (some (o 0)) := fun o => osL_get o hp
  rw [hk0, Option.bind_some, Option.bind_some, end_key hv a2 hP hp, Option.bind_some, Option.bind_some]
  have hw : IntKind.i64.wrap (((osL p (nN (buildT ms))).length : Int) - (1 : Int)) = ((nN (buildT ms) - 1 : Nat) : Int) := by
    rw [osL_len, Eng.i64_id (by omega) (by omega)]; omega
  rw [hw, osL_get p (show nN (buildT ms) - 1 < nN (buildT ms) by omega), Option.bind_some, Option.bind_some, end_key hv b2 hP (show nN (buildT ms) - 1 < nN (buildT ms) by omega), Option.bind_some, hk0, Option.bind_some, Option.bind_some, end_key hv c2 hP hp, Option.bind_some]
  simp only [strEq_eq]
  have hk := keyT_apart hv h4 h3
  by_cases hxy : x3 = x4
  · subst hxy; simp
  · have hne : ¬ keyT (buildT ms) ((e, h), ms) x4 = keyT (buildT ms) ((e, h), ms) x3 := fun q => hxy (hk.1 q).symm
    simp [hne, hxy]
theorem order_row {ok : Nat → Prop} {w : World} {u1 u2 : Value} {x0 x3 x4 : Int} {x1 x2 : List Int} (hu1 : slR (tInt .i64) w ok u1 x1) (hu2 : slR (tInt .i64) w ok u2 x2) (h1 : ∀ x ∈ x1, inI64 x) (h2 : ∀ x ∈ x2, inI64 x) (h0 : inI64 x0) (h3 : 0 ≤ x3 ∧ x3 < 18446744073709551616) (h4 : 0 ≤ x4 ∧ x4 < 18446744073709551616) :
    Calls Tryz.prog 7 #[.int .i64 x0, u1, u2, .int .u64 x3, .int .u64 x4] w fun e w' => ∃ r, e = .returned r ∧ r = .bool true ∧ Below w.heap.size w w' :=
  (gemotlaw16_RekeyOrder_ok hu1 hu2 (order_law h0 h1 h2 h3 h4)).mono fun e w' ⟨v, h1, h2, h3⟩ => ⟨v, h1, h2, h3.toBelow⟩
end Go.Proofs.YtfapphlhkfddoaaGreatDoor.G

