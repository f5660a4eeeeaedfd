/- RekeyLost, as it is reckoned. -/
import Derived.Test.YtfapphlhkfddoaaGreatDoorSized
import Derived.KernelRfl
set_option linter.unusedVariables false
namespace Go.Eng
open Go.RowKit
set_option linter.unusedSectionVars false
variable [Inhabited Keep] [Inhabited Hard]

section
variable {P : Program} {w w0 : World} {K : Value → World → Prop} {g : Bool} {ok : Nat → Prop} {L : List Item}
theorem loadA_at {t : TypeId} {a : Addr} {cs : List Value} {m : Nat} (hc : cellsAt w a 0 cs) (off : Nat) (ha : aggB P t = some true) (hs : sizeB P t = some m) (vs : List Value) (hv : (cs.drop off).take m = vs) (hl : vs.length = m) (hk : K (.agg vs.toArray) w) : nLoad P g t (.pointer (some (a.add off))) w K :=
  loadA_rule vs ha hs hl (fun _ => cellsAt_sub hc hv) hk
end
end Go.Eng

set_option linter.unusedVariables false
set_option linter.unusedSectionVars false
set_option linter.unusedSimpArgs false
namespace Go.Eng
open Go.RowKit
variable [Inhabited Keep] [Inhabited Hard]

section
variable {P : Program} {w w' w0 : World} {K : Value → World → Prop} {g : Bool} {ok : Nat → Prop} {L M R A B : List Item}

variable {α σ κ : Type}
variable [DecidableEq κ]
section
variable {β : Type} {enc : κ → Value} {e : β → Value} {l : List (κ × β)} {KF : Value → Prop} {C : World → Prop}
end

end

section
variable {P : Program} {w0 : World} {g : Bool} {ok : Nat → Prop} {L : List Item}
end

section
variable {P : Program} {w w' w0 : World} {K : Value → World → Prop} {g : Bool} {ok : Nat → Prop} {L R : List Item} {α σ κ : Type} [DecidableEq κ]
end

section
variable {P : Program} {w w' w0 : World} {K : Value → World → Prop} {g : Bool} {ok : Nat → Prop} {L R : List Item} {α κ : Type}
variable [DecidableEq κ]
end

section
variable {P : Program} {w0 : World} {g : Bool} {ok : Nat → Prop} {L : List Item}
end

section
variable {P : Program} {w w0 : World} {K : Value → World → Prop} {g : Bool} {ok : Nat → Prop} {L : List Item}
theorem rowsR_drop {α : Type} {k : Ty α} {w : World} {ok : Nat → Prop} : ∀ {xs : List α} {cells : List Value} (m : Nat), rowsR k w ok xs cells → rowsR k w ok (xs.drop m) (cells.drop (m * k.sz))
  | xs, cells, 0, h => by simpa using h
  | [], cells, m + 1, h => by
    have h : cells = [] := h
    subst h
    show _ = _
    simp
  | x :: xs, cells, m + 1, h => by
    obtain ⟨c, d, rfl, hx, hr⟩ := h
    have hc := k.len hx
    have := rowsR_drop m hr
    have e : (c ++ d).drop ((m + 1) * k.sz) = d.drop (m * k.sz) := by
      rw [Nat.succ_mul, Nat.add_comm, ← List.drop_drop, ← hc, List.drop_left]
    rw [e]; exact this
/-- An own row, from somewhere on, takes its own place. -/
theorem own_rowFrom {α : Type} {k : Ty α} {t e : TypeId} {A : Option Addr} {n c : Nat} {xs y : List α} {cells : List Value} {lo' : Value} (l : Int) (H : Own ok w0 w L) (i j : Nat) (hi : L[i]? = some (.row (.slice A n c) e k.sz n cells)) (hj : L[j]? = some (.dat (dRows k xs cells))) (hn : n = xs.length) (ht : sliceB P t = some e) (hs : sizeB P e = some k.sz) (hlo : loI (some lo') l) (hm : slcM xs l (xs.length : Int) = some y)
    (hk : ∀ A' c' cells', Own ok w0 w ((L.set i (.row (.slice A' y.length c') e k.sz y.length cells')).set j (.dat (dRows k y cells'))) → K (.slice A' y.length c') w) : nSlice P g t (.slice A n c) (some lo') none none w K := by
  obtain ⟨h0, h1, h2, rfl⟩ := slcS hm
  obtain ⟨q, rfl⟩ := Int.eq_ofNat_of_zero_le h0
  subst hn
  have hij : i ≠ j := fun h => by subst h; rw [hi] at hj; cases hj
  have hc : xs.length ≤ c := by obtain ⟨A', c', hv, _, hc⟩ := H.rowSl i hi; cases hv; exact hc
  have hq : q ≤ xs.length := by omega
  have e0 : (xs.drop (q : Int).toNat).take ((xs.length : Int).toNat - (q : Int).toNat) = xs.drop q := List.take_of_length_le (by simp)
  have el : (xs.drop q).length = xs.length - q := by simp
  refine pieceI_rule (xs := xs) (y := (xs.drop (q : Int).toNat).take ((xs.length : Int).toNat - (q : Int).toNat)) k.sz q xs.length ht hs hlo rfl hm ⟨rfl, hc⟩ rfl ?_
  have H1 := H.rowPiece (l := q) (h := xs.length) i hi hq (Nat.le_refl _)
  have hR := rowsR_drop q (H.dat j hj)
  have hlc : cells.length = xs.length * k.sz := (H.at hi : qRow w e k.sz (.slice A xs.length c) xs.length cells).1
  have e1 : (cells.drop (q * k.sz)).take ((xs.length - q) * k.sz) = cells.drop (q * k.sz) := by
    refine List.take_of_length_le ?_
    rw [List.length_drop, hlc, Nat.sub_mul]; omega
  rw [e1] at H1
  have hpv : piece A c (q : Int).toNat (xs.length : Int).toNat k.sz = .slice (if c = q then A else A.map (·.add (q * k.sz))) (xs.length - q) (c - q) := by simp [piece]
  have hpv2 : piece A c q xs.length k.sz = .slice (if c = q then A else A.map (·.add (q * k.sz))) (xs.length - q) (c - q) := by simp [piece]
  rw [hpv]
  have hok : okOf ok w0 (L.set i (.row (piece A c q xs.length k.sz) e k.sz (xs.length - q) (cells.drop (q * k.sz)))) = okOf ok w0 L := by
    obtain ⟨X, Y, hL, hset⟩ := list_split hi
    have : muts (L.set i (.row (piece A c q xs.length k.sz) e k.sz (xs.length - q) (cells.drop (q * k.sz)))) = muts L := by
      rw [hset]
      conv => rhs; rw [hL]
      rw [muts_split, muts_split]
      have hb : (piece A c q xs.length k.sz).ownBlock = (Value.slice A xs.length c).ownBlock := by
        rw [piece_block A c q xs.length k.sz]; cases A <;> rfl
      simp only [muts, List.flatMap_cons, Item.muts, hb]
    unfold okOf; rw [this]
  have hj' : (L.set i (.row (piece A c q xs.length k.sz) e k.sz (xs.length - q) (cells.drop (q * k.sz))))[j]? = some (.dat (dRows k xs cells)) := by rw [List.getElem?_set_ne hij]; exact hj
  have H2 := H1.setDat j (d' := dRows k (xs.drop q) (cells.drop (q * k.sz))) hj' (by rw [hok]; exact hR)
  rw [hpv2] at H2
  have := hk (if c = q then A else A.map (·.add (q * k.sz))) (c - q) (cells.drop (q * k.sz)) (by rw [e0, el]; exact H2)
  rw [e0, el] at this
  exact this
end
end Go.Eng

namespace Go.Proofs.YtfapphlhkfddoaaGreatDoor.G
open Go.RowKit Go.Eng Go.Proofs
set_option linter.unusedVariables false
set_option maxRecDepth 20000
/-! gemot/gemotlaw16.RekeyLost -/
noncomputable def gemotlaw16_RekeyLost.b1 (y8 : D_api_View) (y25 : Int) (v579 : List (Option O_rekey_Round)) (v585 : List D_gemotlaw16_letter) (v589 : Int) : Option (((List (Option O_rekey_Round)) × (List D_gemotlaw16_letter) × Int) ⊕ (((List (Option O_rekey_Round)) × (List D_gemotlaw16_letter)) ⊕ Bool)) := cond (decide (v589 < (y8.2.length : Int))) ((idxL y8.2 v589).bind fun y840 => (term_Name.f (IntKind.u64.wrap v589)).bind fun y846 => (rekey_New.f y840 y8 y846).bind fun y852 => cond (y852.1.isNone) (some (.inr (Sum.inr false))) ((y852.1).bind fun y861 => roomM 8 (v579.length + 1) ((rekey_Round_Start.f y861).bind fun y892 => (gemotlaw16_send.f v585 y8.2 v589 y892.1).bind fun y902 => some (.inl ((v579 ++ [some y892.2]), y902, (IntKind.i64.wrap (v589 + (1 : Int)))))))) (some (.inr (Sum.inl (v579, v585))))
noncomputable def gemotlaw16_RekeyLost.k2 (y8 : D_api_View) (y25 : Int) (v2160 : Int) (v2770 : List (Option O_rekey_Round)) (v2776 : List D_gemotlaw16_letter) : Option (((List (Option O_rekey_Round)) × (List D_gemotlaw16_letter) × Int) ⊕ ((List (Option O_rekey_Round)) ⊕ Bool)) := some (.inl (v2770, v2776, (IntKind.i64.wrap (v2160 + (1 : Int)))))
noncomputable def gemotlaw16_RekeyLost.b3 (y8 : D_api_View) (y25 : Int) (v2150 : List (Option O_rekey_Round)) (v2156 : List D_gemotlaw16_letter) (v2160 : Int) : Option (((List (Option O_rekey_Round)) × (List D_gemotlaw16_letter) × Int) ⊕ ((List (Option O_rekey_Round)) ⊕ Bool)) := cond (decide ((v2156.length : Int) > (0 : Int))) ((idxL v2156 (0 : Int)).bind fun y2782 => (slcM v2156 (1 : Int) (v2156.length : Int)).bind fun y2802 => (idxL y8.2 y25).bind fun y2815 => cond (y2782.1 == y2815) (gemotlaw16_RekeyLost.k2 y8 y25 v2160 v2150 y2802) ((idxL v2150 y2782.2.1).bind fun y2854 => (y2854).bind fun y2864 => (rekey_Round_Take.f y2864 y2782.1 y2782.2.2).bind fun y2866 => (gemotlaw16_send.f y2802 y8.2 y2782.2.1 y2866.1).bind fun y2876 => cond (decide (v2160 > (2000 : Int))) (some (.inr (Sum.inr false))) (gemotlaw16_RekeyLost.k2 y8 y25 v2160 (v2150.set (y2782.2.1).toNat (some y2866.2)) y2876))) (some (.inr (Sum.inl v2150)))
noncomputable def gemotlaw16_RekeyLost.b4 (y25 : Int) (v3191 : List (Option O_rekey_Round)) (v3196 : Int) : Option (((List (Option O_rekey_Round)) × Int) ⊕ (Unit ⊕ Bool)) := cond (decide (v3196 < (v3191.length : Int))) ((idxL v3191 v3196).bind fun y3319 => (y3319).bind fun y3329 => (rekey_Round_Key.f y3329).bind fun y3334 => (idxL (v3191.set (v3196).toNat (some y3329)) v3196).bind fun y3342 => (y3342).bind fun y3351 => (rekey_Round_Confirmed.f y3351).bind fun y3356 => cond (cond y3356 true (cond y3334.2 (v3196 != y25) false)) (some (.inr (Sum.inr false))) (some (.inl (((v3191.set (v3196).toNat (some y3329)).set (v3196).toNat (some y3351)), (IntKind.i64.wrap (v3196 + (1 : Int))))))) (some (.inr (Sum.inl ())))
noncomputable def gemotlaw16_RekeyLost.k5 : Option (Bool) := some true
noncomputable def gemotlaw16_RekeyLost.k6 (y25 : Int) (v1901 : List (Option O_rekey_Round)) : Option (Bool) := (loopM (fun s3315 : (List (Option O_rekey_Round)) × Int => gemotlaw16_RekeyLost.b4 y25 s3315.1 s3315.2) (v1901, (0 : Int))).bind (Sum.elim (fun (o3313 : Unit) => gemotlaw16_RekeyLost.k5) (fun (o3314 : Bool) => some o3314))
noncomputable def gemotlaw16_RekeyLost.k7 (y8 : D_api_View) (y25 : Int) (v467 : List (Option O_rekey_Round)) (v473 : List D_gemotlaw16_letter) : Option (Bool) := (loopM (fun s2657 : (List (Option O_rekey_Round)) × (List D_gemotlaw16_letter) × Int => gemotlaw16_RekeyLost.b3 y8 y25 s2657.1 s2657.2.1 s2657.2.2) (v467, v473, (0 : Int))).bind (Sum.elim (fun (o2655 : (List (Option O_rekey_Round))) => gemotlaw16_RekeyLost.k6 y25 o2655) (fun (o2656 : Bool) => some o2656))
noncomputable def gemotlaw16_RekeyLost.f (x0 : Int) (x1 : Int) : Option (Bool) := (gemotlaw16_shown.f).bind fun y1 => cond (!y1) (some false) ((gemotlaw16_of.f x0 (3 : Int)).bind fun y8 => cond (decide ((y8.2.length : Int) < (2 : Int))) (some true) ((gemotlaw16_pick.f x1 (y8.2.length : Int)).bind fun y25 => (loopM (fun s816 : (List (Option O_rekey_Round)) × (List D_gemotlaw16_letter) × Int => gemotlaw16_RekeyLost.b1 y8 y25 s816.1 s816.2.1 s816.2.2) (([] : List (Option O_rekey_Round)), ([] : List D_gemotlaw16_letter), (0 : Int))).bind (Sum.elim (fun (o811 : (List (Option O_rekey_Round)) × (List D_gemotlaw16_letter)) => gemotlaw16_RekeyLost.k7 y8 y25 o811.1 o811.2) (fun (o812 : Bool) => some o812))))
set_option maxHeartbeats 4000000 in
theorem gemotlaw16_RekeyLost_ok {ok : Nat → Prop} {w : World} {x0 : Int} {x1 : Int} {r : Bool} (h : gemotlaw16_RekeyLost.f x0 x1 = some r) :
    Calls Tryz.prog 6 #[.int .i64 x0, .int .i64 x1] w fun e w' => ∃ v, e = .returned v ∧ (v = .bool r ∧ Bel w.heap.size w w') := by
  have H : Eng.Own ok w w [] := Eng.Own.nil ok w
  unfold gemotlaw16_RekeyLost.f at h
  refine enterN (args := [.int .i64 x0, .int .i64 x1]) Tryz.func6 rfl Tryz.ntmps6 rfl rfl ?_
  refine nc_seq ?_
  refine nc ?_
  refine nc_seq ?_
  refine nc ?_
  obtain ⟨y1, hy2, h⟩ := bindS h
  refine call_rule (by kernel_rfl) (gemotlaw16_shown_ok (ok := fun _ => False) hy2) fun v4 w3 ⟨hv5, hb6⟩ => ?_
  subst hv5
  replace H := H.call hb6
  refine nc_seq ?_
  refine nc_seq ?_
  refine nc ?_
  refine nc_cond rfl (fun hc7 => ?_) (fun hc7 => ?_)
  · replace h := condT hc7 h
    refine nc_seq ?_
    refine nc ?_
    refine nc ?_
    replace h := Option.some.inj h
    subst h
    exact ret_inA [.bool false] ⟨_, rfl, ⟨rfl, H.frame⟩⟩
  · replace h := condF hc7 h
    refine nc ?_
    refine nc_seq ?_
    refine nc ?_
    obtain ⟨y8, hy9, h⟩ := bindS h
    refine call_rule (by kernel_rfl) (gemotlaw16_of_ok (ok := fun _ => False) hy9) fun v11 w10 ⟨u14, hv12, hu15, hb13⟩ => ?_
    subst hv12
    replace H := H.callDats hb13 [dSl (tInt .i64) u14 y8.2] ⟨(slR_any hu15), trivial⟩
    obtain ⟨A16, c17, hA18, _⟩ := H.sl 0 rfl
    subst hA18
    refine own_alloc (z := .agg #[.int .i64 0, .int .i64 0, .slice none 0 0]) H (by kernel_rfl) [.int .i64 0, .int .i64 0, .slice none 0 0] rfl fun g21 w22 H => ?_
    refine own_storeB (m := 3) H 0 rfl (by kernel_rfl) [.int .i64 y8.1.1, .int .i64 y8.1.2, .slice A16 y8.2.length c17] rfl rfl rfl rfl fun w23 H => ?_
    refine nc_seq ?_
    refine nc_seq ?_
    refine nc ?_
    refine own_load H 0 rfl (by kernel_rfl) (j := 2) rfl ?_
    refine nc_cond rfl (fun hc24 => ?_) (fun hc24 => ?_)
    · replace h := condT hc24 h
      refine nc_seq ?_
      refine nc ?_
      refine nc ?_
      replace h := Option.some.inj h
      subst h
      exact ret_inA [.bool true] ⟨_, rfl, ⟨rfl, H.frame⟩⟩
    · replace h := condF hc24 h
      refine nc ?_
      refine nc_seq ?_
      refine nc ?_
      refine own_load H 0 rfl (by kernel_rfl) (j := 2) rfl ?_
      obtain ⟨y25, hy26, h⟩ := bindS h
      refine call_rule (by kernel_rfl) (gemotlaw16_pick_ok (ok := fun _ => False) hy26) fun v28 w27 ⟨hv29, hb30⟩ => ?_
      subst hv29
      replace H := H.call hb30
      refine nc_seq ?_
      refine nc ?_
      refine nc_seq ?_
      refine nc ?_
      refine nc_cut (fun e w477 => ∃ (A468 : Option Addr) (c469 : Nat) (cs470 : List Value) (al471 : List (Nat × A_rekey_Round)) (A474 : Option Addr) (c475 : Nat) (cs476 : List Value) (v467 : List (Option O_rekey_Round)) (v473 : List D_gemotlaw16_letter), gemotlaw16_RekeyLost.k7 y8 y25 v467 v473 = some r ∧ e = [(6, .pointer (some ⟨g21, 0, none⟩)), (7, .int .i64 y25), (8, .slice A468 v467.length c469), (9, .slice A474 v473.length c475)] ∧ Eng.Own ok w w477 [.blk g21 [.int .i64 y8.1.1, .int .i64 y8.1.2, .slice A16 y8.2.length c17] 38, .dat (dSl (tInt .i64) (.slice A16 y8.2.length c17) y8.2), .dat (dRows tPtr (ptrA al471 v467) cs470), .row (.slice A468 v467.length c469) 46 1 v467.length cs470, box (shelfL (objO oL_rekey_Round) al471 v467), .dat (dRows t_gemotlaw16_letter v473 cs476), .row (.slice A474 v473.length c475) 60 10 v473.length cs476]) ?_ ?_
      · skip
        refine nc_seq ?_
        refine nc ?_
        refine nc_block ?_
        replace H := H.nilObjs (f := oL_rekey_Round) 46
        replace H := H.nilRowD t_gemotlaw16_letter 60
        obtain ⟨o803, hL804, hO805⟩ := bindS h
        obtain ⟨n806, hL804⟩ := loopS hL804
        refine nc ?_
        refine loop_ruleA (fun k e w810 => ∃ (A580 : Option Addr) (c581 : Nat) (cs582 : List Value) (al583 : List (Nat × A_rekey_Round)) (A586 : Option Addr) (c587 : Nat) (cs588 : List Value) (v579 : List (Option O_rekey_Round)) (v585 : List D_gemotlaw16_letter) (v589 : Int), iterM (fun s816 : (List (Option O_rekey_Round)) × (List D_gemotlaw16_letter) × Int => gemotlaw16_RekeyLost.b1 y8 y25 s816.1 s816.2.1 s816.2.2) k (v579, v585, v589) = some o803 ∧ e = [(6, .pointer (some ⟨g21, 0, none⟩)), (7, .int .i64 y25), (8, .slice A580 v579.length c581), (9, .slice A586 v585.length c587), (10, .int .i64 v589)] ∧ Eng.Own ok w w810 [.blk g21 [.int .i64 y8.1.1, .int .i64 y8.1.2, .slice A16 y8.2.length c17] 38, .dat (dSl (tInt .i64) (.slice A16 y8.2.length c17) y8.2), .dat (dRows tPtr (ptrA al583 v579) cs582), .row (.slice A580 v579.length c581) 46 1 v579.length cs582, box (shelfL (objO oL_rekey_Round) al583 v579), .dat (dRows t_gemotlaw16_letter v585 cs588), .row (.slice A586 v585.length c587) 60 10 v585.length cs588]) ⟨none, 0, [], [], none, 0, [], _, _, _, hL804, rfl, H.pickL [5, 6, 3, 4, 2, 0, 1] rfl⟩ ?_
        rintro k818 _ w817 ⟨A580, c581, cs582, al583, A586, c587, cs588, v579, v585, v589, hL804, rfl, H⟩
        obtain ⟨k809, rfl, q807, h, hq808⟩ := iterS hL804
        replace h : gemotlaw16_RekeyLost.b1 y8 y25 v579 v585 v589 = some q807 := h
        unfold gemotlaw16_RekeyLost.b1 at h
        refine nc_seq ?_
        refine nc_seq ?_
        refine nc ?_
        refine own_load H 0 rfl (by kernel_rfl) (j := 2) rfl ?_
        refine nc_cond rfl (fun hc819 => ?_) (fun hc819 => ?_)
        · replace h := condT hc819 h
          refine nc ?_
          refine nc_seq ?_
          refine nc_block ?_
          refine nc_seq ?_
          obtain ⟨y840, hx841, h⟩ := bindS h
          obtain ⟨a842, cs843, rfl, hR844, H⟩ := H.elemI 1 rfl hx841
          obtain rfl : cs843 = [.int .i64 y840] := hR844
          obtain ⟨y846, hy847, h⟩ := bindS h
          obtain ⟨y852, hy853, h⟩ := bindS h
          try dsimp only [lastL, pickI, List.drop, List.take, List.set, List.eraseIdx, List.getElem?_cons_zero, List.getElem?_cons_succ, List.cons_append, List.nil_append, List.map] at H
          refine nc ?_
          refine draw_ruleB [.dat (dCells (a842.add ((v589).toNat * ((tInt .i64)).sz)) [.int .i64 y840]), .blk g21 [.int .i64 y8.1.1, .int .i64 y8.1.2, .slice (some a842) y8.2.length c17] 38] [] (fun j => undef) [1000, 1000, 1000, 1000, 1000, 1000, 1000, 1000, 1000, 1000, 1000, 1000, 1000, 1000, 1000] (by kernel_rfl) (by kernel_rfl) H (by repeat first | exact List.nil_sublist _ | apply List.Sublist.cons_cons | apply List.Sublist.cons) ?_
          refine c_load 1 rfl (by kernel_rfl) (j := 2) rfl ?_
          refine c_idxA (e := 3) 1 _ (by kernel_rfl) (by kernel_rfl) (idxL_some hx841).1 (idxL_some hx841).2.1 ?_
          refine c_loadD 0 rfl 0 (by kernel_rfl) rfl ?_
          refine c_loadA (m := 3) 1 rfl (by kernel_rfl) (by kernel_rfl) [.int .i64 y8.1.1, .int .i64 y8.1.2, .slice (some a842) y8.2.length c17] rfl rfl ?_
          refine c_call (.string (bs y846)) (by kernel_rfl) (fun _ _ H => term_Name_ok hy847) ?_
          refine ⟨(by repeat first | exact List.nil_sublist _ | apply List.Sublist.cons_cons | apply List.Sublist.cons), ?_⟩
          refine c_callM [0, 1, 2, 3, 4, 5, 6, 7] 0 (fun v X => ∃ g854, ∃ a855, v = .tuple #[.pointer (optA g854 y852.1), .int .i64 y852.2] ∧ X = [box (optL oL_rekey_Round g854 a855 y852.1)]) rfl (by kernel_rfl) (by kernel_rfl) rfl (fun _ H => Calls.mono (rekey_New_ok (x1 := y8) H (H.dat 2 rfl) hy853) fun e w' ⟨v, he, g854, a855, hv, H⟩ => ⟨v, he, _, ⟨g854, a855, hv, rfl⟩, H⟩) ?_
          rintro v857 X858 ⟨g854, a855, rfl, rfl⟩
          dsimp only [lastL, pickI, List.drop, List.take, List.set, List.eraseIdx, List.getElem?_cons_zero, List.getElem?_cons_succ, List.cons_append, List.nil_append, List.map]
          refine ⟨(by repeat first | exact List.nil_sublist _ | apply List.Sublist.cons_cons | apply List.Sublist.cons), ?_⟩
          intro w859 H
          dsimp only [lastL, pickI, List.drop, List.take, List.set, List.eraseIdx, List.getElem?_cons_zero, List.getElem?_cons_succ, List.cons_append, List.nil_append, List.map] at H
          refine nc_seq ?_
          refine nc_seq ?_
          refine nc ?_
          refine eqlO_rule (by kernel_rfl) ?_
          refine nc_cond rfl (fun hc860 => ?_) (fun hc860 => ?_)
          · replace h := condT hc860 h
            refine nc_seq ?_
            refine nc ?_
            refine nc ?_
            cases h
            replace hq808 : (Sum.inr false) = o803 := hq808
            subst hq808
            have h := hO805
            try dsimp only [Sum.elim_inl, Sum.elim_inr] at h
            replace h := Option.some.inj h
            subst h
            exact ret_inA [.bool false] ⟨_, rfl, ⟨rfl, H.frame⟩⟩
          · replace h := condF hc860 h
            refine nc ?_
            refine nc_seq ?_
            refine nc ?_
            obtain ⟨y861, hy862, h⟩ := bindS h
            replace H := H.someAt 0 rfl hy862
            try rw [hy862]
            refine own_buildSlice (e := 46) (sz := 1) (z := .pointer none) (cs := [.pointer (some ⟨g854, 0, none⟩)]) H (by kernel_rfl) (by kernel_rfl) (by kernel_rfl) rfl rfl rfl rfl fun g864 w865 H => ?_
            obtain ⟨hr866, h⟩ := roomS h
            replace H := H.pickL [0, 5, 6, 7, 1, 2, 3, 4, 8, 9] rfl
            refine pushK_rule (z := .pointer none) 8 H (by kernel_rfl) (by kernel_rfl) rfl hr866 rfl fun A867 c868 cs869 w870 H => ?_
            obtain ⟨y892, hy893, h⟩ := bindS h
            obtain ⟨y902, hy903, h⟩ := bindS h
            try dsimp only [lastL, pickI, List.drop, List.take, List.set, List.eraseIdx, List.getElem?_cons_zero, List.getElem?_cons_succ, List.cons_append, List.nil_append, List.map] at H
            refine nc ?_
            refine draw_ruleB [.blk g21 [.int .i64 y8.1.1, .int .i64 y8.1.2, .slice (some a842) y8.2.length c17] 38] [] (fun j => undef) [1000, 1000, 1000, 1000, 1000, 1000, 1000, 1000] (by kernel_rfl) (by kernel_rfl) H (by repeat first | exact List.nil_sublist _ | apply List.Sublist.cons_cons | apply List.Sublist.cons) ?_
            refine c_load 0 rfl (by kernel_rfl) (j := 2) rfl ?_
            refine c_callM [2, 0, 1, 3, 4, 5, 6, 7, 8] 1 (fun v X => ∃ A894, ∃ c895, ∃ cs896, ∃ a898, v = .slice A894 y892.1.length c895 ∧ X = [.dat (dRows t_list_Message y892.1 cs896), .dat (dSl t_list_Message (.slice A894 y892.1.length c895) y892.1), box (oL_rekey_Round g854 a898 y892.2)]) rfl (by kernel_rfl) (by kernel_rfl) rfl (fun _ H => Calls.mono (rekey_Round_Start_ok (x0 := y861) H hy893) fun e w' ⟨v, he, A894, c895, cs896, a898, hv, H⟩ => ⟨v, he, _, ⟨A894, c895, cs896, a898, hv, rfl⟩, (H.freeze (k := t_list_Message) 1 0 rfl rfl)⟩) ?_
            rintro v900 X901 ⟨A894, c895, cs896, a898, rfl, rfl⟩
            dsimp only [lastL, pickI, List.drop, List.take, List.set, List.eraseIdx, List.getElem?_cons_zero, List.getElem?_cons_succ, List.cons_append, List.nil_append, List.map]
            refine ⟨(by repeat first | exact List.nil_sublist _ | apply List.Sublist.cons_cons | apply List.Sublist.cons), ?_⟩
            refine c_callM [9, 10, 0, 1, 2, 3, 4, 5, 6, 7, 8] 2 (fun v X => ∃ A904, ∃ c905, ∃ cs906, v = .slice A904 y902.length c905 ∧ X = [.dat (dRows t_gemotlaw16_letter y902 cs906), .row (.slice A904 y902.length c905) 60 10 y902.length cs906]) rfl (by kernel_rfl) (by kernel_rfl) rfl (fun _ H => Calls.mono (gemotlaw16_send_ok (x0 := v585) H (H.dat 10 rfl) (H.dat 3 rfl) hy903) fun e w' ⟨v, he, A904, c905, cs906, hv, H⟩ => ⟨v, he, _, ⟨A904, c905, cs906, hv, rfl⟩, H⟩) ?_
            rintro v908 X909 ⟨A904, c905, cs906, rfl, rfl⟩
            dsimp only [lastL, pickI, List.drop, List.take, List.set, List.eraseIdx, List.getElem?_cons_zero, List.getElem?_cons_succ, List.cons_append, List.nil_append, List.map]
            refine ⟨(by repeat first | exact List.nil_sublist _ | apply List.Sublist.cons_cons | apply List.Sublist.cons), ?_⟩
            intro w910 H
            dsimp only [lastL, pickI, List.drop, List.take, List.set, List.eraseIdx, List.getElem?_cons_zero, List.getElem?_cons_succ, List.cons_append, List.nil_append, List.map] at H
            refine nc ?_
            obtain ⟨he912, H⟩ := Own.pushBack (a := a855) (s := y861) (H.pickL [4, 7, 0, 1, 2, 3, 5, 6, 8, 9, 10] rfl)
            replace H := H.datAs 5 rfl (congrArg (fun q => dRows tPtr q cs869) he912)
            have ho911 : (v579 ++ [some y861]).length = (v579 ++ [some y892.2]).length := by simp only [List.length_append, List.length_cons, List.length_nil]
            replace H := H.rowAs 6 rfl ho911
            try rw [ho911]
            cases h
            exact again_inA ⟨A867, c868, cs869, (al583 ++ [(g854, a898)]), A904, c905, cs906, _, _, _, hq808, rfl, H.pickL [8, 9, 5, 6, 0, 1, 2] rfl⟩
        · replace h := condF hc819 h
          refine nc ?_
          cases h
          replace hq808 : (Sum.inl (v579, v585)) = o803 := hq808
          subst hq808
          have h := hO805
          try dsimp only [Sum.elim_inl, Sum.elim_inr] at h
          exact cut_inA ⟨A580, c581, cs582, al583, A586, c587, cs588, _, _, h, rfl, H.pickL [0, 1, 2, 3, 4, 5, 6] rfl⟩
      · rintro _ w913 ⟨A468, c469, cs470, al471, A474, c475, cs476, v467, v473, h, rfl, H⟩
        unfold gemotlaw16_RekeyLost.k7 at h
        refine nc_cut (fun e w1906 => ∃ (A1902 : Option Addr) (c1903 : Nat) (cs1904 : List Value) (al1905 : List (Nat × A_rekey_Round)) (v1901 : List (Option O_rekey_Round)), gemotlaw16_RekeyLost.k6 y25 v1901 = some r ∧ e = [(7, .int .i64 y25), (8, .slice A1902 v1901.length c1903)] ∧ Eng.Own ok w w1906 [.dat (dRows tPtr (ptrA al1905 v1901) cs1904), .row (.slice A1902 v1901.length c1903) 46 1 v1901.length cs1904, box (shelfL (objO oL_rekey_Round) al1905 v1901)]) ?_ ?_
        · skip
          refine nc_seq ?_
          refine nc ?_
          refine nc_block ?_
          obtain ⟨o2647, hL2648, hO2649⟩ := bindS h
          obtain ⟨n2650, hL2648⟩ := loopS hL2648
          refine nc ?_
          refine loop_ruleA (fun k e w2654 => ∃ (A2151 : Option Addr) (c2152 : Nat) (cs2153 : List Value) (al2154 : List (Nat × A_rekey_Round)) (A2157 : Option Addr) (c2158 : Nat) (cs2159 : List Value) (v2150 : List (Option O_rekey_Round)) (v2156 : List D_gemotlaw16_letter) (v2160 : Int), iterM (fun s2657 : (List (Option O_rekey_Round)) × (List D_gemotlaw16_letter) × Int => gemotlaw16_RekeyLost.b3 y8 y25 s2657.1 s2657.2.1 s2657.2.2) k (v2150, v2156, v2160) = some o2647 ∧ e = [(6, .pointer (some ⟨g21, 0, none⟩)), (7, .int .i64 y25), (8, .slice A2151 v2150.length c2152), (9, .slice A2157 v2156.length c2158), (13, .int .i64 v2160)] ∧ Eng.Own ok w w2654 [.blk g21 [.int .i64 y8.1.1, .int .i64 y8.1.2, .slice A16 y8.2.length c17] 38, .dat (dSl (tInt .i64) (.slice A16 y8.2.length c17) y8.2), .dat (dRows tPtr (ptrA al2154 v2150) cs2153), .row (.slice A2151 v2150.length c2152) 46 1 v2150.length cs2153, box (shelfL (objO oL_rekey_Round) al2154 v2150), .dat (dRows t_gemotlaw16_letter v2156 cs2159), .row (.slice A2157 v2156.length c2158) 60 10 v2156.length cs2159]) ⟨A468, c469, cs470, al471, A474, c475, cs476, _, _, _, hL2648, rfl, H.pickL [0, 1, 2, 3, 4, 5, 6] rfl⟩ ?_
          rintro k2659 _ w2658 ⟨A2151, c2152, cs2153, al2154, A2157, c2158, cs2159, v2150, v2156, v2160, hL2648, rfl, H⟩
          obtain ⟨k2653, rfl, q2651, h, hq2652⟩ := iterS hL2648
          replace h : gemotlaw16_RekeyLost.b3 y8 y25 v2150 v2156 v2160 = some q2651 := h
          unfold gemotlaw16_RekeyLost.b3 at h
          refine nc_seq ?_
          refine nc_seq ?_
          refine nc ?_
          refine nc_cond rfl (fun hc2660 => ?_) (fun hc2660 => ?_)
          · replace h := condT hc2660 h
            refine nc ?_
            refine nc_cut (fun e w2780 => ∃ (A2771 : Option Addr) (c2772 : Nat) (cs2773 : List Value) (al2774 : List (Nat × A_rekey_Round)) (A2777 : Option Addr) (c2778 : Nat) (cs2779 : List Value) (v2770 : List (Option O_rekey_Round)) (v2776 : List D_gemotlaw16_letter), gemotlaw16_RekeyLost.k2 y8 y25 v2160 v2770 v2776 = some q2651 ∧ e = [(6, .pointer (some ⟨g21, 0, none⟩)), (7, .int .i64 y25), (8, .slice A2771 v2770.length c2772), (9, .slice A2777 v2776.length c2778), (13, .int .i64 v2160)] ∧ Eng.Own ok w w2780 [.blk g21 [.int .i64 y8.1.1, .int .i64 y8.1.2, .slice A16 y8.2.length c17] 38, .dat (dSl (tInt .i64) (.slice A16 y8.2.length c17) y8.2), .dat (dRows tPtr (ptrA al2774 v2770) cs2773), .row (.slice A2771 v2770.length c2772) 46 1 v2770.length cs2773, box (shelfL (objO oL_rekey_Round) al2774 v2770), .dat (dRows t_gemotlaw16_letter v2776 cs2779), .row (.slice A2777 v2776.length c2778) 60 10 v2776.length cs2779]) ?_ ?_
            · skip
              refine nc_block ?_
              refine nc_seq ?_
              refine nc ?_
              obtain ⟨y2782, hx2783, h⟩ := bindS h
              obtain ⟨a2784, _, rfl, _, _⟩ := H.rowElem (k := t_gemotlaw16_letter) 6 5 rfl rfl rfl hx2783
              refine idxA_rule (e := 60) 10 _ (by kernel_rfl) (by kernel_rfl) (idxL_some hx2783).1 (idxL_some hx2783).2.1 ?_
              obtain ⟨cs2785, hR2786, hC2787⟩ := H.rowElemJ (k := t_gemotlaw16_letter) 6 5 rfl rfl rfl hx2783
              obtain ⟨u2788, u2789, rfl, hu2790, hu2791⟩ := gemotlaw16_letter_cells hR2786
              obtain ⟨A2792, c2793, rfl, H⟩ := H.openD hu2790
              obtain ⟨A2795, c2796, rfl, H⟩ := H.openD hu2791
              refine loadA_at (m := 10) hC2787 0 (by kernel_rfl) (by kernel_rfl) [.int .i64 y2782.1, .int .i64 y2782.2.1, .int .i64 y2782.2.2.1, .int .i64 y2782.2.2.2.1.1, .int .i64 y2782.2.2.2.1.2, .int .i64 y2782.2.2.2.2.1.1, .int .i64 y2782.2.2.2.2.1.2, .int .i64 y2782.2.2.2.2.2.1, .slice A2792 y2782.2.2.2.2.2.2.1.length c2793, .slice A2795 y2782.2.2.2.2.2.2.2.length c2796] rfl rfl ?_
              refine own_alloc (z := .agg #[.int .i64 0, .int .i64 0, .int .i64 0, .int .i64 0, .int .i64 0, .int .i64 0, .int .i64 0, .int .i64 0, .slice none 0 0, .slice none 0 0]) H (by kernel_rfl) [.int .i64 0, .int .i64 0, .int .i64 0, .int .i64 0, .int .i64 0, .int .i64 0, .int .i64 0, .int .i64 0, .slice none 0 0, .slice none 0 0] rfl fun g2799 w2800 H => ?_
              refine own_storeB (m := 10) H 0 rfl (by kernel_rfl) [.int .i64 y2782.1, .int .i64 y2782.2.1, .int .i64 y2782.2.2.1, .int .i64 y2782.2.2.2.1.1, .int .i64 y2782.2.2.2.1.2, .int .i64 y2782.2.2.2.2.1.1, .int .i64 y2782.2.2.2.2.1.2, .int .i64 y2782.2.2.2.2.2.1, .slice A2792 y2782.2.2.2.2.2.2.1.length c2793, .slice A2795 y2782.2.2.2.2.2.2.2.length c2796] rfl rfl rfl rfl fun w2801 H => ?_
              refine nc_seq ?_
              refine nc ?_
              obtain ⟨y2802, hx2803, h⟩ := bindS h
              refine own_rowFrom (k := t_gemotlaw16_letter) (e := 60) (1 : Int) H 9 8 rfl rfl rfl (by kernel_rfl) (by kernel_rfl) ⟨_, rfl⟩ hx2803 fun A2804 c2805 cs2806 H => ?_
              refine nc_seq ?_
              refine nc_seq ?_
              obtain ⟨y2815, hx2816, h⟩ := bindS h
              obtain ⟨a2817, cs2818, rfl, hR2819, H⟩ := H.elemI 4 rfl hx2816
              obtain rfl : cs2818 = [.int .i64 y2815] := hR2819
              refine nc ?_
              refine draw_rule [] (by kernel_rfl) (by kernel_rfl) H ?_
              refine c_load 1 rfl (by kernel_rfl) (j := 0) rfl ?_
              refine c_load 4 rfl (by kernel_rfl) (j := 2) rfl ?_
              refine c_idxA (e := 3) 1 _ (by kernel_rfl) (by kernel_rfl) (idxL_some hx2816).1 (idxL_some hx2816).2.1 ?_
              refine c_loadD 0 rfl 0 (by kernel_rfl) rfl ?_
              intro w2821 H
              refine nc_cond rfl (fun hc2822 => ?_) (fun hc2822 => ?_)
              · replace h := condT hc2822 h
                refine nc ?_
                exact cut_inA ⟨A2151, c2152, cs2153, al2154, A2804, c2805, cs2806, _, _, h, rfl, H.pickL [4, 5, 6, 7, 8, 9, 10] rfl⟩
              · replace h := condF hc2822 h
                refine nc ?_
                refine nc_seq ?_
                obtain ⟨y2854, hx2855, h⟩ := bindS h
                have ho2856 := H.objsLen 8 rfl
                obtain ⟨g2859, a2860, gp2861, hq2857, hput2858, H⟩ := idxOff (H.pickL [8, 0, 1, 2, 3, 4, 5, 6, 7, 9, 10] rfl) hx2855
                obtain ⟨a2863, _, rfl, _, _⟩ := H.rowElem (k := tPtr) 9 8 rfl rfl ho2856 hq2857
                obtain ⟨y2864, hy2865, h⟩ := bindS h
                replace H := H.someAt 0 rfl hy2865
                try rw [hy2865]
                rw [hy2865] at hq2857
                obtain ⟨y2866, hy2867, h⟩ := bindS h
                obtain ⟨y2876, hy2877, h⟩ := bindS h
                try dsimp only [lastL, pickI, List.drop, List.take, List.set, List.eraseIdx, List.getElem?_cons_zero, List.getElem?_cons_succ, List.cons_append, List.nil_append, List.map] at H
                refine nc ?_
                refine draw_ruleB [.blk g2799 [.int .i64 y2782.1, .int .i64 y2782.2.1, .int .i64 y2782.2.2.1, .int .i64 y2782.2.2.2.1.1, .int .i64 y2782.2.2.2.1.2, .int .i64 y2782.2.2.2.2.1.1, .int .i64 y2782.2.2.2.2.1.2, .int .i64 y2782.2.2.2.2.2.1, .slice A2792 y2782.2.2.2.2.2.2.1.length c2793, .slice A2795 y2782.2.2.2.2.2.2.2.length c2796] 60, .blk g21 [.int .i64 y8.1.1, .int .i64 y8.1.2, .slice (some a2817) y8.2.length c17] 38, .dat (dRows tPtr (ptrA al2154 v2150) cs2153), .row (.slice (some a2863) v2150.length c2152) 46 1 v2150.length cs2153] [] (fun j => undef) [1000, 1000, 1000, 1000, 1000, 1000, 1000, 1000, 1000, 1000, 1000, 1000, 1000, 1000, 1000, 1000, 1000] (by kernel_rfl) (by kernel_rfl) H (by repeat first | exact List.nil_sublist _ | apply List.Sublist.cons_cons | apply List.Sublist.cons) ?_
                refine c_load 1 rfl (by kernel_rfl) (j := 2) rfl ?_
                refine c_load 0 rfl (by kernel_rfl) (j := 1) rfl ?_
                refine c_load 0 rfl (by kernel_rfl) (j := 1) rfl ?_
                refine c_idxA (e := 46) 1 _ (by kernel_rfl) (by kernel_rfl) (idxL_some hx2855).1 (idxL_some hx2855).2.1 ?_
                refine c_rowLoad (k := tPtr) y2782.2.1 3 2 0 rfl rfl ho2856 hq2857 (by kernel_rfl) (fun _ _ cs hR => (show cs = [.pointer (some ⟨g2859, 0, none⟩)] → cs[0]? = some (.pointer (some ⟨g2859, 0, none⟩)) from fun h => by subst h; rfl) hR) ?_
                refine c_load 0 rfl (by kernel_rfl) (j := 0) rfl ?_
                refine c_loadA (m := 8) 0 rfl (by kernel_rfl) (by kernel_rfl) [.int .i64 y2782.2.2.1, .int .i64 y2782.2.2.2.1.1, .int .i64 y2782.2.2.2.1.2, .int .i64 y2782.2.2.2.2.1.1, .int .i64 y2782.2.2.2.2.1.2, .int .i64 y2782.2.2.2.2.2.1, .slice A2792 y2782.2.2.2.2.2.2.1.length c2793, .slice A2795 y2782.2.2.2.2.2.2.2.length c2796] rfl rfl ?_
                refine c_callM [0, 1, 2, 3, 4, 5, 6, 7, 8, 9, 10, 11] 1 (fun v X => ∃ A2868, ∃ c2869, ∃ cs2870, ∃ a2872, v = .slice A2868 y2866.1.length c2869 ∧ X = [.dat (dRows t_list_Message y2866.1 cs2870), .dat (dSl t_list_Message (.slice A2868 y2866.1.length c2869) y2866.1), box (oL_rekey_Round g2859 a2872 y2866.2)]) rfl (by kernel_rfl) (by kernel_rfl) rfl (fun _ H => Calls.mono (rekey_Round_Take_ok (x0 := y2864) (x2 := y2782.2.2) H (H.dat 5 rfl) (H.dat 4 rfl) hy2867) fun e w' ⟨v, he, A2868, c2869, cs2870, a2872, hv, H⟩ => ⟨v, he, _, ⟨A2868, c2869, cs2870, a2872, hv, rfl⟩, (H.freeze (k := t_list_Message) 1 0 rfl rfl)⟩) ?_
                rintro v2874 X2875 ⟨A2868, c2869, cs2870, a2872, rfl, rfl⟩
                dsimp only [lastL, pickI, List.drop, List.take, List.set, List.eraseIdx, List.getElem?_cons_zero, List.getElem?_cons_succ, List.cons_append, List.nil_append, List.map]
                refine ⟨(by repeat first | exact List.nil_sublist _ | apply List.Sublist.cons_cons | apply List.Sublist.cons), ?_⟩
                refine c_callM [12, 13, 0, 1, 2, 3, 4, 5, 6, 7, 8, 9, 10, 11] 2 (fun v X => ∃ A2878, ∃ c2879, ∃ cs2880, v = .slice A2878 y2876.length c2879 ∧ X = [.dat (dRows t_gemotlaw16_letter y2876 cs2880), .row (.slice A2878 y2876.length c2879) 60 10 y2876.length cs2880]) rfl (by kernel_rfl) (by kernel_rfl) rfl (fun _ H => Calls.mono (gemotlaw16_send_ok (x0 := y2802) H (H.dat 11 rfl) (H.dat 3 rfl) hy2877) fun e w' ⟨v, he, A2878, c2879, cs2880, hv, H⟩ => ⟨v, he, _, ⟨A2878, c2879, cs2880, hv, rfl⟩, H⟩) ?_
                rintro v2882 X2883 ⟨A2878, c2879, cs2880, rfl, rfl⟩
                dsimp only [lastL, pickI, List.drop, List.take, List.set, List.eraseIdx, List.getElem?_cons_zero, List.getElem?_cons_succ, List.cons_append, List.nil_append, List.map]
                refine ⟨(by repeat first | exact List.nil_sublist _ | apply List.Sublist.cons_cons | apply List.Sublist.cons), ?_⟩
                intro w2884 H
                dsimp only [lastL, pickI, List.drop, List.take, List.set, List.eraseIdx, List.getElem?_cons_zero, List.getElem?_cons_succ, List.cons_append, List.nil_append, List.map] at H
                refine nc_seq ?_
                refine nc ?_
                refine nc_cond rfl (fun hc2885 => ?_) (fun hc2885 => ?_)
                · replace h := condT hc2885 h
                  refine nc_seq ?_
                  refine nc ?_
                  refine nc ?_
                  obtain ⟨al2886, he2887, H⟩ := hput2858 (s' := (some y2866.2)) (by rw [hy2865]; first | done | rfl) (H.pickL [4, 5, 0, 1, 2, 3, 6, 7, 8, 9, 10, 11, 12, 13] rfl)
                  replace H := H.datAs 11 rfl (congrArg (fun q => dRows tPtr q cs2153) he2887)
                  have ho2888 : v2150.length = (v2150.set (y2782.2.1).toNat (some y2866.2)).length := by simp only [List.length_set]
                  replace H := H.rowAs 12 rfl ho2888
                  try rw [ho2888]
                  cases h
                  replace hq2652 : (Sum.inr false) = o2647 := hq2652
                  subst hq2652
                  have h := hO2649
                  try dsimp only [Sum.elim_inl, Sum.elim_inr] at h
                  replace h := Option.some.inj h
                  subst h
                  exact ret_inA [.bool false] ⟨_, rfl, ⟨rfl, H.frame⟩⟩
                · replace h := condF hc2885 h
                  refine nc ?_
                  obtain ⟨al2889, he2890, H⟩ := hput2858 (s' := (some y2866.2)) (by rw [hy2865]; first | done | rfl) (H.pickL [4, 5, 0, 1, 2, 3, 6, 7, 8, 9, 10, 11, 12, 13] rfl)
                  replace H := H.datAs 11 rfl (congrArg (fun q => dRows tPtr q cs2153) he2890)
                  have ho2891 : v2150.length = (v2150.set (y2782.2.1).toNat (some y2866.2)).length := by simp only [List.length_set]
                  replace H := H.rowAs 12 rfl ho2891
                  try rw [ho2891]
                  exact cut_inA ⟨some a2863, c2152, cs2153, al2889, A2878, c2879, cs2880, _, _, h, rfl, H.pickL [9, 10, 11, 12, 0, 1, 2] rfl⟩
            · rintro _ w2892 ⟨A2771, c2772, cs2773, al2774, A2777, c2778, cs2779, v2770, v2776, h, rfl, H⟩
              unfold gemotlaw16_RekeyLost.k2 at h
              refine nc ?_
              cases h
              exact again_inA ⟨A2771, c2772, cs2773, al2774, A2777, c2778, cs2779, _, _, _, hq2652, rfl, H.pickL [0, 1, 2, 3, 4, 5, 6] rfl⟩
          · replace h := condF hc2660 h
            refine nc ?_
            cases h
            replace hq2652 : (Sum.inl v2150) = o2647 := hq2652
            subst hq2652
            have h := hO2649
            try dsimp only [Sum.elim_inl, Sum.elim_inr] at h
            exact cut_inA ⟨A2151, c2152, cs2153, al2154, _, h, rfl, H.pickL [2, 3, 4] rfl⟩
        · rintro _ w2893 ⟨A1902, c1903, cs1904, al1905, v1901, h, rfl, H⟩
          unfold gemotlaw16_RekeyLost.k6 at h
          refine nc_cut (fun e w3130 => gemotlaw16_RekeyLost.k5 = some r ∧ e = [] ∧ Eng.Own ok w w3130 []) ?_ ?_
          · skip
            refine nc_seq ?_
            refine nc ?_
            refine nc_block ?_
            obtain ⟨o3305, hL3306, hO3307⟩ := bindS h
            obtain ⟨n3308, hL3306⟩ := loopS hL3306
            refine nc ?_
            refine loop_ruleA (fun k e w3312 => ∃ (A3192 : Option Addr) (c3193 : Nat) (cs3194 : List Value) (al3195 : List (Nat × A_rekey_Round)) (v3191 : List (Option O_rekey_Round)) (v3196 : Int), iterM (fun s3315 : (List (Option O_rekey_Round)) × Int => gemotlaw16_RekeyLost.b4 y25 s3315.1 s3315.2) k (v3191, v3196) = some o3305 ∧ e = [(7, .int .i64 y25), (8, .slice A3192 v3191.length c3193), (15, .int .i64 v3196)] ∧ Eng.Own ok w w3312 [.dat (dRows tPtr (ptrA al3195 v3191) cs3194), .row (.slice A3192 v3191.length c3193) 46 1 v3191.length cs3194, box (shelfL (objO oL_rekey_Round) al3195 v3191)]) ⟨A1902, c1903, cs1904, al1905, _, _, hL3306, rfl, H.pickL [0, 1, 2] rfl⟩ ?_
            rintro k3317 _ w3316 ⟨A3192, c3193, cs3194, al3195, v3191, v3196, hL3306, rfl, H⟩
            obtain ⟨k3311, rfl, q3309, h, hq3310⟩ := iterS hL3306
            replace h : gemotlaw16_RekeyLost.b4 y25 v3191 v3196 = some q3309 := h
            unfold gemotlaw16_RekeyLost.b4 at h
            refine nc_seq ?_
            refine nc_seq ?_
            refine nc ?_
            refine nc_cond rfl (fun hc3318 => ?_) (fun hc3318 => ?_)
            · replace h := condT hc3318 h
              refine nc ?_
              refine nc_seq ?_
              refine nc_block ?_
              refine nc_seq ?_
              refine nc ?_
              obtain ⟨y3319, hx3320, h⟩ := bindS h
              have ho3321 := H.objsLen 2 rfl
              obtain ⟨g3324, a3325, gp3326, hq3322, hput3323, H⟩ := idxOff (H.pickL [2, 0, 1] rfl) hx3320
              obtain ⟨a3328, _, rfl, _, _⟩ := H.rowElem (k := tPtr) 3 2 rfl rfl ho3321 hq3322
              refine idxA_rule (e := 46) 1 _ (by kernel_rfl) (by kernel_rfl) (idxL_some hx3320).1 (idxL_some hx3320).2.1 ?_
              obtain ⟨y3329, hy3330, h⟩ := bindS h
              replace H := H.someAt 0 rfl hy3330
              try rw [hy3330]
              rw [hy3330] at hq3322
              obtain ⟨cs3331, hR3332, hC3333⟩ := H.rowElemJ (k := tPtr) 3 2 rfl rfl ho3321 hq3322
              replace hR3332 : cs3331 = [.pointer (some ⟨g3324, 0, none⟩)] := hR3332
              subst hR3332
              refine load_at hC3333 0 (by kernel_rfl) rfl ?_
              obtain ⟨y3334, hy3335, h⟩ := bindS h
              refine call_rule (by kernel_rfl) (rekey_Round_Key_ok (x0 := y3329) H hy3335) fun v3337 w3336 ⟨hv3338, H⟩ => ?_
              subst hv3338
              refine nc_seq ?_
              refine nc ?_
              obtain ⟨al3339, he3340, H⟩ := hput3323 (s' := (some y3329)) (by rw [hy3330]; first | done | rfl) (H.pickL [0, 1, 2, 3] rfl)
              replace H := H.datAs 1 rfl (congrArg (fun q => dRows tPtr q cs3194) he3340)
              have ho3341 : v3191.length = (v3191.set (v3196).toNat (some y3329)).length := by simp only [List.length_set]
              replace H := H.rowAs 2 rfl ho3341
              try rw [ho3341]
              obtain ⟨y3342, hx3343, h⟩ := bindS h
              have ho3344 := H.objsLen 0 rfl
              obtain ⟨g3347, a3348, gp3349, hq3345, hput3346, H⟩ := idxOff (H.pickL [0, 1, 2] rfl) hx3343
              refine idxA_rule (e := 46) 1 _ (by kernel_rfl) (by kernel_rfl) (idxL_some hx3343).1 (idxL_some hx3343).2.1 ?_
              obtain ⟨y3351, hy3352, h⟩ := bindS h
              replace H := H.someAt 0 rfl hy3352
              try rw [hy3352]
              rw [hy3352] at hq3345
              obtain ⟨cs3353, hR3354, hC3355⟩ := H.rowElemJ (k := tPtr) 3 2 rfl rfl ho3344 hq3345
              replace hR3354 : cs3353 = [.pointer (some ⟨g3347, 0, none⟩)] := hR3354
              subst hR3354
              refine load_at hC3355 0 (by kernel_rfl) rfl ?_
              obtain ⟨y3356, hy3357, h⟩ := bindS h
              refine call_rule (by kernel_rfl) (rekey_Round_Confirmed_ok (x0 := y3351) H hy3357) fun v3359 w3358 ⟨hv3360, H⟩ => ?_
              subst hv3360
              refine nc_cond rfl (fun hc3361 => ?_) (fun hc3361 => ?_)
              · replace h := condT hc3361 h
                refine nc_seq ?_
                refine nc ?_
                refine nc ?_
                obtain ⟨al3362, he3363, H⟩ := hput3346 (s' := (some y3351)) (by rw [hy3352]; first | done | rfl) (H.pickL [0, 1, 2, 3] rfl)
                replace H := H.datAs 1 rfl (congrArg (fun q => dRows tPtr q cs3194) he3363)
                have ho3364 : (v3191.set (v3196).toNat (some y3329)).length = ((v3191.set (v3196).toNat (some y3329)).set (v3196).toNat (some y3351)).length := by simp only [List.length_set]
                replace H := H.rowAs 2 rfl ho3364
                try rw [ho3364]
                cases h
                replace hq3310 : (Sum.inr false) = o3305 := hq3310
                subst hq3310
                have h := hO3307
                try dsimp only [Sum.elim_inl, Sum.elim_inr] at h
                replace h := Option.some.inj h
                subst h
                exact ret_inA [.bool false] ⟨_, rfl, ⟨rfl, H.frame⟩⟩
              · replace h := condF hc3361 h
                refine nc ?_
                refine nc ?_
                obtain ⟨al3365, he3366, H⟩ := hput3346 (s' := (some y3351)) (by rw [hy3352]; first | done | rfl) (H.pickL [0, 1, 2, 3] rfl)
                replace H := H.datAs 1 rfl (congrArg (fun q => dRows tPtr q cs3194) he3366)
                have ho3367 : (v3191.set (v3196).toNat (some y3329)).length = ((v3191.set (v3196).toNat (some y3329)).set (v3196).toNat (some y3351)).length := by simp only [List.length_set]
                replace H := H.rowAs 2 rfl ho3367
                try rw [ho3367]
                cases h
                exact again_inA ⟨some a3328, c3193, cs3194, al3365, _, _, hq3310, rfl, H.pickL [1, 2, 0] rfl⟩
            · replace h := condF hc3318 h
              refine nc ?_
              cases h
              replace hq3310 : (Sum.inl ()) = o3305 := hq3310
              subst hq3310
              have h := hO3307
              try dsimp only [Sum.elim_inl, Sum.elim_inr] at h
              exact cut_inA ⟨h, rfl, H.pickL [] rfl⟩
          · rintro _ w3368 ⟨h, rfl, H⟩
            unfold gemotlaw16_RekeyLost.k5 at h
            refine nc_seq ?_
            refine nc ?_
            refine nc ?_
            replace h := Option.some.inj h
            subst h
            exact ret_inA [.bool true] ⟨_, rfl, ⟨rfl, H.frame⟩⟩
end Go.Proofs.YtfapphlhkfddoaaGreatDoor.G

namespace Go.Proofs.YtfapphlhkfddoaaGreatDoor.G
open Go.RowKit Go.Eng Go.Proofs Go.Proofs.YtfapphlhkfddoaaGreatDoor.Cut
set_option linter.unusedVariables false
set_option linter.unusedSimpArgs false

theorem preK_all {K : List (List UInt8 × List UInt8)} {π : List UInt8} : ∀ d m, m ≤ d → m ≤ preK K π d → ∀ j, d - m ≤ j → j < d → (getA (besideT (π.take (j + 1))) K).isSome = true := by
  intro d
  induction d with
  | zero => intro m _ _ j _ hj; omega
  | succ d ih =>
    intro m hm h j h1 h2
    cases m with
    | zero => omega
    | succ m =>
      rw [preK_succ] at h
      split at h
      · rename_i hg
        by_cases e : j = d
        · rw [e]; exact hg
        · exact ih m (by omega) (by omega) j (by omega) (by omega)
      · omega
/-- Where two ways part. -/
theorem part_at {a b : List UInt8} (hab : ¬ a <+: b) : ∀ k d, d + k = a.length → a.take d <+: b → ∃ e, d ≤ e ∧ e < a.length ∧ a.take e <+: b ∧ ¬ a.take (e + 1) <+: b := by
  intro k
  induction k with
  | zero =>
    intro d hd h
    rw [List.take_of_length_le (by omega)] at h
    exact absurd h hab
  | succ k ih =>
    intro d hd h
    by_cases h2 : a.take (d + 1) <+: b
    · obtain ⟨e, e1, e2, e3, e4⟩ := ih (d + 1) (by omega) h2
      exact ⟨e, by omega, e2, e3, e4⟩
    · exact ⟨d, Nat.le_refl _, by omega, h, h2⟩
theorem pre_not {K : List (List UInt8 × List UInt8)} {a b : List UInt8} (hca : ∀ c ∈ a, c = 108 ∨ c = 114) (hcb : ∀ c ∈ b, c = 108 ∨ c = 114) (hab : ¬ a <+: b) (hba : ¬ b <+: a) (hK : ∀ y, (getA y K).isSome = true → ¬ y <+: b) {d : Nat} (hd : d ≤ a.length) (h : a.take d <+: b) : preK K a a.length < a.length - d := by
  obtain ⟨e, e1, e2, e3, e4⟩ := part_at hab (a.length - d) d (by omega) h
  refine Nat.lt_of_not_le fun hle => ?_
  have hk := preK_all a.length (a.length - d) (by omega) hle e (by omega) e2
  refine hK _ hk ?_
  obtain ⟨t, ht⟩ := e3
  cases t with
  | nil =>
    rw [List.append_nil] at ht
    exact absurd ⟨a.drop e, by rw [← ht, List.take_append_drop]⟩ hba
  | cons c t =>
    have hc : c = 108 ∨ c = 114 := hcb c (by rw [← ht]; simp)
    have ha := hca a[e] (List.getElem_mem e2)
    have hne : a[e] ≠ c := fun q => e4 ⟨t, by rw [← take_snoc e2, q, List.append_assoc]; exact ht⟩
    refine ⟨t, ?_⟩
    rw [← take_snoc e2, besideT_snoc, List.append_assoc, ← ht]
    congr 1
    show [_] ++ t = c :: t
    rcases ha with p | p <;> rcases hc with q | q <;> simp_all
theorem leaf_apart {T : Tr} {p q : Int} {a b : List UInt8} (hp : pathL T p = some a) (hq : pathL T q = some b) (hpq : p ≠ q) : ¬ a <+: b := by
  rintro ⟨t, rfl⟩
  have := path_here hq (path_leafAt T p a hp).1
  exact hpq (List.mem_singleton.1 this).symm
section
variable {T : Tr} {V : D_api_View} {first : Int}
/-- No beginning of the way of s. -/
def offS (T : Tr) (s : Nat) (y : List UInt8) : Prop := ¬ y <+: pth T (mAt T s)
theorem off_closed (hv : ViewOk T V) {s j : Nat} (hs : s < nN T) (hj : j < nN T) (hsj : j ≠ s) : closedQ T (mAt T j) (pth T (mAt T j)) (offS T s) := by
  intro K hK n hn hpre
  have hps := mAt_path hs
  have hpj := mAt_path hj
  have hne : mAt T j ≠ mAt T s := fun e => hsj (mAt_inj hv.nd hj hs e)
  obtain ⟨c, c1, c2, c3, c4, c5⟩ := duty_nodes hv hpj
  obtain ⟨t, ht, et⟩ := List.mem_take_iff_getElem.1 hn
  have htc : t < c := by omega
  have e1 : (duT T (mAt T j))[t] = (pth T (mAt T j)).take ((pth T (mAt T j)).length - t) := by
    have : (duT T (mAt T j))[t]? = some ((pth T (mAt T j)).take ((pth T (mAt T j)).length - t)) := by
      rw [c2, List.getElem?_take_of_lt htc, ← idxL_nat, up_get (by omega)]
    rw [List.getElem?_eq_getElem (by omega)] at this
    exact Option.some.inj this
  rw [← et, e1] at hpre
  have := pre_not (path_leafAt T _ _ hpj).2 (path_leafAt T _ _ hps).2 (leaf_apart hpj hps hne) (leaf_apart hps hpj (fun e => hne e.symm)) hK (d := (pth T (mAt T j)).length - t) (by omega) hpre
  omega
theorem off_key (hv : ViewOk T V) {s j : Nat} (hs : s < nN T) (hj : j < nN T) (hsj : j ≠ s) {K : List (List UInt8 × List UInt8)} (hK : ∀ y, (getA y K).isSome = true → offS T s y) : preK K (pth T (mAt T j)) (pth T (mAt T j)).length ≠ (pth T (mAt T j)).length := by
  have hps := mAt_path hs
  have hpj := mAt_path hj
  have hne : mAt T j ≠ mAt T s := fun e => hsj (mAt_inj hv.nd hj hs e)
  have := pre_not (path_leafAt T _ _ hpj).2 (path_leafAt T _ _ hps).2 (leaf_apart hpj hps hne) (leaf_apart hps hpj (fun e => hne e.symm)) hK (d := 0) (Nat.zero_le _) (by rw [List.take_zero]; exact List.nil_prefix)
  omega
/-- What the others know and mark while s is silent. -/
structure LostOk (T : Tr) (s : Nat) (o : Nat → O_rekey_Round) : Prop where
  known : ∀ j, j < nN T → j ≠ s → ∀ y, (getA y (o j).known_).isSome = true → offS T s y
  marks : (o s).marks_ = []
theorem start_marks (hv : ViewOk T V) {o : Nat → O_rekey_Round} (h : StartOk T V first o) {i : Nat} (hi : i < nN T) : (o i).marks_ = [] := by
  obtain ⟨O', h1, h2, h3, h4, h5, h6, h7⟩ := start_mem (T := T) (V := V) (first := first) (p := mAt T i) (π := pth T (mAt T i)) (O := roundO (mAt T i) V T (nmAt first i)) hv
    ⟨rfl, rfl, (nm_at hv.nd first hi).symm, rfl, fun n e hn => by cases hn⟩ (mAt_path hi) (fun q m hq => by cases hq) (t := 0) (fun n => by
      rw [List.take_zero]
      constructor
      · intro hh
        have : ((getA n ([] : List (List UInt8 × Int))).getD 0) = (0 : Int) := rfl
        have hh' : ((getA n ([] : List (List UInt8 × Int))).getD 0) > (0 : Int) := hh
        omega
      · intro hh; cases hh) (Nat.zero_le _) (fun hb => by cases hb)
  have := h.start i hi
  rw [h1] at this
  rw [← (Prod.mk.inj (Option.some.inj this)).2, h4]
  rfl
theorem lost_start (hv : ViewOk T V) {s : Nat} (hs : s < nN T) {o : Nat → O_rekey_Round} (h : StartOk T V first o) : LostOk T s o :=
  ⟨fun j hj hjs y hy => h.keep j hj _ (off_closed hv hs hj hjs) y hy, start_marks hv h hs⟩
theorem lost_said (hv : ViewOk T V) {s i : Nat} (hs : s < nN T) (hi : i < nN T) (his : i ≠ s) {o : Nat → O_rekey_Round} (h : LostOk T s o) {n : List UInt8} (hn : n ∈ (duT T (mAt T i)).take (canI T o i)) : offS T s n :=
  off_closed hv hs hi his (o i).known_ (h.known i hi his) n hn
theorem lost_marked (hv : ViewOk T V) {s i : Nat} (hs : s < nN T) (hi : i < nN T) (his : i ≠ s) {o : Nat → O_rekey_Round} (h : LostOk T s o) (hm : MemOk T V first (mAt T i) (pth T (mAt T i)) (o i)) : (o i).marked_ = false := by
  cases hb : (o i).marked_ with
  | false => rfl
  | true => exact absurd (hm.marked.1 hb) (off_key hv hs hi his (h.known i hi his))
theorem take_B_marks (hv : ViewOk T V) {p q : Int} {π : List UInt8} {O O' : O_rekey_Round} {out : List D_list_Message} (hm : MemOk T V first p π O) (hπ : pathL T p = some π) {x : List UInt8} {S : Tr} (hx : subT T x = some S) (hne : x ≠ []) (hl : x.length ≤ 100) (hs : sponM T.text x = q) (hq : q ∈ memS T) (hqp : q ≠ p)
    (ht : rekey_Round_Take.f O q (msgB T V first x) = some (out, O')) : O'.marks_ = O.marks_ := by
  rw [take_blind hv hm.rk hx hne hl hs hq hqp] at ht
  by_cases hg : (getA x O.known_).isSome = true
  · rw [if_pos hg] at ht
    rw [← (Prod.mk.inj (Option.some.inj ht)).2]
  · rw [if_neg hg] at ht
    have hmono : ∀ y, (getA y O.known_).isSome = true → (getA y ({ O with known_ := putA x (blT T first x) O.known_ } : O_rekey_Round).known_).isSome = true := fun y hy => by
      show (getA y (putA x (blT T first x) O.known_)).isSome = true
      rw [getA_put]; split
      · rfl
      · exact hy
    obtain ⟨O2, h1, h2, h3, h4, h5, h6⟩ := start_mem (O := { O with known_ := putA x (blT T first x) O.known_ }) hv
      ⟨hm.rk.me, hm.rk.v, hm.rk.sec, hm.rk.tree, fun n e hn => by
        rw [show getA n ({ O with known_ := putA x (blT T first x) O.known_ } : O_rekey_Round).known_ = getA n (putA x (blT T first x) O.known_) from rfl, getA_put] at hn
        split at hn
        · rename_i he
          cases hn
          rw [he]
          exact ⟨rfl, S, hx⟩
        · exact hm.rk.known n e hn⟩ hπ hm.mrk (t := canT T p π O) hm.told (canT_mono hmono) (fun hb => by
        have a := hm.marked.1 hb
        have b := preK_mono hmono π π.length
        have c := preK_le ({ O with known_ := putA x (blT T first x) O.known_ } : O_rekey_Round).known_ π π.length
        omega)
    rw [h1] at ht
    rw [← (Prod.mk.inj (Option.some.inj ht)).2, h4]
theorem lost_step (hv : ViewOk T V) {s i j : Nat} (hs : s < nN T) (hi : i < nN T) (his : i ≠ s) (hj : j < nN T) (hij : i ≠ j) {o : Nat → O_rekey_Round} (h : LostOk T s o) (hmem : ∀ r, r < nN T → MemOk T V first (mAt T r) (pth T (mAt T r)) (o r)) {x : D_list_Message} (hx : saidBy T V first (mAt T i) (canI T o i) (o i).marked_ x) {O' : O_rekey_Round} {out : List D_list_Message} (ht : rekey_Round_Take.f (o j) (mAt T i) x = some (out, O')) (hk : keepQ T V first (mAt T j) (pth T (mAt T j)) x (o j) O') : LostOk T s (updO o j O') := by
  refine ⟨fun r hr hrs y hy => ?_, ?_⟩
  · by_cases e : r = j
    · subst e
      rw [updO_eq] at hy
      refine hk _ (off_closed hv hs hr hrs) (h.known r hr hrs) (fun n hn => ?_) y hy
      rcases hx with ⟨n', hn', e2⟩ | ⟨e2, hb⟩
      · rw [e2] at hn
        rw [← msgB_inj hn]
        exact lost_said hv hs hi his h hn'
      · rw [lost_marked hv hs hi his h (hmem i hi)] at hb
        cases hb
    · rw [updO_ne _ _ e] at hy
      exact h.known r hr hrs y hy
  · by_cases e : s = j
    · subst e
      rw [updO_eq]
      rcases hx with ⟨n, hn, e2⟩ | ⟨e2, hb⟩
      · subst e2
        have hn' := List.mem_of_mem_take hn
        obtain ⟨_, _, _, _, _, h5⟩ := duty_nodes hv (mAt_path hi)
        obtain ⟨_, h6, h7, S, h8⟩ := h5 n hn'
        have hsp : sponM T.text n = mAt T i := ((dut_mem hv.ok hv.nd h8 _).1 hn').2
        rw [take_B_marks hv (hmem s hs) (mAt_path hs) h8 h6 (by omega) hsp (mAt_mem hi) (fun e => hij (mAt_inj hv.nd hi hs e)) ht, h.marks]
      · rw [lost_marked hv hs hi his h (hmem i hi)] at hb
        cases hb
    · rw [updO_ne _ _ e]
      exact h.marks
theorem sys_drop {P : Nat → Prop} {o : Nat → O_rekey_Round} {l : D_gemotlaw16_letter} {b : List D_gemotlaw16_letter} (h : SysOk T V first P o (l :: b)) (hl : ∀ i, i < nN T → P i → l.1 ≠ mAt T i) : SysOk T V first P o b :=
  ⟨h.mem, fun x hx => h.let1 x (List.mem_cons_of_mem _ hx), fun i j hi hj hij hP n hn => (h.due i j hi hj hij hP n hn).imp id fun q => (List.mem_cons.1 q).resolve_left fun e => hl i hi hP (by rw [← e]), fun i j hi hj hij hP hb => (h.mrk i j hi hj hij hP hb).imp id fun q => (List.mem_cons.1 q).resolve_left fun e => hl i hi hP (by rw [← e])⟩
theorem lost_no_key (hv : ViewOk T V) {s i : Nat} (hs : s < nN T) (hi : i < nN T) (his : i ≠ s) {o : Nat → O_rekey_Round} (h : LostOk T s o) (hm : MemOk T V first (mAt T i) (pth T (mAt T i)) (o i)) : rekey_Round_Key.f (o i) = some ([], false) ∧ rekey_Round_Confirmed.f (o i) = some false := by
  have hk := off_key hv hs hi his (h.known i hi his)
  refine ⟨by rw [key_is hv hm.rk (mAt_path hi), if_neg hk], ?_⟩
  rw [confirmed_is hv hm.rk (mAt_path hi) hm.mrk, decide_eq_false (fun q => hk q.1)]
theorem lost_none (hv : ViewOk T V) {s : Nat} (hs : s < nN T) (h2 : 2 ≤ nN T) {o : Nat → O_rekey_Round} (h : LostOk T s o) (hm : MemOk T V first (mAt T s) (pth T (mAt T s)) (o s)) : rekey_Round_Confirmed.f (o s) = some false := by
  obtain ⟨r, hr, hrs⟩ : ∃ r, r < nN T ∧ r ≠ s := by
    by_cases e : s = 0
    · exact ⟨1, by omega, by omega⟩
    · exact ⟨0, by omega, fun q => e q.symm⟩
  rw [confirmed_is hv hm.rk (mAt_path hs) hm.mrk, decide_eq_false]
  rintro ⟨_, q⟩
  have := q (mAt T r) (mAt_mem hr) (fun e => hrs (mAt_inj hv.nd hr hs e))
  rw [h.marks] at this
  cases this
end
theorem nm_zero {i : Nat} (hi : i ≤ 1000) : term_Name.f (IntKind.u64.wrap (i : Int)) = some (nmAt 0 i) := by
  have h : IntKind.u64.wrap ((0 : Int) + IntKind.u64.wrap (i : Int)) = IntKind.u64.wrap (i : Int) := by
    rw [Int.zero_add]
    have e : IntKind.u64.wrap (i : Int) = (i : Int) := by
      show ((i : Int) % (2 ^ 64 : Int)) = _
      omega
    rw [e, e]
  show some (countedT 110 (IntKind.u64.wrap (i : Int))) = some (countedT 110 (IntKind.u64.wrap ((0 : Int) + IntKind.u64.wrap (i : Int))))
  rw [h]
/-! The loops -/
theorem lost_begin {ms : List Int} (hm : MsOk ms) {e h : Int} (hh : h ∈ ms) (he : 0 ≤ e ∧ e ≤ 1000) {y25 : Int} {o : Nat → O_rekey_Round} (ho : StartOk (buildT ms) ((e, h), ms) 0 o) :
    loopM (fun s : (List (Option O_rekey_Round)) × (List D_gemotlaw16_letter) × Int => gemotlaw16_RekeyLost.b1 ((e, h), ms) y25 s.1 s.2.1 s.2.2) (([] : List (Option O_rekey_Round)), ([] : List D_gemotlaw16_letter), (0 : Int)) = some (.inl (osL o (nN (buildT ms)), rowS (buildT ms) ((e, h), ms) 0 o (nN (buildT ms)))) := by
  have hv := view_of hm hh he
  have hms : memS (buildT ms) = ms := buildT_ms hm
  have hN : nN (buildT ms) = ms.length := by show (memS (buildT ms)).length = _; rw [hms]
  have h8 := nN_le hv
  refine loop_count (fun i => (osL o i, rowS (buildT ms) ((e, h), ms) 0 o i, (i : Int))) (nN (buildT ms)) (fun i hi => ?_) ?_
  · show gemotlaw16_RekeyLost.b1 ((e, h), ms) y25 (osL o i) (rowS (buildT ms) ((e, h), ms) 0 o i) (i : Int) = _
    have hil : i < ms.length := by omega
    have hmi : ms[i] = mAt (buildT ms) i := by rw [mAt_get hi]; simp only [hms]
    have hnm := nmAt_ok 0 i
    unfold gemotlaw16_RekeyLost.b1
    rw [cond_t (by show (i : Int) < (ms.length : Int); omega)]
    rw [show idxL (((e, h), ms) : D_api_View).2 (i : Int) = some ms[i] from idxL_lt hil, Option.bind_some]
    rw [nm_zero (by omega), Option.bind_some]
    rw [new_is hm hh he (List.getElem_mem hil) hnm.1 hnm.2, Option.bind_some, hmi]
    show (cond false _ _) = _
    rw [cond_false, Option.bind_some, osL_len, room_of (by omega), ho.start i hi, Option.bind_some]
    have hsend := send_eq (ms := ms) (l := outS (buildT ms) ((e, h), ms) 0 i (o i)) (by have := outS_len (first := 0) hv hi (o i); omega) hil (by omega) (rowS (buildT ms) ((e, h), ms) 0 o i) (by have := rowS_len (first := 0) hv o (show i ≤ nN (buildT ms) by omega); omega)
    rw [show gemotlaw16_send.f (rowS (buildT ms) ((e, h), ms) 0 o i) (((e, h), ms) : D_api_View).2 (i : Int) (outS (buildT ms) ((e, h), ms) 0 i (o i), o i).1 = _ from hsend, Option.bind_some, wrap1 i (by omega), osL_succ, rowS_succ, hmi, hN]
  · show gemotlaw16_RekeyLost.b1 _ _ _ _ ((nN (buildT ms) : Nat) : Int) = _
    unfold gemotlaw16_RekeyLost.b1
    rw [cond_f (by show ¬ ((nN (buildT ms) : Int) < (ms.length : Int)); omega)]
theorem lost_loop {ms : List Int} (hm : MsOk ms) {e h : Int} (hh : h ∈ ms) (he : 0 ≤ e ∧ e ≤ 1000) {s : Nat} (hs : s < nN (buildT ms)) : ∀ (k : Nat) (o : Nat → O_rekey_Round) (row : List D_gemotlaw16_letter) (i : Nat),
    SysOk (buildT ms) ((e, h), ms) 0 (fun r => r ≠ s) o row → LostOk (buildT ms) s o → phiW 1 1 (buildT ms) o row = k → k + i ≤ 1000 →
    ∃ o', loopM (fun st : (List (Option O_rekey_Round)) × (List D_gemotlaw16_letter) × Int => gemotlaw16_RekeyLost.b3 ((e, h), ms) (s : Int) st.1 st.2.1 st.2.2) (osL o (nN (buildT ms)), row, (i : Int)) = some (.inl (osL o' (nN (buildT ms)))) ∧
      SysOk (buildT ms) ((e, h), ms) 0 (fun r => r ≠ s) o' [] ∧ LostOk (buildT ms) s o' := by
  have hv := view_of hm hh he
  have hms : memS (buildT ms) = ms := buildT_ms hm
  have hN : nN (buildT ms) = ms.length := by show (memS (buildT ms)).length = _; rw [hms]
  have h8 := nN_le hv
  intro k
  induction k with
  | zero =>
    intro o row i hsys hlo hk _
    have hr : row.length = 0 := by
      unfold phiW at hk
      rw [rowW_one] at hk
      omega
    rw [List.length_eq_zero_iff] at hr
    subst hr
    exact ⟨o, loop_end rfl, hsys, hlo⟩
  | succ k ih =>
    intro o row i hsys hlo hk hki
    cases row with
    | nil => exact ⟨o, loop_end rfl, hsys, hlo⟩
    | cons l b =>
      have hbl : b.length ≤ k := by
        unfold phiW at hk
        rw [rowW_one, List.length_cons] at hk
        omega
      have s2 : slcM (l :: b) (1 : Int) (((l :: b).length : Nat) : Int) = some b := by
        unfold slcM
        rw [if_pos ⟨by omega, by rw [List.length_cons]; omega, Int.le_refl _⟩]
        show some (b.take _) = _
        rw [List.take_of_length_le (by rw [List.length_cons]; omega)]
      have hsl : s < ms.length := by omega
      have hmsS : ms[s] = mAt (buildT ms) s := by rw [mAt_get hs]; simp only [hms]
      have hbody : gemotlaw16_RekeyLost.b3 ((e, h), ms) (s : Int) (osL o (nN (buildT ms))) (l :: b) (i : Int) = cond (l.1 == mAt (buildT ms) s) (gemotlaw16_RekeyLost.k2 ((e, h), ms) (s : Int) (i : Int) (osL o (nN (buildT ms))) b) ((idxL (osL o (nN (buildT ms))) l.2.1).bind fun y2854 => (y2854).bind fun y2864 => (rekey_Round_Take.f y2864 l.1 l.2.2).bind fun y2866 => (gemotlaw16_send.f b ms l.2.1 y2866.1).bind fun y2876 => cond (decide ((i : Int) > (2000 : Int))) (some (.inr (Sum.inr false))) (gemotlaw16_RekeyLost.k2 ((e, h), ms) (s : Int) (i : Int) ((osL o (nN (buildT ms))).set (l.2.1).toNat (some y2866.2)) y2876)) := by
        unfold gemotlaw16_RekeyLost.b3
        rw [cond_t (by rw [List.length_cons]; omega)]
        show ((some l).bind _) = _
        rw [Option.bind_some, s2, Option.bind_some, show idxL (((e, h), ms) : D_api_View).2 (s : Int) = some ms[s] from idxL_lt hsl, Option.bind_some, hmsS]
      by_cases hd : l.1 = mAt (buildT ms) s
      · have hs' := sys_drop hsys (fun r hr hrs q => hrs (mAt_inj hv.nd hr hs (q.symm.trans hd)))
        obtain ⟨o', h1, h2, h3⟩ := ih o b (i + 1) hs' hlo (by
          unfold phiW at hk ⊢
          rw [rowW_one, List.length_cons] at hk
          rw [rowW_one]
          omega) (by omega)
        refine ⟨o', loop_step ?_ h1, h2, h3⟩
        show gemotlaw16_RekeyLost.b3 ((e, h), ms) (s : Int) (osL o (nN (buildT ms))) (l :: b) (i : Int) = _
        rw [hbody, show (l.1 == mAt (buildT ms) s) = true by simpa using hd, cond_true]
        unfold gemotlaw16_RekeyLost.k2
        rw [wrap1 i (by omega)]
      · obtain ⟨i0, j, x, O', hi0, hj, hij, hl, hsaid, k1, k2, k4, k5⟩ := step_sys (a := []) hv hsys
        have his : i0 ≠ s := fun q => hd (by rw [hl, q])
        have hlo' := lost_step hv hs hi0 his hj hij hlo hsys.mem hsaid k1 k4
        have hjl : j < ms.length := by omega
        have hmj : ms[j] = mAt (buildT ms) j := by rw [mAt_get hj]; simp only [hms]
        have hp1 := phi_step (V := ((e, h), ms)) (first := 0) 1 1 (o := o) (a := []) (b := b) (l := l) hj k2
        rw [one_w, show ([] : List D_gemotlaw16_letter) ++ l :: b = l :: b from rfl] at hp1
        obtain ⟨o', h1, h2, h3⟩ := ih (updO o j O') _ (i + 1) k5 hlo' (by omega) (by omega)
        refine ⟨o', loop_step ?_ h1, h2, h3⟩
        show gemotlaw16_RekeyLost.b3 ((e, h), ms) (s : Int) (osL o (nN (buildT ms))) (l :: b) (i : Int) = _
        rw [hbody, show (l.1 == mAt (buildT ms) s) = false by simpa using hd, cond_false, hl]
        dsimp only
        rw [osL_get o hj, Option.bind_some, Option.bind_some, k1, Option.bind_some]
        have hsend := send_eq (ms := ms) (l := outI (buildT ms) ((e, h), ms) 0 j (o j) O') (by have := outI_len hv hj k2; omega) hjl (by omega) b (by omega)
        dsimp only
        rw [hsend, Option.bind_some, cond_f (by omega)]
        unfold gemotlaw16_RekeyLost.k2
        rw [wrap1 i (by omega), show ((j : Int)).toNat = j from rfl, osL_set o hj, hmj, hN, List.nil_append]
theorem osL_same3 {o : Nat → O_rekey_Round} {N i : Nat} (h : i < N) : (osL o N).set i (some (o i)) = osL o N := by
  rw [osL_set o h]
  congr 1
  funext k
  unfold updO
  split
  · rename_i e; rw [e]
  · rfl
theorem lost_end {ms : List Int} (hm : MsOk ms) {e h : Int} (hh : h ∈ ms) (he : 0 ≤ e ∧ e ≤ 1000) {s : Nat} (hs : s < nN (buildT ms)) (h2 : 2 ≤ nN (buildT ms)) {o : Nat → O_rekey_Round} (hsys : SysOk (buildT ms) ((e, h), ms) 0 (fun r => r ≠ s) o []) (hlo : LostOk (buildT ms) s o) :
    loopM (fun st : (List (Option O_rekey_Round)) × Int => gemotlaw16_RekeyLost.b4 (s : Int) st.1 st.2) (osL o (nN (buildT ms)), (0 : Int)) = some (.inl ()) := by
  have hv := view_of hm hh he
  have h8 := nN_le hv
  refine loop_count (fun i => (osL o (nN (buildT ms)), (i : Int))) (nN (buildT ms)) (fun i hi => ?_) ?_
  · show gemotlaw16_RekeyLost.b4 (s : Int) (osL o (nN (buildT ms))) (i : Int) = _
    have hb : ∃ y b, rekey_Round_Key.f (o i) = some (y, b) ∧ rekey_Round_Confirmed.f (o i) = some false ∧ cond b ((i : Int) != (s : Int)) false = false := by
      by_cases his : i = s
      · subst his
        refine ⟨_, _, key_is hv (hsys.mem i hi).rk (mAt_path hi) |>.trans (by rfl), lost_none hv hi h2 hlo (hsys.mem i hi), ?_⟩
        rw [bne_self_eq_false]
        have hb : ∀ b : Bool, cond b false false = false := fun b => by cases b <;> rfl
        exact hb _
      · obtain ⟨k1, k2⟩ := lost_no_key hv hs hi his hlo (hsys.mem i hi)
        exact ⟨_, _, k1, k2, rfl⟩
    obtain ⟨y, b, k1, k2, k3⟩ := hb
    unfold gemotlaw16_RekeyLost.b4
    rw [osL_len, cond_t (by omega), osL_get o hi, Option.bind_some, Option.bind_some, k1, Option.bind_some, show ((i : Int)).toNat = i from rfl, osL_same3 hi, osL_get o hi, Option.bind_some, Option.bind_some, k2, Option.bind_some]
    dsimp only
    rw [k3]
    show (cond false _ _) = _
    rw [cond_false, osL_same3 hi, wrap1 i (by omega)]
  · show gemotlaw16_RekeyLost.b4 (s : Int) (osL o (nN (buildT ms))) ((nN (buildT ms) : Nat) : Int) = _
    unfold gemotlaw16_RekeyLost.b4
    rw [osL_len, cond_f (by omega)]
theorem lost_law {x0 x1 : Int} (h0 : inI64 x0) (h1 : inI64 x1) : gemotlaw16_RekeyLost.f x0 x1 = some true := by
  obtain ⟨ms, hm, hof⟩ := of_is h0
  obtain ⟨e, h, hV, hh, he0, he1⟩ := hof 3 (by constructor <;> decide)
  unfold gemotlaw16_RekeyLost.f
  rw [shown16, Option.bind_some, Bool.not_true, cond_false, hV, Option.bind_some]
  have he : 0 ≤ e ∧ e ≤ 1000 := ⟨he0, by omega⟩
  have hv := view_of hm hh he
  have hms : memS (buildT ms) = ms := buildT_ms hm
  have hN : nN (buildT ms) = ms.length := by show (memS (buildT ms)).length = _; rw [hms]
  have h8 := nN_le hv
  dsimp only
  by_cases hl : (ms.length : Int) < (2 : Int)
  · rw [decide_eq_true hl]; rfl
  rw [decide_eq_false hl, cond_false]
  obtain ⟨y, hy, hy0, hy1⟩ := pick16 h1 (n := (ms.length : Int)) (by omega)
  obtain ⟨s, rfl⟩ : ∃ s : Nat, y = (s : Int) := ⟨y.toNat, by omega⟩
  have hs : s < nN (buildT ms) := by omega
  obtain ⟨o0, ho⟩ := start_all (first := 0) hv
  have hsys := start_sys hv ho (fun r => r ≠ s)
  have hphi : phiW 1 1 (buildT ms) o0 (rowS (buildT ms) ((e, h), ms) 0 o0 (nN (buildT ms))) = allW (buildT ms) 1 1 := rowS_w 1 1 o0 (Nat.le_refl _)
  have hle := allW_le hv
  obtain ⟨o, k1, k2, k3⟩ := lost_loop hm hh he hs (allW (buildT ms) 1 1) o0 _ 0 hsys (lost_start hv hs ho) hphi (by omega)
  have k1' : loopM (fun st : (List (Option O_rekey_Round)) × (List D_gemotlaw16_letter) × Int => gemotlaw16_RekeyLost.b3 ((e, h), ms) (s : Int) st.1 st.2.1 st.2.2) (osL o0 (nN (buildT ms)), rowS (buildT ms) ((e, h), ms) 0 o0 (nN (buildT ms)), (0 : Int)) = _ := k1
  rw [hy, Option.bind_some, lost_begin hm hh he ho, Option.bind_some]
  show gemotlaw16_RekeyLost.k7 _ _ _ _ = _
  unfold gemotlaw16_RekeyLost.k7
  rw [k1', Option.bind_some]
  show gemotlaw16_RekeyLost.k6 _ _ = _
  unfold gemotlaw16_RekeyLost.k6
  rw [lost_end hm hh he hs (by omega) k2 k3, Option.bind_some]
  rfl
theorem lost_row {w : World} {x0 x1 : Int} (h0 : inI64 x0) (h1 : inI64 x1) :
    Calls Tryz.prog 6 #[.int .i64 x0, .int .i64 x1] w fun e w' => ∃ r, e = .returned r ∧ r = .bool true ∧ Below w.heap.size w w' :=
  (gemotlaw16_RekeyLost_ok (ok := fun _ => False) (lost_law h0 h1)).mono fun e w' ⟨v, h1, h2, h3⟩ => ⟨v, h1, h2, h3.toBelow⟩
end Go.Proofs.YtfapphlhkfddoaaGreatDoor.G

