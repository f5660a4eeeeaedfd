/- Texts joined, and an element raised by one exponent more. -/
import Derived.Test.YtfapphlhkfddoaaGreatDoorSortS
import Derived.Test.YtfapphlhkfddoaaGreatDoorH1
import Derived.Test.YtfapphlhkfddoaaGreatDoorJoinLay
import Derived.Room.Shelf.Join48
namespace Go.Proofs.YtfapphlhkfddoaaGreatDoor.G
open Go.RowKit Go.Eng Go.Proofs Go.Proofs.YtfapphlhkfddoaaGreatDoor.Cut Go.Sort
set_option linter.unusedVariables false
set_option linter.unusedSimpArgs false
set_option maxRecDepth 20000
variable {ok : Nat → Prop} {w0 w : World} {A B L R : List Eng.Item}

theorem joinX : Builder.Extra Tryz.prog Tryz.joinS_ren where
  sizeBuilder := by kernel_rfl
  liesBuilder := by kernel_rfl
  t5 := by kernel_rfl
  a5 := fun w => run_isAgg (by kernel_rfl)
  z5 := fun w => Eng.run_sizeOf (by kernel_rfl)
  v5 := fun w => run_zero (by kernel_rfl)
  infoByte := by kernel_rfl
  cellsByte := by kernel_rfl
  sizeByte := by kernel_rfl
  neB5 := by decide
theorem join_flat (xs : List (List UInt8)) : Lib.join xs [] = xs.flatten := by
  unfold Lib.join
  induction xs with
  | nil => simp [List.intercalate]
  | cons x xs ih =>
    cases xs with
    | nil => simp [List.intercalate]
    | cons y ys => simp [List.intercalate] at ih ⊢; exact ih
/-- All texts of a row, one behind the other. -/
theorem join_calls {v : Value} {e : TypeId} {xs : List (List UInt8)} (hpos : 0 < xs.length) (hN : xs.length ≤ 1000000) (hlen : xs.flatten.length ≤ 140737488355328) (H : Eng.Own ok w0 w (A ++ .row v e 1 xs.length (xs.map encStr) :: B)) :
    Calls Tryz.prog 83 #[v, .string (bs [])] w fun ee w' => ∃ u, ee = .returned u ∧ (u = .string (bs xs.flatten) ∧ Bel w.heap.size w w') := by
  have hrow : qRow w e 1 v xs.length (xs.map encStr) := H.all (.row v e 1 xs.length (xs.map encStr)) (by simp)
  rcases hrow.2 with ⟨h0, A', hv, _⟩ | ⟨q, off, cap, cur, hv, hb, hnc, hcm, hcs, ht⟩
  · omega
  · have hblk : q < w.heap.size := (Array.getElem?_eq_some_iff.1 hb).1
    rw [Nat.mul_one] at hv hcs ht
    have hmap : (xs.map bs).map (·.data.toList) = xs := by
      rw [List.map_map]
      conv => rhs; rw [← List.map_id xs]
      exact List.map_congr_left fun x _ => by simp [bs]
    have hj := Any.strings_Join_48 Tryz.joinS joinX q off cap (xs.map bs) (bs []) w (fun j x hx => by
        rw [List.getElem?_map] at hx
        cases hxj : xs[j]? with
        | none => rw [hxj] at hx; cases hx
        | some y =>
          rw [hxj] at hx
          cases hx
          have := qRow_cell (g := q) (o := off) hb (by simpa using ht) j (encStr y) (by rw [List.getElem?_map, hxj]; rfl)
          rwa [add_at] at this) hblk (by rw [List.length_map]; omega) (by rw [List.length_map]; exact hnc) (by rw [hmap, show (bs []).data.toList = [] from rfl, join_flat]; omega)
    rw [hmap, show (bs []).data.toList = [] from rfl, join_flat, List.length_map] at hj
    rw [hv]
    exact hj.mono fun ee w' ⟨he, hB⟩ => ⟨_, he, rfl, ⟨hB, fun h => by have h : false = true := h; cases h⟩⟩
/-- A literal of bytes as a text, in an open order. -/
theorem c_toStr {P : Program} {g : Bool} {KF : Value → Prop} {s d e e' : TypeId} {b n c : Nat} {l : List UInt8} {cs : List Value} (i : Nat) (hi : L[i]? = some (.blk b cs e')) (hcs : cs = bytesV l) (hn : n = l.length) (hs : byteSl P s = some e) (hd : strB P d = true) (hk : KF (.string (bs l))) : cConvert P g s d (.slice (some ⟨b, 0, none⟩) n c) (fun w => Eng.Own ok w0 w L) KF := by
  subst hcs hn
  unfold byteSl at hs
  split at hs
  · rename_i e' he'
    split at hs
    · rename_i hu8
      cases hs
      have hu : P.underlying s = some (.slice e) := by
        unfold sliceB at he'
        split at he'
        · rename_i hu; cases he'; exact hu
        · cases he'
      have hus : P.underlying d = some .string := by
        unfold strB at hd
        split at hd
        · assumption
        · cases hd
      unfold cConvert
      refine cFloat_in _ (fun _ w H => sv_run (run_convert_bytes_back w s d e ⟨b, 0, none⟩ c l hu hu8 hus fun j hj => ?_)) hk
      have := H.cell i hi j (v := .int .u8 (l[j].toNat : Int)) (by simp [bytesV, hj])
      rwa [add_at, Nat.zero_add]
    · cases hs
  · cases hs
def powT (l : List (List UInt8)) : List UInt8 := [101, UInt8.ofNat l.length] ++ (sortB l).flatten
noncomputable def term_Power.f (x0 x1 : List UInt8) : Option (List UInt8 × Int) :=
  (term_element.f x0).bind fun e => cond (!e) (some ([], 1)) ((term_Right.f x1).bind fun b => cond (!b) (some ([], 1)) ((term_exponents.f x0).bind fun l =>
    givenM (l.length ≤ 1000000) (if 32 < l.length + 1 then some ([], 3) else givenM ((sortB (l ++ [x1])).flatten.length ≤ 1000000000) (term_whole.f (powT (l ++ [x1]))))))
theorem rowsR_strs {w : World} {ok : Nat → Prop} : ∀ {xs : List (List UInt8)} {cs : List Value}, rowsR tStr w ok xs cs → cs = xs.map encStr
  | [], cs, h => h
  | x :: xs, cs, ⟨c, d, e, h1, h2⟩ => by
    have h1 : c = [.string (bs x)] := h1
    rw [e, h1, rowsR_strs h2]; rfl
set_option maxHeartbeats 4000000 in
theorem term_Power_ok {x0 x1 : List UInt8} {r : List UInt8 × Int} (h : term_Power.f x0 x1 = some r) :
    Calls Tryz.prog 41 #[.string (bs x0), .string (bs x1)] w fun e w' => ∃ v, e = .returned v ∧ (v = .tuple #[.string (bs r.1), .int .i64 r.2] ∧ Bel w.heap.size w w') := by
  have H : Eng.Own (fun _ => False) w w [] := Eng.Own.nil _ w
  unfold term_Power.f at h
  obtain ⟨el, hel, h⟩ := bindS h
  refine enterN (args := [.string (bs x0), .string (bs x1)]) Tryz.func41 rfl Tryz.ntmps41 rfl rfl ?_
  refine Eng.nc_seq ?_
  refine nc ?_
  refine Eng.nc_seq ?_
  refine Eng.nc_seq ?_
  refine nc ?_
  refine call_rule (by kernel_rfl) (term_element_ok (ok := fun _ => False) hel) fun v1 w1 ⟨hv, hb⟩ => ?_
  subst hv
  replace H := H.call hb
  cases el with
  | false =>
    cases h
    refine call_skip (.bool false) rfl ?_
    refine Eng.nc_cond (b := true) rfl (fun hc => ?_) (fun hc => ?_)
    · refine Eng.nc_seq ?_
      refine nc ?_
      refine nc ?_
      exact ret_inA [.string (bs []), .int .i64 1] ⟨_, rfl, rfl, H.frame⟩
    · cases hc
  | true =>
    replace h : (term_Right.f x1).bind _ = some r := h
    obtain ⟨rb, hrb, h⟩ := bindS h
    refine call_yes rfl (by kernel_rfl) (term_Right_ok (ok := fun _ => False) hrb) fun v2 w2 ⟨hv, hb⟩ => ?_
    subst hv
    replace H := H.call hb
    cases rb with
    | false =>
      cases h
      refine Eng.nc_cond (b := true) rfl (fun hc => ?_) (fun hc => ?_)
      · refine Eng.nc_seq ?_
        refine nc ?_
        refine nc ?_
        exact ret_inA [.string (bs []), .int .i64 1] ⟨_, rfl, rfl, H.frame⟩
      · cases hc
    | true =>
      replace h : (term_exponents.f x0).bind _ = some r := h
      obtain ⟨l, hl, h⟩ := bindS h
      obtain ⟨hll, h⟩ := givenS h
      refine Eng.nc_cond (b := false) rfl (fun hc => ?_) (fun hc => ?_)
      · cases hc
      refine nc ?_
      refine Eng.nc_seq ?_
      refine nc ?_
      refine call_rule (by kernel_rfl) (term_exponents_ok (ok := okOf (fun _ => False) w []) hl) fun v3 w3 ⟨hr, hb⟩ => ?_
      obtain ⟨cells, H⟩ := H.callRow hb hr
      obtain rfl := rowsR_strs (H.dat 0 rfl)
      replace H := H.tail
      replace H : Eng.Own (fun _ => False) w w3 [.row v3 9 1 l.length (l.map encStr)] := H
      refine own_buildSlice (e := 9) (sz := 1) (z := .string (bs [])) (cs := [.string (bs x1)]) H (by kernel_rfl) (by kernel_rfl) (by kernel_rfl) rfl rfl rfl rfl fun g w4 H => ?_
      refine own_appendBlk (e := 9) (sz := 1) (z := .string (bs [])) (by_ := 16) (m := 1) H 1 0 rfl rfl (by kernel_rfl) (by kernel_rfl) rfl rfl rfl (by intro v hv; simp at hv; subst hv; rfl) (by omega) (by omega) fun v5 w5 H => ?_
      obtain ⟨A5, c5, hv5, _, _⟩ := H.rowSl 1 rfl
      subst hv5
      have hl1 : (l ++ [x1]).length = l.length + 1 := by simp
      replace H : Eng.Own (fun _ => False) w w5 ([] ++ .row (.slice A5 (l.length + 1) c5) 9 1 (l ++ [x1]).length ((l ++ [x1]).map encStr) :: []) := by
        have e : (l ++ [x1]).map encStr = l.map encStr ++ [.string (bs x1)] := by simp; rfl
        rw [e, hl1]
        exact H.tail
      refine Eng.nc_seq ?_
      refine Eng.nc_seq ?_
      refine nc ?_
      refine Eng.nc_cond (b := decide (((l.length + 1 : Nat) : Int) > 32)) rfl (fun hc => ?_) (fun hc => ?_)
      · have hgt : 32 < l.length + 1 := by have := of_decide_eq_true hc; omega
        rw [if_pos hgt] at h
        cases h
        refine Eng.nc_seq ?_
        refine nc ?_
        refine nc ?_
        exact ret_inA [.string (bs []), .int .i64 3] ⟨_, rfl, rfl, H.frame⟩
      have hgt : ¬ 32 < l.length + 1 := by have := of_decide_eq_false hc; omega
      rw [if_neg hgt] at h
      obtain ⟨hfl, hq⟩ := givenS h
      clear h
      refine nc ?_
      refine Eng.nc_seq ?_
      refine nc ?_
      refine call_rule (by kernel_rfl) (sort1_own (A := []) (B := []) (enc := encStr) sortS_at sortB_len (by omega) (by omega) H) fun u w6 ⟨hu, H⟩ => ?_
      subst hu
      replace H : Eng.Own (fun _ => False) w w6 [.row (.slice A5 (l.length + 1) c5) 9 1 (sortB (l ++ [x1])).length ((sortB (l ++ [x1])).map encStr)] := by rw [sortB_len]; exact H
      have hsl : (sortB (l ++ [x1])).length = l.length + 1 := by rw [sortB_len, hl1]
      generalize hS : sortB (l ++ [x1]) = S at *
      refine Eng.nc_seq ?_
      refine nc ?_
      refine draw_ruleQ [83] (fun _ => .string (bs S.flatten)) [0, 0, 0, 0, 1] (by kernel_rfl) (by kernel_rfl) H ?_
      have hw8 : IntKind.u8.wrap ((l.length + 1 : Nat) : Int) = ((UInt8.ofNat (l.length + 1)).toNat : Int) := by
        have e : ∀ x : Int, IntKind.u8.wrap x = x % 256 := fun x => by simp [IntKind.wrap, IntKind.bits, IntKind.signed]
        rw [e, UInt8.toNat_ofNat']; omega
      refine c_buildSlice (e := 5) (sz := 1) (z := .int .u8 0) (cs := [.int .u8 101, .int .u8 (IntKind.u8.wrap ((l.length + 1 : Nat) : Int))]) (by kernel_rfl) (by kernel_rfl) (by kernel_rfl) rfl rfl rfl rfl fun g2 => ?_
      refine c_toStr (e := 5) (l := [101, UInt8.ofNat (l.length + 1)]) 0 rfl (by rw [hw8]; rfl) rfl (by kernel_rfl) (by kernel_rfl) ?_
      refine c_quiet (by kernel_rfl) (fun _ w H => join_calls (A := []) (B := []) (by omega) (by omega) (by omega) H) ?_
      have hp : powT (l ++ [x1]) = [101, UInt8.ofNat (l.length + 1)] ++ S.flatten := by unfold powT; rw [hl1, hS]
      rw [hp] at hq
      refine c_catM (a := [101, UInt8.ofNat (l.length + 1)]) (b := S.flatten) (by rw [show ([101, UInt8.ofNat (l.length + 1)] : List UInt8).length = 2 from rfl]; omega) ?_
      refine c_call (.tuple #[.string (bs r.1), .int .i64 r.2]) (by kernel_rfl) (fun _ w H => term_whole_ok (ok := fun _ => False) hq) ?_
      intro w7 H
      refine nc ?_
      exact ret_inA [.string (bs r.1), .int .i64 r.2] ⟨_, rfl, rfl, H.frame⟩
end Go.Proofs.YtfapphlhkfddoaaGreatDoor.G
