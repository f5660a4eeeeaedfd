/- More that printed walks lean on: scopes, own rows' elements in an open order, own rows cut short, results that lie in memory. -/
import Derived.Test.YtfapphlhkfddoaaDoorRowSet
import Derived.Scope
set_option linter.unusedVariables false
namespace Go.Eng
open Go.RowKit
set_option linter.unusedSectionVars false
variable [Inhabited Keep]

section
variable {P : Program} {n : Nat} {ds : List Nat} {x : Code} {e : Env} {w : World} {K : EK}
def noGo (K : EK) : EK
  | .goto _, _, _, _ => False
  | x, ds, e, w => K x ds e w
/-- A scope through which the run goes without a jump. -/
theorem nc_scope (h : nCode P none n ds x e w (noGo K)) : nCode P none n ds (.scope x) e w K :=
  nCode_in fun a hf => (wpIn_wide (n := 0)).2 (wp_scope_straight (wpIn_wide.1 (wpIn_mono (nCode_out h a hf) fun ex a' w' hq => by
    obtain ⟨ds', e', hf', hk⟩ := hq
    cases ex with
    | goto l => exact hk.elim
    | normal => exact ⟨ds', e', hf', hk⟩
    | exit id => exact ⟨ds', e', hf', hk⟩
    | ret => exact ⟨ds', e', hf', hk⟩
    | panic ch => exact ⟨ds', e', hf', hk⟩
    | outgrown => exact ⟨ds', e', hf', hk⟩)))
end
section
variable {P : Program} {w : World} {K : Value → World → Prop} {KF : Value → Prop} {g : Bool} {C : World → Prop}
theorem idxA_ruleJ {t e : TypeId} {a : Addr} {n c : Nat} {kk : IntKind} (sz : Nat) (x J : Int) (hJ : some x = some J) (ht : sliceB P t = some e) (hs : sizeB P e = some sz) (h0 : 0 ≤ J) (h1 : J < (n : Int)) (hk : K (.pointer (some (a.add (J.toNat * sz)))) w) : nIndexAddr P g t (.slice (some a) n c) (.int kk x) w K := by
  cases hJ; exact idxA_rule sz x ht hs h0 h1 hk
theorem c_idxAJ {t e : TypeId} {a : Addr} {n c : Nat} {kk : IntKind} (sz : Nat) (x J : Int) (hJ : some x = some J) (ht : sliceB P t = some e) (hs : sizeB P e = some sz) (h0 : 0 ≤ J) (h1 : J < (n : Int)) (hk : KF (.pointer (some (a.add (J.toNat * sz))))) : cIndexAddr P g t (.slice (some a) n c) (.int kk x) C KF := by
  cases hJ; exact c_idxA sz x ht hs h0 h1 hk
end
theorem idxL_set {α : Type} {xs : List α} {ix : Int} {y : α} (h : idxL xs ix = some y) (y' : α) : idxL (xs.set ix.toNat y') ix = some y' := by
  obtain ⟨h0, h1, h2⟩ := idxL_some h
  obtain ⟨i, rfl⟩ := Int.eq_ofNat_of_zero_le h0
  rw [idxL_nat]
  simp only [Int.toNat_natCast]
  rw [List.getElem?_set_self (by omega)]
section
variable {P : Program} {w w0 : World} {K : Value → World → Prop} {KF : Value → Prop} {g : Bool} {ok : Nat → Prop} {L : List Item}
theorem c_rowLoad {α : Type} {k : Ty α} {t e : TypeId} {a : Addr} {n c : Nat} {xs : List α} {cells : List Value} {y : α} {v : Value} (ix : Int) (i j off : Nat) (hi : L[i]? = some (.row (.slice (some a) n c) e k.sz n cells)) (hj : L[j]? = some (.dat (dRows k xs cells))) (hn : n = xs.length) (hx : idxL xs ix = some y) (ha : aggB P t = some false)
    (hv : ∀ w ok cs, k.R w ok y cs → cs[off]? = some v) (hk : KF v) : cLoad P g t (.pointer (some ((a.add (ix.toNat * k.sz)).add off))) (fun w => Own ok w0 w L) KF := by
  unfold cLoad cFloat
  refine ⟨v, fun hg w H => ?_, hk⟩
  obtain ⟨cs, hR, hC⟩ := H.rowElemJ i j hi hj hn hx
  have h := load_at (P := P) (g := true) (K := fun v' w' => v' = v ∧ w' = w) hC off ha (hv _ _ _ hR) ⟨rfl, rfl⟩
  unfold nLoad at h
  have h := (nOp_out h).1 rfl
  unfold sv at h ⊢
  rw [Sem.run_bind] at h ⊢
  have hl : (Instr.loadAt t (.pointer (some ((a.add (ix.toNat * k.sz)).add off)))).run P w = .ok v w := by
    have := cellsAt_get hC (hv _ _ _ hR)
    rw [Nat.zero_add] at this
    show (loadVar t _).run P w = _
    exact load1_run ha this
  rw [hl]; rfl
theorem c_rowStore {KE : Value → List Item → Prop} {α : Type} {k : Ty α} {t e : TypeId} {m : Nat} {a : Addr} {n c : Nat} {xs : List α} {y : α} {cells : List Value} {x : Value} (y' : α) (i j : Nat) (hi : L[i]? = some (.row (.slice (some a) n c) e k.sz n cells)) (hj : L[j]? = some (.dat (dRows k xs cells))) (ix : Int) (off : Nat) (hn : n = xs.length) (hx : idxL xs ix = some y)
    (hs : sizeB P t = some m) (vs : List Value) (hxv : x.cells = vs.toArray) (hl : vs.length = m) (ho : allOne vs = true) (hr : Nat.ble (off + m) k.sz = true) (hy : ∀ w ok cs, k.R w ok y cs → k.R w ok y' (setRange cs off vs))
    (hk : ∀ cells', KE undef ((L.set i (.row (.slice (some a) n c) e k.sz n cells')).set j (.dat (dRows k (xs.set ix.toNat y') cells')))) : cStore P true t (.pointer (some ((a.add (ix.toNat * k.sz)).add off))) x ok w0 L KE := by
  unfold cStore
  refine cEv_in ⟨fun u L' => u = undef ∧ ∃ cells', L' = (L.set i (.row (.slice (some a) n c) e k.sz n cells')).set j (.dat (dRows k (xs.set ix.toNat y') cells')), fun h => (by cases h), fun w H => ?_, fun u L' h _ => by obtain ⟨rfl, cells', rfl⟩ := h; exact hk cells'⟩
  have h := own_rowStore (P := P) (t := t) (K := fun u w' => ∃ L', (u = undef ∧ ∃ cells', L' = (L.set i (.row (.slice (some a) n c) e k.sz n cells')).set j (.dat (dRows k (xs.set ix.toNat y') cells'))) ∧ Own ok w0 w' L') y' H i j hi hj ix off hn hx hs vs hxv hl ho hr (fun cs h => hy _ _ cs h) (fun cells' w' H' => ⟨_, ⟨rfl, cells', rfl⟩, H'⟩)
  unfold nStore at h
  exact nOp_out h
theorem rowsR_take {α : Type} {k : Ty α} {w : World} {ok : Nat → Prop} : ∀ {xs : List α} {cells : List Value} (m : Nat), rowsR k w ok xs cells → m ≤ xs.length → rowsR k w ok (xs.take m) (cells.take (m * k.sz))
  | xs, cells, 0, h, _ => by simp [rowsR]
  | [], cells, m + 1, h, hm => by simp at hm
  | x :: xs, cells, m + 1, h, hm => by
    obtain ⟨c, d, rfl, hx, hr⟩ := h
    have hc := k.len hx
    have := rowsR_take m hr (by simpa using hm)
    refine ⟨c, d.take (m * k.sz), ?_, hx, this⟩
    rw [Nat.succ_mul, List.take_append, hc, List.take_of_length_le (by omega)]
    congr 2; omega
/-- An own row, cut short, takes its own place. -/
theorem own_rowTake {α : Type} {k : Ty α} {t e : TypeId} {A : Option Addr} {n c : Nat} {xs y : List α} {cells : List Value} {hi' : Value} (h : Int) (H : Own ok w0 w L) (i j : Nat) (hi : L[i]? = some (.row (.slice A n c) e k.sz n cells)) (hj : L[j]? = some (.dat (dRows k xs cells))) (hn : n = xs.length) (ht : sliceB P t = some e) (hs : sizeB P e = some k.sz) (hhi : hiI (some hi') n h) (hm : slcM xs 0 h = some y)
    (hk : ∀ A' c' cells', Own ok w0 w ((L.set i (.row (.slice A' y.length c') e k.sz y.length cells')).set j (.dat (dRows k y cells'))) → K (.slice A' y.length c') w) : nSlice P g t (.slice A n c) none (some hi') none w K := by
  obtain ⟨h0, h1, h2, rfl⟩ := slcS hm
  obtain ⟨q, rfl⟩ := Int.eq_ofNat_of_zero_le h1
  subst hn
  have hij : i ≠ j := fun h => by subst h; rw [hi] at hj; cases hj
  have hc : xs.length ≤ c := by obtain ⟨A', c', hv, _, hc⟩ := H.rowSl i hi; cases hv; exact hc
  have hq : q ≤ xs.length := by omega
  refine pieceI_rule (xs := xs) (y := (xs.drop (0 : Int).toNat).take ((q : Int).toNat - (0 : Int).toNat)) k.sz 0 q ht hs rfl hhi hm ⟨rfl, hc⟩ rfl ?_
  have e0 : (xs.drop (0 : Int).toNat).take ((q : Int).toNat - (0 : Int).toNat) = xs.take q := by simp
  have el : (xs.take q).length = q := by simp; omega
  have H1 := H.rowPiece (l := 0) (h := q) i hi (Nat.zero_le _) hq
  have hR := rowsR_take q (H.dat j hj) hq
  have hpv : piece A c (0 : Int).toNat (q : Int).toNat k.sz = .slice (if c = 0 then A else A.map (·.add (0 * k.sz))) q c := by simp [piece]
  rw [hpv]
  have e1 : (cells.drop (0 * k.sz)).take ((q - 0) * k.sz) = cells.take (q * k.sz) := by simp
  rw [e1] at H1
  have hpv2 : piece A c 0 q k.sz = .slice (if c = 0 then A else A.map (·.add (0 * k.sz))) q c := by simp [piece]
  rw [hpv2, Nat.sub_zero] at H1
  have hj' : (L.set i (.row (.slice (if c = 0 then A else A.map (·.add (0 * k.sz))) q c) e k.sz q (cells.take (q * k.sz))))[j]? = some (.dat (dRows k xs cells)) := by rw [List.getElem?_set_ne hij]; exact hj
  have hok : okOf ok w0 (L.set i (.row (.slice (if c = 0 then A else A.map (·.add (0 * k.sz))) q c) e k.sz q (cells.take (q * k.sz)))) = okOf ok w0 L := by
    obtain ⟨X, Y, hL, hset⟩ := list_split hi
    have : muts (L.set i (.row (.slice (if c = 0 then A else A.map (·.add (0 * k.sz))) q c) e k.sz q (cells.take (q * k.sz)))) = muts L := by
      rw [hset]
      conv => rhs; rw [hL]
      rw [muts_split, muts_split]
      have hb : (Value.slice (if c = 0 then A else A.map (·.add (0 * k.sz))) q c).ownBlock = (Value.slice A xs.length c).ownBlock := by
        have := piece_block A c 0 q k.sz
        rw [hpv2] at this
        rw [this]; cases A <;> rfl
      simp only [muts, List.flatMap_cons, Item.muts, hb]
    unfold okOf; rw [this]
  have H2 := H1.setDat j (d' := dRows k (xs.take q) (cells.take (q * k.sz))) hj' (by rw [hok]; exact hR)
  have := hk (if c = 0 then A else A.map (·.add (0 * k.sz))) c (cells.take (q * k.sz)) (by rw [e0, el]; exact H2)
  rw [e0, el] at this
  exact this
/-! Results that lie in memory. -/
theorem Own.res1 {t t' : TypeId} {b j : Nat} {cs : List Value} {v : Value} (H : Own ok w0 w L) (i : Nat) (hi : L[i]? = some (.blk b cs t')) (ha : aggB P t = some false) (hj : cs[j]? = some v) : (loadVar t ⟨b, j, none⟩).run P w = .ok v w := load1_run ha (H.cell i hi j hj)
theorem Own.resA {t t' : TypeId} {b : Nat} {m : Nat} {cs : List Value} (H : Own ok w0 w L) (i : Nat) (hi : L[i]? = some (.blk b cs t')) (ha : aggB P t = some true) (hs : sizeB P t = some m) (hl : cs.length = m) : (loadVar t ⟨b, 0, none⟩).run P w = .ok (.agg cs.toArray) w :=
  loadA_run ha hs hl (cellsAt_blk (H.blk i hi) 0 cs 0 (fun j v hj => by simpa using hj))
end
section
variable {P : Program} {w0 : World} {ok : Nat → Prop} {L : List Item}
theorem c_buildEmpty {α : Type} {k : Ty α} {KE : Value → List Item → Prop} {t e : TypeId} (ht : sliceB P t = some e) (hs : sizeB P e = some k.sz)
    (hk : ∀ A c, KE (.slice A 0 c) (.dat (dRows k [] []) :: .row (.slice A 0 c) e k.sz 0 [] :: L)) : cBuildSlice P true t 0 [] ok w0 L KE := by
  unfold cBuildSlice
  refine cEv_in ⟨fun v L' => ∃ A c, v = .slice A 0 c ∧ L' = .dat (dRows k [] []) :: .row (.slice A 0 c) e k.sz 0 [] :: L, fun _ v L' ⟨A, c, _, h⟩ => by rw [h]; exact (List.sublist_cons_self _ _).trans (List.sublist_cons_self _ _), fun w H => ?_, fun v L' ⟨A, c, hv, hL⟩ _ => by rw [hv, hL]; exact hk A c⟩
  have h := own_buildEmpty (P := P) (K := fun v w' => ∃ L', (∃ A c, v = .slice A 0 c ∧ L' = .dat (dRows k [] []) :: .row (.slice A 0 c) e k.sz 0 [] :: L) ∧ Own ok w0 w' L') H ht hs (fun v w' H' => by
    obtain ⟨A, c, rfl, _, _⟩ := H'.rowSl 0 rfl
    exact ⟨_, ⟨A, c, rfl, rfl⟩, H'.addDat (dRows k [] []) rfl⟩)
  unfold nBuildSlice at h
  exact nOp_out h
theorem c_appendD {KE : Value → List Item → Prop} {α : Type} {k : Ty α} {t ty e : TypeId} {n : Nat} {z v u : Value} {xs ys : List α} {cells : List Value} {consts : Array Bool} (by_ : Nat) (i j m : Nat) (hi : L[i]? = some (.row v e k.sz n cells)) (hj : L[j]? = some (.dat (dRows k xs cells))) (hm : L[m]? = some (.dat (dSl k u ys))) (hn : n = xs.length)
    (ht : sliceB P t = some e) (hinfo : infoB P e = some (some z, k.sz, by_)) (hzl : z.cells.toList.length = k.sz) (hpos : Nat.blt 0 k.sz = true) (hb : (xs.length + ys.length) * by_ ≤ 140737488355328) (hby : Nat.blt 0 by_ = true)
    (hk : ∀ A c cells', KE (.slice A (xs ++ ys).length c) ((L.set i (.row (.slice A (xs ++ ys).length c) e k.sz (xs ++ ys).length cells')).set j (.dat (dRows k (xs ++ ys) cells')))) : cBuiltin P true .append [t, t] ty [v, u] consts ok w0 L KE := by
  unfold cBuiltin
  refine cEv_in ⟨fun u' L' => ∃ A c cells', u' = .slice A (xs ++ ys).length c ∧ L' = (L.set i (.row (.slice A (xs ++ ys).length c) e k.sz (xs ++ ys).length cells')).set j (.dat (dRows k (xs ++ ys) cells')), fun h => (by cases h), fun w H => ?_, fun u' L' h _ => by obtain ⟨A, c, cells', rfl, rfl⟩ := h; exact hk A c cells'⟩
  have hij : i ≠ j := fun h => by subst h; rw [hi] at hj; cases hj
  have h := own_appendD (P := P) (K := fun u' w' => ∃ L', (∃ A c cells', u' = .slice A (xs ++ ys).length c ∧ L' = (L.set i (.row (.slice A (xs ++ ys).length c) e k.sz (xs ++ ys).length cells')).set j (.dat (dRows k (xs ++ ys) cells'))) ∧ Own ok w0 w' L') (ty := ty) (consts := consts) by_ H i j m hi hj hm hn ht hinfo hzl hpos hb hby (fun v' cells' w' H' => by
    have hi2 : ((L.set i (.row v' e k.sz (xs ++ ys).length cells')).set j (.dat (dRows k (xs ++ ys) cells')))[i]? = some (.row v' e k.sz (xs ++ ys).length cells') := by
      rw [List.getElem?_set_ne (Ne.symm hij)]
      exact List.getElem?_set_self (List.getElem?_eq_some_iff.1 hi).1
    obtain ⟨A, c, rfl, _, _⟩ := H'.rowSl i hi2
    exact ⟨_, ⟨A, c, cells', rfl, rfl⟩, H'⟩)
  unfold nBuiltin at h
  exact nOp_out h
/-- .. what is appended to is not appended to any more. -/
theorem c_appendF {KE : Value → List Item → Prop} {α : Type} {k : Ty α} {t ty e : TypeId} {n : Nat} {z v u : Value} {xs ys : List α} {cells : List Value} {consts : Array Bool} (by_ : Nat) (i j m : Nat) (hi : L[i]? = some (.row v e k.sz n cells)) (hj : L[j]? = some (.dat (dRows k xs cells))) (hm : L[m]? = some (.dat (dSl k u ys))) (hn : n = xs.length)
    (ht : sliceB P t = some e) (hinfo : infoB P e = some (some z, k.sz, by_)) (hzl : z.cells.toList.length = k.sz) (hpos : Nat.blt 0 k.sz = true) (hb : (xs.length + ys.length) * by_ ≤ 140737488355328) (hby : Nat.blt 0 by_ = true)
    (hk : ∀ A c, KE (.slice A (xs ++ ys).length c) ((L.set i (.dat (dSl k (.slice A (xs ++ ys).length c) (xs ++ ys)))).set j (.dat (dSl k (.slice A (xs ++ ys).length c) (xs ++ ys))))) : cBuiltin P true .append [t, t] ty [v, u] consts ok w0 L KE := by
  unfold cBuiltin
  refine cEv_in ⟨fun u' L' => ∃ A c, u' = .slice A (xs ++ ys).length c ∧ L' = (L.set i (.dat (dSl k (.slice A (xs ++ ys).length c) (xs ++ ys)))).set j (.dat (dSl k (.slice A (xs ++ ys).length c) (xs ++ ys))), fun h => (by cases h), fun w H => ?_, fun u' L' h _ => by obtain ⟨A, c, rfl, rfl⟩ := h; exact hk A c⟩
  have hij : i ≠ j := fun h => by subst h; rw [hi] at hj; cases hj
  have h := own_appendD (P := P) (K := fun u' w' => ∃ L', (∃ A c, u' = .slice A (xs ++ ys).length c ∧ L' = (L.set i (.dat (dSl k (.slice A (xs ++ ys).length c) (xs ++ ys)))).set j (.dat (dSl k (.slice A (xs ++ ys).length c) (xs ++ ys)))) ∧ Own ok w0 w' L') (ty := ty) (consts := consts) by_ H i j m hi hj hm hn ht hinfo hzl hpos hb hby (fun v' cells' w' H' => by
    have hil : i < L.length := (List.getElem?_eq_some_iff.1 hi).1
    have hjl : j < L.length := (List.getElem?_eq_some_iff.1 hj).1
    have hi2 : ((L.set i (.row v' e k.sz (xs ++ ys).length cells')).set j (.dat (dRows k (xs ++ ys) cells')))[i]? = some (.row v' e k.sz (xs ++ ys).length cells') := by
      rw [List.getElem?_set_ne (Ne.symm hij)]
      exact List.getElem?_set_self hil
    have hj2 : ((L.set i (.row v' e k.sz (xs ++ ys).length cells')).set j (.dat (dRows k (xs ++ ys) cells')))[j]? = some (.dat (dRows k (xs ++ ys) cells')) := List.getElem?_set_self (by simpa using hjl)
    obtain ⟨A, c, rfl, _, _⟩ := H'.rowSl i hi2
    have H2 := H'.freeze (k := k) i j hi2 hj2
    have e1 : ((L.set i (.row (.slice A (xs ++ ys).length c) e k.sz (xs ++ ys).length cells')).set j (.dat (dRows k (xs ++ ys) cells'))).set i (.dat (dSl k (.slice A (xs ++ ys).length c) (xs ++ ys))) = (L.set i (.dat (dSl k (.slice A (xs ++ ys).length c) (xs ++ ys)))).set j (.dat (dRows k (xs ++ ys) cells')) := by
      rw [List.set_comm _ _ (Ne.symm hij), List.set_set]
    rw [e1] at H2
    refine ⟨_, ⟨A, c, rfl, rfl⟩, H2.sub (fun it hit => ?_) ?_⟩
    · obtain ⟨q, hq, rfl⟩ := List.mem_iff_getElem.1 hit
      by_cases h : q = j
      · subst h
        refine List.mem_of_getElem? (i := i) ?_
        rw [List.getElem?_set_ne (Ne.symm hij), List.getElem_set_self]
        exact List.getElem?_set_self hil
      · refine List.mem_of_getElem? (i := q) ?_
        rw [List.getElem?_set_ne (Ne.symm h), List.getElem_set_ne (Ne.symm h)]
        exact List.getElem?_eq_getElem _
    · have := H2.nd
      obtain ⟨X, Y, hL, hs⟩ := list_split (L := L.set i (.dat (dSl k (.slice A (xs ++ ys).length c) (xs ++ ys)))) (i := j) (x := Item.dat (dRows k xs cells)) (by rw [List.getElem?_set_ne hij]; exact hj)
      rw [hs] at this ⊢
      simpa [muts_split, muts, Item.muts] using this)
  unfold nBuiltin at h
  exact nOp_out h
end
/-! ### Bytes as a text -/
def strM (xs : List Int) : Option (List UInt8) := if xs ≠ [] ∧ ∀ x ∈ xs, 0 ≤ x ∧ x ≤ 255 then some (xs.map fun x => UInt8.ofNat x.toNat) else none
theorem strS {xs : List Int} {y : List UInt8} (h : strM xs = some y) : y ≠ [] ∧ xs = y.map fun b => (b.toNat : Int) := by
  unfold strM at h
  split at h
  · rename_i hx
    replace h := Option.some.inj h
    subst h
    refine ⟨by simpa using hx.1, ?_⟩
    rw [List.map_map]
    refine (List.map_id' xs).symm.trans ?_
    refine List.map_congr_left fun x hm => ?_
    have := hx.2 x hm
    simp only [Function.comp]
    rw [UInt8.toNat_ofNat']
    have e : x.toNat % 2 ^ 8 = x.toNat := Nat.mod_eq_of_lt (by omega)
    rw [e]
    omega
  · cases h
theorem rows_int {k : IntKind} {w : World} {ok : Nat → Prop} : ∀ {xs : List Int} {cells : List Value}, rowsR (tInt k) w ok xs cells → cells = xs.map (Value.int k)
  | [], cells, h => h
  | x :: xs, cells, h => by
    obtain ⟨c, d, rfl, hx, hr⟩ := h
    have hx : c = [.int k x] := hx
    subst hx
    rw [rows_int hr]; rfl
section
variable {P : Program} {w w0 : World} {K : Value → World → Prop} {g : Bool} {ok : Nat → Prop} {L : List Item}
theorem own_strM {s d e : TypeId} {v : Value} {n : Nat} {xs : List Int} {cells : List Value} {y : List UInt8} (H : Own ok w0 w L) (i j : Nat) (hi : L[i]? = some (.row v e 1 n cells)) (hj : L[j]? = some (.dat (dRows (tInt .u8) xs cells))) (hn : n = xs.length) (hm : strM xs = some y) (hs : byteSl P s = some e) (hd : strB P d = true) (hk : K (.string (bs y)) w) : nConvert P g s d v w K := by
  obtain ⟨hy, rfl⟩ := strS hm
  have hc := rows_int (H.dat j hj)
  subst hc
  subst hn
  refine own_toStr (l := y) H i ?_ hy hs hd hk
  rw [hi, List.length_map]
  simp [bytesV, Function.comp_def]
/-- Bytes that are data as a text. -/
theorem own_strD {s d e : TypeId} {v : Value} {xs : List Int} {y : List UInt8} (H : Own ok w0 w L) (i : Nat) (hi : L[i]? = some (.dat (dSl (tInt .u8) v xs))) (hm : strM xs = some y) (hs : byteSl P s = some e) (hd : strB P d = true) (hk : K (.string (bs y)) w) : nConvert P g s d v w K := by
  obtain ⟨hy, rfl⟩ := strS hm
  obtain ⟨A, c, rfl, hc, h⟩ := H.dat i hi
  rcases h with ⟨h0, _⟩ | ⟨a, rfl, _, _, hcell⟩
  · exact absurd (List.map_eq_nil_iff.1 h0) hy
  · unfold byteSl at hs
    split at hs
    · rename_i e' he'
      split at hs
      · rename_i hu8
        cases hs
        have hu : P.underlying s = some (.slice e) := by
          unfold sliceB at he'
          split at he'
          · rename_i hu; cases he'; exact hu
          · cases he'
        have hus : P.underlying d = some .string := by
          unfold strB at hd
          split at hd
          · assumption
          · cases hd
        unfold nConvert
        rw [List.length_map]
        refine nOp_now (fun _ => sv_run (run_convert_bytes_back w s d e a c y hu hu8 hus fun j hj => ?_)) hk
        obtain ⟨cs, h1, h2⟩ := hcell j ((y[j].toNat : Nat) : Int) (by rw [List.getElem?_map, List.getElem?_eq_getElem hj]; rfl)
        have h1 : cs = [.int .u8 ((y[j].toNat : Nat) : Int)] := h1
        subst h1
        have h3 := h2.1
        rw [show (tInt .u8).sz = 1 from rfl, Nat.mul_one] at h3
        have e0 : ∀ b : Addr, b.add 0 = b := fun b => by unfold Addr.add; cases b; simp
        rw [e0] at h3
        exact h3
      · cases hs
    · cases hs
end
section
variable {P : Program} {w0 : World} {ok : Nat → Prop} {L : List Item}
/-- A literal that is handed on, in an open order. -/
theorem c_buildData {α : Type} {k : Ty α} {KE : Value → List Item → Prop} {t e : TypeId} {len : Nat} {z : Value} {parts : List (Nat × Value)} (cs : List Value) (xs : List α) (ht : sliceB P t = some e) (hs : sizeB P e = some k.sz) (hz : zeroB P e = some z) (hzl : z.cells.toList.length = k.sz) (hlen : Nat.ble (len * k.sz) 16777216 = true) (hpos : Nat.beq (len * k.sz) 0 = false)
    (hf : fillL (fun i => some (i * k.sz, k.sz)) (zerosL z.cells.toList len) parts = some cs) (hn : xs.length = len) (hl : cs.length = len * k.sz) (hm : len ≤ maxLen) (hR : ∀ w b, Own ok w0 w (.blk b cs e :: L) → rowsR k w (okOf ok w0 (.blk b cs e :: L)) xs cs)
    (hk : ∀ b, KE (.slice (some ⟨b, 0, none⟩) len len) (.dat (dSl k (.slice (some ⟨b, 0, none⟩) len len) xs) :: L)) : cBuildSlice P true t len parts ok w0 L KE := by
  unfold cBuildSlice
  refine cEv_in ⟨fun v L' => ∃ b, v = .slice (some ⟨b, 0, none⟩) len len ∧ L' = .dat (dSl k (.slice (some ⟨b, 0, none⟩) len len) xs) :: L, fun _ v L' ⟨b, _, h⟩ => by rw [h]; exact List.sublist_cons_self _ _, fun w H => ⟨fun _ => ?_, fun h => by cases h⟩, fun v L' ⟨b, hv, hL⟩ _ => by rw [hv, hL]; exact hk b⟩
  rw [sv_run (buildSlice_run ht hs hz hzl hlen hpos hf)]
  have H' := H.alloc cs e
  exact ⟨_, ⟨_, rfl, rfl⟩, H'.blkSl (k := k) xs len hn hl hm (hR _ _ H')⟩
end
def orI (k : IntKind) (x y : Int) : Int := k.wrap ((BitVec.ofInt k.bits x ||| BitVec.ofInt k.bits y).toNat : Int)
def andI (k : IntKind) (x y : Int) : Int := k.wrap ((BitVec.ofInt k.bits x &&& BitVec.ofInt k.bits y).toNat : Int)
def xorI (k : IntKind) (x y : Int) : Int := k.wrap ((BitVec.ofInt k.bits x ^^^ BitVec.ofInt k.bits y).toNat : Int)
/-! ### A text as bytes -/
def bytesI (x : List UInt8) : List Int := x.map fun b => (b.toNat : Int)
section
variable {P : Program} {w w0 : World} {K : Value → World → Prop} {g : Bool} {ok : Nat → Prop} {L : List Item}
theorem own_ofStr {s d e : TypeId} {x : List UInt8} (H : Own ok w0 w L) (hs : strB P s = true) (hd : byteSl P d = some e) (hk : ∀ A c w', Own ok w0 w' (.dat (dSl (tInt .u8) (.slice A (bytesI x).length c) (bytesI x)) :: L) → K (.slice A (bytesI x).length c) w') : nConvert P true s d (.string (bs x)) w K := by
  have hus : P.underlying s = some .string := by
    unfold strB at hs
    split at hs
    · assumption
    · cases hs
  unfold byteSl at hd
  split at hd
  · rename_i e' he'
    split at hd
    · rename_i hu8
      cases hd
      have hud : P.underlying d = some (.slice e) := by
        unfold sliceB at he'
        split at he'
        · rename_i hu; cases he'; exact hu
        · cases he'
      unfold nConvert
      refine nOp_in ⟨fun _ => ?_, fun h => by cases h⟩
      rw [sv_run (run_bytes_of_string (P := P) w s d e (bs x) hus hud hu8)]
      have hlen : (bs x).size = (bytesI x).length := by simp [bytesI, bs, ByteArray.size]
      have hcap := grownCap_ge w (bs x).size 0 e
      rw [hlen] at hcap ⊢
      have hb : Bel w.heap.size w (w.drew.alloc (.cells (bytesRow (bs x) (grownCap w (bytesI x).length 0 e)) e ((bytesRow (bs x) (grownCap w (bytesI x).length 0 e)).size, (bytesRow (bs x) (grownCap w (bytesI x).length 0 e)).size + 1))) := (Bel.refl _ w).drew.alloc (Nat.le_refl _) _
      refine hk _ _ _ (H.callDats hb [dSl (tInt .u8) (.slice (some ⟨w.heap.size, 0, none⟩) (bytesI x).length (grownCap w (bytesI x).length 0 e)) (bytesI x)] ⟨?_, trivial⟩)
      refine ⟨_, _, rfl, hcap, .inr ⟨_, rfl, .inr (Nat.le_refl _), by show w.heap.size < (w.heap.push _).size; simp, fun j y hy => ⟨[.int .u8 y], rfl, ?_, trivial⟩⟩⟩
      have hj : j < (bs x).data.size := by
        have := (List.getElem?_eq_some_iff.1 hy).1
        simpa [bytesI, bs] using this
      have hrow := bytesRow_at (bs x) (grownCap w (bytesI x).length 0 e) j hj
      have hyv : ((bs x).data[j].toNat : Int) = y := by
        have h2 := hy
        simp only [bytesI, List.getElem?_map] at h2
        obtain ⟨a, ha, hya⟩ := Option.map_eq_some_iff.1 h2
        have hjx : j < x.length := (List.getElem?_eq_some_iff.1 ha).1
        have e : x[j] = a := (List.getElem?_eq_some_iff.1 ha).2
        show ((x.toArray)[j].toNat : Int) = y
        rw [← hya, ← e]; simp
      rw [hyv] at hrow
      have hnew : (w.drew.alloc (.cells (bytesRow (bs x) (grownCap w (bytesI x).length 0 e)) e ((bytesRow (bs x) (grownCap w (bytesI x).length 0 e)).size, (bytesRow (bs x) (grownCap w (bytesI x).length 0 e)).size + 1))).heap[w.heap.size]? = some (.cells (bytesRow (bs x) (grownCap w (bytesI x).length 0 e)) e ((bytesRow (bs x) (grownCap w (bytesI x).length 0 e)).size, (bytesRow (bs x) (grownCap w (bytesI x).length 0 e)).size + 1)) := by
        show (w.heap.push _)[w.heap.size]? = _
        simp
      show World.cell? _ ((Addr.add ⟨w.heap.size, 0, none⟩ (j * 1)).add 0) = _
      rcases Nat.eq_zero_or_pos j with hj0 | hj0
      · subst hj0
        simp only [World.cell?, Addr.add, Nat.zero_mul, if_true, hnew]
        simp [hrow]
      · have hj1 : j ≠ 0 := by omega
        simp only [World.cell?, Addr.add, Nat.mul_one, if_neg hj1, if_true, hnew]
        simp [hrow]
    · cases hd
  · cases hd
end
end Go.Eng
