/- More that printed walks lean on: scopes, own rows' elements in an open order, own rows cut short, results that lie in memory. -/
import Derived.Test.YtipoblinefamgaaRowSet
import Derived.Scope
set_option linter.unusedVariables false
namespace Go.Eng
open Go.RowKit
set_option linter.unusedSectionVars false
variable [Inhabited Keep] [Inhabited Hard]

section
variable {P : Program} {n : Nat} {ds : List Nat} {x : Code} {e : Env} {w : World} {K : EK}
def noGo (K : EK) : EK
  | .goto _, _, _, _ => False
  | x, ds, e, w => K x ds e w
/-- A scope through which the run goes without a jump. -/
theorem nc_scope (h : nCode P none n ds x e w (noGo K)) : nCode P none n ds (.scope x) e w K :=
  nCode_in fun a hf => (wpIn_wide (n := 0)).2 (wp_scope_straight (wpIn_wide.1 (wpIn_mono (nCode_out h a hf) fun ex a' w' hq => by
    obtain ⟨ds', e', hf', hk⟩ := hq
    cases ex with
    | goto l => exact hk.elim
    | normal => exact ⟨ds', e', hf', hk⟩
    | exit id => exact ⟨ds', e', hf', hk⟩
    | ret => exact ⟨ds', e', hf', hk⟩
    | panic ch => exact ⟨ds', e', hf', hk⟩
    | outgrown => exact ⟨ds', e', hf', hk⟩)))
end
section
variable {P : Program} {w : World} {K : Value → World → Prop} {KF : Value → Prop} {g : Bool} {C : World → Prop}
theorem idxA_ruleJ {t e : TypeId} {a : Addr} {n c : Nat} {kk : IntKind} (sz : Nat) (x J : Int) (hJ : some x = some J) (ht : sliceB P t = some e) (hs : sizeB P e = some sz) (h0 : 0 ≤ J) (h1 : J < (n : Int)) (hk : K (.pointer (some (a.add (J.toNat * sz)))) w) : nIndexAddr P g t (.slice (some a) n c) (.int kk x) w K := by
  cases hJ; exact idxA_rule sz x ht hs h0 h1 hk
end
theorem idxL_set {α : Type} {xs : List α} {ix : Int} {y : α} (h : idxL xs ix = some y) (y' : α) : idxL (xs.set ix.toNat y') ix = some y' := by
  obtain ⟨h0, h1, h2⟩ := idxL_some h
  obtain ⟨i, rfl⟩ := Int.eq_ofNat_of_zero_le h0
  rw [idxL_nat]
  simp only [Int.toNat_natCast]
  rw [List.getElem?_set_self (by omega)]
section
variable {P : Program} {w w0 : World} {K : Value → World → Prop} {KF : Value → Prop} {g : Bool} {ok : Nat → Prop} {L : List Item}
theorem c_rowLoad {α : Type} {k : Ty α} {t e : TypeId} {a : Addr} {n c : Nat} {xs : List α} {cells : List Value} {y : α} {v : Value} (ix : Int) (i j off : Nat) (hi : L[i]? = some (.row (.slice (some a) n c) e k.sz n cells)) (hj : L[j]? = some (.dat (dRows k xs cells))) (hn : n = xs.length) (hx : idxL xs ix = some y) (ha : aggB P t = some false)
    (hv : ∀ w ok cs, k.R w ok y cs → cs[off]? = some v) (hk : KF v) : cLoad P g t (.pointer (some ((a.add (ix.toNat * k.sz)).add off))) (fun w => Own ok w0 w L) KF := by
  unfold cLoad cFloat
  refine ⟨v, fun hg w H => ?_, hk⟩
  obtain ⟨cs, hR, hC⟩ := H.rowElemJ i j hi hj hn hx
  have h := load_at (P := P) (g := true) (K := fun v' w' => v' = v ∧ w' = w) hC off ha (hv _ _ _ hR) ⟨rfl, rfl⟩
  unfold nLoad at h
  have h := (nOp_out h).1 rfl
  unfold sv at h ⊢
  rw [Sem.run_bind] at h ⊢
  have hl : (Instr.loadAt t (.pointer (some ((a.add (ix.toNat * k.sz)).add off)))).run P w = .ok v w := by
    have := cellsAt_get hC (hv _ _ _ hR)
    rw [Nat.zero_add] at this
    show (loadVar t _).run P w = _
    exact load1_run ha this
  rw [hl]; rfl
theorem c_rowStore {KE : Value → List Item → Prop} {α : Type} {k : Ty α} {t e : TypeId} {m : Nat} {a : Addr} {n c : Nat} {xs : List α} {y : α} {cells : List Value} {x : Value} (y' : α) (i j : Nat) (hi : L[i]? = some (.row (.slice (some a) n c) e k.sz n cells)) (hj : L[j]? = some (.dat (dRows k xs cells))) (ix : Int) (off : Nat) (hn : n = xs.length) (hx : idxL xs ix = some y)
    (hs : sizeB P t = some m) (vs : List Value) (hxv : x.cells = vs.toArray) (hl : vs.length = m) (ho : allOne vs = true) (hr : Nat.ble (off + m) k.sz = true) (hy : ∀ w ok cs, k.R w ok y cs → k.R w ok y' (setRange cs off vs))
    (hk : ∀ cells', KE undef ((L.set i (.row (.slice (some a) n c) e k.sz n cells')).set j (.dat (dRows k (xs.set ix.toNat y') cells')))) : cStore P true t (.pointer (some ((a.add (ix.toNat * k.sz)).add off))) x ok w0 L KE := by
  unfold cStore
  refine cEv_in ⟨fun u L' => u = undef ∧ ∃ cells', L' = (L.set i (.row (.slice (some a) n c) e k.sz n cells')).set j (.dat (dRows k (xs.set ix.toNat y') cells')), fun h => (by cases h), fun w H => ?_, fun u L' h _ => by obtain ⟨rfl, cells', rfl⟩ := h; exact hk cells'⟩
  have h := own_rowStore (P := P) (t := t) (K := fun u w' => ∃ L', (u = undef ∧ ∃ cells', L' = (L.set i (.row (.slice (some a) n c) e k.sz n cells')).set j (.dat (dRows k (xs.set ix.toNat y') cells'))) ∧ Own ok w0 w' L') y' H i j hi hj ix off hn hx hs vs hxv hl ho hr (fun cs h => hy _ _ cs h) (fun cells' w' H' => ⟨_, ⟨rfl, cells', rfl⟩, H'⟩)
  unfold nStore at h
  exact nOp_out h
theorem rowsR_take {α : Type} {k : Ty α} {w : World} {ok : Nat → Prop} : ∀ {xs : List α} {cells : List Value} (m : Nat), rowsR k w ok xs cells → m ≤ xs.length → rowsR k w ok (xs.take m) (cells.take (m * k.sz))
  | xs, cells, 0, h, _ => by simp [rowsR]
  | [], cells, m + 1, h, hm => by simp at hm
  | x :: xs, cells, m + 1, h, hm => by
    obtain ⟨c, d, rfl, hx, hr⟩ := h
    have hc := k.len hx
    have := rowsR_take m hr (by simpa using hm)
    refine ⟨c, d.take (m * k.sz), ?_, hx, this⟩
    rw [Nat.succ_mul, List.take_append, hc, List.take_of_length_le (by omega)]
    congr 2; omega
/-- An own row, cut short, takes its own place. -/
theorem own_rowTake {α : Type} {k : Ty α} {t e : TypeId} {A : Option Addr} {n c : Nat} {xs y : List α} {cells : List Value} {hi' : Value} (h : Int) (H : Own ok w0 w L) (i j : Nat) (hi : L[i]? = some (.row (.slice A n c) e k.sz n cells)) (hj : L[j]? = some (.dat (dRows k xs cells))) (hn : n = xs.length) (ht : sliceB P t = some e) (hs : sizeB P e = some k.sz) (hhi : hiI (some hi') n h) (hm : slcM xs 0 h = some y)
    (hk : ∀ A' c' cells', Own ok w0 w ((L.set i (.row (.slice A' y.length c') e k.sz y.length cells')).set j (.dat (dRows k y cells'))) → K (.slice A' y.length c') w) : nSlice P g t (.slice A n c) none (some hi') none w K := by
  obtain ⟨h0, h1, h2, rfl⟩ := slcS hm
  obtain ⟨q, rfl⟩ := Int.eq_ofNat_of_zero_le h1
  subst hn
  have hij : i ≠ j := fun h => by subst h; rw [hi] at hj; cases hj
  have hc : xs.length ≤ c := by obtain ⟨A', c', hv, _, hc⟩ := H.rowSl i hi; cases hv; exact hc
  have hq : q ≤ xs.length := by omega
  refine pieceI_rule (xs := xs) (y := (xs.drop (0 : Int).toNat).take ((q : Int).toNat - (0 : Int).toNat)) k.sz 0 q ht hs rfl hhi hm ⟨rfl, hc⟩ rfl ?_
  have e0 : (xs.drop (0 : Int).toNat).take ((q : Int).toNat - (0 : Int).toNat) = xs.take q := by simp
  have el : (xs.take q).length = q := by simp; omega
  have H1 := H.rowPiece (l := 0) (h := q) i hi (Nat.zero_le _) hq
  have hR := rowsR_take q (H.dat j hj) hq
  have hpv : piece A c (0 : Int).toNat (q : Int).toNat k.sz = .slice (if c = 0 then A else A.map (·.add (0 * k.sz))) q c := by simp [piece]
  rw [hpv]
  have e1 : (cells.drop (0 * k.sz)).take ((q - 0) * k.sz) = cells.take (q * k.sz) := by simp
  rw [e1] at H1
  have hpv2 : piece A c 0 q k.sz = .slice (if c = 0 then A else A.map (·.add (0 * k.sz))) q c := by simp [piece]
  rw [hpv2, Nat.sub_zero] at H1
  have hj' : (L.set i (.row (.slice (if c = 0 then A else A.map (·.add (0 * k.sz))) q c) e k.sz q (cells.take (q * k.sz))))[j]? = some (.dat (dRows k xs cells)) := by rw [List.getElem?_set_ne hij]; exact hj
  have hok : okOf ok w0 (L.set i (.row (.slice (if c = 0 then A else A.map (·.add (0 * k.sz))) q c) e k.sz q (cells.take (q * k.sz)))) = okOf ok w0 L := by
    obtain ⟨X, Y, hL, hset⟩ := list_split hi
    have : muts (L.set i (.row (.slice (if c = 0 then A else A.map (·.add (0 * k.sz))) q c) e k.sz q (cells.take (q * k.sz)))) = muts L := by
      rw [hset]
      conv => rhs; rw [hL]
      rw [muts_split, muts_split]
      have hb : (Value.slice (if c = 0 then A else A.map (·.add (0 * k.sz))) q c).ownBlock = (Value.slice A xs.length c).ownBlock := by
        have := piece_block A c 0 q k.sz
        rw [hpv2] at this
        rw [this]; cases A <;> rfl
      simp only [muts, List.flatMap_cons, Item.muts, hb]
    unfold okOf; rw [this]
  have H2 := H1.setDat j (d' := dRows k (xs.take q) (cells.take (q * k.sz))) hj' (by rw [hok]; exact hR)
  have := hk (if c = 0 then A else A.map (·.add (0 * k.sz))) c (cells.take (q * k.sz)) (by rw [e0, el]; exact H2)
  rw [e0, el] at this
  exact this
/-! Results that lie in memory. -/
theorem Own.resA {t t' : TypeId} {b : Nat} {m : Nat} {cs : List Value} (H : Own ok w0 w L) (i : Nat) (hi : L[i]? = some (.blk b cs t')) (ha : aggB P t = some true) (hs : sizeB P t = some m) (hl : cs.length = m) : (loadVar t ⟨b, 0, none⟩).run P w = .ok (.agg cs.toArray) w :=
  loadA_run ha hs hl (cellsAt_blk (H.blk i hi) 0 cs 0 (fun j v hj => by simpa using hj))
end
section
variable {P : Program} {w0 : World} {ok : Nat → Prop} {L : List Item}
end
/-! ### Bytes as a text -/
section
variable {P : Program} {w w0 : World} {K : Value → World → Prop} {g : Bool} {ok : Nat → Prop} {L : List Item}
end
section
variable {P : Program} {w0 : World} {ok : Nat → Prop} {L : List Item}
/-- A literal that is handed on, in an open order. -/
theorem c_buildData {α : Type} {k : Ty α} {KE : Value → List Item → Prop} {t e : TypeId} {len : Nat} {z : Value} {parts : List (Nat × Value)} (cs : List Value) (xs : List α) (ht : sliceB P t = some e) (hs : sizeB P e = some k.sz) (hz : zeroB P e = some z) (hzl : z.cells.toList.length = k.sz) (hlen : Nat.ble (len * k.sz) 16777216 = true) (hpos : Nat.beq (len * k.sz) 0 = false)
    (hf : fillL (fun i => some (i * k.sz, k.sz)) (zerosL z.cells.toList len) parts = some cs) (hn : xs.length = len) (hl : cs.length = len * k.sz) (hm : len ≤ maxLen) (hR : ∀ w b, Own ok w0 w (.blk b cs e :: L) → rowsR k w (okOf ok w0 (.blk b cs e :: L)) xs cs)
    (hk : ∀ b, KE (.slice (some ⟨b, 0, none⟩) len len) (.dat (dSl k (.slice (some ⟨b, 0, none⟩) len len) xs) :: L)) : cBuildSlice P true t len parts ok w0 L KE := by
  unfold cBuildSlice
  refine cEv_in ⟨fun v L' => ∃ b, v = .slice (some ⟨b, 0, none⟩) len len ∧ L' = .dat (dSl k (.slice (some ⟨b, 0, none⟩) len len) xs) :: L, fun _ v L' ⟨b, _, h⟩ => by rw [h]; exact List.sublist_cons_self _ _, fun w H => ⟨fun _ => ?_, fun h => by cases h⟩, fun v L' ⟨b, hv, hL⟩ _ => by rw [hv, hL]; exact hk b⟩
  rw [sv_run (buildSlice_run ht hs hz hzl hlen hpos hf)]
  have H' := H.alloc cs e
  exact ⟨_, ⟨_, rfl, rfl⟩, H'.blkSl (k := k) xs len hn hl hm (hR _ _ H')⟩
end
def orI (k : IntKind) (x y : Int) : Int := k.wrap ((BitVec.ofInt k.bits x ||| BitVec.ofInt k.bits y).toNat : Int)
/-! ### A text as bytes -/
def bytesI (x : List UInt8) : List Int := x.map fun b => (b.toNat : Int)
section
variable {P : Program} {w w0 : World} {K : Value → World → Prop} {g : Bool} {ok : Nat → Prop} {L : List Item}
theorem own_ofStr {s d e : TypeId} {x : List UInt8} (H : Own ok w0 w L) (hs : strB P s = true) (hd : byteSl P d = some e) (hk : ∀ A c w', Own ok w0 w' (.dat (dSl (tInt .u8) (.slice A (bytesI x).length c) (bytesI x)) :: L) → K (.slice A (bytesI x).length c) w') : nConvert P true s d (.string (bs x)) w K := by
  have hus : P.underlying s = some .string := by
    unfold strB at hs
    split at hs
    · assumption
    · cases hs
  unfold byteSl at hd
  split at hd
  · rename_i e' he'
    split at hd
    · rename_i hu8
      cases hd
      have hud : P.underlying d = some (.slice e) := by
        unfold sliceB at he'
        split at he'
        · rename_i hu; cases he'; exact hu
        · cases he'
      unfold nConvert
      refine nOp_in ⟨fun _ => ?_, fun h => by cases h⟩
      rw [sv_run (run_bytes_of_string (P := P) w s d e (bs x) hus hud hu8)]
      have hlen : (bs x).size = (bytesI x).length := by simp [bytesI, bs, ByteArray.size]
      have hcap := grownCap_ge w (bs x).size 0 e
      rw [hlen] at hcap ⊢
      have hb : Bel w.heap.size w (w.drew.alloc (.cells (bytesRow (bs x) (grownCap w (bytesI x).length 0 e)) e ((bytesRow (bs x) (grownCap w (bytesI x).length 0 e)).size, (bytesRow (bs x) (grownCap w (bytesI x).length 0 e)).size + 1))) := (Bel.refl _ w).drew.alloc (Nat.le_refl _) _
      refine hk _ _ _ (H.callDats hb [dSl (tInt .u8) (.slice (some ⟨w.heap.size, 0, none⟩) (bytesI x).length (grownCap w (bytesI x).length 0 e)) (bytesI x)] ⟨?_, trivial⟩)
      refine ⟨_, _, rfl, hcap, .inr ⟨_, rfl, .inr (Nat.le_refl _), by show w.heap.size < (w.heap.push _).size; simp, fun j y hy => ⟨[.int .u8 y], rfl, ?_, trivial⟩⟩⟩
      have hj : j < (bs x).data.size := by
        have := (List.getElem?_eq_some_iff.1 hy).1
        simpa [bytesI, bs] using this
      have hrow := bytesRow_at (bs x) (grownCap w (bytesI x).length 0 e) j hj
      have hyv : ((bs x).data[j].toNat : Int) = y := by
        have h2 := hy
        simp only [bytesI, List.getElem?_map] at h2
        obtain ⟨a, ha, hya⟩ := Option.map_eq_some_iff.1 h2
        have hjx : j < x.length := (List.getElem?_eq_some_iff.1 ha).1
        have e : x[j] = a := (List.getElem?_eq_some_iff.1 ha).2
        show ((x.toArray)[j].toNat : Int) = y
        rw [← hya, ← e]; simp
      rw [hyv] at hrow
      have hnew : (w.drew.alloc (.cells (bytesRow (bs x) (grownCap w (bytesI x).length 0 e)) e ((bytesRow (bs x) (grownCap w (bytesI x).length 0 e)).size, (bytesRow (bs x) (grownCap w (bytesI x).length 0 e)).size + 1))).heap[w.heap.size]? = some (.cells (bytesRow (bs x) (grownCap w (bytesI x).length 0 e)) e ((bytesRow (bs x) (grownCap w (bytesI x).length 0 e)).size, (bytesRow (bs x) (grownCap w (bytesI x).length 0 e)).size + 1)) := by
        show (w.heap.push _)[w.heap.size]? = _
        simp
      show World.cell? _ ((Addr.add ⟨w.heap.size, 0, none⟩ (j * 1)).add 0) = _
      rcases Nat.eq_zero_or_pos j with hj0 | hj0
      · subst hj0
        simp only [World.cell?, Addr.add, Nat.zero_mul, if_true, hnew]
        simp [hrow]
      · have hj1 : j ≠ 0 := by omega
        simp only [World.cell?, Addr.add, Nat.mul_one, if_neg hj1, if_true, hnew]
        simp [hrow]
    · cases hd
  · cases hd
end
end Go.Eng
