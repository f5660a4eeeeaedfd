/- Elements of a row of the call's own: read, and written. -/
import Derived.Test.YtipoblinefamgaaGen
import Derived.Laws.OwnMore
set_option linter.unusedVariables false
namespace Go.Eng
open Go.RowKit
set_option linter.unusedSectionVars false
variable [Inhabited Keep] [Inhabited Hard]

theorem setRange_get : ∀ (vs cs : List Value) (o j : Nat), o + vs.length ≤ cs.length → (setRange cs o vs)[j]? = if o ≤ j ∧ j < o + vs.length then vs[j - o]? else cs[j]? := by
  intro vs cs o j h
  rw [setRange_eq vs cs o h, List.append_assoc, List.getElem?_append]
  have h1 : (cs.take o).length = o := by rw [List.length_take]; omega
  rw [h1]
  by_cases hj : j < o
  · rw [if_pos hj, if_neg (by omega), List.getElem?_take_of_lt hj]
  · rw [if_neg hj, List.getElem?_append]
    by_cases hj2 : j - o < vs.length
    · rw [if_pos hj2, if_pos (by omega)]
    · rw [if_neg hj2, if_neg (by omega), List.getElem?_drop]
      congr 1; omega
theorem setCells_eq {b : Nat} : ∀ (vs : List Value) (w : World) (o k : Nat), setCells w ⟨b, o, none⟩ k vs = World.setCells w b (o + k) vs := by
  intro vs
  induction vs with
  | nil => intro w o k; rfl
  | cons v r ih =>
    intro w o k
    simp only [setCells, World.setCells, add_at]
    rw [ih]; rfl

theorem setCells_drawn {b : Nat} : ∀ (vs : List Value) (o : Nat) (w : World), (World.setCells w b o vs).drawn = w.drawn := by
  intro vs
  induction vs with
  | nil => intro o w; rfl
  | cons v r ih => intro o w; rw [World.setCells, ih]; rfl

/-! An element's cells within the row's. -/
theorem rowsR_at {α : Type} {k : Ty α} {w : World} {ok : Nat → Prop} : ∀ {xs : List α} {cells : List Value}, rowsR k w ok xs cells → ∀ {i : Nat} {y : α}, xs[i]? = some y → ∃ cs, k.R w ok y cs ∧ (cells.drop (i * k.sz)).take k.sz = cs ∧ (i + 1) * k.sz ≤ cells.length ∧
    ∀ y' cs', k.R w ok y' cs' → rowsR k w ok (xs.set i y') (cells.take (i * k.sz) ++ cs' ++ cells.drop ((i + 1) * k.sz)) := by
  intro xs
  induction xs with
  | nil => intro cells _ i y h; simp at h
  | cons x xs ih =>
    intro cells h i y hy
    obtain ⟨c, d, rfl, hx, hr⟩ := h
    have hc := k.len hx
    cases i with
    | zero =>
      cases hy
      refine ⟨c, hx, by simp [hc], by simp [hc], fun y' cs' h' => ⟨cs', d, by simp [hc], h', hr⟩⟩
    | succ i =>
      obtain ⟨cs, h1, h2, h3, h4⟩ := ih hr (by simpa using hy)
      have e1 : (i + 1) * k.sz = k.sz + i * k.sz := by rw [Nat.succ_mul]; omega
      have e2 : (i + 1 + 1) * k.sz = k.sz + (i + 1) * k.sz := by rw [Nat.succ_mul]; omega
      refine ⟨cs, h1, ?_, ?_, fun y' cs' h' => ⟨c, d.take (i * k.sz) ++ cs' ++ d.drop ((i + 1) * k.sz), ?_, hx, h4 y' cs' h'⟩⟩
      · rw [e1, ← List.drop_drop, List.drop_left' hc]; exact h2
      · rw [List.length_append, hc, e2]; omega
      · rw [e1, e2, ← List.drop_drop, List.drop_left' hc, List.take_append, List.take_of_length_le (by omega : c.length ≤ k.sz + i * k.sz), hc]
        have : k.sz + i * k.sz - k.sz = i * k.sz := by omega
        rw [this]; simp [e1]
section
variable {P : Program} {w w0 : World} {K : Value → World → Prop} {g : Bool} {ok : Nat → Prop} {L : List Item}
/-- An element of an own row: its cells, at its place. -/
theorem Own.rowElem {α : Type} {k : Ty α} {e : TypeId} {A : Option Addr} {n c : Nat} {xs : List α} {cells : List Value} {x : Int} {y : α} (H : Own ok w0 w L) (i j : Nat) (hi : L[i]? = some (.row (.slice A n c) e k.sz n cells)) (hj : L[j]? = some (.dat (dRows k xs cells))) (hn : n = xs.length) (hx : idxL xs x = some y) :
    ∃ a cs, A = some a ∧ k.R w (okOf ok w0 L) y cs ∧ cellsAt w (a.add (x.toNat * k.sz)) 0 cs := by
  obtain ⟨h0, h1, h2⟩ := idxL_some hx
  obtain ⟨a, hA, hc⟩ := H.rowCells i hi (by omega)
  obtain ⟨cs, g1, g2, g3, _⟩ := rowsR_at (H.dat j hj) h2
  refine ⟨a, cs, hA, g1, cellsAt_of fun q v hq => ?_⟩
  rw [add_add, Nat.zero_add]
  refine hc _ v ?_
  rw [← g2, List.getElem?_take] at hq
  split at hq
  · rw [List.getElem?_drop] at hq; exact hq
  · cases hq
theorem Own.rowElemJ {α : Type} {k : Ty α} {e : TypeId} {a : Addr} {n c : Nat} {xs : List α} {cells : List Value} {x : Int} {y : α} (H : Own ok w0 w L) (i j : Nat) (hi : L[i]? = some (.row (.slice (some a) n c) e k.sz n cells)) (hj : L[j]? = some (.dat (dRows k xs cells))) (hn : n = xs.length) (hx : idxL xs x = some y) :
    ∃ cs, k.R w (okOf ok w0 L) y cs ∧ cellsAt w (a.add (x.toNat * k.sz)) 0 cs := by
  obtain ⟨a', cs, h, h1, h2⟩ := H.rowElem i j hi hj hn hx
  cases h
  exact ⟨cs, h1, h2⟩
theorem load_at {t : TypeId} {a : Addr} {cs : List Value} {v : Value} (hc : cellsAt w a 0 cs) (j : Nat) (ha : aggB P t = some false) (hj : cs[j]? = some v) (hk : K v w) : nLoad P g t (.pointer (some (a.add j))) w K := by
  have := cellsAt_get hc hj
  rw [Nat.zero_add] at this
  exact load_rule ha (fun _ => this) hk
/-- A store into an element of an own row. -/
theorem own_rowStore {α : Type} {k : Ty α} {t e : TypeId} {m : Nat} {a : Addr} {n c : Nat} {xs : List α} {y : α} {cells : List Value} {x : Value} (y' : α) (H : Own ok w0 w L) (i j : Nat) (hi : L[i]? = some (.row (.slice (some a) n c) e k.sz n cells)) (hj : L[j]? = some (.dat (dRows k xs cells))) (ix : Int) (off : Nat) (hn : n = xs.length) (hx : idxL xs ix = some y)
    (hs : sizeB P t = some m) (vs : List Value) (hxv : x.cells = vs.toArray) (hl : vs.length = m) (ho : allOne vs = true) (hr : Nat.ble (off + m) k.sz = true) (hy : ∀ cs, k.R w (okOf ok w0 L) y cs → k.R w (okOf ok w0 L) y' (setRange cs off vs))
    (hk : ∀ cells' w', Own ok w0 w' ((L.set i (.row (.slice (some a) n c) e k.sz n cells')).set j (.dat (dRows k (xs.set ix.toNat y') cells'))) → K undef w') : nStore P true t (.pointer (some ((a.add (ix.toNat * k.sz)).add off))) x w K := by
  obtain ⟨h0, h1, h2⟩ := idxL_some hx
  have hr := Nat.le_of_ble_eq_true hr
  have hq : qRow w e k.sz (.slice (some a) n c) n cells := H.at hi
  obtain ⟨cs, g1, g2, g3, g4⟩ := rowsR_at (H.dat j hj) h2
  rcases hq.2 with ⟨hz, _⟩ | ⟨b, off0, cap, cur, hv, hg, hnc, hcm, hcs, ht⟩
  · omega
  have hcl := hq.1
  injection hv with e1 e2 e3
  injection e1 with e1
  subst e1 e3
  have hij : i ≠ j := fun h => by subst h; rw [hi] at hj; cases hj
  have hil : ix.toNat < n := by omega
  have hb1 : (ix.toNat + 1) * k.sz ≤ n * k.sz := Nat.mul_le_mul_right _ hil
  have hb2 : (ix.toNat + 1) * k.sz = ix.toNat * k.sz + k.sz := Nat.succ_mul _ _
  have hb3 : n * k.sz ≤ c * k.sz := Nat.mul_le_mul_right _ hnc
  have hb4 : (off0 + c) * k.sz = off0 * k.sz + c * k.sz := Nat.add_mul _ _ _
  have hcl2 : (cells.drop (ix.toNat * k.sz)).length = n * k.sz - ix.toNat * k.sz := by rw [List.length_drop, hcl]
  have hcsl : cs.length = k.sz := k.len g1
  -- the world behind
  let o := off0 * k.sz + (ix.toNat * k.sz + off)
  have hcur : o + vs.length ≤ cur.toList.length := by simp only [Array.length_toList, hcs, hb4, hl]; show off0 * k.sz + (ix.toNat * k.sz + off) + m ≤ _; omega
  have hw : setCells w ((Addr.mk b (off0 * k.sz) none).add (ix.toNat * k.sz) |>.add off) 0 vs = World.setCells w b o vs := by
    rw [add_add, add_at, setCells_eq]; rfl
  have hat : (World.setCells w b o vs).heap[b]? = some (.cells (setRange cur.toList o vs).toArray e (0, 0)) := setCells_at vs o w cur hg
  have hother := fun q (hq : q ≠ b) => setCells_other vs o w q hq
  obtain ⟨z1, z2, z3, z4⟩ := setCells_size (b := b) vs o w
  have hgrown : w.grownBy (World.setCells w b o vs) (some b) := ⟨z1, z2, z3, by rw [z4]; exact Nat.le_refl _, fun q _ hne => hother q (fun h => hne (by rw [h]))⟩
  have hnew : qRow (World.setCells w b o vs) e k.sz (.slice (some ⟨b, off0 * k.sz, none⟩) n c) n (setRange cells (ix.toNat * k.sz + off) vs) := by
    refine ⟨by rw [setRange_len]; exact hcl, .inr ⟨b, off0, c, _, rfl, hat, hnc, hcm, by simp [setRange_len, hcs], ?_⟩⟩
    apply List.ext_getElem?
    intro q
    rw [List.getElem?_take, setRange_get _ _ _ _ (by rw [hcl, hl]; omega)]
    have hcq : cells[q]? = if q < n * k.sz then cur.toList[off0 * k.sz + q]? else none := by
      rw [← ht, List.getElem?_take]
      split
      · rw [List.getElem?_drop]
      · rfl
    split
    · rename_i hqn
      rw [List.getElem?_drop]
      show (setRange cur.toList o vs)[off0 * k.sz + q]? = _
      rw [setRange_get _ _ _ _ hcur]
      by_cases hin : ix.toNat * k.sz + off ≤ q ∧ q < ix.toNat * k.sz + off + vs.length
      · rw [if_pos hin, if_pos (by show off0 * k.sz + (ix.toNat * k.sz + off) ≤ _ ∧ _ < off0 * k.sz + (ix.toNat * k.sz + off) + _; omega)]
        congr 1
        show off0 * k.sz + q - (off0 * k.sz + (ix.toNat * k.sz + off)) = _
        omega
      · rw [if_neg hin, if_neg (by show ¬ (off0 * k.sz + (ix.toNat * k.sz + off) ≤ _ ∧ _ < off0 * k.sz + (ix.toNat * k.sz + off) + _); omega), hcq, if_pos hqn]
    · rename_i hqn
      rw [if_neg (by rw [hl]; omega), hcq, if_neg hqn]
  obtain ⟨A, B, hL, hset⟩ := list_split hi
  have H1 : Own ok w0 (World.setCells w b o vs) (L.set i (.row (.slice (some ⟨b, off0 * k.sz, none⟩) n c) e k.sz n (setRange cells (ix.toNat * k.sz + off) vs))) := by
    rw [hset]
    subst hL
    exact Own.setRow (v := .slice (some ⟨b, off0 * k.sz, none⟩) n c) (v' := .slice (some ⟨b, off0 * k.sz, none⟩) n c) H hgrown (Nat.le_of_eq (setCells_drawn vs o w).symm) hnew (.inl rfl)
  have hj' : (L.set i (.row (.slice (some ⟨b, off0 * k.sz, none⟩) n c) e k.sz n (setRange cells (ix.toNat * k.sz + off) vs)))[j]? = some (.dat (dRows k xs cells)) := by rw [List.getElem?_set_ne hij]; exact hj
  have hokeq : okOf ok w0 (L.set i (.row (.slice (some ⟨b, off0 * k.sz, none⟩) n c) e k.sz n (setRange cells (ix.toNat * k.sz + off) vs))) = okOf ok w0 L := by
    have : muts (L.set i (.row (.slice (some ⟨b, off0 * k.sz, none⟩) n c) e k.sz n (setRange cells (ix.toNat * k.sz + off) vs))) = muts L := by
      rw [hset]; subst hL; rw [muts_split, muts_split]; rfl
    unfold okOf; rw [this]
  -- the element is another one
  have hy2 := hy cs g1
  have hsz : cells.take (ix.toNat * k.sz) ++ setRange cs off vs ++ cells.drop ((ix.toNat + 1) * k.sz) = setRange cells (ix.toNat * k.sz + off) vs := by
    apply List.ext_getElem?
    intro q
    have l1 : (cells.take (ix.toNat * k.sz)).length = ix.toNat * k.sz := by rw [List.length_take, hcl]; omega
    rw [setRange_get _ _ _ _ (by rw [hcl, hl]; omega), List.append_assoc, List.getElem?_append, l1]
    by_cases q1 : q < ix.toNat * k.sz
    · rw [if_pos q1, if_neg (by omega), List.getElem?_take_of_lt q1]
    · rw [if_neg q1, List.getElem?_append, setRange_len, hcsl]
      by_cases q2 : q - ix.toNat * k.sz < k.sz
      · rw [if_pos q2, setRange_get _ _ _ _ (by rw [hcsl, hl]; omega)]
        by_cases hin : off ≤ q - ix.toNat * k.sz ∧ q - ix.toNat * k.sz < off + vs.length
        · rw [if_pos hin, if_pos (by omega)]; congr 1; omega
        · rw [if_neg hin, if_neg (by omega), ← g2, List.getElem?_take_of_lt q2, List.getElem?_drop]; congr 1; omega
      · rw [if_neg q2, if_neg (by rw [hl]; omega), List.getElem?_drop]; congr 1; omega
  have hstep : k.R (World.setCells w b o vs) (okOf ok w0 L) y' (setRange cs off vs) := by
    refine k.step (fun q hq hlt => hother q fun hqb => hq.2 ?_) hy2
    subst hqb
    exact mem_muts.2 ⟨_, List.mem_of_getElem? hi, by show q ∈ (Value.slice (some ⟨q, off0 * k.sz, none⟩) n c).ownBlock.toList; simp [Value.ownBlock]⟩
  have hrows0 : rowsR k (World.setCells w b o vs) (okOf ok w0 L) xs cells := by have := H1.dat j hj'; rw [hokeq] at this; exact this
  obtain ⟨cs2, q1, q2, q3, q4⟩ := rowsR_at hrows0 h2
  have hrows := q4 y' _ hstep
  rw [hsz] at hrows
  have H2 := H1.setDat j (d' := dRows k (xs.set ix.toNat y') (setRange cells (ix.toNat * k.sz + off) vs)) hj' (by rw [hokeq]; exact hrows)
  -- the store itself
  unfold nStore
  refine nOp_in ⟨fun _ => ?_, fun h => by cases h⟩
  rw [su_run (w' := World.setCells w b o vs)]
  · exact hk _ _ H2
  · have hszx : x.cells.size = m := by rw [hxv]; simpa using hl
    simp only [Instr.storeAt, Instr.sureAddr, Sem.run_bind, Sem.run_pure, Result.andThen_ok, storeVar, run_sizeOf hs, hszx]
    simp only [ne_eq, not_true, if_false, hxv]
    rw [← hw]
    refine run_storeCells vs 0 w (allOne_ok ho) fun q v hqv => ?_
    have hql : q < vs.length := (List.getElem?_eq_some_iff.1 hqv).1
    rw [add_add, add_at, Nat.zero_add, add_at]
    have hlt : off0 * k.sz + (ix.toNat * k.sz + off) + q < cur.size := by
      have : o + vs.length ≤ cur.toList.length := hcur
      simp only [Array.length_toList] at this
      show o + q < cur.size
      omega
    refine ⟨⟨cur[off0 * k.sz + (ix.toNat * k.sz + off) + q], ?_⟩, ?_⟩
    · have e9 : off0 * k.sz + ix.toNat * k.sz + (off + q) = off0 * k.sz + (ix.toNat * k.sz + off) + q := by omega
      simp [World.cell?, hg]
      rw [e9]; exact Array.getElem?_eq_getElem hlt
    · simp [World.frozen?, hg]
end
end Go.Eng
