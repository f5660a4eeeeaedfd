/- The engine's rules for what may fail, and for rows: shifts, divisions, texts, literals of slices, append, parts. Proved once, over any program. -/
import Derived.Test.YtipoblinefamgaaKinds
import Derived.Maps.AppendAt
import Derived.Laws.OwnMore
import Derived.Laws.IdiomStrings
import Derived.Laws.IdiomCopy
import Derived.ArgAppend
set_option linter.unusedVariables false
namespace Go.Eng
open Go.RowKit
set_option linter.unusedSectionVars false
variable [Inhabited Keep] [Inhabited Hard]

section
variable {P : Program} {w w0 : World} {K : Value → World → Prop} {g : Bool} {ok : Nat → Prop} {L : List Item} {α : Type} {C : World → Prop} {KF : Value → Prop} {KE : Value → List Item → Prop}

/-! ### Operators -/
def noEq : BinOp → Bool
  | .eql => false
  | .neq => false
  | _ => true
theorem eqGuard_run {op : BinOp} {t : TypeId} {xo yo : Operand} {x y : Value} (h : noEq op = true) : (eqGuard op t xo yo x y).run P w = .ok () w := by
  cases op <;> first | rfl | (simp [noEq] at h)
theorem bin_run {op : BinOp} {t : TypeId} {xo yo : Operand} {x y v : Value} (h : noEq op = true) (hb : (binOp op t x y).run P w = .ok v w) : (sv (do eqGuard op t xo yo x y; binOp op t x y)).run P w = .ok (.value v) w :=
  sv_run (by rw [Sem.run_bind, eqGuard_run h]; exact hb)
theorem shl_run {t : TypeId} {k k' : IntKind} {a b : Int} (hb : 0 ≤ b) : (binOp .shl t (.int k a) (.int k' b)).run P w = .ok (.int k (k.wrap (a * 2 ^ min b.toNat k.bits))) w := by
  simp only [binOp, Op.shift]; rw [if_neg (by omega)]; rfl
theorem shr_run {t : TypeId} {k k' : IntKind} {a b : Int} (hb : 0 ≤ b) : (binOp .shr t (.int k a) (.int k' b)).run P w = .ok (.int k (a.fdiv (2 ^ min b.toNat k.bits))) w := by
  simp only [binOp, Op.shift]; rw [if_neg (by omega)]; rfl
theorem rem_run {t : TypeId} {k : IntKind} {a b : Int} (hb : b ≠ 0) : (binOp .rem t (.int k a) (.int k b)).run P w = .ok (.int k (a.tmod b)) w := by
  simp only [binOp, Op.intDiv, ne_eq, not_true, if_false]; rw [if_neg hb]; rfl
theorem bs_toList (a : List UInt8) : (bs a).toList = a := by simp [ByteArray.toList_eq, bs]
theorem bs_append (a b : List UInt8) : bs a ++ bs b = bs (a ++ b) := by
  apply ByteArray.ext; simp [bs]
theorem cat_run {t : TypeId} {a b : List UInt8} (h : a.length + b.length ≤ 9223372036854775807) : (binOp .add t (.string (bs a)) (.string (bs b))).run P w = .ok (.string (bs (a ++ b))) w := by
  have hm : IntKind.i64.max = 9223372036854775807 := rfl
  simp only [binOp, Op.stringOp, bs_size, hm]
  rw [if_neg (by omega), bs_append]; rfl
theorem shl_rule {t : TypeId} {xo yo : Operand} {k k' : IntKind} {a b : Int} (hb : g = true → 0 ≤ b) (hk : K (.int k (k.wrap (a * 2 ^ min b.toNat k.bits))) w) : nBin P g .shl t xo yo (.int k a) (.int k' b) w K := by
  unfold nBin; exact nOp_now (fun hg => bin_run rfl (shl_run (hb hg))) hk
theorem shr_rule {t : TypeId} {xo yo : Operand} {k k' : IntKind} {a b : Int} (hb : g = true → 0 ≤ b) (hk : K (.int k (a.fdiv (2 ^ min b.toNat k.bits))) w) : nBin P g .shr t xo yo (.int k a) (.int k' b) w K := by
  unfold nBin; exact nOp_now (fun hg => bin_run rfl (shr_run (hb hg))) hk
theorem rem_rule {t : TypeId} {xo yo : Operand} {k : IntKind} {a b : Int} (hb : g = true → b ≠ 0) (hk : K (.int k (a.tmod b)) w) : nBin P g .rem t xo yo (.int k a) (.int k b) w K := by
  unfold nBin; exact nOp_now (fun hg => bin_run rfl (rem_run (hb hg))) hk
theorem cat_rule {t : TypeId} {xo yo : Operand} {a b : List UInt8} (h : g = true → a.length + b.length ≤ 9223372036854775807) (hk : K (.string (bs (a ++ b))) w) : nBin P g .add t xo yo (.string (bs a)) (.string (bs b)) w K := by
  unfold nBin; exact nOp_now (fun hg => bin_run rfl (cat_run (h hg))) hk
/-! ### Literals of slices -/
def zerosL (z : List Value) : Nat → List Value
  | 0 => []
  | n + 1 => z ++ zerosL z n
theorem zerosL_length (z : List Value) (n : Nat) : (zerosL z n).length = n * z.length := by
  induction n with
  | zero => simp [zerosL]
  | succ n ih => simp only [zerosL, List.length_append, ih, Nat.succ_mul]; omega
theorem zerosL_get (z : List Value) : ∀ (n i : Nat), i < n * z.length → (zerosL z n)[i]? = z[i % z.length]? := by
  intro n
  induction n with
  | zero => intro i h; simp at h
  | succ n ih =>
    intro i h
    simp only [zerosL]
    by_cases hi : i < z.length
    · rw [List.getElem?_append_left hi, Nat.mod_eq_of_lt hi]
    · rw [List.getElem?_append_right (by omega), ih _ (by rw [Nat.succ_mul] at h; omega)]
      congr 1
      exact (Nat.mod_eq_sub_mod (by omega)).symm
theorem zeros_arr (z : Value) (len sz : Nat) (hz : z.cells.toList.length = sz) : ((Array.range (len * sz)).map (z.cells[· % z.cells.size]!)) = (zerosL z.cells.toList len).toArray := by
  apply Array.ext'
  simp only [Array.toList_map, Array.toList_range]
  apply List.ext_getElem?
  intro i
  by_cases hi : i < len * sz
  · have hpos : 0 < sz := Nat.pos_of_ne_zero fun e => by subst e; simp at hi
    have hz' : z.cells.size = sz := by simpa using hz
    rw [zerosL_get z.cells.toList len i (by rw [hz]; exact hi), hz]
    have hm : i % sz < z.cells.size := by rw [hz']; exact Nat.mod_lt _ hpos
    rw [List.getElem?_map, List.getElem?_range hi]
    simp only [Option.map_some, hz', Array.getElem?_toList]
    rw [getElem!_pos z.cells _ hm, Array.getElem?_eq_getElem hm]
  · rw [List.getElem?_eq_none (by simp; omega), List.getElem?_eq_none (by rw [zerosL_length, hz]; omega)]

theorem buildSlice_run {t e : TypeId} {sz len : Nat} {z : Value} {parts : List (Nat × Value)} {cs : List Value} (ht : sliceB P t = some e) (hs : sizeB P e = some sz) (hz : zeroB P e = some z) (hzl : z.cells.toList.length = sz) (hlen : Nat.ble (len * sz) 16777216 = true) (hpos : Nat.beq (len * sz) 0 = false)
    (hf : fillL (fun i => some (i * sz, sz)) (zerosL z.cells.toList len) parts = some cs) : (Instr.buildSlice t len parts.toArray).run P w = .ok (.slice (some ⟨w.heap.size, 0, none⟩) len len) (w.alloc (.cells cs.toArray e)) := by
  have h1 : ¬ len * sz > 2 ^ 24 := by have := Nat.le_of_ble_eq_true hlen; omega
  have h2 : ¬ len * sz = 0 := fun h => by rw [h] at hpos; cases hpos
  have h3 := fillL_run (place' := fun i => some (i * sz, sz)) (fun i x h => h) parts (zerosL z.cells.toList len).toArray cs (by simpa using hf)
  unfold Instr.buildSlice
  simp only [Sem.run_bind, run_underlying_slice ht, Result.andThen_ok, run_sizeOf hs, h1, if_false, Sem.run_pure, h2, run_zero hz, zeros_arr z len sz hzl, h3]
  simp [newRow, newObj, Sem.run]
theorem own_buildSlice {t e : TypeId} {sz len : Nat} {z : Value} {parts : List (Nat × Value)} (H : Own ok w0 w L) (cs : List Value) (ht : sliceB P t = some e) (hs : sizeB P e = some sz) (hz : zeroB P e = some z) (hzl : z.cells.toList.length = sz) (hlen : Nat.ble (len * sz) 16777216 = true) (hpos : Nat.beq (len * sz) 0 = false)
    (hf : fillL (fun i => some (i * sz, sz)) (zerosL z.cells.toList len) parts = some cs) (hk : ∀ b w', Own ok w0 w' (.blk b cs e :: L) → K (.slice (some ⟨b, 0, none⟩) len len) w') : nBuildSlice P true t len parts w K := by
  unfold nBuildSlice
  refine nOp_in ⟨fun _ => ?_, fun h => by cases h⟩
  rw [sv_run (buildSlice_run ht hs hz hzl hlen hpos hf)]
  exact hk _ _ (H.alloc cs e)
theorem c_buildSlice {t e : TypeId} {sz len : Nat} {z : Value} {parts : List (Nat × Value)} (cs : List Value) (ht : sliceB P t = some e) (hs : sizeB P e = some sz) (hz : zeroB P e = some z) (hzl : z.cells.toList.length = sz) (hlen : Nat.ble (len * sz) 16777216 = true) (hpos : Nat.beq (len * sz) 0 = false)
    (hf : fillL (fun i => some (i * sz, sz)) (zerosL z.cells.toList len) parts = some cs) (hk : ∀ b, KE (.slice (some ⟨b, 0, none⟩) len len) (.blk b cs e :: L)) : cBuildSlice P true t len parts ok w0 L KE := by
  unfold cBuildSlice
  refine cEv_in ⟨fun v L' => ∃ b, v = .slice (some ⟨b, 0, none⟩) len len ∧ L' = .blk b cs e :: L, fun _ v L' ⟨b, _, h⟩ => by rw [h]; exact List.sublist_cons_self _ _, fun w H => ⟨fun _ => ?_, fun h => by cases h⟩, fun v L' ⟨b, hv, hL⟩ _ => by rw [hv, hL]; exact hk b⟩
  rw [sv_run (buildSlice_run ht hs hz hzl hlen hpos hf)]
  exact ⟨_, ⟨_, rfl, rfl⟩, H.alloc cs e⟩

/-! ### append -/
theorem setCells_other {b : Nat} : ∀ (vs : List Value) (o : Nat) (w : World) (k : Nat), k ≠ b → (World.setCells w b o vs).heap[k]? = w.heap[k]? := by
  intro vs
  induction vs with
  | nil => intro o w k _; rfl
  | cons v r ih =>
    intro o w k hk
    rw [World.setCells, ih _ _ k hk]
    exact Below.heap_setCell w ⟨b, o, none⟩ v k hk
theorem setCells_size {b : Nat} : ∀ (vs : List Value) (o : Nat) (w : World), (World.setCells w b o vs).os = w.os ∧ (World.setCells w b o vs).tape = w.tape ∧ (World.setCells w b o vs).output = w.output ∧ (World.setCells w b o vs).heap.size = w.heap.size := by
  intro vs
  induction vs with
  | nil => intro o w; exact ⟨rfl, rfl, rfl, rfl⟩
  | cons v r ih =>
    intro o w
    obtain ⟨h1, h2, h3, h4⟩ := ih (o + 1) (w.setCell ⟨b, o, none⟩ v)
    rw [World.setCells]
    exact ⟨h1, h2, h3, by rw [h4]; simp [World.setCell]⟩
theorem setCells_at {b : Nat} {e : TypeId} : ∀ (vs : List Value) (o : Nat) (w : World) (cur : Array Value), w.heap[b]? = some (.cells cur e (0, 0)) → (World.setCells w b o vs).heap[b]? = some (.cells (setRange cur.toList o vs).toArray e (0, 0)) := by
  intro vs
  induction vs with
  | nil => intro o w cur h; simpa [World.setCells, setRange] using h
  | cons v r ih =>
    intro o w cur h
    have h2 : (w.setCell ⟨b, o, none⟩ v).heap[b]? = some (.cells (cur.setIfInBounds o v) e (0, 0)) := by
      simp only [World.setCell, Array.getElem?_modify, h]
      simp
    rw [World.setCells, ih _ _ _ h2]
    simp [setRange]
theorem setRange_len : ∀ (vs cs : List Value) (o : Nat), (setRange cs o vs).length = cs.length := by
  intro vs
  induction vs with
  | nil => intro cs o; rfl
  | cons v r ih => intro cs o; simp [setRange, ih]
theorem setRange_eq : ∀ (vs cs : List Value) (o : Nat), o + vs.length ≤ cs.length → setRange cs o vs = cs.take o ++ vs ++ cs.drop (o + vs.length) := by
  intro vs
  induction vs with
  | nil => intro cs o h; simp [setRange]
  | cons v r ih =>
    intro cs o h
    simp only [List.length_cons] at h
    simp only [setRange]
    rw [ih _ _ (by simp; omega)]
    apply List.ext_getElem?
    intro j
    simp only [List.getElem?_append, List.getElem?_take, List.getElem?_drop, List.length_append, List.length_take, List.length_set, List.getElem?_set, List.getElem?_cons, List.length_cons]
    repeat' split
    all_goals first | omega | rfl | (congr 1; omega) | (exfalso; omega) | skip
    all_goals simp_all
    all_goals first | omega | (congr 1; omega)

/-- append to a row that may begin inside its block. -/
theorem qRow_append (w : World) (t ty e : TypeId) (i : TypeInfo) (z : Value) (size bytes : Nat) (ht : P.underlying t = some (.slice e)) (hi : P.info? e = some i) (hz : i.zero = some z)
    (hsize : i.size = size) (hby : i.bytes = bytes) (hzs : z.cells.size = size) (hsz : 0 < size) (v : Value) (n : Nat) (xs : List Value) (hown : qRow w e size v n xs)
    (a : Addr) (m c : Nat) (news : List Value) (hl : news.length = m * size) (hnews : ∀ j u, news[j]? = some u → w.cell? (a.add j) = some u) (h1 : ∀ u ∈ news, u.oneCell' = true)
    (h63 : n + m ≤ maxLen) (hbytes : (n + m) * bytes ≤ 140737488355328) :
    ∃ v' w', (Builtin.append_ #[t, t] ty #[v, .slice (some a) m c]).run P w = .ok v' w' ∧ qRow w' e size v' (n + m) (xs ++ news) ∧ w.grownBy w' v.ownBlock ∧ (v'.ownBlock = v.ownBlock ∨ ∃ b, v'.ownBlock = some b ∧ w.heap.size ≤ b) := by
  have grows : ∀ (b : Addr) (cap : Nat), cap < n + m → (∀ j u, xs[j]? = some u → w.cell? (b.add j) = some u) → v = .slice (some b) n cap →
      ∃ v' w', (Builtin.append_ #[t, t] ty #[v, .slice (some a) m c]).run P w = .ok v' w' ∧ qRow w' e size v' (n + m) (xs ++ news) ∧ w.grownBy w' v.ownBlock ∧ (v'.ownBlock = v.ownBlock ∨ ∃ b, v'.ownBlock = some b ∧ w.heap.size ≤ b) := by
    intro b cap hcap hcells hv
    obtain ⟨v', w', hr, ho, hg⟩ := run_append_arg_grows (P := P) (w := w) t ty e i z size bytes ht hi hz hsize hby hzs hsz b n cap xs hown.1 hcells a m c news hl hnews hcap h63 hbytes
    refine ⟨v', w', by rw [hv]; exact hr, qRow_of ho, ⟨hg.os, hg.tape, hg.output, hg.size, fun k hk _ => hg.block k hk (by simp)⟩, ?_⟩
    rcases ho.2 with ⟨_, h0⟩ | ⟨q, cap', cur, hv', hb, _⟩
    · omega
    · exact .inr ⟨q, by rw [hv']; rfl, hb⟩
  rcases hown.2 with ⟨h0, A, hv, hA⟩ | ⟨g, off, cap, cur, hv, hg, hnc, hcm, hcs, htake⟩
  · have hx : xs = [] := List.eq_nil_of_length_eq_zero (by rw [hown.1, h0, Nat.zero_mul])
    by_cases hA0 : A = none
    · subst hA0
      have ho : w.ownsRow 0 e size v n xs := ⟨hown.1, .inl ⟨hv, h0⟩⟩
      obtain ⟨v', w', hr, ho', hg, _, hat⟩ := run_append_own_at (P := P) w 0 t ty e i z size bytes ht hi hz hsize hby hzs hsz v n xs ho a m c news hl hnews h1 h63 hbytes (Nat.zero_le _)
      refine ⟨v', w', hr, qRow_of ho', hg, ?_⟩
      rcases hat with hat | hat
      · exact .inl hat
      · exact .inr ⟨_, hat, Nat.le_refl _⟩
    · obtain ⟨b, rfl⟩ := Option.ne_none_iff_exists'.1 hA0
      by_cases hm : 0 < m
      · exact grows b 0 (by omega) (fun j u hu => by rw [hx] at hu; simp at hu) (by rw [hv, h0])
      · have hm0 : m = 0 := by omega
        subst hm0
        have hn0 : news = [] := List.eq_nil_of_length_eq_zero (by rw [hl, Nat.zero_mul])
        subst hn0
        subst hsize hv
        obtain ⟨hsp, cur, hc⟩ := hA b rfl
        have eb : b = ⟨b.block, b.off, none⟩ := by cases b; simp at hsp; simp [hsp]
        have hr := run_append_room_cells (P := P) (w := w) t ty e i ht hi b.block b.off 0 0 a 0 c [] (by simp) (fun j u h => by simp at h) h1 (Nat.le_refl _) (fun j h => by simp at h) (fun j h => by simp at h)
        rw [← eb] at hr
        exact ⟨.slice (some b) 0 0, w, hr, ⟨by rw [hx, h0]; simp, .inl ⟨by omega, some b, rfl, hA⟩⟩, ⟨rfl, rfl, rfl, Nat.le_refl _, fun _ _ _ => rfl⟩, .inl rfl⟩
  · by_cases hroom : n + m ≤ cap
    · have hfit : off * size + n * size + news.length ≤ cur.size := by
        rw [hl, hcs, ← Nat.add_mul, ← Nat.add_mul]
        exact Nat.mul_le_mul_right _ (by omega)
      subst hsize
      have hr := run_append_room_cells (P := P) (w := w) t ty e i ht hi g (off * i.size) n cap a m c news hl hnews h1 hroom
        (fun j hj => by rw [cell_of_row w g _ cur e (0, 0) hg]; simp; omega) (fun j _ => by simp [World.frozen?, hg])
      obtain ⟨s1, s2, s3, s4⟩ := setCells_size (b := g) news (off * i.size + n * i.size) w
      refine ⟨_, _, by rw [hv]; exact hr, ⟨by rw [List.length_append, hown.1, hl, Nat.add_mul], .inr ⟨g, off, cap, _, rfl, setCells_at news _ w cur hg, hroom, hcm, by rw [List.size_toArray, setRange_len, Array.length_toList]; exact hcs, ?_⟩⟩,
        ⟨s1, s2, s3, by rw [s4]; exact Nat.le_refl _, fun k _ hk => setCells_other news _ w k (fun he => hk (by rw [hv, he]; rfl))⟩, .inl (by rw [hv]; rfl)⟩
      rw [List.toList_toArray, setRange_eq _ _ _ (by rw [Array.length_toList]; exact hfit)]
      rw [List.append_assoc, List.drop_append_of_le_length (by rw [List.length_take, Array.length_toList]; omega), List.drop_take]
      rw [show off * i.size + n * i.size - off * i.size = n * i.size by omega, htake]
      rw [← List.append_assoc]
      exact List.take_left' (by rw [List.length_append, hown.1, hl, Nat.add_mul])
    · refine grows ⟨g, off * size, none⟩ cap (by omega) (fun j u hu => ?_) hv
      rw [add_at, cell_of_row w g _ cur e (0, 0) hg]
      rw [← htake, List.getElem?_take] at hu
      split at hu
      · rw [List.getElem?_drop] at hu
        rw [← Array.getElem?_toList]
        exact hu
      · cases hu
def infoB (P : Program) (e : TypeId) : Option (Option Value × Nat × Nat) := (P.info? e).map fun i => (i.zero, i.size, i.bytes)
theorem own_rowAppend {t ty e : TypeId} {sz by_ n m c : Nat} {z v : Value} {xs news : List Value} {a : Addr} {consts : Array Bool} (H : Own ok w0 w L) (i : Nat) (hi : L[i]? = some (.row v e sz n xs)) (ht : sliceB P t = some e) (hinfo : infoB P e = some (some z, sz, by_)) (hzl : z.cells.toList.length = sz) (hpos : Nat.blt 0 sz = true)
    (hl : news.length = m * sz) (hc : cellsAt w a 0 news) (ho : ∀ u ∈ news, oneV u = true) (hb : n + m ≤ 140737488355328) (hb2 : (n + m) * by_ ≤ 140737488355328) :
    ∃ v' w', (builtin .append #[t, t] ty consts #[v, .slice (some a) m c]).run P w = .ok (.value v') w' ∧ Own ok w0 w' (L.set i (.row v' e sz (n + m) (xs ++ news))) := by
  have hrow : qRow w e sz v n xs := H.at hi
  unfold infoB at hinfo
  cases hin : P.info? e with
  | none => rw [hin] at hinfo; cases hinfo
  | some inf =>
    rw [hin] at hinfo
    simp only [Option.map_some, Option.some.injEq, Prod.mk.injEq] at hinfo
    obtain ⟨h1, h2, h3⟩ := hinfo
    have hu : P.underlying t = some (.slice e) := by
      unfold sliceB at ht
      split at ht
      · rename_i hu; cases ht; exact hu
      · cases ht
    have hpos' : 0 < sz := by simpa [Nat.blt_eq] using hpos
    obtain ⟨v', w', hrun, hown, hgrow, hat⟩ := qRow_append (P := P) w t ty e inf z sz by_ hu hin h1 h2 h3 (by simpa using hzl) hpos' v n xs hrow a m c news hl
      (fun j u hj => by have := cellsAt_get hc hj; rwa [Nat.zero_add] at this) (fun u hu => by rw [← one_kit]; exact ho u hu) (by unfold maxLen; omega) hb2
    refine ⟨v', w', ?_, ?_⟩
    · show (do pure (.value (← Builtin.append_ #[t, t] ty #[v, .slice (some a) m c])) : Sem Next).run P w = _
      rw [Sem.run_bind, hrun]; rfl
    · obtain ⟨A, B, hL, hs⟩ := list_split hi
      rw [hs]
      subst hL
      exact H.setRow hgrow (run_drawn hrun) hown hat

theorem append_none_run {t ty e : TypeId} {sz by_ n : Nat} {z v : Value} {xs : List Value} {consts : Array Bool} (H : Own ok w0 w L) (i : Nat) (hi : L[i]? = some (.row v e sz n xs)) (ht : sliceB P t = some e) (hinfo : infoB P e = some (some z, sz, by_)) :
    (builtin .append #[t, t] ty consts #[v, .slice none 0 0]).run P w = .ok (.value v) w := by
  have hrow : qRow w e sz v n xs := H.at hi
  unfold infoB at hinfo
  cases hin : P.info? e with
  | none => rw [hin] at hinfo; cases hinfo
  | some inf =>
    have hu : P.underlying t = some (.slice e) := by
      unfold sliceB at ht
      split at ht
      · rename_i hu; cases ht; exact hu
      · cases ht
    show (do pure (.value (← Builtin.append_ #[t, t] ty #[v, .slice none 0 0])) : Sem Next).run P w = _
    have hr : (Builtin.append_ #[t, t] ty #[v, .slice none 0 0]).run P w = .ok v w := by
      rcases hrow.2 with ⟨h0, A, hv, _⟩ | ⟨g, off, cap, cur, hv, _, hnc, _⟩
      · subst hv
        cases A <;> simp [Builtin.append_, run_underlying hu, sizeOf, typeInfo, hin, Builtin.lenOf, Builtin.firstCells, storeCells]
      · subst hv; simp [Builtin.append_, run_underlying hu, sizeOf, typeInfo, hin, Builtin.lenOf, Builtin.firstCells, hnc, storeCells]
    rw [Sem.run_bind, hr]; rfl

/-- append(row, one fresh block). -/
theorem own_appendBlk {t ty e e' : TypeId} {sz by_ n m c b : Nat} {z v : Value} {xs news : List Value} {consts : Array Bool} (H : Own ok w0 w L) (i j : Nat) (hi : L[i]? = some (.row v e sz n xs)) (hj : L[j]? = some (.blk b news e')) (ht : sliceB P t = some e) (hinfo : infoB P e = some (some z, sz, by_)) (hzl : z.cells.toList.length = sz) (hpos : Nat.blt 0 sz = true)
    (hl : news.length = m * sz) (ho : ∀ u ∈ news, oneV u = true) (hb : n + m ≤ 140737488355328) (hb2 : (n + m) * by_ ≤ 140737488355328)
    (hk : ∀ v' w', Own ok w0 w' (L.set i (.row v' e sz (n + m) (xs ++ news))) → K v' w') : nBuiltin P true .append [t, t] ty [v, .slice (some ⟨b, 0, none⟩) m c] consts w K := by
  obtain ⟨v', w', hr, hO⟩ := own_rowAppend (ty := ty) (consts := consts) (c := c) H i hi ht hinfo hzl hpos hl (cellsAt_of fun q u hq => by rw [add_at]; exact H.cell j hj (0 + (0 + q)) (by simpa using hq)) ho hb hb2
  unfold nBuiltin
  exact nOp_val (fun _ => hr) (fun _ => hk _ _ hO) (fun h => by cases h)

theorem c_appendBlk {KE : Value → List Item → Prop} {t ty e e' : TypeId} {sz by_ n m c b : Nat} {z v : Value} {xs news : List Value} {consts : Array Bool} (i j : Nat) (hi : L[i]? = some (.row v e sz n xs)) (hj : L[j]? = some (.blk b news e')) (ht : sliceB P t = some e) (hinfo : infoB P e = some (some z, sz, by_)) (hzl : z.cells.toList.length = sz) (hpos : Nat.blt 0 sz = true)
    (hl : news.length = m * sz) (ho : ∀ u ∈ news, oneV u = true) (hb : n + m ≤ 140737488355328) (hb2 : (n + m) * by_ ≤ 140737488355328)
    (hk : ∀ v', KE v' (L.set i (.row v' e sz (n + m) (xs ++ news)))) : cBuiltin P true .append [t, t] ty [v, .slice (some ⟨b, 0, none⟩) m c] consts ok w0 L KE := by
  unfold cBuiltin
  refine cEv_in ⟨fun v' L' => L' = L.set i (.row v' e sz (n + m) (xs ++ news)), fun h => (by cases h), fun w H => ⟨fun _ => ?_, fun h => by cases h⟩, fun v' L' h _ => by rw [h]; exact hk v'⟩
  obtain ⟨v', w', hr, hO⟩ := own_rowAppend (ty := ty) (consts := consts) (c := c) H i hi ht hinfo hzl hpos hl (cellsAt_of fun q u hq => by rw [add_at]; exact H.cell j hj (0 + (0 + q)) (by simpa using hq)) ho hb hb2
  show upon P _ ((builtin .append #[t, t] ty consts #[v, .slice (some ⟨b, 0, none⟩) m c]).run P w)
  rw [hr]
  exact ⟨_, rfl, hO⟩

/-- The cells of a list that is there. -/
theorem slR_cells {k : Ty α} {ok : Nat → Prop} {a : Addr} : ∀ {ys : List α} {off : Nat}, (∀ (j : Nat) x, ys[j]? = some x → ∃ cs, k.R w ok x cs ∧ cellsAt w (a.add ((off + j) * k.sz)) 0 cs) → ∃ news, rowsR k w ok ys news ∧ cellsAt w (a.add (off * k.sz)) 0 news := by
  intro ys
  induction ys with
  | nil => intro off _; exact ⟨[], rfl, trivial⟩
  | cons y ys ih =>
    intro off h
    obtain ⟨c, g1, g2⟩ := h 0 y rfl
    obtain ⟨d, g3, g4⟩ := ih (off := off + 1) fun j x hx => by
      obtain ⟨cs, h1, h2⟩ := h (j + 1) x (by simpa using hx)
      exact ⟨cs, h1, by rwa [show off + 1 + j = off + (j + 1) by omega]⟩
    refine ⟨c ++ d, ⟨c, d, rfl, g1, g3⟩, cellsAt_of fun j v hj => ?_⟩
    have hl := k.len g1
    by_cases hjl : j < c.length
    · rw [List.getElem?_append_left hjl] at hj
      exact cellsAt_get g2 hj
    · rw [List.getElem?_append_right (by omega)] at hj
      have := cellsAt_get g4 hj
      rw [add_add] at this ⊢
      rwa [show (off + 1) * k.sz + (0 + (j - c.length)) = off * k.sz + (0 + j) by rw [Nat.succ_mul]; omega] at this
/-- append(row, a list that is there ...). -/
theorem own_appendSl {k : Ty α} {t ty e : TypeId} {by_ n : Nat} {z v u : Value} {xs : List Value} {ys : List α} {consts : Array Bool} (H : Own ok w0 w L) (i j : Nat) (hi : L[i]? = some (.row v e k.sz n xs)) (hj : L[j]? = some (.dat (dSl k u ys))) (ht : sliceB P t = some e) (hinfo : infoB P e = some (some z, k.sz, by_)) (hzl : z.cells.toList.length = k.sz) (hpos : Nat.blt 0 k.sz = true)
    (hb : n + ys.length ≤ 140737488355328) (hb2 : (n + ys.length) * by_ ≤ 140737488355328)
    (hk : ∀ v' w' news, rowsR k w (okOf ok w0 L) ys news → Own ok w0 w' (L.set i (.row v' e k.sz (n + ys.length) (xs ++ news))) → K v' w') : nBuiltin P true .append [t, t] ty [v, u] consts w K := by
  obtain ⟨A, c, hv, hc, h⟩ := H.dat j hj
  subst hv
  unfold nBuiltin
  have fin : ∀ a, A = some a → ∀ news, rowsR k w (okOf ok w0 L) ys news → cellsAt w a 0 news → nOp P true (builtin .append #[t, t] ty consts #[v, .slice A ys.length c]) w K := by
    intro a ha news hR hC
    subst ha
    obtain ⟨v', w', hr, hO⟩ := own_rowAppend (ty := ty) (consts := consts) (c := c) H i hi ht hinfo hzl hpos (rowsR_length hR) hC (rowsR_one hR) hb hb2
    exact nOp_val (fun _ => hr) (fun _ => hk _ _ _ hR hO) (fun h => by cases h)
  rcases h with ⟨h, hn⟩ | ⟨a, ha, _, _, h4⟩
  · subst h
    cases A with
    | none =>
      have := hn rfl
      subst this
      refine nOp_now (fun _ => append_none_run H i hi ht hinfo) ?_
      refine hk v w [] rfl ?_
      have e1 : L.set i (.row v e k.sz (n + ([] : List α).length) (xs ++ [])) = L := by
        rw [List.append_nil]
        apply List.ext_getElem?
        intro q
        rw [List.getElem?_set]
        split
        · rename_i e2
          subst e2
          split
          · exact hi.symm
          · rename_i hq
            rw [List.getElem?_eq_none (by omega)] at hi; cases hi
        · rfl
      rw [e1]; exact H
    | some a => exact fin a rfl [] rfl trivial
  · subst ha
    obtain ⟨news, g1, g2⟩ := slR_cells (k := k) (a := a) (ys := ys) (off := 0) (fun j x hx => by rw [Nat.zero_add]; exact h4 j x hx)
    refine fin a rfl news g1 ?_
    have e2 : a.add (0 * k.sz) = a := by rw [Nat.zero_mul]; simp [Addr.add]
    rwa [e2] at g2

/-- A nil slice is an own row. -/
theorem Own.nilRow (H : Own ok w0 w L) (e : TypeId) (sz : Nat) : Own ok w0 w (.row (.slice none 0 0) e sz 0 [] :: L) := by
  have hm : muts (.row (.slice none 0 0) e sz 0 [] :: L) = muts L := by simp [muts, Item.muts, Value.ownBlock]
  refine ⟨H.below, by rw [hm]; exact H.nd, by rw [hm]; exact H.ge, fun it hi => ?_⟩
  have hk : okOf ok w0 (.row (.slice none 0 0) e sz 0 [] :: L) = okOf ok w0 L := by unfold okOf; rw [hm]
  rw [hk]
  rcases List.mem_cons.1 hi with h | h
  · subst h; exact qRow_of (World.ownsRow_nil w 0 e sz)
  · exact H.all it h
def strs (l : List (List UInt8)) : List Value := l.map fun t => .string (bs t)
theorem rows_strs {ok : Nat → Prop} : ∀ (l : List (List UInt8)), rowsR tStr w ok l (strs l)
  | [] => rfl
  | t :: l => ⟨[.string (bs t)], strs l, rfl, rfl, rows_strs l⟩
theorem strs_of {ok : Nat → Prop} : ∀ {l : List (List UInt8)} {cs : List Value}, rowsR tStr w ok l cs → cs = strs l
  | [], _, h => h
  | t :: l, _, ⟨c, d, e, h1, h2⟩ => by
    have h1 : c = [.string (bs t)] := h1
    subst h1
    have := strs_of h2
    subst this
    exact e
theorem qRow_cell {w : World} {g o m : Nat} {cur : Array Value} {e : TypeId} {xs : List Value} (hg : w.heap[g]? = some (.cells cur e (0, 0))) (ht : (cur.toList.drop o).take m = xs) (j : Nat) (u : Value) (hu : xs[j]? = some u) : w.cell? ((⟨g, o, none⟩ : Addr).add j) = some u := by
  rw [add_at, cell_of_row w g _ cur e (0, 0) hg]
  rw [← ht, List.getElem?_take] at hu
  split at hu
  · rw [List.getElem?_drop] at hu
    rw [← Array.getElem?_toList]
    exact hu
  · cases hu
/-- A row that is not written any more stands for a list. -/
theorem Own.freeze {k : Ty α} {e : TypeId} {v : Value} {xs : List α} {cs : List Value} (H : Own ok w0 w L) (i j : Nat) (hi : L[i]? = some (.row v e k.sz xs.length cs)) (hj : L[j]? = some (.dat (dRows k xs cs))) : Own ok w0 w (L.set i (.dat (dSl k v xs))) := by
  have hrow : qRow w e k.sz v xs.length cs := H.at hi
  have hR : rowsR k w (okOf ok w0 L) xs cs := H.dat j hj
  have hge := H.ge
  have hlt := H.lt
  have hnd := H.nd
  obtain ⟨A, B, hL, hs⟩ := list_split hi
  rw [hs]
  subst hL
  have hm1 : muts (A ++ .dat (dSl k v xs) :: B) = muts A ++ muts B := by simp [muts, Item.muts]
  have hm2 : muts (A ++ .row v e k.sz xs.length cs :: B) = muts A ++ (v.ownBlock.toList ++ muts B) := by simp [muts, Item.muts]
  have hsub : ∀ b, b ∈ muts (A ++ .dat (dSl k v xs) :: B) → b ∈ muts (A ++ .row v e k.sz xs.length cs :: B) := by
    intro b hb
    rw [hm1] at hb; rw [hm2]
    rcases List.mem_append.1 hb with h | h
    · exact List.mem_append.2 (.inl h)
    · exact List.mem_append.2 (.inr (List.mem_append.2 (.inr h)))
  have hok : ∀ b, okOf ok w0 (A ++ .row v e k.sz xs.length cs :: B) b → okOf ok w0 (A ++ .dat (dSl k v xs) :: B) b := fun b hb => ⟨hb.1, fun h => hb.2 (hsub b h)⟩
  refine H.move H.below (Nat.le_refl _) ?_ (fun g hg => .inl (hsub g hg)) (fun _ _ _ _ => rfl) (fun it hit => ?_)
  · rw [hm1]; rw [hm2] at hnd
    exact (List.Sublist.append (List.Sublist.refl _) (List.sublist_append_right _ _)).nodup hnd
  · rcases List.mem_append.1 hit with h | h
    · exact .inl ⟨List.mem_append.2 (.inl h), fun _ _ => rfl⟩
    · rcases List.mem_cons.1 h with h | h
      · subst h
        right
        have hR' := rowsR_mono hok hR
        rcases hrow.2 with ⟨hn, A0, hv, _⟩ | ⟨g, off, cap, cur, hv, hg, hnc, hcm, hcs, htake⟩
        · have : xs = [] := List.eq_nil_of_length_eq_zero hn
          subst this hv
          exact ⟨A0, 0, rfl, Nat.le_refl _, .inl ⟨rfl, fun _ => rfl⟩⟩
        · subst hv
          refine ⟨some ⟨g, off * k.sz, none⟩, cap, rfl, hnc, .inr ⟨_, rfl, ?_, (Array.getElem?_eq_some_iff.1 hg).1, fun q x hq => ?_⟩⟩
          · refine ⟨.inr (hge g (by rw [hm2]; simp [Value.ownBlock])), fun hmem => ?_⟩
            rw [hm1] at hmem
            rw [hm2] at hnd
            simp only [Value.ownBlock, Option.toList, List.cons_append, List.nil_append] at hnd
            rw [List.nodup_append] at hnd
            rcases List.mem_append.1 hmem with h | h
            · exact hnd.2.2 g h g (by simp) rfl
            · exact (List.nodup_cons.1 hnd.2.1).1 h
          · obtain ⟨c, g1, g2⟩ := rowsR_get hR' q x hq
            refine ⟨c, g1, cellsAt_of fun r u hr => ?_⟩
            rw [add_add]
            have := qRow_cell hg htake (q * k.sz + r) u (g2 r u hr)
            rwa [Nat.zero_add]
      · exact .inl ⟨List.mem_append.2 (.inr (List.mem_cons_of_mem _ h)), fun _ _ => rfl⟩

/-- An own row of texts that is not written any more. -/
theorem Own.freezeS {e : TypeId} {v : Value} {l : List (List UInt8)} (H : Own ok w0 w L) (i : Nat) (hi : L[i]? = some (.row v e 1 l.length (strs l))) : Own ok w0 w (L.set i (.dat (dSl tStr v l))) := by
  have H' := H.addDat (dRows tStr l (strs l)) (rows_strs l)
  exact (H'.freeze (k := tStr) (i + 1) 0 hi rfl).tail

/-- A literal is an own row. -/
theorem Own.blkRow {b n sz : Nat} {cs : List Value} {e : TypeId} (H : Own ok w0 w (.blk b cs e :: L)) (hl : cs.length = n * sz) (hn : n ≤ maxLen) : Own ok w0 w (.row (.slice (some ⟨b, 0, none⟩) n n) e sz n cs :: L) := by
  have hm : muts (.row (.slice (some ⟨b, 0, none⟩) n n) e sz n cs :: L) = muts (.blk b cs e :: L) := by simp [muts, Item.muts, Value.ownBlock]
  have hb := H.blk 0 rfl
  refine ⟨H.below, by rw [hm]; exact H.nd, by rw [hm]; exact H.ge, fun it hi => ?_⟩
  have hk : okOf ok w0 (.row (.slice (some ⟨b, 0, none⟩) n n) e sz n cs :: L) = okOf ok w0 (.blk b cs e :: L) := by unfold okOf; rw [hm]
  rw [hk]
  rcases List.mem_cons.1 hi with h | h
  · subst h
    exact qRow_of (base := 0) ⟨hl, .inr ⟨b, n, cs.toArray, rfl, Nat.zero_le _, hb, Nat.le_refl _, hn, by simpa using hl, by rw [← hl]; simp⟩⟩
  · exact H.all it (List.mem_cons_of_mem _ h)
theorem own_buildEmpty {t e : TypeId} {sz : Nat} (H : Own ok w0 w L) (ht : sliceB P t = some e) (hs : sizeB P e = some sz) (hk : ∀ v w', Own ok w0 w' (.row v e sz 0 [] :: L) → K v w') : nBuildSlice P true t 0 [] w K := by
  unfold nBuildSlice
  refine nOp_in ⟨fun _ => ?_, fun h => by cases h⟩
  have hr : (Instr.buildSlice t 0 (#[] : Array (Nat × Value))).run P w = .ok (.slice (some ⟨w.heap.size, 0, none⟩) 0 0) (w.alloc (.cells #[] e)) := by
    unfold Instr.buildSlice
    simp only [Sem.run_bind, run_underlying_slice ht, Result.andThen_ok, run_sizeOf hs, Nat.zero_mul]
    simp [newRow, newObj, Sem.run, Instr.fill]
    congr 2
    apply Array.ext'
    simp
  rw [sv_run hr]
  exact hk _ _ ((H.alloc [] e).blkRow (n := 0) (sz := sz) (by simp) (Nat.zero_le _))

/-! ### Bytes and texts -/
def bytesV (l : List UInt8) : List Value := l.map fun b => .int .u8 (b.toNat : Int)
def b8 (x : Int) : UInt8 := UInt8.ofNat (x % 256).toNat
theorem b8_wrap (x : Int) : IntKind.u8.wrap x = ((b8 x).toNat : Int) := by
  have e : IntKind.u8.wrap x = x % 256 := by simp [IntKind.wrap, IntKind.bits, IntKind.signed]
  rw [e]
  unfold b8
  rw [UInt8.toNat_ofNat']
  omega
theorem bytesV_append (a b : List UInt8) : bytesV (a ++ b) = bytesV a ++ bytesV b := by simp [bytesV]
def byteSl (P : Program) (t : TypeId) : Option TypeId := match sliceB P t with
  | some e => match P.underlying e with | some (.int .u8) => some e | _ => none
  | none => none
theorem own_toStr {s d e : TypeId} {v : Value} {l : List UInt8} (H : Own ok w0 w L) (i : Nat) (hi : L[i]? = some (.row v e 1 l.length (bytesV l))) (hl : l ≠ []) (hs : byteSl P s = some e) (hd : strB P d = true) (hk : K (.string (bs l)) w) : nConvert P g s d v w K := by
  have hrow : qRow w e 1 v l.length (bytesV l) := H.at hi
  unfold byteSl at hs
  split at hs
  · rename_i e' he'
    split at hs
    · rename_i hu8
      cases hs
      have hu : P.underlying s = some (.slice e) := by
        unfold sliceB at he'
        split at he'
        · rename_i hu; cases he'; exact hu
        · cases he'
      have hus : P.underlying d = some .string := by
        unfold strB at hd
        split at hd
        · assumption
        · cases hd
      rcases hrow.2 with ⟨hn, _⟩ | ⟨q, off, cap, cur, hv, hg, _, _, _, ht⟩
      · exact absurd (List.eq_nil_of_length_eq_zero hn) hl
      · subst hv
        unfold nConvert
        refine nOp_now (fun _ => sv_run (run_convert_bytes_back w s d e ⟨q, off * 1, none⟩ cap l hu hu8 hus fun j hj => ?_)) hk
        exact qRow_cell hg ht j _ (by simp [bytesV, hj])
    · cases hs
  · cases hs

/-! ### Pointers against nil -/
def ptrB (P : Program) (t : TypeId) : Bool := match P.underlying t with | some (.pointer _) => true | _ => false
theorem eqNil_run {t : TypeId} {p : Option Addr} (ht : ptrB P t = true) : (Op.equal t (.pointer p) (.pointer none)).run P w = .ok p.isNone w := by
  unfold ptrB at ht
  split at ht
  · rename_i hu
    unfold Op.equal Op.maxDepth Op.equalIn
    rw [Sem.run_bind, run_underlying hu]
    cases p <;> rfl
  · cases ht
theorem eqlNil_run {t : TypeId} {xo yo : Operand} {p : Option Addr} (ht : ptrB P t = true) : (sv (do eqGuard .eql t xo yo (.pointer p) (.pointer none); binOp .eql t (.pointer p) (.pointer none))).run P w = .ok (.value (.bool p.isNone)) w := by
  refine sv_run ?_
  show (do let _ ← (pure () : Sem Unit); (do pure (Value.bool (← Op.equal t (.pointer p) (.pointer none))))).run P w = _
  simp [eqNil_run ht]
theorem neqNil_run {t : TypeId} {xo yo : Operand} {p : Option Addr} (ht : ptrB P t = true) : (sv (do eqGuard .neq t xo yo (.pointer p) (.pointer none); binOp .neq t (.pointer p) (.pointer none))).run P w = .ok (.value (.bool (!p.isNone))) w := by
  refine sv_run ?_
  show (do let _ ← (pure () : Sem Unit); (do pure (Value.bool (!(← Op.equal t (.pointer p) (.pointer none)))))).run P w = _
  simp [eqNil_run ht]
theorem eqlNil_rule {t : TypeId} {xo yo : Operand} {p : Option Addr} (ht : ptrB P t = true) (hk : K (.bool p.isNone) w) : nBin P g .eql t xo yo (.pointer p) (.pointer none) w K := by
  unfold nBin; exact nOp_now (fun _ => eqlNil_run ht) hk
theorem neqNil_rule {t : TypeId} {xo yo : Operand} {p : Option Addr} (ht : ptrB P t = true) (hk : K (.bool (!p.isNone)) w) : nBin P g .neq t xo yo (.pointer p) (.pointer none) w K := by
  unfold nBin; exact nOp_now (fun _ => neqNil_run ht) hk

theorem c_eqlNil {t : TypeId} {xo yo : Operand} {p : Option Addr} (ht : ptrB P t = true) (hk : KF (.bool p.isNone)) : cBin P g .eql t xo yo (.pointer p) (.pointer none) C KF := by
  unfold cBin; exact cFloat_in _ (fun _ w _ => eqlNil_run ht) hk
/-! ### Slices against nil -/
theorem eqSl_run {t : TypeId} {A : Option Addr} {n c : Nat} (ht : (sliceB P t).isSome = true) : (Op.equal t (.slice A n c) (.slice none 0 0)).run P w = .ok A.isNone w := by
  obtain ⟨e, he⟩ := Option.isSome_iff_exists.1 ht
  unfold Op.equal Op.maxDepth Op.equalIn
  rw [Sem.run_bind, run_underlying_slice he]
  cases A <;> rfl
theorem eqlSl_rule {t : TypeId} {xo yo : Operand} {A : Option Addr} {n c : Nat} (ht : (sliceB P t).isSome = true) (hk : K (.bool A.isNone) w) : nBin P g .eql t xo yo (.slice A n c) (.slice none 0 0) w K := by
  unfold nBin
  refine nOp_now (fun _ => sv_run ?_) hk
  show (do let _ ← (pure () : Sem Unit); (do pure (Value.bool (← Op.equal t (.slice A n c) (.slice none 0 0))))).run P w = _
  simp [eqSl_run ht]
end
end Go.Eng
