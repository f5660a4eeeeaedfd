/- The engine's rules for pieces of lists and texts (x[l:h]), over any program. -/
import Derived.Test.YtipoblinefamgaaMore
import Derived.Laws.Slices
import Derived.Laws.Strings2
set_option linter.unusedVariables false
namespace Go.Eng
open Go.RowKit
set_option linter.unusedSectionVars false
variable [Inhabited Keep] [Inhabited Hard]

/-- A bound that is left out, or a number. -/
def atLo : Option Value → Nat → Prop
  | none, l => l = 0
  | some v, l => ∃ k, v = .int k (l : Int)
def atHi : Option Value → Nat → Nat → Prop
  | none, n, h => h = n
  | some v, _, h => ∃ k, v = .int k (h : Int)
/-- The piece of a slice. -/
def piece (A : Option Addr) (c l h sz : Nat) : Value := .slice (if c = l then A else A.map (·.add (l * sz))) (h - l) (c - l)

section
variable {P : Program} {w w0 : World} {K : Value → World → Prop} {KF : Value → Prop} {g : Bool} {ok : Nat → Prop} {L : List Item}

theorem piece_run {t e : TypeId} {sz n c l h : Nat} {A : Option Addr} {lo hi : Option Value} (ht : sliceB P t = some e) (hs : sizeB P e = some sz) (hlo : atLo lo l) (hhi : atHi hi n h) (h1 : l ≤ h) (h2 : h ≤ c) (h3 : hi = none → l ≤ n) :
    (Instr.sliceAt t (.slice A n c) lo hi none).run P w = .ok (piece A c l h sz) w := by
  have hu : P.underlying t = some (.slice e) := by
    unfold sliceB at ht
    split at ht
    · rename_i hu; cases ht; exact hu
    · cases ht
  have he : P.elem t = e := by simp [Program.elem, hu]
  have hu' : P.underlying t = some (.slice (P.elem t)) := by rw [he]; exact hu
  rw [run_sliceAt_slice w t _ _ _ _ hu']
  cases lo with
  | none =>
    have h0 : l = 0 := hlo
    subst h0
    cases hi with
    | none =>
      have hn : h = n := hhi
      subst hn
      rw [run_slice_all w t A h c hu', he]
      simp only [run_sizeOf hs, Result.andThen_ok]; rfl
    | some v =>
      obtain ⟨k, rfl⟩ := hhi
      rw [run_slice_h w t A n c hu' k (h : Int) (by omega) (by omega), he]
      simp only [run_sizeOf hs, Result.andThen_ok, Int.toNat_natCast]; rfl
  | some u =>
    obtain ⟨k, rfl⟩ := hlo
    cases hi with
    | none =>
      have hn : h = n := hhi
      subst hn
      rw [run_slice_l w t A h c hu' k (l : Int) (by omega) (by omega), he]
      simp only [run_sizeOf hs, Result.andThen_ok, Int.toNat_natCast]; rfl
    | some v =>
      obtain ⟨k', rfl⟩ := hhi
      rw [run_slice_lh w t A n c hu' k k' (l : Int) (h : Int) (by omega) (by omega) (by omega), he]
      simp only [run_sizeOf hs, Result.andThen_ok, Int.toNat_natCast]; rfl
theorem piece_rule {t e : TypeId} {n c : Nat} {A : Option Addr} {lo hi : Option Value} (sz l h : Nat) (ht : sliceB P t = some e) (hs : sizeB P e = some sz) (hlo : atLo lo l) (hhi : atHi hi n h) (h1 : g = true → l ≤ h) (h2 : g = true → h ≤ n) (h3 : n ≤ c) (hk : K (piece A c l h sz) w) : nSlice P g t (.slice A n c) lo hi none w K := by
  unfold nSlice
  exact nOp_now (fun hg => sv_run (piece_run ht hs hlo hhi (h1 hg) (by have := h2 hg; omega) (fun _ => by have := h1 hg; have := h2 hg; omega))) hk
theorem c_piece {C : World → Prop} {t e : TypeId} {n c : Nat} {A : Option Addr} {lo hi : Option Value} (sz l h : Nat) (ht : sliceB P t = some e) (hs : sizeB P e = some sz) (hlo : atLo lo l) (hhi : atHi hi n h) (h1 : g = true → l ≤ h) (h2 : g = true → h ≤ n) (h3 : n ≤ c) (hk : KF (piece A c l h sz)) : cSlice P g t (.slice A n c) lo hi none C KF := by
  unfold cSlice
  exact cFloat_in _ (fun hg w _ => sv_run (piece_run ht hs hlo hhi (h1 hg) (by have := h2 hg; omega) (fun _ => by have := h1 hg; have := h2 hg; omega))) hk

/-- A piece of a list that is there. -/
theorem slR_piece {α : Type} {k : Ty α} {A : Option Addr} {c : Nat} {xs : List α} {l h : Nat} (hx : slR k w ok (.slice A xs.length c) xs) (h1 : l ≤ h) (h2 : h ≤ xs.length) : slR k w ok (piece A c l h k.sz) ((xs.drop l).take (h - l)) := by
  obtain ⟨A', c', hv, hc, hr⟩ := hx
  cases hv
  have hlen : ((xs.drop l).take (h - l)).length = h - l := by rw [List.length_take, List.length_drop]; omega
  rcases hr with ⟨h0, hn⟩ | ⟨a, ha, h3, h4, h5⟩
  · subst h0
    have hl0 : l = 0 := by simp at h2; omega
    have hh0 : h = 0 := by simpa using h2
    subst hl0 hh0
    refine ⟨if c = 0 then A else A.map (·.add 0), c, by simp [piece], Nat.zero_le _, .inl ⟨by simp, fun he => ?_⟩⟩
    by_cases hc0 : c = 0
    · exact hc0
    · rw [if_neg hc0] at he
      exact hn (by cases A <;> simp_all)
  · subst ha
    refine ⟨if c = l then some a else some (a.add (l * k.sz)), c - l, by unfold piece; rw [hlen]; rfl, by rw [hlen]; omega, ?_⟩
    by_cases hcl : c = l
    · rw [if_pos hcl]
      left
      refine ⟨List.eq_nil_of_length_eq_zero (by rw [hlen]; omega), fun he => by cases he⟩
    · rw [if_neg hcl]
      refine .inr ⟨_, rfl, by rw [add_block]; exact h3, by rw [add_block]; exact h4, fun j x hj => ?_⟩
      rw [List.getElem?_take] at hj
      split at hj
      · rw [List.getElem?_drop] at hj
        obtain ⟨cs, q1, q2⟩ := h5 _ x hj
        refine ⟨cs, q1, ?_⟩
        rw [add_add, ← Nat.add_mul]
        exact q2
      · cases hj
theorem Own.addPiece {α : Type} {k : Ty α} {A : Option Addr} {c : Nat} {xs : List α} {l h : Nat} (H : Own ok w0 w L) (i : Nat) (hi : L[i]? = some (.dat (dSl k (.slice A xs.length c) xs))) (h1 : l ≤ h) (h2 : h ≤ xs.length) : Own ok w0 w (.dat (dSl k (piece A c l h k.sz) ((xs.drop l).take (h - l))) :: L) :=
  H.addDat _ (slR_piece (H.dat i hi) h1 h2)

/-- A piece of an own row takes its place. -/
theorem qRow_piece {e : TypeId} {sz n c : Nat} {A : Option Addr} {xs : List Value} {l h : Nat} (hx : qRow w e sz (.slice A n c) n xs) (h1 : l ≤ h) (h2 : h ≤ n) : qRow w e sz (piece A c l h sz) (h - l) ((xs.drop (l * sz)).take ((h - l) * sz)) := by
  have hm : h * sz ≤ n * sz := Nat.mul_le_mul_right _ h2
  have hm2 : l * sz ≤ h * sz := Nat.mul_le_mul_right _ h1
  have hsub : (h - l) * sz = h * sz - l * sz := Nat.sub_mul _ _ _
  refine ⟨by rw [List.length_take, List.length_drop, hx.1]; omega, ?_⟩
  rcases hx.2 with ⟨h0, A', hv, hA⟩ | ⟨q, off, cap, cur, hv, hg, hnc, hcm, hcs, ht⟩
  · injection hv with e1 e2 e3
    subst e1 e3
    have hl0 : l = 0 := by omega
    have hh0 : h = 0 := by omega
    subst hl0 hh0
    exact .inl ⟨rfl, A, by simp [piece], hA⟩
  · injection hv with e1 e2 e3
    subst e1 e3
    by_cases hcl : c = l
    · refine .inl ⟨by omega, some ⟨q, off * sz, none⟩, ?_, fun a ha => ?_⟩
      · unfold piece; rw [if_pos hcl, show h - l = 0 by omega, show c - l = 0 by omega]
      · cases ha; exact ⟨rfl, cur, hg⟩
    · refine .inr ⟨q, off + l, c - l, cur, ?_, hg, by omega, by omega, by rw [hcs]; congr 1; omega, ?_⟩
      · unfold piece; rw [if_neg hcl, Option.map_some, add_at, Nat.add_mul]
      · rw [← ht, List.drop_take, List.take_take, List.drop_drop, Nat.add_mul]
        congr 1
        omega
theorem piece_block (A : Option Addr) (c l h sz : Nat) : (piece A c l h sz).ownBlock = (Value.slice A 0 0).ownBlock := by
  unfold piece
  split
  · cases A <;> rfl
  · cases A with
    | none => rfl
    | some a => simp [Value.ownBlock, add_block]
theorem Own.rowPiece {e : TypeId} {sz n c : Nat} {A : Option Addr} {xs : List Value} {l h : Nat} (H : Own ok w0 w L) (i : Nat) (hi : L[i]? = some (.row (.slice A n c) e sz n xs)) (h1 : l ≤ h) (h2 : h ≤ n) : Own ok w0 w (L.set i (.row (piece A c l h sz) e sz (h - l) ((xs.drop (l * sz)).take ((h - l) * sz)))) := by
  have hx := qRow_piece (H.at hi) h1 h2
  obtain ⟨X, Y, hL, hs⟩ := list_split hi
  rw [hs]
  have hm : muts (X ++ .row (piece A c l h sz) e sz (h - l) ((xs.drop (l * sz)).take ((h - l) * sz)) :: Y) = muts L := by
    rw [hL]; simp only [muts, List.flatMap_append, List.flatMap_cons, Item.muts, piece_block]
    cases A <;> rfl
  have hk : okOf ok w0 (X ++ .row (piece A c l h sz) e sz (h - l) ((xs.drop (l * sz)).take ((h - l) * sz)) :: Y) = okOf ok w0 L := by unfold okOf; rw [hm]
  refine ⟨H.below, by rw [hm]; exact H.nd, by rw [hm]; exact H.ge, fun it hit => ?_⟩
  rw [hk]
  rcases List.mem_append.1 hit with h | h
  · exact H.all it (by rw [hL]; exact List.mem_append.2 (.inl h))
  · rcases List.mem_cons.1 h with h | h
    · subst h; exact hx
    · exact H.all it (by rw [hL]; exact List.mem_append.2 (.inr (List.mem_cons_of_mem _ h)))

/-- The cells of an own row. -/
theorem Own.rowCells {e : TypeId} {sz n c : Nat} {A : Option Addr} {xs : List Value} (H : Own ok w0 w L) (i : Nat) (hi : L[i]? = some (.row (.slice A n c) e sz n xs)) (hn : 0 < n) : ∃ a, A = some a ∧ ∀ j u, xs[j]? = some u → w.cell? (a.add j) = some u := by
  have h : qRow w e sz (.slice A n c) n xs := H.at hi
  rcases h.2 with ⟨h0, _⟩ | ⟨q, off, cap, cur, hv, hg, hnc, hcm, hcs, ht⟩
  · omega
  · injection hv with e1 e2 e3
    exact ⟨_, e1, fun j u hu => qRow_cell hg ht j u hu⟩
/-- .. in blocks that are the call's own, and those of its elements. -/
theorem Own.rowSlRin {α : Type} {k : Ty α} {e : TypeId} {v : Value} {xs : List α} {cs : List Value} {okr okn : Nat → Prop} (H : Own ok w0 w L) (i : Nat) (hi : L[i]? = some (.row v e k.sz xs.length cs)) (hR : rowsR k w okr xs cs) (h1 : ∀ b, okr b → okn b) (h2 : ∀ b, w0.heap.size ≤ b → okn b) : slR k w okn v xs := by
  have h : qRow w e k.sz v xs.length cs := H.at hi
  have hR := rowsR_mono h1 hR
  rcases h.2 with ⟨h0, A, hv, _⟩ | ⟨q, off, cap, cur, hv, hg, hnc, hcm, hcs, ht⟩
  · have hx : xs = [] := List.eq_nil_of_length_eq_zero h0
    subst hx hv
    exact ⟨A, 0, rfl, Nat.le_refl _, .inl ⟨rfl, fun _ => rfl⟩⟩
  · have hq : w0.heap.size ≤ q := H.ge q (mem_muts.2 ⟨_, List.mem_of_getElem? hi, by simp [Item.muts, hv, Value.ownBlock]⟩)
    subst hv
    refine ⟨some _, cap, rfl, hnc, .inr ⟨_, rfl, h2 q hq, (Array.getElem?_eq_some_iff.1 hg).1, fun j x hj => ?_⟩⟩
    obtain ⟨c, g1, g2⟩ := rowsR_get hR j x hj
    refine ⟨c, g1, cellsAt_of fun r u hr => ?_⟩
    rw [add_add]
    have := qRow_cell hg ht (j * k.sz + r) u (g2 r u hr)
    rwa [Nat.zero_add]
/-- A block that was laid whole, as a list. -/
theorem Own.blkSl {α : Type} {k : Ty α} {b : Nat} {cs : List Value} {e : TypeId} (H : Own ok w0 w (.blk b cs e :: L)) (xs : List α) (n : Nat) (hn : xs.length = n) (hl : cs.length = n * k.sz) (hm : n ≤ maxLen) (hR : rowsR k w (okOf ok w0 (.blk b cs e :: L)) xs cs) : Own ok w0 w (.dat (dSl k (.slice (some ⟨b, 0, none⟩) n n) xs) :: L) := by
  subst hn
  have H1 := (H.addDat (dRows k xs cs) hR)
  have H2 : Own ok w0 w (.blk b cs e :: .dat (dRows k xs cs) :: L) := H1.sub (fun it hi => by
    rcases List.mem_cons.1 hi with h | h
    · subst h; simp
    · rcases List.mem_cons.1 h with h | h
      · subst h; simp
      · simp [h]) (by
    have : muts (.blk b cs e :: .dat (dRows k xs cs) :: L) = muts (.dat (dRows k xs cs) :: .blk b cs e :: L) := by simp [muts, Item.muts]
    rw [this]; exact H1.nd)
  have H3 := (H2.blkRow hl hm).freeze (k := k) 0 1 rfl rfl
  exact H3.less (List.Sublist.cons_cons _ (List.Sublist.cons _ (List.Sublist.refl _)))
/-- A call in an open order, that leaves what is owned, and perhaps something more. -/
theorem c_callOwn {KE : Value → List Item → Prop} {f : FuncId} {args : List Value} (G : Value → List Item → Prop) (hg : g = true) (hb : bodyB P f = true) (hs : ∀ v L', G v L' → L.Sublist L') (hc : ∀ w, Own ok w0 w L → Calls P f args.toArray w fun e w' => ∃ u, e = .returned u ∧ ∃ L', G u L' ∧ Own ok w0 w' L') (hk : ∀ v L', G v L' → KE v L') : cCall P g f args ok w0 L KE := by
  subst hg
  unfold cCall
  refine cEv_in ⟨G, fun _ => hs, fun w H => ⟨fun _ => ?_, fun h => by cases h⟩, fun v L' hv _ => hk v L' hv⟩
  rw [run_callFunc hb]
  refine Calls.mono (hc w H) fun e w' ⟨u, he, hu⟩ => ?_
  subst he
  exact hu

/-! Texts' pieces. -/
theorem bs_extract (s : List UInt8) (l h : Nat) : (bs s).extract l h = bs ((s.drop l).take (h - l)) := by
  apply ByteArray.ext
  simp [bs, ByteArray.data_extract, List.extract_toArray]
theorem txt_run {t : TypeId} {s : List UInt8} {l h : Nat} {lo hi : Option Value} (ht : strB P t = true) (hlo : atLo lo l) (hhi : atHi hi s.length h) (h1 : l ≤ h) (h2 : h ≤ s.length) :
    (Instr.sliceAt t (.string (bs s)) lo hi none).run P w = .ok (.string (bs ((s.drop l).take (h - l)))) w := by
  have hu : P.underlying t = some .string := by
    unfold strB at ht
    split at ht
    · assumption
    · cases ht
  rw [run_sliceAt_string w t _ _ _ _ hu, ← bs_extract]
  cases lo with
  | none =>
    have h0 : l = 0 := hlo
    subst h0
    cases hi with
    | none =>
      have hn : h = s.length := hhi
      subst hn
      rw [run_slice_string_all w t (bs s) hu, bs_size]
    | some v =>
      obtain ⟨k, rfl⟩ := hhi
      rw [run_slice_string_h w t (bs s) hu k (h : Int) (by omega) (by rw [bs_size]; omega), Int.toNat_natCast]
  | some u =>
    obtain ⟨k, rfl⟩ := hlo
    cases hi with
    | none =>
      have hn : h = s.length := hhi
      subst hn
      rw [run_slice_string_l w t (bs s) hu k (l : Int) (by omega) (by rw [bs_size]; omega), Int.toNat_natCast, bs_size]
    | some v =>
      obtain ⟨k', rfl⟩ := hhi
      rw [run_slice_string w t (bs s) k k' (l : Int) (h : Int) hu (by omega) (by omega) (by rw [bs_size]; omega), Int.toNat_natCast, Int.toNat_natCast]
theorem txt_rule {t : TypeId} {s : List UInt8} {lo hi : Option Value} (l h : Nat) (ht : strB P t = true) (hlo : atLo lo l) (hhi : atHi hi s.length h) (h1 : g = true → l ≤ h) (h2 : g = true → h ≤ s.length) (hk : K (.string (bs ((s.drop l).take (h - l)))) w) : nSlice P g t (.string (bs s)) lo hi none w K := by
  unfold nSlice
  exact nOp_now (fun hg => sv_run (txt_run ht hlo hhi (h1 hg) (h2 hg))) hk
theorem c_txt {C : World → Prop} {t : TypeId} {s : List UInt8} {lo hi : Option Value} (l h : Nat) (ht : strB P t = true) (hlo : atLo lo l) (hhi : atHi hi s.length h) (h1 : g = true → l ≤ h) (h2 : g = true → h ≤ s.length) (hk : KF (.string (bs ((s.drop l).take (h - l))))) : cSlice P g t (.string (bs s)) lo hi none C KF := by
  unfold cSlice
  exact cFloat_in _ (fun hg w _ => sv_run (txt_run ht hlo hhi (h1 hg) (h2 hg))) hk
end
end Go.Eng
