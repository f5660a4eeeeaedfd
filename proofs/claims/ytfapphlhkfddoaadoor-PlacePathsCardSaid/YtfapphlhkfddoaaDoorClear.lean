/- A piece of a row of the call's own is cleared. -/
import Derived.Test.YtfapphlhkfddoaaDoorRowSet
import Derived.Test.YtfapphlhkfddoaaDoorPieces
set_option linter.unusedVariables false
namespace Go.Eng
open Go.RowKit
set_option linter.unusedSectionVars false
variable [Inhabited Keep]

section
variable {P : Program} {w w0 : World} {K : Value → World → Prop} {g : Bool} {ok : Nat → Prop} {L : List Item}
/-- Cells of an own row are stored to. -/
theorem Own.setPart {e : TypeId} {sz n c : Nat} {a : Addr} {cells : List Value} (H : Own ok w0 w L) (i : Nat) (hi : L[i]? = some (.row (.slice (some a) n c) e sz n cells)) (o : Nat) (vs : List Value) (h0 : 0 < n) (h : o + vs.length ≤ n * sz) :
    Own ok w0 (setCells w (a.add o) 0 vs) (L.set i (.row (.slice (some a) n c) e sz n (setRange cells o vs))) ∧ ∀ q v, vs[q]? = some v → (∃ u, w.cell? ((a.add o).add (0 + q)) = some u) ∧ w.frozen? ((a.add o).add (0 + q)) = false := by
  have hq : qRow w e sz (.slice (some a) n c) n cells := H.at hi
  rcases hq.2 with ⟨hz, _⟩ | ⟨b, off0, cap, cur, hv, hg, hnc, hcm, hcs, ht⟩
  · omega
  have hcl := hq.1
  injection hv with e1 e2 e3
  injection e1 with e1
  subst e1 e3
  have hb3 : n * sz ≤ c * sz := Nat.mul_le_mul_right _ hnc
  have hb4 : (off0 + c) * sz = off0 * sz + c * sz := Nat.add_mul _ _ _
  have hcur : (off0 * sz + o) + vs.length ≤ cur.toList.length := by simp only [Array.length_toList, hcs, hb4]; omega
  have hw : setCells w ((Addr.mk b (off0 * sz) none).add o) 0 vs = World.setCells w b (off0 * sz + o) vs := by
    rw [add_at, setCells_eq]; rfl
  have hat : (World.setCells w b (off0 * sz + o) vs).heap[b]? = some (.cells (setRange cur.toList (off0 * sz + o) vs).toArray e (0, 0)) := setCells_at vs (off0 * sz + o) w cur hg
  have hother := fun q (hq : q ≠ b) => setCells_other vs (off0 * sz + o) w q hq
  obtain ⟨z1, z2, z3, z4⟩ := setCells_size (b := b) vs (off0 * sz + o) w
  have hgrown : w.grownBy (World.setCells w b (off0 * sz + o) vs) (some b) := ⟨z1, z2, z3, by rw [z4]; exact Nat.le_refl _, fun q _ hne => hother q (fun h => hne (by rw [h]))⟩
  have hnew : qRow (World.setCells w b (off0 * sz + o) vs) e sz (.slice (some ⟨b, off0 * sz, none⟩) n c) n (setRange cells o vs) := by
    refine ⟨by rw [setRange_len]; exact hcl, .inr ⟨b, off0, c, _, rfl, hat, hnc, hcm, by simp [setRange_len, hcs], ?_⟩⟩
    apply List.ext_getElem?
    intro q
    rw [List.getElem?_take, setRange_get _ _ _ _ (by rw [hcl]; exact h)]
    have hcq : cells[q]? = if q < n * sz then cur.toList[off0 * sz + q]? else none := by
      rw [← ht, List.getElem?_take]
      split
      · rw [List.getElem?_drop]
      · rfl
    split
    · rename_i hqn
      rw [List.getElem?_drop, setRange_get _ _ _ _ hcur]
      by_cases hin : o ≤ q ∧ q < o + vs.length
      · rw [if_pos hin, if_pos (by omega)]
        congr 1
        omega
      · rw [if_neg hin, if_neg (by omega), hcq, if_pos hqn]
    · rename_i hqn
      rw [if_neg (by omega), hcq, if_neg hqn]
  obtain ⟨A, B, hL, hset⟩ := list_split hi
  refine ⟨?_, fun q v hqv => ?_⟩
  · rw [hw, hset]
    subst hL
    exact Own.setRow (v := .slice (some ⟨b, off0 * sz, none⟩) n c) (v' := .slice (some ⟨b, off0 * sz, none⟩) n c) H hgrown (Nat.le_of_eq (setCells_drawn vs _ w).symm) hnew (.inl rfl)
  · have hql : q < vs.length := (List.getElem?_eq_some_iff.1 hqv).1
    rw [add_at, Nat.zero_add, add_at]
    have hlt : off0 * sz + o + q < cur.size := by
      simp only [Array.length_toList] at hcur
      omega
    refine ⟨⟨cur[off0 * sz + o + q], ?_⟩, ?_⟩
    · simp [World.cell?, hg]
    · simp [World.frozen?, hg]
/-- clear(s[l:]) of a row of whole numbers. -/
theorem own_clear {t ty e : TypeId} {A : Option Addr} {n c l : Nat} {cells : List Value} {consts : Array Bool} (H : Own ok w0 w L) (i : Nat) (hi : L[i]? = some (.row (.slice A n c) e 1 n cells)) (hl : l ≤ n) (ht : sliceB P t = some e) (hz : zeroB P e = some (.int .i64 0))
    (hk : ∀ cells' w', Own ok w0 w' (L.set i (.row (.slice A n c) e 1 n cells')) → K (.tuple #[]) w') : nBuiltin P true .clear [t] ty [piece A c l n 1] consts w K := by
  unfold nBuiltin
  refine nOp_in ⟨fun _ => ?_, fun h => by cases h⟩
  have hu := run_underlying_slice (w := w) ht
  by_cases h0 : n - l = 0
  · have hrun : (builtin .clear #[t] ty consts #[piece A c l n 1]).run P w = .ok (.value (.tuple #[])) w := by
      unfold piece
      rw [h0]
      generalize (if c = l then A else A.map (·.add (l * 1))) = A'
      show (sv (Builtin.clear_ #[t] ty #[.slice A' 0 (c - l)])).run P w = _
      refine sv_run ?_
      cases A' <;> simp [Builtin.clear_, hu]
    show upon P K ((builtin .clear #[t] ty consts #[piece A c l n 1]).run P w)
    rw [hrun]
    refine hk cells w ?_
    have : L.set i (.row (.slice A n c) e 1 n cells) = L := by
      obtain ⟨X, Y, hL, hset⟩ := list_split hi
      rw [hset, hL]
    rw [this]
    exact H
  · obtain ⟨a, rfl, _⟩ := H.rowCells i hi (by omega)
    have hq : qRow w e 1 (.slice (some a) n c) n cells := H.at hi
    have hnc : n ≤ c := by
      rcases hq.2 with ⟨hz, _⟩ | ⟨b, off0, cap, cur, hv, hg, hnc, _⟩
      · omega
      · injection hv with _ _ e3; omega
    have hm : Builtin.zeroCells (Value.int .i64 0).cells (n - l) = ((List.replicate (n - l) (Value.int .i64 0)).toArray) := by
      apply Array.ext
      · simp [Builtin.zeroCells, Value.cells]
      · intro q h1 h2
        simp [Builtin.zeroCells, Value.cells]
        have : q % 1 = 0 := Nat.mod_one q
        simp [this]
    obtain ⟨hown, hcell⟩ := H.setPart i hi l (List.replicate (n - l) (Value.int .i64 0)) (by omega) (by rw [List.length_replicate]; omega)
    have hrun : (builtin .clear #[t] ty consts #[piece (some a) c l n 1]).run P w = .ok (.value (.tuple #[])) (setCells w (a.add l) 0 (List.replicate (n - l) (Value.int .i64 0))) := by
      unfold piece
      rw [if_neg (by omega : ¬ c = l), Nat.mul_one]
      show (sv (Builtin.clear_ #[t] ty #[.slice (some (a.add l)) (n - l) (c - l)])).run P w = _
      refine sv_run ?_
      obtain ⟨m, hm1⟩ : ∃ m, n - l = m + 1 := ⟨n - l - 1, by omega⟩
      have hst := run_storeCells (P := P) (a := a.add l) (List.replicate (n - l) (Value.int .i64 0)) 0 w (fun v hv => by rw [(List.mem_replicate.1 hv).2]; rfl) hcell
      have hzr := run_zero (P := P) (w := w) hz
      rw [hm1] at hst hm ⊢
      simp [Builtin.clear_, hu, hzr, hm, hst]
    show upon P K ((builtin .clear #[t] ty consts #[piece (some a) c l n 1]).run P w)
    rw [hrun]
    exact hk _ _ hown
end
end Go.Eng
