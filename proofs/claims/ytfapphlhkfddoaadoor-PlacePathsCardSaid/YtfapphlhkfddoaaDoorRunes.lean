/- A range over a text whose bytes are all below 128: byte by byte. -/
import Derived.Test.YtfapphlhkfddoaaDoorGen2
set_option linter.unusedVariables false
namespace Go.Eng
open Go.RowKit
set_option linter.unusedSectionVars false
variable [Inhabited Keep]
variable {P : Program} {ok : Nat → Prop} {w0 w : World} {L : List Item} {K : Value → World → Prop}

theorem decode_ascii {s : List UInt8} {i : Nat} {c : UInt8} (h : s[i]? = some c) (hc : c.toNat < 128) : Utf8.decode (bs s) i = (c.toNat, 1) := by
  obtain ⟨hi, he⟩ := List.getElem?_eq_some_iff.1 h
  have hg : ((bs s).get! (i + 0)) = c := by
    rw [Nat.add_zero]
    show (s.toArray)[i]! = c
    rw [getElem!_pos s.toArray i (by simpa using hi)]
    simpa using he
  unfold Utf8.decode
  simp only [hg]
  rw [if_pos (by omega)]
theorem rangeStr_rule {t : TypeId} {s : List UInt8} (ht : strB P t = true) (H : Own ok w0 w L) (hk : ∀ r w', Own ok w0 w' (.obj r (· = .stringIter (bs s) 0) :: L) → K (.pointer (some ⟨r, 0, none⟩)) w') : nRange P true t (.string (bs s)) w K := by
  unfold nRange
  refine nOp_in ⟨fun _ => ?_, fun h => by cases h⟩
  rw [sv_run (v := .pointer (some ⟨w.heap.size, 0, none⟩)) (w' := w.alloc (.stringIter (bs s) 0))]
  · exact hk _ _ (H.allocObj _ rfl)
  · simp [Instr.range, run_underlying_str ht]
theorem nextStr_rule {t : TypeId} {s : List UInt8} {r pos : Nat} (hs : ∀ c ∈ s, c.toNat < 128) (H : Own ok w0 w L) (j : Nat) (hj : L[j]? = some (.obj r (· = .stringIter (bs s) pos)))
    (hend : s.length ≤ pos → K (.tuple #[.bool false]) w) (hk : ∀ c w', s[pos]? = some c → Own ok w0 w' (L.set j (.obj r (· = .stringIter (bs s) (pos + 1)))) → K (.tuple #[.bool true, .int .i64 (pos : Int), .int .i32 (c.toNat : Int)]) w') : nNext P true (.pointer (some ⟨r, 0, none⟩)) true t w K := by
  unfold nNext
  refine nOp_in ⟨fun _ => ?_, fun h => by cases h⟩
  obtain ⟨o, ho, rfl⟩ := H.obj j hj
  have hget : (getObj r).run P w = .ok (.stringIter (bs s) pos) w := by simp [getObj, Sem.run, ho]
  have hsz : (bs s).size = s.length := by simp [bs, ByteArray.size]
  by_cases hp : pos < s.length
  · have hc : s[pos]? = some s[pos] := List.getElem?_eq_getElem hp
    have hdec := decode_ascii hc (hs _ (List.getElem_mem hp))
    rw [sv_run (v := .tuple #[.bool true, .int .i64 (pos : Int), .int .i32 (s[pos].toNat : Int)]) (w' := w.putObj r (.stringIter (bs s) (pos + 1)))]
    · exact hk s[pos] _ hc (H.setObjAt j hj _ rfl)
    · unfold Instr.next
      simp only [Sem.run_bind, hget, Result.andThen_ok]
      rw [if_pos (by rw [hsz]; exact hp), hdec]
      simp [Go.setObj, Sem.run, ho, World.putObj, goInt]
  · rw [sv_run (v := .tuple #[.bool false]) (w' := w)]
    · exact hend (by omega)
    · unfold Instr.next
      simp only [Sem.run_bind, hget, Result.andThen_ok]
      rw [if_neg (by rw [hsz]; exact hp)]
      rfl
end Go.Eng
