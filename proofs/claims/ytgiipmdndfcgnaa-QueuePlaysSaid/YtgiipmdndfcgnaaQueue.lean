/- A queue's methods, by what the caller owns: New, Push, Pop, Len; no condition beyond the queue's being the caller's own. -/
import Derived.Test.YtgiipmdndfcgnaaChan
namespace Go.Proofs.Ytgiipmdndfcgnaa.Queue
open Go.Conc Go.RowKit Go.Eng Go.Proofs
set_option linter.unusedVariables false

/-- A channel of texts that is open. -/
def isChan (cap : Nat) (xs : List (List UInt8)) (o : Obj) : Prop := ∃ s r, o = .chan cap (xs.map fun t => Value.string (bs t)).toArray false s r false

variable {ok : Nat → Prop} {w0 w : World} {L : List Eng.Item} {b c cap : Nat} {xs : List (List UInt8)}

theorem push_own (H : Own ok w0 w L) (i j : Nat) (hi : L[i]? = some (.blk b [.chan (some c)] 78)) (hj : L[j]? = some (.obj c (isChan cap xs))) (t : List UInt8) :
    Calls Try.prog 15 #[.pointer (some ⟨b, 0, none⟩), .string (bs t)] w fun e w' => ∃ v, e = .returned v ∧ (v = .int .i64 (if xs.length < cap then 0 else 5) ∧ Own ok w0 w' (L.set j (.obj c (isChan cap (if xs.length < cap then xs ++ [t] else xs))))) := by
  obtain ⟨o, ho, s, r, rfl⟩ := H.obj j hj
  have hb := H.blk i hi
  have hm := H.mine j hj
  by_cases h : xs.length < cap
  · refine (Chan.push_room hb ho (by simpa using h)).mono ?_
    rintro e w' ⟨rfl, rfl⟩
    refine ⟨_, rfl, by rw [if_pos h], ?_⟩
    rw [if_pos h]
    refine H.setObj j hj (below_setChan H.below hm _ _ _ _ _ _) (size_setChan ..) ⟨_, heap_setChan _ _ _ _ _ _ _ _ (Array.getElem?_eq_some_iff.1 ho).1, s + 1, r, by simp⟩ ?_
    intro k hk
    simp [World.setChan, Array.getElem?_setIfInBounds_ne (Ne.symm hk)]
  · refine (Chan.push_full hb ho (by simpa using h)).mono ?_
    rintro e w' ⟨rfl, rfl⟩
    refine ⟨_, rfl, by rw [if_neg h], ?_⟩
    rw [if_neg h]
    exact H.setObj j hj H.below rfl ⟨_, ho, s, r, rfl⟩ (fun _ _ => rfl)

theorem pop_own (H : Own ok w0 w L) (i j : Nat) (hi : L[i]? = some (.blk b [.chan (some c)] 78)) (hj : L[j]? = some (.obj c (isChan cap xs))) :
    Calls Try.prog 30 #[.pointer (some ⟨b, 0, none⟩)] w fun e w' => ∃ v, e = .returned v ∧ (v = .tuple #[.string (bs (xs.headD [])), .bool (decide (0 < xs.length))] ∧ Own ok w0 w' (L.set j (.obj c (isChan cap xs.tail)))) := by
  obtain ⟨o, ho, s, r, rfl⟩ := H.obj j hj
  have hb := H.blk i hi
  have hm := H.mine j hj
  cases xs with
  | nil =>
    refine (Chan.pop_none (buf := #[]) hb ho).mono ?_
    rintro e w' ⟨rfl, rfl⟩
    exact ⟨_, rfl, rfl, H.setObj j hj H.below rfl ⟨_, ho, s, r, rfl⟩ (fun _ _ => rfl)⟩
  | cons x xs =>
    refine (Chan.pop_some hb ho (v := .string (bs x)) (by simp)).mono ?_
    rintro e w' ⟨rfl, rfl⟩
    refine ⟨_, rfl, by simp, ?_⟩
    refine H.setObj j hj (below_setChan H.below hm _ _ _ _ _ _) (size_setChan ..) ⟨_, heap_setChan _ _ _ _ _ _ _ _ (Array.getElem?_eq_some_iff.1 ho).1, s, r + 1, by simp; exact List.take_of_length_le (by simp)⟩ ?_
    intro k hk
    simp [World.setChan, Array.getElem?_setIfInBounds_ne (Ne.symm hk)]

theorem lenChan_rule {K : Value → World → Prop} {dir : ChanDir} {t ty e : TypeId} {consts : Array Bool} (ht : Try.prog.underlying t = some (.chan dir e)) (H : Own ok w0 w L) (j : Nat) (hj : L[j]? = some (.obj c (isChan cap xs))) (hk : K (.int .i64 xs.length) w) :
    nBuiltin Try.prog true .len [t] ty [.chan (some c)] consts w K := by
  obtain ⟨o, ho, s, r, rfl⟩ := H.obj j hj
  unfold nBuiltin
  refine nOp_now (v := .int .i64 xs.length) (fun _ => ?_) hk
  have h := run_len_chan (P := Try.prog) t ty ht ho
  show (do pure (.value (← Builtin.len_ #[t] ty #[.chan (some c)])) : Sem Next).run Try.prog w = _
  rw [Sem.run_bind, h]
  simp [goInt]
theorem makeChan_run {n : Int} (h1 : 1 ≤ n) (h2 : n ≤ 1000) : (Instr.makeChan 76 (.int .i64 n)).run Try.prog w = .ok (.chan (some w.heap.size)) (w.alloc (.chan n.toNat #[] false 0 0 false)) := by
  have h : (Try.prog.info? 29).map (·.bytes) = some 16 := by kernel_rfl
  obtain ⟨i, hi, hb⟩ := Option.map_eq_some_iff.1 h
  have := run_makeChan (P := Try.prog) (w := w) Try.underlying76 hi .i64 n.toNat (by omega) (by rw [hb]; omega)
  rwa [Int.toNat_of_nonneg (by omega)] at this

theorem len_own (H : Own ok w0 w L) (i j : Nat) (hi : L[i]? = some (.blk b [.chan (some c)] 78)) (hj : L[j]? = some (.obj c (isChan cap xs))) :
    Calls Try.prog 18 #[.pointer (some ⟨b, 0, none⟩)] w fun e w' => ∃ v, e = .returned v ∧ (v = .int .i64 xs.length ∧ Own ok w0 w' L) := by
  refine enter (args := [.pointer (some ⟨b, 0, none⟩)]) Try.func18 rfl Try.ntmps18 rfl rfl ?_
  refine nc ?_
  refine own_load H i hi rfl rfl ?_
  refine lenChan_rule Try.underlying76 H j hj ?_
  refine nc ?_
  refine ret_of [_] ⟨rfl, trivial⟩ ⟨_, rfl, rfl, H⟩

theorem new_own (H : Own ok w0 w L) (n : Int) (h1 : 1 ≤ n) (h2 : n ≤ 1000) :
    Calls Try.prog 14 #[.int .i64 n] w fun e w' => ∃ v, e = .returned v ∧ (∃ b c, v = .tuple #[.pointer (some ⟨b, 0, none⟩), .int .i64 0] ∧ Own ok w0 w' (.blk b [.chan (some c)] 78 :: .obj c (isChan n.toNat []) :: L)) := by
  refine enter (args := [.int .i64 n]) Try.func14 rfl Try.ntmps14 rfl rfl ?_
  refine nc ?_
  have d1 : decide (n < 1) = false := decide_eq_false (by omega)
  have d2 : decide (n > 1000) = false := decide_eq_false (by omega)
  refine nc ?_
  refine cond_no (by simp [d1, d2]) ?_
  refine nc ?_
  refine nOp_val (v := .chan (some w.heap.size)) (w' := w.alloc (.chan n.toNat #[] false 0 0 false)) (fun _ => sv_run (makeChan_run h1 h2)) (fun _ => ?_) (fun h => by cases h)
  have H' : Own ok w0 _ (.obj w.heap.size (isChan n.toNat []) :: L) := H.allocObj (.chan n.toNat #[] false 0 0 false) ⟨0, 0, rfl⟩
  refine own_box H' [.chan (some w.heap.size)] rfl fun b w' H => ?_
  refine nc ?_
  refine ret_of [_, _] ⟨rfl, rfl, trivial⟩ ⟨_, rfl, b, _, rfl, H⟩
end Go.Proofs.Ytgiipmdndfcgnaa.Queue
