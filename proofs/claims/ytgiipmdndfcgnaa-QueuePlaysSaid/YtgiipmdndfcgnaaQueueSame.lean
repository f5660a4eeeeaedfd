/- The law package's 'same': two lists of texts that are there are compared, text by text. -/
import Derived.Test.YtgiipmdndfcgnaaQueueShown
namespace Go.Proofs.Ytgiipmdndfcgnaa.Queue
open Go.Conc Go.RowKit Go.Eng Go.Proofs
set_option linter.unusedVariables false

theorem i64_id {x : Int} (h0 : -9223372036854775808 ≤ x) (h1 : x ≤ 9223372036854775807) : IntKind.i64.wrap x = x := by
  have e : IntKind.i64.wrap x = (x + 9223372036854775808) % 18446744073709551616 - 9223372036854775808 := by
    simp [IntKind.wrap, IntKind.bits, IntKind.signed]
    try (split <;> omega)
  omega
theorem same_calls {ok : Nat → Prop} {w : World} {u v : Value} {xs ys : List (List UInt8)} (hu : slR tStr w ok u xs) (hv : slR tStr w ok v ys) (hl : xs.length ≤ 140737488355328) :
    Calls Try.prog 17 #[u, v] w fun e w' => ∃ r, e = .returned r ∧ (r = .bool (decide (xs = ys)) ∧ Below w.heap.size w w') := by
  have H : Own ok w w [.dat (dSl tStr u xs), .dat (dSl tStr v ys)] := Own.start (ds := [dSl tStr u xs, dSl tStr v ys]) (by
    intro d hd
    rcases List.mem_cons.1 hd with h | h
    · subst h; exact hu
    · rw [List.mem_singleton] at h; subst h; exact hv)
  obtain ⟨A, c, hA, hc⟩ := H.sl 0 rfl
  obtain ⟨B, d, hB, hd⟩ := H.sl 1 rfl
  subst hA hB
  refine enter (args := [.slice A xs.length c, .slice B ys.length d]) Try.func17 rfl Try.ntmps17 rfl rfl ?_
  refine nc ?_
  refine nc ?_
  refine cond_of (fun hc => ?_) (fun hc => ?_)
  · have hne : ¬ xs = ys := fun e => by subst e; simp at hc
    refine nc ?_
    refine ret_of [.bool false] ⟨rfl, trivial⟩ ⟨_, rfl, ?_, H.below⟩
    rw [decide_eq_false hne]; rfl
  · have hlen : xs.length = ys.length := by
      have : ((xs.length : Int) != (ys.length : Int)) = false := hc
      simp at this; omega
    refine nc ?_
    refine nc ?_
    refine loop_rule (fun k e w' => ∃ i : Nat, i + k = xs.length ∧ e = [(0, .slice A xs.length c), (1, .slice B ys.length d), (5, .int .i64 (i : Int))] ∧ xs.take i = ys.take i ∧ Own ok w w' [.dat (dSl tStr (.slice A xs.length c) xs), .dat (dSl tStr (.slice B ys.length d) ys)]) xs.length [(0, .slice A xs.length c), (1, .slice B ys.length d), (5, .int .i64 ((0 : Nat) : Int))] ⟨rfl, rfl, rfl, trivial⟩ ⟨0, by omega, rfl, rfl, H⟩ ?_
    intro k e w' ⟨i, hik, he, ht, H⟩
    subst he
    refine nc ?_
    refine nc ?_
    refine cond_of (fun hc => ?_) (fun hc => ?_)
    · have hlt : i < xs.length := by have := of_decide_eq_true hc; omega
      refine nc ?_
      obtain ⟨a, c', cs, hA, hR, H⟩ := H.elem 0 rfl i hlt
      obtain ⟨b, d', ds, hB, hR2, H⟩ := H.elem 3 rfl i (by omega)
      cases hA; cases hB
      have hR : cs = [.string (bs xs[i])] := hR
      have hR2 : ds = [.string (bs (ys[i]'(by omega)))] := hR2
      subst hR hR2
      refine draw_rule [] (by kernel_rfl) (by kernel_rfl) H ?_
      refine c_indexAddr (e := 29) 1 i (by kernel_rfl) (by kernel_rfl) (fun _ => hlt) ?_
      refine c_loadD 2 rfl 0 (by kernel_rfl) rfl ?_
      refine c_indexAddr (e := 9) 1 i (by kernel_rfl) (by kernel_rfl) (fun _ => by omega) ?_
      refine c_loadD 0 rfl 0 (by kernel_rfl) rfl ?_
      refine fun w2 H => ?_
      refine nc ?_
      refine cond_of (fun hd => ?_) (fun hd => ?_)
      · have hne : ¬ xs = ys := by
          intro e
          subst e
          simp at hd
        refine nc ?_
        refine ret_of [.bool false] ⟨rfl, trivial⟩ ⟨_, rfl, ?_, H.below⟩
        rw [decide_eq_false hne]; rfl
      · have hel : xs[i] = ys[i]'(by omega) := by
          simp [bs_toList] at hd
          exact hd
        refine nc ?_
        refine again_in (k - 1) (by omega) [(0, .slice (some a) xs.length c), (1, .slice (some b) ys.length d), (5, .int .i64 ((i + 1 : Nat) : Int))] ⟨rfl, rfl, ?_, trivial⟩ ⟨i + 1, by omega, rfl, ?_, H.tail.tail.tail.tail⟩
        · show some (Value.int .i64 (IntKind.i64.wrap ((i : Int) + 1))) = _
          rw [i64_id (by omega) (by omega)]; rfl
        · rw [List.take_add_one, List.take_add_one, ht, List.getElem?_eq_getElem hlt, List.getElem?_eq_getElem (by omega), hel]
    · have hge : i = xs.length := by have := of_decide_eq_false hc; omega
      have hxy : xs = ys := by
        have h := ht
        rw [hge, List.take_length, List.take_of_length_le (by omega)] at h
        exact h
      refine nc ?_
      refine nc ?_
      refine ret_of [.bool true] ⟨rfl, trivial⟩ ⟨_, rfl, ?_, H.below⟩
      rw [decide_eq_true hxy]; rfl
end Go.Proofs.Ytgiipmdndfcgnaa.Queue
