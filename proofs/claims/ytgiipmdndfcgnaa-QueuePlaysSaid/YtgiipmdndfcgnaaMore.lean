/- The engine's further rules: what an own row is, reads of own rows, slices of lists, texts' pieces. Proved once, over any program. -/
import Derived.Test.YtgiipmdndfcgnaaOps
set_option linter.unusedVariables false
namespace Go.Eng
open Go.RowKit
section
variable {P : Program} {w w0 : World} {K : Value → World → Prop} {g : Bool} {ok : Nat → Prop} {L : List Item}

theorem Own.rowSl {e : TypeId} {sz n : Nat} {v : Value} {xs : List Value} (H : Own ok w0 w L) (i : Nat) (hi : L[i]? = some (.row v e sz n xs)) : ∃ A c, v = .slice A n c ∧ xs.length = n * sz ∧ n ≤ c := by
  have h : qRow w e sz v n xs := H.at hi
  rcases h.2 with ⟨hn, A, hv, _⟩ | ⟨q, off, cap, cur, hv, _, hc, _⟩
  · subst hn; exact ⟨A, 0, hv, h.1, Nat.le_refl _⟩
  · exact ⟨_, cap, hv, h.1, hc⟩

/-- A call whose guard holds. -/
theorem call_yes {f : FuncId} {args : List Value} {φ : Value → World → Prop} (hg : g = true) (hb : bodyB P f = true) (hc : Calls P f args.toArray w fun e w' => ∃ v, e = .returned v ∧ φ v w') (hk : ∀ v w', φ v w' → K v w') : nCall P g f args w K := by
  subst hg; exact call_rule hb hc hk
/-- A call whose guard does not hold. -/
theorem call_no {f : FuncId} {args : List Value} (hg : g = false) (hk : K undef w) : nCall P g f args w K := by
  subst hg; unfold nCall; exact nOp_in ⟨fun h => (by cases h), fun _ => ⟨undef, hk⟩⟩
theorem i64_id {x : Int} (h0 : -9223372036854775808 ≤ x) (h1 : x ≤ 9223372036854775807) : IntKind.i64.wrap x = x := by
  have e : IntKind.i64.wrap x = (x + 9223372036854775808) % 18446744073709551616 - 9223372036854775808 := by
    simp [IntKind.wrap, IntKind.bits, IntKind.signed]
    try (split <;> omega)
  omega
theorem u64_id {x : Int} (h0 : 0 ≤ x) (h1 : x ≤ 18446744073709551615) : IntKind.u64.wrap x = x := by
  have e : IntKind.u64.wrap x = x % 18446744073709551616 := by simp [IntKind.wrap, IntKind.bits, IntKind.signed]
  omega
end
end Go.Eng
