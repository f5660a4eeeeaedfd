/- The engine's further rules: what an own row is, reads of own rows, slices of lists, texts' pieces. Proved once, over any program. -/
import Derived.Test.YtipoblinefamgaaOps
set_option linter.unusedVariables false
namespace Go.Eng
open Go.RowKit
set_option linter.unusedSectionVars false
variable [Inhabited Keep] [Inhabited Hard]
section
variable {P : Program} {w w0 : World} {K : Value → World → Prop} {g : Bool} {ok : Nat → Prop} {L : List Item}

theorem Own.rowSl {e : TypeId} {sz n : Nat} {v : Value} {xs : List Value} (H : Own ok w0 w L) (i : Nat) (hi : L[i]? = some (.row v e sz n xs)) : ∃ A c, v = .slice A n c ∧ xs.length = n * sz ∧ n ≤ c := by
  have h : qRow w e sz v n xs := H.at hi
  rcases h.2 with ⟨hn, A, hv, _⟩ | ⟨q, off, cap, cur, hv, _, hc, _⟩
  · subst hn; exact ⟨A, 0, hv, h.1, Nat.le_refl _⟩
  · exact ⟨_, cap, hv, h.1, hc⟩

/-- A call whose guard holds. -/
theorem call_yes {f : FuncId} {args : List Value} {φ : Value → World → Prop} (hg : g = true) (hb : bodyB P f = true) (hc : Calls P f args.toArray w fun e w' => ∃ v, e = .returned v ∧ φ v w') (hk : ∀ v w', φ v w' → K v w') : nCall P g f args w K := by
  subst hg; exact call_rule hb hc hk
theorem i64_id {x : Int} (h0 : -9223372036854775808 ≤ x) (h1 : x ≤ 9223372036854775807) : IntKind.i64.wrap x = x := by
  have e : IntKind.i64.wrap x = (x + 9223372036854775808) % 18446744073709551616 - 9223372036854775808 := by
    simp [IntKind.wrap, IntKind.bits, IntKind.signed]
    try (split <;> omega)
  omega
theorem u64_id {x : Int} (h0 : 0 ≤ x) (h1 : x ≤ 18446744073709551615) : IntKind.u64.wrap x = x := by
  have e : IntKind.u64.wrap x = x % 18446744073709551616 := by simp [IntKind.wrap, IntKind.bits, IntKind.signed]
  omega

theorem call_skip {f : FuncId} {args : List Value} (v : Value) (hg : g = false) (hk : K v w) : nCall P g f args w K := by
  subst hg; unfold nCall; exact nOp_in ⟨fun h => (by cases h), fun _ => ⟨v, hk⟩⟩
theorem bin_skip {op : BinOp} {t : TypeId} {xo yo : Operand} {x y : Value} (v : Value) (hg : g = false) (hk : K v w) : nBin P g op t xo yo x y w K := by
  subst hg; unfold nBin; exact nOp_in ⟨fun h => (by cases h), fun _ => ⟨v, hk⟩⟩

/-! Open orders: calls that only read, what is made. -/
theorem c_box {KE : Value → List Item → Prop} {t : TypeId} {x : Value} (cs : List Value) (hx : x.cells = cs.toArray) (hk : ∀ b, KE (.pointer (some ⟨b, 0, none⟩)) (.blk b cs t :: L)) : cBox P true t x ok w0 L KE := by
  unfold cBox
  refine cEv_in ⟨fun v L' => ∃ b, v = .pointer (some ⟨b, 0, none⟩) ∧ L' = .blk b cs t :: L, fun _ v L' ⟨b, _, hL⟩ => by rw [hL]; exact List.sublist_cons_self _ _, fun w H => ⟨fun _ => ?_, fun h => (by cases h)⟩, fun v L' ⟨b, hv, hL⟩ _ => by subst hv hL; exact hk b⟩
  have hr : (Instr.box t x).run P w = .ok (.pointer (some ⟨w.heap.size, 0, none⟩)) (w.alloc (.cells x.cells t)) := by
    simp [Instr.box, newVar, newRow, newObj, Sem.run]
  rw [sv_run hr]
  exact ⟨_, ⟨_, rfl, rfl⟩, by rw [hx]; exact H.alloc cs t⟩
/-- A store in an open order. -/
theorem c_storeA {KE : Value → List Item → Prop} {t t' : TypeId} {b off m : Nat} {cs : List Value} {x : Value} (i : Nat) (hi : L[i]? = some (.blk b cs t')) (hs : sizeB P t = some m) (vs : List Value) (hx : x.cells = vs.toArray) (hl : vs.length = m) (hv : ∀ v ∈ vs, oneV v = true) (hr : off + m ≤ cs.length)
    (hk : KE undef (L.set i (.blk b (setRange cs off vs) t'))) : cStore P true t (.pointer (some ⟨b, off, none⟩)) x ok w0 L KE := by
  unfold cStore
  refine cEv_in ⟨fun v L' => v = undef ∧ L' = L.set i (.blk b (setRange cs off vs) t'), fun h => (by cases h), fun w H => ⟨fun _ => ?_, fun h => (by cases h)⟩, fun v L' ⟨h1, h2⟩ _ => by subst h1 h2; exact hk⟩
  have := own_storeA (P := P) (K := fun v w' => ∃ L', (v = undef ∧ L' = L.set i (.blk b (setRange cs off vs) t')) ∧ Own ok w0 w' L') H i hi hs vs hx hl hv hr (fun w' H' => ⟨_, ⟨rfl, rfl⟩, H'⟩)
  unfold nStore at this
  exact (nOp_out this).1 rfl
end
end Go.Eng
