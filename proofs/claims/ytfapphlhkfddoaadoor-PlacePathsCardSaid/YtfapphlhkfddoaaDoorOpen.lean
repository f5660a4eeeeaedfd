/- What comes in, opened as the engine's kinds: whole numbers, bools, texts, structs, lists of such. Proved once, over any program. -/
import Derived.Test.YtfapphlhkfddoaaDoorMore
import Derived.ChangeArms
import Derived.RowKit
import Derived.OpenShut
set_option linter.unusedVariables false
namespace Go.Eng
open Go.RowKit Go.ChangeShapes Go.WideShapes
set_option linter.unusedSectionVars false
variable [Inhabited Keep]

/-- A kind, with what is known of its values. -/
def tSub {α : Type} (k : Ty α) (p : α → Prop) : Ty α :=
  ⟨k.sz, fun w ok x cs => p x ∧ k.R w ok x cs, fun h => k.len h.2, fun h => k.one h.2, fun hk h => ⟨h.1, k.mono hk h.2⟩, fun hk h => ⟨h.1, k.step hk h.2⟩, fun h => ⟨h.1, k.bound h.2⟩⟩
def inKind (k : IntKind) (x : Int) : Prop := k.min ≤ x ∧ x ≤ k.max
def tIn (k : IntKind) : Ty Int := tSub (tInt k) (inKind k)
def tTxt : Ty (List UInt8) := tSub tStr (fun l => l.length ≤ maxLen)

theorem slR_sub {α : Type} {k : Ty α} {p : α → Prop} {w : World} {ok : Nat → Prop} {v : Value} {xs : List α} (h : slR (tSub k p) w ok v xs) : slR k w ok v xs ∧ ∀ x ∈ xs, p x := by
  obtain ⟨A, c, hv, hc, h⟩ := h
  rcases h with ⟨h1, h2⟩ | ⟨a, h1, h2, h3, h4⟩
  · exact ⟨⟨A, c, hv, hc, .inl ⟨h1, h2⟩⟩, by subst h1; simp⟩
  · refine ⟨⟨A, c, hv, hc, .inr ⟨a, h1, h2, h3, fun j x hx => ?_⟩⟩, fun x hx => ?_⟩
    · obtain ⟨cs, g1, g2⟩ := h4 j x hx; exact ⟨cs, g1.2, g2⟩
    · obtain ⟨j, hj⟩ := List.mem_iff_getElem?.1 hx
      obtain ⟨cs, g1, g2⟩ := h4 j x hj; exact g1.1

/-- What a type's data are, as a kind. -/
def Opens {α : Type} (P : Program) (t : TypeId) (k : Ty α) : Prop :=
  P.cellsOf t = k.sz ∧ ∀ (H : Type) (enc : TypeId × Value → H) (w : World) (base : Nat) (spare : Nat → Bool) (held : Bool) (fuel : Nat) (cs : List Value) (x : DataW H × List MemPlace), DataW.trod enc P w base spare held fuel t cs = some x → ∃ a, k.R w (fun _ => True) a cs

section
variable {P : Program} {t : TypeId}
theorem opens_bool (ht : P.underlying t = some .bool) (hc : P.cellsOf t = 1) : Opens P t tBool := ⟨hc, fun H enc w base spare held fuel cs x h => by
  obtain ⟨b, hb, _⟩ := DataW.trod_bool ht h; exact ⟨b, hb⟩⟩
theorem opens_int {k : IntKind} (ht : P.underlying t = some (.int k)) (hc : P.cellsOf t = 1) : Opens P t (tIn k) := ⟨hc, fun H enc w base spare held fuel cs x h => by
  obtain ⟨n, hb, _, hw⟩ := DataW.trod_int ht h
  simp only [Lit.wf, Bool.and_eq_true, decide_eq_true_eq] at hw
  exact ⟨n, hw, hb⟩⟩
theorem opens_str (ht : P.underlying t = some .string) (hc : P.cellsOf t = 1) : Opens P t tTxt := ⟨hc, fun H enc w base spare held fuel cs x h => by
  obtain ⟨s, hb, _, hw⟩ := DataW.trod_string ht h
  exact ⟨s.data.toList, (by show s.data.toList.length ≤ maxLen; rw [Array.length_toList]; exact hw), hb⟩⟩

theorem cells_at {w : World} {base : Nat} {a : Addr} {n : Nat} {cs : List Value} (h : w.cells? base a n = some cs) : cs.length = n ∧ cellsAt w a 0 cs := by
  unfold World.cells? at h
  split at h
  · have hl := mapM_some_length h
    refine ⟨by simpa using hl, cellsAt_of fun j v hj => ?_⟩
    have hj' : j < n := by have := (List.getElem?_eq_some_iff.1 hj).1; simp at hl; omega
    have := mapM_some_get h j j (by simp [hj'])
    rw [Nat.zero_add, this]; exact hj
  · cases h

theorem opens_slice {α : Type} {k : Ty α} {e : TypeId} (ht : P.underlying t = some (.slice e)) (hc : P.cellsOf t = 1) (he : Opens P e k) (hpos : 0 < k.sz) : Opens P t (tSl (tSub k fun _ => True)) := ⟨hc, fun H enc w base spare held fuel cs x h => by
  rcases DataW.trod_slice ht h with ⟨hcs, _⟩ | ⟨a, len, cap, elems, rest, n, _, hcs, _, hb, hl, hm, hel, hat, _⟩
  · exact ⟨[], .slice none 0 0, hcs, none, 0, rfl, Nat.le_refl _, .inl ⟨rfl, fun _ => rfl⟩⟩
  · have key : ∀ i, i < len → ∃ x cs, k.R w (fun _ => True) x cs ∧ cellsAt w (a.add (i * k.sz)) 0 cs := by
      intro i hi
      have h1 := hat i hi
      have hlt : i < elems.length := by omega
      rw [List.getElem?_eq_getElem hlt] at h1
      obtain ⟨cs', h2, h3⟩ := Option.bind_eq_some_iff.1 h1
      obtain ⟨h4, h5⟩ := cells_at h2
      obtain ⟨x, hx⟩ := he.2 _ enc w base spare held n cs' _ h3
      refine ⟨x, cs', hx, ?_⟩
      rw [← he.1]; exact h5
    have hex : ∀ m, m ≤ len → ∃ xs : List α, xs.length = m ∧ ∀ j x, xs[j]? = some x → ∃ cs, k.R w (fun _ => True) x cs ∧ cellsAt w (a.add (j * k.sz)) 0 cs := by
      intro m
      induction m with
      | zero => intro _; exact ⟨[], rfl, by simp⟩
      | succ m ih =>
        intro hm'
        obtain ⟨xs, hxl, hxs⟩ := ih (by omega)
        obtain ⟨x, cs', g1, g2⟩ := key m (by omega)
        refine ⟨xs ++ [x], by simp [hxl], fun j y hy => ?_⟩
        by_cases hj : j < xs.length
        · rw [List.getElem?_append_left hj] at hy; exact hxs j y hy
        · have hjl := (List.getElem?_eq_some_iff.1 hy).1
          simp at hjl
          have : j = xs.length := by omega
          subst this
          simp at hy
          subst hy
          rw [hxl]; exact ⟨cs', g1, g2⟩
    obtain ⟨xs, hxl, hxs⟩ := hex len (Nat.le_refl _)
    refine ⟨xs, .slice (some a) len cap, hcs, some a, cap, by rw [hxl], by omega, ?_⟩
    by_cases h0 : len = 0
    · left
      exact ⟨List.eq_nil_of_length_eq_zero (by omega), fun h => by cases h⟩
    · right
      obtain ⟨x0, cs0, g1, g2⟩ := key 0 (by omega)
      have hne : cs0 ≠ [] := fun e => by have := k.len g1; rw [e] at this; simp at this; omega
      have hlt := cellsAt_lt g2 hne
      rw [add_block] at hlt
      exact ⟨a, rfl, trivial, hlt, fun j x hx => let ⟨cs, q1, q2⟩ := hxs j x hx; ⟨cs, ⟨trivial, q1⟩, q2⟩⟩⟩

/-- The fields of a struct, from a place on. -/
def OpensF {α : Type} (P : Program) (fs : List Field) (off : Nat) (k : Ty α) : Prop :=
  ∀ (H : Type) (enc : TypeId × Value → H) (w : World) (base : Nat) (spare : Nat → Bool) (held : Bool) (fuel : Nat) (cs : List Value), cs.length = off + k.sz → (∀ f ∈ fs, ∃ x, DataW.trod enc P w base spare held fuel f.type ((cs.drop f.offset).take (P.cellsOf f.type)) = some x) → ∃ a, k.R w (fun _ => True) a (cs.drop off)
theorem opensF_one {α : Type} {k : Ty α} {f : Field} {off : Nat} (ho : f.offset = off) (h : Opens P f.type k) : OpensF P [f] off k := fun H enc w base spare held fuel cs hl hx => by
  obtain ⟨x, hx⟩ := hx f (by simp)
  obtain ⟨a, ha⟩ := h.2 _ enc w base spare held fuel _ x hx
  refine ⟨a, ?_⟩
  rw [ho, h.1, List.take_of_length_le (by simp; omega)] at ha
  exact ha
theorem opensF_cons {α β : Type} {k : Ty α} {q : Ty β} {f : Field} {fs : List Field} {off : Nat} (ho : f.offset = off) (h : Opens P f.type k) (hr : OpensF P fs (off + k.sz) q) : OpensF P (f :: fs) off (tPair k q) := fun H enc w base spare held fuel cs hl hx => by
  obtain ⟨x, hx1⟩ := hx f (by simp)
  obtain ⟨a, ha⟩ := h.2 _ enc w base spare held fuel _ x hx1
  obtain ⟨b, hb⟩ := hr _ enc w base spare held fuel cs (by rw [hl]; show off + (k.sz + q.sz) = _; omega) (fun f' hf' => hx f' (List.mem_cons_of_mem _ hf'))
  rw [ho, h.1] at ha
  refine ⟨(a, b), (cs.drop off).take k.sz, cs.drop (off + k.sz), ?_, ha, hb⟩
  rw [← List.drop_drop, List.take_append_drop]
theorem opens_struct {α : Type} {k : Ty α} {fs : Array Field} (ht : P.underlying t = some (.struct fs)) (hc : P.cellsOf t = k.sz) (hf : OpensF P fs.toList 0 k) : Opens P t k := ⟨hc, fun H enc w base spare held fuel cs x h => by
  obtain ⟨xs, n, _, _, hl, hxl, hxs⟩ := DataW.trod_struct ht h
  have := hf _ enc w base spare held n cs (by rw [hl, hc]; omega) (fun f hf' => by
    obtain ⟨i, hi⟩ := List.mem_iff_getElem?.1 hf'
    have hi' : fs[i]? = some f := by simpa using hi
    have h1 := hxs i f hi'
    have hlt : i < xs.length := by rw [hxl]; simpa using (List.getElem?_eq_some_iff.1 hi).1
    rw [List.getElem?_eq_getElem hlt] at h1
    exact ⟨_, h1⟩)
  simpa using this⟩

theorem opens_ex {α : Type} {k : Ty α} (h : Opens P t k) {H : Type} {enc : TypeId × Value → H} {w : World} {base : Nat} {spare : Nat → Bool} {held : Bool} {v : Value} {d : DataW H} {ps : List MemPlace} (hd : DataW.Trod enc P w base spare held t v d ps) : ∃ a, k.R w (fun _ => True) a v.cells.toList := by
  obtain ⟨fuel, hf⟩ := hd
  exact h.2 _ enc w base spare held fuel _ _ hf
/-- A list that came in. -/
theorem opens_list {α : Type} {k : Ty α} {e : TypeId} (ht : P.underlying t = some (.slice e)) (hc : P.cellsOf t = 1) (he : Opens P e k) (hpos : 0 < k.sz) {H : Type} {enc : TypeId × Value → H} {w : World} {base : Nat} {spare : Nat → Bool} {held : Bool} {a : Option Addr} {len cap : Nat} {d : DataW H} {ps : List MemPlace}
    (hd : DataW.Trod enc P w base spare held t (.slice a len cap) d ps) : ∃ xs, slR k w (fun _ => True) (.slice a len cap) xs := by
  obtain ⟨xs, v, hv, hx⟩ := opens_ex (opens_slice ht hc he hpos) hd
  have : v = .slice a len cap := by simpa [Value.cells] using hv.symm
  subst this
  exact ⟨xs, (slR_sub hx).1⟩
theorem wf_i64 {n : Int} (h : (Lit.int .i64 n).wf = true) : -9223372036854775808 ≤ n ∧ n ≤ 9223372036854775807 := by
  simp only [Lit.wf, Bool.and_eq_true, decide_eq_true_eq] at h
  exact h
theorem wf_u64 {n : Int} (h : (Lit.int .u64 n).wf = true) : 0 ≤ n ∧ n ≤ 18446744073709551615 := by
  simp only [Lit.wf, Bool.and_eq_true, decide_eq_true_eq] at h
  exact h
theorem in_i64 {n : Int} (h : inKind .i64 n) : -9223372036854775808 ≤ n ∧ n ≤ 9223372036854775807 := h
theorem in_u64 {n : Int} (h : inKind .u64 n) : 0 ≤ n ∧ n ≤ 18446744073709551615 := h
end
end Go.Eng
