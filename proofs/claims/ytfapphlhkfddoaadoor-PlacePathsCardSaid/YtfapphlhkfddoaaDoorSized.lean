/- Data that come in, with the bounds that memory sets: each list, each text. -/
import Derived.Test.YtfapphlhkfddoaaDoorOpen
set_option linter.unusedVariables false
namespace Go.Eng
open Go.RowKit
set_option linter.unusedSectionVars false
variable [Inhabited Keep]

/-- What a type's data are, as a kind, and what holds of them. -/
def OpensS {α : Type} (P : Program) (t : TypeId) (k : Ty α) (p : α → Prop) : Prop :=
  P.cellsOf t = k.sz ∧ ∀ (H : Type) (enc : TypeId × Value → H) (w : World) (base : Nat) (spare : Nat → Bool) (held : Bool) (fuel : Nat) (cs : List Value) (x : DataW H × List MemPlace), DataW.trod enc P w base spare held fuel t cs = some x → (∀ n ∈ x.1.weights P t, n ≤ 140737488351232) → ∃ a, k.R w (fun _ => True) a cs ∧ p a

section
variable {P : Program} {t : TypeId}
theorem openS_bool (ht : P.underlying t = some .bool) (hc : P.cellsOf t = 1) : OpensS P t tBool (fun _ => True) := ⟨hc, fun H enc w base spare held fuel cs x h _ => by
  obtain ⟨b, hb, _⟩ := DataW.trod_bool ht h; exact ⟨b, hb, trivial⟩⟩
theorem openS_int {k : IntKind} (ht : P.underlying t = some (.int k)) (hc : P.cellsOf t = 1) : OpensS P t (tInt k) (inKind k) := ⟨hc, fun H enc w base spare held fuel cs x h _ => by
  obtain ⟨n, hb, _, hw⟩ := DataW.trod_int ht h
  simp only [Lit.wf, Bool.and_eq_true, decide_eq_true_eq] at hw
  exact ⟨n, hb, hw⟩⟩
theorem openS_str (ht : P.underlying t = some .string) (hc : P.cellsOf t = 1) : OpensS P t tStr (fun l => l.length ≤ 140737488351232) := ⟨hc, fun H enc w base spare held fuel cs x h hz => by
  obtain ⟨s, hb, rfl, hw⟩ := DataW.trod_string ht h
  exact ⟨s.data.toList, hb, hz _ (by simp [DataW.weights])⟩⟩
theorem weights_all {H : Type} {e : TypeId} : ∀ {ds : List (DataW H)} {d : DataW H}, d ∈ ds → ∀ n ∈ d.weights P e, n ∈ DataW.weightsAll P e ds
  | d0 :: ds, d, hd, n, hn => by
    simp only [DataW.weightsAll, List.mem_append]
    rcases List.mem_cons.1 hd with h | h
    · subst h; exact .inl hn
    · exact .inr (weights_all h n hn)
theorem openS_slice {α : Type} {k : Ty α} {p : α → Prop} {e : TypeId} {b : Nat} (ht : P.underlying t = some (.slice e)) (hc : P.cellsOf t = 1) (hb' : P.bytesOf e = b) (he : OpensS P e k p) (hpos : 0 < k.sz) : OpensS P t (tSl k) (fun xs => xs.length * b ≤ 140737488351232 ∧ ∀ x ∈ xs, p x) := ⟨hc, fun H enc w base spare held fuel cs x h hz => by
  rcases DataW.trod_slice ht h with ⟨hcs, _⟩ | ⟨a, len, cap, elems, rest, n, _, hcs, hx, hb, hl, hm, hel, hat, _⟩
  · exact ⟨[], ⟨.slice none 0 0, hcs, none, 0, rfl, Nat.le_refl _, .inl ⟨rfl, fun _ => rfl⟩⟩, by simp, fun x hx => by cases hx⟩
  · subst hx
    have hw : (DataW.slice (elems.map (·.1)) (rest.map (·.1))).weights P t = ((elems.map (·.1)).length + (rest.map (·.1)).length) * P.bytesOf e :: (DataW.weightsAll P e (elems.map (·.1)) ++ DataW.weightsAll P e (rest.map (·.1))) := by
      simp [DataW.weights, ht]
    rw [hw] at hz
    have hsz := hz _ List.mem_cons_self
    have key : ∀ i, i < len → ∃ x cs, k.R w (fun _ => True) x cs ∧ p x ∧ cellsAt w (a.add (i * k.sz)) 0 cs := by
      intro i hi
      have h1 := hat i hi
      have hlt : i < elems.length := by omega
      rw [List.getElem?_eq_getElem hlt] at h1
      obtain ⟨cs', h2, h3⟩ := Option.bind_eq_some_iff.1 h1
      obtain ⟨h4, h5⟩ := cells_at h2
      obtain ⟨x, hx, hp⟩ := he.2 _ enc w base spare held n cs' _ h3 (fun m hm => hz m (List.mem_cons_of_mem _ (List.mem_append.2 (.inl (weights_all (List.mem_map.2 ⟨_, List.getElem_mem hlt, rfl⟩) m hm)))))
      refine ⟨x, cs', hx, hp, ?_⟩
      rw [← he.1]; exact h5
    have hex : ∀ m, m ≤ len → ∃ xs : List α, xs.length = m ∧ (∀ x ∈ xs, p x) ∧ ∀ j x, xs[j]? = some x → ∃ cs, k.R w (fun _ => True) x cs ∧ cellsAt w (a.add (j * k.sz)) 0 cs := by
      intro m
      induction m with
      | zero => intro _; exact ⟨[], rfl, by simp, by simp⟩
      | succ m ih =>
        intro hm'
        obtain ⟨xs, hxl, hpx, hxs⟩ := ih (by omega)
        obtain ⟨x, cs', g1, gp, g2⟩ := key m (by omega)
        refine ⟨xs ++ [x], by simp [hxl], fun y hy => ?_, fun j y hy => ?_⟩
        · rcases List.mem_append.1 hy with h | h
          · exact hpx y h
          · rw [List.mem_singleton] at h; subst h; exact gp
        · by_cases hj : j < xs.length
          · rw [List.getElem?_append_left hj] at hy; exact hxs j y hy
          · have hjl := (List.getElem?_eq_some_iff.1 hy).1
            simp at hjl
            have : j = xs.length := by omega
            subst this
            simp at hy
            subst hy
            rw [hxl]; exact ⟨cs', g1, g2⟩
    obtain ⟨xs, hxl, hpx, hxs⟩ := hex len (Nat.le_refl _)
    refine ⟨xs, ⟨.slice (some a) len cap, hcs, some a, cap, by rw [hxl], by omega, ?_⟩, ?_, hpx⟩
    · by_cases h0 : len = 0
      · left
        exact ⟨List.eq_nil_of_length_eq_zero (by omega), fun h => by cases h⟩
      · right
        obtain ⟨x0, cs0, g1, _, g2⟩ := key 0 (by omega)
        have hne : cs0 ≠ [] := fun e => by have := k.len g1; rw [e] at this; simp at this; omega
        have hlt := cellsAt_lt g2 hne
        rw [add_block] at hlt
        exact ⟨a, rfl, trivial, hlt, fun j x hx => hxs j x hx⟩
    · rw [hb'] at hsz
      refine Nat.le_trans (Nat.mul_le_mul_right b ?_) hsz
      rw [List.length_map]; omega⟩

/-- The fields of a struct, from a place on. -/
def OpensFS {α : Type} (P : Program) (fs : List Field) (off : Nat) (k : Ty α) (p : α → Prop) : Prop :=
  ∀ (H : Type) (enc : TypeId × Value → H) (w : World) (base : Nat) (spare : Nat → Bool) (held : Bool) (fuel : Nat) (cs : List Value), cs.length = off + k.sz → (∀ f ∈ fs, ∃ x, DataW.trod enc P w base spare held fuel f.type ((cs.drop f.offset).take (P.cellsOf f.type)) = some x ∧ ∀ n ∈ x.1.weights P f.type, n ≤ 140737488351232) → ∃ a, k.R w (fun _ => True) a (cs.drop off) ∧ p a
theorem openFS_one {α : Type} {k : Ty α} {p : α → Prop} {f : Field} {off : Nat} (ho : f.offset = off) (h : OpensS P f.type k p) : OpensFS P [f] off k p := fun H enc w base spare held fuel cs hl hx => by
  obtain ⟨x, hx, hz⟩ := hx f (by simp)
  obtain ⟨a, ha, hp⟩ := h.2 _ enc w base spare held fuel _ x hx hz
  refine ⟨a, ?_, hp⟩
  rw [ho, h.1, List.take_of_length_le (by simp; omega)] at ha
  exact ha
theorem openFS_cons {α β : Type} {k : Ty α} {q : Ty β} {p : α → Prop} {r : β → Prop} {f : Field} {fs : List Field} {off : Nat} (ho : f.offset = off) (h : OpensS P f.type k p) (hr : OpensFS P fs (off + k.sz) q r) : OpensFS P (f :: fs) off (tPair k q) (fun x => p x.1 ∧ r x.2) := fun H enc w base spare held fuel cs hl hx => by
  obtain ⟨x, hx1, hz⟩ := hx f (by simp)
  obtain ⟨a, ha, hp⟩ := h.2 _ enc w base spare held fuel _ x hx1 hz
  obtain ⟨b, hb, hq⟩ := hr _ enc w base spare held fuel cs (by rw [hl]; show off + (k.sz + q.sz) = _; omega) (fun f' hf' => hx f' (List.mem_cons_of_mem _ hf'))
  rw [ho, h.1] at ha
  refine ⟨(a, b), ⟨(cs.drop off).take k.sz, cs.drop (off + k.sz), ?_, ha, hb⟩, hp, hq⟩
  rw [← List.drop_drop, List.take_append_drop]
theorem openS_struct {α : Type} {k : Ty α} {p : α → Prop} {fs : Array Field} (ht : P.underlying t = some (.struct fs)) (hc : P.cellsOf t = k.sz) (hf : OpensFS P fs.toList 0 k p) : OpensS P t k p := ⟨hc, fun H enc w base spare held fuel cs x h hz => by
  obtain ⟨xs, n, _, rfl, hl, hxl, hxs⟩ := DataW.trod_struct ht h
  have hw : (DataW.agg (xs.map (·.1))).weights P t = DataW.weightsEach P (fs.toList.map (·.type)) (xs.map (·.1)) := by simp [DataW.weights, ht]
  rw [hw] at hz
  have := hf _ enc w base spare held n cs (by rw [hl, hc]; omega) (fun f hf' => by
    obtain ⟨i, hi⟩ := List.mem_iff_getElem?.1 hf'
    have hi' : fs[i]? = some f := by simpa using hi
    have h1 := hxs i f hi'
    have hlt : i < xs.length := by rw [hxl]; simpa using (List.getElem?_eq_some_iff.1 hi).1
    rw [List.getElem?_eq_getElem hlt] at h1
    exact ⟨_, h1, fun m hm => hz m (DataW.weights_mem_each (j := i) (t := f.type) (d := xs[i].1) (by simp [hi]) (by simp [hlt]) m hm)⟩)
  simpa using this⟩

/-- A list that came in, and its bounds. -/
theorem openS_list {α : Type} {k : Ty α} {p : α → Prop} {e : TypeId} {b : Nat} (ht : P.underlying t = some (.slice e)) (hc : P.cellsOf t = 1) (hb' : P.bytesOf e = b) (he : OpensS P e k p) (hpos : 0 < k.sz) {H : Type} {enc : TypeId × Value → H} {w : World} {base : Nat} {spare : Nat → Bool} {held : Bool} {a : Option Addr} {len cap : Nat} {d : DataW H} {ps : List MemPlace} {ts : List TypeId} {ds : List (DataW H)} {j : Nat}
    (hsz : (DataW.weightsEach P ts ds).all (· ≤ reachBytes) = true) (htj : ts[j]? = some t) (hdj : ds[j]? = some d)
    (hd : DataW.Trod enc P w base spare held t (.slice a len cap) d ps) : ∃ xs, slR k w (fun _ => True) (.slice a len cap) xs ∧ xs.length * b ≤ 140737488351232 ∧ ∀ x ∈ xs, p x := by
  obtain ⟨fuel, hf⟩ := hd
  obtain ⟨xs, ⟨v, hv, hx⟩, h1, h2⟩ := (openS_slice ht hc hb' he hpos).2 _ enc w base spare held fuel _ _ hf (fun n hn => by
    have := List.all_eq_true.1 hsz _ (DataW.weights_mem_each htj hdj n hn)
    exact of_decide_eq_true this)
  have : v = .slice a len cap := by simpa [Value.cells] using hv.symm
  subst this
  exact ⟨xs, hx, h1, h2⟩
/-- Any other value that came in, and its bounds: by its cells. -/
theorem openS_ex {α : Type} {k : Ty α} {p : α → Prop} (he : OpensS P t k p) {H : Type} {enc : TypeId × Value → H} {w : World} {base : Nat} {spare : Nat → Bool} {held : Bool} {v : Value} {d : DataW H} {ps : List MemPlace} {ts : List TypeId} {ds : List (DataW H)} {j : Nat}
    (hsz : (DataW.weightsEach P ts ds).all (· ≤ reachBytes) = true) (htj : ts[j]? = some t) (hdj : ds[j]? = some d) (hd : DataW.Trod enc P w base spare held t v d ps) : ∃ x, k.R w (fun _ => True) x v.cells.toList ∧ p x := by
  obtain ⟨fuel, hf⟩ := hd
  exact he.2 _ enc w base spare held fuel _ _ hf (fun n hn => by
    have := List.all_eq_true.1 hsz _ (DataW.weights_mem_each htj hdj n hn)
    exact of_decide_eq_true this)
end
end Go.Eng
