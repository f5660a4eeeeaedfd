/- A tree's text, and its halves. -/
import Derived.Test.YtfapphlhkfddoaaDoorHalves
namespace Go.Proofs.YtfapphlhkfddoaaDoor.G
open Go.RowKit Go.Eng Go.Proofs Go.Proofs.YtfapphlhkfddoaaDoor.Cut
set_option linter.unusedVariables false
set_option linter.unusedSimpArgs false

def Tr.text : Tr → List UInt8
  | .leaf p => [UInt8.ofNat (p.toNat + 48)]
  | .two l r => 40 :: (l.text ++ (r.text ++ [41]))
def Tr.ok : Tr → Prop
  | .leaf p => 1 ≤ p ∧ p ≤ 8
  | .two l r => l.ok ∧ r.ok
theorem readM_text : ∀ (n : Nat) (s : List UInt8) (T : Tr) (r : List UInt8), readM n s = some (T, r) → s = T.text ++ r ∧ T.ok
  | 0, s, T, r, h => by simp [readM] at h
  | n + 1, [], T, r, h => by simp [readM] at h
  | n + 1, c :: q, T, r, h => by
    unfold readM at h
    split at h
    · rename_i hc
      cases h
      refine ⟨?_, by show 1 ≤ (c.toNat : Int) - 48 ∧ (c.toNat : Int) - 48 ≤ 8; omega⟩
      show c :: q = [UInt8.ofNat (((c.toNat : Int) - 48).toNat + 48)] ++ q
      have e : ((c.toNat : Int) - 48).toNat + 48 = c.toNat := by omega
      rw [e]
      simp
    · split at h
      · cases h
      · rename_i h40
        have hc : c = 40 := by simpa using h40
        subst hc
        cases h1 : readM n q with
        | none => rw [h1] at h; cases h
        | some x =>
          obtain ⟨a, r1⟩ := x
          rw [h1] at h
          simp only at h
          cases h2 : readM n r1 with
          | none => rw [h2] at h; cases h
          | some y =>
            obtain ⟨b, r2⟩ := y
            rw [h2] at h
            simp only at h
            obtain ⟨e1, o1⟩ := readM_text n q a r1 h1
            obtain ⟨e2, o2⟩ := readM_text n r1 b r2 h2
            cases r2 with
            | nil => cases h
            | cons d r3 =>
              simp only at h
              split at h
              · rename_i hd
                cases h
                subst hd
                refine ⟨?_, o1, o2⟩
                rw [e1, e2]
                simp [Tr.text]
              · cases h
theorem text_pos (T : Tr) : 0 < T.text.length := by cases T <;> simp [Tr.text]
theorem digit_toNat {p : Int} (h : 1 ≤ p ∧ p ≤ 8) : (UInt8.ofNat (p.toNat + 48)).toNat = p.toNat + 48 := by
  rw [UInt8.toNat_ofNat']; omega
theorem text_ascii : ∀ (T : Tr), T.ok → ∀ c ∈ T.text, c.toNat < 128
  | .leaf p, h, c, hc => by
    simp only [Tr.text, List.mem_singleton] at hc
    subst hc
    have h' : 1 ≤ p ∧ p ≤ 8 := h
    rw [digit_toNat h']; omega
  | .two l r, h, c, hc => by
    simp only [Tr.text, List.mem_cons, List.mem_append, List.mem_singleton, List.not_mem_nil, or_false] at hc
    rcases hc with rfl | hc | hc | rfl
    · decide
    · exact text_ascii l h.1 c hc
    · exact text_ascii r h.2 c hc
    · decide
theorem openI_digit {p : Int} (h : 1 ≤ p ∧ p ≤ 8) (o : Int) : openI (UInt8.ofNat (p.toNat + 48)) o = o := by
  have hd := digit_toNat h
  unfold openI
  rw [if_neg (by intro e; rw [e] at hd; have : (40 : UInt8).toNat = 40 := rfl; omega), if_neg (by intro e; rw [e] at hd; have : (41 : UInt8).toNat = 41 := rfl; omega)]
theorem cutAt_over : ∀ (T : Tr), T.ok → ∀ (rest : List UInt8) (o : Int) (i : Nat), 0 < o → cutAt (T.text ++ rest) o i = cutAt rest o (i + T.text.length)
  | .leaf p, h, rest, o, i, ho => by
    show (if openI (UInt8.ofNat (p.toNat + 48)) o = 0 then some (i + 1) else cutAt rest (openI (UInt8.ofNat (p.toNat + 48)) o) (i + 1)) = _
    have h' : 1 ≤ p ∧ p ≤ 8 := h
    rw [openI_digit h', if_neg (by omega)]
    rfl
  | .two l r, h, rest, o, i, ho => by
    have e : (Tr.two l r).text ++ rest = 40 :: (l.text ++ (r.text ++ (41 :: rest))) := by simp [Tr.text]
    rw [e]
    show (if openI 40 o = 0 then some (i + 1) else cutAt (l.text ++ (r.text ++ (41 :: rest))) (openI 40 o) (i + 1)) = _
    have e1 : openI 40 o = o + 1 := rfl
    rw [e1, if_neg (by omega), cutAt_over l h.1 _ _ _ (by omega), cutAt_over r h.2 _ _ _ (by omega)]
    show (if openI 41 (o + 1) = 0 then _ else cutAt rest (openI 41 (o + 1)) (i + 1 + l.text.length + r.text.length + 1)) = _
    have e2 : openI 41 (o + 1) = o := by show o + 1 - 1 = o; omega
    rw [e2, if_neg (by omega)]
    congr 1
    simp [Tr.text]; omega
theorem cutAt_first : ∀ (T : Tr), T.ok → ∀ (rest : List UInt8) (i : Nat), cutAt (T.text ++ rest) 0 i = some (i + T.text.length)
  | .leaf p, h, rest, i => by
    show (if openI (UInt8.ofNat (p.toNat + 48)) 0 = 0 then some (i + 1) else _) = _
    have h' : 1 ≤ p ∧ p ≤ 8 := h
    rw [openI_digit h', if_pos rfl]
    rfl
  | .two l r, h, rest, i => by
    have e : (Tr.two l r).text ++ rest = 40 :: (l.text ++ (r.text ++ (41 :: rest))) := by simp [Tr.text]
    rw [e]
    show (if openI 40 0 = 0 then some (i + 1) else cutAt (l.text ++ (r.text ++ (41 :: rest))) (openI 40 0) (i + 1)) = _
    have e1 : openI 40 0 = 1 := rfl
    rw [e1, if_neg (by omega), cutAt_over l h.1 _ _ _ (by omega), cutAt_over r h.2 _ _ _ (by omega)]
    show (if openI 41 1 = 0 then some (i + 1 + l.text.length + r.text.length + 1) else _) = _
    have e2 : openI 41 1 = 0 := rfl
    rw [e2, if_pos rfl]
    congr 1
    simp [Tr.text]; omega
theorem halves_leaf (p : Int) : halvesM (Tr.leaf p).text = ([], [], false) := by
  unfold halvesM; rw [if_pos (by simp [Tr.text])]
theorem halves_two {l r : Tr} (h : (Tr.two l r).ok) : halvesM (Tr.two l r).text = (l.text, r.text, true) := by
  have hl := text_pos l
  have hr := text_pos r
  unfold halvesM
  rw [if_neg (by simp [Tr.text]; omega)]
  have e : ((Tr.two l r).text.drop 1).take ((Tr.two l r).text.length - 2) = l.text ++ r.text := by
    simp only [Tr.text, List.drop_succ_cons, List.drop_zero, List.length_cons, List.length_append, List.length_nil]
    rw [← List.append_assoc, List.take_left' (by simp)]
  rw [e, cutAt_first l h.1]
  simp only [Nat.zero_add]
  rw [List.take_left, List.drop_left]
/-- All nodes, with what stands there: a node ahead of those below it. -/
def nodesT (pre : List UInt8) : Tr → List (List UInt8 × List UInt8)
  | .leaf p => [(pre, (Tr.leaf p).text)]
  | .two l r => (pre, (Tr.two l r).text) :: (nodesT (pre ++ [108]) l ++ nodesT (pre ++ [114]) r)
theorem ofM_text {s : List UInt8} {T : Tr} (h : ofM s = some T) : s = T.text ∧ T.ok := by
  unfold ofM at h
  split at h
  · rename_i T' hr
    split at h
    · cases h
      have := readM_text _ _ _ _ hr
      rw [List.append_nil] at this
      exact this
    · cases h
  · cases h
end Go.Proofs.YtfapphlhkfddoaaDoor.G
