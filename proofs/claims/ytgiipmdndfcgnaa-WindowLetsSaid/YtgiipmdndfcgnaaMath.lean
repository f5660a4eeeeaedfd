/- The window in plain numbers: its state against the list of all numbers that were let in. -/
import Derived.Tactics
namespace Go.Proofs.Ytgiipmdndfcgnaa.Win

def wseen (T B n : Nat) : Bool := n == 0 || (decide (n ≤ T) && (decide (64 ≤ T - n) || B.testBit (T - n)))
def nextT (T n : Nat) : Nat := if T < n then n else T
def nextB (T B n : Nat) : Nat := if T < n then ((B <<< (n - T)) % 2 ^ 64) ||| 1 else B ||| 2 ^ (T - n)

structure Inv (T B : Nat) (L : List Nat) : Prop where
  bit : ∀ i, B.testBit i = true ↔ i < 64 ∧ i < T ∧ (T - i) ∈ L
  mem : ∀ m ∈ L, 0 < m ∧ m ≤ T
  top : T = 0 ∨ T ∈ L

theorem Inv.start : Inv 0 0 [] := ⟨fun i => by simp, by simp, .inl rfl⟩

theorem Inv.lt {T B : Nat} {L : List Nat} (h : Inv T B L) : B < 2 ^ 64 := by
  apply Nat.lt_pow_two_of_testBit
  intro i hi
  cases e : B.testBit i with
  | false => rfl
  | true => have := (h.bit i).1 e; omega

theorem seen_iff {T B n : Nat} {L : List Nat} (h : Inv T B L) : wseen T B n = true ↔ n = 0 ∨ n ∈ L ∨ n + 64 ≤ T := by
  unfold wseen
  simp only [Bool.or_eq_true, beq_iff_eq, Bool.and_eq_true, decide_eq_true_eq]
  constructor
  · rintro (h0 | ⟨h1, h2 | h2⟩)
    · exact .inl h0
    · exact .inr (.inr (by omega))
    · have := (h.bit _).1 h2
      have e : T - (T - n) = n := by omega
      rw [e] at this
      exact .inr (.inl this.2.2)
  · rintro (h0 | h1 | h2)
    · exact .inl h0
    · have hm := h.mem n h1
      by_cases hw : 64 ≤ T - n
      · exact .inr ⟨hm.2, .inl hw⟩
      · refine .inr ⟨hm.2, .inr ((h.bit _).2 ⟨by omega, by omega, ?_⟩)⟩
        have e : T - (T - n) = n := by omega
        rw [e]; exact h1
    · exact .inr ⟨by omega, .inl (by omega)⟩

theorem seen_false {T B n : Nat} {L : List Nat} (h : Inv T B L) : wseen T B n = false ↔ 0 < n ∧ n ∉ L ∧ T < n + 64 := by
  have := seen_iff (n := n) h
  rw [← Bool.not_eq_true, this]
  constructor
  · intro k; exact ⟨Nat.pos_of_ne_zero fun e => k (.inl e), fun e => k (.inr (.inl e)), Nat.lt_of_not_le fun e => k (.inr (.inr e))⟩
  · rintro ⟨a, b, c⟩ (d | d | d)
    · omega
    · exact b d
    · omega

theorem one_bit (i : Nat) : Nat.testBit 1 i = decide (i = 0) := by cases i <;> simp [Nat.testBit_succ]

theorem next_inv {T B n : Nat} {L : List Nat} (h : Inv T B L) (hs : wseen T B n = false) : Inv (nextT T n) (nextB T B n) (L ++ [n]) := by
  obtain ⟨h0, hn, hw⟩ := (seen_false h).1 hs
  unfold nextT nextB
  by_cases hlt : T < n
  · simp only [hlt, if_true]
    refine ⟨fun i => ?_, fun m hm => ?_, .inr (by simp)⟩
    · rw [Nat.testBit_or, Nat.testBit_mod_two_pow, Nat.testBit_shiftLeft, one_bit]
      simp only [Bool.or_eq_true, Bool.and_eq_true, decide_eq_true_eq, List.mem_append, List.mem_singleton]
      constructor
      · rintro (⟨a, b, c⟩ | a)
        · have := (h.bit _).1 c
          refine ⟨a, by omega, .inl ?_⟩
          have e : T - (i - (n - T)) = n - i := by omega
          rw [e] at this; exact this.2.2
        · subst a; exact ⟨by omega, by omega, .inr (by omega)⟩
      · rintro ⟨a, b, c | c⟩
        · have := h.mem _ c
          refine .inl ⟨a, by omega, (h.bit _).2 ⟨by omega, by omega, ?_⟩⟩
          have e : T - (i - (n - T)) = n - i := by omega
          rw [e]; exact c
        · exact .inr (by omega)
    · rcases List.mem_append.1 hm with k | k
      · have := h.mem m k; exact ⟨this.1, by omega⟩
      · rw [List.mem_singleton] at k; subst k; exact ⟨h0, Nat.le_refl _⟩
  · simp only [hlt, if_false]
    refine ⟨fun i => ?_, fun m hm => ?_, ?_⟩
    · rw [Nat.testBit_or, Nat.testBit_two_pow]
      simp only [Bool.or_eq_true, decide_eq_true_eq, List.mem_append, List.mem_singleton]
      rw [h.bit i]
      constructor
      · rintro (⟨a, b, c⟩ | a)
        · exact ⟨a, b, .inl c⟩
        · exact ⟨by omega, by omega, .inr (by omega)⟩
      · rintro ⟨a, b, c | c⟩
        · exact .inl ⟨a, b, c⟩
        · exact .inr (by omega)
    · rcases List.mem_append.1 hm with k | k
      · exact h.mem m k
      · rw [List.mem_singleton] at k; subst k; exact ⟨h0, by omega⟩
    · rcases h.top with k | k
      · omega
      · exact .inr (List.mem_append.2 (.inl k))

/-- the next window is another one -/
theorem next_ne {T B n : Nat} {L : List Nat} (h : Inv T B L) (hs : wseen T B n = false) : ¬ (nextT T n = T ∧ nextB T B n = B) := by
  obtain ⟨h0, hn, hw⟩ := (seen_false h).1 hs
  rintro ⟨h1, h2⟩
  have hi := next_inv h hs
  rw [h1, h2] at hi
  have hm := hi.mem n (by simp)
  have := (hi.bit (T - n)).2 ⟨by omega, by omega, by
    have e : T - (T - n) = n := by omega
    rw [e]; simp⟩
  have := ((h.bit _).1 this).2.2
  have e : T - (T - n) = n := by omega
  rw [e] at this
  exact hn this

theorem nextT_ge (T n : Nat) : T ≤ nextT T n := by unfold nextT; split <;> omega
theorem nextT_ge' (T n : Nat) : n ≤ nextT T n := by unfold nextT; split <;> omega
theorem nextT_max (T n : Nat) : nextT T n = max T n := by unfold nextT; split <;> omega

/-- those that are let in -/
def all : Nat → Nat → List Nat → List Nat
  | _, _, [] => []
  | T, B, n :: l => if wseen T B n then all T B l else n :: all (nextT T n) (nextB T B n) l
/-- the window behind them -/
def fin : Nat → Nat → List Nat → Nat × Nat
  | T, B, [] => (T, B)
  | T, B, n :: l => if wseen T B n then fin T B l else fin (nextT T n) (nextB T B n) l

theorem all_append (l k : List Nat) : ∀ T B, all T B (l ++ k) = all T B l ++ all (fin T B l).1 (fin T B l).2 k := by
  induction l with
  | nil => intro T B; rfl
  | cons n l ih =>
    intro T B
    simp only [List.cons_append, all, fin]
    split
    · exact ih T B
    · simp only [List.cons_append]; rw [ih]

theorem fin_append (l k : List Nat) : ∀ T B, fin T B (l ++ k) = fin (fin T B l).1 (fin T B l).2 k := by
  induction l with
  | nil => intro T B; rfl
  | cons n l ih =>
    intro T B
    simp only [List.cons_append, fin]
    split
    · exact ih T B
    · exact ih _ _

theorem fin_inv (l : List Nat) : ∀ {T B : Nat} {L : List Nat}, Inv T B L → Inv (fin T B l).1 (fin T B l).2 (L ++ all T B l) := by
  induction l with
  | nil => intro T B L h; simpa [fin, all] using h
  | cons n l ih =>
    intro T B L h
    simp only [all, fin]
    split
    · exact ih h
    · rename_i hs
      have := ih (next_inv h (by simpa using hs))
      simpa using this

theorem all_mem (l : List Nat) : ∀ {T B : Nat}, ∀ x ∈ all T B l, x ∈ l := by
  induction l with
  | nil => intro T B x h; simp [all] at h
  | cons n l ih =>
    intro T B x h
    simp only [all] at h
    split at h
    · exact List.mem_cons_of_mem _ (ih x h)
    · rcases List.mem_cons.1 h with k | k
      · subst k; simp
      · exact List.mem_cons_of_mem _ (ih x k)

theorem all_length (l : List Nat) : ∀ {T B : Nat}, (all T B l).length ≤ l.length := by
  induction l with
  | nil => intro T B; simp [all]
  | cons n l ih =>
    intro T B
    simp only [all]
    split
    · have := ih (T := T) (B := B); simp; omega
    · have := ih (T := nextT T n) (B := nextB T B n); simp; omega

/-- none is let in twice -/
theorem all_nodup (l : List Nat) : ∀ {T B : Nat} {L : List Nat}, Inv T B L → L.Nodup → (L ++ all T B l).Nodup := by
  induction l with
  | nil => intro T B L _ hd; simpa [all] using hd
  | cons n l ih =>
    intro T B L h hd
    simp only [all]
    split
    · exact ih h hd
    · rename_i hs
      have hs : wseen T B n = false := by simpa using hs
      have hn := ((seen_false h).1 hs).2.1
      have := ih (next_inv h hs) (by
        rw [List.nodup_append]
        refine ⟨hd, by simp, fun a ha b hb e => ?_⟩
        rw [List.mem_singleton] at hb
        subst hb; subst e
        exact hn ha)
      simpa using this

/-- what is wseen stays wseen -/
theorem seen_next {T B n m : Nat} {L : List Nat} (h : Inv T B L) (hs : wseen T B n = false) (hm : wseen T B m = true) : wseen (nextT T n) (nextB T B n) m = true := by
  rw [seen_iff (next_inv h hs)]
  rcases (seen_iff h).1 hm with k | k | k
  · exact .inl k
  · exact .inr (.inl (List.mem_append.2 (.inl k)))
  · have := nextT_ge T n
    exact .inr (.inr (by omega))

theorem seen_self {T B n : Nat} {L : List Nat} (h : Inv T B L) (hs : wseen T B n = false) : wseen (nextT T n) (nextB T B n) n = true := by
  rw [seen_iff (next_inv h hs)]
  exact .inr (.inl (by simp))

/-- two windows of the same numbers, all greater by as much -/
theorem all_shift (by_ : Nat) (l : List Nat) : ∀ {T B T' B' : Nat} {L : List Nat}, Inv T B L → Inv T' B' (L.map (· + by_)) → (∀ n ∈ l, 0 < n) →
    all T' B' (l.map (· + by_)) = (all T B l).map (· + by_) := by
  induction l with
  | nil => intro T B T' B' L _ _ _; rfl
  | cons n l ih =>
    intro T B T' B' L h h' hl
    have hn : 0 < n := hl n (by simp)
    have hT : (L = [] ∧ T = 0 ∧ T' = 0) ∨ T' = T + by_ := by
      cases L with
      | nil =>
        have a := h.top; have b := h'.top
        simp at a b
        exact .inl ⟨rfl, a, b⟩
      | cons m L =>
        refine .inr ?_
        have hm := h.mem m (by simp)
        have a : T ∈ m :: L := by rcases h.top with k | k; · omega
                                  · exact k
        have hm' := h'.mem (m + by_) (List.mem_map.2 ⟨m, by simp, rfl⟩)
        have b : T' ∈ (m :: L).map (· + by_) := by rcases h'.top with k | k; · omega
                                                   · exact k
        have c := h'.mem (T + by_) (List.mem_map.2 ⟨T, a, rfl⟩)
        obtain ⟨t, ht, e⟩ := List.mem_map.1 b
        have d := h.mem t ht
        omega
    have hseen : wseen T' B' (n + by_) = wseen T B n := by
      rw [Bool.eq_iff_iff, seen_iff h, seen_iff h']
      have hmem : n + by_ ∈ L.map (· + by_) ↔ n ∈ L := by
        rw [List.mem_map]
        constructor
        · rintro ⟨a, ha, e⟩
          have : a = n := by omega
          exact this ▸ ha
        · intro k; exact ⟨n, k, rfl⟩
      rw [hmem]
      rcases hT with ⟨e, a, b⟩ | a
      · subst e; simp; omega
      · constructor <;> rintro (k | k | k)
        · omega
        · exact .inr (.inl k)
        · exact .inr (.inr (by omega))
        · omega
        · exact .inr (.inl k)
        · exact .inr (.inr (by omega))
    simp only [List.map_cons, all, hseen]
    by_cases hs : wseen T B n = true
    · simp only [hs, if_true]
      exact ih h h' (fun x hx => hl x (List.mem_cons_of_mem _ hx))
    · have hs' : wseen T B n = false := by simpa using hs
      simp only [hs', Bool.false_eq_true, if_false, List.map_cons]
      have h2 := next_inv h' (n := n + by_) (by rw [hseen]; exact hs')
      rw [ih (next_inv h hs') (T' := nextT T' (n + by_)) (B' := nextB T' B' (n + by_)) (by simpa using h2) (fun x hx => hl x (List.mem_cons_of_mem _ hx))]

/-- numbers that rise -/
theorem all_rise (l : List Nat) : ∀ {T B : Nat} {L : List Nat}, Inv T B L → (∀ n ∈ l, T < n) → l.Pairwise (· < ·) → all T B l = l := by
  induction l with
  | nil => intro T B L _ _ _; rfl
  | cons n l ih =>
    intro T B L h hl hp
    have hn := hl n (by simp)
    have hs : wseen T B n = false := (seen_false h).2 ⟨by omega, fun k => by have := (h.mem n k).2; omega, by omega⟩
    rw [List.pairwise_cons] at hp
    simp only [all, hs, Bool.false_eq_true, if_false]
    rw [ih (next_inv h hs) (fun m hm => by
      have := hp.1 m hm
      have : nextT T n = n := by unfold nextT; rw [if_pos hn]
      omega) hp.2]

/-- numbers that are all wseen -/
theorem all_seen (l : List Nat) {T B : Nat} (hl : ∀ n ∈ l, wseen T B n = true) : all T B l = [] := by
  induction l with
  | nil => rfl
  | cons n l ih =>
    simp only [all, hl n (by simp), if_true]
    exact ih fun m hm => hl m (List.mem_cons_of_mem _ hm)

/-- numbers within the width, whatever their order -/
theorem all_within (b : Nat) (l : List Nat) : ∀ {T B : Nat} {L : List Nat}, Inv T B L → (∀ n ∈ L, b < n ∧ n ≤ b + 64) → (∀ n ∈ l, b < n ∧ n ≤ b + 64) → (L ++ l).Nodup → all T B l = l := by
  induction l with
  | nil => intro T B L _ _ _ _; rfl
  | cons n l ih =>
    intro T B L h hL hl hd
    have hn := hl n (by simp)
    have hd' := hd
    rw [List.nodup_append] at hd
    have hs : wseen T B n = false := (seen_false h).2 ⟨by omega, fun k => hd.2.2 n k n (by simp) rfl, by
      rcases h.top with k | k
      · omega
      · have := hL T k; omega⟩
    simp only [all, hs, Bool.false_eq_true, if_false]
    rw [ih (next_inv h hs) (fun m hm => by
      rcases List.mem_append.1 hm with k | k
      · exact hL m k
      · rw [List.mem_singleton] at k; subst k; exact hn) (fun m hm => hl m (List.mem_cons_of_mem _ hm)) (by simpa using hd')]

/-- the row that falls from a number -/
def down (a : Nat) : Nat → List Nat
  | 0 => []
  | m + 1 => down a m ++ [a - m]
theorem down_length (a m : Nat) : (down a m).length = m := by induction m with
  | zero => rfl
  | succ m ih => simp [down, ih]
theorem down_mem (a m x : Nat) : x ∈ down a m → x ≤ a ∧ a - x < m + 1 := by
  induction m with
  | zero => intro h; simp [down] at h
  | succ m ih =>
    intro h
    rcases List.mem_append.1 h with k | k
    · have := ih k; omega
    · rw [List.mem_singleton] at k; omega
theorem down_take (a m j : Nat) (h : j ≤ m) : (down a m).take j = down a j := by
  induction m with
  | zero => have : j = 0 := by omega
            subst this; rfl
  | succ m ih =>
    by_cases e : j = m + 1
    · subst e; rw [List.take_of_length_le (by rw [down_length]; exact Nat.le_refl _)]
    · rw [down, List.take_append_of_le_length (by rw [down_length]; omega)]
      exact ih (by omega)
/-- how many of a falling row are let in, and that the rest is wseen -/
theorem all_down (a : Nat) (m : Nat) (hm : m ≤ a + 1) : all 0 0 (down a m) = down a (min (min m a) 64) := by
  induction m with
  | zero => simp [down, all]
  | succ m ih =>
    have ih := ih (by omega)
    rw [down, all_append, ih]
    have hi := fin_inv (down a m) Inv.start
    rw [ih] at hi
    simp only [List.nil_append] at hi
    generalize (fin 0 0 (down a m)).1 = T at hi ⊢
    generalize (fin 0 0 (down a m)).2 = B at hi ⊢
    by_cases hin : m < a ∧ m < 64
    · have e1 : min (min m a) 64 = m := by omega
      have e2 : min (min (m + 1) a) 64 = m + 1 := by omega
      rw [e1] at hi ⊢; rw [e2]
      have hs : wseen T B (a - m) = false := by
        refine (seen_false hi).2 ⟨by omega, ?_, ?_⟩
        · intro k
          have : ∀ j, j ≤ m → a - m ∉ down a j := by
            intro j
            induction j with
            | zero => intro _ k; simp [down] at k
            | succ j ihj =>
              intro hj k
              rcases List.mem_append.1 k with k | k
              · exact ihj (by omega) k
              · rw [List.mem_singleton] at k; omega
          exact this m (Nat.le_refl _) k
        · rcases hi.top with k | k
          · omega
          · have := down_mem a m T k; omega
      simp only [all, hs, Bool.false_eq_true, if_false, down]
    · have e2 : min (min (m + 1) a) 64 = min (min m a) 64 := by omega
      rw [e2]
      have hs : wseen T B (a - m) = true := by
        rw [seen_iff hi]
        by_cases h0 : a - m = 0
        · exact .inl h0
        · have hj : min (min m a) 64 = 64 := by omega
          rw [hj] at hi
          have : a ∈ down a 64 := by
            have : ∀ j, 0 < j → a ∈ down a j := by
              intro j
              induction j with
              | zero => intro k; omega
              | succ j ihj =>
                intro _
                by_cases e : j = 0
                · subst e; simp [down]
                · exact List.mem_append.2 (.inl (ihj (by omega)))
            exact this 64 (by omega)
          have := (hi.mem a this).2
          exact .inr (.inr (by omega))
      simp only [all, hs, if_true, List.append_nil]

/-- a list of whole numbers that are none below 0 -/
theorem as_nats (k : Nat) : ∀ (l : List Int), (∀ x ∈ l, 0 ≤ x ∧ x < (k : Int)) → ∃ m : List Nat, l = m.map (fun n : Nat => (n : Int)) ∧ ∀ x ∈ m, x < k := by
  intro l
  induction l with
  | nil => intro _; exact ⟨[], rfl, by simp⟩
  | cons a l ih =>
    intro h
    obtain ⟨m, e, hm⟩ := ih fun x hx => h x (List.mem_cons_of_mem _ hx)
    obtain ⟨h0, h1⟩ := h a (by simp)
    obtain ⟨n, rfl⟩ := Int.eq_ofNat_of_zero_le h0
    refine ⟨n :: m, by rw [e]; rfl, fun x hx => ?_⟩
    rcases List.mem_cons.1 hx with k | k
    · subst k; omega
    · exact hm x k

end Go.Proofs.Ytgiipmdndfcgnaa.Win
