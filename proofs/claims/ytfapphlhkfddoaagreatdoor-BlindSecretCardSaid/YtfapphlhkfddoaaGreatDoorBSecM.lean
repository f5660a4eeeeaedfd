/- BlindSecret, as it is reckoned. -/
import Derived.Test.YtfapphlhkfddoaaGreatDoorBApartL
import Derived.Test.YtfapphlhkfddoaaGreatDoorHK3
namespace Go.Proofs.YtfapphlhkfddoaaGreatDoor.G
open Go.RowKit Go.Eng Go.Proofs Go.Proofs.YtfapphlhkfddoaaGreatDoor.Cut
set_option linter.unusedVariables false
set_option linter.unusedSimpArgs false

theorem next_loop {l : List Tx1} (hf : ∀ x ∈ l, full x 400) (hl : l.flatten.length ≤ 20000) : loopM stepN (([] : List Tx1), l.flatten) = some l := by
  have go : ∀ (r done : List Tx1), done ++ r = l → loopM stepN (done, r.flatten) = some l := by
    intro r
    induction r with
    | nil =>
      intro done hd
      refine loop_end ?_
      unfold stepN
      rw [if_pos (show ([] : List Tx1).flatten = [] from rfl)]
      rw [List.append_nil] at hd
      rw [hd]
    | cons x r ih =>
      intro done hd
      have hx : full x 400 := hf x (by rw [← hd]; simp)
      have hlen : (x ++ r.flatten).length ≤ 20000 := by
        have := congrArg (fun l => l.flatten.length) hd
        simp only [List.flatten_append, List.length_append, List.flatten_cons] at this
        rw [List.length_append]
        omega
      refine loop_step ?_ (ih (done ++ [x]) (by rw [← hd]; simp))
      unfold stepN
      have hne : ¬ (x :: r).flatten = [] := fun e => by
        have := full_pos hx
        rw [List.flatten_cons, List.append_eq_nil_iff] at e
        rw [e.1] at this; simp at this
      simp only
      rw [if_neg hne, List.flatten_cons, take_first hx hlen, Option.bind_some, if_pos rfl]
  exact go l [] rfl
theorem parts_go {t : Tx1} {l : List Tx1} (hr : rightB t = true) (hh : headM t = some l.flatten) (hf : ∀ x ∈ l, full x 400) (hl : l.flatten.length ≤ 20000) (hn : l.length ≤ 1000000) : parts_Of.f t = some l := by
  have hb := rightB_len hr
  unfold parts_Of.f nextM
  rw [right_spec (by omega), Option.bind_some, hr, cond_true, hh, Option.bind_some, next_loop hf hl, Option.bind_some, given_of (by omega)]
theorem parts_one {c : UInt8} {x : Tx1} (hc : c = 107 ∨ c = 104) (hx : full x 400) (hr : rightB (c :: x) = true) : parts_Of.f (c :: x) = some [x] := by
  have hb := rightB_len hr
  refine parts_go hr ?_ (fun y hy => by rw [List.mem_singleton.1 hy]; exact hx) (by simp at hb ⊢; omega) (by simp)
  unfold headM
  rw [show idxS (c :: x) (0 : Int) = some (c.toNat : Int) from rfl, Option.bind_some, if_pos (by rcases hc with h | h <;> rw [h] <;> unfold five <;> decide)]
  have := slc_to (xs := c :: x) (a := 1) (by simp)
  rw [show slcM (c :: x) (1 : Int) ((c :: x).length : Int) = _ from this]
  simp
theorem parts_two {a b : Tx1} (ha : full a 400) (hb : full b 400) (hr : rightB (112 :: (a ++ b)) = true) : parts_Of.f (112 :: (a ++ b)) = some [a, b] := by
  have hl := rightB_len hr
  refine parts_go hr ?_ (fun y hy => by
    rcases List.mem_cons.1 hy with q | q
    · rw [q]; exact ha
    · rw [List.mem_singleton.1 q]; exact hb) (by simp at hl ⊢; omega) (by simp)
  unfold headM
  rw [show idxS (112 :: (a ++ b)) (0 : Int) = some ((112 : UInt8).toNat : Int) from rfl, Option.bind_some, if_pos (by unfold five; decide)]
  have := slc_to (xs := 112 :: (a ++ b)) (a := 1) (by simp)
  rw [show slcM (112 :: (a ++ b)) (1 : Int) ((112 :: (a ++ b)).length : Int) = _ from this]
  simp
theorem parts_el {n : UInt8} {l : List Tx1} (hf : ∀ x ∈ l, full x 400) (hr : rightB (101 :: n :: l.flatten) = true) (hn : l.length ≤ 1000000) : parts_Of.f (101 :: n :: l.flatten) = some l := by
  have hl := rightB_len hr
  refine parts_go hr ?_ hf (by simp at hl ⊢; omega) hn
  unfold headM
  rw [show idxS (101 :: n :: l.flatten) (0 : Int) = some ((101 : UInt8).toNat : Int) from rfl, Option.bind_some, if_neg (by unfold five; decide), if_pos (by decide)]
  have := slc_to (xs := 101 :: n :: l.flatten) (a := 2) (by simp)
  rw [show slcM (101 :: n :: l.flatten) (2 : Int) ((101 :: n :: l.flatten).length : Int) = _ from this]
  rfl
theorem parts_nil {c : UInt8} {x : Tx1} (hc : ¬ five (c.toNat : Int)) (hc2 : c ≠ 101) (hr : rightB (c :: x) = true) : parts_Of.f (c :: x) = some [] := by
  refine parts_go hr ?_ (fun y hy => by cases hy) (by simp) (by simp)
  unfold headM
  rw [show idxS (c :: x) (0 : Int) = some (c.toNat : Int) from rfl, Option.bind_some, if_neg hc, if_neg (fun e => hc2 (UInt8.toNat_inj.1 (by show c.toNat = 101; omega)))]
  rfl
/-! What is known of some terms. -/
def goodT (t : Tx1) : Prop := t ≠ [] ∧ term_Right.f t = some true ∧ ∃ ps, parts_Of.f t = some ps
theorem know_spec : ∀ (l : List Tx1) (S0 : KnS), (∀ t ∈ l, goodT t) → ∃ S, knowM l S0 = some S ∧ (∀ t, t ∈ S.1 ↔ t ∈ S0.1 ∨ t ∈ l) ∧ (∀ e ∈ S.2, e ∈ S0.2 ∨ ∃ t ∈ l, t.head? = some 101 ∧ parts_Of.f t = some e) ∧ (∀ t ∈ l, t ∉ S0.1 → t.head? = some 101 → ∀ e, parts_Of.f t = some e → e ∈ S.2) ∧ (∀ e ∈ S0.2, e ∈ S.2) ∧ S.1.length ≤ S0.1.length + l.length
  | [], S0, _ => ⟨S0, rfl, fun t => by simp, fun e he => .inl he, fun t ht => (by cases ht), fun e he => he, by simp⟩
  | t :: l, S0, hg => by
    obtain ⟨h1, h2, ps, h3⟩ := hg t List.mem_cons_self
    obtain ⟨S, k1, k2, k3, k4, k5, k6⟩ := know_spec l (seenM S0.1 S0.2 t ps) (fun x hx => hg x (List.mem_cons_of_mem _ hx))
    have hM : ∀ x, x ∈ (seenM S0.1 S0.2 t ps).1 ↔ x ∈ S0.1 ∨ x = t := by
      intro x
      unfold seenM
      split
      · rename_i hin
        exact ⟨.inl, fun q => q.elim id (fun e => by rw [e]; exact hin)⟩
      · simp
    have hE : ∀ e, e ∈ (seenM S0.1 S0.2 t ps).2 → e ∈ S0.2 ∨ (t.head? = some 101 ∧ parts_Of.f t = some e) := by
      intro e he
      unfold seenM at he
      split at he
      · exact .inl he
      · simp only at he
        split at he
        · rename_i hh
          rcases List.mem_append.1 he with q | q
          · exact .inl q
          · rw [List.mem_singleton.1 q]; exact .inr ⟨hh, h3⟩
        · exact .inl he
    have hE2 : ∀ e ∈ S0.2, e ∈ (seenM S0.1 S0.2 t ps).2 := by
      intro e he
      unfold seenM
      split
      · exact he
      · simp only
        split
        · exact List.mem_append_left _ he
        · exact he
    have hE3 : t ∉ S0.1 → t.head? = some 101 → ps ∈ (seenM S0.1 S0.2 t ps).2 := by
      intro hn hh
      unfold seenM
      rw [if_neg hn, if_pos hh]
      simp
    have hlen : (seenM S0.1 S0.2 t ps).1.length ≤ S0.1.length + 1 := by
      unfold seenM
      split
      · simp
      · simp
    refine ⟨S, ?_, ?_, ?_, ?_, ?_, ?_⟩
    · rw [knowM_cons, h2, Option.bind_some, cond_true, h3, Option.bind_some, given_of h1]
      exact k1
    · intro x
      rw [k2, hM, List.mem_cons]
      constructor
      · rintro ((q | q) | q)
        · exact .inl q
        · exact .inr (.inl q)
        · exact .inr (.inr q)
      · rintro (q | q | q)
        · exact .inl (.inl q)
        · exact .inl (.inr q)
        · exact .inr q
    · intro e he
      rcases k3 e he with q | ⟨x, hx, q⟩
      · rcases hE e q with q | q
        · exact .inl q
        · exact .inr ⟨t, List.mem_cons_self, q⟩
      · exact .inr ⟨x, List.mem_cons_of_mem _ hx, q⟩
    · intro x hx hn hh e he
      by_cases hxt : x = t
      · subst hxt
        rw [h3] at he; cases he
        exact k5 _ (hE3 hn hh)
      · rcases List.mem_cons.1 hx with q | q
        · exact absurd q hxt
        · exact k4 x q (fun c => ((hM x).1 c).elim hn hxt) hh e he
    · intro e he
      exact k5 e (hE2 e he)
    · rw [List.length_cons]; omega
/-! What can be made of a tree's secrets. -/
theorem makesG_at {M : List Tx1} {E : List (List Tx1)} (c : UInt8) (r : Tx1) (n : Nat) {ps : List Tx1} (hm : c :: r ∉ M) (h1 : ¬ (c = 103 ∨ c = 117 ∨ c = 116)) (h2 : ¬ (c = 110 ∨ c = 105)) (hps : parts_Of.f (c :: r) = some ps) (hl : ps.length ≤ 1000000) : makesG M E (n + 1) (c :: r) = if c = 101 then raisesG (makesG M E n) E ps else allG (makesG M E n) ps := by
  rw [makesG_cons c r n hm, if_neg h1, if_neg h2, hps, Option.bind_some, given_of hl]
theorem all_one {f : Tx1 → Option Bool} {x : Tx1} {a : Bool} (h : f x = some a) : allG f [x] = some a := by
  show (f x).bind _ = _
  rw [h, Option.bind_some]
  cases a <;> rfl
theorem all_two {f : Tx1 → Option Bool} {x y : Tx1} {a b : Bool} (h : f x = some a) (h' : f y = some b) : allG f [x, y] = some (a && b) := by
  show (f x).bind _ = _
  rw [h, Option.bind_some]
  cases a
  · rfl
  · show allG f [y] = _
    rw [all_one h']; rfl
/-- One base of one exponent. -/
theorem any_one {f : Tx1 → Option Bool} {x y : Tx1} {a b : Bool} (h : f x = some a) (h' : f y = some b) : ∀ E : List (List Tx1), (∀ e ∈ E, ∃ s, e = [s]) → ∃ z, anyG f [x, y] E = some z ∧ (z = true → a = true ∨ b = true) ∧ ([x] ∈ E → b = true → z = true) ∧ ([y] ∈ E → a = true → z = true ∨ (x = y ∧ b = false))
  | [], _ => ⟨false, rfl, fun h => (by cases h), fun h => (by cases h), fun h => (by cases h)⟩
  | e :: E, hE => by
    obtain ⟨s, rfl⟩ := hE e List.mem_cons_self
    obtain ⟨z, hz, z1, z2, z3⟩ := any_one h h' E (fun e he => hE e (List.mem_cons_of_mem _ he))
    have hcons : anyG f [x, y] ([s] :: E) = match outL [s] [x, y] with
      | none => anyG f [x, y] E
      | some left => (allG f left).bind fun b => if b = true then some true else anyG f [x, y] E := rfl
    have hout : outL [s] [x, y] = if s ∈ [x, y] then some ([x, y].eraseIdx ([x, y].idxOf s)) else none := rfl
    by_cases hx : s = x
    · subst hx
      have ho : outL [s] [s, y] = some [y] := by
        rw [hout, if_pos List.mem_cons_self]
        simp
      rw [hcons, ho]
      simp only
      rw [all_one h', Option.bind_some]
      cases b with
      | true => exact ⟨true, rfl, fun _ => .inr rfl, fun _ _ => rfl, fun _ _ => .inl rfl⟩
      | false =>
        refine ⟨z, hz, z1, fun _ q => (by cases q), fun q qa => ?_⟩
        rcases List.mem_cons.1 q with q | q
        · exact .inr ⟨by injection q with q1; exact q1.symm, rfl⟩
        · exact z3 q qa
    by_cases hy : s = y
    · subst hy
      have ho : outL [s] [x, s] = some [x] := by
        rw [hout, if_pos (by simp)]
        rw [List.idxOf_cons, show (x == s) = false from beq_eq_false_iff_ne.2 (fun e => hx e.symm)]
        simp
      rw [hcons, ho]
      simp only
      rw [all_one h, Option.bind_some]
      cases a with
      | true => exact ⟨true, rfl, fun _ => .inl rfl, fun _ _ => rfl, fun _ _ => .inl rfl⟩
      | false =>
        refine ⟨z, hz, z1, fun q qb => ?_, fun _ q => (by cases q)⟩
        rcases List.mem_cons.1 q with q | q
        · exact absurd (by injection q with q1; exact q1.symm) hx
        · exact z2 q qb
    · have ho : outL [s] [x, y] = none := by
        rw [hout, if_neg (by simp [hx, hy])]
      rw [hcons, ho]
      refine ⟨z, hz, z1, fun q qb => ?_, fun q qa => ?_⟩
      · rcases List.mem_cons.1 q with q | q
        · exact absurd (by injection q with q1; exact q1.symm) hx
        · exact z2 q qb
      · rcases List.mem_cons.1 q with q | q
        · exact absurd (by injection q with q1; exact q1.symm) hy
        · exact z3 q qa
/-- Known, and elements: what is asked of them. -/
structure KnT (T : Tr) (nm : Int → Tx1) (M : List Tx1) (E : List (List Tx1)) : Prop where
  key : ∀ x : Tx1, 107 :: x ∉ M
  pow : ∀ x y : Tx1, powT [x, y] ∉ M
  one : ∀ e ∈ E, ∃ s, e = [s]
  node : ∀ n S, n ≠ [] → subT T n = some S → [secT nm S] ∈ E
theorem makes_node {T : Tr} {nm : Int → Tx1} {M : List Tx1} {E : List (List Tx1)} (hk : KnT T nm M E) (hnm : ∀ p, ∃ r, nm p = 110 :: r) : ∀ (S : Tr) (n : List UInt8), subT T n = some S → smallT nm S → ∃ N z, makesG M E N (secT nm S) = some z ∧ (z = true ↔ ∃ p ∈ S.leavesR, nm p ∈ M)
  | .leaf p, n, hs, hsm => by
    obtain ⟨r, hr⟩ := hnm p
    refine ⟨1, decide (nm p ∈ M), ?_, ?_⟩
    · show (if nm p ∈ M then some true else match nm p with
        | [] => none
        | c :: r => _) = _
      by_cases h : nm p ∈ M
      · rw [if_pos h, decide_eq_true h]
      · rw [if_neg h, decide_eq_false h, hr]
        rfl
    · rw [decide_eq_true_eq]
      exact ⟨fun h => ⟨p, List.mem_singleton.2 rfl, h⟩, fun ⟨q, hq, h⟩ => by rw [List.mem_singleton.1 hq] at h; exact h⟩
  | .two l r, n, hs, hsm => by
    obtain ⟨s1, s2⟩ := small_two hsm
    have hl : subT T (n ++ [108]) = some l := by rw [sub_append, hs]; show subT l [] = _; rw [subT_nil]
    have hr : subT T (n ++ [114]) = some r := by rw [sub_append, hs]; show subT r [] = _; rw [subT_nil]
    obtain ⟨N1, a, ha, ha2⟩ := makes_node hk hnm l _ hl s1
    obtain ⟨N2, b, hb, hb2⟩ := makes_node hk hnm r _ hr s2
    have ha := makesG_mono (Nat.le_max_left N1 N2) ha
    have hb := makesG_mono (Nat.le_max_right N1 N2) hb
    generalize max N1 N2 = N at ha hb
    obtain ⟨f1, l1⟩ := sec_le s1
    obtain ⟨f2, l2⟩ := sec_le s2
    have ff1 := full_mono f1 (show 398 ≤ 400 by omega)
    have ff2 := full_mono f2 (show 398 ≤ 400 by omega)
    have fp := full_two f1 f2
    have fk := full_above f1 f2
    have plen : (powT [secT nm l, secT nm r]).length ≤ 400 := by rw [powT_len]; simp; omega
    have rk : rightB (107 :: powT [secT nm l, secT nm r]) = true := full_right fk (by simp; omega)
    have rp : rightB (powT [secT nm l, secT nm r]) = true := full_right (full_mono fp (by omega)) (by omega)
    have pk := parts_one (.inl rfl) (full_mono fp (show 399 ≤ 400 by omega)) rk
    have hsrt : sortB [secT nm l, secT nm r] = [secT nm l, secT nm r] ∨ sortB [secT nm l, secT nm r] = [secT nm r, secT nm l] := by
      have hp := sortB_perm [secT nm l, secT nm r]
      generalize sortB [secT nm l, secT nm r] = q at hp
      match q, hp.length_eq with
      | [x, y], _ =>
        have hx : x ∈ [secT nm l, secT nm r] := hp.mem_iff.1 List.mem_cons_self
        rcases List.mem_cons.1 hx with e | e
        · subst e
          exact .inl (by rw [pair_cancel hp])
        · obtain rfl := List.mem_singleton.1 e
          exact .inr (by rw [pair_cancel (hp.trans (List.Perm.swap _ _ _))])
    have hpw : powT [secT nm l, secT nm r] = 101 :: UInt8.ofNat 2 :: (sortB [secT nm l, secT nm r]).flatten := rfl
    have pe : parts_Of.f (powT [secT nm l, secT nm r]) = some (sortB [secT nm l, secT nm r]) := by
      rw [hpw] at rp ⊢
      refine parts_el (fun x hx => ?_) rp (by rw [sortB_len]; simp)
      have := (sortB_perm _).mem_iff.1 hx
      rcases List.mem_cons.1 this with q | q
      · rw [q]; exact ff1
      · rw [List.mem_singleton.1 q]; exact ff2
    have el : [secT nm l] ∈ E := hk.node _ l (by simp) hl
    have er : [secT nm r] ∈ E := hk.node _ r (by simp) hr
    have hz : ∃ z, raisesG (makesG M E N) E (sortB [secT nm l, secT nm r]) = some z ∧ (z = true ↔ a = true ∨ b = true) := by
      have gen : ∀ {x y : Tx1} {a b : Bool}, makesG M E N x = some a → makesG M E N y = some b → [x] ∈ E → [y] ∈ E → ∃ z, raisesG (makesG M E N) E [x, y] = some z ∧ (z = true ↔ a = true ∨ b = true) := by
        intro x y a b ha hb ex ey
        unfold raisesG
        rw [all_two ha hb, Option.bind_some]
        cases hab : (a && b) with
        | true =>
          have : a = true ∧ b = true := by simpa using hab
          exact ⟨true, rfl, ⟨fun _ => .inl this.1, fun _ => rfl⟩⟩
        | false =>
          obtain ⟨z, hz, z1, z2, z3⟩ := any_one ha hb E hk.one
          refine ⟨z, by simpa using hz, z1, fun q => ?_⟩
          rcases q with q | q
          · rcases z3 ey q with k | ⟨k1, k2⟩
            · exact k
            · subst k1
              rw [ha] at hb
              have := Option.some.inj hb
              rw [q, k2] at this; cases this
          · exact z2 ex q
      rcases hsrt with e | e
      · rw [e]; exact gen ha hb el er
      · rw [e]
        obtain ⟨z, h1, h2⟩ := gen hb ha er el
        exact ⟨z, h1, h2.trans ⟨fun q => q.symm, fun q => q.symm⟩⟩
    obtain ⟨z, hz, hz2⟩ := hz
    refine ⟨N + 2, z, ?_, ?_⟩
    · show makesG M E (N + 1 + 1) (107 :: powT [secT nm l, secT nm r]) = _
      rw [makesG_at 107 _ (N + 1) (hk.key _) (by decide) (by decide) pk (by simp), if_neg (by decide)]
      refine all_one ?_
      have hnp := hk.pow (secT nm l) (secT nm r)
      rw [hpw] at pe hnp ⊢
      rw [makesG_at 101 _ N hnp (by decide) (by decide) pe (by rw [sortB_len]; simp), if_pos rfl]
      exact hz
    · rw [hz2, ha2, hb2]
      constructor
      · rintro (⟨p, hp, h⟩ | ⟨p, hp, h⟩)
        · exact ⟨p, List.mem_append_right _ hp, h⟩
        · exact ⟨p, List.mem_append_left _ hp, h⟩
      · rintro ⟨p, hp, h⟩
        rcases List.mem_append.1 hp with q | q
        · exact .inr ⟨p, q, h⟩
        · exact .inl ⟨p, q, h⟩
theorem makes_yes {M : List Tx1} {E : List (List Tx1)} {t : Tx1} {N : Nat} (h : t ∉ M → makesG M E (N + 1) t = some true) : makesG M E (N + 1) t = some true := by
  by_cases hm : t ∈ M
  · show (if t ∈ M then some true else _) = _
    rw [if_pos hm]
  · exact h hm
theorem makes_num (M : List Tx1) (E : List (List Tx1)) (x : Int) (N : Nat) : makesG M E (N + 1) (countedT 117 x) = some true :=
  makes_yes fun hm => by
    show makesG M E (N + 1) (117 :: bytesOf x 8) = _
    rw [makesG_cons 117 _ N hm, if_pos (.inr (.inl rfl))]
theorem makes_nums (M : List Tx1) (E : List (List Tx1)) : ∀ (l : List Tx1), (∀ t ∈ l, ∃ x, t = countedT 117 x) → l.length ≤ 100 → ∃ N, makesG M E (N + 1) (putT l) = some true
  | [], _, _ => ⟨0, by rw [putT_nil]; exact makes_num M E 0 0⟩
  | t :: l, h, hl => by
    obtain ⟨N, hN⟩ := makes_nums M E l (fun x hx => h x (List.mem_cons_of_mem _ hx)) (by simp at hl; omega)
    have hf : ∀ x ∈ t :: l, full x 1 := fun x hx => by obtain ⟨n, rfl⟩ := h x hx; exact full_number n
    have hlen := putT_len_le 9 (t :: l) (fun x hx => by obtain ⟨n, rfl⟩ := h x hx; simp [countedT, bytesOf_length])
    have f1 := full_put (t :: l) hf (Nat.le_refl _)
    have f2 := full_put l (fun x hx => hf x (List.mem_cons_of_mem _ hx)) (Nat.le_refl _)
    have hll : (t :: l).length ≤ 100 := hl
    have hll2 : l.length ≤ 100 := by rw [List.length_cons] at hll; omega
    have hr : rightB (putT (t :: l)) = true := full_right (full_mono f1 (by omega)) (by omega)
    refine ⟨N + 1, makes_yes fun hm => ?_⟩
    rw [putT_cons] at hm hr ⊢
    rw [makesG_at 112 _ (N + 1) hm (by decide) (by decide) (parts_two (full_mono (hf t List.mem_cons_self) (by omega)) (full_mono f2 (by omega)) hr) (by simp), if_neg (by decide)]
    obtain ⟨x, rfl⟩ := h t List.mem_cons_self
    rw [all_two (makes_num M E x N) hN]; rfl
theorem makes_group {M : List Tx1} {E : List (List Tx1)} {v : D_api_View} {r : Tx1} {z : Bool} {N : Nat} (hv : v.2.length ≤ 30) (hr : full r 398) (hrl : r.length ≤ 1000) (h104 : ∀ x, 104 :: x ∉ M) (h112 : ∀ x, 112 :: x ∉ M) (hz : makesG M E N r = some z) : ∃ N', makesG M E N' (104 :: 112 :: (putT (viewL v) ++ r)) = some z := by
  obtain ⟨N1, h1⟩ := makes_nums M E (viewL v) (viewL_num v) (by rw [viewL_len]; omega)
  obtain ⟨f, l⟩ := view_full v (by omega)
  have f1 := full_mono f (show v.2.length + 8 ≤ 398 by omega)
  have fp := full_pairT f1 hr
  have fh := full_hash fp
  have h1 := makesG_mono (Nat.le_max_left (N1 + 1) N) h1
  have hz := makesG_mono (Nat.le_max_right (N1 + 1) N) hz
  generalize max (N1 + 1) N = K at h1 hz
  refine ⟨K + 1 + 1, ?_⟩
  rw [makesG_at 104 _ (K + 1) (h104 _) (by decide) (by decide) (parts_one (.inr rfl) (full_mono fp (by omega)) (full_right fh (by simp; omega))) (by simp), if_neg (by decide)]
  refine all_one ?_
  rw [makesG_at 112 _ K (h112 _) (by decide) (by decide) (parts_two (full_mono f1 (by omega)) (full_mono hr (by omega)) (full_right (full_mono fp (by omega)) (by simp; omega))) (by simp), if_neg (by decide)]
  rw [all_two h1 hz]; rfl
/-- Terms that are told: elements of nodes, and names. -/
def toldT (T : Tr) (nm : Int → Tx1) (t : Tx1) : Prop := (∃ n S, n ≠ [] ∧ subT T n = some S ∧ t = 101 :: 1 :: secT nm S) ∨ ∃ p ∈ T.leavesR, t = nm p
theorem told_good {T : Tr} {nm : Int → Tx1} (hsm : ∀ n S, subT T n = some S → smallT nm S) (hnm : ∀ p, ∃ r, nm p = 110 :: r) {t : Tx1} (h : toldT T nm t) : goodT t ∧ plainT t ∧ (∀ e, parts_Of.f t = some e → t.head? = some 101 → ∃ s, t = 101 :: 1 :: s ∧ e = [s]) := by
  rcases h with ⟨n, S, hn, hs, rfl⟩ | ⟨p, hp, rfl⟩
  · obtain ⟨f, l⟩ := sec_le (hsm n S hs)
    have fe := full_elem (full_mono f (show 398 ≤ 399 by omega))
    have hr : rightB (101 :: 1 :: secT nm S) = true := full_right fe (by simp; omega)
    have hpa : parts_Of.f (101 :: 1 :: secT nm S) = some [secT nm S] := by
      have := parts_el (n := 1) (l := [secT nm S]) (fun x hx => by rw [List.mem_singleton.1 hx]; exact full_mono f (by omega)) (by simpa using hr) (by simp)
      simpa using this
    exact ⟨⟨by simp, by rw [right_spec (by simp; omega), hr], _, hpa⟩, ⟨101, _, _, rfl, by decide, by decide, by decide, hpa⟩, fun e he _ => by rw [hpa] at he; cases he; exact ⟨_, rfl, rfl⟩⟩
  · obtain ⟨π, hπ⟩ := leaf_path hp
    obtain ⟨f, l⟩ := sec_le (hsm π _ (path_leafAt T p π hπ).1)
    have f : full (nm p) 398 := f
    have l : (nm p).length ≤ 96 := l
    have hr : rightB (nm p) = true := full_right (full_mono f (by omega)) (by omega)
    obtain ⟨r, e⟩ := hnm p
    rw [e] at hr l ⊢
    have hpa : parts_Of.f (110 :: r) = some [] := parts_nil (by unfold five; decide) (by decide) hr
    exact ⟨⟨by simp, by rw [right_spec (by omega), hr], _, hpa⟩, ⟨110, _, _, rfl, by decide, by decide, by decide, hpa⟩, fun e _ h => by simp at h⟩
theorem derive_told {T : Tr} {nm : Int → Tx1} {l : List Tx1} {v : D_api_View} (hsm : ∀ n S, subT T n = some S → smallT nm S) (hnm : ∀ p, ∃ r, nm p = 110 :: r) (hl : l.length ≤ 1000) (ht : ∀ t ∈ l, toldT T nm t) (hnode : ∀ n S, n ≠ [] → subT T n = some S → 101 :: 1 :: secT nm S ∈ l) (hv : v.2.length ≤ 30) :
    ∃ C z, know_Close.f l = some C ∧ know_Derives.f C (secT nm T) = some z ∧ know_Derives.f C (104 :: 112 :: (putT (viewL v) ++ secT nm T)) = some z ∧ (z = true ↔ ∃ p ∈ T.leavesR, nm p ∈ l) := by
  obtain ⟨S, k1, k2, k3, k4, k5, k6⟩ := know_spec l ([], []) (fun t h => (told_good hsm hnm (ht t h)).1)
  have hS1 : ∀ t, t ∈ S.1 ↔ t ∈ l := fun t => by rw [k2]; simp
  have k6 : S.1.length ≤ l.length := by simpa using k6
  have hclose := close_eq (l := l) (by omega) k1 (by omega) (fun t h => (told_good hsm hnm (ht t ((hS1 t).1 h))).2.1)
  have hC : ∀ t, t ∈ sortB S.1 ↔ t ∈ l := fun t => ((sortB_perm S.1).mem_iff).trans (hS1 t)
  have hCl : (sortB S.1).length ≤ 1000 := by rw [sortB_len]; omega
  generalize sortB S.1 = C at hclose hC hCl
  obtain ⟨S2, m1, m2, m3, m4, m5, m6⟩ := know_spec C ([], []) (fun t h => (told_good hsm hnm (ht t ((hC t).1 h))).1)
  have hM : ∀ t, t ∈ S2.1 ↔ t ∈ l := fun t => by rw [m2, hC]; simp
  have hE : ∀ e ∈ S2.2, ∃ s, e = [s] := fun e he => by
    rcases m3 e he with q | ⟨t, ht2, q1, q2⟩
    · cases q
    · obtain ⟨s, _, h⟩ := (told_good hsm hnm (ht t ((hC t).1 ht2))).2.2 e q2 q1
      exact ⟨s, h⟩
  have hhead : ∀ (c : UInt8) (x : Tx1), c ≠ 101 → c ≠ 110 → c :: x ∉ S2.1 := fun c x c1 c2 h => by
    rcases ht _ ((hM _).1 h) with ⟨n, S, _, _, e⟩ | ⟨p, _, e⟩
    · exact c1 (List.cons.inj e).1
    · obtain ⟨r, e2⟩ := hnm p
      rw [e2] at e
      exact c2 (List.cons.inj e).1
  have hk : KnT T nm S2.1 S2.2 := by
    refine ⟨fun x => hhead 107 x (by decide) (by decide), fun x y h => ?_, hE, fun n S hn hs => ?_⟩
    · rcases ht _ ((hM _).1 h) with ⟨n, S, _, _, e⟩ | ⟨p, _, e⟩
      · have e : (101 : UInt8) :: UInt8.ofNat 2 :: (sortB [x, y]).flatten = 101 :: 1 :: secT nm S := e
        have := (List.cons.inj (List.cons.inj e).2).1
        exact absurd this (by decide)
      · obtain ⟨r, e2⟩ := hnm p
        rw [e2] at e
        have e : (101 : UInt8) :: UInt8.ofNat 2 :: (sortB [x, y]).flatten = 110 :: r := e
        exact absurd (List.cons.inj e).1 (by decide)
    · have hin := hnode n S hn hs
      have hg := told_good hsm hnm (ht _ hin)
      obtain ⟨ps, hps⟩ := hg.1.2.2
      obtain ⟨s, e1, e2⟩ := hg.2.2 ps hps rfl
      have : s = secT nm S := by have := (List.cons.inj (List.cons.inj e1).2).2; exact this.symm
      subst this
      have := m4 _ ((hC _).2 hin) (by simp) rfl ps hps
      rw [e2] at this
      exact this
  obtain ⟨N, z, hz, hz2⟩ := makes_node hk hnm T [] (subT_nil T) (hsm [] T (subT_nil T))
  obtain ⟨f, fl⟩ := sec_le (hsm [] T (subT_nil T))
  obtain ⟨N', hz'⟩ := makes_group hv f (by omega) (fun x => hhead 104 x (by decide) (by decide)) (fun x => hhead 112 x (by decide) (by decide)) hz
  obtain ⟨vf, vl⟩ := view_full v (by omega)
  have fg := full_hash (full_pairT (full_mono vf (show v.2.length + 8 ≤ 398 by omega)) f)
  have hEl : ∀ x ∈ S2.2, x.length ≤ 1000000 := fun x hx => by obtain ⟨s, rfl⟩ := hE x hx; simp
  refine ⟨C, z, hclose, derives_eq (by omega) m1 hEl (by rw [right_spec (by omega), full_right (full_mono f (by omega)) (by omega)]) hz, derives_eq (by omega) m1 hEl (by rw [right_spec (by simp; omega), full_right fg (by simp; omega)]) hz', ?_⟩
  rw [hz2]
  exact ⟨fun ⟨p, hp, h⟩ => ⟨p, hp, (hM _).1 h⟩, fun ⟨p, hp, h⟩ => ⟨p, hp, (hM _).2 h⟩⟩
end Go.Proofs.YtfapphlhkfddoaaGreatDoor.G
/- BlindSecret, as it is reckoned: the law. -/
namespace Go.Proofs.YtfapphlhkfddoaaGreatDoor.G
open Go.RowKit Go.Eng Go.Proofs Go.Proofs.YtfapphlhkfddoaaGreatDoor.Cut
set_option linter.unusedVariables false
set_option linter.unusedSimpArgs false
theorem bsec_loop {x2 : Int} {s : List Tx1} {r k : Tx1 × Int} {B : List D_blind_Blind} (hB : B.length ≤ 1000) : loopM (fun s259 : (List (List UInt8)) × Int => gemotlaw15_BlindSecret.b1 x2 s r k B s259.1 s259.2) (([] : List (List UInt8)), (0 : Int)) = some (B.map (·.2)) := by
  have key : ∀ g i, i + g = B.length → loopM (fun s259 : (List (List UInt8)) × Int => gemotlaw15_BlindSecret.b1 x2 s r k B s259.1 s259.2) ((B.take i).map (·.2), (i : Int)) = some (B.map (·.2)) := by
    intro g
    induction g with
    | zero =>
      intro i hi
      rw [List.take_of_length_le (by omega)]
      refine loop_end ?_
      show gemotlaw15_BlindSecret.b1 x2 s r k B (B.map (·.2)) (i : Int) = _
      unfold gemotlaw15_BlindSecret.b1
      rw [cond_f (by omega)]
    | succ g ih =>
      intro i hi
      have hil : i < B.length := by omega
      refine loop_step ?_ (ih (i + 1) (by omega))
      show gemotlaw15_BlindSecret.b1 x2 s r k B ((B.take i).map (·.2)) (i : Int) = _
      unfold gemotlaw15_BlindSecret.b1
      rw [cond_t (by omega), idxL_lt hil, Option.bind_some, room_of (by rw [List.length_map, List.length_take]; omega), wrap1 i (by omega), ← take_snoc hil, List.map_append]
      rfl
  have := key B.length 0 (by omega)
  simpa using this
theorem bsecret_law {x0 : List Int} {x1 x2 : Int} (h0 : ∀ x ∈ x0, inI64 x) (h2 : inI64 x2) : gemotlaw15_BlindSecret.f x0 x1 x2 = some true := by
  obtain ⟨T, hk, hn, hT⟩ := made_is h0
  have h8 := leaves_eight hk hn
  have hpos := leavesR_pos T
  have hsl := sortZ_len T.leavesR
  have hbl := blinds_len hk hn (nmOf (sortZ T.leavesR) x1)
  have s1 := sec_le (nm_small hk hn (sortZ T.leavesR) x1 (subT_nil T))
  obtain ⟨a, ha, a0, a8⟩ := pick15 (n := ((sortZ T.leavesR).length : Int)) h2 (by omega)
  obtain ⟨k, rfl⟩ : ∃ k : Nat, a = (k : Int) := ⟨a.toNat, by omega⟩
  have hkl : k < (sortZ T.leavesR).length := by omega
  have hmem : ∀ x ∈ sortZ T.leavesR, x ∈ T.leavesR := fun x hx => (sortZ_perm _).mem_iff.1 hx
  have hrow : rowB (sortZ T.leavesR) = true := by
    have hl : T.leavesR ≠ [] := fun e => by rw [e] at hpos; simp at hpos
    have hr : ∀ T : Tr, T.ok → ∀ x ∈ T.leavesR, 0 < x ∧ x ≤ 8 := by
      intro T
      induction T with
      | leaf p => intro h x hx; rw [List.mem_singleton.1 hx]; have h : 1 ≤ p ∧ p ≤ 8 := h; omega
      | two l r ihl ihr =>
        intro h x hx
        rcases List.mem_append.1 hx with q | q
        · exact ihr h.2 x q
        · exact ihl h.1 x q
    exact (rowB_sort _).2 ⟨hl, hr T hk, hn⟩
  have hm0 : 0 < (sortZ T.leavesR).length := by omega
  have hg0 : idxL (sortZ T.leavesR) (0 : Int) = some (sortZ T.leavesR)[0] := idxL_lt hm0
  have hin : (sortZ T.leavesR)[0] ∈ sortZ T.leavesR := List.getElem_mem hm0
  have hnm : ∀ p, ∃ r, nmOf (sortZ T.leavesR) x1 p = 110 :: r := fun p => ⟨_, rfl⟩
  have hsm : ∀ n S, subT T n = some S → smallT (nmOf (sortZ T.leavesR) x1) S := fun n S hs => nm_small hk hn _ x1 hs
  have hx : idxL ((sortZ T.leavesR).map (nmOf (sortZ T.leavesR) x1)) (k : Int) = some (nmOf (sortZ T.leavesR) x1 (sortZ T.leavesR)[k]) := by
    rw [idxL_nat, List.getElem?_map, List.getElem?_eq_getElem hkl]; rfl
  unfold gemotlaw15_BlindSecret.f
  rw [shown15, Option.bind_some, Bool.not_true, cond_false, hT, Option.bind_some, members_of hk hn, Option.bind_some, secrets_of hk hn, Option.bind_some, root_of hk hn, Option.bind_some, hg0, Option.bind_some, blinds_eq hk hn]
  have hkm : (sortZ T.leavesR)[k] ∈ T.leavesR := hmem _ (List.getElem_mem hkl)
  generalize (sortZ T.leavesR)[0] = p at hin
  generalize (sortZ T.leavesR)[k] = pk at hx hkm
  have hml : (sortZ T.leavesR).length ≤ 8 := by omega
  generalize sortZ T.leavesR = m at *
  have hv : rightV ((1, p), m) = true := by
    unfold rightV
    rw [hrow, decide_eq_true (show (((1, p), m) : D_api_View).1.2 ∈ m from hin)]
    rfl
  rw [group_of hv (by show m.length ≤ 100; omega) s1.1 (by omega), Option.bind_some]
  show cond (cond ((0 : Int) != 0) true ((0 : Int) != 0)) _ _ = _
  rw [show (cond ((0 : Int) != 0) true ((0 : Int) != 0)) = false from rfl, cond_false, Option.bind_some]
  have hbt : ∀ t ∈ (blindsM T (nmOf m x1)).map (·.2), toldT T (nmOf m x1) t := by
    intro t ht
    obtain ⟨b, hb, rfl⟩ := List.mem_map.1 ht
    unfold blindsM at hb
    obtain ⟨n, hn1, rfl⟩ := List.mem_map.1 hb
    obtain ⟨hn2, hn3⟩ := List.mem_filter.1 hn1
    obtain ⟨S, hs⟩ := nodes_at hk hn hn2
    exact .inl ⟨n, S, by simpa using hn3, hs, by show 101 :: 1 :: secAt T _ n = _; rw [secAt_in hs]⟩
  have hbn : ∀ n S, n ≠ [] → subT T n = some S → 101 :: 1 :: secT (nmOf m x1) S ∈ (blindsM T (nmOf m x1)).map (·.2) := by
    intro n S hne hs
    refine List.mem_map.2 ⟨(n, 101 :: 1 :: secAt T (nmOf m x1) n), ?_, by rw [secAt_in hs]⟩
    unfold blindsM
    exact List.mem_map.2 ⟨n, List.mem_filter.2 ⟨node_in hk hn hs, by simpa using hne⟩, rfl⟩
  have hbh : ∀ t ∈ (blindsM T (nmOf m x1)).map (·.2), ∃ s, t = 101 :: s := by
    intro t ht
    obtain ⟨b, hb, rfl⟩ := List.mem_map.1 ht
    unfold blindsM at hb
    obtain ⟨n, hn1, rfl⟩ := List.mem_map.1 hb
    exact ⟨_, rfl⟩
  have hBl : ((blindsM T (nmOf m x1)).map (·.2)).length ≤ 20 := by rw [List.length_map]; omega
  rw [bsec_loop (by omega)]
  show gemotlaw15_BlindSecret.k3 x2 (m.map (nmOf m x1)) (secT (nmOf m x1) T, 0) (104 :: 112 :: (putT (viewL ((1, p), m)) ++ secT (nmOf m x1) T), 0) ((blindsM T (nmOf m x1)).map (·.2)) = _
  generalize (blindsM T (nmOf m x1)).map (·.2) = K at hbt hbn hBl hbh
  obtain ⟨C, z, c1, c2, c3, c4⟩ := derive_told (v := ((1, p), m)) hsm hnm (by omega) hbt hbn (by show m.length ≤ 30; omega)
  have hz : z = false := by
    cases z with
    | false => rfl
    | true =>
      obtain ⟨q, hq, hin2⟩ := c4.1 rfl
      obtain ⟨s, e⟩ := hbh _ hin2
      exact absurd (List.cons.inj (show (110 : UInt8) :: _ = 101 :: s from e)).1 (by decide)
  subst hz
  obtain ⟨D, y, d1, d2, d3, d4⟩ := derive_told (l := ([] ++ K) ++ [nmOf m x1 pk]) (v := ((1, p), m)) hsm hnm (by simp; omega) (fun t ht => by
    rcases List.mem_append.1 ht with q | q
    · exact hbt t (by simpa using q)
    · rw [List.mem_singleton.1 q]; exact .inr ⟨pk, hkm, rfl⟩) (fun n S hne hs => List.mem_append_left _ (by simpa using hbn n S hne hs)) (by show m.length ≤ 30; omega)
  have hy : y = true := d4.2 ⟨pk, hkm, by simp⟩
  subst hy
  unfold gemotlaw15_BlindSecret.k3 gemotlaw15_BlindSecret.k2
  rw [c1, Option.bind_some, room_of (by simp; omega), List.length_map, ha, Option.bind_some, hx, Option.bind_some, room_of (by simp; omega), d1, Option.bind_some, c2, Option.bind_some, Bool.not_false, cond_true, c3, Option.bind_some, Bool.not_false, cond_true, d2, Option.bind_some, cond_true, d3, Option.bind_some]
  rfl
theorem bsecret_row {ok : Nat → Prop} {w : World} {u0 : Value} {x0 : List Int} {x1 x2 : Int} (hu : slR (tInt .i64) w ok u0 x0) (h0 : ∀ x ∈ x0, inI64 x) (h2 : inI64 x2) :
    Calls Tryz.prog 11 #[u0, .int .u64 x1, .int .i64 x2] w fun e w' => ∃ r, e = .returned r ∧ r = .bool true ∧ Below w.heap.size w w' :=
  (gemotlaw15_BlindSecret_ok hu (bsecret_law h0 h2)).mono fun e w' ⟨v, h1, h2, h3⟩ => ⟨v, h1, h2, h3.toBelow⟩
end Go.Proofs.YtfapphlhkfddoaaGreatDoor.G
