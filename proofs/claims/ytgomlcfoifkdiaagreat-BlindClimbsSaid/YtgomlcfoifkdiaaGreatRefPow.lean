/- Elements, powers, keys and what is made of parts, by the reference and by the program alike. -/
import Derived.Test.YtgomlcfoifkdiaaGreatRefTerm
import Derived.Test.YtgomlcfoifkdiaaGreatHR
namespace Go.Proofs.YtgomlcfoifkdiaaGreat.G
open Go.RowKit Go.Eng Go.Proofs Go.Proofs.YtgomlcfoifkdiaaGreat.Cut
set_option linter.unusedVariables false
set_option linter.unusedSimpArgs false

theorem lt_iff (a b : List UInt8) : strLt a b = decide (a < b) := by rw [strLt_eq, bytesLess_eq]
theorem least_loop (l : List (List UInt8)) (s : List UInt8) (hl : l.length ≤ 1000) (h0 : 0 < l.length) : ∃ a, ∃ (h : a < l.length), (∀ x ∈ l, l[a] ≤ x) ∧ loopM (fun s3001 : Int × Int => gemotref1_Raised.b2 l s s3001.1 s3001.2) ((0 : Int), (0 : Int)) = some (a : Int) := by
  have go : ∀ k i a, i + k = l.length → (ha : a < l.length) → (∀ j (hj : j < l.length), j < i → l[a] ≤ l[j]) → ∃ b, ∃ (h : b < l.length), (∀ j (hj : j < l.length), l[b] ≤ l[j]) ∧ loopM (fun s3001 : Int × Int => gemotref1_Raised.b2 l s s3001.1 s3001.2) ((a : Int), (i : Int)) = some (b : Int) := by
    intro k
    induction k with
    | zero =>
      intro i a hi ha hm
      refine ⟨a, ha, fun j hj => hm j hj (by omega), loop_end ?_⟩
      show gemotref1_Raised.b2 l s (a : Int) (i : Int) = _
      unfold gemotref1_Raised.b2
      rw [cond_f (by omega)]
    | succ k ih =>
      intro i a hi ha hm
      have hil : i < l.length := by omega
      by_cases hlt : l[i] < l[a]
      · obtain ⟨b, hb, h1, h2⟩ := ih (i + 1) i (by omega) hil (fun j hj hji => by
          by_cases e : j = i
          · subst e; exact List.le_refl _
          · exact List.le_trans (List.le_of_lt hlt) (hm j hj (by omega)))
        refine ⟨b, hb, h1, loop_step ?_ h2⟩
        show gemotref1_Raised.b2 l s (a : Int) (i : Int) = _
        unfold gemotref1_Raised.b2
        rw [cond_t (by omega), idxL_lt hil, Option.bind_some, idxL_lt ha, Option.bind_some, lt_iff, cond_t hlt]
        unfold gemotref1_Raised.k1
        rw [wrap1 i (by omega)]
      · obtain ⟨b, hb, h1, h2⟩ := ih (i + 1) a (by omega) ha (fun j hj hji => by
          by_cases e : j = i
          · subst e; exact List.not_lt.1 hlt
          · exact hm j hj (by omega))
        refine ⟨b, hb, h1, loop_step ?_ h2⟩
        show gemotref1_Raised.b2 l s (a : Int) (i : Int) = _
        unfold gemotref1_Raised.b2
        rw [cond_t (by omega), idxL_lt hil, Option.bind_some, idxL_lt ha, Option.bind_some, lt_iff, cond_f hlt]
        unfold gemotref1_Raised.k1
        rw [wrap1 i (by omega)]
  obtain ⟨b, hb, h1, h2⟩ := go l.length 0 0 (by omega) h0 (fun j hj h => absurd h (Nat.not_lt_zero j))
  refine ⟨b, hb, fun x hx => ?_, h2⟩
  obtain ⟨j, hj, rfl⟩ := List.getElem_of_mem hx
  exact h1 j hj
theorem take_out {l : List (List UInt8)} {a : Nat} (h : a < l.length) : l.Perm (l[a] :: (l.take a ++ l.drop (a + 1))) := by
  have e : l = l.take a ++ l[a] :: l.drop (a + 1) := by rw [List.getElem_cons_drop h, List.take_append_drop]
  exact (List.Perm.of_eq e).trans List.perm_middle
theorem sortB_least {l : List (List UInt8)} {a : Nat} (h : a < l.length) (hm : ∀ x ∈ l, l[a] ≤ x) : sortB l = l[a] :: sortB (l.take a ++ l.drop (a + 1)) :=
  List.Perm.eq_of_pairwise (le := fun a b : List UInt8 => a ≤ b) (fun a b _ _ h1 h2 => List.le_antisymm h1 h2) (sortB_le l)
    (List.pairwise_cons.2 ⟨fun y hy => hm y ((take_out h).mem_iff.2 (List.mem_cons_of_mem _ ((sortB_perm _).mem_iff.1 hy))), sortB_le _⟩)
    ((sortB_perm l).trans ((take_out h).trans ((sortB_perm _).symm.cons _)))
theorem raised_loop : ∀ (n : Nat) (l : List (List UInt8)) (s : List UInt8), l.length = n → n ≤ 1000 → s.length + l.flatten.length ≤ 1000000000 → loopM (fun s2666 : (List (List UInt8)) × (List UInt8) => gemotref1_Raised.b4 s2666.1 s2666.2) (l, s) = some (s ++ (sortB l).flatten)
  | 0, l, s, hl, hn, hb => by
    obtain rfl := List.eq_nil_of_length_eq_zero hl
    refine loop_end ?_
    show gemotref1_Raised.b4 [] s = _
    unfold gemotref1_Raised.b4
    simp [sortB]
  | n + 1, l, s, hl, hn, hb => by
    obtain ⟨a, ha, hm, hL⟩ := least_loop l s (by omega) (by omega)
    have hp := take_out ha
    have hlen : (l.take a ++ l.drop (a + 1)).length = n := by have := hp.length_eq; simp only [List.length_cons] at this; omega
    have hfl : l.flatten.length = l[a].length + (l.take a ++ l.drop (a + 1)).flatten.length := by
      rw [← flatten_sortB l, sortB_least ha hm, List.flatten_cons, List.length_append, flatten_sortB]
    have ih := raised_loop n (l.take a ++ l.drop (a + 1)) (s ++ l[a]) hlen (by omega) (by rw [List.length_append]; omega)
    rw [sortB_least ha hm, List.flatten_cons, ← List.append_assoc]
    refine loop_step ?_ ih
    show gemotref1_Raised.b4 l s = _
    unfold gemotref1_Raised.b4
    rw [cond_t (by omega), hL, Option.bind_some]
    unfold gemotref1_Raised.k3
    have h3 : slcM l (0 : Int) (a : Int) = some (l.take a) := by
      have := slc_lt (xs := l) (a := 0) (b := a) (by omega) (by omega)
      simpa using this
    rw [idxL_lt ha, Option.bind_some, room_of (by omega), h3, Option.bind_some, room_of (by simp; omega), wrap1 a (by omega), slc_to (by omega), Option.bind_some, room_of (by simp; omega), List.nil_append]
theorem raised_spec {l : List (List UInt8)} (h0 : 0 < l.length) (hl : l.length ≤ 255) (hb : l.flatten.length ≤ 100000000) : gemotref1_Raised.f l = some (powT l) := by
  have hw8 : IntKind.u8.wrap (l.length : Int) = ((UInt8.ofNat l.length).toNat : Int) := by
    have e : ∀ x : Int, IntKind.u8.wrap x = x % 256 := fun x => by simp [IntKind.wrap, IntKind.bits, IntKind.signed]
    rw [e, UInt8.toNat_ofNat']; omega
  have hs : strM [IntKind.u8.wrap (l.length : Int)] = some [UInt8.ofNat l.length] := by
    rw [hw8]
    unfold strM
    rw [if_pos ⟨by simp, fun x hx => by
      rw [List.mem_singleton.1 hx]
      have := UInt8.toNat_lt (UInt8.ofNat l.length)
      omega⟩]
    show some [UInt8.ofNat ((UInt8.ofNat l.length).toNat : Int).toNat] = _
    rw [Int.toNat_natCast, UInt8.ofNat_toNat]
  unfold gemotref1_Raised.f
  rw [show ((l.length : Int) == 0) = false from beq_eq_false_iff_ne.2 (by omega), cond_false, room_of (by simp; omega), hs, Option.bind_some, room_of (by simp), List.nil_append, raised_loop l.length l _ rfl (by omega) (by have : ([101] ++ [UInt8.ofNat l.length]).length = 2 := rfl; omega)]
  rfl
theorem made_spec {s : List UInt8} (hb : s.length ≤ 140737488355328) : gemotref1_made.f s = some (wholeE s) := by
  unfold gemotref1_made.f wholeE
  by_cases h : 20000 < s.length
  · rw [cond_t (by omega), if_pos h]
  rw [cond_f (by omega), if_neg h, rright_spec hb, Option.bind_some]
  by_cases hr : rightB s = true
  · rw [if_pos hr, hr]; rfl
  · rw [if_neg hr, show rightB s = false by simpa using hr]; rfl
theorem relement_spec {s : List UInt8} (hb : s.length ≤ 140737488355328) : gemotref1_element.f s = some (elemB s) := by
  have h := element_spec hb
  unfold term_element.f at h
  rw [right_spec hb] at h
  unfold gemotref1_element.f
  rw [rright_spec hb]
  exact h
theorem rexponents_pow {l : List (List UInt8)} {n : UInt8} (hf : ∀ x ∈ l, full x 400) (hl : l.flatten.length ≤ 20000) : gemotref1_Exponents.f (101 :: n :: l.flatten) = some l := by
  have go : ∀ (r done : List (List UInt8)), done ++ r = l → loopM (fun s214 : (List (List UInt8)) × Int => gemotref1_Exponents.b1 (101 :: n :: l.flatten) s214.1 s214.2) (done, ((2 + done.flatten.length : Nat) : Int)) = some l := by
    intro r
    induction r with
    | nil =>
      intro done hd
      rw [List.append_nil] at hd
      refine loop_end ?_
      show gemotref1_Exponents.b1 (101 :: n :: l.flatten) done ((2 + done.flatten.length : Nat) : Int) = _
      unfold gemotref1_Exponents.b1
      rw [idxS0, Option.bind_some, show ((UInt8.toNat 101 : Int) == (101 : Int)) = true from rfl, cond_true, cond_f (by rw [hd]; simp only [List.length_cons]; omega), hd]
    | cons x r ih =>
      intro done hd
      have hx : full x 400 := hf x (by rw [← hd]; simp)
      have hpos := full_pos hx
      have hfl : l.flatten = done.flatten ++ x ++ r.flatten := by rw [← hd]; simp
      have hsum : l.flatten.length = done.flatten.length + x.length + r.flatten.length := by rw [hfl]; simp only [List.length_append]
      have hdl : done.length ≤ 20000 := by
        have h1 : ∀ q : List (List UInt8), (∀ y ∈ q, full y 400) → q.length ≤ q.flatten.length := by
          intro q
          induction q with
          | nil => intro _; exact Nat.le_refl _
          | cons y q ihq =>
            intro hq
            have := full_pos (hq y List.mem_cons_self)
            have := ihq fun z hz => hq z (List.mem_cons_of_mem _ hz)
            simp only [List.length_cons, List.flatten_cons, List.length_append]; omega
        have h2 := h1 done fun y hy => hf y (by rw [← hd]; exact List.mem_append_left _ hy)
        omega
      have he : (specE (101 :: n :: l.flatten) 400 (2 + done.flatten.length)).1 = ((2 + done.flatten.length + x.length : Nat) : Int) := by
        have h1 := full_at (p := 101 :: n :: done.flatten) (r := r.flatten) hx
        have e1 : (101 :: n :: done.flatten) ++ x ++ r.flatten = 101 :: n :: l.flatten := by rw [hfl]; simp
        have e2 : (101 :: n :: done.flatten).length = 2 + done.flatten.length := by simp; omega
        rw [e1, e2] at h1
        exact h1
      have ih2 := ih (done ++ [x]) (by rw [← hd]; simp)
      have e3 : 2 + (done ++ [x]).flatten.length = 2 + done.flatten.length + x.length := by simp; omega
      rw [e3] at ih2
      refine loop_step ?_ ih2
      show gemotref1_Exponents.b1 (101 :: n :: l.flatten) done ((2 + done.flatten.length : Nat) : Int) = _
      unfold gemotref1_Exponents.b1
      have hlt : ((2 + done.flatten.length : Nat) : Int) < ((101 :: n :: l.flatten).length : Int) := by simp only [List.length_cons]; omega
      rw [idxS0, Option.bind_some, show ((UInt8.toNat 101 : Int) == (101 : Int)) = true from rfl, cond_true, cond_t hlt, end_spec (by simp only [List.length_cons]; omega) (by simp only [List.length_cons]; omega), Option.bind_some, he]
      have hsl : slcM (101 :: n :: l.flatten) ((2 + done.flatten.length : Nat) : Int) ((2 + done.flatten.length + x.length : Nat) : Int) = some x := by
        rw [slc_lt (by omega) (by simp only [List.length_cons]; omega)]
        congr 1
        rw [show 2 + done.flatten.length + x.length - (2 + done.flatten.length) = x.length by omega, ← List.drop_drop, show (101 :: n :: l.flatten).drop 2 = l.flatten from rfl, hfl, List.append_assoc, List.drop_left, List.take_left]
      rw [hsl, Option.bind_some, room_of (by omega)]
  unfold gemotref1_Exponents.f
  have h0 := go l [] rfl
  rw [show loopM (fun s214 : (List (List UInt8)) × Int => gemotref1_Exponents.b1 (101 :: n :: l.flatten) s214.1 s214.2) (([] : List (List UInt8)), (2 : Int)) = some l from h0]
  rfl
theorem rexponents_gen : gemotref1_Exponents.f [103] = some [] := by
  unfold gemotref1_Exponents.f
  rw [show loopM (fun s214 : (List (List UInt8)) × Int => gemotref1_Exponents.b1 [103] s214.1 s214.2) (([] : List (List UInt8)), (2 : Int)) = some [] from loop_end rfl]
  rfl
/-- Powers are the same to both. -/
theorem rpower_eq {x v : List UInt8} (hx : x.length ≤ 140737488355328) (hv : v.length ≤ 140737488355328) : ∃ r, term_Power.f x v = some r ∧ gemotref1_Power.f x v = some r ∧ r.1.length ≤ 20000 := by
  by_cases h : elemB x = true ∧ rightB v = true
  · obtain ⟨he, hr⟩ := h
    have h1 := (rightB_len (elem_right he)).2
    have h2 := (rightB_len hr).2
    obtain ⟨l, hl⟩ : ∃ l : List (List UInt8), (x = [103] ∧ l = []) ∨ (x = 101 :: UInt8.ofNat l.length :: l.flatten ∧ 1 ≤ l.length ∧ l.length ≤ 32 ∧ ∀ y ∈ l, full y 399) := by
      rcases elem_dec he with e | ⟨l, e⟩
      · exact ⟨[], .inl ⟨e, rfl⟩⟩
      · exact ⟨l, .inr e⟩
    have hw : ∀ q : List UInt8, (wholeE q).1.length ≤ 20000 := by
      intro q
      unfold wholeE
      split
      · simp
      · split
        · simp only; omega
        · simp
    refine ⟨powE l v, power_yes he hr hl, ?_, by unfold powE; split; simp; exact hw _⟩
    have hx2 : gemotref1_Exponents.f x = some l ∧ l.length ≤ 32 ∧ l.flatten.length ≤ 20000 := by
      rcases hl with ⟨rfl, rfl⟩ | ⟨rfl, _, hl32, hf⟩
      · exact ⟨rexponents_gen, by simp, by simp⟩
      · simp only [List.length_cons] at h1
        exact ⟨rexponents_pow (fun y hy => full_mono (hf y hy) (by omega)) (by omega), hl32, by omega⟩
    obtain ⟨hE, hl32, hlf⟩ := hx2
    have hfl : (l ++ [v]).flatten.length = l.flatten.length + v.length := by simp
    have hll : (l ++ [v]).length = l.length + 1 := by simp
    unfold gemotref1_Power.f powE
    rw [relement_spec hx, Option.bind_some, he, Bool.not_true, cond_false, rright_spec hv, Option.bind_some, hr]
    show gemotref1_Power.k1 x v false = _
    unfold gemotref1_Power.k1
    rw [cond_false, hE, Option.bind_some, room_of (by omega)]
    by_cases h32 : 32 < l.length + 1
    · rw [cond_t (by rw [hll]; omega), if_pos h32]
    · rw [cond_f (by rw [hll]; omega), if_neg h32, raised_spec (by omega) (by omega) (by omega), Option.bind_some, made_spec (by rw [powT_len]; omega)]; rfl
  · refine ⟨([], 1), power_no hx hv h, ?_, by simp⟩
    unfold gemotref1_Power.f
    rw [relement_spec hx, Option.bind_some]
    cases he : elemB x with
    | false => rfl
    | true =>
      rw [Bool.not_true, cond_false, rright_spec hv, Option.bind_some]
      cases hr : rightB v with
      | false => rfl
      | true => exact absurd ⟨he, hr⟩ h
theorem rkey_eq {x : List UInt8} (hx : x.length ≤ 140737488350000) : ∃ r, term_Key.f x = some r ∧ gemotref1_Key.f x = some r ∧ r.1.length ≤ 20000 := by
  have hw : ∀ q : List UInt8, (wholeE q).1.length ≤ 20000 := by
    intro q
    unfold wholeE
    split
    · simp
    · split
      · simp only; omega
      · simp
  unfold term_Key.f gemotref1_Key.f
  rw [element_spec (by omega), relement_spec (by omega), Option.bind_some, Option.bind_some]
  cases elemB x with
  | false => exact ⟨([], 1), rfl, rfl, by simp⟩
  | true =>
    rw [Bool.not_true, cond_false, cond_false, room_of (by simp; omega), room_of (by simp; omega), whole_spec (by simp; omega), made_spec (by simp; omega)]
    exact ⟨wholeE ([107] ++ x), rfl, rfl, hw _⟩
/-- What is made of parts. -/
def ofE (c : List UInt8) (xs : List (List UInt8)) : List UInt8 × Int := if xs.all rightB = true then wholeE (c ++ xs.flatten) else ([], 1)
theorem wholeE_len (q : List UInt8) : (wholeE q).1.length ≤ 20000 := by
  unfold wholeE
  split
  · simp
  · split
    · simp only; omega
    · simp
theorem ofE_len (c : List UInt8) (xs : List (List UInt8)) : (ofE c xs).1.length ≤ 20000 := by
  unfold ofE
  split
  · exact wholeE_len _
  · simp
theorem of_loop {xs : List (List UInt8)} (hx : ∀ x ∈ xs, x.length ≤ 140737488355328) (hn : xs.length ≤ 1000) (body : List UInt8 → Int → Option (((List UInt8) × Int) ⊕ ((List UInt8) ⊕ ((List UInt8) × Int))))
    (hb : ∀ c (i : Nat), body c (i : Int) = if h : i < xs.length then (if rightB xs[i] = true then roomM 1 (c.length + xs[i].length) (some (.inl (c ++ xs[i], ((i + 1 : Nat) : Int)))) else some (.inr (.inr ([], 1)))) else some (.inr (.inl c))) :
    ∀ k i c, i + k = xs.length → c.length ≤ 20000 * i + 1 → loopM (fun s : (List UInt8) × Int => body s.1 s.2) (c, (i : Int)) = some (if (xs.drop i).all rightB = true then .inl (c ++ (xs.drop i).flatten) else .inr ([], 1)) := by
  intro k
  induction k with
  | zero =>
    intro i c hi hc
    refine loop_end ?_
    show body c (i : Int) = _
    rw [hb, dif_neg (by omega), List.drop_of_length_le (by omega)]; simp
  | succ k ih =>
    intro i c hi hc
    have hil : i < xs.length := by omega
    rw [List.drop_eq_getElem_cons hil, List.all_cons]
    by_cases hr : rightB xs[i] = true
    · have hl := (rightB_len hr).2
      have := ih (i + 1) (c ++ xs[i]) (by omega) (by rw [List.length_append]; omega)
      rw [hr, Bool.true_and, List.flatten_cons, ← List.append_assoc]
      refine loop_step ?_ this
      show body c (i : Int) = _
      rw [hb, dif_pos hil, if_pos hr, room_of (by omega)]
    · rw [show rightB xs[i] = false by simpa using hr, Bool.false_and, if_neg (by simp)]
      refine loop_end ?_
      show body c (i : Int) = _
      rw [hb, dif_pos hil, if_neg hr]
theorem of_spec {c : UInt8} {xs : List (List UInt8)} (hx : ∀ x ∈ xs, x.length ≤ 140737488355328) (hn : xs.length ≤ 1000) : term_of.f [c] xs = some (ofE [c] xs) := by
  have hb : ∀ d (i : Nat), term_of.b1 xs d (i : Int) = if h : i < xs.length then (if rightB xs[i] = true then roomM 1 (d.length + xs[i].length) (some (.inl (d ++ xs[i], ((i + 1 : Nat) : Int)))) else some (.inr (.inr ([], 1)))) else some (.inr (.inl d)) := by
    intro d i
    unfold term_of.b1
    by_cases h : i < xs.length
    · rw [cond_t (by omega), dif_pos h, idxL_lt h, Option.bind_some, right_spec (hx _ (List.getElem_mem h)), Option.bind_some]
      by_cases hr : rightB xs[i] = true
      · rw [hr, if_pos rfl, wrap1 i (by omega)]; rfl
      · rw [if_neg hr, show rightB xs[i] = false by simpa using hr]; rfl
    · rw [cond_f (by omega), dif_neg h]
  have h := of_loop hx hn (term_of.b1 xs) hb xs.length 0 [c] (by omega) (by simp)
  unfold term_of.f ofE
  rw [show loopM (fun s147 : (List UInt8) × Int => term_of.b1 xs s147.1 s147.2) ([c], (0 : Int)) = _ from h, List.drop_zero]
  by_cases hr : xs.all rightB = true
  · rw [if_pos hr, if_pos hr]
    show (term_whole.f _).bind _ = _
    have hl : ∀ q : List (List UInt8), (∀ x ∈ q, rightB x = true) → q.flatten.length ≤ 20000 * q.length := by
      intro q
      induction q with
      | nil => intro _; simp
      | cons y q ih =>
        intro hq
        have := (rightB_len (hq y List.mem_cons_self)).2
        have := ih fun z hz => hq z (List.mem_cons_of_mem _ hz)
        simp only [List.flatten_cons, List.length_append, List.length_cons]; omega
    have := hl xs (fun x hx => List.all_eq_true.1 hr x hx)
    rw [whole_spec (by rw [List.length_append]; simp only [List.length_cons, List.length_nil]; omega)]; rfl
  · rw [if_neg hr, if_neg hr]; rfl
theorem rof_spec {c : UInt8} {xs : List (List UInt8)} (hx : ∀ x ∈ xs, x.length ≤ 140737488355328) (hn : xs.length ≤ 1000) : gemotref1_Of.f [c] xs = some (ofE [c] xs) := by
  have hb : ∀ d (i : Nat), gemotref1_Of.b1 xs d (i : Int) = if h : i < xs.length then (if rightB xs[i] = true then roomM 1 (d.length + xs[i].length) (some (.inl (d ++ xs[i], ((i + 1 : Nat) : Int)))) else some (.inr (.inr ([], 1)))) else some (.inr (.inl d)) := by
    intro d i
    unfold gemotref1_Of.b1
    by_cases h : i < xs.length
    · rw [cond_t (by omega), dif_pos h, idxL_lt h, Option.bind_some, rright_spec (hx _ (List.getElem_mem h)), Option.bind_some]
      by_cases hr : rightB xs[i] = true
      · rw [hr, if_pos rfl, wrap1 i (by omega)]; rfl
      · rw [if_neg hr, show rightB xs[i] = false by simpa using hr]; rfl
    · rw [cond_f (by omega), dif_neg h]
  have h := of_loop hx hn (gemotref1_Of.b1 xs) hb xs.length 0 [c] (by omega) (by simp)
  unfold gemotref1_Of.f ofE
  rw [show loopM (fun s189 : (List UInt8) × Int => gemotref1_Of.b1 xs s189.1 s189.2) ([c], (0 : Int)) = _ from h, List.drop_zero]
  by_cases hr : xs.all rightB = true
  · rw [if_pos hr, if_pos hr]
    show (gemotref1_made.f _).bind _ = _
    have hl : ∀ q : List (List UInt8), (∀ x ∈ q, rightB x = true) → q.flatten.length ≤ 20000 * q.length := by
      intro q
      induction q with
      | nil => intro _; simp
      | cons y q ih =>
        intro hq
        have := (rightB_len (hq y List.mem_cons_self)).2
        have := ih fun z hz => hq z (List.mem_cons_of_mem _ hz)
        simp only [List.flatten_cons, List.length_append, List.length_cons]; omega
    have := hl xs (fun x hx => List.all_eq_true.1 hr x hx)
    rw [made_spec (by rw [List.length_append]; simp only [List.length_cons, List.length_nil]; omega)]; rfl
  · rw [if_neg hr, if_neg hr]; rfl
end Go.Proofs.YtgomlcfoifkdiaaGreat.G
