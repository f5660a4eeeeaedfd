/- Trees as texts, by the reference. -/
import Derived.Test.YtgomlcfoifkdiaaTreeSub
import Derived.Test.YtgomlcfoifkdiaaRefHas
import Derived.Test.YtgomlcfoifkdiaaHN
namespace Go.Proofs.Ytgomlcfoifkdiaa.G
open Go.RowKit Go.Eng Go.Proofs Go.Proofs.Ytgomlcfoifkdiaa.Cut
set_option linter.unusedVariables false
set_option linter.unusedSimpArgs false

def digO (c : UInt8) : Option Int := if 49 ≤ c.toNat ∧ c.toNat ≤ 56 then some ((c.toNat : Int) - 48) else none
def digitsL (s : List UInt8) : List Int := s.filterMap digO
theorem digits_eq (s : List UInt8) (hl : s.length ≤ 1000000) : gemotref13_digits.f s = some (digitsL s) := by
  have go : ∀ k i, i + k = s.length → loopM (fun s512 : (List Int) × Int => gemotref13_digits.b3 s s512.1 s512.2) (digitsL (s.take i), (i : Int)) = some (digitsL s) := by
    intro k
    induction k with
    | zero =>
      intro i hi
      refine loop_end ?_
      show gemotref13_digits.b3 s (digitsL (s.take i)) (i : Int) = _
      unfold gemotref13_digits.b3
      rw [cond_f (by omega), List.take_of_length_le (by omega)]
    | succ k ih =>
      intro i hi
      have hil : i < s.length := by omega
      refine loop_step ?_ (ih (i + 1) (by omega))
      show gemotref13_digits.b3 s (digitsL (s.take i)) (i : Int) = _
      have hx : idxS s (i : Int) = some (s[i].toNat : Int) := idxS_at (List.getElem?_eq_getElem hil)
      have h256 := UInt8.toNat_lt s[i]
      have hdl : (digitsL (s.take i)).length ≤ 1000000 := by
        have := List.length_filterMap_le digO (s.take i)
        rw [List.length_take] at this
        unfold digitsL; omega
      have htk : digitsL (s.take (i + 1)) = digitsL (s.take i) ++ (digO s[i]).toList := by
        rw [← take_snoc hil]
        unfold digitsL
        rw [List.filterMap_append]
        congr 1
      unfold gemotref13_digits.b3
      rw [cond_t (by omega), hx, Option.bind_some]
      by_cases h1 : 49 ≤ s[i].toNat
      · rw [show decide ((s[i].toNat : Int) ≥ 49) = true from decide_eq_true (by omega), cond_true, Option.bind_some, cond_true]
        unfold gemotref13_digits.k2
        by_cases h2 : s[i].toNat ≤ 56
        · rw [show decide ((s[i].toNat : Int) ≤ 56) = true from decide_eq_true (by omega), cond_true, hx, Option.bind_some, room_of (by omega)]
          unfold gemotref13_digits.k1
          have hw : IntKind.i64.wrap (IntKind.u8.wrap ((s[i].toNat : Int) - 48)) = (s[i].toNat : Int) - 48 := by
            have e : IntKind.u8.wrap ((s[i].toNat : Int) - 48) = (s[i].toNat : Int) - 48 := by
              have e : ∀ x : Int, IntKind.u8.wrap x = x % 256 := fun x => by simp [IntKind.wrap, IntKind.bits, IntKind.signed]
              rw [e]; omega
            rw [e, Eng.i64_id (by omega) (by omega)]
          rw [hw, wrap1 i (by omega), htk]
          unfold digO
          rw [if_pos ⟨h1, h2⟩]; rfl
        · rw [show decide ((s[i].toNat : Int) ≤ 56) = false from decide_eq_false (by omega), cond_false]
          unfold gemotref13_digits.k1
          rw [wrap1 i (by omega), htk]
          unfold digO
          rw [if_neg (fun h => h2 h.2)]; simp
      · rw [show decide ((s[i].toNat : Int) ≥ 49) = false from decide_eq_false (by omega), cond_false]
        unfold gemotref13_digits.k2 gemotref13_digits.k1
        rw [cond_false, cond_false, wrap1 i (by omega), htk]
        unfold digO
        rw [if_neg (fun h => h1 h.1)]; simp
  unfold gemotref13_digits.f
  rw [show loopM (fun s512 : (List Int) × Int => gemotref13_digits.b3 s s512.1 s512.2) (([] : List Int), (0 : Int)) = _ from go s.length 0 (by omega)]
  rfl
theorem readM_cons (n : Nat) (c : UInt8) (r : List UInt8) : readM (n + 1) (c :: r) = if 49 ≤ c.toNat ∧ c.toNat ≤ 56 then some (.leaf ((c.toNat : Int) - 48), r) else if c ≠ 40 then none else
    match readM n r with
    | none => none
    | some (a, r1) => match readM n r1 with
      | none => none
      | some (b, r2) => match r2 with
        | [] => none
        | d :: r3 => if d = 41 then some (.two a b, r3) else none := rfl
/-- Where the tree ends that begins at a place. -/
def rdN (n : Nat) (s : List UInt8) (a : Nat) : Int := match readM n (s.drop a) with
  | some (_, r) => ((s.length - r.length : Nat) : Int)
  | none => -1
theorem read_drop {n : Nat} {s : List UInt8} {a : Nat} {T : Tr} {r : List UInt8} (h : readM n (s.drop a) = some (T, r)) : s.drop (s.length - r.length) = r ∧ r.length < s.length - a ∧ a + T.text.length = s.length - r.length := by
  have h1 := (readM_text _ _ _ _ h).1
  have h2 := readM_len _ _ _ _ h
  have hl := congrArg List.length h1
  rw [List.length_drop] at h2
  rw [List.length_drop, List.length_append] at hl
  refine ⟨?_, h2, by omega⟩
  have e : s.length - r.length = a + T.text.length := by omega
  rw [e, ← List.drop_drop, h1, List.drop_left]
theorem end13_go {s : List UInt8} (hl : s.length ≤ 1000000) : ∀ (n m a : Nat), n ≤ m → a ≤ s.length → s.length - a < n → gemotref13_End.g m s (a : Int) = some (rdN n s a) := by
  intro n
  induction n with
  | zero => intro m a _ _ h; omega
  | succ n ih =>
    intro m a hm ha hn
    obtain ⟨k, rfl⟩ : ∃ k, m = k + 1 := ⟨m - 1, by omega⟩
    show gemotref13_End.step (gemotref13_End.g k) s (a : Int) = _
    unfold gemotref13_End.step
    by_cases hal : a = s.length
    · rw [cond_t (by omega)]
      unfold rdN
      rw [List.drop_of_length_le (by omega)]; rfl
    have hlt : a < s.length := by omega
    have hx : idxS s (a : Int) = some (s[a].toNat : Int) := idxS_at (List.getElem?_eq_getElem hlt)
    have hd : s.drop a = s[a] :: s.drop (a + 1) := List.drop_eq_getElem_cons hlt
    rw [cond_f (by omega), hx, Option.bind_some]
    have hk2 : ¬ (49 ≤ s[a].toNat ∧ s[a].toNat ≤ 56) → gemotref13_End.k2 (gemotref13_End.g k) s (a : Int) false = (if s[a] ≠ 40 then some (-1) else some (rdN (n + 1) s a)) := by
        intro hdg
        unfold gemotref13_End.k2
        rw [cond_false, hx, Option.bind_some]
        by_cases h40 : s[a] = 40
        · rw [show ((s[a].toNat : Int) != (40 : Int)) = false by rw [h40]; rfl, cond_false, if_neg (fun h => h h40), wrap1 a (by omega), ih k (a + 1) (by omega) (by omega) (by omega), Option.bind_some]
          have hr : rdN (n + 1) s a = match readM n (s.drop (a + 1)) with
              | none => -1
              | some (_, r1) => match readM n r1 with
                | none => -1
                | some (_, r2) => match r2 with
                  | [] => -1
                  | d :: r3 => if d = 41 then ((s.length - r3.length : Nat) : Int) else -1 := by
            unfold rdN
            rw [hd]
            rw [readM_cons, if_neg hdg, if_neg (fun h => h h40)]
            cases readM n (s.drop (a + 1)) with
            | none => rfl
            | some x =>
              obtain ⟨A, r1⟩ := x
              simp only
              cases readM n r1 with
              | none => rfl
              | some y =>
                obtain ⟨B, r2⟩ := y
                simp only
                cases r2 with
                | nil => rfl
                | cons d r3 =>
                  simp only
                  by_cases h : d = 41
                  · rw [if_pos h, if_pos h]
                  · rw [if_neg h, if_neg h]
          rw [hr]
          unfold rdN
          cases h1 : readM n (s.drop (a + 1)) with
          | none => rfl
          | some x =>
            obtain ⟨A, r1⟩ := x
            obtain ⟨g1, g2, g3⟩ := read_drop h1
            simp only
            rw [cond_f (by omega), ih k (s.length - r1.length) (by omega) (by omega) (by omega), Option.bind_some]
            unfold rdN
            rw [g1]
            cases h2 : readM n r1 with
            | none => rfl
            | some y =>
              obtain ⟨B, r2⟩ := y
              rw [← g1] at h2
              obtain ⟨q1, q2, q3⟩ := read_drop h2
              simp only
              cases r2 with
              | nil =>
                rw [show decide (((s.length - ([] : List UInt8).length : Nat) : Int) < 0) = false from decide_eq_false (by omega), show decide (((s.length - ([] : List UInt8).length : Nat) : Int) ≥ (s.length : Int)) = true from decide_eq_true (by simp)]
                rfl
              | cons d r3 =>
                have hl3 : (d :: r3).length ≤ s.length := by omega
                simp only [List.length_cons] at hl3 q1 ⊢
                have hy : idxS s ((s.length - (r3.length + 1) : Nat) : Int) = some (d.toNat : Int) := by
                  refine idxS_at ?_
                  have := congrArg (fun l => l[0]?) q1
                  simpa using this
                rw [show decide (((s.length - (r3.length + 1) : Nat) : Int) < 0) = false from decide_eq_false (by omega), show decide (((s.length - (r3.length + 1) : Nat) : Int) ≥ (s.length : Int)) = false from decide_eq_false (by omega)]
                show (idxS s ((s.length - (r3.length + 1) : Nat) : Int)).bind _ = _
                rw [hy, Option.bind_some]
                unfold gemotref13_End.k1
                by_cases h41 : d = 41
                · rw [show ((d.toNat : Int) != (41 : Int)) = false by rw [h41]; rfl, if_pos h41, wrap1 _ (by omega)]
                  show some _ = _
                  congr 2; omega
                · rw [show ((d.toNat : Int) != (41 : Int)) = true by
                    have : ((d.toNat : Int) == ((41 : UInt8).toNat : Int)) = false := byte_ne h41
                    show (!((d.toNat : Int) == (41 : Int))) = true
                    rw [show ((41 : Int)) = ((41 : UInt8).toNat : Int) from rfl, this]; rfl, if_neg h41]
                  rfl
        · rw [show ((s[a].toNat : Int) != (40 : Int)) = true by
            have : ((s[a].toNat : Int) == ((40 : UInt8).toNat : Int)) = false := byte_ne h40
            show (!((s[a].toNat : Int) == (40 : Int))) = true
            rw [show ((40 : Int)) = ((40 : UInt8).toNat : Int) from rfl, this]; rfl, cond_true, if_pos h40]
    by_cases hdg : 49 ≤ s[a].toNat ∧ s[a].toNat ≤ 56
    · have hr : rdN (n + 1) s a = ((a + 1 : Nat) : Int) := by
        unfold rdN
        rw [hd]
        rw [readM_cons, if_pos hdg]
        simp only [List.length_drop]
        congr 1; omega
      rw [show decide ((s[a].toNat : Int) ≥ 49) = true from decide_eq_true (by omega), cond_true, Option.bind_some, show decide ((s[a].toNat : Int) ≤ 56) = true from decide_eq_true (by omega), hr]
      unfold gemotref13_End.k2
      rw [cond_true, cond_true, wrap1 a (by omega)]
    · have hno : (if s[a] ≠ 40 then some (-1) else some (rdN (n + 1) s a)) = some (rdN (n + 1) s a) := by
        by_cases h40 : s[a] = 40
        · rw [if_neg (fun h => h h40)]
        · rw [if_pos h40]
          unfold rdN
          rw [hd]
          rw [readM_cons, if_neg hdg, if_pos h40]
      by_cases h1 : 49 ≤ s[a].toNat
      · rw [show decide ((s[a].toNat : Int) ≥ 49) = true from decide_eq_true (by omega), cond_true, Option.bind_some, show decide ((s[a].toNat : Int) ≤ 56) = false from decide_eq_false (by omega), cond_true]
        rw [hk2 hdg, hno]
      · rw [show decide ((s[a].toNat : Int) ≥ 49) = false from decide_eq_false (by omega), cond_false, cond_false]
        rw [hk2 hdg, hno]
theorem end13 {s : List UInt8} (hl : s.length ≤ 1000000) {a : Nat} (ha : a ≤ s.length) : gemotref13_End.f s (a : Int) = some (rdN (s.length + 1) s a) :=
  rec_of (s.length + 1) (fun m hm => end13_go hl (s.length + 1) m a hm ha (by omega))
theorem digits_text : ∀ T : Tr, T.ok → digitsL T.text = T.leavesR.reverse := by
  intro T
  induction T with
  | leaf p =>
    intro h
    have h : 1 ≤ p ∧ p ≤ 8 := h
    have e : (UInt8.ofNat (p.toNat + 48)).toNat = p.toNat + 48 := by rw [UInt8.toNat_ofNat']; omega
    show [UInt8.ofNat (p.toNat + 48)].filterMap digO = [p]
    have h2 : digO (UInt8.ofNat (p.toNat + 48)) = some p := by
      unfold digO
      rw [e, if_pos (by omega)]
      congr 1; omega
    rw [List.filterMap_cons, h2]; rfl
  | two l r ihl ihr =>
    intro h
    show (40 :: (l.text ++ (r.text ++ [41]))).filterMap digO = (r.leavesR ++ l.leavesR).reverse
    have e1 : digO 40 = none := rfl
    have e2 : digO 41 = none := rfl
    have h1 : l.text.filterMap digO = l.leavesR.reverse := ihl h.1
    have h2 : r.text.filterMap digO = r.leavesR.reverse := ihr h.2
    rw [List.filterMap_cons, e1, List.filterMap_append, List.filterMap_append, h1, h2, List.reverse_append]
    simp [List.filterMap_cons, e2]
theorem text_leaves : ∀ T : Tr, T.text.length + 2 = 3 * T.leavesR.length := by
  intro T
  induction T with
  | leaf p => rfl
  | two l r ihl ihr =>
    simp only [Tr.text, Tr.leavesR, List.length_cons, List.length_append, List.length_nil] at *
    omega
theorem leaves_le {T : Tr} (hok : T.ok) (hn : T.leavesR.Nodup) : T.leavesR.length ≤ 8 := by
  have hr : ∀ T : Tr, T.ok → ∀ x ∈ T.leavesR, 0 < x ∧ x ≤ 8 := by
    intro T
    induction T with
    | leaf p => intro h x hx; rw [List.mem_singleton.1 hx]; have h : 1 ≤ p ∧ p ≤ 8 := h; omega
    | two l r ihl ihr =>
      intro h x hx
      rcases List.mem_append.1 hx with q | q
      · exact ihr h.2 x q
      · exact ihl h.1 x q
  have hb : rowB (sortZ T.leavesR) = true := (rowB_sort _).2 ⟨fun e => by have := leavesR_pos T; rw [e] at this; simp at this, hr T hok, hn⟩
  obtain ⟨_, h1, h2⟩ := (rowB_iff _).1 hb
  rw [← sortZ_len]
  apply Classical.byContradiction
  intro hgt
  have hp := List.pairwise_iff_getElem.1 h2
  have h8 : ∀ k (hk : k < (sortZ T.leavesR).length), (k : Int) + 1 ≤ (sortZ T.leavesR)[k] := by
    intro k
    induction k with
    | zero => intro hk; have := (h1 _ (List.getElem_mem hk)).1; omega
    | succ k ih => intro hk; have := ih (by omega); have := hp k (k + 1) (by omega) hk (by omega); omega
  have := h8 8 (by omega)
  have := (h1 _ (List.getElem_mem (show 8 < (sortZ T.leavesR).length by omega))).2
  omega
theorem ofM_short {s : List UInt8} {T : Tr} (h : ofM s = some T) : s.length ≤ 22 := by
  obtain ⟨h1, h2⟩ := ofM_text h
  have := leaves_le h2 (ofM_nodup h)
  have := text_leaves T
  rw [h1]; omega
theorem nodup_loop (s : List UInt8) (xs : List Int) (hl : xs.length ≤ 1000000) : loopM (fun s196 : Int => gemotref13_Right.b1 s xs s196) (0 : Int) = some (if xs.Nodup then .inl () else .inr false) := by
  have go : ∀ k i, i + k = xs.length → (xs.take i).Nodup → loopM (fun s196 : Int => gemotref13_Right.b1 s xs s196) (i : Int) = some (if xs.Nodup then .inl () else .inr false) := by
    intro k
    induction k with
    | zero =>
      intro i hi h
      rw [List.take_of_length_le (by omega)] at h
      rw [if_pos h]
      refine loop_end ?_
      show gemotref13_Right.b1 s xs (i : Int) = _
      unfold gemotref13_Right.b1
      rw [cond_f (by omega)]
    | succ k ih =>
      intro i hi h
      have hil : i < xs.length := by omega
      have hs : slcM xs (0 : Int) (i : Int) = some (xs.take i) := by
        have := slc_lt (xs := xs) (a := 0) (b := i) (by omega) (by omega)
        simpa using this
      have hb : gemotref13_Right.b1 s xs (i : Int) = if xs[i] ∈ xs.take i then some (.inr (.inr false)) else some (.inl ((i + 1 : Nat) : Int)) := by
        unfold gemotref13_Right.b1
        rw [cond_t (by omega), hs, Option.bind_some, idxL_lt hil, Option.bind_some, rhas_eq _ _ (by rw [List.length_take]; omega), Option.bind_some]
        by_cases h : xs[i] ∈ xs.take i
        · rw [decide_eq_true h, if_pos h]; rfl
        · rw [decide_eq_false h, if_neg h, wrap1 i (by omega)]; rfl
      by_cases hm : xs[i] ∈ xs.take i
      · rw [if_neg]
        · refine loop_end ?_
          show gemotref13_Right.b1 s xs (i : Int) = _
          rw [hb, if_pos hm]
        · intro hn
          have e : xs = xs.take i ++ xs[i] :: xs.drop (i + 1) := by rw [List.getElem_cons_drop hil, List.take_append_drop]
          rw [e] at hn
          have := (List.nodup_append.1 hn).2.2 _ hm _ List.mem_cons_self
          exact this rfl
      · refine loop_step ?_ (ih (i + 1) (by omega) ?_)
        · show gemotref13_Right.b1 s xs (i : Int) = _
          rw [hb, if_neg hm]
        · rw [← take_snoc hil]
          refine List.nodup_append.2 ⟨h, by simp, fun a ha b hb => ?_⟩
          rw [List.mem_singleton.1 hb]
          intro e; rw [e] at ha; exact hm ha
  exact go xs.length 0 (by omega) (by simp)
theorem digits_len (s : List UInt8) : (digitsL s).length ≤ s.length := List.length_filterMap_le _ _
theorem right13 {s : List UInt8} (hl : s.length ≤ 1000000) : gemotref13_Right.f s = some (ofM s).isSome := by
  unfold gemotref13_Right.f
  have hdl := digits_len s
  rw [digits_eq s hl, Option.bind_some, nodup_loop s _ (by omega)]
  have hnone : ∀ b : Bool, (b = true → ∃ T, ofM s = some T) → (b = false → ofM s = none) → some b = some (ofM s).isSome := by
    intro b h1 h2
    cases b with
    | true => obtain ⟨T, h⟩ := h1 rfl; rw [h]; rfl
    | false => rw [h2 rfl]; rfl
  by_cases hn : (digitsL s).Nodup
  · rw [if_pos hn]
    show gemotref13_Right.k3 s = _
    unfold gemotref13_Right.k3
    by_cases h100 : s.length < 100
    · rw [show decide ((s.length : Int) < 100) = true from decide_eq_true (by omega), cond_true, show (0 : Int) = ((0 : Nat) : Int) from rfl, end13 hl (Nat.zero_le _), Option.bind_some]
      unfold gemotref13_Right.k2
      refine hnone _ (fun hb => ?_) (fun hb => ?_)
      · rw [cond_true] at hb
        have he : (rdN (s.length + 1) s 0 == (s.length : Int)) = true := by
          cases h : (rdN (s.length + 1) s 0 == (s.length : Int)) with
          | true => rfl
          | false => rw [h] at hb; cases hb
        have he := beq_iff_eq.1 he
        unfold rdN at he
        rw [List.drop_zero] at he
        cases hr : readM (s.length + 1) s with
        | none => rw [hr] at he; simp only at he; omega
        | some x =>
          obtain ⟨T, r⟩ := x
          rw [hr] at he
          simp only at he
          have hlen := readM_len _ _ _ _ hr
          have hr0 : r = [] := List.eq_nil_of_length_eq_zero (by omega)
          subst hr0
          obtain ⟨h1, h2⟩ := readM_text _ _ _ _ hr
          rw [List.append_nil] at h1
          refine ⟨T, ?_⟩
          rw [h1, ofM_iff h2, if_pos]
          rw [h1, digits_text T h2] at hn
          exact (List.reverse_perm _).nodup_iff.1 hn
      · cases ho : ofM s with
        | none => rfl
        | some T =>
          obtain ⟨h1, h2⟩ := ofM_text ho
          exfalso
          have hf := readM_full T [] (s.length + 1) h2 (by rw [← h1]; omega)
          rw [List.append_nil, ← h1] at hf
          have he : rdN (s.length + 1) s 0 = (s.length : Int) := by
            unfold rdN
            rw [List.drop_zero, hf]; simp
          have hpos : 0 < s.length := by have := text_leaves T; have := leavesR_pos T; rw [h1]; omega
          rw [he, cond_true, show (((s.length : Int)) == (s.length : Int)) = true from beq_self_eq_true _, cond_true, show decide ((s.length : Int) > ((0 : Nat) : Int)) = true from decide_eq_true (by omega)] at hb
          cases hb
    · rw [show decide ((s.length : Int) < 100) = false from decide_eq_false (by omega), cond_false]
      unfold gemotref13_Right.k2
      refine hnone _ (fun hb => by cases hb) (fun _ => ?_)
      cases ho : ofM s with
      | none => rfl
      | some T => have := ofM_short ho; omega
  · rw [if_neg hn]
    refine hnone false (fun h => by cases h) (fun _ => ?_)
    cases ho : ofM s with
    | none => rfl
    | some T =>
      obtain ⟨h1, h2⟩ := ofM_text ho
      exfalso
      apply hn
      rw [h1, digits_text T h2]
      exact (List.reverse_perm _).nodup_iff.2 (ofM_nodup ho)
theorem sortZ_is {xs ys : List Int} (h : xs.Perm ys) (hp : ys.Pairwise (· ≤ ·)) : sortZ xs = ys :=
  List.Perm.eq_of_pairwise (le := fun a b : Int => a ≤ b) (fun a b _ _ h1 h2 => Int.le_antisymm h1 h2) (sortZ_le xs) hp ((sortZ_perm xs).trans h)
theorem members13 {s : List UInt8} (hl : s.length ≤ 1000000) : gemotref13_Members.f s = some (membersM s) := by
  unfold gemotref13_Members.f membersM
  rw [right13 hl, Option.bind_some]
  cases ho : ofM s with
  | none => rfl
  | some T =>
    show cond (!true) _ _ = _
    rw [Bool.not_true, cond_false]
    obtain ⟨h1, h2⟩ := ofM_text ho
    have hdl := digits_len s
    have go : ∀ k i, i + k = 9 → 1 ≤ i → loopM (fun s547 : (List Int) × Int => gemotref13_Members.b2 s s547.1 s547.2) ((((List.range (i - 1)).map fun j : Nat => (j : Int) + 1).filter fun p => decide (p ∈ digitsL s)), (i : Int)) = some ((((List.range 8).map fun j : Nat => (j : Int) + 1).filter fun p => decide (p ∈ digitsL s))) := by
      intro k
      induction k with
      | zero =>
        intro i hi h
        obtain rfl : i = 9 := by omega
        refine loop_end ?_
        unfold gemotref13_Members.b2
        rfl
      | succ k ih =>
        intro i hi h
        refine loop_step ?_ (ih (i + 1) (by omega) (by omega))
        show gemotref13_Members.b2 s (((List.range (i - 1)).map fun j : Nat => (j : Int) + 1).filter fun p => decide (p ∈ digitsL s)) (i : Int) = _
        unfold gemotref13_Members.b2
        have hfl : ∀ q : List Int, q.length ≤ 8 → (q.filter fun p => decide (p ∈ digitsL s)).length ≤ 8 := fun q hq => Nat.le_trans (List.length_filter_le _ _) hq
        rw [cond_t (by omega), digits_eq s hl, Option.bind_some, rhas_eq _ _ (by omega), Option.bind_some]
        have hrg : ((List.range (i + 1 - 1)).map fun j : Nat => (j : Int) + 1) = ((List.range (i - 1)).map fun j : Nat => (j : Int) + 1) ++ [(i : Int)] := by
          rw [show i + 1 - 1 = (i - 1) + 1 by omega, List.range_succ, List.map_append]
          simp; omega
        rw [hrg, List.filter_append]
        by_cases hm : (i : Int) ∈ digitsL s
        · rw [decide_eq_true hm, cond_true, room_of (by have := hfl ((List.range (i - 1)).map fun j : Nat => (j : Int) + 1) (by simp; omega); omega)]
          unfold gemotref13_Members.k1
          rw [wrap1 i (by omega)]
          simp [hm]
        · rw [decide_eq_false hm, cond_false]
          unfold gemotref13_Members.k1
          rw [wrap1 i (by omega)]
          simp [hm]
    have hL : loopM (fun s547 : (List Int) × Int => gemotref13_Members.b2 s s547.1 s547.2) (([] : List Int), (1 : Int)) = some ((((List.range 8).map fun j : Nat => (j : Int) + 1).filter fun p => decide (p ∈ digitsL s))) := go 8 1 rfl (by omega)
    rw [hL, Option.bind_some]
    unfold gemotref13_Members.k3
    congr 1
    refine (sortZ_is ?_ ?_).symm
    · refine (List.perm_ext_iff_of_nodup (ofM_nodup ho) ?_).2 fun p => ?_
      · exact List.Pairwise.filter _ (show List.Pairwise (· ≠ ·) _ by decide)
      · rw [List.mem_filter, decide_eq_true_eq, h1, digits_text T h2, List.mem_reverse]
        constructor
        · intro hp
          refine ⟨?_, hp⟩
          have hr : rowB (sortZ T.leavesR) = true := by
            unfold ofM at ho
            split at ho
            · split at ho
              · rename_i hb; cases ho; exact hb
              · cases ho
            · cases ho
          have := ((rowB_sort _).1 hr).2.1 p hp
          have hx : p = 1 ∨ p = 2 ∨ p = 3 ∨ p = 4 ∨ p = 5 ∨ p = 6 ∨ p = 7 ∨ p = 8 := by omega
          show p ∈ [(0 : Int) + 1, 1 + 1, 2 + 1, 3 + 1, 4 + 1, 5 + 1, 6 + 1, 7 + 1]
          simpa using hx
        · intro h; exact h.2
    · exact List.Pairwise.filter _ (by decide)
theorem parts13 {l r : Tr} (h : (Tr.two l r).ok) (hl : (Tr.two l r).text.length ≤ 1000000) : gemotref13_Parts.f (Tr.two l r).text = some (l.text, r.text) := by
  unfold gemotref13_Parts.f
  have hlen : (Tr.two l r).text.length = l.text.length + r.text.length + 2 := by simp only [Tr.text, List.length_cons, List.length_append, List.length_nil]; omega
  have he : rdN ((Tr.two l r).text.length + 1) (Tr.two l r).text 1 = ((1 + l.text.length : Nat) : Int) := by
    unfold rdN
    have e : (Tr.two l r).text.drop 1 = l.text ++ (r.text ++ [41]) := rfl
    rw [e, readM_full l _ _ h.1 (by omega)]
    simp only [List.length_append, List.length_cons, List.length_nil]
    congr 1; omega
  rw [show (1 : Int) = ((1 : Nat) : Int) from rfl, end13 hl (by omega), Option.bind_some, he, slc_lt (by omega) (by omega), Option.bind_some, show IntKind.i64.wrap (((Tr.two l r).text.length : Int) - ((1 : Nat) : Int)) = ((1 + l.text.length + r.text.length : Nat) : Int) by rw [Eng.i64_id (by omega) (by omega)]; omega, slc_lt (by omega) (by omega), Option.bind_some]
  have e1 : ((Tr.two l r).text.drop 1).take (1 + l.text.length - 1) = l.text := by
    have e : (Tr.two l r).text.drop 1 = l.text ++ (r.text ++ [41]) := rfl
    rw [e, show 1 + l.text.length - 1 = l.text.length by omega, List.take_left]
  have e2 : ((Tr.two l r).text.drop (1 + l.text.length)).take (1 + l.text.length + r.text.length - (1 + l.text.length)) = r.text := by
    have e : (Tr.two l r).text.drop 1 = l.text ++ (r.text ++ [41]) := rfl
    rw [← List.drop_drop, e, List.drop_left, show 1 + l.text.length + r.text.length - (1 + l.text.length) = r.text.length by omega, List.take_left]
  rw [e1, e2]
end Go.Proofs.Ytgomlcfoifkdiaa.G
