/- BlindClimbs, as it is reckoned. -/
import Derived.Test.YtgomlcfoifkdiaaGreatClimbQ
namespace Go.Proofs.YtgomlcfoifkdiaaGreat.G
open Go.RowKit Go.Eng Go.Proofs Go.Proofs.YtgomlcfoifkdiaaGreat.Cut
set_option linter.unusedVariables false
set_option linter.unusedSimpArgs false

theorem secret_leaf {m : List Int} {s : List (List UInt8)} {p : Int} {i : Nat} (self : (List UInt8) → (List Int) → (List (List UInt8)) → Option ((List UInt8) × Int)) (hok : 1 ≤ p ∧ p ≤ 8) (hml : m.length ≤ 1000) (hn : m.Nodup) (hi : m[i]? = some p) {x : List UInt8} (hx : s[i]? = some x) : gemotref15_secret.step self (Tr.leaf p).text m s = some (x, 0) := by
  obtain ⟨hil, hie⟩ := List.getElem?_eq_some_iff.1 hi
  have hd : idxS (Tr.leaf p).text (0 : Int) = some (((UInt8.ofNat (p.toNat + 48)).toNat : Nat) : Int) := rfl
  have e : (UInt8.ofNat (p.toNat + 48)).toNat = p.toNat + 48 := by rw [UInt8.toNat_ofNat']; omega
  have hw : IntKind.i64.wrap (IntKind.u8.wrap ((((UInt8.ofNat (p.toNat + 48)).toNat : Nat) : Int) - 48)) = p := by
    have e8 : ∀ x : Int, IntKind.u8.wrap x = x % 256 := fun x => by simp [IntKind.wrap, IntKind.bits, IntKind.signed]
    rw [e, e8, Eng.i64_id (by omega) (by omega)]
    omega
  have go : ∀ k j, j + k = i → loopM (fun s161 : Int => gemotref15_secret.b1 self (Tr.leaf p).text m s s161) (j : Int) = some (.inr (x, 0)) := by
    intro k
    induction k with
    | zero =>
      intro j hj
      obtain rfl : j = i := by omega
      refine loop_end ?_
      show gemotref15_secret.b1 self (Tr.leaf p).text m s (j : Int) = _
      unfold gemotref15_secret.b1
      rw [cond_t (by omega), idxL_lt hil, Option.bind_some, hd, Option.bind_some, hw, hie, show (p == p) = true from beq_self_eq_true p, cond_true, idxL_nat, hx]
      rfl
    | succ k ih =>
      intro j hj
      have hjl : j < m.length := by omega
      have hne : m[j] ≠ p := by
        intro h
        have := (List.getElem_inj hn).1 (h.trans hie.symm)
        omega
      refine loop_step ?_ (ih (j + 1) (by omega))
      show gemotref15_secret.b1 self (Tr.leaf p).text m s (j : Int) = _
      unfold gemotref15_secret.b1
      rw [cond_t (by omega), idxL_lt hjl, Option.bind_some, hd, Option.bind_some, hw, show (m[j] == p) = false from beq_eq_false_iff_ne.2 hne, cond_false, wrap1 j (by omega)]
  unfold gemotref15_secret.step
  rw [show (((Tr.leaf p).text.length : Int) == 1) = true from rfl, cond_true, show loopM (fun s161 : Int => gemotref15_secret.b1 self (Tr.leaf p).text m s s161) (0 : Int) = _ from go i 0 (by omega)]
  rfl
theorem root_both {m : List Int} {s : List (List UInt8)} (hml : m.length ≤ 1000) (hn : m.Nodup) (hs : s.length = m.length) (hb : ∀ x ∈ s, x.length ≤ 20000) : ∀ (T : Tr), T.ok → T.text.length ≤ 1000000 → (∀ p ∈ T.leavesR, p ∈ m) → ∃ r, rootT m s T = some r ∧ r.1.length ≤ 20000 ∧ ∀ M, T.leavesR.length ≤ M → gemotref15_secret.g M T.text m s = some r
  | .leaf p, hok, hl, hp => by
    have hpm := hp p (by simp [Tr.leavesR])
    obtain ⟨i, h1, h2, h3⟩ := index_eq m p (by omega) hpm
    have hil : i < s.length := by omega
    refine ⟨(s[i], 0), ?_, hb _ (List.getElem_mem hil), fun M hM => ?_⟩
    · show (slices_Index_int_int.f m p).bind _ = _
      rw [h3, Option.bind_some, idxL_lt hil]; rfl
    · obtain ⟨k, rfl⟩ : ∃ k, M = k + 1 := ⟨M - 1, by simp [Tr.leavesR] at hM; omega⟩
      exact secret_leaf (gemotref15_secret.g k) hok hml hn h2 (List.getElem?_eq_getElem hil)
  | .two l r, hok, hl, hp => by
    have htl : (Tr.two l r).text.length = l.text.length + r.text.length + 2 := by simp only [Tr.text, List.length_cons, List.length_append, List.length_nil]; omega
    have h4 := two_len l r
    have hl1 := leavesR_pos l
    have hr1 := leavesR_pos r
    obtain ⟨a, a1, a2, a3⟩ := root_both hml hn hs hb l hok.1 (by omega) (fun p h => hp p (by rw [leavesR_two]; exact List.mem_append_right _ h))
    obtain ⟨b, b1, b2, b3⟩ := root_both hml hn hs hb r hok.2 (by omega) (fun p h => hp p (by rw [leavesR_two]; exact List.mem_append_left _ h))
    obtain ⟨e, e1, e2, e3⟩ := relem_eq (x := a.1) (by omega)
    obtain ⟨v, v1, v2, v3⟩ := rabove_eq (x := b.1) (y := e.1) (by omega) (by omega)
    have hroot : rootT m s (Tr.two l r) = (rootT m s l).bind fun a => if a.2 ≠ 0 then some ([], a.2) else (rootT m s r).bind fun b => if b.2 ≠ 0 then some ([], b.2) else
      (blind_Element.f a.1).bind fun e => if e.2 ≠ 0 then some ([], e.2) else blind_Above.f b.1 e.1 := rfl
    have hsec : ∀ M, (Tr.two l r).leavesR.length ≤ M → gemotref15_secret.g M (Tr.two l r).text m s = cond (a.2 != (0 : Int)) (some (([] : List UInt8), a.2)) (cond (b.2 != (0 : Int)) (some (([] : List UInt8), b.2)) (cond (e.2 != (0 : Int)) (some (([] : List UInt8), e.2)) (some v))) := by
      intro M hM
      rw [leavesR_two, List.length_append] at hM
      obtain ⟨k, rfl⟩ : ∃ k, M = k + 1 := ⟨M - 1, by omega⟩
      show gemotref15_secret.step (gemotref15_secret.g k) (Tr.two l r).text m s = _
      unfold gemotref15_secret.step
      rw [show (((Tr.two l r).text.length : Int) == 1) = false from beq_eq_false_iff_ne.2 (by omega), cond_false]
      unfold gemotref15_secret.k2
      rw [parts13 hok hl, Option.bind_some]
      simp only
      rw [a3 k (by omega), Option.bind_some, b3 k (by omega), Option.bind_some, e2, Option.bind_some, v2, Option.bind_some]
    rw [hroot, a1, Option.bind_some]
    by_cases ha : a.2 = 0
    · rw [if_neg (fun h => h ha), b1, Option.bind_some]
      rw [show (a.2 != (0 : Int)) = false by simpa using ha] at hsec
      by_cases hbb : b.2 = 0
      · rw [if_neg (fun h => h hbb), e1, Option.bind_some]
        rw [show (b.2 != (0 : Int)) = false by simpa using hbb] at hsec
        by_cases he : e.2 = 0
        · rw [if_neg (fun h => h he), v1]
          rw [show (e.2 != (0 : Int)) = false by simpa using he] at hsec
          exact ⟨v, rfl, v3, hsec⟩
        · rw [if_pos he]
          rw [show (e.2 != (0 : Int)) = true by simpa using he] at hsec
          exact ⟨_, rfl, by simp, hsec⟩
      · rw [if_pos hbb]
        rw [show (b.2 != (0 : Int)) = true by simpa using hbb] at hsec
        exact ⟨_, rfl, by simp, hsec⟩
    · rw [if_pos ha]
      rw [show (a.2 != (0 : Int)) = true by simpa using ha] at hsec
      exact ⟨_, rfl, by simp, hsec⟩
theorem root_eq {t : List UInt8} {s : List (List UInt8)} (ht : t.length ≤ 900000) (hs : s.length ≤ 1000) (hb : ∀ x ∈ s, x.length ≤ 20000) : ∃ r, blind_Root.f t s = some r ∧ gemotref15_Root.f t s = some r := by
  unfold blind_Root.f gemotref15_Root.f
  rw [given_of ⟨ht, by omega⟩, members13 (by omega), Option.bind_some]
  by_cases hc : (membersM t).length = 0 ∨ (membersM t).length ≠ s.length
  · rw [if_pos hc]
    refine ⟨_, rfl, ?_⟩
    rw [show (cond (((membersM t).length : Int) == 0) true (((membersM t).length : Int) != (s.length : Int))) = true by
      rcases hc with h | h
      · rw [show (((membersM t).length : Int) == 0) = true from beq_iff_eq.2 (by omega)]; rfl
      · rw [show (((membersM t).length : Int) != (s.length : Int)) = true from bne_iff_ne.2 (by omega)]
        cases (((membersM t).length : Int) == 0) <;> rfl]
    rfl
  · rw [if_neg hc]
    have h1 : (membersM t).length ≠ 0 := fun h => hc (.inl h)
    have h2 : (membersM t).length = s.length := Classical.byContradiction fun h => hc (.inr h)
    rw [show (cond (((membersM t).length : Int) == 0) true (((membersM t).length : Int) != (s.length : Int))) = false by
      rw [show (((membersM t).length : Int) == 0) = false from beq_eq_false_iff_ne.2 (by omega), show (((membersM t).length : Int) != (s.length : Int)) = false by rw [h2]; simp]; rfl]
    cases ho : ofM t with
    | none => exact absurd (by unfold membersM; rw [ho]; rfl) h1
    | some T =>
      obtain ⟨g1, g2⟩ := ofM_text ho
      have hm : membersM t = sortZ T.leavesR := by unfold membersM; rw [ho]
      obtain ⟨r, r1, _, r2⟩ := root_both (m := membersM t) (s := s) (by omega) (by rw [hm]; exact (sortZ_perm _).nodup_iff.2 (ofM_nodup ho)) h2.symm hb T g2 (by rw [← g1]; omega) (fun p hp => by rw [hm]; exact (sortZ_perm _).mem_iff.2 hp)
      refine ⟨r, r1, ?_⟩
      rw [cond_false]
      have : gemotref15_secret.f t (membersM t) s = some r := rec_of T.leavesR.length (fun M hM => by rw [g1] at r2 ⊢; exact r2 M hM)
      rw [this]; rfl
theorem same15 (a : List (List UInt8)) (hl : a.length ≤ 1000000) : gemotlaw15_same.f a a = some true := by
  have go : ∀ k i, i + k = a.length → loopM (fun s146 : Int => gemotlaw15_same.b1 a a s146) (i : Int) = some (.inl ()) := by
    intro k
    induction k with
    | zero =>
      intro i hi
      refine loop_end ?_
      show gemotlaw15_same.b1 a a (i : Int) = _
      unfold gemotlaw15_same.b1
      rw [cond_f (by omega)]
    | succ k ih =>
      intro i hi
      have hil : i < a.length := by omega
      refine loop_step ?_ (ih (i + 1) (by omega))
      show gemotlaw15_same.b1 a a (i : Int) = _
      unfold gemotlaw15_same.b1
      rw [cond_t (by omega), idxL_lt hil, Option.bind_some, Option.bind_some, strEq_eq, decide_eq_true rfl, wrap1 i (by omega)]; rfl
  unfold gemotlaw15_same.f
  rw [show ((a.length : Int) != (a.length : Int)) = false by simp, cond_false, show loopM (fun s146 : Int => gemotlaw15_same.b1 a a s146) (0 : Int) = _ from go a.length 0 (by omega)]
  rfl
theorem climbs_eq (x0 : List UInt8) (x1 : Int) (x2 : List UInt8) (x3 : List D_blind_Blind) (x4 : List (List UInt8)) : gemotlaw15_BlindClimbs.f x0 x1 x2 x3 x4 = some true := by
  unfold gemotlaw15_BlindClimbs.f
  rw [shown15, Option.bind_some]
  by_cases g0 : x0.length > 90
  · rw [show decide ((x0.length : Int) > 90) = true from decide_eq_true (by omega)]; rfl
  by_cases g1 : x2.length > 500
  · rw [show decide ((x2.length : Int) > 500) = true from decide_eq_true (by omega)]; simp
  by_cases g2 : x3.length > 20
  · rw [show decide ((x3.length : Int) > 20) = true from decide_eq_true (by omega)]; simp
  by_cases g3 : x4.length > 10
  · rw [show decide ((x4.length : Int) > 10) = true from decide_eq_true (by omega)]; simp
  rw [show decide ((x0.length : Int) > 90) = false from decide_eq_false (by omega), show decide ((x2.length : Int) > 500) = false from decide_eq_false (by omega), show decide ((x3.length : Int) > 20) = false from decide_eq_false (by omega), show decide ((x4.length : Int) > 10) = false from decide_eq_false (by omega)]
  show (loopM (fun s303 : (List D_gemotref15_Blind) × Int => gemotlaw15_BlindClimbs.b1 x0 x1 x2 x3 x4 s303.1 s303.2) (([] : List D_gemotref15_Blind), (0 : Int))).bind _ = _
  have go1 : ∀ k i, i + k = x3.length → loopM (fun s303 : (List D_gemotref15_Blind) × Int => gemotlaw15_BlindClimbs.b1 x0 x1 x2 x3 x4 s303.1 s303.2) (x3.take i, (i : Int)) = some (if ∀ b ∈ x3.drop i, b.2.length ≤ 500 then .inl x3 else .inr true) := by
    intro k
    induction k with
    | zero =>
      intro i hi
      refine loop_end ?_
      show gemotlaw15_BlindClimbs.b1 x0 x1 x2 x3 x4 (x3.take i) (i : Int) = _
      unfold gemotlaw15_BlindClimbs.b1
      rw [cond_f (by omega), List.drop_of_length_le (by omega), if_pos (by simp), List.take_of_length_le (by omega)]
    | succ k ih =>
      intro i hi
      have hil : i < x3.length := by omega
      rw [List.drop_eq_getElem_cons hil]
      by_cases hb : x3[i].2.length ≤ 500
      · have e : (∀ b ∈ x3[i] :: x3.drop (i + 1), b.2.length ≤ 500) ↔ ∀ b ∈ x3.drop (i + 1), b.2.length ≤ 500 := by
          rw [List.forall_mem_cons]
          exact ⟨fun h => h.2, fun h => ⟨hb, h⟩⟩
        have ih := ih (i + 1) (by omega)
        simp only [e]
        refine loop_step ?_ ih
        show gemotlaw15_BlindClimbs.b1 x0 x1 x2 x3 x4 (x3.take i) (i : Int) = _
        unfold gemotlaw15_BlindClimbs.b1
        rw [cond_t (by omega), idxL_lt hil, Option.bind_some, cond_f (by omega), Option.bind_some, Option.bind_some, room_of (by rw [List.length_take]; omega), wrap1 i (by omega), ← take_snoc hil]
      · rw [if_neg (fun h => hb (h _ List.mem_cons_self))]
        refine loop_end ?_
        show gemotlaw15_BlindClimbs.b1 x0 x1 x2 x3 x4 (x3.take i) (i : Int) = _
        unfold gemotlaw15_BlindClimbs.b1
        rw [cond_t (by omega), idxL_lt hil, Option.bind_some, cond_t (by omega)]
  have h1 := go1 x3.length 0 (by omega)
  rw [List.take_zero] at h1
  rw [show loopM (fun s303 : (List D_gemotref15_Blind) × Int => gemotlaw15_BlindClimbs.b1 x0 x1 x2 x3 x4 s303.1 s303.2) (([] : List D_gemotref15_Blind), (0 : Int)) = _ from h1, List.drop_zero]
  by_cases hb3 : ∀ b ∈ x3, b.2.length ≤ 500
  · rw [if_pos hb3]
    show gemotlaw15_BlindClimbs.k4 x0 x1 x2 x3 x4 x3 = _
    unfold gemotlaw15_BlindClimbs.k4
    have go2 : ∀ k i, i + k = x4.length → loopM (fun s574 : (List (List UInt8)) × Int => gemotlaw15_BlindClimbs.b2 x0 x1 x2 x3 x4 x3 s574.1 s574.2) (x4.take i, (i : Int)) = some (if ∀ b ∈ x4.drop i, b.length ≤ 500 then .inl x4 else .inr true) := by
      intro k
      induction k with
      | zero =>
        intro i hi
        refine loop_end ?_
        show gemotlaw15_BlindClimbs.b2 x0 x1 x2 x3 x4 x3 (x4.take i) (i : Int) = _
        unfold gemotlaw15_BlindClimbs.b2
        rw [cond_f (by omega), List.drop_of_length_le (by omega), if_pos (by simp), List.take_of_length_le (by omega)]
      | succ k ih =>
        intro i hi
        have hil : i < x4.length := by omega
        rw [List.drop_eq_getElem_cons hil]
        by_cases hb : x4[i].length ≤ 500
        · have e : (∀ b ∈ x4[i] :: x4.drop (i + 1), b.length ≤ 500) ↔ ∀ b ∈ x4.drop (i + 1), b.length ≤ 500 := by
            rw [List.forall_mem_cons]
            exact ⟨fun h => h.2, fun h => ⟨hb, h⟩⟩
          have ih := ih (i + 1) (by omega)
          simp only [e]
          refine loop_step ?_ ih
          show gemotlaw15_BlindClimbs.b2 x0 x1 x2 x3 x4 x3 (x4.take i) (i : Int) = _
          unfold gemotlaw15_BlindClimbs.b2
          rw [cond_t (by omega), idxL_lt hil, Option.bind_some, cond_f (by omega), Option.bind_some, room_of (by rw [List.length_take]; omega), wrap1 i (by omega), ← take_snoc hil]
        · rw [if_neg (fun h => hb (h _ List.mem_cons_self))]
          refine loop_end ?_
          show gemotlaw15_BlindClimbs.b2 x0 x1 x2 x3 x4 x3 (x4.take i) (i : Int) = _
          unfold gemotlaw15_BlindClimbs.b2
          rw [cond_t (by omega), idxL_lt hil, Option.bind_some, cond_t (by omega)]
    have h2 := go2 x4.length 0 (by omega)
    rw [List.take_zero] at h2
    rw [show loopM (fun s574 : (List (List UInt8)) × Int => gemotlaw15_BlindClimbs.b2 x0 x1 x2 x3 x4 x3 s574.1 s574.2) (([] : List (List UInt8)), (0 : Int)) = _ from h2, List.drop_zero]
    by_cases hb4 : ∀ b ∈ x4, b.length ≤ 500
    · rw [if_pos hb4]
      show gemotlaw15_BlindClimbs.k3 x0 x1 x2 x3 x4 x3 x4 = _
      unfold gemotlaw15_BlindClimbs.k3
      obtain ⟨r, r1, r2⟩ := root_eq (t := x0) (s := x4) (by omega) (by omega) (fun x hx => by have := hb4 x hx; omega)
      obtain ⟨c, c1, c2, c3⟩ := climb_eq (s := x0) (own := x2) (p := x1) (l := x3) (by omega) (by omega) (by omega) (fun b hb => by have := hb3 b hb; omega)
      rw [r1, Option.bind_some, r2, Option.bind_some, c1, Option.bind_some, c2, Option.bind_some, same15 c (by omega), Option.bind_some]
      simp [strEq_eq]
    · rw [if_neg hb4]; rfl
  · rw [if_neg hb3]; rfl
theorem climbs_row {ok : Nat → Prop} {w : World} {u1 u6 : Value} {x0 : List UInt8} {x1 : Int} {x2 : List UInt8} {x3 : List D_blind_Blind} {x4 : List (List UInt8)} (h3 : slR t_blind_Blind w ok u1 x3) (h4 : slR tStr w ok u6 x4) :
    Calls Tryz.prog 3 #[.string (bs x0), .int .i64 x1, .string (bs x2), u1, u6] w fun e w' => ∃ r, e = .returned r ∧ r = .bool true ∧ Below w.heap.size w w' :=
  (gemotlaw15_BlindClimbs_ok h3 h4 (climbs_eq x0 x1 x2 x3 x4)).mono fun e w' ⟨v, h1, h2, h3⟩ => ⟨v, h1, h2, h3.toBelow⟩
end Go.Proofs.YtgomlcfoifkdiaaGreat.G
