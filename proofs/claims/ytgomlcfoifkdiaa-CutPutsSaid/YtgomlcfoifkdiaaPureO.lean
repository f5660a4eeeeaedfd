/- The program's scan reads as the spec says. -/
import Derived.Test.YtgomlcfoifkdiaaPureN
namespace Go.Proofs.Ytgomlcfoifkdiaa.G
open Go.RowKit Go.Eng Go.Proofs Go.Proofs.Ytgomlcfoifkdiaa.Cut
set_option linter.unusedVariables false
set_option linter.unusedSimpArgs false

/-! The program's scan reads as the spec says. -/
theorem loop_unroll {S O : Type} (body : S → Option (S ⊕ O)) (s : S) : loopM body s = (body s).bind (Sum.elim (loopM body) some) := by
  have key : ∀ o, loopM body s = some o → (body s).bind (Sum.elim (loopM body) some) = some o := by
    intro o h
    obtain ⟨n, hn⟩ := loopS h
    obtain ⟨k, rfl, q, hq, h2⟩ := iterS hn
    rw [hq, Option.bind_some]
    cases q with
    | inl s' => exact loop_of k h2
    | inr o' => exact congrArg some h2
  cases h : loopM body s with
  | some o => exact (key o h).symm
  | none =>
    cases h2 : (body s).bind (Sum.elim (loopM body) some) with
    | none => rfl
    | some o =>
      exfalso
      obtain ⟨q, hq, h3⟩ := bindS h2
      cases q with
      | inl s' => rw [loop_step hq h3] at h; cases h
      | inr o' => rw [loop_end hq] at h; cases h
set_option maxHeartbeats 1000000 in
theorem scan1_topP (x0 : List UInt8) (a n : Int) (E fr : Nat) (hE : a + n = (E : Int)) (hEl : E ≤ x0.length) (hfr : fr ≤ E) (hb : x0.length ≤ 140737488355328) (st : List D_term_open) (hst : st.length ≤ 1000) (l dp d : Nat) (hl : 0 < l) (hl2 : l ≤ 1000) (hd : d ≤ 1000) (hdp : dp ≤ 1000) (p : Bool) (la : List UInt8) :
    term_scan.b1 x0 a n (st ++ [((l : Int), (dp : Int), p, (fr : Int), la)]) (d : Int) = if (p && strLt ((x0.drop fr).take (E - fr)) la) = true then some (.inr (Sum.inr ((0 : Int), (0 : Int), (2 : Int)))) else if 1 < l then some (.inr (Sum.inl (st ++ [(((l - 1 : Nat) : Int), ((max dp d : Nat) : Int), p, (E : Int), (x0.drop fr).take (E - fr))]))) else some (.inl (st, ((max dp d + 1 : Nat) : Int))) := by
  unfold term_scan.b1
  have hlen : ∀ o : D_term_open, (st ++ [o]).length = st.length + 1 := fun o => by simp
  have e0 : ∀ o : D_term_open, (((st ++ [o]).length : Int) == (0 : Int)) = false := fun o => beq_eq_false_iff_ne.2 (by rw [hlen]; omega)
  have e1 : ∀ o : D_term_open, IntKind.i64.wrap (((st ++ [o]).length : Int) - (1 : Int)) = (st.length : Int) := fun o => by rw [hlen, Eng.i64_id (by omega) (by omega)]; omega
  have eg : ∀ o : D_term_open, idxL (st ++ [o]) (st.length : Int) = some o := fun o => by rw [idxL_nat]; simp
  have es : ∀ o x : D_term_open, (st ++ [o]).set st.length x = st ++ [x] := fun o x => by rw [List.set_append_right _ _ (Nat.le_refl _)]; simp
  have e2 : IntKind.i64.wrap (a + n) = (E : Int) := by rw [hE, Eng.i64_id (by omega) (by omega)]
  have e3 : IntKind.i64.wrap ((l : Int) - (1 : Int)) = ((l - 1 : Nat) : Int) := by rw [Eng.i64_id (by omega) (by omega)]; omega
  have e4 : maxI (dp : Int) (d : Int) = ((max dp d : Nat) : Int) := by unfold maxI; split <;> omega
  have e5 : IntKind.i64.wrap (((max dp d : Nat) : Int) + (1 : Int)) = ((max dp d + 1 : Nat) : Int) := by rw [Eng.i64_id (by omega) (by omega)]; omega
  rw [e0, cond_false, e1, Option.bind_some, eg, Option.bind_some]
  simp only [e2, slc_lt hfr hEl, Option.bind_some, e3, e4, e5, Int.toNat_natCast, es, e1]
  have ec : (cond p (strLt ((x0.drop fr).take (E - fr)) la) false) = (p && strLt ((x0.drop fr).take (E - fr)) la) := by cases p <;> rfl
  rw [ec]
  cases hc : (p && strLt ((x0.drop fr).take (E - fr)) la) with
  | true => rw [cond_true, if_pos rfl]
  | false =>
    rw [cond_false, if_neg (by decide)]
    by_cases h : 1 < l
    · rw [if_pos h, cond_t (by omega)]
    · rw [if_neg h, cond_f (by omega)]
      have : slcM (st ++ [(((l - 1 : Nat) : Int), ((max dp d : Nat) : Int), p, (E : Int), (x0.drop fr).take (E - fr))]) (0 : Int) (st.length : Int) = some st := by
        rw [show (0 : Int) = ((0 : Nat) : Int) from rfl, slc_lt (Nat.zero_le _) (by simp)]
        simp
      rw [this]; rfl
theorem scan1_nilP (x0 : List UInt8) (a n d : Int) (E : Nat) (hE : a + n = (E : Int)) (hb : E ≤ 140737488355328) : term_scan.b1 x0 a n [] d = some (.inr (Sum.inr ((E : Int), d, (0 : Int)))) := by
  unfold term_scan.b1
  rw [show (((([] : List D_term_open).length : Int)) == (0 : Int)) = true from rfl, cond_true, hE, Eng.i64_id (by omega) (by omega)]
/-- The rest, behind a term that ends there. -/
noncomputable def afterM (s : List UInt8) (a n : Int) (E : Nat) (st : List D_term_open) (d : Nat) : Option (Int × Int × Int) :=
  (loopM (fun q : (List D_term_open) × Int => term_scan.b1 s a n q.1 q.2) (st, (d : Int))).bind (Sum.elim (fun st' => loopM (fun q : (List D_term_open) × Int => term_scan.b2 s q.1 q.2) (st', (E : Int))) some)
theorem b1_same (s : List UInt8) (a n a' n' : Int) (h : a + n = a' + n') : term_scan.b1 s a n = term_scan.b1 s a' n' := by
  funext st d
  unfold term_scan.b1
  rw [h]
theorem afterM_same {s : List UInt8} {a n a' n' : Int} (E : Nat) (st : List D_term_open) (d : Nat) (h : a + n = a' + n') : afterM s a n E st d = afterM s a' n' E st d := by
  unfold afterM
  rw [b1_same s a n a' n' h]
def errC (e : Int) : Int := if e = -2 then 4 else 2
/-- What comes of the reading of a term with so many open ones. -/
noncomputable def goM (s : List UInt8) (st : List D_term_open) (r : Int × Int) : Option (Int × Int × Int) :=
  if r.1 < 0 then some ((0 : Int), (0 : Int), errC r.1) else afterM s r.1 0 r.1.toNat st r.2.toNat
noncomputable def scanL (s : List UInt8) (st : List D_term_open) (a : Nat) : Option (Int × Int × Int) := loopM (fun q : (List D_term_open) × Int => term_scan.b2 s q.1 q.2) (st, (a : Int))
theorem after_top {s : List UInt8} {E fr : Nat} (hEl : E ≤ s.length) (hfr : fr ≤ E) (hb : s.length ≤ 140737488355328) {st : List D_term_open} (hst : st.length ≤ 1000) {l dp d : Nat} (hl : 0 < l) (hl2 : l ≤ 1000) (hd : d ≤ 1000) (hdp : dp ≤ 1000) (p : Bool) (la : List UInt8) :
    afterM s (E : Int) 0 E (st ++ [((l : Int), (dp : Int), p, (fr : Int), la)]) d = if (p && strLt ((s.drop fr).take (E - fr)) la) = true then some ((0 : Int), (0 : Int), (2 : Int)) else if 1 < l then scanL s (st ++ [(((l - 1 : Nat) : Int), ((max dp d : Nat) : Int), p, (E : Int), (s.drop fr).take (E - fr))]) E else afterM s (E : Int) 0 E st (max dp d + 1) := by
  conv => lhs; unfold afterM
  rw [loop_unroll]
  have h := scan1_topP s (E : Int) 0 E fr (by omega) hEl hfr hb st hst l dp d hl hl2 hd hdp p la
  show ((term_scan.b1 s (E : Int) 0 (st ++ [((l : Int), (dp : Int), p, (fr : Int), la)]) (d : Int)).bind _).bind _ = _
  rw [h]
  by_cases h1 : (p && strLt ((s.drop fr).take (E - fr)) la) = true
  · rw [if_pos h1, if_pos h1]; rfl
  · rw [if_neg h1, if_neg h1]
    by_cases h2 : 1 < l
    · rw [if_pos h2, if_pos h2]; rfl
    · rw [if_neg h2, if_neg h2]; rfl
theorem leaf_ne0 {c : UInt8} {r : List UInt8} (h : leafN c r ≠ 0) : (((leafN c r : Nat) : Int) == (0 : Int)) = false := beq_eq_false_iff_ne.2 (by omega)
theorem scan_many {s : List UInt8} (hb : s.length ≤ 140737488355328) {left : Nat} (hleft : left ≤ 400) {p : Bool}
    (ih : ∀ (st : List D_term_open) (k : Nat), st.length + left = 400 → k ≤ s.length → scanL s st k = goM s st (specE s left k)) :
    ∀ (m k : Nat) (last : List UInt8) (d : Nat) (st : List D_term_open), 0 < m → m ≤ 32 → st.length + 1 + left = 400 → k ≤ s.length → d ≤ left →
    scanL s (st ++ [((m : Int), (d : Int), p, (k : Int), last)]) k = goM s st (manyF (specE s left) s p m k last d)
  | 0, k, last, d, st, h, _, _, _, _ => by omega
  | m + 1, k, last, d, st, _, hm, hst, hk, hd => by
    rw [ih (st ++ [(((m + 1 : Nat) : Int), (d : Int), p, (k : Int), last)]) k (by rw [List.length_append]; simpa using hst) hk]
    unfold manyF
    conv => lhs; unfold goM
    by_cases hn : (specE s left k).1 < 0
    · rw [if_pos hn, if_pos hn]
      unfold goM; rw [if_pos hn]
    · rw [if_neg hn, if_neg hn]
      have hle := specE_le s left k (by omega)
      have hdep := specE_depth s left k
      obtain ⟨E, hE⟩ : ∃ E : Nat, (specE s left k).1 = (E : Int) := ⟨(specE s left k).1.toNat, by omega⟩
      rw [hE] at hle ⊢
      rw [Int.toNat_natCast, after_top (by omega) (by omega) hb (by omega) (by omega) (by omega) (by omega) (by omega)]
      by_cases hp : (p && strLt ((s.drop k).take (E - k)) last) = true
      · rw [if_pos hp, if_pos hp]; rfl
      · rw [if_neg hp, if_neg hp]
        by_cases h1 : 1 < m + 1
        · rw [if_pos h1, Nat.add_sub_cancel]
          exact scan_many hb hleft ih m E _ _ st (by omega) (by omega) hst (by omega) (by omega)
        · rw [if_neg h1]
          obtain rfl : m = 0 := by omega
          have e : manyF (specE s left) s p 0 E ((s.drop k).take (E - k)) (max d (specE s left k).2.toNat) = ((E : Int), ((max d (specE s left k).2.toNat + 1 : Nat) : Int)) := rfl
          rw [e]
          unfold goM
          rw [if_neg (show ¬ ((E : Int), ((max d (specE s left k).2.toNat + 1 : Nat) : Int)).1 < 0 by simp only; omega)]
          simp only [Int.toNat_natCast]
theorem scan_go {s : List UInt8} (hb : s.length ≤ 140737488355328) : ∀ (left : Nat) (st : List D_term_open) (k : Nat), st.length + left = 400 → k ≤ s.length → scanL s st k = goM s st (specE s left k)
  | 0, st, k, hst, hk => by
    unfold scanL
    rw [loop_unroll]
    show (term_scan.b2 s st (k : Int)).bind _ = _
    unfold term_scan.b2
    rw [show ((st.length : Int) == (400 : Int)) = true by simp; omega]
    rfl
  | left + 1, st, k, hst, hk => by
    have ih := scan_go hb left
    rw [specE_succ]
    conv => lhs; unfold scanL
    rw [loop_unroll]
    show (term_scan.b2 s st (k : Int)).bind _ = _
    unfold term_scan.b2
    rw [show ((st.length : Int) == (400 : Int)) = false from beq_eq_false_iff_ne.2 (by omega), cond_false]
    cases hd : s.drop k with
    | nil =>
      have : s.length ≤ k := by have := congrArg List.length hd; simp at this; omega
      rw [cond_t (by omega)]; rfl
    | cons c r =>
      have hl := (drop_at hd).2
      have hlf := leafN_le c r
      rw [cond_f (by omega), slc_to hk, Option.bind_some, hd, leaf_eq, Option.bind_some]
      simp only
      by_cases h0 : leafN c r ≠ 0
      · rw [leaf_ne0 h0, cond_false, if_pos h0]
        unfold goM
        rw [if_neg (show ¬ ((((k + leafN c r : Nat) : Int), (1 : Int)).1 < 0) by simp only; omega)]
        simp only [Int.toNat_natCast]
        rw [afterM_same (a := ((k + leafN c r : Nat) : Int)) (n := 0) (a' := (k : Int)) (n' := ((leafN c r : Nat) : Int)) _ _ _ (by omega)]
        unfold afterM
        rw [Option.bind_assoc]
        show _ = (loopM (fun q : (List D_term_open) × Int => term_scan.b1 s (k : Int) ((leafN c r : Nat) : Int) q.1 q.2) (st, (1 : Int))).bind _
        congr 1
        funext q
        cases q with
        | inl st' =>
          simp only [Sum.elim_inl, Option.bind_some]
          rw [Eng.i64_id (by omega) (by omega)]
          congr 2
        | inr o => rfl
      · have h00 : leafN c r = 0 := by omega
        rw [h00, if_neg (by simp), show ((((0 : Nat) : Int)) == (0 : Int)) = true from rfl, cond_true, begin_eq hd (by omega), Option.bind_some]
        cases ho : openT c r with
        | none => rfl
        | some q =>
          obtain ⟨n, p, o⟩ := q
          have hno := openT_some ho
          simp only [openV, Bool.not_true, cond_false]
          rw [room_of (by omega), Option.bind_some, Sum.elim_inl]
          exact scan_many hb (by omega) ih n (k + o) [] 0 st hno.1 hno.2.1 (by omega) (by omega) (by omega)
/-- The program's scan. -/
theorem scan_spec {s : List UInt8} (hb : s.length ≤ 140737488355328) : term_scan.f s = some (if (specE s 400 0).1 < 0 then ((0 : Int), (0 : Int), errC (specE s 400 0).1) else ((specE s 400 0).1, (specE s 400 0).2, (0 : Int))) := by
  unfold term_scan.f
  have h := scan_go hb 400 [] 0 rfl (Nat.zero_le _)
  unfold scanL at h
  have h' : loopM (fun q : (List D_term_open) × Int => term_scan.b2 s q.1 q.2) (([] : List D_term_open), (0 : Int)) = goM s [] (specE s 400 0) := h
  rw [h']
  unfold goM
  by_cases hn : (specE s 400 0).1 < 0
  · rw [if_pos hn, if_pos hn]; rfl
  · rw [if_neg hn, if_neg hn]
    have hle := specE_le s 400 0 (by omega)
    have hdep := specE_depth s 400 0
    unfold afterM
    rw [loop_unroll]
    have h1 := scan1_nilP s (specE s 400 0).1 0 ((specE s 400 0).2.toNat : Int) (specE s 400 0).1.toNat (by omega) (by omega)
    show (((term_scan.b1 s (specE s 400 0).1 0 [] ((specE s 400 0).2.toNat : Int)).bind _).bind _).bind _ = _
    rw [h1]
    simp only [Option.bind_some, Sum.elim_inr, Sum.elim_inl]
    rw [Int.toNat_of_nonneg (by omega), Int.toNat_of_nonneg (by omega)]
end Go.Proofs.Ytgomlcfoifkdiaa.G
