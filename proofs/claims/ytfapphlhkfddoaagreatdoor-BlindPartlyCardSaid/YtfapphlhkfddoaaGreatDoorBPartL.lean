/- BlindPartly, as it is reckoned. -/
import Derived.Test.YtfapphlhkfddoaaGreatDoorClimbR
namespace Go.Proofs.YtfapphlhkfddoaaGreatDoor.G
open Go.RowKit Go.Eng Go.Proofs Go.Proofs.YtfapphlhkfddoaaGreatDoor.Cut
set_option linter.unusedVariables false
set_option linter.unusedSimpArgs false

theorem same15 (a : List (List UInt8)) (hl : a.length ≤ 1000000) : gemotlaw15_same.f a a = some true := by
  have hL : loopM (fun s146 : Int => gemotlaw15_same.b1 a a s146) (0 : Int) = some (Sum.inl ()) := by
    refine loop_count (fun i => (i : Int)) a.length (fun i hi => ?_) ?_
    · show gemotlaw15_same.b1 a a (i : Int) = _
      unfold gemotlaw15_same.b1
      rw [cond_t (by omega), idxL_lt hi, Option.bind_some, Option.bind_some, strEq_eq, decide_eq_true rfl, Bool.not_true, cond_false, wrap1 i (by omega)]
    · show gemotlaw15_same.b1 a a (a.length : Int) = _
      unfold gemotlaw15_same.b1
      rw [cond_f (by omega)]
  unfold gemotlaw15_same.f gemotlaw15_same.k2
  rw [hL]; simp
theorem texts15 (a : List (List UInt8)) (hl : a.length ≤ 1000000) : gemotlaw15_texts.f a = some a := by
  have hL : loopM (fun s191 : (List (List UInt8)) × Int => gemotlaw15_texts.b1 a s191.1 s191.2) (([] : List (List UInt8)), (0 : Int)) = some a := by
    refine loop_count (fun i => (a.take i, (i : Int))) a.length (fun i hi => ?_) ?_
    · show gemotlaw15_texts.b1 a (a.take i) (i : Int) = _
      unfold gemotlaw15_texts.b1
      rw [cond_t (by omega), idxL_lt hi, Option.bind_some, room_of (by rw [List.length_take]; omega), take_snoc hi, wrap1 i (by omega)]
    · show gemotlaw15_texts.b1 a (a.take a.length) (a.length : Int) = _
      unfold gemotlaw15_texts.b1
      rw [cond_f (by omega), List.take_length]
  unfold gemotlaw15_texts.f gemotlaw15_texts.k2
  rw [hL]; rfl
theorem has15 (l : List D_blind_Blind) (n : List UInt8) (hl : l.length ≤ 1000000) : gemotlaw15_has.f l n = some (decide (n ∈ l.map (·.1))) := by
  have key : ∀ k i, i + k = l.length → (loopM (fun s91 : Int => gemotlaw15_has.b1 l n s91) (i : Int)) = some (if n ∈ (l.drop i).map (·.1) then Sum.inr true else Sum.inl ()) := by
    intro k
    induction k with
    | zero =>
      intro i hi
      rw [List.drop_of_length_le (by omega), if_neg (by simp)]
      refine loop_end ?_
      show gemotlaw15_has.b1 l n (i : Int) = _
      unfold gemotlaw15_has.b1
      rw [cond_f (by omega)]
    | succ k ih =>
      intro i hi
      have hil : i < l.length := by omega
      rw [List.drop_eq_getElem_cons hil, List.map_cons]
      by_cases h : l[i].1 = n
      · rw [if_pos (by rw [h]; exact List.mem_cons_self)]
        refine loop_end ?_
        show gemotlaw15_has.b1 l n (i : Int) = _
        unfold gemotlaw15_has.b1
        rw [cond_t (by omega), idxL_lt hil, Option.bind_some, strEq_eq, decide_eq_true h, cond_true]
      · have e : (n ∈ l[i].1 :: (l.drop (i + 1)).map (·.1)) ↔ n ∈ (l.drop (i + 1)).map (·.1) := ⟨fun q => (List.mem_cons.1 q).elim (fun e => absurd e.symm h) id, List.mem_cons_of_mem _⟩
        have := ih (i + 1) (by omega)
        simp only [e]
        refine loop_step ?_ this
        show gemotlaw15_has.b1 l n (i : Int) = _
        unfold gemotlaw15_has.b1
        rw [cond_t (by omega), idxL_lt hil, Option.bind_some, strEq_eq, decide_eq_false h, cond_false, wrap1 i (by omega)]
  have h0 := key l.length 0 (by omega)
  rw [List.drop_zero] at h0
  unfold gemotlaw15_has.f gemotlaw15_has.k2
  rw [show loopM (fun s91 : Int => gemotlaw15_has.b1 l n s91) (0 : Int) = _ from h0]
  by_cases h : n ∈ l.map (·.1)
  · rw [if_pos h, decide_eq_true h]; rfl
  · rw [if_neg h, decide_eq_false h]; rfl
/-- How many are told in a row, from a depth upward. -/
def preD (l : List D_blind_Blind) (π : List UInt8) : Nat → Nat
  | 0 => 0
  | d + 1 => if besideT (π.take (d + 1)) ∈ l.map (·.1) then preD l π d + 1 else 0
theorem preD_succ (l : List D_blind_Blind) (π : List UInt8) (d : Nat) : preD l π (d + 1) = if besideT (π.take (d + 1)) ∈ l.map (·.1) then preD l π d + 1 else 0 := rfl
theorem preD_le (l : List D_blind_Blind) (π : List UInt8) : ∀ d, preD l π d ≤ d
  | 0 => Nat.le_refl _
  | d + 1 => by
    have := preD_le l π d
    rw [preD_succ]; split <;> omega
theorem res_pre (T : Tr) (nm : Int → List UInt8) (l : List D_blind_Blind) (π : List UInt8) : ∀ d, secAt T nm (π.take d) :: resD T nm l π d = ((upD π d).map (secAt T nm)).take (preD l π d + 1)
  | 0 => by simp [resD, upD, preD]
  | d + 1 => by
    rw [resD_succ, preD_succ]
    show _ = (secAt T nm (π.take (d + 1)) :: (upD π d).map (secAt T nm)).take _
    by_cases h : besideT (π.take (d + 1)) ∈ l.map (·.1)
    · rw [if_pos h, if_pos h, res_pre T nm l π d]; rfl
    · rw [if_neg h, if_neg h]; rfl
theorem co_get (π : List UInt8) : ∀ D i, i < D → (coD π D)[i]? = some (besideT (π.take (D - i)))
  | 0, i, h => by omega
  | D + 1, 0, _ => rfl
  | D + 1, i + 1, h => by
    show (coD π D)[i]? = _
    rw [co_get π D i (by omega), Nat.add_sub_add_right]
section
variable {x1 x2 : Int} {t : List UInt8} {m : List Int} {s : List (List UInt8)} {B : List D_blind_Blind}
theorem told_loop (hB : B.length ≤ 1000) : ∀ (k i : Nat) (out : List D_blind_Blind), i + k = B.length → out.length ≤ i → (∀ b ∈ out, b ∈ B) →
    ∃ told, (∀ b ∈ told, b ∈ B) ∧ told.length ≤ B.length ∧ loopM (fun s454 : (List D_blind_Blind) × Int => gemotlaw15_BlindPartly.b2 x1 x2 t m s B s454.1 s454.2) (out, (i : Int)) = some told := by
  intro k
  induction k with
  | zero =>
    intro i out hi ho hin
    refine ⟨out, hin, by omega, loop_end ?_⟩
    show gemotlaw15_BlindPartly.b2 x1 x2 t m s B out (i : Int) = _
    unfold gemotlaw15_BlindPartly.b2
    rw [cond_f (by omega)]
  | succ k ih =>
    intro i out hi ho hin
    have hil : i < B.length := by omega
    have hsh : shrM .i64 x2 (i : Int) = some (x2.fdiv (2 ^ min ((i : Int)).toNat IntKind.i64.bits)) := by unfold shrM; rw [if_pos (by omega)]
    by_cases hc : (andI .i64 (x2.fdiv (2 ^ min ((i : Int)).toNat IntKind.i64.bits)) (1 : Int)) == (1 : Int)
    · have hin2 : ∀ b ∈ out ++ [B[i]], b ∈ B := fun b hb => (List.mem_append.1 hb).elim (hin b) (fun q => by rw [List.mem_singleton.1 q]; exact List.getElem_mem hil)
      obtain ⟨told, h1, h2, h3⟩ := ih (i + 1) (out ++ [B[i]]) (by omega) (by rw [List.length_append]; simp only [List.length_cons, List.length_nil]; omega) hin2
      refine ⟨told, h1, h2, loop_step ?_ h3⟩
      show gemotlaw15_BlindPartly.b2 x1 x2 t m s B out (i : Int) = _
      unfold gemotlaw15_BlindPartly.b2 gemotlaw15_BlindPartly.k1
      rw [cond_t (by omega), hsh, Option.bind_some, hc, cond_true, idxL_lt hil, Option.bind_some, room_of (by omega), wrap1 i (by omega)]
    · obtain ⟨told, h1, h2, h3⟩ := ih (i + 1) out (by omega) (by omega) hin
      refine ⟨told, h1, h2, loop_step ?_ h3⟩
      show gemotlaw15_BlindPartly.b2 x1 x2 t m s B out (i : Int) = _
      unfold gemotlaw15_BlindPartly.b2 gemotlaw15_BlindPartly.k1
      rw [cond_t (by omega), hsh, Option.bind_some, (Bool.not_eq_true _).mp hc, cond_false, wrap1 i (by omega)]
theorem pre_loop {l : List D_blind_Blind} {a b : List (List UInt8)} {π : List UInt8} (hl : l.length ≤ 1000) (hπ : π.length ≤ 1000) : ∀ d i, i + d = π.length → loopM (fun s1038 : Int => gemotlaw15_BlindPartly.b4 l a b (coD π π.length) s1038) (i : Int) = some ((i + preD l π d : Nat) : Int) := by
  have hcl := coD_len π π.length
  intro d
  induction d with
  | zero =>
    intro i hi
    refine loop_end ?_
    show gemotlaw15_BlindPartly.b4 l a b (coD π π.length) (i : Int) = _
    unfold gemotlaw15_BlindPartly.b4 gemotlaw15_BlindPartly.k3
    rw [hcl, decide_eq_false (show ¬ (i : Int) < (π.length : Int) by omega)]
    rfl
  | succ d ih =>
    intro i hi
    have hg : idxL (coD π π.length) (i : Int) = some (besideT (π.take (d + 1))) := by
      rw [idxL_nat, co_get π π.length i (by omega), show π.length - i = d + 1 by omega]
    rw [preD_succ]
    by_cases h : besideT (π.take (d + 1)) ∈ l.map (·.1)
    · rw [if_pos h, show i + (preD l π d + 1) = i + 1 + preD l π d by omega]
      refine loop_step ?_ (ih (i + 1) (by omega))
      show gemotlaw15_BlindPartly.b4 l a b (coD π π.length) (i : Int) = _
      unfold gemotlaw15_BlindPartly.b4 gemotlaw15_BlindPartly.k3
      rw [hcl, decide_eq_true (show (i : Int) < (π.length : Int) by omega), cond_true, hg, Option.bind_some, has15 _ _ (by omega), Option.bind_some, decide_eq_true h, cond_true, cond_true, wrap1 i (by omega)]
    · rw [if_neg h]
      refine loop_end ?_
      show gemotlaw15_BlindPartly.b4 l a b (coD π π.length) (i : Int) = _
      unfold gemotlaw15_BlindPartly.b4 gemotlaw15_BlindPartly.k3
      rw [hcl, decide_eq_true (show (i : Int) < (π.length : Int) by omega), cond_true, hg, Option.bind_some, has15 _ _ (by omega), Option.bind_some, decide_eq_false h, cond_true, cond_false]
      rfl
end
theorem bpart_law {x0 : List Int} {x1 x2 : Int} (h0 : ∀ x ∈ x0, inI64 x) (h1 : inI64 x1) : gemotlaw15_BlindPartly.f x0 x1 x2 = some true := by
  obtain ⟨T, hk, hn, hT⟩ := made_is h0
  have h8 := leaves_eight hk hn
  have hpos := leavesR_pos T
  have hsl := sortZ_len T.leavesR
  have hbl := blinds_len hk hn (nmOf (sortZ T.leavesR) 1)
  unfold gemotlaw15_BlindPartly.f
  rw [shown15, Option.bind_some, Bool.not_true, cond_false, hT, Option.bind_some, members_of hk hn, Option.bind_some, secrets_of hk hn, Option.bind_some, blinds_eq hk hn, Option.bind_some]
  obtain ⟨m, hm⟩ : ∃ m, m = sortZ T.leavesR := ⟨_, rfl⟩
  obtain ⟨B, hB⟩ : ∃ B, B = blindsM T (nmOf m 1) := ⟨_, rfl⟩
  rw [← hm] at hsl hbl ⊢
  rw [← hB] at hbl ⊢
  have hright : rightL T (nmOf m 1) B := by rw [hB]; exact blinds_right T _
  obtain ⟨told, t1, t2, t3⟩ := told_loop (x1 := x1) (x2 := x2) (t := T.text) (m := m) (s := m.map (nmOf m 1)) (B := B) (by omega) B.length 0 [] (by omega) (by simp) (fun _ h => by cases h)
  rw [show loopM (fun s454 : (List D_blind_Blind) × Int => gemotlaw15_BlindPartly.b2 x1 x2 T.text m (m.map (nmOf m 1)) B s454.1 s454.2) (([] : List D_blind_Blind), (0 : Int)) = _ from t3, Option.bind_some]
  obtain ⟨y, hy, y0, y8⟩ := pick15 (n := (m.length : Int)) h1 (by omega)
  obtain ⟨k, rfl⟩ : ∃ k : Nat, y = (k : Int) := ⟨y.toNat, by omega⟩
  have hkl : k < m.length := by omega
  obtain ⟨π, hπ⟩ := leaf_path (T := T) (p := m[k]) ((sortZ_perm T.leavesR).mem_iff.1 (by rw [← hm]; exact List.getElem_mem hkl))
  have hpl := pathL_len T _ π hπ
  obtain ⟨_, hco⟩ := path_of hk hn hπ
  have hx : idxL (m.map (nmOf m 1)) (k : Int) = some (nmOf m 1 m[k]) := by
    rw [idxL_nat, List.getElem?_map, List.getElem?_eq_getElem hkl]; rfl
  have c1 := climb_eq hk hn hright (show B.length ≤ 10000 by omega) hπ
  have c2 := climb_eq hk hn (l := told) (fun b hb => hright b (t1 b hb)) (show told.length ≤ 10000 by omega) hπ
  rw [hB, res_all hk hn _ hπ π.length (by omega), ← hB] at c1
  rw [res_pre] at c2
  have hul := upD_len π π.length
  have hpr := preD_le told π π.length
  have hcl := coD_len π π.length
  have hloop := pre_loop (l := told) (a := (upD π π.length).map (secAt T (nmOf m 1))) (b := ((upD π π.length).map (secAt T (nmOf m 1))).take (preD told π π.length + 1)) (π := π) (by omega) (by omega) π.length 0 (by omega)
  unfold gemotlaw15_BlindPartly.k7
  rw [hy, Option.bind_some, idxL_lt hkl, Option.bind_some, hx, Option.bind_some, c1, Option.bind_some, Option.bind_some, Option.bind_some, c2, Option.bind_some, Option.bind_some, hco, Option.bind_some]
  rw [show loopM (fun s1038 : Int => gemotlaw15_BlindPartly.b4 told ((upD π π.length).map (secAt T (nmOf m 1))) (((upD π π.length).map (secAt T (nmOf m 1))).take (preD told π π.length + 1)) (coD π π.length) s1038) (0 : Int) = _ from hloop, Option.bind_some, Nat.zero_add]
  have hl1 : ((upD π π.length).map (secAt T (nmOf m 1))).length = π.length + 1 := by rw [List.length_map, hul]
  have hl2 : (((upD π π.length).map (secAt T (nmOf m 1))).take (preD told π π.length + 1)).length = preD told π π.length + 1 := by rw [List.length_take, hl1]; omega
  have hsl2 := slc_lt (xs := (upD π π.length).map (secAt T (nmOf m 1))) (a := 0) (b := preD told π π.length + 1) (by omega) (by omega)
  rw [List.drop_zero, Nat.sub_zero] at hsl2
  unfold gemotlaw15_BlindPartly.k6 gemotlaw15_BlindPartly.k5
  rw [wrap1 (preD told π π.length) (by omega), hcl, wrap1 π.length (by omega), hl1, hl2, show (((preD told π π.length + 1 : Nat) : Int) == ((preD told π π.length + 1 : Nat) : Int)) = true from beq_iff_eq.2 rfl, show (((π.length + 1 : Nat) : Int) == ((π.length + 1 : Nat) : Int)) = true from beq_iff_eq.2 rfl, cond_true, cond_true]
  rw [show slcM ((upD π π.length).map (secAt T (nmOf m 1))) (0 : Int) ((preD told π π.length + 1 : Nat) : Int) = _ from hsl2, Option.bind_some, texts15 _ (by omega), Option.bind_some, same15 _ (by omega)]
  rfl
theorem bpart_row {ok : Nat → Prop} {w : World} {u0 : Value} {x0 : List Int} {x1 x2 : Int} (hu : slR (tInt .i64) w ok u0 x0) (h0 : ∀ x ∈ x0, inI64 x) (h1 : inI64 x1) :
    Calls Tryz.prog 10 #[u0, .int .i64 x1, .int .i64 x2] w fun e w' => ∃ r, e = .returned r ∧ r = .bool true ∧ Below w.heap.size w w' :=
  (gemotlaw15_BlindPartly_ok hu (bpart_law h0 h1)).mono fun e w' ⟨v, h1, h2, h3⟩ => ⟨v, h1, h2, h3.toBelow⟩
end Go.Proofs.YtfapphlhkfddoaaGreatDoor.G
