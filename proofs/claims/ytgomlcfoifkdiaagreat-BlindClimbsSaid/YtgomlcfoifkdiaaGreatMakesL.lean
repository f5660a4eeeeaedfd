/- BlindMakes, as it is reckoned. -/
import Derived.Test.YtgomlcfoifkdiaaGreatRefView
import Derived.Test.YtgomlcfoifkdiaaGreatShown15
namespace Go.Proofs.YtgomlcfoifkdiaaGreat.G
open Go.RowKit Go.Eng Go.Proofs Go.Proofs.YtgomlcfoifkdiaaGreat.Cut
set_option linter.unusedVariables false
set_option linter.unusedSimpArgs false

theorem relem_eq {x : List UInt8} (hx : x.length ≤ 140737488355328) : ∃ r, blind_Element.f x = some r ∧ gemotref15_Element.f x = some r ∧ r.1.length ≤ 20000 := by
  obtain ⟨r, h1, h2, h3⟩ := rpower_eq (x := [103]) (v := x) (by simp) hx
  refine ⟨r, ?_, ?_, h3⟩
  · unfold blind_Element.f term_Gen.f
    rw [Option.bind_some, h1]; rfl
  · unfold gemotref15_Element.f
    rw [h2]; rfl
theorem rabove_eq {x y : List UInt8} (hx : x.length ≤ 140737488355328) (hy : y.length ≤ 140737488355328) : ∃ r, blind_Above.f x y = some r ∧ gemotref15_Above.f x y = some r ∧ r.1.length ≤ 20000 := by
  obtain ⟨r, h1, h2, h3⟩ := rpower_eq hy hx
  unfold blind_Above.f gemotref15_Above.f
  rw [h1, h2, Option.bind_some, Option.bind_some]
  by_cases h : r.2 = 0
  · rw [show (r.2 != (0 : Int)) = false by simpa using h, cond_false, cond_false]
    obtain ⟨q, g1, g2, g3⟩ := rkey_eq (x := r.1) (by omega)
    rw [g1, g2]
    exact ⟨q, rfl, rfl, g3⟩
  · rw [show (r.2 != (0 : Int)) = true by simpa using h, cond_true, cond_true]
    exact ⟨_, rfl, rfl, by simp⟩
theorem rightB_put (v : D_api_View) (hl : v.2.length ≤ 100) : rightB (putT (viewL v)) = true := by
  have hf : ∀ t ∈ viewL v, full t 1 := fun t ht => by obtain ⟨n, rfl⟩ := viewL_num v t ht; exact full_number n
  have hlen := putT_len_le 9 (viewL v) (fun t ht => by obtain ⟨n, rfl⟩ := viewL_num v t ht; simp [countedT, bytesOf_length])
  have := viewL_len v
  exact full_right (full_mono (full_put _ hf (by omega)) (by omega)) (by omega)
theorem rgroup_eq {v : D_api_View} {x : List UInt8} (hv : v.2.length ≤ 100) (hx : x.length ≤ 140737488355328) : ∃ r, blind_Group.f v x = some r ∧ gemotref15_Group.f v x = some r := by
  unfold blind_Group.f gemotref15_Group.f
  rw [show ((v.1.1, v.1.2), v.2) = v from rfl, viewTerm_eq v hv, rviewTerm_eq v hv, Option.bind_some, Option.bind_some]
  unfold viewE
  by_cases hr : rightV v = true
  · rw [if_pos hr]
    have ht := rightB_put v hv
    have htl := (rightB_len ht).2
    generalize putT (viewL v) = t at ht htl
    show ∃ r, (term_Pair.f t x).bind _ = some r ∧ (gemotref1_Right.f x).bind _ = some r
    have hxs : ∀ y ∈ [t, x], y.length ≤ 140737488355328 := by
      intro y hy
      rcases List.mem_cons.1 hy with q | q
      · rw [q]; omega
      · rw [List.mem_singleton.1 q]; exact hx
    unfold term_Pair.f
    rw [of_spec hxs (by simp), rright_spec hx, Option.bind_some]
    show ∃ r, cond ((ofE [112] [t, x]).2 != 0) _ _ = some r ∧ gemotref15_Group.k1 x (t, 0) (!rightB x) = some r
    unfold gemotref15_Group.k1
    cases hb : rightB x with
    | false =>
      have e : ofE [112] [t, x] = ([], 1) := by unfold ofE; simp [ht, hb]
      rw [e]
      exact ⟨_, rfl, rfl⟩
    | true =>
      show ∃ r, cond ((ofE [112] [t, x]).2 != 0) _ _ = some r ∧ (gemotref1_Of.f [112] [t, x]).bind _ = some r
      rw [rof_spec hxs (by simp), Option.bind_some]
      by_cases he : (ofE [112] [t, x]).2 = 0
      · rw [show ((ofE [112] [t, x]).2 != 0) = false by simpa using he, cond_false, cond_false]
        have hl := ofE_len [112] [t, x]
        have h1 : ∀ y ∈ [(ofE [112] [t, x]).1], y.length ≤ 140737488355328 := fun y hy => by rw [List.mem_singleton.1 hy]; omega
        unfold term_Hash.f
        rw [of_spec h1 (by simp), rof_spec h1 (by simp)]
        exact ⟨_, rfl, rfl⟩
      · rw [show ((ofE [112] [t, x]).2 != 0) = true by simpa using he, cond_true, cond_true]
        exact ⟨_, rfl, rfl⟩
  · rw [if_neg hr]
    exact ⟨_, rfl, rfl⟩
theorem makes_eq (x0 x1 : List UInt8) (x2 : D_api_View) (h0 : x0.length ≤ 140737488355328) (h1 : x1.length ≤ 140737488355328) : gemotlaw15_BlindMakes.f x0 x1 x2 = some true := by
  unfold gemotlaw15_BlindMakes.f
  rw [shown15, Option.bind_some]
  by_cases g0 : x0.length > 2000
  · rw [show decide ((x0.length : Int) > 2000) = true from decide_eq_true (by omega)]; rfl
  by_cases g1 : x1.length > 2000
  · rw [show decide ((x1.length : Int) > 2000) = true from decide_eq_true (by omega)]; simp
  by_cases g2 : x2.2.length > 30
  · rw [show decide ((x2.2.length : Int) > 30) = true from decide_eq_true (by omega)]; simp
  rw [show decide ((x0.length : Int) > 2000) = false from decide_eq_false (by omega), show decide ((x1.length : Int) > 2000) = false from decide_eq_false (by omega), show decide ((x2.2.length : Int) > 30) = false from decide_eq_false (by omega)]
  obtain ⟨a, a1, a2, _⟩ := relem_eq h0
  obtain ⟨b, b1, b2, _⟩ := rabove_eq h0 h1
  obtain ⟨c, c1, c2⟩ := rgroup_eq (v := x2) (by omega) h0
  show (blind_Element.f x0).bind _ = _
  rw [a1, Option.bind_some, a2, Option.bind_some, b1, Option.bind_some, b2, Option.bind_some, show ((x2.1.1, x2.1.2), x2.2) = x2 from rfl, c1, Option.bind_some, c2, Option.bind_some]
  simp [strEq_eq]
theorem makes_row {ok : Nat → Prop} {w : World} {a b : List UInt8} {v : D_api_View} {q : Array Value} (ha : a.length ≤ 140737488351232) (hb : b.length ≤ 140737488351232) (h2 : (t_api_View).R w ok v q.toList) :
    Calls Tryz.prog 4 #[.string (bs a), .string (bs b), .agg q] w fun e w' => ∃ r, e = .returned r ∧ r = .bool true ∧ Below w.heap.size w w' := by
  obtain ⟨u, hq, hu⟩ := api_View_cells h2
  have hq : q = #[.int .i64 v.1.1, .int .i64 v.1.2, u] := Array.toList_inj.1 hq
  subst hq
  exact (gemotlaw15_BlindMakes_ok hu (makes_eq a b v (by omega) (by omega))).mono fun e w' ⟨v, h1, h2, h3⟩ => ⟨v, h1, h2, h3.toBelow⟩
end Go.Proofs.YtgomlcfoifkdiaaGreat.G
