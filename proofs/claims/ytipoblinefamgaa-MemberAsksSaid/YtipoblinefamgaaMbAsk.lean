/- MemberAsks, as it is reckoned. -/
import Derived.Test.YtipoblinefamgaaMbK
namespace Go.Proofs.Ytipoblinefamgaa.G
open Go.RowKit Go.Eng Go.Proofs Go.Proofs.Ytipoblinefamgaa.Cut
set_option linter.unusedVariables false
set_option linter.unusedSimpArgs false
set_option linter.unnecessarySimpa false

def inI64 (x : Int) : Prop := -9223372036854775808 ≤ x ∧ x ≤ 9223372036854775807
set_option maxRecDepth 100000 in
theorem shown12 : gemotlaw12_shown.f = some true := by kernel_rfl
theorem pick12 {x n : Int} (hx : inI64 x) (hn : 0 < n) : ∃ y, gemotlaw12_pick.f x n = some y ∧ 0 ≤ y ∧ y < n := by
  have key : ∀ v : Int, 0 ≤ v → ∃ y, gemotlaw12_pick.k1 n v = some y ∧ 0 ≤ y ∧ y < n := fun v hv => by
    unfold gemotlaw12_pick.k1 remM
    rw [if_neg (by omega)]
    refine ⟨v.tmod n, rfl, ?_, ?_⟩
    · exact Int.tmod_nonneg _ hv
    · exact Int.tmod_lt_of_pos _ hn
  obtain ⟨h1, h2⟩ := hx
  unfold gemotlaw12_pick.f
  by_cases h : x < 0
  · have e : IntKind.i64.wrap (0 - IntKind.i64.wrap (x + 1)) = -(x + 1) := by
      rw [Eng.i64_id (x := x + 1) (by omega) (by omega), Eng.i64_id (by omega) (by omega)]; omega
    rw [decide_eq_true h, cond_true, e]
    exact key _ (by omega)
  · rw [decide_eq_false h, cond_false]
    exact key _ (by omega)
def bitR (y : Int) (k : Nat) : Bool := andI .i64 (y.fdiv (2 ^ min ((k : Int)).toNat IntKind.i64.bits)) (1 : Int) == (1 : Int)
def ofR (y : Int) : Nat → List Int
  | 0 => []
  | k + 1 => if bitR y k = true then ofR y k ++ [((k + 1 : Nat) : Int)] else ofR y k
theorem ofR_rng (y : Int) : ∀ k x, x ∈ ofR y k → 1 ≤ x ∧ x ≤ (k : Int) := by
  intro k
  induction k with
  | zero => intro x hx; cases hx
  | succ k ih =>
    intro x hx
    unfold ofR at hx
    split at hx
    · rcases List.mem_append.1 hx with hx | hx
      · have := ih x hx; omega
      · rw [List.mem_singleton] at hx; omega
    · have := ih x hx; omega
theorem ofR_up (y : Int) : ∀ k, (ofR y k).Pairwise (· < ·) := by
  intro k
  induction k with
  | zero => exact .nil
  | succ k ih =>
    unfold ofR
    split
    · refine List.pairwise_append.2 ⟨ih, List.pairwise_singleton _ _, fun a ha b hb => ?_⟩
      rw [List.mem_singleton] at hb
      have := ofR_rng y k a ha
      omega
    · exact ih
theorem ofR_len (y : Int) : ∀ k, (ofR y k).length ≤ k := by
  intro k
  induction k with
  | zero => exact Nat.le_refl _
  | succ k ih =>
    unfold ofR
    split
    · rw [List.length_append, List.length_singleton]; omega
    · omega
theorem bits12 (x0 x1 x2 : Int) (y1 : Bool) : loopM (fun s322 : (List Int) × Int => gemotlaw12_MemberAsks.b2 x0 x1 x2 y1 s322.1 s322.2) (([] : List Int), (1 : Int)) = some (ofR x0 8) := by
  refine loop_count (fun i => (ofR x0 i, ((i + 1 : Nat) : Int))) 8 (fun i hi => ?_) ?_
  · show gemotlaw12_MemberAsks.b2 x0 x1 x2 y1 (ofR x0 i) ((i + 1 : Nat) : Int) = _
    unfold gemotlaw12_MemberAsks.b2 gemotlaw12_MemberAsks.k1
    have hw : IntKind.i64.wrap (((i + 1 : Nat) : Int) - (1 : Int)) = (i : Int) := by rw [Eng.i64_id (by omega) (by omega)]; omega
    have hw2 : IntKind.i64.wrap (((i + 1 : Nat) : Int) + (1 : Int)) = ((i + 1 + 1 : Nat) : Int) := by rw [Eng.i64_id (by omega) (by omega)]; omega
    rw [cond_t (by omega), hw, hw2]
    unfold shrM
    rw [if_pos (by omega), Option.bind_some]
    show cond (bitR x0 i) _ _ = _
    cases hb : bitR x0 i with
    | true =>
      rw [cond_true, show ofR x0 (i + 1) = ofR x0 i ++ [((i + 1 : Nat) : Int)] from if_pos hb]
      have := ofR_len x0 i
      exact if_pos (by omega)
    | false =>
      rw [cond_false, show ofR x0 (i + 1) = ofR x0 i from if_neg (by rw [hb]; simp)]
  · show gemotlaw12_MemberAsks.b2 x0 x1 x2 y1 (ofR x0 8) ((8 + 1 : Nat) : Int) = _
    unfold gemotlaw12_MemberAsks.b2
    rw [cond_f (by omega)]
/-- A node that begins. -/
abbrev node0 (p : Int) : O_member_Node := { me_ := p, view_ := ((0, p), [p]), rows_ := [], promised_ := ((0, p), [p]), seen_ := (0, p), plan_ := none, early_ := [], outs_ := [], events_ := [] }
theorem new12 {p : Int} (h : 1 ≤ p ∧ p ≤ 8) : member_New.f p = some (some (node0 p), 0) := by
  unfold member_New.f
  rw [decide_eq_false (by omega), decide_eq_false (by omega)]
  rfl
theorem outs_loop {x2 me b : Int} {l : List Int} (h : upRow (me :: b :: l)) {y400 : (List D_member_Out) × (List D_member_Event) × O_member_Node} (hp : y400.2.2.promised_.1 = (1, me)) :
    loopM (fun s7855 : (List D_member_Out) × Int => gemotlaw12_MemberAsks.b5 x2 (me :: b :: l) me y400 s7855.1 s7855.2) ((b :: l).map (fun p => (p, propM (1, me) (me :: b :: l))), (0 : Int)) = some (.inl ()) := by
  have hlen := h.len
  simp only [List.length_cons] at hlen
  refine loop_count (fun i => ((b :: l).map (fun p => (p, propM (1, me) (me :: b :: l))), (i : Int))) (b :: l).length (fun i hi => ?_) ?_
  · show gemotlaw12_MemberAsks.b5 x2 (me :: b :: l) me y400 ((b :: l).map (fun p => (p, propM (1, me) (me :: b :: l)))) (i : Int) = _
    have hi2 : i < l.length + 1 := by simpa using hi
    have hg : idxL ((b :: l).map (fun p => ((p, propM (1, me) (me :: b :: l)) : D_member_Out))) (i : Int) = some ((b :: l)[i], propM (1, me) (me :: b :: l)) := by
      rw [idxL_lt (by rw [List.length_map]; exact hi), List.getElem_map]
    have hg2 : idxL (me :: b :: l) (IntKind.i64.wrap ((i : Int) + 1)) = some (b :: l)[i] := by
      rw [wrap1 i (by omega), idxL_lt (by simpa using hi2), List.getElem_cons_succ]
    unfold gemotlaw12_MemberAsks.b5
    rw [cond_t (by rw [List.length_map]; omega), hg, Option.bind_some, hg2, Option.bind_some, bne_self_eq_false, cond_false, Option.bind_some]
    show cond ((3 : Int) != 3) _ _ = _
    rw [show ((3 : Int) != 3) = false from rfl, cond_false, Option.bind_some]
    unfold member_Node_Promised.f
    rw [Option.bind_some, hp]
    show cond (!(((1 : Int) == 1) && (me == me))) _ _ = _
    rw [show (!(((1 : Int) == 1) && (me == me))) = false by simp, cond_false, Option.bind_some]
    show ((gemotref10_Same.f (me :: b :: l) (me :: b :: l)).bind _) = _
    rw [same10_eq (by simp; omega), Option.bind_some]
    show gemotlaw12_MemberAsks.k4 _ _ _ _ _ _ false = _
    unfold gemotlaw12_MemberAsks.k4
    rw [cond_false, wrap1 i (by omega)]
  · show gemotlaw12_MemberAsks.b5 x2 (me :: b :: l) me y400 _ ((b :: l).length : Int) = _
    unfold gemotlaw12_MemberAsks.b5
    rw [cond_f (by rw [List.length_map]; omega)]
theorem less_is {me k : Int} (h : 1 ≤ me ∧ me ≤ 8) (hk : 0 ≤ k) : view_Less.f (1, me) (k, 8) = some (!(cond (k == 0) true (cond (k == 1) (me == 8) false))) := by
  unfold view_Less.f idLt cmpI
  refine congrArg some ?_
  show decide ((if (if (1 : Int) < k then (-1 : Int) else if (1 : Int) > k then 1 else 0) ≠ 0 then (if (1 : Int) < k then (-1 : Int) else if (1 : Int) > k then 1 else 0) else (if me < 8 then (-1 : Int) else if me > 8 then 1 else 0)) < 0) = _
  by_cases k0 : k = 0
  · subst k0; rfl
  by_cases k1 : k = 1
  · subst k1
    by_cases m8 : me = 8
    · subst m8; rfl
    · rw [show (me == 8) = false by simpa using m8]
      have : me < 8 := by omega
      simp [this]
  · have : (1 : Int) < k := by omega
    rw [show (k == 0) = false by simpa using k0, show (k == 1) = false by simpa using k1]
    simp [this]
theorem asks_first {x2 me b : Int} {l : List Int} (hx : inI64 x2) (h : upRow (me :: b :: l)) {y386 : (List D_member_Out) × (List D_member_Event) × O_member_Node} (h386 : y386.1 = (b :: l).map (fun p => (p, propM (1, me) (me :: b :: l)))) :
    gemotlaw12_MemberAsks.k8 x2 (me :: b :: l) me y386 ([], [], proposed (node0 me) (me :: b :: l)) false = some true := by
  have hlen := h.len
  have hme := h.2 me List.mem_cons_self
  simp only [List.length_cons] at hlen
  have hw : IntKind.i64.wrap (((me :: b :: l).length : Int) - 1) = ((l.length + 1 : Nat) : Int) := by
    rw [Eng.i64_id (by simp only [List.length_cons]; omega) (by simp only [List.length_cons]; omega)]
    simp only [List.length_cons]; omega
  unfold gemotlaw12_MemberAsks.k8
  rw [cond_false, h386, outs_loop h rfl, Option.bind_some]
  show gemotlaw12_MemberAsks.k7 _ _ _ _ = _
  unfold gemotlaw12_MemberAsks.k7
  obtain ⟨k, hk, hk0, hk1⟩ := pick12 hx (n := 20) (by decide)
  rw [hk, Option.bind_some]
  have hheed : member_Node_Heed.f (proposed (node0 me) (me :: b :: l)) (k, 8) = some (cond (!(cond (k == 0) true (cond (k == 1) (me == 8) false))) { proposed (node0 me) (me :: b :: l) with seen_ := (k, 8) } (proposed (node0 me) (me :: b :: l))) := by
    unfold member_Node_Heed.f
    show ((view_Less.f (1, me) (k, 8)).bind _) = _
    rw [less_is hme hk0, Option.bind_some]
    cases (!(cond (k == 0) true (cond (k == 1) (me == 8) false))) with
    | false => rfl
    | true =>
      show cond (cond true (decide (k ≤ 2147483646)) false) _ _ = _
      rw [decide_eq_true (by omega)]
      rfl
  show ((member_Node_Heed.f (proposed (node0 me) (me :: b :: l)) (k, 8)).bind _) = _
  rw [hheed, Option.bind_some]
  cases hc : (cond (k == 0) true (cond (k == 1) (me == 8) false)) with
  | true =>
    show ((member_Node_Suggest.f (proposed (node0 me) (me :: b :: l)) (me :: b :: l)).bind _) = _
    have hs : member_Node_Suggest.f (proposed (node0 me) (me :: b :: l)) (me :: b :: l) = _ := suggest_again (v := proposed (node0 me) (me :: b :: l)) h rfl rfl rfl
    rw [hs, Option.bind_some, cond_true]
    rfl
  | false =>
    have hne : ¬ (k = 1 ∧ me = 8) := by
      rintro ⟨e1, e2⟩
      rw [e1, e2] at hc
      cases hc
    show ((member_Node_Suggest.f ({ proposed (node0 me) (me :: b :: l) with seen_ := (k, 8) } : O_member_Node) (me :: b :: l)).bind _) = _
    have hs : member_Node_Suggest.f ({ proposed (node0 me) (me :: b :: l) with seen_ := (k, 8) } : O_member_Node) (me :: b :: l) = some ((b :: l).map (fun p => (p, propM (k + 1, me) (me :: b :: l))), [], proposed ({ proposed (node0 me) (me :: b :: l) with seen_ := (k, 8) } : O_member_Node) (me :: b :: l)) :=
      suggest_go (v := ({ proposed (node0 me) (me :: b :: l) with seen_ := (k, 8) } : O_member_Node)) h ⟨hk0, by show k < _; omega⟩ rfl rfl rfl (.inl fun e => hne ⟨by
        have := congrArg (fun q : D_api_Id => q.1) e
        exact this, by
        have := congrArg (fun q : D_api_Id => q.2) e
        exact this.symm⟩)
    rw [hs, Option.bind_some, cond_false, hw]
    show cond ((((b :: l).map (fun p => ((p, propM (k + 1, me) (me :: b :: l)) : D_member_Out))).length : Int) == ((l.length + 1 : Nat) : Int)) _ _ = _
    have hl2 : ((((b :: l).map (fun p => ((p, propM (k + 1, me) (me :: b :: l)) : D_member_Out))).length : Int) == ((l.length + 1 : Nat) : Int)) = true := by
      rw [List.length_map, List.length_cons]; simp
    rw [hl2, cond_true]
    unfold member_Node_Promised.f
    rw [Option.bind_some]
    show some (cond true (((k + 1) == (IntKind.i64.wrap (k + 1))) && (me == me)) false) = _
    rw [Eng.i64_id (by omega) (by omega)]
    simp
theorem asks_law {x0 x1 x2 : Int} (h1 : inI64 x1) (h2 : inI64 x2) : gemotlaw12_MemberAsks.f x0 x1 x2 = some true := by
  unfold gemotlaw12_MemberAsks.f
  rw [shown12, Option.bind_some, bits12, Option.bind_some]
  have hup : upRow (ofR x0 8) := ⟨ofR_up x0 8, fun x hx => ofR_rng x0 8 x hx⟩
  generalize ofR x0 8 = L at hup
  have hlen := hup.len
  unfold gemotlaw12_MemberAsks.k9
  by_cases hl : (L.length : Int) < 2
  · rw [decide_eq_true hl]; rfl
  rw [decide_eq_false hl]
  show ((gemotlaw12_pick.f x1 (L.length : Int)).bind _) = _
  obtain ⟨y, hy, y0, y1⟩ := pick12 h1 (n := (L.length : Int)) (by omega)
  obtain ⟨i, rfl⟩ : ∃ i : Nat, y = (i : Int) := ⟨y.toNat, by omega⟩
  have hi : i < L.length := by omega
  have hme := hup.2 _ (List.getElem_mem hi)
  rw [hy, Option.bind_some, idxL_lt hi, Option.bind_some, new12 hme, Option.bind_some]
  show cond false _ _ = _
  rw [cond_false, Option.bind_some]
  match L, hup, hlen, hl, hi, hme with
  | [], _, _, hl, hi, _ => exact absurd hi (by simp)
  | [a], _, _, hl, _, _ => exact absurd (by simp : ((1 : Nat) : Int) < 2) (by simpa using hl)
  | a :: b :: l, hup, hlen, hl, hi, hme =>
    simp only [List.length_cons] at hlen
    have hw : IntKind.i64.wrap (((a :: b :: l).length : Int) - 1) = ((l.length + 1 : Nat) : Int) := by
      rw [Eng.i64_id (by simp only [List.length_cons]; omega) (by simp only [List.length_cons]; omega)]
      simp only [List.length_cons]; omega
    by_cases he : (a :: b :: l)[i] = a
    · rw [he]
      have ha := hup.2 a List.mem_cons_self
      have s1 : member_Node_Suggest.f (node0 a) (a :: b :: l) = some ((b :: l).map (fun p => (p, propM (1, a) (a :: b :: l))), [], proposed (node0 a) (a :: b :: l)) :=
        suggest_go (v := node0 a) hup ⟨(by decide : (0 : Int) ≤ 0), (by decide : (0 : Int) < 2147483646)⟩ rfl rfl rfl (.inr ⟨rfl, by simp⟩)
      have s2 : member_Node_Suggest.f (proposed (node0 a) (a :: b :: l)) (a :: b :: l) = some ([], [], proposed (node0 a) (a :: b :: l)) := suggest_again (v := proposed (node0 a) (a :: b :: l)) hup rfl rfl rfl
      rw [s1, Option.bind_some]
      show ((member_Node_Suggest.f (proposed (node0 a) (a :: b :: l)) (a :: b :: l)).bind _) = _
      rw [s2, Option.bind_some, show idxL (a :: b :: l) (0 : Int) = some a from rfl, Option.bind_some, bne_self_eq_false, cond_false, hw]
      have hl2 : ((((b :: l).map (fun p => ((p, propM (1, a) (a :: b :: l)) : D_member_Out))).length : Int) != ((l.length + 1 : Nat) : Int)) = false := by
        rw [List.length_map, List.length_cons]; simp
      show cond (cond ((((b :: l).map (fun p => ((p, propM (1, a) (a :: b :: l)) : D_member_Out))).length : Int) != ((l.length + 1 : Nat) : Int)) true ((IntKind.i64.wrap ((0 : Int) + 0)) != 0)) _ _ = _
      rw [hl2, show (cond false true ((IntKind.i64.wrap ((0 : Int) + 0)) != 0)) = false from rfl, cond_false]
      unfold member_Node_Flushing.f
      rw [Option.bind_some]
      show cond (!(!(((1 : Int) == 0) && (a == a)))) _ _ = _
      rw [show (!(!(((1 : Int) == 0) && (a == a)))) = false from rfl, cond_false]
      unfold member_Node_Promised.f
      rw [Option.bind_some]
      have hz : (cond (cond (cond false true ((IntKind.i64.wrap ((0 : Int) + 0)) != 0)) true (!(!(((1 : Int) == 0) && (a == a))))) true (!(((1 : Int) == 1) && (a == a)))) = false := by
        rw [show (((1 : Int) == 1) && (a == a)) = true by simp]
        rfl
      show gemotlaw12_MemberAsks.k8 x2 (a :: b :: l) a ((b :: l).map (fun p => (p, propM (1, a) (a :: b :: l))), [], proposed (node0 a) (a :: b :: l)) ([], [], proposed (node0 a) (a :: b :: l)) (cond (cond (cond false true ((IntKind.i64.wrap ((0 : Int) + 0)) != 0)) true (!(!(((1 : Int) == 0) && (a == a))))) true (!(((1 : Int) == 1) && (a == a)))) = some true
      rw [hz]
      exact asks_first h2 hup rfl
    · have s1 : member_Node_Suggest.f (node0 (a :: b :: l)[i]) (a :: b :: l) = some ([], [], node0 (a :: b :: l)[i]) := suggest_not (v := node0 (a :: b :: l)[i]) hup (fun e => he e.symm)
      rw [s1, Option.bind_some]
      show ((member_Node_Suggest.f (node0 (a :: b :: l)[i]) (a :: b :: l)).bind _) = _
      rw [s1, Option.bind_some, show idxL (a :: b :: l) (0 : Int) = some a from rfl, Option.bind_some, show ((a :: b :: l)[i] != a) = true by simpa using he, cond_true]
      generalize (a :: b :: l)[i] = me at hme
      show cond ((IntKind.i64.wrap ((IntKind.i64.wrap ((0 : Int) + 0)) + 0)) == 0) _ _ = _
      rw [show ((IntKind.i64.wrap ((IntKind.i64.wrap ((0 : Int) + 0)) + 0)) == 0) = true from rfl, cond_true]
      unfold member_Node_Flushing.f
      rw [Option.bind_some]
      show gemotlaw12_MemberAsks.k3 (cond true (!(!(((0 : Int) == 0) && (me == me)))) false) = _
      rw [show (((0 : Int) == 0) && (me == me)) = true by simp]
      rfl
theorem asks_row {w : World} {x0 x1 x2 : Int} (h1 : inI64 x1) (h2 : inI64 x2) : Calls Try.prog 3 #[.int .i64 x0, .int .i64 x1, .int .i64 x2] w fun e w' => ∃ v, e = .returned v ∧ v = .bool true ∧ Below w.heap.size w w' :=
  (gemotlaw12_MemberAsks_ok (ok := fun _ => False) (asks_law h1 h2)).mono fun e w' ⟨v, e1, e2, e3⟩ => ⟨v, e1, e2, e3.toBelow⟩
end Go.Proofs.Ytipoblinefamgaa.G
