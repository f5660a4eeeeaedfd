/- MemberFlush, as it is reckoned: what a node has been told by then; what it installs. -/
import Derived.Test.YtipoblinefamgaaCutO
import Derived.Test.YtipoblinefamgaaMbAsk
namespace Go.Proofs.Ytipoblinefamgaa.G
open Go.RowKit Go.Eng Go.Proofs Go.Proofs.Ytipoblinefamgaa.Cut
set_option linter.unusedVariables false
set_option linter.unusedSimpArgs false
set_option maxRecDepth 100000

def itF (n : Nat) : List (List UInt8) := (List.range n).map fun (i : Nat) => countedT 117 (i : Int)
theorem itF_succ (n : Nat) : itF (n + 1) = itF n ++ [countedT 117 (n : Int)] := by simp [itF, List.range_succ]
theorem itF_len (n : Nat) : (itF n).length = n := by simp [itF]
theorem itF_all (n : Nat) : ∀ t ∈ itF n, ∃ k, t = countedT 117 k := fun t ht => by
  unfold itF at ht
  obtain ⟨i, -, rfl⟩ := List.mem_map.1 ht
  exact ⟨_, rfl⟩
end Go.Proofs.Ytipoblinefamgaa.G
/- MemberOnce: a node that is alone casts. -/
namespace Go.Proofs.Ytipoblinefamgaa.G
open Go.RowKit Go.Eng Go.Proofs Go.Proofs.Ytipoblinefamgaa.Cut
set_option linter.unusedVariables false
set_option linter.unusedSimpArgs false

/-- A node that is alone, in a view. -/
abbrev nodeO (p e : Int) (rows : List (Int × List (List UInt8))) : O_member_Node := { me_ := p, view_ := ((e, p), [p]), rows_ := rows, promised_ := ((e, p), [p]), seen_ := (e, p), plan_ := none, early_ := [], outs_ := [], events_ := [] }
def rowsO (p : Int) : Nat → List (Int × List (List UInt8))
  | 0 => []
  | i + 1 => [(p, itF (i + 1))]
theorem rowsO_get (p : Int) (i : Nat) : (getA p (rowsO p i)).getD [] = itF i := by
  cases i with
  | zero => rfl
  | succ i => simp [rowsO, getA]
theorem rowsO_put (p : Int) (i : Nat) : putA p (itF i ++ [countedT 117 (i : Int)]) (rowsO p i) = rowsO p (i + 1) := by
  rw [← itF_succ]
  cases i with
  | zero => rfl
  | succ i => simp [rowsO, putA]
theorem tell_self (v : O_member_Node) (m : D_list_Message) : member_Node_tell.f v [v.me_] m = some v := by
  have : loopM (fun s283 : O_member_Node × Int => member_Node_tell.b2 [v.me_] m s283.1 s283.2) (v, (0 : Int)) = some v := by
    refine loop_count (fun i => (v, (i : Int))) 1 (fun i hi => ?_) ?_
    · obtain rfl : i = 0 := by omega
      show member_Node_tell.b2 [v.me_] m v ((0 : Nat) : Int) = _
      unfold member_Node_tell.b2
      rw [cond_t (by simp), show idxL [v.me_] ((0 : Nat) : Int) = some v.me_ from rfl, Option.bind_some, bne_self_eq_false, cond_false]
      rfl
    · show member_Node_tell.b2 [v.me_] m v ((1 : Nat) : Int) = _
      unfold member_Node_tell.b2
      rw [cond_f (by simp)]
  unfold member_Node_tell.f
  rw [this]; rfl
theorem num_is (n : Int) : term_Right.f (countedT 117 n) = some true := by
  rw [right_spec (by simp [countedT, bytesOf_length])]
  exact congrArg some (num_right n)
theorem deliver_on {p e : Int} {i : Nat} (hi : i < 40) : member_Node_deliver.f (nodeO p e (rowsO p i)) p (countedT 117 (i : Int)) = some ({ nodeO p e (rowsO p (i + 1)) with events_ := [(1, ((e, p), [p]), p, ((i + 1 : Nat) : Int), countedT 117 (i : Int))] } : O_member_Node) := by
  unfold member_Node_deliver.f
  have h1 : (getA p (nodeO p e (rowsO p i)).rows_).getD [] = itF i := rowsO_get p i
  have h2 : putA p (itF i ++ [countedT 117 (i : Int)]) (nodeO p e (rowsO p i)).rows_ = rowsO p (i + 1) := rowsO_put p i
  rw [h1, h2, rowsO_get, itF_len, itF_len, room_of (by omega)]
  unfold member_Node_View.f
  show (((slices_Clone_int_int.f [p]).bind _).bind _) = _
  rw [clone_eq (by simp), Option.bind_some, Option.bind_some, room_of (by show (0 + 1) * 80 ≤ _; omega)]
  rfl
theorem cast_on {p e : Int} {i : Nat} (hi : i < 32) : member_Node_Cast.f (nodeO p e (rowsO p i)) (countedT 117 (i : Int)) = some ([], [(1, ((e, p), [p]), p, ((i + 1 : Nat) : Int), countedT 117 (i : Int))], 0, nodeO p e (rowsO p (i + 1))) := by
  unfold member_Node_Cast.f member_Node_Flushing.f
  rw [Option.bind_some]
  show cond (!((e == e) && (p == p))) _ _ = _
  rw [show (!((e == e) && (p == p))) = false by simp, cond_false]
  show cond ((((getA p (rowsO p i)).getD []).length : Int) == (32 : Int)) _ _ = _
  rw [rowsO_get, itF_len, show (((i : Nat) : Int) == (32 : Int)) = false from beq_eq_false_iff_ne.2 (by omega), cond_false, num_is, Option.bind_some]
  show cond false _ ((member_Node_deliver.f (nodeO p e (rowsO p i)) p (countedT 117 (i : Int))).bind _) = _
  rw [cond_false, deliver_on (by omega), Option.bind_some]
  show ((member_Node_tell.f ({ nodeO p e (rowsO p (i + 1)) with events_ := [(1, ((e, p), [p]), p, ((i + 1 : Nat) : Int), countedT 117 (i : Int))] } : O_member_Node) [p] _).bind _) = _
  rw [tell_self ({ nodeO p e (rowsO p (i + 1)) with events_ := [(1, ((e, p), [p]), p, ((i + 1 : Nat) : Int), countedT 117 (i : Int))] } : O_member_Node), Option.bind_some]
  rfl
theorem cast_off {p e : Int} (t : List UInt8) : member_Node_Cast.f (nodeO p e (rowsO p 32)) t = some ([], [], 10, nodeO p e (rowsO p 32)) := by
  unfold member_Node_Cast.f member_Node_Flushing.f
  rw [Option.bind_some]
  show cond (!((e == e) && (p == p))) _ _ = _
  rw [show (!((e == e) && (p == p))) = false by simp, cond_false]
  show cond ((((getA p (rowsO p 32)).getD []).length : Int) == (32 : Int)) _ _ = _
  rw [rowsO_get, itF_len]
  rfl
end Go.Proofs.Ytipoblinefamgaa.G
/- MemberOnce: a node that is alone goes on to a view of its own. -/
namespace Go.Proofs.Ytipoblinefamgaa.G
open Go.RowKit Go.Eng Go.Proofs Go.Proofs.Ytipoblinefamgaa.Cut
set_option linter.unusedVariables false
set_option linter.unusedSimpArgs false

theorem rowsO_other {p q : Int} {i : Nat} (h : p ≠ q) : (getA q (rowsO p i)).getD [] = [] := by
  cases i with
  | zero => rfl
  | succ i => simp [rowsO, getA, Ne.symm h]
theorem cloneT_eq {l : List (List UInt8)} (hl : l.length ≤ 1000) : slices_Clone_term_Term_term_Term.f l = some l := by
  unfold slices_Clone_term_Term_term_Term.f
  rw [given_of (by omega)]
theorem logs_on {v : O_member_Node} {p : Int} {c : Nat} (hp : 1 ≤ p ∧ p ≤ 8) (hr : v.rows_ = rowsO p c) (hc : c ≤ 40) : member_Node_Logs.f v = some (rowsO p c) := by
  cases c with
  | zero => exact logs_none hr
  | succ c =>
    have : loopM (fun s905 : (List D_cut_Log) × Int => member_Node_Logs.b2 v s905.1 s905.2) (([] : List D_cut_Log), (1 : Int)) = some (rowsO p (c + 1)) := by
      have := loop_count (body := fun s905 : (List D_cut_Log) × Int => member_Node_Logs.b2 v s905.1 s905.2) (fun i => ((if p ≤ (i : Int) then rowsO p (c + 1) else [] : List D_cut_Log), ((i + 1 : Nat) : Int))) 8 (fun i hi => ?_) (o := rowsO p (c + 1)) ?_
      · rw [← this, if_neg (by omega)]
        rfl
      · show member_Node_Logs.b2 v (if p ≤ (i : Int) then rowsO p (c + 1) else []) ((i + 1 : Nat) : Int) = _
        unfold member_Node_Logs.b2 member_Node_Logs.k1
        rw [cond_t (by omega), hr, wrap1 (i + 1) (by omega)]
        by_cases e : p = ((i + 1 : Nat) : Int)
        · rw [if_neg (by omega), if_pos (by omega)]
          rw [← e, rowsO_get, itF_len, cond_t (by omega), cloneT_eq (by rw [itF_len]; omega), Option.bind_some, room_of (by simp)]
          rfl
        · rw [rowsO_other e, cond_f (by simp)]
          by_cases h : p ≤ (i : Int)
          · rw [if_pos h, if_pos (by omega)]
          · rw [if_neg h, if_neg (by omega)]
      · show member_Node_Logs.b2 v (if p ≤ ((8 : Nat) : Int) then rowsO p (c + 1) else []) ((8 + 1 : Nat) : Int) = _
        unfold member_Node_Logs.b2
        rw [cond_f (by omega), if_pos (by omega)]
    unfold member_Node_Logs.f
    rw [this]; rfl
/-- A node that is alone, as it is about to enter its next view. -/
abbrev vS (p e : Int) (c : Nat) : O_member_Node := { me_ := p, view_ := ((e, p), [p]), rows_ := rowsO p c, promised_ := ((e + 6, p), [p]), seen_ := (e + 6, p), plan_ := some { told_ := [(p, (p, (e, p), rowsO p c))] }, early_ := [], outs_ := [], events_ := [] }
abbrev vE (p e : Int) : O_member_Node := { nodeO p e [] with events_ := [((2 : Int), ((e, p), [p]), (0 : Int), (0 : Int), ([] : List UInt8))] }
theorem rowsO_all {p : Int} {c : Nat} : ∀ g ∈ rowsO p c, g.1 = p ∧ 0 < g.2.length ∧ g.2.length ≤ c := fun g hg => by
  cases c with
  | zero => cases hg
  | succ c =>
    rw [show rowsO p (c + 1) = [(p, itF (c + 1))] from rfl, List.mem_singleton] at hg
    subst hg
    exact ⟨rfl, by show 0 < (itF (c + 1)).length; rw [itF_len]; omega, by show (itF (c + 1)).length ≤ _; rw [itF_len]; omega⟩
theorem rowsO_len (p : Int) (c : Nat) : (rowsO p c).length ≤ 1 := by cases c <;> simp [rowsO]
theorem rowsO_up (p : Int) (c : Nat) : ((rowsO p c).map (·.1)).Pairwise (· < ·) := by
  cases c with
  | zero => exact .nil
  | succ c => exact List.pairwise_singleton _ _
theorem enter_alone {p e : Int} {c : Nat} (hp : 1 ≤ p ∧ p ≤ 8) (hc : c ≤ 40) : member_Node_enter.f (vS p e c) ((e + 6, p), [p]) (partsOf (e, p) (rowsO p c)) = some (vE p (e + 6)) := by
  have hl := rowsO_len p c
  unfold member_Node_enter.f
  rw [logs_on (v := vS p e c) hp rfl hc, Option.bind_some]
  show ((cut_Missing.f (partsOf (e, p) (rowsO p c)) (e, p) (rowsO p c)).bind _) = _
  rw [miss_of (by unfold partsOf; rw [List.length_map]; omega) (by omega) (fun x hx => by
    unfold partsOf at hx
    obtain ⟨g, hg, rfl⟩ := List.mem_map.1 hx
    have := (rowsO_all g hg).2.2
    show g.2.length ≤ _
    omega) (fun x hx => by have := (rowsO_all x hx).2.2; omega), missL_own _ _ _ (fun g hg => ownOf_mem _ g ((rowsO_up p c).imp fun h => Int.ne_of_lt h) hg), Option.bind_some]
  have hL : loopM (fun s1762 : O_member_Node × Int => member_Node_enter.b3 ((e + 6, p), [p]) [] s1762.1 s1762.2) (vS p e c, (0 : Int)) = some (vS p e c) :=
    loop_count (fun i => (vS p e c, (i : Int))) 0 (fun i hi => absurd hi (by omega)) (by
      show member_Node_enter.b3 ((e + 6, p), [p]) [] (vS p e c) ((0 : Nat) : Int) = _
      unfold member_Node_enter.b3
      rw [cond_f (by simp)])
  rw [hL, Option.bind_some]
  unfold member_Node_enter.k7 member_Node_enter.k6 member_Node_View.f
  show (((slices_Clone_int_int.f [p]).bind _).bind _) = _
  rw [clone_eq (by simp), Option.bind_some, Option.bind_some, room_of (by show (0 + 1) * 80 ≤ _; omega)]
  have hE : loopM (fun s2724 : O_member_Node × (List D_member_cast) × Int => member_Node_enter.b5 ((e + 6, p), [p]) (vS p e c) s2724.1 s2724.2.1 s2724.2.2) (vE p (e + 6), [], (0 : Int)) = some (vE p (e + 6)) :=
    loop_count (fun i => (vE p (e + 6), [], (i : Int))) 0 (fun i hi => absurd hi (by omega)) (by
      show member_Node_enter.b5 ((e + 6, p), [p]) (vS p e c) (vE p (e + 6)) [] ((0 : Nat) : Int) = _
      unfold member_Node_enter.b5
      exact cond_f (by simp))
  show ((loopM (fun s2724 : O_member_Node × (List D_member_cast) × Int => member_Node_enter.b5 ((e + 6, p), [p]) (vS p e c) s2724.1 s2724.2.1 s2724.2.2) (vE p (e + 6), [], (0 : Int))).bind _) = _
  rw [hE]; rfl
theorem finish_alone {p e : Int} {c : Nat} (hp : 1 ≤ p ∧ p ≤ 8) (hc : c ≤ 40) : member_Node_finish.f (vS p e c) = some (vE p (e + 6)) := by
  have hl := rowsO_len p c
  have hL : loopM (fun s541 : O_member_Node × (List D_cut_Report) × Int => member_Node_finish.b1 (vS p e c) s541.1 s541.2.1 s541.2.2) (vS p e c, ([] : List D_cut_Report), (0 : Int)) = some (.inl (vS p e c, [(p, (e, p), rowsO p c)])) := by
    refine loop_count (fun i => (vS p e c, (if i = 0 then [] else [(p, (e, p), rowsO p c)] : List D_cut_Report), (i : Int))) 1 (fun i hi => ?_) ?_
    · obtain rfl : i = 0 := by omega
      show member_Node_finish.b1 (vS p e c) (vS p e c) [] ((0 : Nat) : Int) = _
      unfold member_Node_finish.b1
      have hg : getA p [(p, ((p, (e, p), rowsO p c) : D_cut_Report))] = some (p, (e, p), rowsO p c) := by simp [getA]
      rw [cond_t (by simp), show idxL ((vS p e c).promised_.2) ((0 : Nat) : Int) = some p from rfl, Option.bind_some, Option.bind_some]
      show cond (!((getA p [(p, ((p, (e, p), rowsO p c) : D_cut_Report))]).isSome)) _ (roomM 48 1 (some (Sum.inl (vS p e c, [(((getA p [(p, ((p, (e, p), rowsO p c) : D_cut_Report))]).getD ((0 : Int), ((0 : Int), (0 : Int)), ([] : List D_cut_Log))).1, ((((getA p [(p, ((p, (e, p), rowsO p c) : D_cut_Report))]).getD ((0 : Int), ((0 : Int), (0 : Int)), ([] : List D_cut_Log))).2.1).1, (((getA p [(p, ((p, (e, p), rowsO p c) : D_cut_Report))]).getD ((0 : Int), ((0 : Int), (0 : Int)), ([] : List D_cut_Log))).2.1).2), ((getA p [(p, ((p, (e, p), rowsO p c) : D_cut_Report))]).getD ((0 : Int), ((0 : Int), (0 : Int)), ([] : List D_cut_Log))).2.2)], IntKind.i64.wrap (((0 : Nat) : Int) + 1))) : Option ((O_member_Node × (List D_cut_Report) × Int) ⊕ ((O_member_Node × (List D_cut_Report)) ⊕ O_member_Node)))) = _
      rw [hg]
      rfl
    · show member_Node_finish.b1 (vS p e c) (vS p e c) [(p, (e, p), rowsO p c)] ((1 : Nat) : Int) = _
      unfold member_Node_finish.b1
      rw [cond_f (by simp)]
  have hk2 : member_Node_finish.k2 (partsOf (e, p) (rowsO p c)) (vS p e c) = some (vE p (e + 6)) := by
    unfold member_Node_finish.k2
    show ((member_Node_enter.f (vS p e c) ((e + 6, p), [p]) (partsOf (e, p) (rowsO p c))).bind _) = _
    rw [enter_alone hp hc]; rfl
  have hcut : cut_Cut.f [((p, (e, p), rowsO p c) : D_cut_Report)] = some (partsOf (e, p) (rowsO p c)) :=
    cut_one (p, (e, p), rowsO p c) (by show (rowsO p c).length ≤ _; omega) (fun g hg => ⟨(rowsO_all g hg).2.1, by have := (rowsO_all g hg).2.2; omega⟩) (rowsO_up p c)
  obtain ⟨ts, er, hts⟩ : ∃ ts er, cut_Parts.f (partsOf (e, p) (rowsO p c)) = some (ts, er) := by
    rcases cutParts_spec (l := partsOf (e, p) (rowsO p c)) (by unfold partsOf; rw [List.length_map]; omega) (fun x hx => by
      unfold partsOf at hx
      obtain ⟨g, hg, rfl⟩ := List.mem_map.1 hx
      have := (rowsO_all g hg).2.2
      show g.2.length ≤ _
      omega) (fun x hx t ht => by
      unfold partsOf at hx
      obtain ⟨g, hg, rfl⟩ := List.mem_map.1 hx
      cases c with
      | zero => cases hg
      | succ c =>
        rw [show rowsO p (c + 1) = [(p, itF (c + 1))] from rfl, List.mem_singleton] at hg
        subst hg
        obtain ⟨k, rfl⟩ := itF_all _ t ht
        simp [countedT, bytesOf_length]) with ⟨_, h⟩ | ⟨_, h⟩
    · cases hm : mapO partO (partsOf (e, p) (rowsO p c)) with
      | none => rw [hm] at h; exact ⟨_, _, h⟩
      | some x => rw [hm] at h; exact ⟨_, _, h⟩
    · exact ⟨_, _, h⟩
  unfold member_Node_finish.f
  rw [hL, Option.bind_some]
  show member_Node_finish.k3 (vS p e c) [(p, (e, p), rowsO p c)] = _
  unfold member_Node_finish.k3
  rw [hcut, Option.bind_some, hts, Option.bind_some]
  cases hz : (er == (0 : Int)) with
  | true =>
    rw [cond_true]
    show ((slices_Clone_int_int.f [p]).bind _) = _
    rw [clone_eq (by simp), Option.bind_some]
    show ((member_Node_tell.f (vS p e c) [(vS p e c).me_] _).bind _) = _
    rw [tell_self, Option.bind_some]
    exact hk2
  | false =>
    rw [cond_false]
    exact hk2
end Go.Proofs.Ytipoblinefamgaa.G
/- MemberOnce, as it is reckoned: the law. -/
namespace Go.Proofs.Ytipoblinefamgaa.G
open Go.RowKit Go.Eng Go.Proofs Go.Proofs.Ytipoblinefamgaa.Cut
set_option linter.unusedVariables false
set_option linter.unusedSimpArgs false

/-- A node that is alone and was told of a later id. -/
abbrev nodeH (p e : Int) (c : Nat) : O_member_Node := { nodeO p e (rowsO p c) with seen_ := (e + 5, 1) }
theorem heed_alone {p e : Int} {c : Nat} (hp : 1 ≤ p ∧ p ≤ 8) (he : 0 ≤ e ∧ e ≤ 1000) : member_Node_Heed.f (nodeO p e (rowsO p c)) (e + 5, 1) = some (nodeH p e c) := by
  unfold member_Node_Heed.f
  have hl : view_Less.f (e, p) (e + 5, 1) = some true := by
    unfold view_Less.f
    rw [idLt_dec, decide_eq_true (.inl (by omega))]
  show ((view_Less.f (e, p) (e + 5, 1)).bind _) = _
  rw [hl, Option.bind_some]
  show cond (cond true (decide (e + 5 ≤ 2147483646)) false) _ _ = _
  rw [decide_eq_true (by omega)]
  rfl
theorem suggest_alone {p e : Int} {c : Nat} (hp : 1 ≤ p ∧ p ≤ 8) (he : 0 ≤ e ∧ e ≤ 1000) (hc : c ≤ 40) : member_Node_Suggest.f (nodeH p e c) [p] = some ([], [((2 : Int), ((e + 6, p), [p]), (0 : Int), (0 : Int), ([] : List UInt8))], nodeO p (e + 6) []) := by
  have hup : upRow [p] := ⟨List.pairwise_singleton _ _, fun x hx => by rw [List.mem_singleton] at hx; subst hx; exact hp⟩
  have hn : view_Next.f (e + 5, 1) p = some (e + 6, p) := by
    unfold view_Next.f
    show some (IntKind.i64.wrap (e + 5 + 1), p) = _
    rw [Eng.i64_id (by omega) (by omega), show e + 5 + 1 = e + 6 by omega]
  have hk1 : member_Node_Suggest.k1 [p] (vS p e c) = some ([], [((2 : Int), ((e + 6, p), [p]), (0 : Int), (0 : Int), ([] : List UInt8))], nodeO p (e + 6) []) := by
    unfold member_Node_Suggest.k1
    rw [clone_eq (by simp), Option.bind_some]
    show ((member_Node_tell.f (vS p e c) [(vS p e c).me_] _).bind _) = _
    rw [tell_self, Option.bind_some, finish_alone hp hc, Option.bind_some]
    rfl
  have hk2 : member_Node_Suggest.k2 (nodeH p e c) [p] = some ([], [((2 : Int), ((e + 6, p), [p]), (0 : Int), (0 : Int), ([] : List UInt8))], nodeO p (e + 6) []) := by
    unfold member_Node_Suggest.k2
    show ((view_Next.f (e + 5, 1) p).bind _) = _
    rw [hn, Option.bind_some, clone_eq (by simp), Option.bind_some, logs_on (p := p) (c := c) hp rfl hc, Option.bind_some]
    exact hk1
  unfold member_Node_Suggest.f
  rw [row_true hup (by simp), Option.bind_some, Bool.not_true, cond_false, show idxL [p] (0 : Int) = some p from rfl, Option.bind_some]
  show member_Node_Suggest.k5 (nodeH p e c) [p] (cond (cond false true (p != p)) true (decide (e + 5 ≥ 2147483646))) = _
  rw [bne_self_eq_false, cond_false, cond_false, decide_eq_false (by omega)]
  unfold member_Node_Suggest.k5
  rw [cond_false]
  show cond (!((e + 5 == e) && ((1 : Int) == p))) _ _ = _
  rw [show (e + 5 == e) = false from beq_eq_false_iff_ne.2 (by omega)]
  exact hk2
theorem min32 {i : Nat} (h : ¬ i < 32) : min i 32 = 32 := by omega
theorem strEq_same (s : List UInt8) : strEq s s = true := by simp [strEq]
theorem round_on {x1 x2 y7 v e p : Int} {n : Nat} (hn : n < 40) (hpk : gemotlaw12_pick.f x1 (40 : Int) = some (n : Int)) (hw : IntKind.i64.wrap ((1 : Int) + y7) = p) :
    loopM (fun s75570 : (Option O_member_Node) × Int => gemotlaw12_MemberOnce.b3 x1 x2 y7 v s75570.1 s75570.2) (some (nodeO p e []), (0 : Int)) = some (.inl (some (nodeO p e (rowsO p (min n 32))))) := by
  refine loop_count (fun i => (some (nodeO p e (rowsO p (min i 32))), (i : Int))) n (fun i hi => ?_) ?_
  · show gemotlaw12_MemberOnce.b3 x1 x2 y7 v (some (nodeO p e (rowsO p (min i 32)))) (i : Int) = _
    unfold gemotlaw12_MemberOnce.b3 term_Number.f
    rw [hpk, Option.bind_some, cond_t (by omega), Option.bind_some, Eng.u64_id (by omega) (by omega), Option.bind_some]
    by_cases h : i < 32
    · rw [show min i 32 = i by omega, show min (i + 1) 32 = i + 1 by omega, cast_on h, Option.bind_some, cond_f (by omega)]
      have hidx : idxL [((1 : Int), ((e, p), [p]), p, ((i + 1 : Nat) : Int), countedT 117 (i : Int))] (0 : Int) = some ((1 : Int), ((e, p), [p]), p, ((i + 1 : Nat) : Int), countedT 117 (i : Int)) := rfl
      dsimp only
      rw [hw, wrap1 i (by omega), hidx]
      simp only [Option.bind_some, bne_self_eq_false, cond_false, strEq_same, Bool.not_true]
      show gemotlaw12_MemberOnce.k2 x1 x2 y7 v (i : Int) ([], [((1 : Int), ((e, p), [p]), p, ((i + 1 : Nat) : Int), countedT 117 (i : Int))], 0, nodeO p e (rowsO p (i + 1))) false = _
      unfold gemotlaw12_MemberOnce.k2 gemotlaw12_MemberOnce.k1
      rw [wrap1 i (by omega)]
      rfl
    · rw [min32 h, min32 (by omega), cast_off, Option.bind_some, cond_t (by omega)]
      unfold gemotlaw12_MemberOnce.k1
      rw [wrap1 i (by omega)]
      rfl
  · show gemotlaw12_MemberOnce.b3 x1 x2 y7 v (some (nodeO p e (rowsO p (min n 32)))) (n : Int) = _
    unfold gemotlaw12_MemberOnce.b3
    rw [hpk, Option.bind_some, cond_f (by omega)]
theorem views_on {x1 x2 y7 : Int} {n m : Nat} (hy : 0 ≤ y7 ∧ y7 < 8) (hn : n < 40) (hm : m < 3) (hpk : gemotlaw12_pick.f x1 (40 : Int) = some (n : Int)) (hpm : gemotlaw12_pick.f x2 (3 : Int) = some (m : Int)) :
    loopM (fun s66895 : (Option O_member_Node) × Int => gemotlaw12_MemberOnce.b7 x1 x2 y7 s66895.1 s66895.2) (some (nodeO (1 + y7) 0 []), (0 : Int)) = some (.inl ()) := by
  have hw : IntKind.i64.wrap ((1 : Int) + y7) = 1 + y7 := Eng.i64_id (by omega) (by omega)
  have hwm : IntKind.i64.wrap ((1 : Int) + (m : Int)) = ((m + 1 : Nat) : Int) := by rw [Eng.i64_id (by omega) (by omega)]; omega
  refine loop_count (fun i => (some (nodeO (1 + y7) (6 * (i : Int)) []), (i : Int))) (m + 1) (fun i hi => ?_) ?_
  · show gemotlaw12_MemberOnce.b7 x1 x2 y7 (some (nodeO (1 + y7) (6 * (i : Int)) [])) (i : Int) = _
    unfold gemotlaw12_MemberOnce.b7
    rw [hpm, Option.bind_some, hwm, cond_t (by omega), round_on hn hpk hw, Option.bind_some]
    show gemotlaw12_MemberOnce.k6 x1 x2 y7 (i : Int) (some (nodeO (1 + y7) (6 * (i : Int)) (rowsO (1 + y7) (min n 32)))) = _
    have hp : 1 ≤ 1 + y7 ∧ 1 + y7 ≤ 8 := by omega
    unfold gemotlaw12_MemberOnce.k6
    rw [Option.bind_some, hw]
    generalize 1 + y7 = p at hp
    generalize he : 6 * (i : Int) = e
    have he2 : 6 * ((i + 1 : Nat) : Int) = e + 6 := by omega
    have hv : ∀ e r, member_Node_View.f (nodeO p e r) = some ((e, p), [p]) := fun e r => by
      unfold member_Node_View.f
      show ((slices_Clone_int_int.f [p]).bind _) = _
      rw [clone_eq (by simp)]; rfl
    rw [hv, Option.bind_some]
    dsimp only
    rw [Eng.i64_id (x := e + 5) (by omega) (by omega), heed_alone hp (by omega), Option.bind_some, suggest_alone hp (by omega) (by omega), Option.bind_some]
    dsimp only
    have hlg : member_Node_Logs.f (nodeO p (e + 6) []) = some [] := logs_none rfl
    have hidx : idxL [((2 : Int), ((e + 6, p), [p]), (0 : Int), (0 : Int), ([] : List UInt8))] (0 : Int) = some ((2 : Int), ((e + 6, p), [p]), (0 : Int), (0 : Int), ([] : List UInt8)) := rfl
    have hfl : member_Node_Flushing.f (nodeO p (e + 6) []) = some false := by
      unfold member_Node_Flushing.f
      show some (!((e + 6 == e + 6) && (p == p))) = _
      simp
    rw [hidx, hv, Option.bind_some, Option.bind_some, Option.bind_some, Eng.i64_id (x := e + 6) (by omega) (by omega), hlg, hfl]
    simp only [Option.bind_some, bne_self_eq_false, cond_false]
    rw [he2]
    unfold gemotlaw12_MemberOnce.k5 gemotlaw12_MemberOnce.k4
    rw [wrap1 i (by omega)]
    rfl
  · show gemotlaw12_MemberOnce.b7 x1 x2 y7 (some (nodeO (1 + y7) (6 * ((m + 1 : Nat) : Int)) [])) ((m + 1 : Nat) : Int) = _
    unfold gemotlaw12_MemberOnce.b7
    rw [hpm, Option.bind_some, hwm, cond_f (by omega)]
theorem once_law {x0 x1 x2 : Int} (h0 : inI64 x0) (h1 : inI64 x1) (h2 : inI64 x2) : gemotlaw12_MemberOnce.f x0 x1 x2 = some true := by
  obtain ⟨y7, e0, a0, a1⟩ := pick12 h0 (n := 8) (by decide)
  obtain ⟨n', e1, b0, b1⟩ := pick12 h1 (n := 40) (by decide)
  obtain ⟨m', e2, c0, c1⟩ := pick12 h2 (n := 3) (by decide)
  obtain ⟨n, rfl⟩ : ∃ n : Nat, n' = (n : Int) := ⟨n'.toNat, by omega⟩
  obtain ⟨m, rfl⟩ : ∃ m : Nat, m' = (m : Int) := ⟨m'.toNat, by omega⟩
  unfold gemotlaw12_MemberOnce.f
  rw [shown12, Option.bind_some, e0, Option.bind_some, Eng.i64_id (x := 1 + y7) (by omega) (by omega), new12 (p := 1 + y7) (by omega), Option.bind_some]
  show cond false _ ((loopM (fun s66895 : (Option O_member_Node) × Int => gemotlaw12_MemberOnce.b7 x1 x2 y7 s66895.1 s66895.2) (some (nodeO (1 + y7) 0 []), (0 : Int))).bind _) = _
  rw [cond_false, views_on ⟨a0, a1⟩ (by omega) (by omega) e1 e2]
  rfl
theorem once_row {w : World} {x0 x1 x2 : Int} (h0 : inI64 x0) (h1 : inI64 x1) (h2 : inI64 x2) : Calls Try.prog 5 #[.int .i64 x0, .int .i64 x1, .int .i64 x2] w fun e w' => ∃ v, e = .returned v ∧ v = .bool true ∧ Below w.heap.size w w' :=
  (gemotlaw12_MemberOnce_ok (ok := fun _ => False) (once_law h0 h1 h2)).mono fun e w' ⟨v, e1, e2, e3⟩ => ⟨v, e1, e2, e3.toBelow⟩
end Go.Proofs.Ytipoblinefamgaa.G
