/- Chapter 12, one node: what it is told of who should be together, as it is reckoned. -/
import Derived.Test.YtipoblinefamgaaPackM
import Derived.Test.YtipoblinefamgaaML
namespace Go.Proofs.Ytipoblinefamgaa.G
open Go.RowKit Go.Eng Go.Proofs Go.Proofs.Ytipoblinefamgaa.Cut
set_option linter.unusedVariables false
set_option linter.unusedSimpArgs false

theorem row_true {l : List Int} (h : upRow l) (hn : l ≠ []) : view_Row.f l = some true := by
  have hlen := h.len
  have hL : ∀ k i last, i + k = l.length → (∀ x ∈ l.drop i, last < x) → 0 ≤ last → (last = 0 → i < l.length) → ∃ z : Int, 0 < z ∧ loopM (fun s98 : Int × Int => view_Row.b1 l s98.1 s98.2) (last, (i : Int)) = some (Sum.inl z) := by
    intro k
    induction k with
    | zero =>
      intro i last hi _ h0 h1
      refine ⟨last, by
        rcases Int.lt_or_eq_of_le h0 with q | q
        · exact q
        · exact absurd (h1 q.symm) (by omega), loop_end ?_⟩
      show view_Row.b1 l last (i : Int) = _
      unfold view_Row.b1
      rw [cond_f (by omega)]
    | succ k ih =>
      intro i last hi hl h0 _
      have hil : i < l.length := by omega
      have hd : l.drop i = l[i] :: l.drop (i + 1) := List.drop_eq_getElem_cons hil
      have hp := h.1.drop (i := i)
      rw [hd] at hl hp
      have h1 := hl _ List.mem_cons_self
      have h2 := h.2 _ (List.getElem_mem hil)
      obtain ⟨z, z1, z2⟩ := ih (i + 1) l[i] (by omega) (List.pairwise_cons.1 hp).1 (by omega) (fun e => by omega)
      refine ⟨z, z1, loop_step ?_ z2⟩
      show view_Row.b1 l last (i : Int) = _
      unfold view_Row.b1
      rw [cond_t (by omega), idxL_lt hil, Option.bind_some, decide_eq_false (by omega), cond_false, cond_f (by omega), wrap1 i (by omega)]
  obtain ⟨z, z1, z2⟩ := hL l.length 0 0 (by omega) (fun x hx => by have := h.2 x (List.mem_of_mem_drop hx); omega) (by omega) (fun _ => List.length_pos_iff.2 hn)
  unfold view_Row.f
  rw [show loopM (fun s98 : Int × Int => view_Row.b1 l s98.1 s98.2) ((0 : Int), (0 : Int)) = _ from z2]
  show view_Row.k2 z = _
  unfold view_Row.k2
  rw [decide_eq_true (show z > 0 from z1)]
theorem equal_eq {a b : List Int} (hl : a.length ≤ 1000) : slices_Equal_int_int.f a b = some (decide (a = b)) := by
  unfold slices_Equal_int_int.f
  by_cases hn : a.length = b.length
  · rw [show ((a.length : Int) != (b.length : Int)) = false by rw [hn]; exact bne_self_eq_false _, cond_false]
    have hL : ∀ k i, i + k = a.length → loopM (fun s146 : Int => slices_Equal_int_int.b1 a b s146) (i : Int) = some (if a.drop i = b.drop i then Sum.inl () else Sum.inr false) := by
      intro k
      induction k with
      | zero =>
        intro i hi
        refine loop_end ?_
        show slices_Equal_int_int.b1 a b (i : Int) = _
        unfold slices_Equal_int_int.b1
        rw [cond_f (by omega), List.drop_of_length_le (by omega), List.drop_of_length_le (by omega), if_pos rfl]
      | succ k ih =>
        intro i hi
        have ha : i < a.length := by omega
        have hb : i < b.length := by omega
        have hbody : slices_Equal_int_int.b1 a b (i : Int) = if a[i] = b[i] then some (.inl ((i + 1 : Nat) : Int)) else some (.inr (.inr false)) := by
          unfold slices_Equal_int_int.b1
          rw [cond_t (by omega), idxL_lt ha, Option.bind_some, idxL_lt hb, Option.bind_some, wrap1 i (by omega)]
          by_cases e : a[i] = b[i]
          · rw [if_pos e, e, bne_self_eq_false, cond_false]
          · rw [if_neg e, show (a[i] != b[i]) = true by simpa using e, cond_true]
        rw [List.drop_eq_getElem_cons ha, List.drop_eq_getElem_cons hb]
        by_cases e : a[i] = b[i]
        · rw [if_pos e] at hbody
          refine loop_step hbody ?_
          rw [ih (i + 1) (by omega)]
          by_cases e2 : a.drop (i + 1) = b.drop (i + 1)
          · rw [if_pos e2, if_pos (by rw [e, e2])]
          · rw [if_neg e2, if_neg (fun q => e2 (List.cons.inj q).2)]
        · rw [if_neg e] at hbody
          rw [if_neg (fun q => e (List.cons.inj q).1)]
          exact loop_end hbody
    have := hL a.length 0 (by omega)
    rw [show loopM (fun s146 : Int => slices_Equal_int_int.b1 a b s146) (0 : Int) = _ from this, List.drop_zero, List.drop_zero]
    by_cases e : a = b
    · rw [if_pos e, decide_eq_true e]; rfl
    · rw [if_neg e, decide_eq_false e]; rfl
  · rw [show ((a.length : Int) != (b.length : Int)) = true by simpa using (fun q => hn (by omega)), cond_true, decide_eq_false (fun e => hn (by rw [e]))]
theorem same_eq {a b : List Int} (hl : a.length ≤ 1000) : view_Same.f a b = some (decide (a = b)) := by
  unfold view_Same.f
  rw [equal_eq hl]; rfl
theorem same10_eq {a : List Int} (hl : a.length ≤ 1000) : gemotref10_Same.f a a = some true := by
  unfold gemotref10_Same.f
  rw [bne_self_eq_false, cond_false]
  have : loopM (fun s237 : Int => gemotref10_Same.b1 a a s237) (0 : Int) = some (.inl ()) := by
    refine loop_count (fun i => (i : Int)) a.length (fun i hi => ?_) ?_
    · show gemotref10_Same.b1 a a (i : Int) = _
      unfold gemotref10_Same.b1
      rw [cond_t (by omega), idxL_lt hi, Option.bind_some, Option.bind_some, bne_self_eq_false, cond_false, wrap1 i (by omega)]
    · show gemotref10_Same.b1 a a (a.length : Int) = _
      unfold gemotref10_Same.b1
      rw [cond_f (by omega)]
  rw [this]
  rfl
theorem clone_eq {l : List Int} (hl : l.length ≤ 1000) : slices_Clone_int_int.f l = some l := by
  unfold slices_Clone_int_int.f
  rw [given_of (by omega)]
theorem send_to (v : O_member_Node) (p : Int) {m : D_list_Message} (h : MsgOk m) (hl : v.outs_.length ≤ 1000) : member_Node_send.f v p m = some { v with outs_ := v.outs_ ++ [(p, m)] } := by
  obtain ⟨t, ht⟩ := pack_ok h
  unfold member_Node_send.f
  rw [ht, Option.bind_some]
  show cond ((0 : Int) == 0) _ _ = _
  rw [show ((0 : Int) == 0) = true from rfl, cond_true, room_of (by omega)]
theorem tell_eq {m : D_list_Message} (h : MsgOk m) {to : List Int} (ht : to.length ≤ 8) (v : O_member_Node) (hl : v.outs_.length ≤ 500) : member_Node_tell.f v to m = some { v with outs_ := v.outs_ ++ (to.filter fun p => decide (p ≠ v.me_)).map fun p => (p, m) } := by
  have hL : loopM (fun s283 : O_member_Node × Int => member_Node_tell.b2 to m s283.1 s283.2) (v, (0 : Int)) = some { v with outs_ := v.outs_ ++ (to.filter fun p => decide (p ≠ v.me_)).map fun p => (p, m) } := by
    have := loop_count (body := fun s283 : O_member_Node × Int => member_Node_tell.b2 to m s283.1 s283.2) (fun i => ({ v with outs_ := v.outs_ ++ ((to.take i).filter fun p => decide (p ≠ v.me_)).map fun p => (p, m) }, (i : Int))) to.length (fun i hi => ?_) (o := { v with outs_ := v.outs_ ++ (to.filter fun p => decide (p ≠ v.me_)).map fun p => (p, m) }) ?_
    · rw [← this]
      simp
    · have hlen : (((to.take i).filter fun p => decide (p ≠ v.me_)).map fun p => (p, m)).length ≤ 8 := by
        rw [List.length_map]
        have := List.length_filter_le (fun p => decide (p ≠ v.me_)) (to.take i)
        rw [List.length_take] at this
        omega
      show member_Node_tell.b2 to m _ (i : Int) = _
      unfold member_Node_tell.b2
      rw [cond_t (by omega), idxL_lt hi, Option.bind_some]
      unfold member_Node_tell.k1
      rw [← take_snoc hi, List.filter_append, List.map_append, wrap1 i (by omega)]
      by_cases e : to[i] = v.me_
      · rw [show (to[i] != v.me_) = false by simpa using e, cond_false]
        simp [e]
      · rw [show (to[i] != v.me_) = true by simpa using e, cond_true, send_to _ _ h (by rw [List.length_append]; omega), Option.bind_some]
        simp [e]
    · show member_Node_tell.b2 to m _ (to.length : Int) = _
      unfold member_Node_tell.b2
      rw [cond_f (by omega), List.take_length]
  unfold member_Node_tell.f
  rw [hL]; rfl
/-- A node that has begun a view of its own, and the first other one has not told. -/
theorem finish_wait {v : O_member_Node} {T : O_member_plan} {a b : Int} {l : List Int} (hp : v.plan_ = some T) (hr : v.promised_.2 = a :: b :: l) (ha : (getA a T.told_).isSome = true) (hb : getA b T.told_ = none) : member_Node_finish.f v = some v := by
  have hv : ({ v with plan_ := some T } : O_member_Node) = v := by rw [← hp]
  have s1 : member_Node_finish.b1 v v [] (0 : Int) = some (.inl (v, [] ++ [(((getA a T.told_).getD ((0 : Int), ((0 : Int), (0 : Int)), ([] : List D_cut_Log))).1, ((((getA a T.told_).getD ((0 : Int), ((0 : Int), (0 : Int)), ([] : List D_cut_Log))).2.1).1, (((getA a T.told_).getD ((0 : Int), ((0 : Int), (0 : Int)), ([] : List D_cut_Log))).2.1).2), ((getA a T.told_).getD ((0 : Int), ((0 : Int), (0 : Int)), ([] : List D_cut_Log))).2.2)], (1 : Int))) := by
    unfold member_Node_finish.b1
    rw [cond_t (by rw [hr]; simp; omega), show idxL v.promised_.2 (0 : Int) = some a by rw [hr]; rfl, Option.bind_some, hp, Option.bind_some, ha, Bool.not_true, cond_false, room_of (by simp), hv]
    rfl
  have s2 : ∀ acc, member_Node_finish.b1 v v acc (1 : Int) = some (.inr (.inr v)) := fun acc => by
    unfold member_Node_finish.b1
    rw [cond_t (by rw [hr]; simp; omega), show idxL v.promised_.2 (1 : Int) = some b by rw [hr]; rfl, Option.bind_some, hp, Option.bind_some, hb]
    show cond true _ _ = _
    rw [cond_true, hv]
  unfold member_Node_finish.f
  rw [loop_step (body := fun s541 : O_member_Node × (List D_cut_Report) × Int => member_Node_finish.b1 v s541.1 s541.2.1 s541.2.2) s1 (loop_end (s2 _))]
  rfl
theorem logs_none {v : O_member_Node} (h : v.rows_ = []) : member_Node_Logs.f v = some [] := by
  unfold member_Node_Logs.f
  have : loopM (fun s905 : (List D_cut_Log) × Int => member_Node_Logs.b2 v s905.1 s905.2) (([] : List D_cut_Log), (1 : Int)) = some [] := by
    refine loop_count (fun i => (([] : List D_cut_Log), ((i + 1 : Nat) : Int))) 8 (fun i hi => ?_) ?_
    · show member_Node_Logs.b2 v [] ((i + 1 : Nat) : Int) = _
      unfold member_Node_Logs.b2
      rw [cond_t (by omega), h]
      show cond (decide ((0 : Int) > 0)) _ _ = _
      rw [cond_f (by omega)]
      unfold member_Node_Logs.k1
      rw [wrap1 (i + 1) (by omega)]
    · show member_Node_Logs.b2 v [] ((9 : Nat) : Int) = _
      unfold member_Node_Logs.b2
      rw [cond_f (by omega)]
  rw [this]
  rfl
/-- What is proposed. -/
abbrev propM (id : D_api_Id) (l : List Int) : D_list_Message := (3, id, (0, 0), 0, l, [])
theorem prop_ok {id : D_api_Id} (hi : idOk id) {l : List Int} (h : upRow l) : MsgOk (propM id l) where
  kind := ⟨(by decide : (0 : Int) ≤ 3), (by decide : (3 : Int) ≤ 20)⟩
  id := hi
  old := ⟨(by decide : (0 : Int) ≤ 0), (by decide : (0 : Int) ≤ 2147483647), (by decide : (0 : Int) ≤ 0), (by decide : (0 : Int) ≤ 8)⟩
  num := ⟨(by decide : (0 : Int) ≤ 0), (by decide : (0 : Int) ≤ 2147483647)⟩
  row := h
  many := Nat.zero_le _
  terms := fun t ht => by cases ht
  short := ⟨0, (fun t ht => (by cases ht)), (by decide : (0 + 1) * 0 ≤ 15000)⟩
/-- The node, when it has proposed. -/
def proposed (v : O_member_Node) (l : List Int) : O_member_Node := { v with promised_ := ((v.seen_.1 + 1, v.me_), l), seen_ := (v.seen_.1 + 1, v.me_), plan_ := some { told_ := [(v.me_, (v.me_, v.view_.1, []))] }, outs_ := [], events_ := [] }
theorem suggest_go {v : O_member_Node} {b : Int} {l : List Int} (h : upRow (v.me_ :: b :: l)) (hs : 0 ≤ v.seen_.1 ∧ v.seen_.1 < 2147483646) (hr : v.rows_ = []) (ho : v.outs_ = []) (he : v.events_ = [])
    (hgo : (v.seen_ ≠ v.promised_.1) ∨ (v.plan_ = none ∧ v.view_.2.length ≤ 1)) :
    member_Node_Suggest.f v (v.me_ :: b :: l) = some ((b :: l).map (fun p => (p, propM (v.seen_.1 + 1, v.me_) (v.me_ :: b :: l))), [], proposed v (v.me_ :: b :: l)) := by
  have hlen := h.len
  have hme := h.2 v.me_ List.mem_cons_self
  have hp := List.pairwise_cons.1 h.1
  have hk2 : member_Node_Suggest.k2 v (v.me_ :: b :: l) = some ((b :: l).map (fun p => (p, propM (v.seen_.1 + 1, v.me_) (v.me_ :: b :: l))), [], proposed v (v.me_ :: b :: l)) := by
    unfold member_Node_Suggest.k2 view_Next.f
    rw [Option.bind_some, clone_eq (by omega), Option.bind_some]
    rw [Eng.i64_id (by omega) (by omega)]
    rw [logs_none (by exact hr), Option.bind_some]
    unfold member_Node_Suggest.k1
    rw [clone_eq (by omega), Option.bind_some]
    have hmsg : MsgOk (propM (v.seen_.1 + 1, v.me_) (v.me_ :: b :: l)) := prop_ok ⟨by show 0 ≤ v.seen_.1 + 1; omega, by show v.seen_.1 + 1 ≤ _; omega, by show 0 ≤ v.me_; omega, by show v.me_ ≤ 8; omega⟩ h
    rw [tell_eq hmsg (by omega) _ (by show v.outs_.length ≤ _; rw [ho]; simp), Option.bind_some]
    have hfil : ((v.me_ :: b :: l).filter fun p => decide (p ≠ v.me_)) = b :: l := by
      rw [List.filter_cons, if_neg (by simp)]
      refine List.filter_eq_self.2 fun x hx => ?_
      have := hp.1 x hx
      simp; omega
    have hput : putA v.me_ (v.me_, (v.view_.1.1, v.view_.1.2), ([] : List D_cut_Log)) ([] : List (Int × D_cut_Report)) = [(v.me_, (v.me_, v.view_.1, []))] := rfl
    rw [finish_wait (T := { told_ := [(v.me_, (v.me_, v.view_.1, []))] }) (a := v.me_) (b := b) (l := l) rfl rfl (by show (getA v.me_ [(v.me_, _)]).isSome = true; simp [getA]) (by
      have := hp.1 b List.mem_cons_self
      show getA b [(v.me_, _)] = none
      simp only [getA]
      rw [if_neg (by omega)]), Option.bind_some]
    unfold member_Node_took.f
    rw [Option.bind_some]
    show some (v.outs_ ++ _, v.events_, _) = _
    rw [hfil, ho, he]
    rfl
  unfold member_Node_Suggest.f
  rw [row_true h (by simp), Option.bind_some, Bool.not_true, cond_false, show idxL (v.me_ :: b :: l) (0 : Int) = some v.me_ from rfl, Option.bind_some, bne_self_eq_false]
  show member_Node_Suggest.k5 v _ (cond (cond false true false) true (decide (v.seen_.1 ≥ 2147483646))) = _
  rw [decide_eq_false (by omega)]
  show member_Node_Suggest.k5 v _ false = _
  unfold member_Node_Suggest.k5
  rw [cond_false]
  by_cases hq : v.seen_ = v.promised_.1
  · rw [show (!((v.seen_.1 == v.promised_.1.1) && (v.seen_.2 == v.promised_.1.2))) = false by rw [hq]; simp, cond_false]
    rcases hgo with hgo | ⟨hpl, hvl⟩
    · exact absurd hq hgo
    rw [hpl]
    show cond false _ (member_Node_Suggest.k4 v _ (cond false false false)) = _
    rw [cond_false]
    unfold member_Node_Suggest.k4
    show cond false _ _ = _
    rw [cond_false, hpl]
    show cond true _ _ = _
    rw [cond_true]
    unfold member_Node_Flushing.f
    rw [Option.bind_some]
    have hk3 : ∀ z : Bool, z = false → member_Node_Suggest.k3 v (v.me_ :: b :: l) z = some ((b :: l).map (fun p => (p, propM (v.seen_.1 + 1, v.me_) (v.me_ :: b :: l))), [], proposed v (v.me_ :: b :: l)) := fun z hz => by
      unfold member_Node_Suggest.k3
      rw [hz, cond_false]; exact hk2
    have hne : decide (v.me_ :: b :: l = v.view_.2) = false := decide_eq_false fun e => by
      have := congrArg List.length e
      simp at this; omega
    cases hz : (!((v.promised_.1.1 == v.view_.1.1) && (v.promised_.1.2 == v.view_.1.2)))
    · rw [Bool.not_false, cond_true, same_eq (by omega), Option.bind_some, hne]
      exact hk3 _ rfl
    · rw [Bool.not_true, cond_false]
      exact hk3 _ rfl
  · have : (!((v.seen_.1 == v.promised_.1.1) && (v.seen_.2 == v.promised_.1.2))) = true := by
      cases h1 : ((v.seen_.1 == v.promised_.1.1) && (v.seen_.2 == v.promised_.1.2)) with
      | false => rfl
      | true =>
        simp at h1
        exact absurd (Prod.ext h1.1 h1.2) hq
    rw [this, cond_true]
    exact hk2
theorem suggest_not {v : O_member_Node} {a : Int} {l : List Int} (h : upRow (a :: l)) (hne : a ≠ v.me_) : member_Node_Suggest.f v (a :: l) = some ([], [], v) := by
  unfold member_Node_Suggest.f
  rw [row_true h (by simp), Option.bind_some, Bool.not_true, cond_false, show idxL (a :: l) (0 : Int) = some a from rfl, Option.bind_some, show (a != v.me_) = true by simpa using hne]
  show member_Node_Suggest.k5 v _ true = _
  unfold member_Node_Suggest.k5
  rw [cond_true]
theorem suggest_again {v : O_member_Node} {l : List Int} (h : upRow (v.me_ :: l)) (hs : v.seen_ = v.promised_.1) (hp : v.plan_.isSome = true) (hl : v.promised_.2 = v.me_ :: l) : member_Node_Suggest.f v (v.me_ :: l) = some ([], [], v) := by
  have hlen := h.len
  unfold member_Node_Suggest.f
  rw [row_true h (by simp), Option.bind_some, Bool.not_true, cond_false, show idxL (v.me_ :: l) (0 : Int) = some v.me_ from rfl, Option.bind_some, bne_self_eq_false]
  have hpn : v.plan_.isNone = false := by
    cases hh : v.plan_ with
    | none => rw [hh] at hp; cases hp
    | some x => rfl
  show member_Node_Suggest.k5 v _ (decide (v.seen_.1 ≥ (2147483646 : Int))) = _
  cases hc : decide (v.seen_.1 ≥ (2147483646 : Int)) with
  | true =>
    unfold member_Node_Suggest.k5
    rw [cond_true]
  | false =>
    unfold member_Node_Suggest.k5
    rw [cond_false, show (!((v.seen_.1 == v.promised_.1.1) && (v.seen_.2 == v.promised_.1.2))) = false by rw [hs]; simp, cond_false, hpn, Bool.not_false, cond_true, hl, same_eq (by omega), Option.bind_some, decide_eq_true rfl, cond_true]
    unfold member_Node_Suggest.k4
    rw [cond_true]
end Go.Proofs.Ytipoblinefamgaa.G
