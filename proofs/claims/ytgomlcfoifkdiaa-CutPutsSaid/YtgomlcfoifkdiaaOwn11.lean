/- CutOwn, as it is reckoned: what one reports alone is cut as it is, and it misses nothing. -/
import Derived.Test.YtgomlcfoifkdiaaPure11
import Derived.Test.YtgomlcfoifkdiaaGC
namespace Go.Proofs.Ytgomlcfoifkdiaa.G
open Go.RowKit Go.Eng Go.Proofs Go.Proofs.Ytgomlcfoifkdiaa.Cut
set_option linter.unusedVariables false

theorem cut_of {rs : List D_cut_Report} (hr : rs.length ≤ 1000000000) (hl : ∀ r ∈ rs, r.2.2.length ≤ 1000000000) (hk : (cutM rs).length ≤ 1000000000) (hx : ∀ e ∈ cutM rs, e.2.length ≤ 8796093022208) (hg : ∀ r ∈ rs, ∀ g ∈ r.2.2, g.2.length ≤ 8796093022208) : cut_Cut.f rs = some (cutL rs) := given_of ⟨hr, hl, hk, hx, hg⟩ _
theorem miss_of {ps : List D_cut_Part} {id : D_api_Id} {logs : List D_cut_Log} (h1 : ps.length ≤ 1000000000) (h2 : logs.length ≤ 1000000000) (h3 : ∀ x ∈ ps, x.2.2.length ≤ 8796093022208) (h4 : ∀ x ∈ logs, x.2.length ≤ 8796093022208) : cut_Missing.f ps id logs = some (missL ps id logs) := given_of ⟨h1, h2, h3, h4⟩ _

theorem shown_eq : gemotlaw11_shown.f = some true := by
  unfold gemotlaw11_shown.f
  have h1 : cut_Cut.f exR = some [((0, 0), 1, [[103], [104, 103]])] := by
    rw [cut_of (by decide) (by decide) (by rw [exM]; decide) (by rw [exM]; decide) (by decide), exCut]
  have h2 : cut_Missing.f [((0, 0), 1, [[103], [104, 103]])] (0, 0) exA = some [(1, [[104, 103]])] := by
    rw [miss_of (by decide) (by decide) (by decide) (by decide), exMiss]
  show (cut_Cut.f exR).bind _ = _
  rw [h1, Option.bind_some]
  show (cut_Missing.f [((0, 0), 1, [[103], [104, 103]])] (0, 0) exA).bind _ = _
  rw [h2, Option.bind_some]
  have e1 : idxL [(((0 : Int), (0 : Int)), (1 : Int), ([[103], [104, 103]] : List (List UInt8)))] (0 : Int) = some ((0, 0), 1, [[103], [104, 103]]) := rfl
  have e2 : idxL [((1 : Int), ([[104, 103]] : List (List UInt8)))] (0 : Int) = some (1, [[104, 103]]) := rfl
  simp only [List.length_cons, List.length_nil, Nat.zero_add, Int.natCast_one, beq_self_eq_true, cond_true, e1, e2, Option.bind_some]
  rw [same_eq _ _ (by decide), Option.bind_some, same_eq _ _ (by decide), Option.bind_some]
  rfl

theorem pickN_of (c n : Int) (h : n ≠ 0) (h0 : -9223372036854775808 ≤ c) (h1 : c ≤ 9223372036854775807) : gemotlaw11_pick.f c n = some (pickN c n) := pick_eq c n h h0 h1

theorem rows_eq (many : List Int) (hb : ∀ x ∈ many, -9223372036854775808 ≤ x ∧ x ≤ 9223372036854775807) (hl : many.length ≤ 140737488355328) : gemotlaw11_rows.f many = some (rowsTo many 3) := by
  unfold gemotlaw11_rows.f
  have inner : ∀ (v : List D_cut_Log) (s : Nat), s < 3 → loopM (fun q : (List (List UInt8)) × Int => gemotlaw11_rows.b1 many v ((s + 1 : Nat) : Int) (cntOf many (s + 1) : Nat) q.1 q.2) (([] : List (List UInt8)), (0 : Int)) = some (itemsOf (s + 1) (cntOf many (s + 1))) := by
    intro v s hs
    have hc := cntOf_lt many (s + 1)
    refine loop_count (fun i => (itemsOf (s + 1) i, (i : Int))) (cntOf many (s + 1)) (fun i hi => ?_) ?_
    · show gemotlaw11_rows.b1 many v ((s + 1 : Nat) : Int) (cntOf many (s + 1) : Nat) (itemsOf (s + 1) i) (i : Int) = _
      unfold gemotlaw11_rows.b1 term_Number.f
      rw [cond_t (by omega), Option.bind_some, room_of (by rw [itemsOf_len]; omega), wrap1 i (by omega), itemsOf_succ]
      rw [Eng.i64_id (x := 100 * ((s + 1 : Nat) : Int)) (by omega) (by omega), Eng.i64_id (by omega) (by omega), Eng.u64_id (by omega) (by omega)]
    · show gemotlaw11_rows.b1 many v ((s + 1 : Nat) : Int) (cntOf many (s + 1) : Nat) (itemsOf (s + 1) (cntOf many (s + 1))) ((cntOf many (s + 1) : Nat) : Int) = _
      unfold gemotlaw11_rows.b1
      rw [cond_f (by omega)]
  have k4 : ∀ (v : List D_cut_Log) (s : Nat), v.length ≤ 3 → s < 3 → gemotlaw11_rows.k4 many v ((s + 1 : Nat) : Int) (cntOf many (s + 1) : Nat) = some (.inl (v ++ Cut.rowAt many (s + 1), ((s + 1 + 1 : Nat) : Int))) := by
    intro v s hv hs
    unfold gemotlaw11_rows.k4
    rw [inner v s hs, Option.bind_some]
    unfold gemotlaw11_rows.k3 gemotlaw11_rows.k2 Cut.rowAt
    rw [wrap1 (s + 1) (by omega)]
    by_cases hp : 0 < cntOf many (s + 1)
    · rw [cond_t (by omega), room_of (by omega), if_pos hp]
    · rw [cond_f (by omega), if_neg hp, List.append_nil]
  have hL : loopM (fun q : (List D_cut_Log) × Int => gemotlaw11_rows.b5 many q.1 q.2) (([] : List D_cut_Log), (1 : Int)) = some (rowsTo many 3) := by
    refine loop_count (fun s => (rowsTo many s, ((s + 1 : Nat) : Int))) 3 (fun s hs => ?_) ?_
    · show gemotlaw11_rows.b5 many (rowsTo many s) ((s + 1 : Nat) : Int) = _
      have hrl := rowsTo_len many s
      unfold gemotlaw11_rows.b5
      rw [cond_t (by omega)]
      by_cases hlt : s < many.length
      · have hx := hb _ (List.getElem_mem hlt)
        have e1 : IntKind.i64.wrap (((s + 1 : Nat) : Int) - (1 : Int)) = (s : Int) := by rw [Eng.i64_id (by omega) (by omega)]; omega
        have hr := pickN_range many[s] 6 (by omega)
        have hco : pickN many[s] 6 = ((cntOf many (s + 1) : Nat) : Int) := by
          unfold cntOf
          rw [Nat.add_sub_cancel, List.getElem?_eq_getElem hlt]
          show _ = (((pickN many[s] 6).toNat : Nat) : Int)
          omega
        rw [cond_t (by omega), e1, idxL_lt hlt, Option.bind_some, pickN_of _ _ (by decide) hx.1 hx.2, Option.bind_some, hco]
        exact k4 _ s (by omega) hs
      · have hco : cntOf many (s + 1) = 0 := by unfold cntOf; rw [Nat.add_sub_cancel, List.getElem?_eq_none (by omega)]
        rw [cond_f (by omega)]
        have := k4 (rowsTo many s) s (by omega) hs
        rw [hco] at this
        exact this
    · show gemotlaw11_rows.b5 many (rowsTo many 3) ((3 + 1 : Nat) : Int) = _
      unfold gemotlaw11_rows.b5
      rw [cond_f (by decide)]
  rw [hL]; rfl

theorem cutM_one {r : D_cut_Report} (hp : ∀ g ∈ r.2.2, 0 < g.2.length) (hr : (r.2.2.map (·.1)).Pairwise (· < ·)) : cutM [r] = r.2.2.map fun g => (((r.2.1.1, r.2.1.2, g.1) : Pl), g.2) := by
  have hn : (r.2.2.map (·.1)).Nodup := hr.imp fun h => Int.ne_of_lt h
  show r.2.2.foldl (Cut.stepG r.2.1) [] = _
  rw [foldG r.2.1 r.2.2 [] hp hn (fun _ _ h => by cases h)]
  simp
theorem cut_one (r : D_cut_Report) (h0 : r.2.2.length ≤ 1000) (h1 : ∀ g ∈ r.2.2, 0 < g.2.length ∧ g.2.length ≤ 1000) (hr : (r.2.2.map (·.1)).Pairwise (· < ·)) : cut_Cut.f [r] = some (partsOf r.2.1 r.2.2) := by
  have hp : ∀ g ∈ r.2.2, 0 < g.2.length := fun g hg => (h1 g hg).1
  rw [cut_of (by simp) (by intro x hx; simp at hx; subst hx; omega) (by rw [cutM_one hp hr]; simp; omega) (by
    rw [cutM_one hp hr]
    intro e he
    obtain ⟨g, hg, rfl⟩ := List.mem_map.1 he
    have := (h1 g hg).2
    show g.2.length ≤ _
    omega) (by
    intro x hx g hg
    simp at hx
    subst hx
    have := (h1 g hg).2
    omega), cutL_one hp hr]
  rfl
theorem len_ne {a b : Nat} (h : a = b) {α : Type} {x y : α} : cond ((a : Int) != (b : Int)) x y = y := by subst h; simp
theorem own_eq (many : List Int) (epoch : Int) (hb : ∀ x ∈ many, -9223372036854775808 ≤ x ∧ x ≤ 9223372036854775807) (h0 : -9223372036854775808 ≤ epoch) (h1 : epoch ≤ 9223372036854775807) : gemotlaw11_CutOwn.f many epoch = some true := by
  unfold gemotlaw11_CutOwn.f
  rw [shown_eq, Option.bind_some]
  by_cases hl : many.length > 20
  · rw [show (cond (!true) true (decide ((many.length : Int) > 20))) = true by simp; omega]; rfl
  · rw [show (cond (!true) true (decide ((many.length : Int) > 20))) = false by simp; omega, cond_false, pickN_of _ _ (by decide) h0 h1, Option.bind_some, rows_eq many hb (by omega), Option.bind_some]
    have hf := rowsTo_fst many 3
    have hu := rowsTo_up many 3
    have hn := rowsTo_len many 3
    generalize rowsTo many 3 = logs at hf hu hn
    generalize pickN epoch 100 = ep
    have hnd : (logs.map (·.1)).Nodup := hu.imp fun h => Int.ne_of_lt h
    have hlog : ∀ x ∈ logs, x.2.length ≤ 8796093022208 := fun x hx => by have := hf x hx; omega
    have hcut : cut_Cut.f [((2 : Int), (ep, (1 : Int)), logs)] = some (partsOf (ep, 1) logs) := cut_one (2, (ep, 1), logs) (by show logs.length ≤ 1000; omega) (fun g hg => by have := hf g hg; exact ⟨this.2.2.1, by omega⟩) hu
    have hpl : (partsOf (ep, 1) logs).length = logs.length := by simp [partsOf]
    have hps : ∀ x ∈ partsOf (ep, 1) logs, x.2.2.length ≤ 8796093022208 := by
      intro x hx
      obtain ⟨g, hg, rfl⟩ := List.mem_map.1 hx
      exact hlog g hg
    have m1 : cut_Missing.f (partsOf (ep, 1) logs) (ep, 1) logs = some [] := by
      rw [miss_of (by omega) (by omega) hps hlog, missL_own (ep, 1) logs logs (fun g hg => ownOf_mem logs g hnd hg)]
    have m2 : cut_Missing.f (partsOf (ep, 1) logs) (ep, 2) [] = some [] := by
      rw [miss_of (by omega) (by simp) hps (by simp), missL_other (ep, 1) (ep, 2) logs [] (by simp)]
    have m3 : cut_Missing.f (partsOf (ep, 1) logs) (ep, 1) [] = some logs := by
      rw [miss_of (by omega) (by simp) hps (by simp), missL_nil (ep, 1) logs (fun g hg => (hf g hg).2.2.1)]
    rw [hcut, Option.bind_some, len_ne hpl, m1, Option.bind_some]
    rw [show (((([] : List D_cut_Log).length : Int) != (0 : Int)) : Bool) = false from rfl, cond_false, m2, Option.bind_some]
    rw [show (cond (cond (((partsOf (ep, 1) logs).length : Int) != (logs.length : Int)) true false) true ((([] : List D_cut_Log).length : Int) != (0 : Int))) = false by rw [hpl]; simp]
    unfold gemotlaw11_CutOwn.k4
    rw [cond_false, m3, Option.bind_some, len_ne rfl]
    have hL : loopM (fun s : Int => gemotlaw11_CutOwn.b2 ep logs (partsOf (ep, 1) logs) logs s) (0 : Int) = some (Sum.inl ()) := by
      refine loop_count (fun i => (i : Int)) logs.length (fun i hi => ?_) ?_
      · show gemotlaw11_CutOwn.b2 ep logs (partsOf (ep, 1) logs) logs (i : Int) = _
        have hpi : idxL (partsOf (ep, 1) logs) (i : Int) = some ((ep, 1), logs[i].1, logs[i].2) := by
          rw [idxL_lt (by omega)]; simp [partsOf]
        have hg := hf _ (List.getElem_mem hi)
        unfold gemotlaw11_CutOwn.b2
        rw [cond_t (by omega), idxL_lt hi]
        simp only [Option.bind_some, bne_self_eq_false, cond_false]
        rw [texts_eq _ (by omega), Option.bind_some, same_eq _ _ (by omega), Option.bind_some, decide_eq_true rfl]
        simp only [Bool.not_true, cond_false, hpi, Option.bind_some, bne_self_eq_false]
        unfold gemotlaw11_CutOwn.k1
        rw [wrap1 i (by omega)]
        simp
      · show gemotlaw11_CutOwn.b2 ep logs (partsOf (ep, 1) logs) logs (logs.length : Int) = _
        unfold gemotlaw11_CutOwn.b2
        rw [cond_f (by omega)]
    rw [hL]; rfl
end Go.Proofs.Ytgomlcfoifkdiaa.G
