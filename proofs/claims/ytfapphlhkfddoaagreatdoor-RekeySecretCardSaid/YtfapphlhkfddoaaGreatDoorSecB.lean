/- Walks, printed by a program of this proof's own. -/
import Derived.Test.YtfapphlhkfddoaaGreatDoorSized
import Derived.Test.YtfapphlhkfddoaaGreatDoorSecA
import Derived.KernelRfl
set_option linter.unusedVariables false
namespace Go.Eng
open Go.RowKit
set_option linter.unusedSectionVars false
variable [Inhabited Keep] [Inhabited Hard]
section
variable {P : Program} {w w0 : World} {K : Value → World → Prop} {g : Bool} {ok : Nat → Prop} {L : List Item} {α : Type} {C : World → Prop} {KF : Value → Prop} {KE : Value → List Item → Prop}
theorem own_appendSl {k : Ty α} {t ty e : TypeId} {by_ n : Nat} {z v u : Value} {xs : List Value} {ys : List α} {consts : Array Bool} (H : Own ok w0 w L) (i j : Nat) (hi : L[i]? = some (.row v e k.sz n xs)) (hj : L[j]? = some (.dat (dSl k u ys))) (ht : sliceB P t = some e) (hinfo : infoB P e = some (some z, k.sz, by_)) (hzl : z.cells.toList.length = k.sz) (hpos : Nat.blt 0 k.sz = true)
    (hb : n + ys.length ≤ 140737488355328) (hb2 : (n + ys.length) * by_ ≤ 140737488355328)
    (hk : ∀ v' w' news, rowsR k w (okOf ok w0 L) ys news → Own ok w0 w' (L.set i (.row v' e k.sz (n + ys.length) (xs ++ news))) → K v' w') : nBuiltin P true .append [t, t] ty [v, u] consts w K := by
  obtain ⟨A, c, hv, hc, h⟩ := H.dat j hj
  subst hv
  unfold nBuiltin
  have fin : ∀ a, A = some a → ∀ news, rowsR k w (okOf ok w0 L) ys news → cellsAt w a 0 news → nOp P true (builtin .append #[t, t] ty consts #[v, .slice A ys.length c]) w K := by
    intro a ha news hR hC
    subst ha
    obtain ⟨v', w', hr, hO⟩ := own_rowAppend (ty := ty) (consts := consts) (c := c) H i hi ht hinfo hzl hpos (rowsR_length hR) hC (rowsR_one hR) hb hb2
    exact nOp_val (fun _ => hr) (fun _ => hk _ _ _ hR hO) (fun h => by cases h)
  rcases h with ⟨h, hn⟩ | ⟨a, ha, _, _, h4⟩
  · subst h
    cases A with
    | none =>
      have := hn rfl
      subst this
      refine nOp_now (fun _ => append_none_run H i hi ht hinfo) ?_
      refine hk v w [] rfl ?_
      have e1 : L.set i (.row v e k.sz (n + ([] : List α).length) (xs ++ [])) = L := by
        rw [List.append_nil]
        apply List.ext_getElem?
        intro q
        rw [List.getElem?_set]
        split
        · rename_i e2
          subst e2
          split
          · exact hi.symm
          · rename_i hq
            rw [List.getElem?_eq_none (by omega)] at hi; cases hi
        · rfl
      rw [e1]; exact H
    | some a => exact fin a rfl [] rfl trivial
  · subst ha
    obtain ⟨news, g1, g2⟩ := slR_cells (k := k) (a := a) (ys := ys) (off := 0) (fun j x hx => by rw [Nat.zero_add]; exact h4 j x hx)
    refine fin a rfl news g1 ?_
    have e2 : a.add (0 * k.sz) = a := by rw [Nat.zero_mul]; simp [Addr.add]
    rwa [e2] at g2
theorem strs_of {ok : Nat → Prop} : ∀ {l : List (List UInt8)} {cs : List Value}, rowsR tStr w ok l cs → cs = strs l
  | [], _, h => h
  | t :: l, _, ⟨c, d, e, h1, h2⟩ => by
    have h1 : c = [.string (bs t)] := h1
    subst h1
    have := strs_of h2
    subst this
    exact e
end
end Go.Eng
set_option linter.unusedVariables false
namespace Go.Eng
open Go.RowKit
set_option linter.unusedSectionVars false
variable [Inhabited Keep] [Inhabited Hard]
section
variable {P : Program} {w : World}
variable {K : Value → World → Prop} {KF : Value → Prop} {g : Bool}
theorem eql_run {t : TypeId} {xo yo : Operand} {xs ys : Array Value} (d : Nat) (hd : d ≤ 10000) (r : Bool) (hg : noGuard P t (.agg xs) (.agg ys) = true) (h : eqB P d t (.agg xs) (.agg ys) = some r) : (sv (do eqGuard .eql t xo yo (.agg xs) (.agg ys); binOp .eql t (.agg xs) (.agg ys))).run P w = .ok (.value (.bool r)) w := by
  refine sv_run ?_
  have e : (Op.equal t (.agg xs) (.agg ys)).run P w = .ok r w := run_eqB d _ t _ _ r hd h
  have e2 : (binOp .eql t (.agg xs) (.agg ys)).run P w = .ok (.bool r) w := by
    have : binOp .eql t (.agg xs) (.agg ys) = (do pure (Value.bool (← Op.equal t (.agg xs) (.agg ys)))) := rfl
    rw [this, Sem.run_bind, e]; rfl
  rw [Sem.run_bind, run_guard hg, Result.andThen_ok, e2]
theorem eql_rule {t : TypeId} {xo yo : Operand} {xs ys : Array Value} (r : Bool) (hg : g = true → noGuard P t (.agg xs) (.agg ys) = true) (h : g = true → eqB P 8 t (.agg xs) (.agg ys) = some r) (hk : K (.bool r) w) : nBin P g .eql t xo yo (.agg xs) (.agg ys) w K := by
  unfold nBin; exact nOp_now (fun hg' => eql_run 8 (by decide) r (hg hg') (h hg')) hk
end
end Go.Eng
set_option linter.unusedVariables false
set_option linter.unusedSectionVars false
set_option linter.unusedSimpArgs false
namespace Go.Eng
open Go.RowKit
set_option linter.unusedSectionVars false
variable [Inhabited Keep] [Inhabited Hard]
section
variable {α : Type} [DecidableEq α]
end
section
variable {P : Program} {w w0 : World} {K : Value → World → Prop} {g : Bool} {ok : Nat → Prop} {L : List Item} {α : Type} [DecidableEq α] {enc : α → Value} {l : List (α × Value)}
theorem lookup_ruleV {t kt et : TypeId} {z : Value} (ht : mapB P t = some (kt, et)) (hz : zeroB P et = some z) (KK : MKey P kt enc) (a : α) (H : Own ok w0 w L) (i : Nat) {b : Nat} (hi : L[i]? = some (.obj b (mapOk enc l))) (v : Value) (hv : (getA a l).getD z = v) (hk : K v w) : nLookup P g t (.map (some b)) (enc a) false w K := lookup_rule ht hz KK a H i hi (by rw [hv]; exact hk)
end
section
variable {P : Program} {w w0 : World} {K : Value → World → Prop} {g : Bool} {ok : Nat → Prop} {L : List Item} {α : Type} {enc : α → Value} {l : List (α × Value)}
def EntOk (P : Program) (r b : Nat) (es : Array MapEntry) (cl : Nat) (seen : Array Nat) (k v : Value) : Prop := ∀ W : World, W.heap[r]? = some (.mapIter (some b) cl seen cl) → W.heap[b]? = some (.map es cl) → (Instr.entry (.pointer (some ⟨r, 0, none⟩))).run P W = .ok (.tuple #[k, v]) W
theorem entry_rule (H : Own ok w0 w L) (i j : Nat) {b r : Nat} {es : Array MapEntry} {cl : Nat} {seen : Array Nat} {k v : Value} (hj : L[j]? = some (.obj r (· = .mapIter (some b) cl seen cl))) (hi : L[i]? = some (.obj b (· = .map es cl))) (he : EntOk P r b es cl seen k v) (hk : K (.tuple #[k, v]) w) : nEntry P g (.pointer (some ⟨r, 0, none⟩)) w K := by
  unfold nEntry
  obtain ⟨o, ho, rfl⟩ := H.obj j hj
  obtain ⟨o2, ho2, rfl⟩ := H.obj i hi
  exact nOp_now (fun _ => sv_run (he w ho ho2)) hk
theorem Own.openMap (H : Own ok w0 w L) (i : Nat) {b : Nat} (hi : L[i]? = some (.obj b (mapOk enc l))) : ∃ es cl, ItOk enc es cl #[] l ∧ entsL enc es.toList l ∧ Own ok w0 w (L.set i (.obj b (· = .map es cl))) := by
  obtain ⟨A, B, e, hs⟩ := list_split hi
  have H' := H
  rw [e] at H'
  obtain ⟨o, ho, es, cl, rfl, he, hnd, hlt⟩ := H'.objAt
  refine ⟨es, cl, ⟨hnd, hlt, ?_⟩, he, ?_⟩
  · have : leftOf es #[] = es := by unfold leftOf; exact Array.filter_eq_self.2 (fun x _ => by simp)
    rw [this]; exact he
  · rw [hs]
    exact H'.setOne (g := b) rfl rfl H'.below rfl (fun _ => ⟨_, ho, rfl⟩) (fun _ _ => rfl)
theorem rangeMap_rule {t kt et : TypeId} (ht : mapB P t = some (kt, et)) (H : Own ok w0 w L) (i : Nat) {b : Nat} {es : Array MapEntry} {cl : Nat} (hi : L[i]? = some (.obj b (· = .map es cl)))
    (hk : ∀ r w', Own ok w0 w' (.obj r (· = .mapIter (some b) cl #[] cl) :: L) → K (.pointer (some ⟨r, 0, none⟩)) w') : nRange P true t (.map (some b)) w K := by
  unfold nRange
  refine nOp_in ⟨fun _ => ?_, fun h => by cases h⟩
  obtain ⟨o, ho, rfl⟩ := H.obj i hi
  rw [sv_run (v := .pointer (some ⟨w.heap.size, 0, none⟩)) (w' := w.alloc (.mapIter (some b) cl #[] cl))]
  · exact hk _ _ (H.allocObj _ rfl)
  · simp [Instr.range, run_underlying_map ht, run_getObj ho, run_newObj_alloc]
theorem nextMap_rule {t : TypeId} (H : Own ok w0 w L) (i j : Nat) {b r : Nat} {es : Array MapEntry} {cl : Nat} {seen : Array Nat} {rest : List (α × Value)} (hj : L[j]? = some (.obj r (· = .mapIter (some b) cl seen cl))) (hi : L[i]? = some (.obj b (· = .map es cl))) (hit : ItOk enc es cl seen rest)
    (hend : rest = [] → K (.tuple #[.bool false]) w) (hk : ∀ A p B seen' w', rest = A ++ p :: B → ItOk enc es cl seen' (A ++ B) → EntOk P r b es cl seen' (enc p.1) p.2 → Own ok w0 w' (L.set j (.obj r (· = .mapIter (some b) cl seen' cl))) → K (.tuple #[.bool true, enc p.1, p.2]) w') : nNext P true (.pointer (some ⟨r, 0, none⟩)) false t w K := by
  unfold nNext
  refine nOp_in ⟨fun _ => ?_, fun h => by cases h⟩
  obtain ⟨o, ho, rfl⟩ := H.obj j hj
  obtain ⟨o2, ho2, rfl⟩ := H.obj i hi
  rcases run_next_at (P := P) w t r b cl cl seen es cl ho ho2 hit.lt (Nat.le_refl _) with ⟨h0, hrun⟩ | ⟨e, he, w1, hw1, hrun⟩
  · rw [sv_run hrun]
    refine hend ?_
    have := congrArg List.length hit.rest
    simp [h0] at this
    exact List.eq_nil_of_length_eq_zero this.symm
  · rw [sv_run hrun]
    obtain ⟨A', B', hAB⟩ := List.append_of_mem he
    have hr := hit.rest
    rw [hAB] at hr
    simp only [entsL, List.map_append, List.map_cons] at hr
    obtain ⟨A, R, hR1, hA, hR⟩ := List.map_eq_append_iff.1 hr.symm
    obtain ⟨p, B, hR2, hp, hB⟩ := List.map_eq_cons_iff.1 hR
    have hp1 : e.key = enc p.1 := by have := congrArg Prod.fst hp; simpa using this.symm
    have hp2 : e.val = p.2 := by have := congrArg Prod.snd hp; simpa using this.symm
    rw [hp1, hp2]
    have H1 : Own ok w0 w1 L := by rcases hw1 with rfl | rfl; exact H; exact H.drew
    have heM : e ∈ es.toList := by
      have : e ∈ (leftOf es seen).toList := he
      unfold leftOf at this
      rw [Array.toList_filter] at this
      exact (List.mem_filter.1 this).1
    refine hk A p B (seen.push e.born) _ (by rw [hR1, hR2]) ⟨hit.nd, hit.lt, ?_⟩ (fun W h1 h2 => by rw [run_entry_at W r b cl seen es cl e h1 h2 heM hit.nd, hp1, hp2]) ?_
    · have hl : (leftOf es (seen.push e.born)).toList = A' ++ B' := by
        have h1 : (leftOf es (seen.push e.born)).toList = (leftOf es seen).toList.filter (fun x => !(x.born == e.born)) := by
          unfold leftOf
          rw [Array.toList_filter, Array.toList_filter, List.filter_filter]
          refine List.filter_congr fun x hx => ?_
          simp only [Array.contains_push]
          cases (x.born == e.born) <;> simp
        have hnd : ((leftOf es seen).toList.map (·.born)).Nodup := by
          unfold leftOf
          rw [Array.toList_filter]
          exact (List.filter_sublist.map _).nodup hit.nd
        rw [h1, hAB, List.filter_append, List.filter_cons]
        rw [hAB, List.map_append, List.map_cons] at hnd
        have hnd2 := List.nodup_append.1 hnd
        have hnd3 := List.nodup_cons.1 hnd2.2.1
        have eA : A'.filter (fun x => !(x.born == e.born)) = A' := List.filter_eq_self.2 fun x hx => by
          have := hnd2.2.2 x.born (List.mem_map.2 ⟨x, hx, rfl⟩) e.born (by simp)
          simpa using this
        have eB : B'.filter (fun x => !(x.born == e.born)) = B' := List.filter_eq_self.2 fun x hx => by
          have : x.born ≠ e.born := fun h => hnd3.1 (h ▸ List.mem_map.2 ⟨x, hx, rfl⟩)
          simpa using this
        rw [eA, eB]
        simp
      rw [hl]
      simp only [entsL, List.map_append, hA, hB]
    · have : Go.ChangeMaps.setBlock w1 r (.mapIter (some b) cl (seen.push e.born) cl) = w1.putObj r (.mapIter (some b) cl (seen.push e.born) cl) := rfl
      rw [this]
      exact H1.setObjAt j hj _ rfl
end
end Go.Eng
set_option linter.unusedVariables false
namespace Go.Eng
open Go.RowKit
set_option linter.unusedSectionVars false
variable [Inhabited Keep] [Inhabited Hard]
section
variable {P : Program} {n : Nat} {ds : List Nat} {x : Code} {e : Env} {w : World} {K : EK}
end
section
variable {P : Program} {w : World} {K : Value → World → Prop} {KF : Value → Prop} {g : Bool} {C : World → Prop}
end
section
variable {P : Program} {w w0 : World} {K : Value → World → Prop} {KF : Value → Prop} {g : Bool} {ok : Nat → Prop} {L : List Item}
end
section
variable {P : Program} {w0 : World} {ok : Nat → Prop} {L : List Item}
end
section
variable {P : Program} {w w0 : World} {K : Value → World → Prop} {g : Bool} {ok : Nat → Prop} {L : List Item}
end
section
variable {P : Program} {w0 : World} {ok : Nat → Prop} {L : List Item}
theorem c_buildData {α : Type} {k : Ty α} {KE : Value → List Item → Prop} {t e : TypeId} {len : Nat} {z : Value} {parts : List (Nat × Value)} (cs : List Value) (xs : List α) (ht : sliceB P t = some e) (hs : sizeB P e = some k.sz) (hz : zeroB P e = some z) (hzl : z.cells.toList.length = k.sz) (hlen : Nat.ble (len * k.sz) 16777216 = true) (hpos : Nat.beq (len * k.sz) 0 = false)
    (hf : fillL (fun i => some (i * k.sz, k.sz)) (zerosL z.cells.toList len) parts = some cs) (hn : xs.length = len) (hl : cs.length = len * k.sz) (hm : len ≤ maxLen) (hR : ∀ w b, Own ok w0 w (.blk b cs e :: L) → rowsR k w (okOf ok w0 (.blk b cs e :: L)) xs cs)
    (hk : ∀ b, KE (.slice (some ⟨b, 0, none⟩) len len) (.dat (dSl k (.slice (some ⟨b, 0, none⟩) len len) xs) :: L)) : cBuildSlice P true t len parts ok w0 L KE := by
  unfold cBuildSlice
  refine cEv_in ⟨fun v L' => ∃ b, v = .slice (some ⟨b, 0, none⟩) len len ∧ L' = .dat (dSl k (.slice (some ⟨b, 0, none⟩) len len) xs) :: L, fun _ v L' ⟨b, _, h⟩ => by rw [h]; exact List.sublist_cons_self _ _, fun w H => ⟨fun _ => ?_, fun h => by cases h⟩, fun v L' ⟨b, hv, hL⟩ _ => by rw [hv, hL]; exact hk b⟩
  rw [sv_run (buildSlice_run ht hs hz hzl hlen hpos hf)]
  have H' := H.alloc cs e
  exact ⟨_, ⟨_, rfl, rfl⟩, H'.blkSl (k := k) xs len hn hl hm (hR _ _ H')⟩
end
section
variable {P : Program} {w w0 : World} {K : Value → World → Prop} {g : Bool} {ok : Nat → Prop} {L : List Item}
end
end Go.Eng
namespace Go.Proofs.YtfapphlhkfddoaaGreatDoor.Cut
open Go.RowKit Go.Eng Go.Proofs
set_option linter.unusedVariables false
set_option maxRecDepth 20000
theorem own_one {ok : Nat → Prop} {w : World} {a : Dat} (ha : a.φ w ok) : Eng.Own ok w w [.dat a] := Eng.Own.start (ds := [a]) (by
  intro d hd
  rw [List.mem_singleton] at hd; subst hd; exact ha)
variable {ok : Nat → Prop} {w0 w : World} {L : List Eng.Item}
end Go.Proofs.YtfapphlhkfddoaaGreatDoor.Cut
namespace Go.Proofs.YtfapphlhkfddoaaGreatDoor.G
open Go.RowKit Go.Eng Go.Proofs Go.Proofs.YtfapphlhkfddoaaGreatDoor.Cut
set_option linter.unusedVariables false
set_option maxRecDepth 20000
variable {ok : Nat → Prop} {w : World}
end Go.Proofs.YtfapphlhkfddoaaGreatDoor.G
namespace Go.Proofs.YtfapphlhkfddoaaGreatDoor.G
open Go.RowKit Go.Eng Go.Proofs Go.Proofs.YtfapphlhkfddoaaGreatDoor.Cut
set_option linter.unusedVariables false
set_option maxRecDepth 20000
variable {ok : Nat → Prop} {w0 w : World} {L : List Eng.Item}
theorem iterN_pre : ∀ (k : Nat) (st : List (List UInt8) × List UInt8) (xs : List (List UInt8)), iterM stepN k st = some xs → ∃ rest, st.1 ++ rest = xs
  | 0, st, xs, h => by cases h
  | k + 1, st, xs, h => by
    obtain ⟨k', hk, q, hq, h⟩ := iterS h
    cases hk
    unfold stepN at hq
    split at hq
    · cases hq; exact ⟨[], by rw [List.append_nil]; exact h⟩
    · obtain ⟨y, hy, hq⟩ := bindS hq
      split at hq
      · cases hq
        obtain ⟨rest, hr⟩ := iterN_pre k _ xs h
        exact ⟨y.1 :: rest, by rw [← hr]; simp⟩
      · cases hq; exact ⟨[], by rw [List.append_nil]; exact h⟩
theorem yield_yes {P : Program} {l : Nat} {args : List Value} {g : Bool} {φ : Value → World → Prop} {K : Value → World → Prop} (hg : g = true) (h : nYield P l args w φ) (hk : ∀ v w', φ v w' → K v w') : nCallV P g (.func (.yield l) #[] #[]) args w K := by
  subst hg; exact yield_rule h hk
theorem callV_skip {P : Program} {x : Value} {args : List Value} {g : Bool} {K : Value → World → Prop} (v : Value) (hg : g = false) (hk : K v w) : nCallV P g x args w K := by
  unfold nCallV; exact nOp_in ⟨fun h => (by rw [hg] at h; cases h), fun _ => ⟨v, hk⟩⟩
abbrev encT (x : List UInt8) : List Value := [.string (bs x)]
set_option maxHeartbeats 4000000 in
theorem next_iter {b : Nat} {t : List UInt8} {xs : List (List UInt8)} (hm : nextM t = some xs) : IterAt Tryz.prog ok w0 185 #[.pointer (some ⟨b, 0, none⟩)] encT (fun l => l = xs) (fun pre => ∃ rest, pre ++ rest = xs) [.blk b [.string (bs t)] 28] := by
  intro lp I Ix hY W L h0 H
  have ea : (#[Value.func (.yield lp) #[] #[]] ++ #[Value.pointer (some ⟨b, 0, none⟩)] : Array Value) = [Value.func (.yield lp) #[] #[], .pointer (some ⟨b, 0, none⟩)].toArray := rfl
  rw [ea]
  obtain ⟨s, hs, hm⟩ := bindS hm
  obtain ⟨y, hy, hs⟩ := bindS hs
  obtain ⟨k0, hk0⟩ := loopS hm
  replace H : Eng.Own ok w0 W (.blk b [.string (bs t)] 28 :: L) := H
  refine enterN (args := [.func (.yield lp) #[] #[], .pointer (some ⟨b, 0, none⟩)]) Tryz.func185 rfl Tryz.ntmps185 rfl rfl ?_
  refine Eng.nc_seq ?_
  refine nc ?_
  refine nc_cut (fun e w' => e = [(0, .func (.yield lp) #[] #[]), (1, .pointer (some ⟨b, 0, none⟩)), (3, .string (bs s))] ∧ Eng.Own ok w0 w' (.blk b [.string (bs t)] 28 :: L)) ?_ ?_
  · refine Eng.nc_seq ?_
    refine nc ?_
    refine own_load H 0 rfl (by kernel_rfl) (j := 0) rfl ?_
    refine idxS_rule (by kernel_rfl) hy ?_
    refine Eng.nc_block ?_
    refine nc_cut (fun e w' => ∃ b9 : Bool, (b9 = true ↔ five y) ∧ e = [(0, .func (.yield lp) #[] #[]), (1, .pointer (some ⟨b, 0, none⟩)), (3, .string (bs [])), (8, .int .u8 y), (9, .bool b9)] ∧ Eng.Own ok w0 w' (.blk b [.string (bs t)] 28 :: L)) ?_ ?_
    · refine Eng.nc_seq ?_
      refine nc ?_
      refine Eng.nc_cond rfl (fun h1 => ?_) (fun h1 => ?_)
      · refine nc ?_
        exact cut_inA ⟨(y == 107), by rw [h1]; simp at h1; simp [five, h1], rfl, H⟩
      refine Eng.nc_seq ?_
      refine nc ?_
      refine Eng.nc_cond rfl (fun h2 => ?_) (fun h2 => ?_)
      · refine nc ?_
        exact cut_inA ⟨(y == 104), by rw [h2]; simp at h2; simp [five, h2], rfl, H⟩
      refine Eng.nc_seq ?_
      refine nc ?_
      refine Eng.nc_cond rfl (fun h3 => ?_) (fun h3 => ?_)
      · refine nc ?_
        exact cut_inA ⟨(y == 112), by rw [h3]; simp at h3; simp [five, h3], rfl, H⟩
      refine Eng.nc_seq ?_
      refine nc ?_
      refine Eng.nc_cond rfl (fun h4 => ?_) (fun h4 => ?_)
      · refine nc ?_
        exact cut_inA ⟨(y == 115), by rw [h4]; simp at h4; simp [five, h4], rfl, H⟩
      refine nc ?_
      exact cut_inA ⟨(y == 120), by
        simp at h1 h2 h3 h4
        simp [five, h1, h2, h3, h4], rfl, H⟩
    · rintro _ w1 ⟨b9, h9, rfl, H⟩
      refine Eng.nc_cond rfl (fun hc => ?_) (fun hc => ?_)
      · rw [if_pos (h9.1 hc)] at hs
        refine nc ?_
        refine own_load H 0 rfl (by kernel_rfl) (j := 0) rfl ?_
        refine txtI_rule 1 (t.length : Int) (by kernel_rfl) ⟨_, rfl⟩ rfl hs ?_
        exact cut_inA ⟨rfl, H⟩
      · have h5 : ¬ five y := fun q => by rw [h9.2 q] at hc; cases hc
        rw [if_neg h5] at hs
        refine Eng.nc_seq ?_
        refine nc ?_
        refine Eng.nc_cond rfl (fun h6 => ?_) (fun h6 => ?_)
        · rw [if_pos (by simpa using h6)] at hs
          refine nc ?_
          refine own_load H 0 rfl (by kernel_rfl) (j := 0) rfl ?_
          refine txtI_rule 2 (t.length : Int) (by kernel_rfl) ⟨_, rfl⟩ rfl hs ?_
          exact cut_inA ⟨rfl, H⟩
        · rw [if_neg (by simpa using h6)] at hs
          replace hs := Option.some.inj hs
          subst hs
          refine nc ?_
          exact cut_inA ⟨rfl, H⟩
  · rintro _ w1 ⟨rfl, H⟩
    refine Eng.nc_block ?_
    refine nc ?_
    refine loop_ruleA (fun k e w => ∃ pre q L', iterM stepN k (pre, q) = some xs ∧ I pre L' ∧ e = [(0, .func (.yield lp) #[] #[]), (1, .pointer (some ⟨b, 0, none⟩)), (3, .string (bs q))] ∧ Eng.Own ok w0 w (.blk b [.string (bs t)] 28 :: L')) (k₀ := k0) ⟨[], s, L, hk0, h0, rfl, H⟩ ?_
    rintro k e w ⟨pre, q, L', hit, hI, rfl, H⟩
    obtain ⟨k, rfl, o, ho, hit⟩ := iterS hit
    unfold stepN at ho
    refine Eng.nc_seq ?_
    refine Eng.nc_seq ?_
    refine nc ?_
    refine Eng.nc_cond rfl (fun hc => ?_) (fun hc => ?_)
    · have hq : ¬ q = [] := by simpa [bs_toList] using hc
      rw [if_neg hq] at ho
      obtain ⟨y2, hy2, ho⟩ := bindS ho
      refine nc ?_
      refine Eng.nc_block ?_
      refine Eng.nc_seq ?_
      refine nc ?_
      refine call_rule (by kernel_rfl) (term_Take_ok (ok := fun _ => False) hy2) fun v w2 ⟨hv, hbel⟩ => ?_
      subst hv
      replace H := H.call hbel
      refine Eng.nc_seq ?_
      refine Eng.nc_seq ?_
      refine nc ?_
      by_cases he : y2.2.2 = 0
      · rw [if_pos he] at ho
        cases ho
        have hg : (y2.2.2 != (0 : Int)) = false := by simp [he]
        obtain ⟨rest, hrest⟩ := iterN_pre k _ xs hit
        have hsp : ∃ rest, (pre ++ [y2.1]) ++ rest = xs := ⟨rest, hrest⟩
        refine yield_yes (gT0 hg rfl) (hY [.blk b [.string (bs t)] 28] pre y2.1 L' _ hsp hI (Eng.Own.swap (A := [_]) H)) fun v w5 hv => ?_
        rcases hv with ⟨rfl, L2, hI2, H⟩ | ⟨rfl, L2, hI2, H⟩
        · replace H : Eng.Own ok w0 w5 (.blk b [.string (bs t)] 28 :: L2) := Eng.Own.swap (B := [_]) H
          refine Eng.nc_cond (b := cond (y2.2.2 != (0 : Int)) true (!true)) rfl (fun h7 => ?_) (fun h7 => ?_)
          · rw [hg] at h7; cases h7
          refine nc ?_
          refine nc ?_
          exact again_inA ⟨pre ++ [y2.1], y2.2.1, L2, hit, hI2, rfl, H⟩
        · replace H : Eng.Own ok w0 w5 (.blk b [.string (bs t)] 28 :: L2) := Eng.Own.swap (B := [_]) H
          refine Eng.nc_cond (b := cond (y2.2.2 != (0 : Int)) true (!false)) rfl (fun h7 => ?_) (fun h7 => ?_)
          · refine nc ?_
            exact ret_of [] trivial ⟨_, rfl, .inr ⟨_, L2, hsp, hI2, H⟩⟩
          rw [hg] at h7; cases h7
      · rw [if_neg he] at ho
        cases ho
        have hg : (y2.2.2 != (0 : Int)) = true := by simpa using he
        refine callV_skip (.bool false) (gF0 hg) ?_
        refine Eng.nc_cond (b := cond (y2.2.2 != (0 : Int)) true (!false)) rfl (fun h7 => ?_) (fun h7 => ?_)
        · refine nc ?_
          exact ret_of [] trivial ⟨_, rfl, .inl ⟨pre, L', hit, hI, H⟩⟩
        rw [hg] at h7; cases h7
    · have hq : q = [] := by simpa [bs_toList] using hc
      rw [if_pos hq] at ho
      cases ho
      refine nc ?_
      exact ret_of [] trivial ⟨_, rfl, .inl ⟨pre, L', hit, hI, H⟩⟩
set_option maxHeartbeats 2000000 in
theorem appendSeqT_own {gf : FuncId} {lb : Array Value} {S Sp : List (List UInt8) → Prop} {M : List Eng.Item} (hb : bodyB Tryz.prog gf = true) (hit : IterAt Tryz.prog ok w0 gf lb encT S Sp M) (hSp : ∀ pre, Sp pre → pre.length ≤ 1000000000) (H : Eng.Own ok w0 w (M ++ L)) :
    Calls Tryz.prog 184 #[.slice none 0 0, .func (.func gf) #[] lb] w fun e w' => ∃ v, e = .returned v ∧ ∃ xs, S xs ∧ Eng.Own ok w0 w' (.row v 28 1 xs.length (strs xs) :: (M ++ L)) := by
  refine enter (args := [.slice none 0 0, .func (.func gf) #[] lb]) Tryz.func184 rfl Tryz.ntmps184 rfl rfl ?_
  try refine nc ?_
  refine own_box H [.slice none 0 0] rfl fun B w1 H => ?_
  iterate 2 try refine nc ?_
  have H0 : Eng.Own ok w0 w1 (M ++ (.blk B [.slice none 0 0] 32 :: .row (.slice none 0 0) 28 1 0 [] :: L)) := by
    refine (H.nilRow 28 1).perm ?_
    refine (List.Perm.swap _ _ _).trans ?_
    exact (List.perm_append_comm_assoc [_, _] M L)
  refine range_rule (I := fun pre L1 => ∃ v, L1 = .blk B [v] 32 :: .row v 28 1 pre.length (strs pre) :: L) (Ix := fun _ _ _ => False) rfl hb (fun _ => rfl) rfl hit H0 ⟨_, rfl⟩ ?_ ?_ ?_
  · rintro l φ T pre x L1 W hφ hsp ⟨v, rfl⟩ H
    try refine nc ?_
    refine rGo_in (.blk B [v] 32 :: .row v 28 1 pre.length (strs pre) :: L) H fun w5 φ2 hφ2 H => ?_
    have hl := hSp _ hsp
    simp only [List.length_append, List.length_cons, List.length_nil] at hl
    try refine nc ?_
    refine own_load H 0 rfl (by kernel_rfl) (j := 0) rfl ?_
    refine own_buildSlice (e := 28) (sz := 1) (z := .string (bs [])) (cs := [.string (bs x)]) H (by kernel_rfl) (by kernel_rfl) (by kernel_rfl) rfl rfl rfl rfl ?_
    intro g w6 H
    refine own_appendBlk (e := 28) (sz := 1) (z := .string (bs [])) (by_ := 16) (m := 1) H 2 0 rfl rfl (by kernel_rfl) (by kernel_rfl) rfl rfl rfl (by intro v hv; simp at hv; subst hv; rfl) (by omega) (by omega) ?_
    intro v' w7 H
    obtain ⟨A', c', hv', _, _⟩ := H.rowSl 2 rfl
    subst hv'
    refine own_store (t := 32) H 1 rfl (by kernel_rfl) (j := 0) rfl rfl ?_
    intro w8 H
    try refine nc ?_
    refine rEnd_in (.blk B [.slice A' (pre.length + 1) c'] 32 :: .row (.slice A' (pre.length + 1) c') 28 1 (pre ++ [x]).length (strs (pre ++ [x])) :: L) ⟨_, rfl⟩ ?_
    have e1 : strs (pre ++ [x]) = strs pre ++ [.string (bs x)] := by simp [strs]
    have e2 : (pre ++ [x]).length = pre.length + 1 := by simp
    rw [e1, e2]
    exact H.tail
  · rintro D W L1 xs hS ⟨v, rfl⟩ H
    replace H : Eng.Own ok w0 W (.obj D isDef :: (.blk B [v] 32 :: .row v 28 1 xs.length (strs xs) :: (M ++ L))) := H.perm (List.Perm.cons _ (List.perm_append_comm_assoc M [_, _] L))
    iterate 2 try refine nc ?_
    refine own_load H 1 rfl (by kernel_rfl) (j := 0) rfl ?_
    iterate 2 try refine nc ?_
    refine ret_own H 0 rfl fun w' H => ?_
    exact ret_of [v] ⟨rfl, trivial⟩ ⟨_, rfl, xs, hS, H.tail.tail⟩
  · intro D W L1 pre c _ h _; exact h.elim
theorem collectT_own {gf : FuncId} {lb : Array Value} {S Sp : List (List UInt8) → Prop} {M : List Eng.Item} (hb : bodyB Tryz.prog gf = true) (hit : IterAt Tryz.prog ok w0 gf lb encT S Sp M) (hSp : ∀ pre, Sp pre → pre.length ≤ 1000000000) (H : Eng.Own ok w0 w (M ++ L)) :
    Calls Tryz.prog 139 #[.func (.func gf) #[] lb] w fun e w' => ∃ v, e = .returned v ∧ ∃ xs, S xs ∧ Eng.Own ok w0 w' (.row v 28 1 xs.length (strs xs) :: (M ++ L)) := by
  refine enter (args := [.func (.func gf) #[] lb]) Tryz.func139 rfl Tryz.ntmps139 rfl rfl ?_
  iterate 2 try refine nc ?_
  refine call_rule (by kernel_rfl) (appendSeqT_own hb hit hSp H) fun v w1 hv => ?_
  try refine nc ?_
  exact ret_of [v] ⟨rfl, trivial⟩ ⟨_, rfl, hv⟩
theorem Next_own {t : List UInt8} (H : Eng.Own ok w0 w L) :
    Calls Tryz.prog 140 #[.string (bs t)] w fun e w' => ∃ v, e = .returned v ∧ ∃ b, v = .func (.func 185) #[] #[.pointer (some ⟨b, 0, none⟩)] ∧ Eng.Own ok w0 w' (.blk b [.string (bs t)] 28 :: L) := by
  refine enter (args := [.string (bs t)]) Tryz.func140 rfl Tryz.ntmps140 rfl rfl ?_
  try refine nc ?_
  refine own_box H [.string (bs t)] rfl fun b w1 H => ?_
  iterate 2 try refine nc ?_
  exact ret_of [_] ⟨rfl, trivial⟩ ⟨_, rfl, b, rfl, H⟩
theorem parts_Of_ok {ok : Nat → Prop} {w : World} {x0 : List UInt8} {r : List (List UInt8)} (h : parts_Of.f x0 = some r) :
    Calls Tryz.prog 107 #[.string (bs x0)] w fun e w' => ∃ v, e = .returned v ∧ (slR tStr w' (fun b => ok b ∨ w.heap.size ≤ b) v r ∧ Bel w.heap.size w w') := by
  have H : Eng.Own ok w w [] := Eng.Own.nil ok w
  unfold parts_Of.f at h
  obtain ⟨b, hb, h⟩ := bindS h
  refine enter (args := [.string (bs x0)]) Tryz.func107 rfl Tryz.ntmps107 rfl rfl ?_
  iterate 2 try refine nc ?_
  refine call_rule (by kernel_rfl) (term_Right_ok (ok := fun _ => False) hb) fun v w1 ⟨hv, hbel⟩ => ?_
  subst hv
  replace H := H.call hbel
  iterate 2 try refine nc ?_
  cases b with
  | false =>
    replace h := Option.some.inj h
    subst h
    refine cond_yes rfl ?_
    iterate 2 try refine nc ?_
    exact ret_of [.slice none 0 0] ⟨rfl, trivial⟩ ⟨_, rfl, nilR, H.frame⟩
  | true =>
    obtain ⟨xs, hxs, h⟩ := bindS h
    obtain ⟨hl, h⟩ := givenS h
    replace h := Option.some.inj h
    subst h
    refine cond_no rfl ?_
    iterate 2 try refine nc ?_
    refine call_rule (by kernel_rfl) (Next_own (t := x0) H) fun v w2 ⟨b, hv, H⟩ => ?_
    subst hv
    refine call_rule (by kernel_rfl) (collectT_own (L := []) (by kernel_rfl) (next_iter hxs) (fun pre ⟨rest, hr⟩ => by rw [← hr] at hl; simp at hl; omega) H) fun v w3 ⟨ys, hy, H⟩ => ?_
    subst hy
    replace H := H.freezeS 0 rfl
    iterate 2 try refine nc ?_
    exact ret_of [v] ⟨rfl, trivial⟩ ⟨_, rfl, H.outD 0 rfl, H.frame⟩
end Go.Proofs.YtfapphlhkfddoaaGreatDoor.G
namespace Go.Proofs.YtfapphlhkfddoaaGreatDoor.G
open Go.RowKit Go.Eng Go.Proofs Go.Proofs.YtfapphlhkfddoaaGreatDoor.Cut
set_option linter.unusedVariables false
set_option linter.unusedSimpArgs false
set_option maxRecDepth 20000
variable {ok : Nat → Prop} {w0 w : World} {L R : List Eng.Item}
abbrev txV (x : List UInt8) : Value := .string (bs x)
theorem bsB_eq (a b : List UInt8) : (bs a == bs b) = decide (a = b) := by
  show ((bs a).data == (bs b).data) = _
  rw [Bool.eq_iff_iff]
  simp [bs]
theorem keyTx : MKey Tryz.prog 28 txV where
  check em a w := run_keyB (P := Tryz.prog) (w := w) (em := em) 4 10000 28 (txV a) (by decide) (by kernel_rfl)
  eq a b w := by
    have h := run_eqB (P := Tryz.prog) (w := w) 4 10000 28 (txV a) (txV b) (bs a == bs b) (by decide) (by kernel_rfl)
    have e := bsB_eq a b
    rw [e] at h
    exact h
  desc := by
    have h : (match Tryz.prog.underlying 28 with | some .string => true | _ => false) = true := by kernel_rfl
    split at h
    · rename_i hu
      exact ⟨_, hu, .inl fun a b => congrArg some (bsB_eq a b)⟩
    · cases h
  stays a := by
    show (bs a == bs a) = true
    rw [bsB_eq]; simp
theorem own_clearMap {P : Program} {K : Value → World → Prop} {α : Type} {enc : α → Value} {l : List (α × Value)} {t ty kt et : TypeId} {consts : Array Bool} {b : Nat} (ht : mapB P t = some (kt, et)) (H : Eng.Own ok w0 w L) (i : Nat) (hi : L[i]? = some (.obj b (mapOk enc l)))
    (hk : ∀ w', Eng.Own ok w0 w' (L.set i (.obj b (mapOk enc []))) → K (.tuple #[]) w') : nBuiltin P true .clear [t] ty [.map (some b)] consts w K := by
  obtain ⟨o, ho, es, cl, rfl, he, _, _⟩ := H.obj i hi
  have hrun : (builtin .clear #[t] ty consts #[.map (some b)]).run P w = .ok (.value (.tuple #[])) (w.putObj b (.map #[] cl)) := by
    show (sv (Builtin.clear_ #[t] ty #[.map (some b)])).run P w = _
    refine sv_run ?_
    have hs := run_setObj (P := P) (o' := .map #[] cl) ho
    simp [Builtin.clear_, run_underlying_map ht, run_getObj ho, hs]
  unfold nBuiltin
  refine nOp_in ⟨fun _ => ?_, fun h => by cases h⟩
  show upon P K ((builtin .clear #[t] ty consts #[.map (some b)]).run P w)
  rw [hrun]
  exact hk _ (H.setObjAt i hi _ ⟨#[], cl, rfl, rfl, List.nodup_nil, fun e he => by simp at he⟩)
abbrev knL (g bm bq : Nat) (v : Value) (cells : List Value) (M : List (List UInt8)) (E : List (List (List UInt8))) (R : List Eng.Item) : List Eng.Item :=
  .blk g [.map (some bm), v, .map (some bq)] 115 :: .obj bm (mapOk txV (M.map fun t => (t, Value.int .i64 1))) :: .row v 32 1 E.length cells :: .dat (dRows (tSl tStr) E cells) :: .obj bq (mapOk txV []) :: R
theorem getA_met (t : List UInt8) : ∀ M : List (List UInt8), getA t (M.map fun t => (t, Value.int .i64 1)) = if t ∈ M then some (.int .i64 1) else none
  | [] => rfl
  | x :: M => by
    have ih := getA_met t M
    show (if t = x then some (Value.int .i64 1) else getA t (M.map fun t => (t, Value.int .i64 1))) = _
    rw [ih]
    by_cases h : t = x
    · rw [if_pos h, if_pos (by rw [h]; exact List.mem_cons_self)]
    · rw [if_neg h]
      by_cases h2 : t ∈ M
      · rw [if_pos h2, if_pos (List.mem_cons_of_mem _ h2)]
      · rw [if_neg h2, if_neg (fun q => (List.mem_cons.1 q).elim h h2)]
theorem putA_met (t : List UInt8) : ∀ M : List (List UInt8), t ∉ M → putA t (Value.int .i64 1) (M.map fun t => (t, Value.int .i64 1)) = (M ++ [t]).map fun t => (t, Value.int .i64 1)
  | [], _ => rfl
  | x :: M, h => by
    have ih := putA_met t M (fun q => h (List.mem_cons_of_mem _ q))
    have hx : ¬ t = x := fun e => h (by rw [e]; exact List.mem_cons_self)
    show (if t = x then _ else (x, Value.int .i64 1) :: putA t (Value.int .i64 1) (M.map fun t => (t, Value.int .i64 1))) = _
    rw [if_neg hx, ih]; rfl
set_option maxHeartbeats 4000000 in
theorem learn_new {g bm bq : Nat} {v : Value} {cells : List Value} {M : List (List UInt8)} {E : List (List (List UInt8))} {c : UInt8} {r : List UInt8} {ps : List (List UInt8)} (H : Eng.Own ok w0 w (knL g bm bq v cells M E R)) (hn : c :: r ∉ M) (hps : parts_Of.f (c :: r) = some ps) (hE : E.length ≤ 1000000) :
    Calls Tryz.prog 71 #[.pointer (some ⟨g, 0, none⟩), .string (bs (c :: r))] w fun e w' => ∃ x, e = .returned x ∧ (x = .bool true ∧ ∃ v' cells', Eng.Own ok w0 w' (knL g bm bq v' cells' (M ++ [c :: r]) (if c = 101 then E ++ [ps] else E) R)) := by
  refine enter (args := [.pointer (some ⟨g, 0, none⟩), .string (bs (c :: r))]) Tryz.func71 rfl Tryz.ntmps71 rfl rfl ?_
  iterate 2 try refine nc ?_
  refine own_load H 0 rfl (by kernel_rfl) (j := 0) rfl ?_
  refine lookup_ruleV (kt := 28) (et := 3) (z := .int .i64 0) (by kernel_rfl) (by kernel_rfl) keyTx (c :: r) H 1 rfl (.int .i64 0) (by rw [getA_met, if_neg hn]; rfl) ?_
  iterate 2 try refine nc ?_
  refine cond_no rfl ?_
  iterate 2 try refine nc ?_
  refine own_load H 0 rfl (by kernel_rfl) (j := 0) rfl ?_
  refine mapUpdate_rule (kt := 28) (et := 3) (by kernel_rfl) keyTx (c :: r) (.int .i64 1) H 1 rfl fun w1 H => ?_
  replace H : Eng.Own ok w0 w1 (.blk g [.map (some bm), v, .map (some bq)] 115 :: .obj bm (mapOk txV (putA (c :: r) (Value.int .i64 1) (M.map fun t => (t, Value.int .i64 1)))) :: .row v 32 1 E.length cells :: .dat (dRows (tSl tStr) E cells) :: .obj bq (mapOk txV []) :: R) := H
  rw [putA_met _ _ hn] at H
  iterate 2 try refine nc ?_
  refine own_load H 0 rfl (by kernel_rfl) (j := 2) rfl ?_
  refine own_clearMap (kt := 28) (et := 4) (by kernel_rfl) H 4 rfl fun w2 H => ?_
  replace H : Eng.Own ok w0 w2 (knL g bm bq v cells (M ++ [c :: r]) E R) := H
  iterate 2 try refine nc ?_
  refine idxS_rule (by kernel_rfl) (show idxS (c :: r) (0 : Int) = some (c.toNat : Int) from rfl) ?_
  iterate 2 try refine nc ?_
  refine cond_of (fun hc => ?_) (fun hc => ?_)
  · have hc1 : c = 101 := by
      have := of_decide_eq_true (show decide ((c.toNat : Int) = 101) = true by simpa using hc)
      exact UInt8.toNat_inj.1 (by simpa using (show c.toNat = 101 by omega))
    rw [if_pos hc1]
    try refine nc ?_
    refine draw_rule [] (by kernel_rfl) (by kernel_rfl) H ?_
    refine c_load 0 rfl (by kernel_rfl) (j := 1) rfl ?_
    refine c_callS0 rfl (by kernel_rfl) (fun _ H => parts_Of_ok (ok := fun _ => False) hps) ?_
    intro A cc
    refine c_buildData (k := tSl tStr) (e := 32) (z := .slice none 0 0) [.slice A ps.length cc] [ps] (by kernel_rfl) (by kernel_rfl) (by kernel_rfl) rfl rfl rfl rfl rfl rfl (by decide) (fun _ _ H => ⟨[.slice A ps.length cc], [], rfl, ⟨_, rfl, H.dat 1 rfl⟩, rfl⟩) ?_
    intro gb
    refine c_appendD (k := tSl tStr) (e := 32) (z := .slice none 0 0) 24 4 5 0 rfl rfl rfl rfl (by kernel_rfl) (by kernel_rfl) rfl rfl (by simp only [List.length_cons, List.length_nil]; omega) rfl ?_
    intro A2 c2 cells2
    refine c_storeB 2 rfl (by kernel_rfl) [.slice A2 (E ++ [ps]).length c2] rfl rfl rfl rfl ?_
    intro w3 H
    iterate 2 try refine nc ?_
    exact ret_of [.bool true] ⟨rfl, trivial⟩ ⟨_, rfl, rfl, _, _, H.tail.tail⟩
  · have hc1 : c ≠ 101 := fun e => by rw [e] at hc; simp at hc
    rw [if_neg hc1]
    iterate 2 try refine nc ?_
    try refine nc ?_
    exact ret_of [.bool true] ⟨rfl, trivial⟩ ⟨_, rfl, rfl, v, cells, H⟩
theorem learn_old {g bm bq : Nat} {v : Value} {cells : List Value} {M : List (List UInt8)} {E : List (List (List UInt8))} {t : List UInt8} (H : Eng.Own ok w0 w (knL g bm bq v cells M E R)) (hn : t ∈ M) :
    Calls Tryz.prog 71 #[.pointer (some ⟨g, 0, none⟩), .string (bs t)] w fun e w' => ∃ x, e = .returned x ∧ (x = .bool false ∧ Eng.Own ok w0 w' (knL g bm bq v cells M E R)) := by
  refine enter (args := [.pointer (some ⟨g, 0, none⟩), .string (bs t)]) Tryz.func71 rfl Tryz.ntmps71 rfl rfl ?_
  iterate 2 try refine nc ?_
  refine own_load H 0 rfl (by kernel_rfl) (j := 0) rfl ?_
  refine lookup_ruleV (kt := 28) (et := 3) (z := .int .i64 0) (by kernel_rfl) (by kernel_rfl) keyTx t H 1 rfl (.int .i64 1) (by rw [getA_met, if_pos hn]; rfl) ?_
  iterate 2 try refine nc ?_
  refine cond_yes rfl ?_
  iterate 2 try refine nc ?_
  exact ret_of [.bool false] ⟨rfl, trivial⟩ ⟨_, rfl, rfl, H⟩
theorem learn_any {g bm bq : Nat} {v : Value} {cells : List Value} {M : List (List UInt8)} {E : List (List (List UInt8))} {t : List UInt8} {ps : List (List UInt8)} (H : Eng.Own ok w0 w (knL g bm bq v cells M E R)) (ht : t ≠ []) (hps : parts_Of.f t = some ps) (hE : E.length ≤ 1000000) :
    Calls Tryz.prog 71 #[.pointer (some ⟨g, 0, none⟩), .string (bs t)] w fun e w' => ∃ x, e = .returned x ∧ (x = .bool (!decide (t ∈ M)) ∧ ∃ v' cells', Eng.Own ok w0 w' (knL g bm bq v' cells' (seenM M E t ps).1 (seenM M E t ps).2 R)) := by
  unfold seenM
  by_cases h : t ∈ M
  · rw [if_pos h, decide_eq_true h]
    exact (learn_old H h).mono fun e w' ⟨x, h1, h2, h3⟩ => ⟨x, h1, h2, v, cells, h3⟩
  · rw [if_neg h, decide_eq_false h]
    cases t with
    | nil => exact absurd rfl ht
    | cons c r =>
      refine (learn_new H h hps hE).mono fun e w' ⟨x, h1, h2, v', cells', h3⟩ => ⟨x, h1, h2, v', cells', ?_⟩
      have e : ((c :: r).head? = some 101) = (c = 101) := by simp
      simp only [e]
      exact h3
end Go.Proofs.YtfapphlhkfddoaaGreatDoor.G
namespace Go.Proofs.YtfapphlhkfddoaaGreatDoor.G
open Go.RowKit Go.Eng Go.Proofs Go.Proofs.YtfapphlhkfddoaaGreatDoor.Cut
set_option linter.unusedVariables false
set_option linter.unusedSimpArgs false
set_option maxRecDepth 20000
variable {ok : Nat → Prop} {w0 w : World} {L R : List Eng.Item}
theorem seen_len (M : List (List UInt8)) (E : List (List (List UInt8))) (t : List UInt8) (ps : List (List UInt8)) : (seenM M E t ps).2.length ≤ E.length + 1 := by
  unfold seenM
  split
  · show E.length ≤ _; omega
  · show (if _ then E ++ [ps] else E).length ≤ _
    split
    · simp
    · omega
theorem perm_kn {α : Type} (a b c d e : α) (R : List α) : (a :: b :: c :: d :: e :: R).Perm (c :: e :: b :: a :: d :: R) :=
  (List.perm_middle (l₁ := [a, b]) (l₂ := d :: e :: R)).trans (List.Perm.cons c ((List.perm_middle (l₁ := [a, b, d]) (l₂ := R)).trans (List.Perm.cons e (List.Perm.swap _ _ _))))
set_option maxHeartbeats 4000000 in
theorem KnOf_calls {l : List (List UInt8)} {v : Value} {S : KnS} (H : Eng.Own ok w0 w (.dat (dSl tStr v l) :: R)) (hl : l.length ≤ 1000000) (h : knowM l ([], []) = some S) :
    Calls Tryz.prog 68 #[v] w fun e w' => ∃ x, e = .returned x ∧ ∃ g bm bq v' cells', x = .pointer (some ⟨g, 0, none⟩) ∧ Eng.Own ok w0 w' (knL g bm bq v' cells' S.1 S.2 (.dat (dSl tStr v l) :: R)) := by
  obtain ⟨A, c, hA, hc⟩ := H.sl 0 rfl
  subst hA
  refine enter (args := [.slice A l.length c]) Tryz.func68 rfl Tryz.ntmps68 rfl rfl ?_
  iterate 2 try refine nc ?_
  refine makeMap_rule (enc := txV) H fun bm w1 H => ?_
  try refine nc ?_
  refine makeMap_rule (enc := txV) H fun bq w2 H => ?_
  try refine nc ?_
  refine own_box H [.map (some bm), .slice none 0 0, .map (some bq)] rfl fun g w3 H => ?_
  replace H := (H.nilRowD (tSl tStr) 32)
  have H0 : Eng.Own ok w0 w3 (knL g bm bq (.slice none 0 0) [] [] [] (.dat (dSl tStr (.slice A l.length c) l) :: R)) := H.perm (perm_kn _ _ _ _ _ _)
  iterate 2 try refine nc ?_
  refine loop_rule (fun k e w' => ∃ (i : Nat) (T : KnS) (v' : Value) (cells' : List Value), i + k = l.length ∧ T.2.length ≤ i ∧ knowM (l.drop i) T = some S ∧ e = [(3, .pointer (some ⟨g, 0, none⟩)), (10, .slice A l.length c), (11, .int .i64 (l.length : Nat)), (12, .int .i64 (i : Int))] ∧ Eng.Own ok w0 w' (knL g bm bq v' cells' T.1 T.2 (.dat (dSl tStr (.slice A l.length c) l) :: R)))
    l.length [(3, .pointer (some ⟨g, 0, none⟩)), (10, .slice A l.length c), (11, .int .i64 (l.length : Nat)), (12, .int .i64 ((0 : Nat) : Int))] ⟨rfl, rfl, rfl, rfl, trivial⟩ ⟨0, ([], []), _, _, by omega, by simp, by rw [List.drop_zero]; exact h, rfl, H0⟩ ?_
  rintro k e w4 ⟨i, T, v', cells', hik, hTl, hM, rfl, H⟩
  iterate 2 try refine nc ?_
  try refine nc ?_
  refine cond_of (fun hc => ?_) (fun hc => ?_)
  · have hlt : i < l.length := by have := of_decide_eq_true hc; omega
    have hx : idxL l (i : Int) = some l[i] := idxL_lt hlt
    rw [List.drop_eq_getElem_cons hlt, knowM_cons] at hM
    obtain ⟨b, hb, hM⟩ := bindS hM
    iterate 2 try refine nc ?_
    obtain ⟨a, cs, hA2, hR, H⟩ := H.elemI 5 rfl hx
    subst hA2
    obtain rfl : cs = [.string (bs l[i])] := hR
    refine idxA_rule (e := 28) 1 _ (by kernel_rfl) (by kernel_rfl) (idxL_some hx).1 (idxL_some hx).2.1 ?_
    refine own_loadD H 0 rfl 0 (by kernel_rfl) rfl ?_
    replace H := H.tail
    iterate 2 try refine nc ?_
    refine call_rule (by kernel_rfl) (term_Right_ok (ok := fun _ => False) hb) fun v5 w5 ⟨hv5, hbel⟩ => ?_
    subst hv5
    replace H := H.call hbel
    iterate 2 try refine nc ?_
    cases b with
    | false =>
      have hM : knowM (l.drop (i + 1)) T = some S := hM
      refine cond_no rfl ?_
      iterate 2 try refine nc ?_
      refine again_in (k - 1) (by omega) [(3, .pointer (some ⟨g, 0, none⟩)), (10, .slice (some a) l.length c), (11, .int .i64 (l.length : Nat)), (12, .int .i64 ((i + 1 : Nat) : Int))] ⟨rfl, rfl, rfl, ?_, trivial⟩ ⟨i + 1, T, _, _, by omega, by omega, hM, rfl, H⟩
      show some (Value.int .i64 (IntKind.i64.wrap ((i : Int) + 1))) = _
      rw [Eng.i64_id (by omega) (by omega)]; rfl
    | true =>
      obtain ⟨ps, hps, hM⟩ := bindS hM
      obtain ⟨hne, hM⟩ := givenS hM
      refine cond_yes rfl ?_
      iterate 2 try refine nc ?_
      refine call_rule (by kernel_rfl) (learn_any H hne hps (by omega)) fun v6 w6 ⟨hv6, v7, cells7, H⟩ => ?_
      subst hv6
      iterate 2 try refine nc ?_
      refine again_in (k - 1) (by omega) [(3, .pointer (some ⟨g, 0, none⟩)), (10, .slice (some a) l.length c), (11, .int .i64 (l.length : Nat)), (12, .int .i64 ((i + 1 : Nat) : Int))] ⟨rfl, rfl, rfl, ?_, trivial⟩ ⟨i + 1, seenM T.1 T.2 l[i] ps, v7, cells7, by omega, by have := seen_len T.1 T.2 l[i] ps; omega, hM, rfl, H⟩
      show some (Value.int .i64 (IntKind.i64.wrap ((i : Int) + 1))) = _
      rw [Eng.i64_id (by omega) (by omega)]; rfl
  · have hge : i = l.length := by have := of_decide_eq_false hc; omega
    rw [List.drop_of_length_le (by omega)] at hM
    obtain rfl : T = S := Option.some.inj hM
    iterate 2 try refine nc ?_
    exact ret_of [.pointer (some ⟨g, 0, none⟩)] ⟨rfl, trivial⟩ ⟨_, rfl, g, bm, bq, v', cells', rfl, H⟩
end Go.Proofs.YtfapphlhkfddoaaGreatDoor.G
namespace Go.Proofs.YtfapphlhkfddoaaGreatDoor.G
open Go.RowKit Go.Eng Go.Proofs Go.Proofs.YtfapphlhkfddoaaGreatDoor.Cut
set_option linter.unusedVariables false
set_option linter.unusedSimpArgs false
set_option maxRecDepth 20000
variable {ok : Nat → Prop} {w0 w : World} {L R : List Eng.Item}
def askOk (M : List Tx1) (E : List (List Tx1)) (o : Obj) : Prop := ∃ l : List (Tx1 × Value), mapOk txV l o ∧ ∀ p ∈ l, ∃ b n, p.2 = .bool b ∧ makesG M E n p.1 = some b
theorem Own.reObj (H : Eng.Own ok w0 w L) (i : Nat) {b : Nat} {φ ψ : Obj → Prop} (hi : L[i]? = some (.obj b φ)) (h : ∀ o, w.heap[b]? = some o → φ o → ψ o) : Eng.Own ok w0 w (L.set i (.obj b ψ)) := by
  obtain ⟨A, B, e, hs⟩ := list_split hi
  have H' := H
  rw [e] at H'
  obtain ⟨o, ho, hφ⟩ := H'.objAt
  rw [hs]
  exact H'.setOne (g := b) rfl rfl H'.below rfl (fun _ => ⟨_, ho, h o ho hφ⟩) (fun _ _ => rfl)
theorem IndexTermG_own (H : Eng.Own ok w0 w L) (i : Nat) {v : Value} {ls : List Tx1} {tf : Tx1 → Option Bool} {b : Bool} (hi : L[i]? = some (.dat (dSl tStr v ls))) (hl : ls.length ≤ 140737488355328) (ha : allG tf ls = some b) {f : FuncId} {cap : Array Value} (hb : bodyB Tryz.prog f = true)
    (hf : ∀ (w' : World) (x : Tx1) (y : Bool), tf x = some y → Eng.Own ok w0 w' L → Calls Tryz.prog f ((#[] ++ [Value.string (bs x)].toArray) ++ cap) w' fun e w'' => ∃ r, e = .returned r ∧ (r = .bool (!y) ∧ Eng.Own ok w0 w'' L)) :
    Calls Tryz.prog 186 #[v, .func (.func f) #[] cap] w fun e w' => ∃ r, e = .returned r ∧ ∃ j : Int, r = .int .i64 j ∧ (b = true → j = -1) ∧ (b = false → 0 ≤ j) ∧ Eng.Own ok w0 w' L := by
  obtain ⟨A, c, hA, hc⟩ := H.sl i hi
  subst hA
  refine enter (args := [.slice A ls.length c, .func (.func f) #[] cap]) Tryz.func186 rfl Tryz.ntmps186 rfl rfl ?_
  iterate 2 try refine nc ?_
  refine loop_rule (fun k e w' => ∃ j : Nat, j + k = ls.length ∧ e = [(0, .slice A ls.length c), (1, .func (.func f) #[] cap), (7, .int .i64 (ls.length : Nat)), (8, .int .i64 (j : Int))] ∧ allG tf (ls.drop j) = some b ∧ Eng.Own ok w0 w' L) ls.length [(0, .slice A ls.length c), (1, .func (.func f) #[] cap), (7, .int .i64 (ls.length : Nat)), (8, .int .i64 ((0 : Nat) : Int))] ⟨rfl, rfl, rfl, rfl, trivial⟩ ⟨0, by omega, rfl, by rw [List.drop_zero]; exact ha, H⟩ ?_
  rintro k e w' ⟨j, hjk, rfl, ht, H⟩
  iterate 2 try refine nc ?_
  refine cond_of (fun hc => ?_) (fun hc => ?_)
  · have hlt : j < ls.length := by have := of_decide_eq_true hc; omega
    rw [List.drop_eq_getElem_cons hlt] at ht
    obtain ⟨y, hy, ht⟩ := bindS (show (tf ls[j]).bind _ = some b from ht)
    iterate 2 try refine nc ?_
    obtain ⟨a, c', cs, hA, hR, H'⟩ := H.elem i hi j hlt
    cases hA
    obtain rfl : cs = [.string (bs ls[j])] := hR
    refine indexAddr_rule (e := 28) 1 j (by kernel_rfl) (by kernel_rfl) (fun _ => hlt) ?_
    refine own_loadD H' 0 rfl 0 (by kernel_rfl) rfl ?_
    refine callV_rule hb (hf w' ls[j] y hy H) fun v w2 ⟨hv, H⟩ => ?_
    subst hv
    iterate 2 try refine nc ?_
    cases y with
    | false =>
      refine cond_yes rfl ?_
      iterate 2 try refine nc ?_
      obtain rfl : false = b := Option.some.inj ht
      exact ret_of [.int .i64 (j : Nat)] ⟨rfl, trivial⟩ ⟨_, rfl, (j : Int), rfl, (fun h => by cases h), (fun _ => by omega), H⟩
    | true =>
      refine cond_no rfl ?_
      iterate 2 try refine nc ?_
      refine again_in (k - 1) (by omega) [(0, .slice (some a) ls.length c), (1, .func (.func f) #[] cap), (7, .int .i64 (ls.length : Nat)), (8, .int .i64 ((j + 1 : Nat) : Int))] ⟨rfl, rfl, rfl, ?_, trivial⟩ ⟨j + 1, by omega, rfl, ht, H⟩
      show some (Value.int .i64 (IntKind.i64.wrap ((j : Int) + 1))) = _
      rw [Eng.i64_id (by omega) (by omega)]; rfl
  · have hge : j = ls.length := by have := of_decide_eq_false hc; omega
    rw [List.drop_of_length_le (by omega)] at ht
    obtain rfl : true = b := Option.some.inj ht
    iterate 2 try refine nc ?_
    exact ret_of [.int .i64 (-1)] ⟨rfl, trivial⟩ ⟨_, rfl, -1, rfl, (fun _ => rfl), (fun h => by cases h), H⟩
theorem ContainsTermG_own (H : Eng.Own ok w0 w L) (i : Nat) {v : Value} {ls : List Tx1} {tf : Tx1 → Option Bool} {b : Bool} (hi : L[i]? = some (.dat (dSl tStr v ls))) (hl : ls.length ≤ 140737488355328) (ha : allG tf ls = some b) {f : FuncId} {cap : Array Value} (hb : bodyB Tryz.prog f = true)
    (hf : ∀ (w' : World) (x : Tx1) (y : Bool), tf x = some y → Eng.Own ok w0 w' L → Calls Tryz.prog f ((#[] ++ [Value.string (bs x)].toArray) ++ cap) w' fun e w'' => ∃ r, e = .returned r ∧ (r = .bool (!y) ∧ Eng.Own ok w0 w'' L)) :
    Calls Tryz.prog 144 #[v, .func (.func f) #[] cap] w fun e w' => ∃ r, e = .returned r ∧ (r = .bool (!b) ∧ Eng.Own ok w0 w' L) := by
  obtain ⟨A, c, hA, hc⟩ := H.sl i hi
  subst hA
  refine enter (args := [.slice A ls.length c, .func (.func f) #[] cap]) Tryz.func144 rfl Tryz.ntmps144 rfl rfl ?_
  iterate 2 try refine nc ?_
  refine call_rule (by kernel_rfl) (IndexTermG_own H i hi hl ha hb hf) fun v2 w2 ⟨j, hv2, h1, h2, H⟩ => ?_
  subst hv2
  iterate 2 try refine nc ?_
  refine ret_of [.bool (!b)] ⟨?_, trivial⟩ ⟨_, rfl, rfl, H⟩
  show some (Value.bool (decide (j ≥ 0))) = some (Value.bool (!b))
  cases b with
  | true => rw [h1 rfl]; rfl
  | false => rw [decide_eq_true (h2 rfl)]; rfl
end Go.Proofs.YtfapphlhkfddoaaGreatDoor.G
namespace Go.Proofs
open Go.Shelf
def Tryz.deleteT_ren : Go.Shelf.Ren := ⟨fun | 46 => 143 | n => n, fun | 25 => 32 | 26 => 28 | 3 => 3 | 4 => 4 | 0 => 0 | n => n, fun | n => n⟩
theorem Tryz.deleteT : Go.Proofs.SlLaysN.n46 Tryz.prog Tryz.deleteT_ren := {
  mixed := by kernel_rfl,
  f46 := ⟨Tryz.f143.name, by decide, Tryz.func143.trans (congrArg some (by kernel_rfl))⟩,
  t0 := Tryz.underlying0,
  a0 := Tryz.isAgg0,
  z0 := Tryz.sizeOf0,
  v0 := Tryz.zeroValue0,
  t3 := Tryz.underlying3,
  a3 := Tryz.isAgg3,
  z3 := Tryz.sizeOf3,
  v3 := Tryz.zeroValue3,
  t4 := Tryz.underlying4,
  a4 := Tryz.isAgg4,
  z4 := Tryz.sizeOf4,
  v4 := Tryz.zeroValue4,
  t25 := Tryz.underlying32,
  a25 := Tryz.isAgg32,
  z25 := Tryz.sizeOf32,
  v25 := Tryz.zeroValue32,
  t26 := Tryz.underlying28,
  a26 := Tryz.isAgg28,
  z26 := Tryz.sizeOf28,
  v26 := Tryz.zeroValue28,
  i26 := by kernel_rfl }
end Go.Proofs
namespace Go.Proofs
open Go.Shelf
def Tryz.indexT_ren : Go.Shelf.Ren := ⟨fun | 30 => 142 | n => n, fun | 25 => 32 | 26 => 28 | 3 => 3 | 0 => 0 | 4 => 4 | n => n, fun | n => n⟩
theorem Tryz.indexT : Go.Proofs.SlLaysN.n30 Tryz.prog Tryz.indexT_ren := {
  mixed := by kernel_rfl,
  f30 := ⟨Tryz.f142.name, by decide, Tryz.func142.trans (congrArg some (by kernel_rfl))⟩,
  t0 := Tryz.underlying0,
  a0 := Tryz.isAgg0,
  z0 := Tryz.sizeOf0,
  v0 := Tryz.zeroValue0,
  t3 := Tryz.underlying3,
  a3 := Tryz.isAgg3,
  z3 := Tryz.sizeOf3,
  v3 := Tryz.zeroValue3,
  t4 := Tryz.underlying4,
  a4 := Tryz.isAgg4,
  z4 := Tryz.sizeOf4,
  v4 := Tryz.zeroValue4,
  t25 := Tryz.underlying32,
  a25 := Tryz.isAgg32,
  z25 := Tryz.sizeOf32,
  v25 := Tryz.zeroValue32,
  t26 := Tryz.underlying28,
  a26 := Tryz.isAgg28,
  z26 := Tryz.sizeOf28,
  v26 := Tryz.zeroValue28 }
end Go.Proofs
namespace Go.Proofs.YtfapphlhkfddoaaGreatDoor.G
open Go.RowKit Go.Eng Go.Proofs Go.Proofs.YtfapphlhkfddoaaGreatDoor.Cut Go.Sort
set_option linter.unusedVariables false
set_option linter.unusedSimpArgs false
set_option maxRecDepth 20000
variable {ok : Nat → Prop} {w0 w : World} {L R A B : List Eng.Item}
theorem deleteT_own {v : Value} {e : TypeId} {xs : List (List UInt8)} {i : Nat} (hi : i < xs.length) (hl : xs.length ≤ 1000000) (H : Eng.Own ok w0 w (A ++ .row v e 1 xs.length (strs xs) :: B)) :
    Calls Tryz.prog 143 #[v, .int .i64 (i : Int), .int .i64 ((i + 1 : Nat) : Int)] w fun ee w' => ∃ u, ee = .returned u ∧ Eng.Own ok w0 w' (A ++ .row u e 1 (xs.eraseIdx i).length (strs (xs.eraseIdx i)) :: B) := by
  have hrow : qRow w e 1 v xs.length (strs xs) := H.all (.row v e 1 xs.length (strs xs)) (by simp)
  rcases hrow.2 with ⟨h0, A', hv, _⟩ | ⟨q, off, cap, cur, hv, hb, hnc, hcm, hcs, ht⟩
  · omega
  rw [Nat.mul_one] at hv hcs ht
  rw [Nat.mul_one] at ht
  have hH : Holds encStr w q off xs.toArray := holds1_of (enc := encStr) (xs := xs) hb ht
  subst hv
  refine (AnyG.slices_Delete_string Tryz.deleteT q off cap i (i + 1) xs w hH hnc (by unfold maxLen at hcm; omega) (by omega) (by omega)).mono ?_
  rintro ee w' ⟨rfl, m, rfl⟩
  have hel : (xs.eraseIdx i).length = xs.length - 1 := by rw [List.length_eraseIdx, if_pos hi]
  have hee : xs.eraseIdx i = xs.take i ++ xs.drop (i + 1) := List.eraseIdx_eq_take_drop_succ _ _
  have hdl : (xs.take i ++ xs.drop (i + 1) ++ List.replicate (i + 1 - i) ([] : List UInt8)).length = xs.length := by simp; omega
  refine ⟨_, rfl, ?_⟩
  have e0 : xs.length - (i + 1 - i) = (xs.eraseIdx i).length := by omega
  rw [e0]
  rw [← grow_empty (putRow encStr (Sort.ahead w m) q off _)]
  refine H.setRow (grown_sort1 _) ?_ ?_ (.inl rfl)
  · show w.drawn ≤ w.drawn + m
    omega
  · refine ⟨by simp [strs], .inr ⟨q, off, cap, _, by rw [Nat.mul_one], heap_sort1 _ hb, by omega, hcm, by simp [putCells, hcs], ?_⟩⟩
    have := take_sort1 (enc := encStr) cur off (xs.take i ++ xs.drop (i + 1) ++ List.replicate (i + 1 - i) ([] : List UInt8)).toArray (by
      rw [hcs]
      simp only [List.size_toArray, hdl]
      omega)
    simp only [List.size_toArray, hdl] at this
    rw [Nat.mul_one, Nat.mul_one, show (xs.eraseIdx i).length = min (xs.eraseIdx i).length xs.length by omega, ← List.take_take, this, hee]
    have h3 : (xs.take i ++ xs.drop (i + 1) ++ List.replicate (i + 1 - i) ([] : List UInt8)).take (xs.eraseIdx i).length = xs.take i ++ xs.drop (i + 1) := by rw [← hee]; exact List.take_left' rfl
    show List.take _ (List.map encStr _) = _
    rw [← List.map_take]
    show List.map encStr (List.take (xs.take i ++ xs.drop (i + 1)).length (xs.take i ++ xs.drop (i + 1) ++ List.replicate (i + 1 - i) ([] : List UInt8))) = _
    rw [List.take_left' rfl]
    rfl
theorem idxFrom_eq (t : List UInt8) : ∀ (xs : List (List UInt8)) (i : Nat), Lib.idxFromS (xs.map bs) (bs t) i = if t ∈ xs then ((i + xs.idxOf t : Nat) : Int) else -1
  | [], i => rfl
  | x :: xs, i => by
    have ih := idxFrom_eq t xs (i + 1)
    show (if bs x = bs t then (i : Int) else Lib.idxFromS (xs.map bs) (bs t) (i + 1)) = _
    have hinj : bs x = bs t ↔ x = t := by
      have := bsB_eq x t
      constructor
      · intro h; rw [h] at this; rw [bsB_eq] at this; simpa using this.symm
      · intro h; rw [h]
    by_cases h : x = t
    · rw [if_pos (hinj.2 h), if_pos (by rw [h]; exact List.mem_cons_self), h]
      simp
    · rw [if_neg (fun q => h (hinj.1 q)), ih]
      by_cases h2 : t ∈ xs
      · rw [if_pos h2, if_pos (List.mem_cons_of_mem _ h2), show (x :: xs).idxOf t = xs.idxOf t + 1 by rw [List.idxOf_cons, show (x == t) = false from beq_eq_false_iff_ne.2 h]; rfl]
        congr 1; omega
      · rw [if_neg h2, if_neg (fun q => (List.mem_cons.1 q).elim (fun e => h e.symm) h2)]
theorem indexT_own {v : Value} {e : TypeId} {xs : List (List UInt8)} {t : List UInt8} (i : Nat) (hi : L[i]? = some (.row v e 1 xs.length (strs xs))) (hl : xs.length ≤ 1000000) (H : Eng.Own ok w0 w L) :
    Calls Tryz.prog 142 #[v, .string (bs t)] w fun ee w' => ∃ u, ee = .returned u ∧ (u = .int .i64 (if t ∈ xs then ((xs.idxOf t : Nat) : Int) else -1) ∧ Eng.Own ok w0 w' L) := by
  have hrow : qRow w e 1 v xs.length (strs xs) := H.at hi
  have hid : Lib.idxOfS (xs.map bs) (bs t) = if t ∈ xs then ((xs.idxOf t : Nat) : Int) else -1 := by
    have := idxFrom_eq t xs 0
    simpa [Lib.idxOfS] using this
  by_cases hx : xs = []
  · subst hx
    have hv : ∃ p c, v = .slice p 0 c := by
      rcases hrow.2 with ⟨h0, A', hv, _⟩ | ⟨q, off, cap, cur, hv, _⟩
      · exact ⟨_, _, hv⟩
      · exact ⟨_, _, hv⟩
    obtain ⟨p, c, rfl⟩ := hv
    exact (AnyG.slices_Index_string_empty Tryz.indexT p c (bs t) w).mono fun ee w' ⟨h1, h2⟩ => ⟨_, h1, rfl, by rw [h2]; exact H⟩
  · have hpos : 0 < xs.length := List.length_pos_iff.2 hx
    rcases hrow.2 with ⟨h0, A', hv, _⟩ | ⟨q, off, cap, cur, hv, hb, hnc, hcm, hcs, ht⟩
    · omega
    subst hv
    have hom : off * 1 = off := Nat.mul_one off
    rw [hom] at ht ⊢
    rw [Nat.mul_one] at ht
    refine (AnyG.slices_Index_string Tryz.indexT q off xs.length cap (xs.map bs) (bs t) w (by simp) (by omega) ?_).mono fun ee w' ⟨h1, h2⟩ => ⟨_, h1, ?_, by rw [h2]; exact H⟩
    · intro j hj
      have hj2 : j < xs.length := by simpa using hj
      have := qRow_cell (g := q) (o := off) hb ht j (.string (bs xs[j])) (by simp [strs, hj2])
      rw [add_at] at this
      rw [this]
      simp [hj2]
    · rw [List.take_of_length_le (by simp), hid]
theorem cloneT_own {u : Value} {xs : List (List UInt8)} (i : Nat) (hi : L[i]? = some (.dat (dSl tStr u xs))) (hl : xs.length ≤ 1000000) (H : Eng.Own ok w0 w L) :
    Calls Tryz.prog 141 #[u] w fun e w' => ∃ r, e = .returned r ∧ Eng.Own ok w0 w' (.row r 28 1 xs.length (strs xs) :: L) := by
  obtain ⟨A, c, hA, hc, h0⟩ := H.dat i hi
  subst hA
  refine enter (args := [.slice A xs.length c]) Tryz.func141 rfl Tryz.ntmps141 rfl rfl ?_
  iterate 2 try refine nc ?_
  refine eqlSl_rule (by kernel_rfl) ?_
  iterate 2 try refine nc ?_
  cases A with
  | none =>
    have hx : xs = [] := by
      rcases h0 with ⟨h, _⟩ | ⟨a, h, _⟩
      · exact h
      · cases h
    subst hx
    refine cond_yes rfl ?_
    iterate 2 try refine nc ?_
    exact ret_of [.slice none 0 0] ⟨rfl, trivial⟩ ⟨_, rfl, H.nilRow 28 1⟩
  | some a =>
    refine cond_no rfl ?_
    iterate 2 try refine nc ?_
    refine own_buildEmpty (e := 28) (sz := 1) H (by kernel_rfl) (by kernel_rfl) fun v w1 H => ?_
    refine own_appendSl (k := tStr) (e := 28) (z := .string ⟨#[]⟩) (by_ := 16) H 0 (i + 1) rfl hi (by kernel_rfl) (by kernel_rfl) rfl rfl (by omega) (by omega) ?_
    intro v' w2 news hn H
    have := strs_of hn
    subst this
    iterate 2 try refine nc ?_
    refine ret_of [v'] ⟨rfl, trivial⟩ ⟨_, rfl, ?_⟩
    have e1 : 0 + xs.length = xs.length := Nat.zero_add _
    rw [e1] at H
    exact H
end Go.Proofs.YtfapphlhkfddoaaGreatDoor.G
namespace Go.Proofs.YtfapphlhkfddoaaGreatDoor.G
open Go.RowKit Go.Eng Go.Proofs Go.Proofs.YtfapphlhkfddoaaGreatDoor.Cut Go.Sort
set_option linter.unusedVariables false
set_option linter.unusedSimpArgs false
set_option maxRecDepth 20000
variable {ok : Nat → Prop} {w0 w : World} {L R : List Eng.Item}
abbrev mkL (g bm bq : Nat) (ve : Value) (M : List Tx1) (E : List (List Tx1)) (R : List Eng.Item) : List Eng.Item :=
  .blk g [.map (some bm), ve, .map (some bq)] 115 :: .obj bm (mapOk txV (M.map fun t => (t, Value.int .i64 1))) :: .dat (dSl (tSl tStr) ve E) :: .obj bq (askOk M E) :: R
def MK (ok : Nat → Prop) (w0 : World) (g bm bq : Nat) (ve : Value) (M : List Tx1) (E : List (List Tx1)) (n : Nat) : Prop :=
  ∀ (w : World) (R : List Eng.Item) (t : Tx1) (b : Bool), makesG M E n t = some b → Eng.Own ok w0 w (mkL g bm bq ve M E R) → Calls Tryz.prog 72 #[.pointer (some ⟨g, 0, none⟩), .string (bs t)] w fun e w' => ∃ r, e = .returned r ∧ (r = .bool b ∧ Eng.Own ok w0 w' (mkL g bm bq ve M E R))
variable {g bm bq n : Nat} {ve : Value} {M : List Tx1} {E : List (List Tx1)}
theorem mk_in {x : Eng.Item} (H : Eng.Own ok w0 w (x :: mkL g bm bq ve M E R)) : Eng.Own ok w0 w (mkL g bm bq ve M E (x :: R)) := H.perm (List.perm_middle (l₁ := [_, _, _, _])).symm
theorem mk_out {x : Eng.Item} (H : Eng.Own ok w0 w (mkL g bm bq ve M E (x :: R))) : Eng.Own ok w0 w (x :: mkL g bm bq ve M E R) := H.perm (List.perm_middle (l₁ := [_, _, _, _]))
theorem mk_drop {x : Eng.Item} (H : Eng.Own ok w0 w (mkL g bm bq ve M E (x :: R))) : Eng.Own ok w0 w (mkL g bm bq ve M E R) := (mk_out H).tail
theorem all1_calls (hm : MK ok w0 g bm bq ve M E n) {B : Nat} {x : Tx1} {y : Bool} (hx : makesG M E n x = some y) (H : Eng.Own ok w0 w (mkL g bm bq ve M E (.blk B [.pointer (some ⟨g, 0, none⟩)] 109 :: R))) :
    Calls Tryz.prog 145 #[.string (bs x), .pointer (some ⟨B, 0, none⟩)] w fun e w' => ∃ r, e = .returned r ∧ (r = .bool (!y) ∧ Eng.Own ok w0 w' (mkL g bm bq ve M E (.blk B [.pointer (some ⟨g, 0, none⟩)] 109 :: R))) := by
  refine enter (args := [.string (bs x), .pointer (some ⟨B, 0, none⟩)]) Tryz.func145 rfl Tryz.ntmps145 rfl rfl ?_
  iterate 2 try refine nc ?_
  refine own_load H 4 rfl (by kernel_rfl) (j := 0) rfl ?_
  refine call_rule (by kernel_rfl) (hm w _ x y hx H) fun v1 w1 ⟨hv1, H⟩ => ?_
  subst hv1
  iterate 2 try refine nc ?_
  exact ret_of [.bool (!y)] ⟨rfl, trivial⟩ ⟨_, rfl, rfl, H⟩
theorem all_calls (hm : MK ok w0 g bm bq ve M E n) {v : Value} {l : List Tx1} {b : Bool} (hl : l.length ≤ 1000000) (hb : allG (makesG M E n) l = some b) (H : Eng.Own ok w0 w (mkL g bm bq ve M E (.dat (dSl tStr v l) :: R))) :
    Calls Tryz.prog 109 #[.pointer (some ⟨g, 0, none⟩), v] w fun e w' => ∃ r, e = .returned r ∧ (r = .bool b ∧ Eng.Own ok w0 w' (mkL g bm bq ve M E (.dat (dSl tStr v l) :: R))) := by
  obtain ⟨A, c, hA, _⟩ := H.sl 4 rfl
  subst hA
  refine enter (args := [.pointer (some ⟨g, 0, none⟩), .slice A l.length c]) Tryz.func109 rfl Tryz.ntmps109 rfl rfl ?_
  try refine nc ?_
  refine own_box H [.pointer (some ⟨g, 0, none⟩)] rfl fun B w1 H => ?_
  replace H := mk_in H
  iterate 2 try refine nc ?_
  refine call_rule (by kernel_rfl) (ContainsTermG_own H 5 rfl (by omega) hb (f := 145) (cap := #[.pointer (some ⟨B, 0, none⟩)]) (by kernel_rfl) (fun w' x y hx H => all1_calls hm hx H)) fun v2 w2 ⟨hv2, H⟩ => ?_
  subst hv2
  iterate 2 try refine nc ?_
  refine ret_of [.bool b] ⟨?_, trivial⟩ ⟨_, rfl, rfl, mk_drop H⟩
  show some (Value.bool (!(!b))) = _
  rw [Bool.not_not]
theorem outL_cons (t : Tx1) (base left : List Tx1) : outL (t :: base) left = if t ∈ left then outL base (left.eraseIdx (left.idxOf t)) else none := rfl
theorem deleteT_at {A B : List Eng.Item} {v : Value} {e : TypeId} {xs : List (List UInt8)} {i : Nat} {j : Int} (hj : j = ((i + 1 : Nat) : Int)) (hi : i < xs.length) (hl : xs.length ≤ 1000000) (H : Eng.Own ok w0 w (A ++ .row v e 1 xs.length (strs xs) :: B)) :
    Calls Tryz.prog 143 #[v, .int .i64 (i : Int), .int .i64 j] w fun ee w' => ∃ u, ee = .returned u ∧ Eng.Own ok w0 w' (A ++ .row u e 1 (xs.eraseIdx i).length (strs (xs.eraseIdx i)) :: B) := by
  subst hj
  exact deleteT_own hi hl H
set_option maxHeartbeats 8000000 in
theorem raises_calls (hm : MK ok w0 g bm bq ve M E n) {v : Value} {l : List Tx1} {b : Bool} (hl : l.length ≤ 1000000) (hE : E.length ≤ 1000000) (hEl : ∀ x ∈ E, x.length ≤ 1000000) (hb : raisesG (makesG M E n) E l = some b) (H : Eng.Own ok w0 w (mkL g bm bq ve M E (.dat (dSl tStr v l) :: R))) :
    Calls Tryz.prog 108 #[.pointer (some ⟨g, 0, none⟩), v] w fun e w' => ∃ r, e = .returned r ∧ (r = .bool b ∧ Eng.Own ok w0 w' (mkL g bm bq ve M E (.dat (dSl tStr v l) :: R))) := by
  obtain ⟨A, c, hA, _⟩ := H.sl 4 rfl
  subst hA
  obtain ⟨Ae, ce, hAe, _⟩ := H.sl 2 rfl
  subst hAe
  unfold raisesG at hb
  obtain ⟨b0, hb0, hb⟩ := bindS hb
  refine enter (args := [.pointer (some ⟨g, 0, none⟩), .slice A l.length c]) Tryz.func108 rfl Tryz.ntmps108 rfl rfl ?_
  try refine nc ?_
  refine nc_scope ?_
  iterate 2 try refine nc ?_
  refine call_rule (by kernel_rfl) (all_calls hm hl hb0 H) fun v1 w1 ⟨hv1, H⟩ => ?_
  subst hv1
  iterate 2 try refine nc ?_
  cases b0 with
  | true =>
    obtain rfl : true = b := Option.some.inj hb
    refine cond_yes rfl ?_
    iterate 2 try refine nc ?_
    exact ret_of [.bool true] ⟨rfl, trivial⟩ ⟨_, rfl, rfl, H⟩
  | false =>
    have hb : anyG (makesG M E n) l E = some b := hb
    refine cond_no rfl ?_
    iterate 2 try refine nc ?_
    try refine nc ?_
    refine own_load H 0 rfl (by kernel_rfl) (j := 1) rfl ?_
    replace H : Eng.Own ok w0 w1 (mkL g bm bq (.slice Ae E.length ce) M E (.dat (dSl tStr (.slice A l.length c) l) :: R)) := H
    iterate 2 try refine nc ?_
    refine loop_rule (fun k e w' => ∃ (i : Nat), i + k = E.length ∧ anyG (makesG M E n) l (E.drop i) = some b ∧ e = [(0, .pointer (some ⟨g, 0, none⟩)), (1, .slice A l.length c), (17, .slice Ae E.length ce), (18, .int .i64 (E.length : Nat)), (19, .int .i64 (i : Int))] ∧ Eng.Own ok w0 w' (mkL g bm bq (.slice Ae E.length ce) M E (.dat (dSl tStr (.slice A l.length c) l) :: R))) E.length
      [(0, .pointer (some ⟨g, 0, none⟩)), (1, .slice A l.length c), (17, .slice Ae E.length ce), (18, .int .i64 (E.length : Nat)), (19, .int .i64 ((0 : Nat) : Int))] ⟨rfl, rfl, rfl, rfl, rfl, trivial⟩ ⟨0, by omega, by rw [List.drop_zero]; exact hb, rfl, H⟩ ?_
    clear H hb hb0
    rintro k e w2 ⟨i, hik, hb, rfl, H⟩
    iterate 2 try refine nc ?_
    refine cond_of (fun hc => ?_) (fun hc => ?_)
    · have hlt : i < E.length := by have := of_decide_eq_true hc; omega
      have hx : idxL E (i : Int) = some E[i] := idxL_lt hlt
      have hbl := hEl _ (List.getElem_mem hlt)
      rw [List.drop_eq_getElem_cons hlt] at hb
      unfold anyG at hb
      generalize hbase : E[i] = base at hx hb hbl
      iterate 2 try refine nc ?_
      obtain ⟨a, cs, hA2, hR, H⟩ := H.elemI 2 rfl hx
      subst hA2
      obtain ⟨vb, rfl, hvb⟩ := hR
      refine idxA_rule (e := 32) 1 _ (by kernel_rfl) (by kernel_rfl) (idxL_some hx).1 (idxL_some hx).2.1 ?_
      refine own_loadD H 0 rfl 0 (by kernel_rfl) rfl ?_
      replace H := mk_in (H.tail.addDat (dSl tStr vb base) hvb)
      obtain ⟨Ab, cb, hAb, _⟩ := H.sl 4 rfl
      subst hAb
      iterate 2 try refine nc ?_
      refine call_rule (by kernel_rfl) (cloneT_own 5 rfl hl H) fun v3 w3 H => ?_
      replace H := mk_in H
      iterate 2 try refine nc ?_
      refine loop_rule (fun k e w' => ∃ (j : Nat) (left : List Tx1) (vl : Value) (Ab' : Option Addr), j + k = base.length ∧ left.length ≤ 1000000 ∧ outL (base.drop j) left = outL base l ∧ e = [(0, .pointer (some ⟨g, 0, none⟩)), (1, .slice A l.length c), (7, vl), (17, .slice (some a) E.length ce), (18, .int .i64 (E.length : Nat)), (19, .int .i64 (i : Int)), (25, .slice Ab' base.length cb), (26, .int .i64 (base.length : Nat)), (27, .int .i64 (j : Int))] ∧
          Eng.Own ok w0 w' (mkL g bm bq (.slice (some a) E.length ce) M E (.row vl 28 1 left.length (strs left) :: .dat (dSl tStr (.slice Ab' base.length cb) base) :: .dat (dSl tStr (.slice A l.length c) l) :: R))) base.length
        [(0, .pointer (some ⟨g, 0, none⟩)), (1, .slice A l.length c), (7, v3), (17, .slice (some a) E.length ce), (18, .int .i64 (E.length : Nat)), (19, .int .i64 (i : Int)), (25, .slice Ab base.length cb), (26, .int .i64 (base.length : Nat)), (27, .int .i64 ((0 : Nat) : Int))] ⟨rfl, rfl, rfl, rfl, rfl, rfl, rfl, rfl, rfl, trivial⟩ ⟨0, l, v3, Ab, by omega, hl, by rw [List.drop_zero], rfl, H⟩ ?_
      clear H hvb
      rintro k2 e w4 ⟨j, left, vl, Ab', hjk, hll, hout, rfl, H⟩
      iterate 2 try refine nc ?_
      refine cond_of (fun hc2 => ?_) (fun hc2 => ?_)
      · have hlt2 : j < base.length := by have := of_decide_eq_true hc2; omega
        have hx2 : idxL base (j : Int) = some base[j] := idxL_lt hlt2
        rw [List.drop_eq_getElem_cons hlt2] at hout
        rw [outL_cons] at hout
        iterate 2 try refine nc ?_
        obtain ⟨a2, cs, hA3, hR, H⟩ := H.elemI 5 rfl hx2
        subst hA3
        obtain rfl : cs = [.string (bs base[j])] := hR
        refine idxA_rule (e := 28) 1 _ (by kernel_rfl) (by kernel_rfl) (idxL_some hx2).1 (idxL_some hx2).2.1 ?_
        refine own_loadD H 0 rfl 0 (by kernel_rfl) rfl ?_
        replace H := H.tail
        iterate 2 try refine nc ?_
        refine call_rule (by kernel_rfl) (indexT_own (t := base[j]) 4 rfl hll H) fun v5 w5 ⟨hv5, H⟩ => ?_
        subst hv5
        by_cases hin : base[j] ∈ left
        · rw [if_pos hin]
          rw [if_pos hin] at hout
          have hil : left.idxOf base[j] < left.length := List.idxOf_lt_length_of_mem hin
          iterate 2 try refine nc ?_
          refine cond_of (fun hc3 => ?_) (fun hc3 => ?_)
          · exfalso
            have := of_decide_eq_true hc3
            omega
          iterate 2 try refine nc ?_
          refine call_rule (by kernel_rfl) (deleteT_at (A := [_, _, _, _]) (by rw [Eng.i64_id (by omega) (by omega)]; omega) hil hll H) fun v6 w6 H => ?_
          iterate 2 try refine nc ?_
          refine again_in (k2 - 1) (by omega) [(0, .pointer (some ⟨g, 0, none⟩)), (1, .slice A l.length c), (7, v6), (17, .slice (some a) E.length ce), (18, .int .i64 (E.length : Nat)), (19, .int .i64 (i : Int)), (25, .slice (some a2) base.length cb), (26, .int .i64 (base.length : Nat)), (27, .int .i64 ((j + 1 : Nat) : Int))] ⟨rfl, rfl, rfl, rfl, rfl, rfl, rfl, rfl, ?_, trivial⟩ ⟨j + 1, left.eraseIdx (left.idxOf base[j]), v6, some a2, by omega, by rw [List.length_eraseIdx]; split <;> omega, hout, rfl, H⟩
          show some (Value.int .i64 (IntKind.i64.wrap ((j : Int) + 1))) = _
          rw [Eng.i64_id (by omega) (by omega)]; rfl
        · rw [if_neg hin]
          rw [if_neg hin] at hout
          rw [← hout] at hb
          have hb : anyG (makesG M E n) l (E.drop (i + 1)) = some b := hb
          iterate 2 try refine nc ?_
          refine cond_yes rfl ?_
          iterate 2 try refine nc ?_
          refine again_in (k - 1) (by omega) [(0, .pointer (some ⟨g, 0, none⟩)), (1, .slice A l.length c), (17, .slice (some a) E.length ce), (18, .int .i64 (E.length : Nat)), (19, .int .i64 ((i + 1 : Nat) : Int))] ⟨rfl, rfl, rfl, rfl, ?_, trivial⟩ ⟨i + 1, by omega, hb, rfl, mk_drop (mk_drop H)⟩
          show some (Value.int .i64 (IntKind.i64.wrap ((i : Int) + 1))) = _
          rw [Eng.i64_id (by omega) (by omega)]; rfl
      · have hge2 : j = base.length := by have := of_decide_eq_false hc2; omega
        rw [List.drop_of_length_le (by omega)] at hout
        have hout : some left = outL base l := hout
        rw [← hout] at hb
        obtain ⟨b2, hb2, hb⟩ := bindS hb
        replace H := H.freezeS 4 rfl
        replace H : Eng.Own ok w0 w4 (mkL g bm bq (.slice (some a) E.length ce) M E (.dat (dSl tStr vl left) :: .dat (dSl tStr (.slice Ab' base.length cb) base) :: .dat (dSl tStr (.slice A l.length c) l) :: R)) := H
        iterate 2 try refine nc ?_
        refine call_rule (by kernel_rfl) (all_calls hm hll hb2 H) fun v7 w7 ⟨hv7, H⟩ => ?_
        subst hv7
        iterate 2 try refine nc ?_
        cases b2 with
        | true =>
          obtain rfl : true = b := Option.some.inj hb
          refine cond_yes rfl ?_
          iterate 2 try refine nc ?_
          exact ret_of [.bool true] ⟨rfl, trivial⟩ ⟨_, rfl, rfl, mk_drop (mk_drop H)⟩
        | false =>
          have hb : anyG (makesG M E n) l (E.drop (i + 1)) = some b := hb
          refine cond_no rfl ?_
          iterate 2 try refine nc ?_
          refine again_in (k - 1) (by omega) [(0, .pointer (some ⟨g, 0, none⟩)), (1, .slice A l.length c), (17, .slice (some a) E.length ce), (18, .int .i64 (E.length : Nat)), (19, .int .i64 ((i + 1 : Nat) : Int))] ⟨rfl, rfl, rfl, rfl, ?_, trivial⟩ ⟨i + 1, by omega, hb, rfl, mk_drop (mk_drop H)⟩
          show some (Value.int .i64 (IntKind.i64.wrap ((i : Int) + 1))) = _
          rw [Eng.i64_id (by omega) (by omega)]; rfl
    · have hge : i = E.length := by have := of_decide_eq_false hc; omega
      rw [List.drop_of_length_le (by omega)] at hb
      obtain rfl : false = b := Option.some.inj hb
      iterate 2 try refine nc ?_
      try refine nc ?_
      exact ret_of [.bool false] ⟨rfl, trivial⟩ ⟨_, rfl, rfl, H⟩
theorem mem_put {p : Tx1 × Value} {t : Tx1} {v : Value} : ∀ {l : List (Tx1 × Value)}, p ∈ putA t v l → p = (t, v) ∨ p ∈ l
  | [], h => .inl (List.mem_singleton.1 h)
  | (x, u) :: l, h => by
    have h : p ∈ (if t = x then (t, v) :: l else (x, u) :: putA t v l) := h
    by_cases e : t = x
    · rw [if_pos e] at h
      rcases List.mem_cons.1 h with q | q
      · exact .inl q
      · exact .inr (List.mem_cons_of_mem _ q)
    · rw [if_neg e] at h
      rcases List.mem_cons.1 h with q | q
      · exact .inr (by rw [q]; exact List.mem_cons_self)
      · rcases mem_put q with q | q
        · exact .inl q
        · exact .inr (List.mem_cons_of_mem _ q)
theorem get_mem {t : Tx1} {v : Value} : ∀ {l : List (Tx1 × Value)}, getA t l = some v → (t, v) ∈ l
  | [], h => by cases h
  | (x, u) :: l, h => by
    have h : (if t = x then some u else getA t l) = some v := h
    by_cases e : t = x
    · rw [if_pos e] at h
      cases h
      rw [e]; exact List.mem_cons_self
    · rw [if_neg e] at h
      exact List.mem_cons_of_mem _ (get_mem h)
set_option maxHeartbeats 8000000 in
theorem makes_calls (hE : E.length ≤ 1000000) (hEl : ∀ x ∈ E, x.length ≤ 1000000) : ∀ n, MK ok w0 g bm bq ve M E n := by
  intro n
  induction n with
  | zero => intro w R t b h; cases h
  | succ n ih =>
  intro w R t b h H
  obtain ⟨Ae, ce, hAe, _⟩ := H.sl 2 rfl
  subst hAe
  refine enter (args := [.pointer (some ⟨g, 0, none⟩), .string (bs t)]) Tryz.func72 rfl Tryz.ntmps72 rfl rfl ?_
  iterate 2 try refine nc ?_
  refine own_load H 0 rfl (by kernel_rfl) (j := 0) rfl ?_
  by_cases hm : t ∈ M
  · have hb : true = b := by
      have h : (if t ∈ M then some true else _) = some b := h
      rw [if_pos hm] at h; exact Option.some.inj h
    subst hb
    refine lookup_ruleV (kt := 28) (et := 3) (z := .int .i64 0) (by kernel_rfl) (by kernel_rfl) keyTx t H 1 rfl (.int .i64 1) (by rw [getA_met, if_pos hm]; rfl) ?_
    iterate 2 try refine nc ?_
    refine cond_yes rfl ?_
    iterate 2 try refine nc ?_
    exact ret_of [.bool true] ⟨rfl, trivial⟩ ⟨_, rfl, rfl, H⟩
  refine lookup_ruleV (kt := 28) (et := 3) (z := .int .i64 0) (by kernel_rfl) (by kernel_rfl) keyTx t H 1 rfl (.int .i64 0) (by rw [getA_met, if_neg hm]; rfl) ?_
  iterate 2 try refine nc ?_
  refine cond_no rfl ?_
  cases t with
  | nil =>
    have h : (if ([] : Tx1) ∈ M then some true else none) = some b := h
    rw [if_neg hm] at h; cases h
  | cons c r =>
  rw [makesG_cons c r n hm] at h
  iterate 2 try refine nc ?_
  refine idxS_rule (by kernel_rfl) (show idxS (c :: r) (0 : Int) = some (c.toNat : Int) from rfl) ?_
  have hb : ∀ k : Nat, c.toNat ≠ k → ((c.toNat : Int) == (k : Int)) = false := fun k hk => beq_eq_false_iff_ne.2 (by omega)
  have hk : ∀ {k : UInt8}, c ≠ k → c.toNat ≠ k.toNat := fun hk e => hk (UInt8.toNat_inj.1 e)
  iterate 2 try refine nc ?_
  by_cases g1 : c = 103
  · subst g1
    obtain rfl : true = b := Option.some.inj (by rw [if_pos (.inl rfl)] at h; exact h)
    refine cond_yes rfl ?_
    iterate 2 try refine nc ?_
    refine cond_yes rfl ?_
    iterate 2 try refine nc ?_
    exact ret_of [.bool true] ⟨rfl, trivial⟩ ⟨_, rfl, rfl, H⟩
  refine cond_of (b := ((c.toNat : Int) == ((103 : Nat) : Int))) (fun hc => ?_) (fun hc => ?_)
  · rw [hb 103 (hk g1)] at hc; cases hc
  iterate 2 try refine nc ?_
  by_cases g2 : c = 117
  · subst g2
    obtain rfl : true = b := Option.some.inj (by rw [if_pos (.inr (.inl rfl))] at h; exact h)
    refine cond_yes rfl ?_
    iterate 2 try refine nc ?_
    refine cond_yes rfl ?_
    iterate 2 try refine nc ?_
    exact ret_of [.bool true] ⟨rfl, trivial⟩ ⟨_, rfl, rfl, H⟩
  refine cond_of (b := ((c.toNat : Int) == ((117 : Nat) : Int))) (fun hc => ?_) (fun hc => ?_)
  · rw [hb 117 (hk g2)] at hc; cases hc
  iterate 2 try refine nc ?_
  by_cases g3 : c = 116
  · subst g3
    obtain rfl : true = b := Option.some.inj (by rw [if_pos (.inr (.inr rfl))] at h; exact h)
    refine cond_yes rfl ?_
    iterate 2 try refine nc ?_
    exact ret_of [.bool true] ⟨rfl, trivial⟩ ⟨_, rfl, rfl, H⟩
  refine cond_of (b := ((c.toNat : Int) == ((116 : Nat) : Int))) (fun hc => ?_) (fun hc => ?_)
  · rw [hb 116 (hk g3)] at hc; cases hc
  iterate 2 try refine nc ?_
  rw [if_neg (by rintro (e | e | e); exact g1 e; exact g2 e; exact g3 e)] at h
  by_cases g4 : c = 110
  · subst g4
    obtain rfl : false = b := Option.some.inj (by rw [if_pos (.inl rfl)] at h; exact h)
    refine cond_yes rfl ?_
    iterate 2 try refine nc ?_
    refine cond_yes rfl ?_
    iterate 2 try refine nc ?_
    exact ret_of [.bool false] ⟨rfl, trivial⟩ ⟨_, rfl, rfl, H⟩
  refine cond_of (b := ((c.toNat : Int) == ((110 : Nat) : Int))) (fun hc => ?_) (fun hc => ?_)
  · rw [hb 110 (hk g4)] at hc; cases hc
  iterate 2 try refine nc ?_
  by_cases g5 : c = 105
  · subst g5
    obtain rfl : false = b := Option.some.inj (by rw [if_pos (.inr rfl)] at h; exact h)
    refine cond_yes rfl ?_
    iterate 2 try refine nc ?_
    exact ret_of [.bool false] ⟨rfl, trivial⟩ ⟨_, rfl, rfl, H⟩
  refine cond_of (b := ((c.toNat : Int) == ((105 : Nat) : Int))) (fun hc => ?_) (fun hc => ?_)
  · rw [hb 105 (hk g5)] at hc; cases hc
  iterate 2 try refine nc ?_
  rw [if_neg (by rintro (e | e); exact g4 e; exact g5 e)] at h
  obtain ⟨ps, hps, h⟩ := bindS h
  obtain ⟨hpl, h⟩ := givenS h
  refine own_load H 0 rfl (by kernel_rfl) (j := 2) rfl ?_
  obtain ⟨o, ho, la, hla, hgood⟩ := H.obj 3 rfl
  have Ha : Eng.Own ok w0 w (.blk g [.map (some bm), .slice Ae E.length ce, .map (some bq)] 115 :: .obj bm (mapOk txV (M.map fun t => (t, Value.int .i64 1))) :: .dat (dSl (tSl tStr) (.slice Ae E.length ce) E) :: .obj bq (mapOk txV la) :: R) := Own.reObj H 3 rfl (fun o' ho' _ => by rw [ho] at ho'; cases ho'; exact hla)
  refine lookup_rule2 (kt := 28) (et := 4) (z := .bool false) (by kernel_rfl) (by kernel_rfl) keyTx (c :: r) Ha 3 rfl ?_
  cases hget : getA (c :: r) la with
  | some u =>
    obtain ⟨b', n', hu, hb'⟩ := hgood _ (get_mem hget)
    have hu : u = .bool b' := hu
    subst hu
    have hbb : b' = b := makesG_same hb' (show makesG M E (n + 1) (c :: r) = some b by
      rw [makesG_cons c r n hm, if_neg (by rintro (e | e | e); exact g1 e; exact g2 e; exact g3 e), if_neg (by rintro (e | e); exact g4 e; exact g5 e), hps, Option.bind_some, given_of hpl]; exact h)
    subst hbb
    iterate 2 try refine nc ?_
    refine cond_yes rfl ?_
    iterate 2 try refine nc ?_
    exact ret_of [.bool b'] ⟨rfl, trivial⟩ ⟨_, rfl, rfl, H⟩
  | none =>
  iterate 2 try refine nc ?_
  refine cond_no rfl ?_
  iterate 2 try refine nc ?_
  refine idxS_rule (by kernel_rfl) (show idxS (c :: r) (0 : Int) = some (c.toNat : Int) from rfl) ?_
  iterate 2 try refine nc ?_
  have hfin : makesG M E (n + 1) (c :: r) = some b := by
    rw [makesG_cons c r n hm, if_neg (by rintro (e | e | e); exact g1 e; exact g2 e; exact g3 e), if_neg (by rintro (e | e); exact g4 e; exact g5 e), hps, Option.bind_some, given_of hpl]; exact h
  by_cases g6 : c = 101
  · subst g6
    have h : raisesG (makesG M E n) E ps = some b := by rw [if_pos rfl] at h; exact h
    refine cond_yes rfl ?_
    iterate 2 try refine nc ?_
    refine call_rule (by kernel_rfl) (parts_Of_ok (ok := fun _ => False) hps) fun v3 w3 ⟨hv3, hb3⟩ => ?_
    replace H := H.callDats hb3 [dSl tStr v3 ps] ⟨(slR_any hv3), trivial⟩
    replace H := mk_in H
    refine call_rule (by kernel_rfl) (raises_calls ih hpl hE hEl h H) fun v4 w3 ⟨hv4, H⟩ => ?_
    subst hv4
    replace H := mk_drop H
    iterate 2 try refine nc ?_
    refine own_load H 0 rfl (by kernel_rfl) (j := 2) rfl ?_
    obtain ⟨o, ho, la, hla, hgood⟩ := H.obj 3 rfl
    have Ha : Eng.Own ok w0 w3 (.blk g [.map (some bm), .slice Ae E.length ce, .map (some bq)] 115 :: .obj bm (mapOk txV (M.map fun t => (t, Value.int .i64 1))) :: .dat (dSl (tSl tStr) (.slice Ae E.length ce) E) :: .obj bq (mapOk txV la) :: R) := Own.reObj H 3 rfl (fun o' ho' _ => by rw [ho] at ho'; cases ho'; exact hla)
    refine mapUpdate_rule (kt := 28) (et := 4) (by kernel_rfl) keyTx (101 :: r) (.bool b) Ha 3 rfl fun w4 H => ?_
    replace H : Eng.Own ok w0 w4 (.blk g [.map (some bm), .slice Ae E.length ce, .map (some bq)] 115 :: .obj bm (mapOk txV (M.map fun t => (t, Value.int .i64 1))) :: .dat (dSl (tSl tStr) (.slice Ae E.length ce) E) :: .obj bq (mapOk txV (putA (101 :: r) (.bool b) la)) :: R) := H
    have Hb : Eng.Own ok w0 w4 (mkL g bm bq (.slice Ae E.length ce) M E R) := Own.reObj H 3 rfl (fun o' _ ho' => ⟨_, ho', fun p hp => by
      rcases mem_put hp with q | q
      · rw [q]
        refine ⟨b, n + 1, rfl, ?_⟩
        exact hfin
      · exact hgood p q⟩)
    iterate 2 try refine nc ?_
    exact ret_of [.bool b] ⟨rfl, trivial⟩ ⟨_, rfl, rfl, Hb⟩
  · have h : allG (makesG M E n) ps = some b := by rw [if_neg g6] at h; exact h
    refine cond_of (b := ((c.toNat : Int) == ((101 : Nat) : Int))) (fun hc => ?_) (fun hc => ?_)
    · rw [hb 101 (hk g6)] at hc; cases hc
    iterate 2 try refine nc ?_
    refine call_rule (by kernel_rfl) (parts_Of_ok (ok := fun _ => False) hps) fun v3 w3 ⟨hv3, hb3⟩ => ?_
    replace H := H.callDats hb3 [dSl tStr v3 ps] ⟨(slR_any hv3), trivial⟩
    replace H := mk_in H
    refine call_rule (by kernel_rfl) (all_calls ih hpl h H) fun v4 w3 ⟨hv4, H⟩ => ?_
    subst hv4
    replace H := mk_drop H
    iterate 2 try refine nc ?_
    refine own_load H 0 rfl (by kernel_rfl) (j := 2) rfl ?_
    obtain ⟨o, ho, la, hla, hgood⟩ := H.obj 3 rfl
    have Ha : Eng.Own ok w0 w3 (.blk g [.map (some bm), .slice Ae E.length ce, .map (some bq)] 115 :: .obj bm (mapOk txV (M.map fun t => (t, Value.int .i64 1))) :: .dat (dSl (tSl tStr) (.slice Ae E.length ce) E) :: .obj bq (mapOk txV la) :: R) := Own.reObj H 3 rfl (fun o' ho' _ => by rw [ho] at ho'; cases ho'; exact hla)
    refine mapUpdate_rule (kt := 28) (et := 4) (by kernel_rfl) keyTx (c :: r) (.bool b) Ha 3 rfl fun w4 H => ?_
    replace H : Eng.Own ok w0 w4 (.blk g [.map (some bm), .slice Ae E.length ce, .map (some bq)] 115 :: .obj bm (mapOk txV (M.map fun t => (t, Value.int .i64 1))) :: .dat (dSl (tSl tStr) (.slice Ae E.length ce) E) :: .obj bq (mapOk txV (putA (c :: r) (.bool b) la)) :: R) := H
    have Hb : Eng.Own ok w0 w4 (mkL g bm bq (.slice Ae E.length ce) M E R) := Own.reObj H 3 rfl (fun o' _ ho' => ⟨_, ho', fun p hp => by
      rcases mem_put hp with q | q
      · rw [q]
        refine ⟨b, n + 1, rfl, ?_⟩
        exact hfin
      · exact hgood p q⟩)
    iterate 2 try refine nc ?_
    exact ret_of [.bool b] ⟨rfl, trivial⟩ ⟨_, rfl, rfl, Hb⟩
theorem mk_of {v : Value} {cells : List Value} (H : Eng.Own ok w0 w (knL g bm bq v cells M E R)) : Eng.Own ok w0 w (mkL g bm bq v M E R) := by
  have H1 := H.freeze (k := tSl tStr) 2 3 rfl rfl
  have H2 := Own.reObj (ψ := askOk M E) H1 4 rfl (fun o _ ho => ⟨[], ho, fun p hp => by cases hp⟩)
  exact (H2.perm (List.perm_middle (l₁ := [_, _, _]) (l₂ := _ :: R))).tail
theorem knowM_len : ∀ (l : List Tx1) (S T : KnS), knowM l S = some T → T.2.length ≤ S.2.length + l.length
  | [], S, T, h => by cases h; simp
  | t :: l, S, T, h => by
    rw [knowM_cons] at h
    obtain ⟨b, hb, h⟩ := bindS h
    cases b with
    | false =>
      have := knowM_len l S T h
      rw [List.length_cons]; omega
    | true =>
      obtain ⟨ps, hps, h⟩ := bindS h
      obtain ⟨hne, h⟩ := givenS h
      have h1 := knowM_len l _ T h
      have h2 := seen_len S.1 S.2 t ps
      have h1 : T.2.length ≤ (seenM S.1 S.2 t ps).2.length + l.length := h1
      rw [List.length_cons]; omega
set_option maxHeartbeats 2000000 in
theorem KnDerives_ok {ok : Nat → Prop} {w : World} {v : Value} {l : List Tx1} {S : KnS} {t : Tx1} {n : Nat} {b : Bool} (hv : slR tStr w ok v l) (hl : l.length ≤ 1000000) (h : knowM l ([], []) = some S) (hEl : ∀ x ∈ S.2, x.length ≤ 1000000) (hr : term_Right.f t = some true) (hmk : makesG S.1 S.2 n t = some b) :
    Calls Tryz.prog 32 #[v, .string (bs t)] w fun e w' => ∃ x, e = .returned x ∧ (x = .bool b ∧ Bel w.heap.size w w') := by
  have H : Eng.Own ok w w [.dat (dSl tStr v l)] := own_one hv
  obtain ⟨A, c, hA, hc⟩ := H.sl 0 rfl
  subst hA
  have hE : S.2.length ≤ 1000000 := by have := knowM_len l _ S h; simp at this; omega
  refine enter (args := [.slice A l.length c, .string (bs t)]) Tryz.func32 rfl Tryz.ntmps32 rfl rfl ?_
  iterate 2 try refine nc ?_
  refine call_rule (by kernel_rfl) (term_Right_ok (ok := fun _ => False) hr) fun v1 w1 ⟨hv1, hbel⟩ => ?_
  subst hv1
  replace H := H.call hbel
  refine call_rule (by kernel_rfl) (KnOf_calls H hl h) fun v2 w2 ⟨g, bm, bq, v', cells', hv2, H⟩ => ?_
  subst hv2
  replace H := mk_of H
  refine call_rule (by kernel_rfl) (makes_calls hE hEl n w2 _ t b hmk H) fun v3 w3 ⟨hv3, H⟩ => ?_
  subst hv3
  iterate 2 try refine nc ?_
  exact ret_of [.bool b] ⟨rfl, trivial⟩ ⟨_, rfl, rfl, H.frame⟩
end Go.Proofs.YtfapphlhkfddoaaGreatDoor.G
namespace Go.Proofs
open Go.Shelf
def Tryz.sortT_ren : Go.Shelf.Ren := ⟨fun | 54 => 69 | 64 => 106 | 65 => 105 | 78 => 137 | 79 => 138 | 80 => 128 | 81 => 129 | 82 => 130 | 83 => 131 | 84 => 132 | 85 => 133 | 61 => 134 | 86 => 135 | 87 => 136 | 93 => 178 | 89 => 179 | 90 => 180 | 94 => 181 | 95 => 182 | 69 => 183 | 97 => 211 | n => n, fun | 25 => 32 | 26 => 28 | 3 => 3 | 51 => 152 | 0 => 0 | 67 => 189 | 69 => 23 | 4 => 4 | 61 => 181 | 60 => 180 | 44 => 186 | 5 => 5 | 9 => 9 | 75 => 223 | 79 => 227 | 83 => 249 | 84 => 250 | n => n, fun | n => n⟩
theorem Tryz.sortT : Go.Proofs.SlLaysN.n54 Tryz.prog Tryz.sortT_ren := {
  mixed := by kernel_rfl,
  f54 := ⟨Tryz.f69.name, by decide, Tryz.func69.trans (congrArg some (by kernel_rfl))⟩,
  f61 := ⟨Tryz.f134.name, by decide, Tryz.func134.trans (congrArg some (by kernel_rfl))⟩,
  f64 := Tryz.func106.trans (congrArg some (by kernel_rfl)),
  f65 := ⟨Tryz.f105.name, by decide, Tryz.func105.trans (congrArg some (by kernel_rfl))⟩,
  f69 := ⟨Tryz.f183.name, by decide, Tryz.func183.trans (congrArg some (by kernel_rfl))⟩,
  f78 := Tryz.func137.trans (congrArg some (by kernel_rfl)),
  f79 := Tryz.func138.trans (congrArg some (by kernel_rfl)),
  f80 := ⟨Tryz.f128.name, by decide, Tryz.func128.trans (congrArg some (by kernel_rfl))⟩,
  f81 := ⟨Tryz.f129.name, by decide, Tryz.func129.trans (congrArg some (by kernel_rfl))⟩,
  f82 := ⟨Tryz.f130.name, by decide, Tryz.func130.trans (congrArg some (by kernel_rfl))⟩,
  f83 := ⟨Tryz.f131.name, by decide, Tryz.func131.trans (congrArg some (by kernel_rfl))⟩,
  f84 := ⟨Tryz.f132.name, by decide, Tryz.func132.trans (congrArg some (by kernel_rfl))⟩,
  f85 := ⟨Tryz.f133.name, by decide, Tryz.func133.trans (congrArg some (by kernel_rfl))⟩,
  f86 := ⟨Tryz.f135.name, by decide, Tryz.func135.trans (congrArg some (by kernel_rfl))⟩,
  f87 := ⟨Tryz.f136.name, by decide, Tryz.func136.trans (congrArg some (by kernel_rfl))⟩,
  f89 := Tryz.func179.trans (congrArg some (by kernel_rfl)),
  f90 := Tryz.func180.trans (congrArg some (by kernel_rfl)),
  f93 := ⟨Tryz.f178.name, by decide, Tryz.func178.trans (congrArg some (by kernel_rfl))⟩,
  f94 := ⟨Tryz.f181.name, by decide, Tryz.func181.trans (congrArg some (by kernel_rfl))⟩,
  f95 := ⟨Tryz.f182.name, by decide, Tryz.func182.trans (congrArg some (by kernel_rfl))⟩,
  f97 := ⟨Tryz.f211.name, by decide, Tryz.func211.trans (congrArg some (by kernel_rfl))⟩,
  t0 := Tryz.underlying0,
  a0 := Tryz.isAgg0,
  z0 := Tryz.sizeOf0,
  v0 := Tryz.zeroValue0,
  t3 := Tryz.underlying3,
  a3 := Tryz.isAgg3,
  z3 := Tryz.sizeOf3,
  v3 := Tryz.zeroValue3,
  t4 := Tryz.underlying4,
  a4 := Tryz.isAgg4,
  z4 := Tryz.sizeOf4,
  v4 := Tryz.zeroValue4,
  t5 := Tryz.underlying5,
  a5 := Tryz.isAgg5,
  z5 := Tryz.sizeOf5,
  v5 := Tryz.zeroValue5,
  t9 := Tryz.underlying9,
  a9 := Tryz.isAgg9,
  z9 := Tryz.sizeOf9,
  v9 := Tryz.zeroValue9,
  t25 := Tryz.underlying32,
  a25 := Tryz.isAgg32,
  z25 := Tryz.sizeOf32,
  v25 := Tryz.zeroValue32,
  t26 := Tryz.underlying28,
  a26 := Tryz.isAgg28,
  z26 := Tryz.sizeOf28,
  v26 := Tryz.zeroValue28,
  t44 := Tryz.underlying186,
  a44 := Tryz.isAgg186,
  z44 := Tryz.sizeOf186,
  v44 := Tryz.zeroValue186,
  t51 := Tryz.underlying152,
  a51 := Tryz.isAgg152,
  z51 := Tryz.sizeOf152,
  v51 := Tryz.zeroValue152,
  t60 := Tryz.underlying180,
  a60 := Tryz.isAgg180,
  z60 := Tryz.sizeOf180,
  v60 := Tryz.zeroValue180,
  t61 := Tryz.underlying181,
  a61 := Tryz.isAgg181,
  z61 := Tryz.sizeOf181,
  v61 := Tryz.zeroValue181,
  t67 := Tryz.underlying189,
  a67 := Tryz.isAgg189,
  z67 := Tryz.sizeOf189,
  v67 := Tryz.zeroValue189,
  t69 := Tryz.underlying23,
  a69 := Tryz.isAgg23,
  z69 := Tryz.sizeOf23,
  v69 := Tryz.zeroValue23,
  t75 := Tryz.underlying223,
  a75 := Tryz.isAgg223,
  z75 := Tryz.sizeOf223,
  v75 := Tryz.zeroValue223,
  t79 := Tryz.underlying227,
  a79 := Tryz.isAgg227,
  z79 := Tryz.sizeOf227,
  v79 := Tryz.zeroValue227,
  t83 := Tryz.underlying249,
  a83 := Tryz.isAgg249,
  z83 := Tryz.sizeOf249,
  v83 := Tryz.zeroValue249,
  t84 := Tryz.underlying250,
  a84 := Tryz.isAgg250,
  z84 := Tryz.sizeOf250,
  v84 := Tryz.zeroValue250 }
end Go.Proofs
namespace Go.Proofs.YtfapphlhkfddoaaGreatDoor.G
open Go.RowKit Go.Eng Go.Proofs Go.Proofs.YtfapphlhkfddoaaGreatDoor.Cut Go.Sort
set_option linter.unusedVariables false
set_option linter.unusedSimpArgs false
set_option maxRecDepth 20000
variable {ok : Nat → Prop} {w0 w : World} {L R : List Eng.Item}
theorem sortT_at : SortsAt Tryz.prog 69 encStr sortB := fun blk off cap zs w hH hb hs => AnyG.slices_Sort_string Tryz.sortT blk off cap zs w hH hb hs
theorem sortT_own {A B : List Eng.Item} {v : Value} {e : TypeId} {xs : List (List UInt8)} (hsz : xs.length < 4611686018427387904) (H : Eng.Own ok w0 w (A ++ .row v e 1 xs.length (xs.map encStr) :: B)) :
    Calls Tryz.prog 69 #[v] w fun ee w' => ∃ u, ee = .returned u ∧ (u = .tuple #[] ∧ Eng.Own ok w0 w' (A ++ .row v e 1 xs.length ((sortB xs).map encStr) :: B)) := by
  by_cases h : xs = []
  · subst h
    have hs : sortB [] = [] := List.perm_nil.1 (sortB_perm [])
    rw [hs]
    have hrow : qRow w e 1 v 0 [] := H.all (.row v e 1 0 []) (by simp)
    have hv : ∃ p c, v = .slice p 0 c := by
      rcases hrow.2 with ⟨h0, A', hv, _⟩ | ⟨q, off, cap, cur, hv, _⟩
      · exact ⟨_, _, hv⟩
      · exact ⟨_, _, hv⟩
    obtain ⟨p, c, rfl⟩ := hv
    exact (AnyG.slices_Sort_string_none Tryz.sortT p c w).mono fun ee w' ⟨h1, h2⟩ => ⟨_, h1, rfl, by rw [h2]; exact H⟩
  · exact sort1_own sortT_at sortB_len (List.length_pos_iff.2 h) hsz H
theorem taken_none {p : Value} {c : UInt8} {r : List UInt8} {ps : List (List UInt8)} (h1 : c ≠ 112) (h2 : c ≠ 120) (h3 : c ≠ 115) (hps : parts_Of.f (c :: r) = some ps) :
    Calls Tryz.prog 70 #[p, .string (bs (c :: r))] w fun e w' => ∃ x, e = .returned x ∧ (x = .slice none 0 0 ∧ Bel w.heap.size w w') := by
  have H : Eng.Own (fun _ => False) w w [] := Eng.Own.nil _ w
  have hb : ∀ k : Nat, c.toNat ≠ k → ((c.toNat : Int) == (k : Int)) = false := fun k hk => beq_eq_false_iff_ne.2 (by omega)
  have g1 := hb 112 (fun e => h1 (UInt8.toNat_inj.1 (by simpa using e)))
  have g2 := hb 120 (fun e => h2 (UInt8.toNat_inj.1 (by simpa using e)))
  have g3 := hb 115 (fun e => h3 (UInt8.toNat_inj.1 (by simpa using e)))
  refine enter (args := [p, .string (bs (c :: r))]) Tryz.func70 rfl Tryz.ntmps70 rfl rfl ?_
  iterate 2 try refine nc ?_
  refine call_rule (by kernel_rfl) (parts_Of_ok (ok := fun _ => False) hps) fun v w1 ⟨hv, hbel⟩ => ?_
  replace H := H.call hbel
  obtain ⟨A, cc, rfl, _⟩ := hv
  iterate 2 try refine nc ?_
  refine idxS_rule (by kernel_rfl) (show idxS (c :: r) (0 : Int) = some (c.toNat : Int) from rfl) ?_
  iterate 2 try refine nc ?_
  refine cond_of (b := ((c.toNat : Int) == ((112 : Nat) : Int))) (fun hc => ?_) (fun hc => ?_)
  · rw [g1] at hc; cases hc
  iterate 2 try refine nc ?_
  refine cond_of (b := ((c.toNat : Int) == ((120 : Nat) : Int))) (fun hc => ?_) (fun hc => ?_)
  · rw [g2] at hc; cases hc
  iterate 2 try refine nc ?_
  refine cond_of (b := ((c.toNat : Int) == ((115 : Nat) : Int))) (fun hc => ?_) (fun hc => ?_)
  · rw [g3] at hc; cases hc
  iterate 2 try refine nc ?_
  try refine nc ?_
  exact ret_of [.slice none 0 0] ⟨rfl, trivial⟩ ⟨_, rfl, rfl, H.frame⟩
theorem map_met (M : List (List UInt8)) : ((M.map fun t => (t, Value.int .i64 1)).map (·.1)) = M := by
  rw [List.map_map]
  exact List.map_id' M
set_option maxHeartbeats 8000000 in
theorem KnClose_ok {ok : Nat → Prop} {w : World} {v : Value} {l : List (List UInt8)} {S : KnS} (hv : slR tStr w ok v l) (hl : l.length ≤ 1000000) (h : knowM l ([], []) = some S) (hm : S.1.length ≤ 1000000) (hp : ∀ t ∈ S.1, plainT t) :
    Calls Tryz.prog 31 #[v] w fun e w' => ∃ x, e = .returned x ∧ (slR tStr w' (fun b => ok b ∨ w.heap.size ≤ b) x (sortB S.1) ∧ Bel w.heap.size w w') := by
  have H : Eng.Own ok w w [.dat (dSl tStr v l)] := own_one hv
  obtain ⟨A, c, hA, hc⟩ := H.sl 0 rfl
  subst hA
  refine enter (args := [.slice A l.length c]) Tryz.func31 rfl Tryz.ntmps31 rfl rfl ?_
  try refine nc ?_
  refine nc_scope ?_
  iterate 2 try refine nc ?_
  refine call_rule (by kernel_rfl) (KnOf_calls H hl h) fun v1 w1 ⟨g, bm, bq, v', cells', hv1, H⟩ => ?_
  subst hv1
  iterate 2 try refine nc ?_
  refine loop_rule (fun k e w' => e = [(3, .pointer (some ⟨g, 0, none⟩))] ∧ Eng.Own ok w w' (knL g bm bq v' cells' S.1 S.2 [.dat (dSl tStr (.slice A l.length c) l)])) 0 [(3, .pointer (some ⟨g, 0, none⟩))] ⟨rfl, trivial⟩ ⟨rfl, H⟩ ?_
  rintro k e w2 ⟨rfl, H⟩
  iterate 2 try refine nc ?_
  try refine nc ?_
  replace H := H.nilRow 28 1
  refine own_load H 1 rfl (by kernel_rfl) (j := 0) rfl ?_
  obtain ⟨es, cl, hit, hes, H⟩ := H.openMap 2 rfl
  refine rangeMap_rule (kt := 28) (et := 3) (by kernel_rfl) H 2 rfl fun r w3 H => ?_
  iterate 2 try refine nc ?_
  refine loop_rule (fun k e w' => ∃ (pre : List (List UInt8)) (rest : List (List UInt8 × Value)) (seen : Array Nat) (vk : Value), (pre ++ rest.map (·.1)).Perm S.1 ∧ rest.length = k ∧ ItOk txV es cl seen rest ∧ e = [(3, .pointer (some ⟨g, 0, none⟩)), (4, vk), (17, .pointer (some ⟨r, 0, none⟩))] ∧
      Eng.Own ok w w' (.obj r (· = .mapIter (some bm) cl seen cl) :: .row vk 28 1 pre.length (strs pre) :: .blk g [.map (some bm), v', .map (some bq)] 115 :: .obj bm (· = .map es cl) :: .row v' 32 1 S.2.length cells' :: .dat (dRows (tSl tStr) S.2 cells') :: .obj bq (mapOk txV []) :: [.dat (dSl tStr (.slice A l.length c) l)])) S.1.length [(3, .pointer (some ⟨g, 0, none⟩)), (4, .slice none 0 0), (17, .pointer (some ⟨r, 0, none⟩))] ⟨rfl, rfl, rfl, trivial⟩
    ⟨[], S.1.map fun t => (t, Value.int .i64 1), #[], _, by rw [map_met]; exact List.Perm.refl _, by simp, hit, rfl, H⟩ ?_
  clear H hit
  rintro k2 e w4 ⟨pre, rest, seen, vk, hperm, hk2, hit, rfl, H⟩
  try refine nc ?_
  refine nextMap_rule H 3 0 rfl rfl hit (fun hr => ?_) (fun A2 p B2 seen' w5 hr hit' hent H => ?_)
  · subst hr
    iterate 2 try refine nc ?_
    refine cond_no rfl ?_
    iterate 2 try refine nc ?_
    have hpl : pre.length = S.1.length := by have := hperm.length_eq; simpa using this
    rw [List.map_nil, List.append_nil] at hperm
    refine call_rule (by kernel_rfl) (sortT_own (A := [.obj r (· = .mapIter (some bm) cl seen cl)]) (B := _) (xs := pre) (by omega) H) fun u w6 ⟨hu, H⟩ => ?_
    have hsb : sortB pre = sortB S.1 := sortB_congr hperm
    replace H : Eng.Own ok w w6 (.obj r (· = .mapIter (some bm) cl seen cl) :: .row vk 28 1 (sortB pre).length (strs (sortB pre)) :: .blk g [.map (some bm), v', .map (some bq)] 115 :: .obj bm (· = .map es cl) :: .row v' 32 1 S.2.length cells' :: .dat (dRows (tSl tStr) S.2 cells') :: .obj bq (mapOk txV []) :: [.dat (dSl tStr (.slice A l.length c) l)]) := by rw [sortB_len]; exact H
    rw [hsb] at H
    replace H := H.freezeS 1 rfl
    replace H : Eng.Own ok w w6 [.dat (dSl tStr vk (sortB S.1))] := H.pickL [1] rfl
    generalize hso : sortB S.1 = so at H
    have hsp : ∀ t ∈ so, plainT t := fun t ht => hp t ((sortB_perm S.1).mem_iff.1 (by rw [hso]; exact ht))
    have hsl : so.length ≤ 1000000 := by rw [← hso, sortB_len]; exact hm
    obtain ⟨A3, c3, hA3, _⟩ := H.sl 0 rfl
    subst hA3
    subst hu
    iterate 2 try refine nc ?_
    iterate 2 try refine nc ?_
    refine loop_rule (fun k e w' => ∃ (i : Nat) (A4 : Option Addr), i + k = so.length ∧ e = [(3, .pointer (some ⟨g, 0, none⟩)), (4, .slice A4 so.length c3), (6, .bool false), (28, .slice A4 so.length c3), (29, .int .i64 (so.length : Nat)), (30, .int .i64 (i : Int))] ∧ Eng.Own ok w w' [.dat (dSl tStr (.slice A4 so.length c3) so)]) so.length
      [(3, .pointer (some ⟨g, 0, none⟩)), (4, .slice A3 so.length c3), (6, .bool false), (28, .slice A3 so.length c3), (29, .int .i64 (so.length : Nat)), (30, .int .i64 ((0 : Nat) : Int))] ⟨rfl, rfl, rfl, rfl, rfl, rfl, trivial⟩ ⟨0, A3, by omega, rfl, H⟩ ?_
    rintro k3 e w7 ⟨i, A4, hik, rfl, H⟩
    iterate 2 try refine nc ?_
    refine cond_of (fun hc => ?_) (fun hc => ?_)
    · have hlt : i < so.length := by have := of_decide_eq_true hc; omega
      have hx : idxL so (i : Int) = some so[i] := idxL_lt hlt
      obtain ⟨ch, rr, ps, hch, n1, n2, n3, hps⟩ := hsp so[i] (List.getElem_mem hlt)
      iterate 2 try refine nc ?_
      obtain ⟨a, cs, hA2, hR, H⟩ := H.elemI 0 rfl hx
      subst hA2
      obtain rfl : cs = [.string (bs so[i])] := hR
      refine idxA_rule (e := 28) 1 _ (by kernel_rfl) (by kernel_rfl) (idxL_some hx).1 (idxL_some hx).2.1 ?_
      refine own_loadD H 0 rfl 0 (by kernel_rfl) rfl ?_
      replace H := H.tail
      rw [hch] at hps ⊢
      iterate 2 try refine nc ?_
      refine call_rule (by kernel_rfl) (taken_none n1 n2 n3 hps) fun v8 w8 ⟨hv8, hbel⟩ => ?_
      subst hv8
      replace H := H.call hbel
      iterate 2 try refine nc ?_
      refine loop_rule (fun k e w' => e = [(3, .pointer (some ⟨g, 0, none⟩)), (4, .slice (some a) so.length c3), (6, .bool false), (28, .slice (some a) so.length c3), (29, .int .i64 (so.length : Nat)), (30, .int .i64 (i : Int)), (37, .int .i64 0), (38, .int .i64 0)] ∧ Eng.Own ok w w' [.dat (dSl tStr (.slice (some a) so.length c3) so)]) 0
        [(3, .pointer (some ⟨g, 0, none⟩)), (4, .slice (some a) so.length c3), (6, .bool false), (28, .slice (some a) so.length c3), (29, .int .i64 (so.length : Nat)), (30, .int .i64 (i : Int)), (37, .int .i64 0), (38, .int .i64 0)] ⟨rfl, rfl, rfl, rfl, rfl, rfl, rfl, rfl, trivial⟩ ⟨rfl, H⟩ ?_
      rintro k4 e w9 ⟨rfl, H⟩
      iterate 2 try refine nc ?_
      refine cond_no rfl ?_
      iterate 2 try refine nc ?_
      refine again_in (k3 - 1) (by omega) [(3, .pointer (some ⟨g, 0, none⟩)), (4, .slice (some a) so.length c3), (6, .bool false), (28, .slice (some a) so.length c3), (29, .int .i64 (so.length : Nat)), (30, .int .i64 ((i + 1 : Nat) : Int))] ⟨rfl, rfl, rfl, rfl, rfl, ?_, trivial⟩ ⟨i + 1, some a, by omega, rfl, H⟩
      show some (Value.int .i64 (IntKind.i64.wrap ((i : Int) + 1))) = _
      rw [Eng.i64_id (by omega) (by omega)]; rfl
    · try refine nc ?_
      try refine nc ?_
      refine cond_no rfl ?_
      iterate 2 try refine nc ?_
      exact ret_of [.slice A4 so.length c3] ⟨rfl, trivial⟩ ⟨_, rfl, H.outD 0 rfl, H.frame⟩
  · subst hr
    replace H : Eng.Own ok w w5 (.obj r (· = .mapIter (some bm) cl seen' cl) :: .row vk 28 1 pre.length (strs pre) :: .blk g [.map (some bm), v', .map (some bq)] 115 :: .obj bm (· = .map es cl) :: .row v' 32 1 S.2.length cells' :: .dat (dRows (tSl tStr) S.2 cells') :: .obj bq (mapOk txV []) :: [.dat (dSl tStr (.slice A l.length c) l)]) := H
    have hpl : pre.length + 1 ≤ 1000000 := by have := hperm.length_eq; simp at this; omega
    iterate 2 try refine nc ?_
    refine cond_yes rfl ?_
    iterate 2 try refine nc ?_
    refine entry_rule H 3 0 rfl rfl hent ?_
    iterate 2 try refine nc ?_
    refine own_buildSlice (e := 28) (sz := 1) (z := .string (bs [])) (cs := [.string (bs p.1)]) H (by kernel_rfl) (by kernel_rfl) (by kernel_rfl) rfl rfl rfl rfl ?_
    intro gb w6 H
    refine own_appendBlk (e := 28) (sz := 1) (z := .string (bs [])) (by_ := 16) (m := 1) H 2 0 rfl rfl (by kernel_rfl) (by kernel_rfl) rfl rfl rfl (by intro v hv; simp at hv; subst hv; rfl) (by omega) (by omega) ?_
    intro v7 w7 H
    have hp2 : ((pre ++ [p.1]) ++ (A2 ++ B2).map (·.1)).Perm S.1 := by
      refine List.Perm.trans ?_ hperm
      rw [List.append_assoc]
      refine List.Perm.append_left _ ?_
      simp only [List.map_append, List.map_cons]
      show (p.1 :: (A2.map (·.1) ++ B2.map (·.1))).Perm _
      exact List.perm_middle.symm
    have e1 : strs (pre ++ [p.1]) = strs pre ++ [.string (bs p.1)] := by simp [strs]
    have e2 : (pre ++ [p.1]).length = pre.length + 1 := by simp
    iterate 2 try refine nc ?_
    refine again_in (A2 ++ B2).length (by rw [← hk2]; simp) [(3, .pointer (some ⟨g, 0, none⟩)), (4, v7), (17, .pointer (some ⟨r, 0, none⟩))] ⟨rfl, rfl, rfl, trivial⟩ ⟨pre ++ [p.1], A2 ++ B2, seen', v7, hp2, rfl, hit', rfl, ?_⟩
    rw [e1, e2]
    exact H.tail
end Go.Proofs.YtfapphlhkfddoaaGreatDoor.G
namespace Go.Proofs.YtfapphlhkfddoaaGreatDoor.G
open Go.RowKit Go.Eng Go.Proofs Go.Proofs.YtfapphlhkfddoaaGreatDoor.Cut
set_option linter.unusedVariables false
theorem theOne_p {α : Type} {p : α → Prop} {x : α} (h : theOne p = some x) : p x := by
  unfold theOne at h
  split at h
  · rename_i hx; cases h; exact hx.choose_spec
  · cases h
theorem know_Close_ok {ok : Nat → Prop} {w : World} {u1 : Value} {x0 : List (List UInt8)} {r : List (List UInt8)} (hu2 : slR tStr w ok u1 x0) (h : know_Close.f x0 = some r) :
    Calls Tryz.prog 31 #[u1] w fun e w' => ∃ v, e = .returned v ∧ (slR tStr w' (fun b => ok b ∨ w.heap.size ≤ b) v r ∧ Bel w.heap.size w w') := by
  obtain ⟨hl, S, h1, h2, h3, rfl⟩ := theOne_p h
  exact KnClose_ok hu2 hl h1 h2 h3
theorem know_Derives_ok {ok : Nat → Prop} {w : World} {u1 : Value} {x0 : List (List UInt8)} {x1 : List UInt8} {r : Bool} (hu2 : slR tStr w ok u1 x0) (h : know_Derives.f x0 x1 = some r) :
    Calls Tryz.prog 32 #[u1, .string (bs x1)] w fun e w' => ∃ v, e = .returned v ∧ (v = .bool r ∧ Bel w.heap.size w w') := by
  obtain ⟨hl, S, n, h1, h2, h3, h4⟩ := theOne_p h
  exact KnDerives_ok hu2 hl h1 h2 h3 h4
end Go.Proofs.YtfapphlhkfddoaaGreatDoor.G
namespace Go.Proofs.YtfapphlhkfddoaaGreatDoor.G
open Go.RowKit Go.Eng Go.Proofs
set_option linter.unusedVariables false
set_option maxRecDepth 20000
noncomputable def gemotlaw16_RekeySecret.b1 (y13 : D_api_View) (y29 : D_api_View) (y92 : (List UInt8) × Bool) (y112 : (List UInt8) × Bool) (v639 : List (Option O_rekey_Round)) (v645 : List (List UInt8)) (v651 : List (Option O_rekey_Round)) (v656 : Int) : Option (((List (Option O_rekey_Round)) × (List (List UInt8)) × (List (Option O_rekey_Round)) × Int) ⊕ ((List (Option O_rekey_Round)) × (List (List UInt8)))) := cond (decide (v656 < (v651.length : Int))) ((idxL v651 v656).bind fun y770 => (y770).bind fun y780 => (rekey_Round_Secrets.f y780).bind fun y785 => roomM 16 (v645.length + y785.length) (some (.inl (v639, (v645 ++ y785), (v651.set (v656).toNat (some y780)), (IntKind.i64.wrap (v656 + (1 : Int))))))) (some (.inr (v639, v645)))
noncomputable def gemotlaw16_RekeySecret.b2 (y13 : D_api_View) (y29 : D_api_View) (y92 : (List UInt8) × Bool) (y112 : (List UInt8) × Bool) (y805 : (List (List UInt8))) (v2174 : Int) (y2868 : (List (List UInt8))) (v2902 : List (Option O_rekey_Round)) (v2907 : Int) : Option (((List (Option O_rekey_Round)) × Int) ⊕ ((List (Option O_rekey_Round)) ⊕ Bool)) := cond (decide (v2907 < (y2868.length : Int))) ((idxL y2868 v2907).bind fun y2965 => (know_Derives.f y805 y2965).bind fun y2971 => cond y2971 (some (.inr (Sum.inr false))) (some (.inl (v2902, (IntKind.i64.wrap (v2907 + (1 : Int))))))) (some (.inr (Sum.inl v2902)))
noncomputable def gemotlaw16_RekeySecret.k3 (y13 : D_api_View) (y29 : D_api_View) (y92 : (List UInt8) × Bool) (y112 : (List UInt8) × Bool) (y805 : (List (List UInt8))) (v2174 : Int) (v2846 : List (Option O_rekey_Round)) : Option (((List (Option O_rekey_Round)) × Int) ⊕ (Unit ⊕ Bool)) := some (.inl (v2846, (IntKind.i64.wrap (v2174 + (1 : Int)))))
noncomputable def gemotlaw16_RekeySecret.b4 (y13 : D_api_View) (y29 : D_api_View) (y92 : (List UInt8) × Bool) (y112 : (List UInt8) × Bool) (y805 : (List (List UInt8))) (v2169 : List (Option O_rekey_Round)) (v2174 : Int) : Option (((List (Option O_rekey_Round)) × Int) ⊕ (Unit ⊕ Bool)) := cond (decide (v2174 < (v2169.length : Int))) ((idxL v2169 v2174).bind fun y2853 => (y2853).bind fun y2863 => (rekey_Round_Secrets.f y2863).bind fun y2868 => (loopM (fun s2961 : (List (Option O_rekey_Round)) × Int => gemotlaw16_RekeySecret.b2 y13 y29 y92 y112 y805 v2174 y2868 s2961.1 s2961.2) ((v2169.set (v2174).toNat (some y2863)), (0 : Int))).bind (Sum.elim (fun (o2959 : (List (Option O_rekey_Round))) => gemotlaw16_RekeySecret.k3 y13 y29 y92 y112 y805 v2174 o2959) (fun (o2960 : Bool) => some (.inr (Sum.inr o2960))))) (some (.inr (Sum.inl ())))
noncomputable def gemotlaw16_RekeySecret.k5 (v3001 : Bool) : Option (Bool) := some v3001
noncomputable def gemotlaw16_RekeySecret.k6 (y13 : D_api_View) (y29 : D_api_View) (y92 : (List UInt8) × Bool) (y112 : (List UInt8) × Bool) (y805 : (List (List UInt8))) : Option (Bool) := cond (cond (cond y92.2 y112.2 false) (!(strEq y92.1 y112.1)) false) ((know_Derives.f y805 y92.1).bind fun y3005 => cond (!y3005) ((know_Derives.f y805 y112.1).bind fun y3012 => cond y3012 ((gemotref10_Same.f y13.2 y29.2).bind fun y3019 => gemotlaw16_RekeySecret.k5 (cond (cond (cond (cond (cond y92.2 y112.2 false) (!(strEq y92.1 y112.1)) false) (!y3005) false) y3012 false) y3019 false)) (gemotlaw16_RekeySecret.k5 (cond (cond (cond (cond (cond y92.2 y112.2 false) (!(strEq y92.1 y112.1)) false) (!y3005) false) y3012 false) false false))) (gemotlaw16_RekeySecret.k5 (cond (cond (cond (cond (cond y92.2 y112.2 false) (!(strEq y92.1 y112.1)) false) (!y3005) false) false false) false false))) (gemotlaw16_RekeySecret.k5 (cond (cond (cond (cond (cond y92.2 y112.2 false) (!(strEq y92.1 y112.1)) false) (!false) false) false false) false false))
noncomputable def gemotlaw16_RekeySecret.k7 (y13 : D_api_View) (y29 : D_api_View) (y92 : (List UInt8) × Bool) (y112 : (List UInt8) × Bool) (v577 : List (Option O_rekey_Round)) (v583 : List (List UInt8)) : Option (Bool) := (know_Close.f v583).bind fun y805 => (loopM (fun s2715 : (List (Option O_rekey_Round)) × Int => gemotlaw16_RekeySecret.b4 y13 y29 y92 y112 y805 s2715.1 s2715.2) (v577, (0 : Int))).bind (Sum.elim (fun (o2713 : Unit) => gemotlaw16_RekeySecret.k6 y13 y29 y92 y112 y805) (fun (o2714 : Bool) => some o2714))
noncomputable def gemotlaw16_RekeySecret.f (x0 : Int) (x1 : Int) (x2 : Int) (x3 : List Int) : Option (Bool) := (gemotlaw16_shown.f).bind fun y6 => cond (cond (!y6) true (decide ((x3.length : Int) > (60 : Int)))) (some y6) ((gemotlaw16_of.f (andI .i64 x0 (63 : Int)) x1).bind fun y13 => (gemotlaw16_of.f (andI .i64 x0 (63 : Int)) x2).bind fun y29 => cond ((y13.1.1 == y29.1.1) && (y13.1.2 == y29.1.2)) (some true) ((gemotlaw16_all.f y13 (100 : Int) x3).bind fun y46 => (gemotlaw16_all.f y29 (200 : Int) ([] : List Int)).bind fun y61 => cond (cond ((y46.1.length : Int) == (0 : Int)) true ((y61.1.length : Int) == (0 : Int))) (some false) ((idxL y46.1 (0 : Int)).bind fun y77 => (y77).bind fun y87 => (rekey_Round_Key.f y87).bind fun y92 => (idxL y61.1 (0 : Int)).bind fun y97 => (y97).bind fun y107 => (rekey_Round_Key.f y107).bind fun y112 => roomM 16 (y46.2.length + y61.2.length) (roomM 16 ((y46.2 ++ y61.2).length + 1) ((loopM (fun s766 : (List (Option O_rekey_Round)) × (List (List UInt8)) × (List (Option O_rekey_Round)) × Int => gemotlaw16_RekeySecret.b1 y13 y29 y92 y112 s766.1 s766.2.1 s766.2.2.1 s766.2.2.2) ((y46.1.set ((0 : Int)).toNat (some y87)), ((y46.2 ++ y61.2) ++ [y112.1]), (y61.1.set ((0 : Int)).toNat (some y107)), (0 : Int))).bind (fun (o765 : (List (Option O_rekey_Round)) × (List (List UInt8))) => gemotlaw16_RekeySecret.k7 y13 y29 y92 y112 o765.1 o765.2))))))
set_option maxHeartbeats 4000000 in
theorem gemotlaw16_RekeySecret_ok {ok : Nat → Prop} {w : World} {u1 : Value} {x0 : Int} {x1 : Int} {x2 : Int} {x3 : List Int} {r : Bool} (hu2 : slR (tInt .i64) w ok u1 x3) (h : gemotlaw16_RekeySecret.f x0 x1 x2 x3 = some r) :
    Calls Tryz.prog 8 #[.int .i64 x0, .int .i64 x1, .int .i64 x2, u1] w fun e w' => ∃ v, e = .returned v ∧ (v = .bool r ∧ Bel w.heap.size w w') := by
  have H : Eng.Own ok w w [] := Eng.Own.nil ok w
  obtain ⟨A3, c4, rfl, H⟩ := H.arg rfl hu2
  unfold gemotlaw16_RekeySecret.f at h
  refine enterN (args := [.int .i64 x0, .int .i64 x1, .int .i64 x2, .slice A3 x3.length c4]) Tryz.func8 rfl Tryz.ntmps8 rfl rfl ?_
  refine nc_seq ?_
  refine nc ?_
  refine nc_seq ?_
  refine nc ?_
  obtain ⟨y6, hy7, h⟩ := bindS h
  refine call_rule (by kernel_rfl) (gemotlaw16_shown_ok (ok := fun _ => False) hy7) fun v9 w8 ⟨hv10, hb11⟩ => ?_
  subst hv10
  replace H := H.call hb11
  refine nc_seq ?_
  refine nc_seq ?_
  refine nc ?_
  refine nc_cond rfl (fun hc12 => ?_) (fun hc12 => ?_)
  · replace h := condT hc12 h
    refine nc_seq ?_
    refine nc ?_
    refine nc ?_
    replace h := Option.some.inj h
    subst h
    exact ret_inA [.bool y6] ⟨_, rfl, ⟨rfl, H.frame⟩⟩
  · replace h := condF hc12 h
    refine nc ?_
    refine nc_seq ?_
    refine nc ?_
    obtain ⟨y13, hy14, h⟩ := bindS h
    refine call_rule (by kernel_rfl) (gemotlaw16_of_ok (ok := fun _ => False) hy14) fun v16 w15 ⟨u19, hv17, hu20, hb18⟩ => ?_
    subst hv17
    replace H := H.callDats hb18 [dSl (tInt .i64) u19 y13.2] ⟨(slR_any hu20), trivial⟩
    obtain ⟨A21, c22, hA23, _⟩ := H.sl 0 rfl
    subst hA23
    refine own_alloc (z := .agg #[.int .i64 0, .int .i64 0, .slice none 0 0]) H (by kernel_rfl) [.int .i64 0, .int .i64 0, .slice none 0 0] rfl fun g26 w27 H => ?_
    refine own_storeB (m := 3) H 0 rfl (by kernel_rfl) [.int .i64 y13.1.1, .int .i64 y13.1.2, .slice A21 y13.2.length c22] rfl rfl rfl rfl fun w28 H => ?_
    refine nc_seq ?_
    refine nc ?_
    obtain ⟨y29, hy30, h⟩ := bindS h
    refine call_rule (by kernel_rfl) (gemotlaw16_of_ok (ok := fun _ => False) hy30) fun v32 w31 ⟨u35, hv33, hu36, hb34⟩ => ?_
    subst hv33
    replace H := H.callDats hb34 [dSl (tInt .i64) u35 y29.2] ⟨(slR_any hu36), trivial⟩
    obtain ⟨A37, c38, hA39, _⟩ := H.sl 0 rfl
    subst hA39
    refine own_alloc (z := .agg #[.int .i64 0, .int .i64 0, .slice none 0 0]) H (by kernel_rfl) [.int .i64 0, .int .i64 0, .slice none 0 0] rfl fun g42 w43 H => ?_
    refine own_storeB (m := 3) H 0 rfl (by kernel_rfl) [.int .i64 y29.1.1, .int .i64 y29.1.2, .slice A37 y29.2.length c38] rfl rfl rfl rfl fun w44 H => ?_
    refine nc_seq ?_
    refine nc_seq ?_
    refine nc ?_
    refine own_loadA (m := 2) H 2 rfl (by kernel_rfl) (by kernel_rfl) [.int .i64 y13.1.1, .int .i64 y13.1.2] rfl rfl ?_
    refine own_loadA (m := 2) H 0 rfl (by kernel_rfl) (by kernel_rfl) [.int .i64 y29.1.1, .int .i64 y29.1.2] rfl rfl ?_
    refine eql_rule ((y13.1.1 == y29.1.1) && (y13.1.2 == y29.1.2)) (fun _ => (by kernel_rfl)) (fun _ => (by kernel_rfl)) ?_
    refine nc_cond rfl (fun hc45 => ?_) (fun hc45 => ?_)
    · replace h := condT hc45 h
      refine nc_seq ?_
      refine nc ?_
      refine nc ?_
      replace h := Option.some.inj h
      subst h
      exact ret_inA [.bool true] ⟨_, rfl, ⟨rfl, H.frame⟩⟩
    · replace h := condF hc45 h
      refine nc ?_
      refine nc_seq ?_
      refine nc ?_
      refine own_loadA (m := 3) H 2 rfl (by kernel_rfl) (by kernel_rfl) [.int .i64 y13.1.1, .int .i64 y13.1.2, .slice A21 y13.2.length c22] rfl rfl ?_
      obtain ⟨y46, hy47, h⟩ := bindS h
      refine call_rule (by kernel_rfl) (gemotlaw16_all_ok (x0 := y13) H (H.dat 3 rfl) (H.dat 4 rfl) hy47) fun v59 w58 ⟨A48, c49, cs50, al51, A54, c55, cs56, hv60, H⟩ => ?_
      subst hv60
      refine nc_seq ?_
      refine nc ?_
      refine own_loadA (m := 3) H 5 rfl (by kernel_rfl) (by kernel_rfl) [.int .i64 y29.1.1, .int .i64 y29.1.2, .slice A37 y29.2.length c38] rfl rfl ?_
      obtain ⟨y61, hy62, h⟩ := bindS h
      refine call_rule (by kernel_rfl) (gemotlaw16_all_ok (x0 := y29) H (H.dat 6 rfl) nilR hy62) fun v74 w73 ⟨A63, c64, cs65, al66, A69, c70, cs71, hv75, H⟩ => ?_
      subst hv75
      refine nc_seq ?_
      refine nc_seq ?_
      refine nc ?_
      refine nc_cond rfl (fun hc76 => ?_) (fun hc76 => ?_)
      · replace h := condT hc76 h
        refine nc_seq ?_
        refine nc ?_
        refine nc ?_
        replace h := Option.some.inj h
        subst h
        exact ret_inA [.bool false] ⟨_, rfl, ⟨rfl, H.frame⟩⟩
      · replace h := condF hc76 h
        refine nc ?_
        refine nc_seq ?_
        refine nc ?_
        obtain ⟨y77, hx78, h⟩ := bindS h
        have ho79 := H.objsLen 7 rfl
        obtain ⟨g82, a83, gp84, hq80, hput81, H⟩ := idxOff (H.pickL [7, 0, 1, 2, 3, 4, 5, 6, 8, 9, 10, 11, 12, 13, 14] rfl) hx78
        obtain ⟨a86, _, rfl, _, _⟩ := H.rowElem (k := tPtr) 8 7 rfl rfl ho79 hq80
        refine idxA_rule (e := 46) 1 _ (by kernel_rfl) (by kernel_rfl) (idxL_some hx78).1 (idxL_some hx78).2.1 ?_
        obtain ⟨y87, hy88, h⟩ := bindS h
        replace H := H.someAt 0 rfl hy88
        try rw [hy88]
        rw [hy88] at hq80
        obtain ⟨cs89, hR90, hC91⟩ := H.rowElemJ (k := tPtr) 8 7 rfl rfl ho79 hq80
        replace hR90 : cs89 = [.pointer (some ⟨g82, 0, none⟩)] := hR90
        subst hR90
        refine load_at hC91 0 (by kernel_rfl) rfl ?_
        obtain ⟨y92, hy93, h⟩ := bindS h
        refine call_rule (by kernel_rfl) (rekey_Round_Key_ok (x0 := y87) H hy93) fun v95 w94 ⟨hv96, H⟩ => ?_
        subst hv96
        refine nc_seq ?_
        refine nc ?_
        obtain ⟨y97, hx98, h⟩ := bindS h
        have ho99 := H.objsLen 4 rfl
        obtain ⟨g102, a103, gp104, hq100, hput101, H⟩ := idxOff (H.pickL [4, 0, 1, 2, 3, 5, 6, 7, 8, 9, 10, 11, 12, 13, 14, 15] rfl) hx98
        obtain ⟨a106, _, rfl, _, _⟩ := H.rowElem (k := tPtr) 5 4 rfl rfl ho99 hq100
        refine idxA_rule (e := 46) 1 _ (by kernel_rfl) (by kernel_rfl) (idxL_some hx98).1 (idxL_some hx98).2.1 ?_
        obtain ⟨y107, hy108, h⟩ := bindS h
        replace H := H.someAt 0 rfl hy108
        try rw [hy108]
        rw [hy108] at hq100
        obtain ⟨cs109, hR110, hC111⟩ := H.rowElemJ (k := tPtr) 5 4 rfl rfl ho99 hq100
        replace hR110 : cs109 = [.pointer (some ⟨g102, 0, none⟩)] := hR110
        subst hR110
        refine load_at hC111 0 (by kernel_rfl) rfl ?_
        obtain ⟨y112, hy113, h⟩ := bindS h
        refine call_rule (by kernel_rfl) (rekey_Round_Key_ok (x0 := y107) H hy113) fun v115 w114 ⟨hv116, H⟩ => ?_
        subst hv116
        refine nc_seq ?_
        refine nc ?_
        obtain ⟨hr117, h⟩ := roomS h
        replace H := H.freeze (k := tStr) 7 6 rfl rfl
        refine own_appendD (k := tStr) (z := .string ⟨#[]⟩) 16 H 11 10 7 rfl rfl rfl rfl (by kernel_rfl) (by kernel_rfl) rfl rfl hr117 rfl fun z118 cs119 w120 H => ?_
        obtain ⟨A121, c122, rfl, _, _⟩ := H.rowSl 11 rfl
        refine nc_seq ?_
        refine nc ?_
        refine own_buildSlice (e := 28) (sz := 1) (z := .string ⟨#[]⟩) (cs := [.string (bs y112.1)]) H (by kernel_rfl) (by kernel_rfl) (by kernel_rfl) rfl rfl rfl rfl fun g126 w127 H => ?_
        obtain ⟨hr128, h⟩ := roomS h
        refine own_append1 (k := tStr) (z := .string ⟨#[]⟩) (x := y112.1) 16 H 11 10 rfl rfl rfl rfl (by kernel_rfl) (by kernel_rfl) rfl rfl hr128 rfl fun z129 cs130 w131 H => ?_
        obtain ⟨A132, c133, rfl, _, _⟩ := H.rowSl 11 rfl
        obtain ⟨al355, he356, H⟩ := hput81 (s' := (some y87)) (by rw [hy88]; first | done | rfl) (H.pickL [2, 3, 0, 1, 4, 5, 7, 8, 9, 10, 11, 12, 13, 14, 15, 16] rfl)
        replace H := H.datAs 6 rfl (congrArg (fun q => dRows tPtr q cs50) he356)
        have ho357 : y46.1.length = (y46.1.set ((0 : Int)).toNat (some y87)).length := by simp only [List.length_set]
        replace H := H.rowAs 7 rfl ho357
        try rw [ho357]
        obtain ⟨al358, he359, H⟩ := hput101 (s' := (some y107)) (by rw [hy108]; first | done | rfl) (H.pickL [1, 2, 0, 3, 4, 5, 6, 7, 8, 9, 10, 11, 12, 13, 14] rfl)
        replace H := H.datAs 2 rfl (congrArg (fun q => dRows tPtr q cs65) he359)
        have ho360 : y61.1.length = (y61.1.set ((0 : Int)).toNat (some y107)).length := by simp only [List.length_set]
        replace H := H.rowAs 3 rfl ho360
        try rw [ho360]
        try dsimp only [lastL, pickI, List.drop, List.take, List.set, List.eraseIdx, List.getElem?_cons_zero, List.getElem?_cons_succ, List.cons_append, List.nil_append, List.map] at H
        refine nc_cut (fun e w587 => ∃ (A578 : Option Addr) (c579 : Nat) (cs580 : List Value) (al581 : List (Nat × A_rekey_Round)) (A584 : Option Addr) (c585 : Nat) (cs586 : List Value) (v577 : List (Option O_rekey_Round)) (v583 : List (List UInt8)), gemotlaw16_RekeySecret.k7 y13 y29 y92 y112 v577 v583 = some r ∧ e = [(10, .pointer (some ⟨g26, 0, none⟩)), (11, .pointer (some ⟨g42, 0, none⟩)), (12, .slice A578 v577.length c579), (13, .slice A584 v583.length c585), (16, .string (bs y92.1)), (17, .bool y92.2), (18, .string (bs y112.1)), (19, .bool y112.2)] ∧ Eng.Own ok w w587 [.blk g26 [.int .i64 y13.1.1, .int .i64 y13.1.2, .slice A21 y13.2.length c22] 38, .dat (dSl (tInt .i64) (.slice A21 y13.2.length c22) y13.2), .blk g42 [.int .i64 y29.1.1, .int .i64 y29.1.2, .slice A37 y29.2.length c38] 38, .dat (dSl (tInt .i64) (.slice A37 y29.2.length c38) y29.2), .dat (dRows tPtr (ptrA al581 v577) cs580), .row (.slice A578 v577.length c579) 46 1 v577.length cs580, box (shelfL (objO oL_rekey_Round) al581 v577), .dat (dRows tStr v583 cs586), .row (.slice A584 v583.length c585) 28 1 v583.length cs586]) ?_ ?_
        · skip
          refine nc_seq ?_
          refine nc ?_
          refine nc_block ?_
          obtain ⟨o757, hL758, hO759⟩ := bindS h
          obtain ⟨n760, hL758⟩ := loopS hL758
          refine nc ?_
          try dsimp only [lastL, pickI, List.drop, List.take, List.set, List.eraseIdx, List.getElem?_cons_zero, List.getElem?_cons_succ, List.cons_append, List.nil_append, List.map] at H
          refine loop_ruleA (fun k e w764 => ∃ (A640 : Option Addr) (c641 : Nat) (cs642 : List Value) (al643 : List (Nat × A_rekey_Round)) (A646 : Option Addr) (c647 : Nat) (cs648 : List Value) (A652 : Option Addr) (c653 : Nat) (cs654 : List Value) (al655 : List (Nat × A_rekey_Round)) (v639 : List (Option O_rekey_Round)) (v645 : List (List UInt8)) (v651 : List (Option O_rekey_Round)) (v656 : Int), iterM (fun s766 : (List (Option O_rekey_Round)) × (List (List UInt8)) × (List (Option O_rekey_Round)) × Int => gemotlaw16_RekeySecret.b1 y13 y29 y92 y112 s766.1 s766.2.1 s766.2.2.1 s766.2.2.2) k (v639, v645, v651, v656) = some o757 ∧ e = [(10, .pointer (some ⟨g26, 0, none⟩)), (11, .pointer (some ⟨g42, 0, none⟩)), (12, .slice A640 v639.length c641), (13, .slice A646 v645.length c647), (14, .slice A652 v651.length c653), (16, .string (bs y92.1)), (17, .bool y92.2), (18, .string (bs y112.1)), (19, .bool y112.2), (20, .int .i64 v656)] ∧ Eng.Own ok w w764 [.blk g26 [.int .i64 y13.1.1, .int .i64 y13.1.2, .slice A21 y13.2.length c22] 38, .dat (dSl (tInt .i64) (.slice A21 y13.2.length c22) y13.2), .blk g42 [.int .i64 y29.1.1, .int .i64 y29.1.2, .slice A37 y29.2.length c38] 38, .dat (dSl (tInt .i64) (.slice A37 y29.2.length c38) y29.2), .dat (dRows tPtr (ptrA al643 v639) cs642), .row (.slice A640 v639.length c641) 46 1 v639.length cs642, box (shelfL (objO oL_rekey_Round) al643 v639), .dat (dRows tStr v645 cs648), .row (.slice A646 v645.length c647) 28 1 v645.length cs648, .dat (dRows tPtr (ptrA al655 v651) cs654), .row (.slice A652 v651.length c653) 46 1 v651.length cs654, box (shelfL (objO oL_rekey_Round) al655 v651)]) ⟨some a86, c49, cs50, al355, A132, c133, cs130, some a106, c64, cs65, al358, _, _, _, _, hL758, rfl, H.pickL [11, 12, 9, 10, 5, 6, 1, 7, 8, 2, 3, 0] rfl⟩ ?_
          rintro k768 _ w767 ⟨A640, c641, cs642, al643, A646, c647, cs648, A652, c653, cs654, al655, v639, v645, v651, v656, hL758, rfl, H⟩
          obtain ⟨k763, rfl, q761, h, hq762⟩ := iterS hL758
          replace h : gemotlaw16_RekeySecret.b1 y13 y29 y92 y112 v639 v645 v651 v656 = some q761 := h
          unfold gemotlaw16_RekeySecret.b1 at h
          refine nc_seq ?_
          refine nc_seq ?_
          refine nc ?_
          refine nc_cond rfl (fun hc769 => ?_) (fun hc769 => ?_)
          · replace h := condT hc769 h
            refine nc ?_
            refine nc_seq ?_
            refine nc_block ?_
            refine nc ?_
            obtain ⟨y770, hx771, h⟩ := bindS h
            have ho772 := H.objsLen 11 rfl
            obtain ⟨g775, a776, gp777, hq773, hput774, H⟩ := idxOff (H.pickL [11, 0, 1, 2, 3, 4, 5, 6, 7, 8, 9, 10] rfl) hx771
            obtain ⟨a779, _, rfl, _, _⟩ := H.rowElem (k := tPtr) 12 11 rfl rfl ho772 hq773
            refine idxA_rule (e := 46) 1 _ (by kernel_rfl) (by kernel_rfl) (idxL_some hx771).1 (idxL_some hx771).2.1 ?_
            obtain ⟨y780, hy781, h⟩ := bindS h
            replace H := H.someAt 0 rfl hy781
            try rw [hy781]
            rw [hy781] at hq773
            obtain ⟨cs782, hR783, hC784⟩ := H.rowElemJ (k := tPtr) 12 11 rfl rfl ho772 hq773
            replace hR783 : cs782 = [.pointer (some ⟨g775, 0, none⟩)] := hR783
            subst hR783
            refine load_at hC784 0 (by kernel_rfl) rfl ?_
            obtain ⟨y785, hy786, h⟩ := bindS h
            refine call_rule (by kernel_rfl) (rekey_Round_Secrets_ok (x0 := y780) H hy786) fun v791 w790 ⟨A787, c788, hv792, H⟩ => ?_
            subst hv792
            obtain ⟨hr793, h⟩ := roomS h
            refine own_appendD (k := tStr) (z := .string ⟨#[]⟩) 16 H 11 10 0 rfl rfl rfl rfl (by kernel_rfl) (by kernel_rfl) rfl rfl hr793 rfl fun z794 cs795 w796 H => ?_
            obtain ⟨A797, c798, rfl, _, _⟩ := H.rowSl 11 rfl
            refine nc ?_
            obtain ⟨al800, he801, H⟩ := hput774 (s' := (some y780)) (by rw [hy781]; first | done | rfl) (H.pickL [1, 2, 0, 3, 4, 5, 6, 7, 8, 9, 10, 11, 12, 13] rfl)
            replace H := H.datAs 11 rfl (congrArg (fun q => dRows tPtr q cs654) he801)
            have ho802 : v651.length = (v651.set (v656).toNat (some y780)).length := by simp only [List.length_set]
            replace H := H.rowAs 12 rfl ho802
            try rw [ho802]
            cases h
            exact again_inA ⟨A640, c641, cs642, al643, A797, c798, cs795, some a779, c653, cs654, al800, _, _, _, _, hq762, rfl, H.pickL [2, 3, 4, 5, 6, 7, 8, 9, 10, 11, 12, 0] rfl⟩
          · replace h := condF hc769 h
            refine nc ?_
            cases h
            replace hq762 : (v639, v645) = o757 := hq762
            subst hq762
            have h := hO759
            try dsimp only [Sum.elim_inl, Sum.elim_inr] at h
            exact cut_inA ⟨A640, c641, cs642, al643, A646, c647, cs648, _, _, h, rfl, H.pickL [0, 1, 2, 3, 4, 5, 6, 7, 8] rfl⟩
        · rintro _ w803 ⟨A578, c579, cs580, al581, A584, c585, cs586, v577, v583, h, rfl, H⟩
          unfold gemotlaw16_RekeySecret.k7 at h
          refine nc_seq ?_
          refine nc ?_
          replace H := H.freeze (k := tStr) 8 7 rfl rfl
          obtain ⟨y805, hy806, h⟩ := bindS h
          refine call_rule (by kernel_rfl) (know_Close_ok (H.dat 8 rfl) hy806) fun u811 w807 ⟨hu812, hb810⟩ => ?_
          replace H := H.callDats hb810 [dSl tStr u811 y805] ⟨hu812, trivial⟩
          obtain ⟨A813, c814, hA815, _⟩ := H.sl 0 rfl
          subst hA815
          try dsimp only [lastL, pickI, List.drop, List.take, List.set, List.eraseIdx, List.getElem?_cons_zero, List.getElem?_cons_succ, List.cons_append, List.nil_append, List.map] at H
          refine nc_cut (fun e w1897 => gemotlaw16_RekeySecret.k6 y13 y29 y92 y112 y805 = some r ∧ e = [(10, .pointer (some ⟨g26, 0, none⟩)), (11, .pointer (some ⟨g42, 0, none⟩)), (16, .string (bs y92.1)), (17, .bool y92.2), (18, .string (bs y112.1)), (19, .bool y112.2), (21, .slice A813 y805.length c814)] ∧ Eng.Own ok w w1897 [.blk g26 [.int .i64 y13.1.1, .int .i64 y13.1.2, .slice A21 y13.2.length c22] 38, .dat (dSl (tInt .i64) (.slice A21 y13.2.length c22) y13.2), .blk g42 [.int .i64 y29.1.1, .int .i64 y29.1.2, .slice A37 y29.2.length c38] 38, .dat (dSl (tInt .i64) (.slice A37 y29.2.length c38) y29.2), .dat (dSl tStr (.slice A813 y805.length c814) y805)]) ?_ ?_
          · skip
            refine nc_seq ?_
            refine nc ?_
            refine nc_block ?_
            obtain ⟨o2705, hL2706, hO2707⟩ := bindS h
            obtain ⟨n2708, hL2706⟩ := loopS hL2706
            refine nc ?_
            try dsimp only [lastL, pickI, List.drop, List.take, List.set, List.eraseIdx, List.getElem?_cons_zero, List.getElem?_cons_succ, List.cons_append, List.nil_append, List.map] at H
            refine loop_ruleA (fun k e w2712 => ∃ (A2170 : Option Addr) (c2171 : Nat) (cs2172 : List Value) (al2173 : List (Nat × A_rekey_Round)) (v2169 : List (Option O_rekey_Round)) (v2174 : Int), iterM (fun s2715 : (List (Option O_rekey_Round)) × Int => gemotlaw16_RekeySecret.b4 y13 y29 y92 y112 y805 s2715.1 s2715.2) k (v2169, v2174) = some o2705 ∧ e = [(10, .pointer (some ⟨g26, 0, none⟩)), (11, .pointer (some ⟨g42, 0, none⟩)), (12, .slice A2170 v2169.length c2171), (16, .string (bs y92.1)), (17, .bool y92.2), (18, .string (bs y112.1)), (19, .bool y112.2), (21, .slice A813 y805.length c814), (22, .int .i64 v2174)] ∧ Eng.Own ok w w2712 [.blk g26 [.int .i64 y13.1.1, .int .i64 y13.1.2, .slice A21 y13.2.length c22] 38, .dat (dSl (tInt .i64) (.slice A21 y13.2.length c22) y13.2), .blk g42 [.int .i64 y29.1.1, .int .i64 y29.1.2, .slice A37 y29.2.length c38] 38, .dat (dSl (tInt .i64) (.slice A37 y29.2.length c38) y29.2), .dat (dRows tPtr (ptrA al2173 v2169) cs2172), .row (.slice A2170 v2169.length c2171) 46 1 v2169.length cs2172, box (shelfL (objO oL_rekey_Round) al2173 v2169), .dat (dSl tStr (.slice A813 y805.length c814) y805)]) ⟨A578, c579, cs580, al581, _, _, hL2706, rfl, H.pickL [1, 2, 3, 4, 5, 6, 7, 0] rfl⟩ ?_
            rintro k2717 _ w2716 ⟨A2170, c2171, cs2172, al2173, v2169, v2174, hL2706, rfl, H⟩
            obtain ⟨k2711, rfl, q2709, h, hq2710⟩ := iterS hL2706
            replace h : gemotlaw16_RekeySecret.b4 y13 y29 y92 y112 y805 v2169 v2174 = some q2709 := h
            unfold gemotlaw16_RekeySecret.b4 at h
            refine nc_seq ?_
            refine nc_seq ?_
            refine nc ?_
            refine nc_cond rfl (fun hc2718 => ?_) (fun hc2718 => ?_)
            · replace h := condT hc2718 h
              refine nc ?_
              try dsimp only [lastL, pickI, List.drop, List.take, List.set, List.eraseIdx, List.getElem?_cons_zero, List.getElem?_cons_succ, List.cons_append, List.nil_append, List.map] at H
              refine nc_cut (fun e w2851 => ∃ (A2847 : Option Addr) (c2848 : Nat) (cs2849 : List Value) (al2850 : List (Nat × A_rekey_Round)) (v2846 : List (Option O_rekey_Round)), gemotlaw16_RekeySecret.k3 y13 y29 y92 y112 y805 v2174 v2846 = some q2709 ∧ e = [(10, .pointer (some ⟨g26, 0, none⟩)), (11, .pointer (some ⟨g42, 0, none⟩)), (12, .slice A2847 v2846.length c2848), (16, .string (bs y92.1)), (17, .bool y92.2), (18, .string (bs y112.1)), (19, .bool y112.2), (21, .slice A813 y805.length c814), (22, .int .i64 v2174)] ∧ Eng.Own ok w w2851 [.blk g26 [.int .i64 y13.1.1, .int .i64 y13.1.2, .slice A21 y13.2.length c22] 38, .dat (dSl (tInt .i64) (.slice A21 y13.2.length c22) y13.2), .blk g42 [.int .i64 y29.1.1, .int .i64 y29.1.2, .slice A37 y29.2.length c38] 38, .dat (dSl (tInt .i64) (.slice A37 y29.2.length c38) y29.2), .dat (dRows tPtr (ptrA al2850 v2846) cs2849), .row (.slice A2847 v2846.length c2848) 46 1 v2846.length cs2849, box (shelfL (objO oL_rekey_Round) al2850 v2846), .dat (dSl tStr (.slice A813 y805.length c814) y805)]) ?_ ?_
              · skip
                refine nc_block ?_
                refine nc_seq ?_
                refine nc ?_
                obtain ⟨y2853, hx2854, h⟩ := bindS h
                have ho2855 := H.objsLen 6 rfl
                obtain ⟨g2858, a2859, gp2860, hq2856, hput2857, H⟩ := idxOff (H.pickL [6, 0, 1, 2, 3, 4, 5, 7] rfl) hx2854
                obtain ⟨a2862, _, rfl, _, _⟩ := H.rowElem (k := tPtr) 7 6 rfl rfl ho2855 hq2856
                refine idxA_rule (e := 46) 1 _ (by kernel_rfl) (by kernel_rfl) (idxL_some hx2854).1 (idxL_some hx2854).2.1 ?_
                obtain ⟨y2863, hy2864, h⟩ := bindS h
                replace H := H.someAt 0 rfl hy2864
                try rw [hy2864]
                rw [hy2864] at hq2856
                obtain ⟨cs2865, hR2866, hC2867⟩ := H.rowElemJ (k := tPtr) 7 6 rfl rfl ho2855 hq2856
                replace hR2866 : cs2865 = [.pointer (some ⟨g2858, 0, none⟩)] := hR2866
                subst hR2866
                refine load_at hC2867 0 (by kernel_rfl) rfl ?_
                obtain ⟨y2868, hy2869, h⟩ := bindS h
                refine call_rule (by kernel_rfl) (rekey_Round_Secrets_ok (x0 := y2863) H hy2869) fun v2874 w2873 ⟨A2870, c2871, hv2875, H⟩ => ?_
                subst hv2875
                refine nc_seq ?_
                refine nc ?_
                refine nc_block ?_
                obtain ⟨al2876, he2877, H⟩ := hput2857 (s' := (some y2863)) (by rw [hy2864]; first | done | rfl) (H.pickL [1, 2, 0, 3, 4, 5, 6, 7, 8, 9] rfl)
                replace H := H.datAs 6 rfl (congrArg (fun q => dRows tPtr q cs2172) he2877)
                have ho2878 : v2169.length = (v2169.set (v2174).toNat (some y2863)).length := by simp only [List.length_set]
                replace H := H.rowAs 7 rfl ho2878
                try rw [ho2878]
                obtain ⟨o2951, hL2952, hO2953⟩ := bindS h
                obtain ⟨n2954, hL2952⟩ := loopS hL2952
                refine nc ?_
                try dsimp only [lastL, pickI, List.drop, List.take, List.set, List.eraseIdx, List.getElem?_cons_zero, List.getElem?_cons_succ, List.cons_append, List.nil_append, List.map] at H
                refine loop_ruleA (fun k e w2958 => ∃ (A2903 : Option Addr) (c2904 : Nat) (cs2905 : List Value) (al2906 : List (Nat × A_rekey_Round)) (v2902 : List (Option O_rekey_Round)) (v2907 : Int), iterM (fun s2961 : (List (Option O_rekey_Round)) × Int => gemotlaw16_RekeySecret.b2 y13 y29 y92 y112 y805 v2174 y2868 s2961.1 s2961.2) k (v2902, v2907) = some o2951 ∧ e = [(10, .pointer (some ⟨g26, 0, none⟩)), (11, .pointer (some ⟨g42, 0, none⟩)), (12, .slice A2903 v2902.length c2904), (16, .string (bs y92.1)), (17, .bool y92.2), (18, .string (bs y112.1)), (19, .bool y112.2), (21, .slice A813 y805.length c814), (22, .int .i64 v2174), (23, .slice A2870 y2868.length c2871), (24, .int .i64 v2907)] ∧ Eng.Own ok w w2958 [.blk g26 [.int .i64 y13.1.1, .int .i64 y13.1.2, .slice A21 y13.2.length c22] 38, .dat (dSl (tInt .i64) (.slice A21 y13.2.length c22) y13.2), .blk g42 [.int .i64 y29.1.1, .int .i64 y29.1.2, .slice A37 y29.2.length c38] 38, .dat (dSl (tInt .i64) (.slice A37 y29.2.length c38) y29.2), .dat (dRows tPtr (ptrA al2906 v2902) cs2905), .row (.slice A2903 v2902.length c2904) 46 1 v2902.length cs2905, box (shelfL (objO oL_rekey_Round) al2906 v2902), .dat (dSl tStr (.slice A813 y805.length c814) y805), .dat (dSl tStr (.slice A2870 y2868.length c2871) y2868)]) ⟨some a2862, c2171, cs2172, al2876, _, _, hL2952, rfl, H.pickL [2, 3, 4, 5, 6, 7, 0, 8, 1] rfl⟩ ?_
                rintro k2963 _ w2962 ⟨A2903, c2904, cs2905, al2906, v2902, v2907, hL2952, rfl, H⟩
                obtain ⟨k2957, rfl, q2955, h, hq2956⟩ := iterS hL2952
                replace h : gemotlaw16_RekeySecret.b2 y13 y29 y92 y112 y805 v2174 y2868 v2902 v2907 = some q2955 := h
                unfold gemotlaw16_RekeySecret.b2 at h
                refine nc_seq ?_
                refine nc_seq ?_
                refine nc ?_
                refine nc_cond rfl (fun hc2964 => ?_) (fun hc2964 => ?_)
                · replace h := condT hc2964 h
                  refine nc ?_
                  refine nc_seq ?_
                  refine nc_block ?_
                  refine nc_seq ?_
                  refine nc ?_
                  obtain ⟨y2965, hx2966, h⟩ := bindS h
                  obtain ⟨a2967, cs2968, rfl, hR2969, H⟩ := H.elemI 8 rfl hx2966
                  obtain rfl : cs2968 = [.string (bs y2965)] := hR2969
                  refine idxA_rule (e := 28) 1 _ (by kernel_rfl) (by kernel_rfl) (idxL_some hx2966).1 (idxL_some hx2966).2.1 ?_
                  refine own_loadD H 0 rfl 0 (by kernel_rfl) rfl ?_
                  obtain ⟨y2971, hy2972, h⟩ := bindS h
                  refine call_rule (by kernel_rfl) (know_Derives_ok (H.dat 8 rfl) hy2972) fun v2974 w2973 ⟨hv2975, hb2976⟩ => ?_
                  subst hv2975
                  replace H := H.call hb2976
                  refine nc_cond rfl (fun hc2977 => ?_) (fun hc2977 => ?_)
                  · replace h := condT hc2977 h
                    refine nc_seq ?_
                    refine nc ?_
                    refine nc ?_
                    cases h
                    replace hq2956 : (Sum.inr false) = o2951 := hq2956
                    subst hq2956
                    have h := hO2953
                    try dsimp only [Sum.elim_inl, Sum.elim_inr] at h
                    cases h
                    replace hq2710 : (Sum.inr false) = o2705 := hq2710
                    subst hq2710
                    have h := hO2707
                    try dsimp only [Sum.elim_inl, Sum.elim_inr] at h
                    replace h := Option.some.inj h
                    subst h
                    exact ret_inA [.bool false] ⟨_, rfl, ⟨rfl, H.frame⟩⟩
                  · replace h := condF hc2977 h
                    refine nc ?_
                    refine nc ?_
                    cases h
                    exact again_inA ⟨A2903, c2904, cs2905, al2906, _, _, hq2956, rfl, H.pickL [1, 2, 3, 4, 5, 6, 7, 8, 9] rfl⟩
                · replace h := condF hc2964 h
                  refine nc ?_
                  cases h
                  replace hq2956 : (Sum.inl v2902) = o2951 := hq2956
                  subst hq2956
                  have h := hO2953
                  try dsimp only [Sum.elim_inl, Sum.elim_inr] at h
                  exact cut_inA ⟨A2903, c2904, cs2905, al2906, _, h, rfl, H.pickL [0, 1, 2, 3, 4, 5, 6, 7] rfl⟩
              · rintro _ w2978 ⟨A2847, c2848, cs2849, al2850, v2846, h, rfl, H⟩
                unfold gemotlaw16_RekeySecret.k3 at h
                refine nc ?_
                cases h
                exact again_inA ⟨A2847, c2848, cs2849, al2850, _, _, hq2710, rfl, H.pickL [0, 1, 2, 3, 4, 5, 6, 7] rfl⟩
            · replace h := condF hc2718 h
              refine nc ?_
              cases h
              replace hq2710 : (Sum.inl ()) = o2705 := hq2710
              subst hq2710
              have h := hO2707
              try dsimp only [Sum.elim_inl, Sum.elim_inr] at h
              exact cut_inA ⟨h, rfl, H.pickL [0, 1, 2, 3, 7] rfl⟩
          · rintro _ w2979 ⟨h, rfl, H⟩
            unfold gemotlaw16_RekeySecret.k6 at h
            try dsimp only [lastL, pickI, List.drop, List.take, List.set, List.eraseIdx, List.getElem?_cons_zero, List.getElem?_cons_succ, List.cons_append, List.nil_append, List.map] at H
            refine nc_cut (fun e w3002 => ∃ (v3001 : Bool), gemotlaw16_RekeySecret.k5 v3001 = some r ∧ e = [(8, .bool v3001)] ∧ Eng.Own ok w w3002 []) ?_ ?_
            · skip
              refine nc ?_
              rcases Bool.eq_false_or_eq_true (cond (cond y92.2 y112.2 false) (!(strEq y92.1 y112.1)) false) with hg3004 | hg3004
              · replace h := condT hg3004 h
                obtain ⟨y3005, hy3006, h⟩ := bindS h
                refine call_yes (gT1 hg3004 rfl) (by kernel_rfl) (know_Derives_ok (H.dat 4 rfl) hy3006) fun v3008 w3007 ⟨hv3009, hb3010⟩ => ?_
                subst hv3009
                replace H := H.call hb3010
                rcases Bool.eq_false_or_eq_true (!y3005) with hg3011 | hg3011
                · replace h := condT hg3011 h
                  obtain ⟨y3012, hy3013, h⟩ := bindS h
                  refine call_yes (gT1 ((pickT hg3004).trans hg3011) rfl) (by kernel_rfl) (know_Derives_ok (H.dat 4 rfl) hy3013) fun v3015 w3014 ⟨hv3016, hb3017⟩ => ?_
                  subst hv3016
                  replace H := H.call hb3017
                  refine own_load H 0 rfl (by kernel_rfl) (j := 2) rfl ?_
                  refine own_load H 2 rfl (by kernel_rfl) (j := 2) rfl ?_
                  rcases Bool.eq_false_or_eq_true y3012 with hg3018 | hg3018
                  · replace h := condT hg3018 h
                    obtain ⟨y3019, hy3020, h⟩ := bindS h
                    refine call_yes (gT1 ((pickT ((pickT hg3004).trans hg3011)).trans hg3018) rfl) (by kernel_rfl) (gemotref10_Same_ok (H.dat 1 rfl) (H.dat 3 rfl) hy3020) fun v3022 w3021 ⟨hv3023, hb3024⟩ => ?_
                    subst hv3023
                    replace H := H.call hb3024
                    exact cut_inA ⟨_, h, rfl, H.pickL [] rfl⟩
                  · replace h := condF hg3018 h
                    refine call_skip (.bool false) (gF1 ((pickT ((pickT hg3004).trans hg3011)).trans hg3018)) ?_
                    exact cut_inA ⟨_, h, rfl, H.pickL [] rfl⟩
                · replace h := condF hg3011 h
                  refine call_skip (.bool false) (gF1 ((pickT hg3004).trans hg3011)) ?_
                  refine skipLD (.slice none 0 0) (gF1 (pickF ((pickT hg3004).trans hg3011))) ?_
                  refine skipLD (.slice none 0 0) (gF1 (pickF ((pickT hg3004).trans hg3011))) ?_
                  refine call_skip (.bool false) (gF1 (pickF ((pickT hg3004).trans hg3011))) ?_
                  exact cut_inA ⟨_, h, rfl, H.pickL [] rfl⟩
              · replace h := condF hg3004 h
                refine call_skip (.bool false) (gF1 hg3004) ?_
                refine call_skip (.bool false) (gF1 (pickF hg3004)) ?_
                refine skipLD (.slice none 0 0) (gF1 (pickF (pickF hg3004))) ?_
                refine skipLD (.slice none 0 0) (gF1 (pickF (pickF hg3004))) ?_
                refine call_skip (.bool false) (gF1 (pickF (pickF hg3004))) ?_
                exact cut_inA ⟨_, h, rfl, H.pickL [] rfl⟩
            · rintro _ w3025 ⟨v3001, h, rfl, H⟩
              unfold gemotlaw16_RekeySecret.k5 at h
              refine nc ?_
              replace h := Option.some.inj h
              subst h
              exact ret_inA [.bool v3001] ⟨_, rfl, ⟨rfl, H.frame⟩⟩
end Go.Proofs.YtfapphlhkfddoaaGreatDoor.G
