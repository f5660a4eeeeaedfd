/- BlindMeet, as it is reckoned. -/
import Derived.Test.YtfapphlhkfddoaaGreatDoorClimbR
namespace Go.Proofs.YtfapphlhkfddoaaGreatDoor.G
open Go.RowKit Go.Eng Go.Proofs Go.Proofs.YtfapphlhkfddoaaGreatDoor.Cut
set_option linter.unusedVariables false
set_option linter.unusedSimpArgs false

theorem bmeet_round {T : Tr} (hk : T.ok) (hn : T.leavesR.Nodup) {m : List Int} {first : Int} (hml : m.length ≤ 1000) (hm : ∀ x ∈ m, x ∈ T.leavesR) {l : List D_blind_Blind} (hl : l = blindsM T (nmOf m first)) {i : Nat} (hi : i < m.length) :
    gemotlaw15_BlindMeet.b2 T.text m (m.map (nmOf m first)) (secT (nmOf m first) T, 0) l (i : Int) = some (.inl (((i + 1 : Nat) : Int))) := by
  obtain ⟨π, hπ⟩ := leaf_path (hm _ (List.getElem_mem hi))
  have h8 := leaves_eight hk hn
  have hpl := pathL_len T _ π hπ
  obtain ⟨h1, h2⟩ := path_of hk hn hπ
  have hbl := blinds_len hk hn (nmOf m first)
  have hc := climb_eq hk hn (by rw [hl]; exact blinds_right T _) (show l.length ≤ 10000 by rw [hl]; omega) hπ
  rw [hl, res_all hk hn _ hπ π.length (by omega), ← upT_upD, ← hl] at hc
  have hx : idxL (m.map (nmOf m first)) (i : Int) = some (nmOf m first m[i]) := by
    rw [idxL_nat, List.getElem?_map, List.getElem?_eq_getElem hi]; rfl
  have hlen : ((upT π).map (secAt T (nmOf m first))).length = π.length + 1 := by rw [List.length_map, up_len]
  have g0 : idxL ((upT π).map (secAt T (nmOf m first))) (0 : Int) = some (nmOf m first m[i]) := by
    have := up_get (n := π) (j := 0) (by omega)
    rw [idxL_nat] at this
    have h0 : idxL ((upT π).map (secAt T (nmOf m first))) ((0 : Nat) : Int) = _ := idxL_nat _ _
    rw [show (0 : Int) = ((0 : Nat) : Int) from rfl, h0, List.getElem?_map, this]
    show some (secAt T _ (π.take (π.length - 0))) = _
    rw [Nat.sub_zero, List.take_length, secAt_in (path_leafAt T _ π hπ).1]; rfl
  have gl : idxL ((upT π).map (secAt T (nmOf m first))) (π.length : Int) = some (secT (nmOf m first) T) := by
    have := up_get (n := π) (j := π.length) (by omega)
    rw [idxL_nat] at this
    rw [idxL_nat, List.getElem?_map, this]
    show some (secAt T _ (π.take (π.length - π.length))) = _
    rw [Nat.sub_self, List.take_zero, secAt_in (subT_nil T)]
  have hw : IntKind.i64.wrap ((((upT π).map (secAt T (nmOf m first))).length : Int) - (1 : Int)) = (π.length : Int) := by rw [hlen, Eng.i64_id (by omega) (by omega)]; omega
  unfold gemotlaw15_BlindMeet.b2
  rw [cond_t (by omega), idxL_lt hi, Option.bind_some, hx, Option.bind_some, hc, Option.bind_some, Option.bind_some, h1, Option.bind_some, hw, g0, gl, up_len, hlen]
  simp only [Option.bind_some, strEq_eq]
  unfold gemotlaw15_BlindMeet.k1
  simp
  exact wrap1 i (by omega)
theorem bmeet_law {x0 : List Int} (h0 : ∀ x ∈ x0, inI64 x) (x1 : Int) : gemotlaw15_BlindMeet.f x0 x1 = some true := by
  obtain ⟨T, hk, hn, hT⟩ := made_is h0
  have h8 := leaves_eight hk hn
  have hpos := leavesR_pos T
  have hsl := sortZ_len T.leavesR
  have hbl := blinds_len hk hn (nmOf (sortZ T.leavesR) x1)
  unfold gemotlaw15_BlindMeet.f
  rw [shown15, Option.bind_some, Bool.not_true, cond_false, hT, Option.bind_some, members_of hk hn, Option.bind_some, secrets_of hk hn, Option.bind_some, root_of hk hn, Option.bind_some, blinds_eq hk hn, Option.bind_some]
  have hw : IntKind.i64.wrap ((IntKind.i64.wrap ((2 : Int) * ((sortZ T.leavesR).length : Int))) - (2 : Int)) = ((blindsM T (nmOf (sortZ T.leavesR) x1)).length : Int) := by
    rw [Eng.i64_id (x := (2 : Int) * _) (by omega) (by omega), Eng.i64_id (by omega) (by omega)]; omega
  rw [hw]
  have hL : loopM (fun s1372 : Int => gemotlaw15_BlindMeet.b2 T.text (sortZ T.leavesR) ((sortZ T.leavesR).map (nmOf (sortZ T.leavesR) x1)) (secT (nmOf (sortZ T.leavesR) x1) T, 0) (blindsM T (nmOf (sortZ T.leavesR) x1)) s1372) (0 : Int) = some (Sum.inl ()) := by
    refine loop_count (fun i => (i : Int)) (sortZ T.leavesR).length (fun i hi => ?_) ?_
    · exact bmeet_round hk hn (by omega) (fun x hx => (sortZ_perm _).mem_iff.1 hx) rfl hi
    · show gemotlaw15_BlindMeet.b2 _ _ _ _ _ ((sortZ T.leavesR).length : Int) = _
      unfold gemotlaw15_BlindMeet.b2
      rw [cond_f (by omega)]
  rw [hL]
  show cond (cond ((0 : Int) != 0) true _) _ _ = _
  simp [gemotlaw15_BlindMeet.k3]
theorem bmeet_row {ok : Nat → Prop} {w : World} {u0 : Value} {x0 : List Int} {x1 : Int} (hu : slR (tInt .i64) w ok u0 x0) (h0 : ∀ x ∈ x0, inI64 x) :
    Calls Tryz.prog 9 #[u0, .int .u64 x1] w fun e w' => ∃ r, e = .returned r ∧ r = .bool true ∧ Below w.heap.size w w' :=
  (gemotlaw15_BlindMeet_ok hu (bmeet_law h0 x1)).mono fun e w' ⟨v, h1, h2, h3⟩ => ⟨v, h1, h2, h3.toBelow⟩
end Go.Proofs.YtfapphlhkfddoaaGreatDoor.G
