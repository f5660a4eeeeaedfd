/- The nodes of a tree, one behind the other. -/
import Derived.Test.YtfapphlhkfddoaaDoorTreeText
namespace Go.Proofs.YtfapphlhkfddoaaDoor.G
open Go.RowKit Go.Eng Go.Proofs Go.Proofs.YtfapphlhkfddoaaDoor.Cut
set_option linter.unusedVariables false
set_option maxRecDepth 20000
variable {ok : Nat → Prop} {w0 w : World} {L R : List Eng.Item}

theorem below_own {node t : List UInt8} (H : Eng.Own ok w0 w L) :
    Calls Tryd.prog 28 #[.string (bs node), .string (bs t)] w fun e w' => ∃ v, e = .returned v ∧ ∃ bn bt, v = .func (.func 45) #[] #[.pointer (some ⟨bn, 0, none⟩), .pointer (some ⟨bt, 0, none⟩)] ∧ Eng.Own ok w0 w' ([.blk bn [.string (bs node)] 9, .blk bt [.string (bs t)] 24] ++ L) := by
  refine enterN (args := [.string (bs node), .string (bs t)]) Tryd.func28 rfl Tryd.ntmps28 rfl rfl ?_
  refine Eng.nc_seq ?_
  refine nc ?_
  refine own_box H [.string (bs node)] rfl fun bn w1 H => ?_
  refine own_box H [.string (bs t)] rfl fun bt w2 H => ?_
  refine Eng.nc_seq ?_
  refine nc ?_
  refine nc ?_
  exact ret_inA [_] ⟨_, rfl, bn, bt, rfl, order_own (A := [_, _]) H [1, 0] (by show (List.range 2).Perm _; decide)⟩
abbrev enc2 (x : List UInt8 × List UInt8) : List Value := [.string (bs x.1), .string (bs x.2)]
theorem bool_not_true {g : Bool} : g = true ∨ g = false := by cases g <;> simp
set_option maxHeartbeats 8000000 in
theorem below_iter : ∀ (T : Tr) (pre : List UInt8) (bn bt : Nat), T.ok → pre.length + T.text.length ≤ 1000000 → ∀ {ok : Nat → Prop} {w0 : World},
    IterAt Tryd.prog ok w0 45 #[.pointer (some ⟨bn, 0, none⟩), .pointer (some ⟨bt, 0, none⟩)] enc2 (fun l => l = nodesT pre T) (fun p => ∃ rest, p ++ rest = nodesT pre T) [.blk bn [.string (bs pre)] 9, .blk bt [.string (bs T.text)] 24] := by
  intro T
  induction T with
  | leaf p =>
    intro pre bn bt hok hlen ok w0 lp I Ix hY W L h0 H
    have ea : (#[Value.func (.yield lp) #[] #[]] ++ #[Value.pointer (some ⟨bn, 0, none⟩), .pointer (some ⟨bt, 0, none⟩)] : Array Value) = [Value.func (.yield lp) #[] #[], .pointer (some ⟨bn, 0, none⟩), .pointer (some ⟨bt, 0, none⟩)].toArray := rfl
    rw [ea]
    refine enterN (args := [.func (.yield lp) #[] #[], .pointer (some ⟨bn, 0, none⟩), .pointer (some ⟨bt, 0, none⟩)]) Tryd.func45 rfl Tryd.ntmps45 rfl rfl ?_
    refine Eng.nc_seq ?_
    refine nc ?_
    refine own_box H [.func (.yield lp) #[] #[]] rfl fun by_ w1 H => ?_
    refine Eng.nc_seq ?_
    refine Eng.nc_seq ?_
    refine nc ?_
    refine own_load H 0 rfl (by kernel_rfl) (j := 0) rfl ?_
    refine own_load H 1 rfl (by kernel_rfl) (j := 0) rfl ?_
    refine own_load H 2 rfl (by kernel_rfl) (j := 0) rfl ?_
    have hnil : nodesT pre (Tr.leaf p) = [(pre, (Tr.leaf p).text)] := rfl
    refine yield_rule (hY [.blk by_ [.func (.yield lp) #[] #[]] 65, .blk bn [.string (bs pre)] 9, .blk bt [.string (bs (Tr.leaf p).text)] 24] [] (pre, (Tr.leaf p).text) L _ ⟨[], rfl⟩ h0 (Eng.Own.swap (A := [_, _, _]) H)) fun v w2 hv => ?_
    rcases hv with ⟨rfl, L2, hI2, H⟩ | ⟨rfl, L2, hI2, H⟩
    · replace H : Eng.Own ok w0 w2 (.blk by_ [.func (.yield lp) #[] #[]] 65 :: .blk bn [.string (bs pre)] 9 :: .blk bt [.string (bs (Tr.leaf p).text)] 24 :: L2) := Eng.Own.swap (B := [_, _, _]) H
      refine Eng.nc_cond (b := false) rfl (fun hc => ?_) (fun hc => ?_)
      · cases hc
      refine nc ?_
      refine Eng.nc_seq ?_
      refine nc ?_
      refine own_load H 2 rfl (by kernel_rfl) (j := 0) rfl ?_
      refine call_rule (by kernel_rfl) (halves_calls (s := (Tr.leaf p).text) (by omega) (text_ascii _ hok)) fun v w3 ⟨hv, hb3⟩ => ?_
      subst hv
      replace H := H.call hb3
      rw [halves_leaf]
      refine Eng.nc_seq ?_
      refine nc ?_
      refine Eng.nc_cond (b := true) rfl (fun hc => ?_) (fun hc => ?_)
      · refine nc ?_
        exact ret_inA [] ⟨_, rfl, .inl ⟨[(pre, (Tr.leaf p).text)], L2, hnil, hI2, H.tail⟩⟩
      · cases hc
    · replace H : Eng.Own ok w0 w2 (.blk by_ [.func (.yield lp) #[] #[]] 65 :: .blk bn [.string (bs pre)] 9 :: .blk bt [.string (bs (Tr.leaf p).text)] 24 :: L2) := Eng.Own.swap (B := [_, _, _]) H
      refine Eng.nc_cond (b := true) rfl (fun hc => ?_) (fun hc => ?_)
      · refine nc ?_
        exact ret_inA [] ⟨_, rfl, .inr ⟨[(pre, (Tr.leaf p).text)], L2, ⟨[], rfl⟩, hI2, H.tail⟩⟩
      · cases hc
  | two l r ihl ihr =>
    intro pre bn bt hok hlen ok w0 lp I Ix hY W L h0 H
    have ea : (#[Value.func (.yield lp) #[] #[]] ++ #[Value.pointer (some ⟨bn, 0, none⟩), .pointer (some ⟨bt, 0, none⟩)] : Array Value) = [Value.func (.yield lp) #[] #[], .pointer (some ⟨bn, 0, none⟩), .pointer (some ⟨bt, 0, none⟩)].toArray := rfl
    rw [ea]
    generalize hX : (pre, (Tr.two l r).text) = x0 at *
    have hx1 : x0.1 = pre := by rw [← hX]
    have hx2 : x0.2 = (Tr.two l r).text := by rw [← hX]
    have hnodes : nodesT pre (Tr.two l r) = x0 :: (nodesT (pre ++ [108]) l ++ nodesT (pre ++ [114]) r) := by rw [← hX]; rfl
    have hlen2 : pre.length + (l.text.length + r.text.length + 2) ≤ 1000000 := by simp only [Tr.text, List.length_cons, List.length_append, List.length_nil] at hlen; omega
    refine enterN (args := [.func (.yield lp) #[] #[], .pointer (some ⟨bn, 0, none⟩), .pointer (some ⟨bt, 0, none⟩)]) Tryd.func45 rfl Tryd.ntmps45 rfl rfl ?_
    refine Eng.nc_seq ?_
    refine nc ?_
    refine own_box H [.func (.yield lp) #[] #[]] rfl fun by_ w1 H => ?_
    refine Eng.nc_seq ?_
    refine Eng.nc_seq ?_
    refine nc ?_
    refine own_load H 0 rfl (by kernel_rfl) (j := 0) rfl ?_
    refine own_load H 1 rfl (by kernel_rfl) (j := 0) rfl ?_
    refine own_load H 2 rfl (by kernel_rfl) (j := 0) rfl ?_
    have hyield : ∀ {K : Value → World → Prop} {W : World} {Lo T' : List Eng.Item} {p : List (List UInt8 × List UInt8)} {x : List UInt8 × List UInt8}, (∃ rest, (p ++ [x]) ++ rest = nodesT pre (Tr.two l r)) → I p Lo → Eng.Own ok w0 W (Lo ++ T') →
        (∀ v w', ((v = .bool true ∧ ∃ L', I (p ++ [x]) L' ∧ Eng.Own ok w0 w' (L' ++ T')) ∨ (v = .bool false ∧ ∃ L', Ix (p ++ [x]) L' ∧ Eng.Own ok w0 w' (L' ++ T'))) → K v w') → nCallV Tryd.prog true (.func (.yield lp) #[] #[]) (enc2 x) W K := fun h1 h2 h3 hk => yield_rule (hY _ _ _ _ _ h1 h2 h3) hk
    have hargs : ([.string (bs pre), .string (bs (Tr.two l r).text)] : List Value) = enc2 x0 := by rw [← hX]
    refine (show ∀ {K : Value → World → Prop}, nCallV Tryd.prog true (.func (.yield lp) #[] #[]) (enc2 x0) w1 K → nCallV Tryd.prog true (.func (.yield lp) #[] #[]) [.string (bs pre), .string (bs (Tr.two l r).text)] w1 K from fun h => by rw [hargs]; exact h) ?_
    refine hyield (p := []) ⟨nodesT (pre ++ [108]) l ++ nodesT (pre ++ [114]) r, hnodes.symm⟩ h0 (Eng.Own.swap (A := [_, _, _]) H) fun v w2 hv => ?_
    rcases hv with ⟨rfl, L2, hI2, H⟩ | ⟨rfl, L2, hI2, H⟩
    · replace H : Eng.Own ok w0 w2 (.blk by_ [.func (.yield lp) #[] #[]] 65 :: .blk bn [.string (bs pre)] 9 :: .blk bt [.string (bs (Tr.two l r).text)] 24 :: L2) := Eng.Own.swap (B := [_, _, _]) H
      refine Eng.nc_cond (b := false) rfl (fun hc => ?_) (fun hc => ?_)
      · cases hc
      refine nc ?_
      refine Eng.nc_seq ?_
      refine nc ?_
      refine own_load H 2 rfl (by kernel_rfl) (j := 0) rfl ?_
      refine call_rule (by kernel_rfl) (halves_calls (s := (Tr.two l r).text) (by omega) (text_ascii _ hok)) fun v w3 ⟨hv, hb3⟩ => ?_
      subst hv
      replace H := H.call hb3
      rw [halves_two hok]
      refine Eng.nc_seq ?_
      refine nc ?_
      refine Eng.nc_cond (b := false) rfl (fun hc => ?_) (fun hc => ?_)
      · cases hc
      refine nc ?_
      refine nc_cutD (fun ds e w' => ∃ D L3, ds = [D] ∧ I (x0 :: nodesT (pre ++ [108]) l) L3 ∧ e = [(1, .pointer (some ⟨bn, 0, none⟩)), (2, .pointer (some ⟨bt, 0, none⟩)), (3, .pointer (some ⟨by_, 0, none⟩)), (5, .string (bs r.text))] ∧ Eng.Own ok w0 w' (.obj D isDef :: .blk by_ [.func (.yield lp) #[] #[]] 65 :: .blk bn [.string (bs pre)] 9 :: .blk bt [.string (bs (Tr.two l r).text)] 24 :: L3)) ?_ ?_
      · refine Eng.nc_seq ?_
        refine nc ?_
        refine own_load H 1 rfl (by kernel_rfl) (j := 0) rfl ?_
        refine catM_rule (a := pre) (b := [108]) (by simp; omega) ?_
        refine call_rule (by kernel_rfl) (below_own H) fun v w4 ⟨bn2, bt2, hv, H⟩ => ?_
        subst hv
        have H0 : Eng.Own ok w0 w4 ([.blk bn2 [.string (bs (pre ++ [108]))] 9, .blk bt2 [.string (bs l.text)] 24] ++ (.blk by_ [.func (.yield lp) #[] #[]] 65 :: .blk bn [.string (bs pre)] 9 :: .blk bt [.string (bs (Tr.two l r).text)] 24 :: L2)) := H
        refine Eng.nc_block ?_
        refine range_rule (I := fun p1 L1 => ∃ Lo, I ([x0] ++ p1) Lo ∧ L1 = .blk by_ [.func (.yield lp) #[] #[]] 65 :: .blk bn [.string (bs pre)] 9 :: .blk bt [.string (bs (Tr.two l r).text)] 24 :: Lo) (Ix := fun c p1 L1 => c = .ret ∧ ∃ Lo, Ix ([x0] ++ p1) Lo ∧ L1 = .blk by_ [.func (.yield lp) #[] #[]] 65 :: .blk bn [.string (bs pre)] 9 :: .blk bt [.string (bs (Tr.two l r).text)] 24 :: Lo) rfl (by kernel_rfl) (fun _ => rfl) rfl (ihl (pre ++ [108]) bn2 bt2 hok.1 (by rw [List.length_append]; simp; omega)) H0 ⟨L2, hI2, rfl⟩ ?_ ?_ ?_
        · rintro l1 φ T1 p1 x L1 W1 hφ ⟨rest, hrest⟩ ⟨Lo, hIo, rfl⟩ H
          refine Eng.nc_seq ?_
          refine nc ?_
          refine nc ?_
          refine rGo_in (.blk by_ [.func (.yield lp) #[] #[]] 65 :: .blk bn [.string (bs pre)] 9 :: .blk bt [.string (bs (Tr.two l r).text)] 24 :: Lo) H fun w5 φ2 hφ2 H => ?_
          refine Eng.nc_block ?_
          refine Eng.nc_seq ?_
          refine nc ?_
          refine own_load H 0 rfl (by kernel_rfl) (j := 0) rfl ?_
          refine hyield (p := [x0] ++ p1) (x := x) (Lo := Lo) (T' := [.blk by_ [.func (.yield lp) #[] #[]] 65, .blk bn [.string (bs pre)] 9, .blk bt [.string (bs (Tr.two l r).text)] 24] ++ .obj l1 φ2 :: T1) ⟨rest ++ nodesT (pre ++ [114]) r, ?_⟩ hIo ?_ fun v w6 hv => ?_
          · rw [hnodes, ← hrest]; simp
          · exact H.perm (List.perm_append_comm_assoc [_, _, _] Lo _)
          have hback : ∀ {Lo' : List Eng.Item} {w' : World}, Eng.Own ok w0 w' (Lo' ++ ([.blk by_ [.func (.yield lp) #[] #[]] 65, .blk bn [.string (bs pre)] 9, .blk bt [.string (bs (Tr.two l r).text)] 24] ++ .obj l1 φ2 :: T1)) → Eng.Own ok w0 w' ((.blk by_ [.func (.yield lp) #[] #[]] 65 :: .blk bn [.string (bs pre)] 9 :: .blk bt [.string (bs (Tr.two l r).text)] 24 :: Lo') ++ .obj l1 φ2 :: T1) := fun h => h.perm (List.perm_append_comm_assoc _ [_, _, _] _)
          rcases hv with ⟨rfl, Lo2, hIo2, H⟩ | ⟨rfl, Lo2, hIo2, H⟩
          · refine Eng.nc_cond (b := false) rfl (fun hc => ?_) (fun hc => ?_)
            · cases hc
            refine nc ?_
            exact rEnd_in _ ⟨Lo2, by rw [← List.append_assoc]; exact hIo2, rfl⟩ (hback H)
          · refine Eng.nc_cond (b := true) rfl (fun hc => ?_) (fun hc => ?_)
            · refine nc ?_
              exact rEnd_in _ ⟨rfl, Lo2, by rw [← List.append_assoc]; exact hIo2, rfl⟩ (hback H)
            · cases hc
        · rintro D W1 L1 xs rfl ⟨Lo, hIo, rfl⟩ H
          refine cutD_in (e' := [(1, .pointer (some ⟨bn, 0, none⟩)), (2, .pointer (some ⟨bt, 0, none⟩)), (3, .pointer (some ⟨by_, 0, none⟩)), (5, .string (bs r.text))]) ⟨rfl, rfl, rfl, rfl, trivial⟩ ⟨D, Lo, rfl, hIo, rfl, H.less (List.Sublist.cons_cons _ (List.Sublist.cons _ (List.Sublist.cons _ (List.Sublist.refl _))))⟩
        · rintro D W1 L1 p1 c ⟨rest, hrest⟩ ⟨rfl, Lo, hIo, rfl⟩ H
          refine nc ?_
          refine ret_own H 0 rfl fun w' H => ?_
          refine ret_inA [] ⟨_, rfl, .inr ⟨[x0] ++ p1, Lo, ⟨rest ++ nodesT (pre ++ [114]) r, ?_⟩, hIo, H.less (List.Sublist.cons _ (List.Sublist.cons _ (List.Sublist.cons _ (List.Sublist.cons _ (List.Sublist.refl _)))))⟩⟩
          rw [hnodes, ← hrest]; simp
      · rintro _ _ w3 ⟨D0, L3, rfl, hI3, rfl, H⟩
        refine Eng.nc_seq ?_
        refine nc ?_
        refine own_load H 2 rfl (by kernel_rfl) (j := 0) rfl ?_
        refine catM_rule (a := pre) (b := [114]) (by simp; omega) ?_
        refine call_rule (by kernel_rfl) (below_own H) fun v w4 ⟨bn2, bt2, hv, H⟩ => ?_
        subst hv
        have H0 : Eng.Own ok w0 w4 ([.blk bn2 [.string (bs (pre ++ [114]))] 9, .blk bt2 [.string (bs r.text)] 24] ++ (.obj D0 isDef :: .blk by_ [.func (.yield lp) #[] #[]] 65 :: .blk bn [.string (bs pre)] 9 :: .blk bt [.string (bs (Tr.two l r).text)] 24 :: L3)) := H
        refine Eng.nc_block ?_
        refine range_rule (I := fun p1 L1 => ∃ Lo, I ((x0 :: nodesT (pre ++ [108]) l) ++ p1) Lo ∧ L1 = .obj D0 isDef :: .blk by_ [.func (.yield lp) #[] #[]] 65 :: .blk bn [.string (bs pre)] 9 :: .blk bt [.string (bs (Tr.two l r).text)] 24 :: Lo) (Ix := fun c p1 L1 => c = .ret ∧ ∃ Lo, Ix ((x0 :: nodesT (pre ++ [108]) l) ++ p1) Lo ∧ L1 = .obj D0 isDef :: .blk by_ [.func (.yield lp) #[] #[]] 65 :: .blk bn [.string (bs pre)] 9 :: .blk bt [.string (bs (Tr.two l r).text)] 24 :: Lo) rfl (by kernel_rfl) (fun _ => rfl) rfl (ihr (pre ++ [114]) bn2 bt2 hok.2 (by rw [List.length_append]; simp; omega)) H0 ⟨L3, (by rw [List.append_nil]; exact hI3), rfl⟩ ?_ ?_ ?_
        · rintro l1 φ T1 p1 x L1 W1 hφ ⟨rest, hrest⟩ ⟨Lo, hIo, rfl⟩ H
          refine Eng.nc_seq ?_
          refine nc ?_
          refine nc ?_
          refine rGo_in (.obj D0 isDef :: .blk by_ [.func (.yield lp) #[] #[]] 65 :: .blk bn [.string (bs pre)] 9 :: .blk bt [.string (bs (Tr.two l r).text)] 24 :: Lo) H fun w5 φ2 hφ2 H => ?_
          refine Eng.nc_block ?_
          refine Eng.nc_seq ?_
          refine nc ?_
          refine own_load H 1 rfl (by kernel_rfl) (j := 0) rfl ?_
          refine hyield (p := (x0 :: nodesT (pre ++ [108]) l) ++ p1) (x := x) (Lo := Lo) (T' := [.obj D0 isDef, .blk by_ [.func (.yield lp) #[] #[]] 65, .blk bn [.string (bs pre)] 9, .blk bt [.string (bs (Tr.two l r).text)] 24] ++ .obj l1 φ2 :: T1) ⟨rest, ?_⟩ hIo ?_ fun v w6 hv => ?_
          · rw [hnodes, ← hrest]; simp
          · exact H.perm (List.perm_append_comm_assoc [_, _, _, _] Lo _)
          have hback : ∀ {Lo' : List Eng.Item} {w' : World}, Eng.Own ok w0 w' (Lo' ++ ([.obj D0 isDef, .blk by_ [.func (.yield lp) #[] #[]] 65, .blk bn [.string (bs pre)] 9, .blk bt [.string (bs (Tr.two l r).text)] 24] ++ .obj l1 φ2 :: T1)) → Eng.Own ok w0 w' ((.obj D0 isDef :: .blk by_ [.func (.yield lp) #[] #[]] 65 :: .blk bn [.string (bs pre)] 9 :: .blk bt [.string (bs (Tr.two l r).text)] 24 :: Lo') ++ .obj l1 φ2 :: T1) := fun h => h.perm (List.perm_append_comm_assoc _ [_, _, _, _] _)
          rcases hv with ⟨rfl, Lo2, hIo2, H⟩ | ⟨rfl, Lo2, hIo2, H⟩
          · refine Eng.nc_cond (b := false) rfl (fun hc => ?_) (fun hc => ?_)
            · cases hc
            refine nc ?_
            exact rEnd_in _ ⟨Lo2, by rw [← List.append_assoc]; exact hIo2, rfl⟩ (hback H)
          · refine Eng.nc_cond (b := true) rfl (fun hc => ?_) (fun hc => ?_)
            · refine nc ?_
              exact rEnd_in _ ⟨rfl, Lo2, by rw [← List.append_assoc]; exact hIo2, rfl⟩ (hback H)
            · cases hc
        · rintro D W1 L1 xs rfl ⟨Lo, hIo, rfl⟩ H
          refine ret_own H 0 rfl fun w' H => ?_
          refine ret_own H 3 rfl fun w' H => ?_
          refine ret_inA [] ⟨_, rfl, .inl ⟨_, Lo, hnodes.symm, hIo, H.less (List.Sublist.cons _ (List.Sublist.cons _ (List.Sublist.cons _ (List.Sublist.cons _ (List.Sublist.cons _ (List.Sublist.refl _))))))⟩⟩
        · rintro D W1 L1 p1 c ⟨rest, hrest⟩ ⟨rfl, Lo, hIo, rfl⟩ H
          refine nc ?_
          refine ret_own H 0 rfl fun w' H => ?_
          refine ret_own H 3 rfl fun w' H => ?_
          refine ret_inA [] ⟨_, rfl, .inr ⟨(x0 :: nodesT (pre ++ [108]) l) ++ p1, Lo, ⟨rest, ?_⟩, hIo, H.less (List.Sublist.cons _ (List.Sublist.cons _ (List.Sublist.cons _ (List.Sublist.cons _ (List.Sublist.cons _ (List.Sublist.refl _))))))⟩⟩
          rw [hnodes, ← hrest]; simp
    · replace H : Eng.Own ok w0 w2 (.blk by_ [.func (.yield lp) #[] #[]] 65 :: .blk bn [.string (bs pre)] 9 :: .blk bt [.string (bs (Tr.two l r).text)] 24 :: L2) := Eng.Own.swap (B := [_, _, _]) H
      refine Eng.nc_cond (b := true) rfl (fun hc => ?_) (fun hc => ?_)
      · refine nc ?_
        exact ret_inA [] ⟨_, rfl, .inr ⟨[x0], L2, ⟨_, hnodes.symm⟩, hI2, H.tail⟩⟩
      · cases hc
end Go.Proofs.YtfapphlhkfddoaaDoor.G
