/- The nodes of a tree, one behind the other. -/
import Derived.Test.YtfapphlhkfddoaaGreatDoorTreeText
namespace Go.Proofs.YtfapphlhkfddoaaGreatDoor.G
open Go.RowKit Go.Eng Go.Proofs Go.Proofs.YtfapphlhkfddoaaGreatDoor.Cut
set_option linter.unusedVariables false
set_option maxRecDepth 20000
variable {ok : Nat → Prop} {w0 w : World} {L R : List Eng.Item}

theorem below_own {node t : List UInt8} (H : Eng.Own ok w0 w L) :
    Calls Tryz.prog 77 #[.string (bs node), .string (bs t)] w fun e w' => ∃ v, e = .returned v ∧ ∃ bn bt, v = .func (.func 112) #[] #[.pointer (some ⟨bn, 0, none⟩), .pointer (some ⟨bt, 0, none⟩)] ∧ Eng.Own ok w0 w' ([.blk bn [.string (bs node)] 9, .blk bt [.string (bs t)] 25] ++ L) := by
  refine enterN (args := [.string (bs node), .string (bs t)]) Tryz.func77 rfl Tryz.ntmps77 rfl rfl ?_
  refine Eng.nc_seq ?_
  refine nc ?_
  refine own_box H [.string (bs node)] rfl fun bn w1 H => ?_
  refine own_box H [.string (bs t)] rfl fun bt w2 H => ?_
  refine Eng.nc_seq ?_
  refine nc ?_
  refine nc ?_
  exact ret_inA [_] ⟨_, rfl, bn, bt, rfl, order_own (A := [_, _]) H [1, 0] (by show (List.range 2).Perm _; decide)⟩
abbrev enc2 (x : List UInt8 × List UInt8) : List Value := [.string (bs x.1), .string (bs x.2)]
theorem bool_not_true {g : Bool} : g = true ∨ g = false := by cases g <;> simp
set_option maxHeartbeats 8000000 in
theorem below_iter : ∀ (T : Tr) (pre : List UInt8) (bn bt : Nat), T.ok → pre.length + T.text.length ≤ 1000000 → ∀ {ok : Nat → Prop} {w0 : World},
    IterAt Tryz.prog ok w0 112 #[.pointer (some ⟨bn, 0, none⟩), .pointer (some ⟨bt, 0, none⟩)] enc2 (fun l => l = nodesT pre T) (fun p => ∃ rest, p ++ rest = nodesT pre T) [.blk bn [.string (bs pre)] 9, .blk bt [.string (bs T.text)] 25] := by
  intro T
  induction T with
  | leaf p =>
    intro pre bn bt hok hlen ok w0 lp I Ix hY W L h0 H
    have ea : (#[Value.func (.yield lp) #[] #[]] ++ #[Value.pointer (some ⟨bn, 0, none⟩), .pointer (some ⟨bt, 0, none⟩)] : Array Value) = [Value.func (.yield lp) #[] #[], .pointer (some ⟨bn, 0, none⟩), .pointer (some ⟨bt, 0, none⟩)].toArray := rfl
    rw [ea]
    refine enterN (args := [.func (.yield lp) #[] #[], .pointer (some ⟨bn, 0, none⟩), .pointer (some ⟨bt, 0, none⟩)]) Tryz.func112 rfl Tryz.ntmps112 rfl rfl ?_
    refine Eng.nc_seq ?_
    refine nc ?_
    refine own_box H [.func (.yield lp) #[] #[]] rfl fun by_ w1 H => ?_
    refine Eng.nc_seq ?_
    refine Eng.nc_seq ?_
    refine nc ?_
    refine own_load H 0 rfl (by kernel_rfl) (j := 0) rfl ?_
    refine own_load H 1 rfl (by kernel_rfl) (j := 0) rfl ?_
    refine own_load H 2 rfl (by kernel_rfl) (j := 0) rfl ?_
    have hnil : nodesT pre (Tr.leaf p) = [(pre, (Tr.leaf p).text)] := rfl
    refine yield_rule (hY [.blk by_ [.func (.yield lp) #[] #[]] 157, .blk bn [.string (bs pre)] 9, .blk bt [.string (bs (Tr.leaf p).text)] 25] [] (pre, (Tr.leaf p).text) L _ ⟨[], rfl⟩ h0 (Eng.Own.swap (A := [_, _, _]) H)) fun v w2 hv => ?_
    rcases hv with ⟨rfl, L2, hI2, H⟩ | ⟨rfl, L2, hI2, H⟩
    · replace H : Eng.Own ok w0 w2 (.blk by_ [.func (.yield lp) #[] #[]] 157 :: .blk bn [.string (bs pre)] 9 :: .blk bt [.string (bs (Tr.leaf p).text)] 25 :: L2) := Eng.Own.swap (B := [_, _, _]) H
      refine Eng.nc_cond (b := false) rfl (fun hc => ?_) (fun hc => ?_)
      · cases hc
      refine nc ?_
      refine Eng.nc_seq ?_
      refine nc ?_
      refine own_load H 2 rfl (by kernel_rfl) (j := 0) rfl ?_
      refine call_rule (by kernel_rfl) (halves_calls (s := (Tr.leaf p).text) (by omega) (text_ascii _ hok)) fun v w3 ⟨hv, hb3⟩ => ?_
      subst hv
      replace H := H.call hb3
      rw [halves_leaf]
      refine Eng.nc_seq ?_
      refine nc ?_
      refine Eng.nc_cond (b := true) rfl (fun hc => ?_) (fun hc => ?_)
      · refine nc ?_
        exact ret_inA [] ⟨_, rfl, .inl ⟨[(pre, (Tr.leaf p).text)], L2, hnil, hI2, H.tail⟩⟩
      · cases hc
    · replace H : Eng.Own ok w0 w2 (.blk by_ [.func (.yield lp) #[] #[]] 157 :: .blk bn [.string (bs pre)] 9 :: .blk bt [.string (bs (Tr.leaf p).text)] 25 :: L2) := Eng.Own.swap (B := [_, _, _]) H
      refine Eng.nc_cond (b := true) rfl (fun hc => ?_) (fun hc => ?_)
      · refine nc ?_
        exact ret_inA [] ⟨_, rfl, .inr ⟨[(pre, (Tr.leaf p).text)], L2, ⟨[], rfl⟩, hI2, H.tail⟩⟩
      · cases hc
  | two l r ihl ihr =>
    intro pre bn bt hok hlen ok w0 lp I Ix hY W L h0 H
    have ea : (#[Value.func (.yield lp) #[] #[]] ++ #[Value.pointer (some ⟨bn, 0, none⟩), .pointer (some ⟨bt, 0, none⟩)] : Array Value) = [Value.func (.yield lp) #[] #[], .pointer (some ⟨bn, 0, none⟩), .pointer (some ⟨bt, 0, none⟩)].toArray := rfl
    rw [ea]
    generalize hX : (pre, (Tr.two l r).text) = x0 at *
    have hx1 : x0.1 = pre := by rw [← hX]
    have hx2 : x0.2 = (Tr.two l r).text := by rw [← hX]
    have hnodes : nodesT pre (Tr.two l r) = x0 :: (nodesT (pre ++ [108]) l ++ nodesT (pre ++ [114]) r) := by rw [← hX]; rfl
    have hlen2 : pre.length + (l.text.length + r.text.length + 2) ≤ 1000000 := by simp only [Tr.text, List.length_cons, List.length_append, List.length_nil] at hlen; omega
    refine enterN (args := [.func (.yield lp) #[] #[], .pointer (some ⟨bn, 0, none⟩), .pointer (some ⟨bt, 0, none⟩)]) Tryz.func112 rfl Tryz.ntmps112 rfl rfl ?_
    refine Eng.nc_seq ?_
    refine nc ?_
    refine own_box H [.func (.yield lp) #[] #[]] rfl fun by_ w1 H => ?_
    refine Eng.nc_seq ?_
    refine Eng.nc_seq ?_
    refine nc ?_
    refine own_load H 0 rfl (by kernel_rfl) (j := 0) rfl ?_
    refine own_load H 1 rfl (by kernel_rfl) (j := 0) rfl ?_
    refine own_load H 2 rfl (by kernel_rfl) (j := 0) rfl ?_
    have hyield : ∀ {K : Value → World → Prop} {W : World} {Lo T' : List Eng.Item} {p : List (List UInt8 × List UInt8)} {x : List UInt8 × List UInt8}, (∃ rest, (p ++ [x]) ++ rest = nodesT pre (Tr.two l r)) → I p Lo → Eng.Own ok w0 W (Lo ++ T') →
        (∀ v w', ((v = .bool true ∧ ∃ L', I (p ++ [x]) L' ∧ Eng.Own ok w0 w' (L' ++ T')) ∨ (v = .bool false ∧ ∃ L', Ix (p ++ [x]) L' ∧ Eng.Own ok w0 w' (L' ++ T'))) → K v w') → nCallV Tryz.prog true (.func (.yield lp) #[] #[]) (enc2 x) W K := fun h1 h2 h3 hk => yield_rule (hY _ _ _ _ _ h1 h2 h3) hk
    have hargs : ([.string (bs pre), .string (bs (Tr.two l r).text)] : List Value) = enc2 x0 := by rw [← hX]
    refine (show ∀ {K : Value → World → Prop}, nCallV Tryz.prog true (.func (.yield lp) #[] #[]) (enc2 x0) w1 K → nCallV Tryz.prog true (.func (.yield lp) #[] #[]) [.string (bs pre), .string (bs (Tr.two l r).text)] w1 K from fun h => by rw [hargs]; exact h) ?_
    refine hyield (p := []) ⟨nodesT (pre ++ [108]) l ++ nodesT (pre ++ [114]) r, hnodes.symm⟩ h0 (Eng.Own.swap (A := [_, _, _]) H) fun v w2 hv => ?_
    rcases hv with ⟨rfl, L2, hI2, H⟩ | ⟨rfl, L2, hI2, H⟩
    · replace H : Eng.Own ok w0 w2 (.blk by_ [.func (.yield lp) #[] #[]] 157 :: .blk bn [.string (bs pre)] 9 :: .blk bt [.string (bs (Tr.two l r).text)] 25 :: L2) := Eng.Own.swap (B := [_, _, _]) H
      refine Eng.nc_cond (b := false) rfl (fun hc => ?_) (fun hc => ?_)
      · cases hc
      refine nc ?_
      refine Eng.nc_seq ?_
      refine nc ?_
      refine own_load H 2 rfl (by kernel_rfl) (j := 0) rfl ?_
      refine call_rule (by kernel_rfl) (halves_calls (s := (Tr.two l r).text) (by omega) (text_ascii _ hok)) fun v w3 ⟨hv, hb3⟩ => ?_
      subst hv
      replace H := H.call hb3
      rw [halves_two hok]
      refine Eng.nc_seq ?_
      refine nc ?_
      refine Eng.nc_cond (b := false) rfl (fun hc => ?_) (fun hc => ?_)
      · cases hc
      refine nc ?_
      refine nc_cutD (fun ds e w' => ∃ D L3, ds = [D] ∧ I (x0 :: nodesT (pre ++ [108]) l) L3 ∧ e = [(1, .pointer (some ⟨bn, 0, none⟩)), (2, .pointer (some ⟨bt, 0, none⟩)), (3, .pointer (some ⟨by_, 0, none⟩)), (5, .string (bs r.text))] ∧ Eng.Own ok w0 w' (.obj D isDef :: .blk by_ [.func (.yield lp) #[] #[]] 157 :: .blk bn [.string (bs pre)] 9 :: .blk bt [.string (bs (Tr.two l r).text)] 25 :: L3)) ?_ ?_
      · refine Eng.nc_seq ?_
        refine nc ?_
        refine own_load H 1 rfl (by kernel_rfl) (j := 0) rfl ?_
        refine catM_rule (a := pre) (b := [108]) (by simp; omega) ?_
        refine call_rule (by kernel_rfl) (below_own H) fun v w4 ⟨bn2, bt2, hv, H⟩ => ?_
        subst hv
        have H0 : Eng.Own ok w0 w4 ([.blk bn2 [.string (bs (pre ++ [108]))] 9, .blk bt2 [.string (bs l.text)] 25] ++ (.blk by_ [.func (.yield lp) #[] #[]] 157 :: .blk bn [.string (bs pre)] 9 :: .blk bt [.string (bs (Tr.two l r).text)] 25 :: L2)) := H
        refine Eng.nc_block ?_
        refine range_rule (I := fun p1 L1 => ∃ Lo, I ([x0] ++ p1) Lo ∧ L1 = .blk by_ [.func (.yield lp) #[] #[]] 157 :: .blk bn [.string (bs pre)] 9 :: .blk bt [.string (bs (Tr.two l r).text)] 25 :: Lo) (Ix := fun c p1 L1 => c = .ret ∧ ∃ Lo, Ix ([x0] ++ p1) Lo ∧ L1 = .blk by_ [.func (.yield lp) #[] #[]] 157 :: .blk bn [.string (bs pre)] 9 :: .blk bt [.string (bs (Tr.two l r).text)] 25 :: Lo) rfl (by kernel_rfl) (fun _ => rfl) rfl (ihl (pre ++ [108]) bn2 bt2 hok.1 (by rw [List.length_append]; simp; omega)) H0 ⟨L2, hI2, rfl⟩ ?_ ?_ ?_
        · rintro l1 φ T1 p1 x L1 W1 hφ ⟨rest, hrest⟩ ⟨Lo, hIo, rfl⟩ H
          refine Eng.nc_seq ?_
          refine nc ?_
          refine nc ?_
          refine rGo_in (.blk by_ [.func (.yield lp) #[] #[]] 157 :: .blk bn [.string (bs pre)] 9 :: .blk bt [.string (bs (Tr.two l r).text)] 25 :: Lo) H fun w5 φ2 hφ2 H => ?_
          refine Eng.nc_block ?_
          refine Eng.nc_seq ?_
          refine nc ?_
          refine own_load H 0 rfl (by kernel_rfl) (j := 0) rfl ?_
          refine hyield (p := [x0] ++ p1) (x := x) (Lo := Lo) (T' := [.blk by_ [.func (.yield lp) #[] #[]] 157, .blk bn [.string (bs pre)] 9, .blk bt [.string (bs (Tr.two l r).text)] 25] ++ .obj l1 φ2 :: T1) ⟨rest ++ nodesT (pre ++ [114]) r, ?_⟩ hIo ?_ fun v w6 hv => ?_
          · rw [hnodes, ← hrest]; simp
          · exact H.perm (List.perm_append_comm_assoc [_, _, _] Lo _)
          have hback : ∀ {Lo' : List Eng.Item} {w' : World}, Eng.Own ok w0 w' (Lo' ++ ([.blk by_ [.func (.yield lp) #[] #[]] 157, .blk bn [.string (bs pre)] 9, .blk bt [.string (bs (Tr.two l r).text)] 25] ++ .obj l1 φ2 :: T1)) → Eng.Own ok w0 w' ((.blk by_ [.func (.yield lp) #[] #[]] 157 :: .blk bn [.string (bs pre)] 9 :: .blk bt [.string (bs (Tr.two l r).text)] 25 :: Lo') ++ .obj l1 φ2 :: T1) := fun h => h.perm (List.perm_append_comm_assoc _ [_, _, _] _)
          rcases hv with ⟨rfl, Lo2, hIo2, H⟩ | ⟨rfl, Lo2, hIo2, H⟩
          · refine Eng.nc_cond (b := false) rfl (fun hc => ?_) (fun hc => ?_)
            · cases hc
            refine nc ?_
            exact rEnd_in _ ⟨Lo2, by rw [← List.append_assoc]; exact hIo2, rfl⟩ (hback H)
          · refine Eng.nc_cond (b := true) rfl (fun hc => ?_) (fun hc => ?_)
            · refine nc ?_
              exact rEnd_in _ ⟨rfl, Lo2, by rw [← List.append_assoc]; exact hIo2, rfl⟩ (hback H)
            · cases hc
        · rintro D W1 L1 xs rfl ⟨Lo, hIo, rfl⟩ H
          refine cutD_in (e' := [(1, .pointer (some ⟨bn, 0, none⟩)), (2, .pointer (some ⟨bt, 0, none⟩)), (3, .pointer (some ⟨by_, 0, none⟩)), (5, .string (bs r.text))]) ⟨rfl, rfl, rfl, rfl, trivial⟩ ⟨D, Lo, rfl, hIo, rfl, H.less (List.Sublist.cons_cons _ (List.Sublist.cons _ (List.Sublist.cons _ (List.Sublist.refl _))))⟩
        · rintro D W1 L1 p1 c ⟨rest, hrest⟩ ⟨rfl, Lo, hIo, rfl⟩ H
          refine nc ?_
          refine ret_own H 0 rfl fun w' H => ?_
          refine ret_inA [] ⟨_, rfl, .inr ⟨[x0] ++ p1, Lo, ⟨rest ++ nodesT (pre ++ [114]) r, ?_⟩, hIo, H.less (List.Sublist.cons _ (List.Sublist.cons _ (List.Sublist.cons _ (List.Sublist.cons _ (List.Sublist.refl _)))))⟩⟩
          rw [hnodes, ← hrest]; simp
      · rintro _ _ w3 ⟨D0, L3, rfl, hI3, rfl, H⟩
        refine Eng.nc_seq ?_
        refine nc ?_
        refine own_load H 2 rfl (by kernel_rfl) (j := 0) rfl ?_
        refine catM_rule (a := pre) (b := [114]) (by simp; omega) ?_
        refine call_rule (by kernel_rfl) (below_own H) fun v w4 ⟨bn2, bt2, hv, H⟩ => ?_
        subst hv
        have H0 : Eng.Own ok w0 w4 ([.blk bn2 [.string (bs (pre ++ [114]))] 9, .blk bt2 [.string (bs r.text)] 25] ++ (.obj D0 isDef :: .blk by_ [.func (.yield lp) #[] #[]] 157 :: .blk bn [.string (bs pre)] 9 :: .blk bt [.string (bs (Tr.two l r).text)] 25 :: L3)) := H
        refine Eng.nc_block ?_
        refine range_rule (I := fun p1 L1 => ∃ Lo, I ((x0 :: nodesT (pre ++ [108]) l) ++ p1) Lo ∧ L1 = .obj D0 isDef :: .blk by_ [.func (.yield lp) #[] #[]] 157 :: .blk bn [.string (bs pre)] 9 :: .blk bt [.string (bs (Tr.two l r).text)] 25 :: Lo) (Ix := fun c p1 L1 => c = .ret ∧ ∃ Lo, Ix ((x0 :: nodesT (pre ++ [108]) l) ++ p1) Lo ∧ L1 = .obj D0 isDef :: .blk by_ [.func (.yield lp) #[] #[]] 157 :: .blk bn [.string (bs pre)] 9 :: .blk bt [.string (bs (Tr.two l r).text)] 25 :: Lo) rfl (by kernel_rfl) (fun _ => rfl) rfl (ihr (pre ++ [114]) bn2 bt2 hok.2 (by rw [List.length_append]; simp; omega)) H0 ⟨L3, (by rw [List.append_nil]; exact hI3), rfl⟩ ?_ ?_ ?_
        · rintro l1 φ T1 p1 x L1 W1 hφ ⟨rest, hrest⟩ ⟨Lo, hIo, rfl⟩ H
          refine Eng.nc_seq ?_
          refine nc ?_
          refine nc ?_
          refine rGo_in (.obj D0 isDef :: .blk by_ [.func (.yield lp) #[] #[]] 157 :: .blk bn [.string (bs pre)] 9 :: .blk bt [.string (bs (Tr.two l r).text)] 25 :: Lo) H fun w5 φ2 hφ2 H => ?_
          refine Eng.nc_block ?_
          refine Eng.nc_seq ?_
          refine nc ?_
          refine own_load H 1 rfl (by kernel_rfl) (j := 0) rfl ?_
          refine hyield (p := (x0 :: nodesT (pre ++ [108]) l) ++ p1) (x := x) (Lo := Lo) (T' := [.obj D0 isDef, .blk by_ [.func (.yield lp) #[] #[]] 157, .blk bn [.string (bs pre)] 9, .blk bt [.string (bs (Tr.two l r).text)] 25] ++ .obj l1 φ2 :: T1) ⟨rest, ?_⟩ hIo ?_ fun v w6 hv => ?_
          · rw [hnodes, ← hrest]; simp
          · exact H.perm (List.perm_append_comm_assoc [_, _, _, _] Lo _)
          have hback : ∀ {Lo' : List Eng.Item} {w' : World}, Eng.Own ok w0 w' (Lo' ++ ([.obj D0 isDef, .blk by_ [.func (.yield lp) #[] #[]] 157, .blk bn [.string (bs pre)] 9, .blk bt [.string (bs (Tr.two l r).text)] 25] ++ .obj l1 φ2 :: T1)) → Eng.Own ok w0 w' ((.obj D0 isDef :: .blk by_ [.func (.yield lp) #[] #[]] 157 :: .blk bn [.string (bs pre)] 9 :: .blk bt [.string (bs (Tr.two l r).text)] 25 :: Lo') ++ .obj l1 φ2 :: T1) := fun h => h.perm (List.perm_append_comm_assoc _ [_, _, _, _] _)
          rcases hv with ⟨rfl, Lo2, hIo2, H⟩ | ⟨rfl, Lo2, hIo2, H⟩
          · refine Eng.nc_cond (b := false) rfl (fun hc => ?_) (fun hc => ?_)
            · cases hc
            refine nc ?_
            exact rEnd_in _ ⟨Lo2, by rw [← List.append_assoc]; exact hIo2, rfl⟩ (hback H)
          · refine Eng.nc_cond (b := true) rfl (fun hc => ?_) (fun hc => ?_)
            · refine nc ?_
              exact rEnd_in _ ⟨rfl, Lo2, by rw [← List.append_assoc]; exact hIo2, rfl⟩ (hback H)
            · cases hc
        · rintro D W1 L1 xs rfl ⟨Lo, hIo, rfl⟩ H
          refine ret_own H 0 rfl fun w' H => ?_
          refine ret_own H 3 rfl fun w' H => ?_
          refine ret_inA [] ⟨_, rfl, .inl ⟨_, Lo, hnodes.symm, hIo, H.less (List.Sublist.cons _ (List.Sublist.cons _ (List.Sublist.cons _ (List.Sublist.cons _ (List.Sublist.cons _ (List.Sublist.refl _))))))⟩⟩
        · rintro D W1 L1 p1 c ⟨rest, hrest⟩ ⟨rfl, Lo, hIo, rfl⟩ H
          refine nc ?_
          refine ret_own H 0 rfl fun w' H => ?_
          refine ret_own H 3 rfl fun w' H => ?_
          refine ret_inA [] ⟨_, rfl, .inr ⟨(x0 :: nodesT (pre ++ [108]) l) ++ p1, Lo, ⟨rest, ?_⟩, hIo, H.less (List.Sublist.cons _ (List.Sublist.cons _ (List.Sublist.cons _ (List.Sublist.cons _ (List.Sublist.cons _ (List.Sublist.refl _))))))⟩⟩
          rw [hnodes, ← hrest]; simp
    · replace H : Eng.Own ok w0 w2 (.blk by_ [.func (.yield lp) #[] #[]] 157 :: .blk bn [.string (bs pre)] 9 :: .blk bt [.string (bs (Tr.two l r).text)] 25 :: L2) := Eng.Own.swap (B := [_, _, _]) H
      refine Eng.nc_cond (b := true) rfl (fun hc => ?_) (fun hc => ?_)
      · refine nc ?_
        exact ret_inA [] ⟨_, rfl, .inr ⟨[x0], L2, ⟨_, hnodes.symm⟩, hI2, H.tail⟩⟩
      · cases hc
end Go.Proofs.YtfapphlhkfddoaaGreatDoor.G
/- What stands at a node. -/
namespace Go.Proofs.YtfapphlhkfddoaaGreatDoor.G
open Go.RowKit Go.Eng Go.Proofs Go.Proofs.YtfapphlhkfddoaaGreatDoor.Cut
set_option linter.unusedVariables false
set_option maxRecDepth 20000
variable {ok : Nat → Prop} {w0 w : World} {L R : List Eng.Item}

def atM (s node : List UInt8) : List UInt8 × Int := match ofM s with
  | none => ([], 1)
  | some T => match (nodesT [] T).find? (fun x => decide (x.1 = node)) with
    | some x => (x.2, 0)
    | none => ([], 8)
set_option maxHeartbeats 4000000 in
theorem placeAt_calls {s node : List UInt8} (hs : s.length ≤ 900000) : Calls Tryz.prog 51 #[.string (bs s), .string (bs node)] w fun e w' => ∃ v, e = .returned v ∧ (v = .tuple #[.string (bs (atM s node).1), .int .i64 (atM s node).2] ∧ Bel w.heap.size w w') := by
  have H : Eng.Own (fun _ => False) w w [] := Eng.Own.nil _ w
  refine enterN (args := [.string (bs s), .string (bs node)]) Tryz.func51 rfl Tryz.ntmps51 rfl rfl ?_
  refine Eng.nc_seq ?_
  refine nc ?_
  refine own_box H [.string (bs node)] rfl fun bn w1 H => ?_
  refine own_alloc (z := .string (bs [])) H (by kernel_rfl) [.string (bs [])] rfl fun c4 w2 H => ?_
  refine own_alloc (z := .int .i64 0) H (by kernel_rfl) [.int .i64 0] rfl fun c5 w3 H => ?_
  refine Eng.nc_seq ?_
  refine Eng.nc_seq ?_
  refine nc ?_
  refine call_rule (by kernel_rfl) (treeRight_calls (s := s) (by omega)) fun v w4 ⟨hv, hb⟩ => ?_
  subst hv
  replace H := H.call hb
  unfold atM
  cases ho : ofM s with
  | none =>
    refine Eng.nc_cond (b := true) rfl (fun hc => ?_) (fun hc => ?_)
    · refine Eng.nc_seq ?_
      refine nc ?_
      refine own_store (t := 25) H 1 rfl (by kernel_rfl) (j := 0) rfl rfl fun w5 H => ?_
      refine own_store (t := 29) H 0 rfl (by kernel_rfl) (j := 0) rfl rfl fun w6 H => ?_
      refine nc ?_
      exact ret_of [.string (bs []), .int .i64 1] ⟨⟨_, rfl, load1_run (by kernel_rfl) (H.cell 1 rfl 0 rfl)⟩, ⟨_, rfl, load1_run (by kernel_rfl) (H.cell 0 rfl 0 rfl)⟩, trivial⟩ ⟨_, rfl, rfl, H.frame⟩
    · cases hc
  | some T =>
    obtain ⟨hT, hok⟩ := ofM_text ho
    refine Eng.nc_cond (b := false) rfl (fun hc => ?_) (fun hc => ?_)
    · cases hc
    refine nc ?_
    have hlenT : T.text.length ≤ 900000 := by rw [← hT]; exact hs
    simp only
    refine nc_cutD (fun ds e w' => ∃ D, ds = [D] ∧ (nodesT [] T).find? (fun x => decide (x.1 = node)) = none ∧ e = [(4, .pointer (some ⟨c4, 0, none⟩)), (5, .pointer (some ⟨c5, 0, none⟩))] ∧ Eng.Own (fun _ => False) w w' [.obj D isDef, .blk c5 [.int .i64 0] 29, .blk c4 [.string (bs [])] 25]) ?_ ?_
    · refine Eng.nc_seq ?_
      refine nc ?_
      refine call_rule (by kernel_rfl) (below_own (node := []) (t := s) H) fun v w5 ⟨bn2, bt2, hv, H⟩ => ?_
      subst hv
      rw [hT] at H
      refine Eng.nc_block ?_
      refine range_rule (I := fun p1 L1 => (∀ x ∈ p1, x.1 ≠ node) ∧ L1 = [.blk c5 [.int .i64 0] 29, .blk c4 [.string (bs [])] 25, .blk bn [.string (bs node)] 9]) (Ix := fun c p1 L1 => c = .ret ∧ ∃ p2 x, p1 = p2 ++ [x] ∧ (∀ x ∈ p2, x.1 ≠ node) ∧ x.1 = node ∧ L1 = [.blk c5 [.int .i64 0] 29, .blk c4 [.string (bs x.2)] 25, .blk bn [.string (bs node)] 9]) rfl (by kernel_rfl) (fun _ => rfl) rfl (below_iter T [] bn2 bt2 hok (by simp; omega)) H ⟨fun x hx => by simp at hx, rfl⟩ ?_ ?_ ?_
      · rintro l1 φ T1 p1 x L1 W1 hφ ⟨rest, hrest⟩ ⟨hne, rfl⟩ H
        refine Eng.nc_seq ?_
        refine nc ?_
        refine nc ?_
        refine rGo_in [.blk c5 [.int .i64 0] 29, .blk c4 [.string (bs [])] 25, .blk bn [.string (bs node)] 9] H fun w5 φ2 hφ2 H => ?_
        refine Eng.nc_block ?_
        refine Eng.nc_seq ?_
        refine nc ?_
        refine own_load H 2 rfl (by kernel_rfl) (j := 0) rfl ?_
        refine Eng.nc_cond (b := ((bs x.1).toList == (bs node).toList)) rfl (fun hc => ?_) (fun hc => ?_)
        · have hx : x.1 = node := by simpa [bs_toList] using hc
          refine Eng.nc_seq ?_
          refine nc ?_
          refine own_store (t := 25) H 1 rfl (by kernel_rfl) (j := 0) rfl rfl fun w6 H => ?_
          refine own_store (t := 29) H 0 rfl (by kernel_rfl) (j := 0) rfl rfl fun w7 H => ?_
          refine nc ?_
          exact rEnd_in [.blk c5 [.int .i64 0] 29, .blk c4 [.string (bs x.2)] 25, .blk bn [.string (bs node)] 9] ⟨rfl, p1, x, rfl, hne, hx, rfl⟩ H
        · have hx : x.1 ≠ node := by simpa [bs_toList] using hc
          refine nc ?_
          refine rEnd_in [.blk c5 [.int .i64 0] 29, .blk c4 [.string (bs [])] 25, .blk bn [.string (bs node)] 9] ⟨?_, rfl⟩ H
          intro y hy
          rcases List.mem_append.1 hy with q | q
          · exact hne y q
          · rw [List.mem_singleton.1 q]; exact hx
      · rintro D W1 L1 xs rfl ⟨hne, rfl⟩ H
        refine cutD_in (e' := [(4, .pointer (some ⟨c4, 0, none⟩)), (5, .pointer (some ⟨c5, 0, none⟩))]) ⟨rfl, rfl, trivial⟩ ⟨D, rfl, ?_, rfl, H.pickL [0, 3, 4] rfl⟩
        exact List.find?_eq_none.2 fun x hx => by simpa using hne x hx
      · rintro D W1 L1 p1 c ⟨rest, hrest⟩ ⟨rfl, p2, x, rfl, hne, hx, rfl⟩ H
        refine nc ?_
        refine ret_own H 0 rfl fun w' H => ?_
        have hf : (nodesT [] T).find? (fun x => decide (x.1 = node)) = some x := by
          rw [← hrest, List.append_assoc, List.find?_append, List.find?_eq_none.2 (fun y hy => by simpa using hne y hy)]
          simp [hx]
        rw [hf]
        exact ret_of [.string (bs x.2), .int .i64 0] ⟨⟨_, rfl, load1_run (by kernel_rfl) (H.cell 4 rfl 0 rfl)⟩, ⟨_, rfl, load1_run (by kernel_rfl) (H.cell 3 rfl 0 rfl)⟩, trivial⟩ ⟨_, rfl, rfl, H.frame⟩
    · rintro _ _ w5 ⟨D, rfl, hf, rfl, H⟩
      rw [hf]
      refine Eng.nc_seq ?_
      refine nc ?_
      refine own_store (t := 25) H 2 rfl (by kernel_rfl) (j := 0) rfl rfl fun w6 H => ?_
      refine own_store (t := 29) H 1 rfl (by kernel_rfl) (j := 0) rfl rfl fun w7 H => ?_
      refine nc ?_
      refine ret_own H 0 rfl fun w' H => ?_
      exact ret_of [.string (bs []), .int .i64 8] ⟨⟨_, rfl, load1_run (by kernel_rfl) (H.cell 2 rfl 0 rfl)⟩, ⟨_, rfl, load1_run (by kernel_rfl) (H.cell 1 rfl 0 rfl)⟩, trivial⟩ ⟨_, rfl, rfl, H.frame⟩
end Go.Proofs.YtfapphlhkfddoaaGreatDoor.G
/- What stands in a right tree is one; where it stands. -/
namespace Go.Proofs.YtfapphlhkfddoaaGreatDoor.G
open Go.RowKit Go.Eng Go.Proofs Go.Proofs.YtfapphlhkfddoaaGreatDoor.Cut
set_option linter.unusedVariables false
set_option linter.unusedSimpArgs false

theorem rowRes_iff : ∀ (xs : List Int) (last : Int), (∃ l, rowRes last xs = .inl l ∧ (l > 0 ↔ (xs ≠ [] ∨ 0 < last)) ∧ (∀ x ∈ xs, last < x ∧ x ≤ 8) ∧ xs.Pairwise (· < ·)) ∨ (rowRes last xs = .inr false ∧ ¬ ((∀ x ∈ xs, last < x ∧ x ≤ 8) ∧ xs.Pairwise (· < ·))) ∨ last < 0
  | [], last => by
    by_cases h : last < 0
    · exact .inr (.inr h)
    · exact .inl ⟨last, rfl, by simp, fun x hx => by simp at hx, List.Pairwise.nil⟩
  | x :: xs, last => by
    by_cases h0 : last < 0
    · exact .inr (.inr h0)
    unfold rowRes
    by_cases hc : x ≤ last ∨ 8 < x
    · rw [if_pos hc]
      refine .inr (.inl ⟨rfl, fun ⟨h1, h2⟩ => ?_⟩)
      have := h1 x List.mem_cons_self
      omega
    · rw [if_neg hc]
      rcases rowRes_iff xs x with ⟨l, h1, h2, h3, h4⟩ | ⟨h1, h2⟩ | h
      · refine .inl ⟨l, h1, ?_, ?_, ?_⟩
        · constructor
          · intro _; exact .inl (by simp)
          · intro _; exact h2.2 (.inr (by omega))
        · intro y hy
          rcases List.mem_cons.1 hy with q | q
          · subst q; omega
          · have := h3 y q; omega
        · exact List.pairwise_cons.2 ⟨fun y hy => (h3 y hy).1, h4⟩
      · refine .inr (.inl ⟨h1, fun ⟨g1, g2⟩ => h2 ⟨?_, (List.pairwise_cons.1 g2).2⟩⟩)
        intro y hy
        exact ⟨(List.pairwise_cons.1 g2).1 y hy, (g1 y (List.mem_cons_of_mem _ hy)).2⟩
      · omega
theorem rowB_iff (xs : List Int) : rowB xs = true ↔ (xs ≠ [] ∧ (∀ x ∈ xs, 0 < x ∧ x ≤ 8) ∧ xs.Pairwise (· < ·)) := by
  unfold rowB
  rcases rowRes_iff xs 0 with ⟨l, h1, h2, h3, h4⟩ | ⟨h1, h2⟩ | h
  · rw [h1]
    simp only [decide_eq_true_eq]
    rw [h2]
    constructor
    · intro h; exact ⟨h.elim id (fun h => absurd h (by omega)), h3, h4⟩
    · intro h; exact .inl h.1
  · rw [h1]
    constructor
    · intro h; cases h
    · intro h; exact absurd ⟨h.2.1, h.2.2⟩ h2
  · omega
theorem sortZ_perm (xs : List Int) : (sortZ xs).Perm xs := List.mergeSort_perm _ _
theorem sortZ_le (xs : List Int) : (sortZ xs).Pairwise (· ≤ ·) := by
  have h := List.pairwise_mergeSort (le := fun x y : Int => decide (x ≤ y)) (by intro a b c h1 h2; simp at *; omega) (by intro a b; simp; omega) xs
  exact h.imp (by intro a b h; simpa using h)
theorem rowB_sort (xs : List Int) : rowB (sortZ xs) = true ↔ (xs ≠ [] ∧ (∀ x ∈ xs, 0 < x ∧ x ≤ 8) ∧ xs.Nodup) := by
  rw [rowB_iff]
  have hp := sortZ_perm xs
  constructor
  · rintro ⟨h1, h2, h3⟩
    refine ⟨fun h => h1 (by rw [h] at hp ⊢; exact hp.eq_nil), fun x hx => h2 x (hp.mem_iff.2 hx), ?_⟩
    exact hp.nodup_iff.1 (h3.imp (fun h => by omega))
  · rintro ⟨h1, h2, h3⟩
    refine ⟨fun h => h1 (by rw [h] at hp; exact hp.symm.eq_nil), fun x hx => h2 x (hp.mem_iff.1 hx), ?_⟩
    have hn : (sortZ xs).Nodup := hp.nodup_iff.2 h3
    exact (sortZ_le xs).imp₂ (fun a b h1 h2 => by omega) hn
theorem readM_full : ∀ (T : Tr) (r : List UInt8) (n : Nat), T.ok → T.text.length ≤ n → readM n (T.text ++ r) = some (T, r)
  | .leaf p, r, n, h, hn => by
    have h' : 1 ≤ p ∧ p ≤ 8 := h
    obtain ⟨m, rfl⟩ : ∃ m, n = m + 1 := ⟨n - 1, by simp [Tr.text] at hn; omega⟩
    show (if 49 ≤ (UInt8.ofNat (p.toNat + 48)).toNat ∧ _ then some (Tr.leaf (((UInt8.ofNat (p.toNat + 48)).toNat : Int) - 48), r) else _) = _
    rw [digit_toNat h', if_pos (by omega)]
    congr 3
    omega
  | .two a b, r, n, h, hn => by
    have e : (Tr.two a b).text ++ r = 40 :: (a.text ++ (b.text ++ (41 :: r))) := by simp [Tr.text]
    simp only [Tr.text, List.length_cons, List.length_append, List.length_nil] at hn
    obtain ⟨m, rfl⟩ : ∃ m, n = m + 1 := ⟨n - 1, by omega⟩
    rw [e]
    unfold readM
    rw [if_neg (by decide), if_neg (by decide), readM_full a _ m h.1 (by omega)]
    simp only
    rw [readM_full b _ m h.2 (by omega)]
    simp
theorem ofM_iff {T : Tr} (hok : T.ok) : ofM T.text = if T.leavesR.Nodup then some T else none := by
  unfold ofM
  have h := readM_full T [] (T.text.length + 1) hok (by omega)
  rw [List.append_nil] at h
  rw [h]
  simp only
  have hl : ∀ (T : Tr), T.ok → ∀ x ∈ T.leavesR, 0 < x ∧ x ≤ 8 := by
    intro T
    induction T with
    | leaf p => intro h x hx; simp [Tr.leavesR] at hx; subst hx; have h' : 1 ≤ x ∧ x ≤ 8 := h; omega
    | two l r ihl ihr => intro h x hx; simp [Tr.leavesR] at hx; exact hx.elim (ihr h.2 x) (ihl h.1 x)
  by_cases hn : T.leavesR.Nodup
  · rw [if_pos hn, if_pos ((rowB_sort _).2 ⟨fun h => by have := leavesR_pos T; rw [h] at this; simp at this, hl T hok, hn⟩)]
  · rw [if_neg hn, if_neg (fun h => hn ((rowB_sort _).1 h).2.2)]
/-- The tree that stands at a node. -/
def subT : Tr → List UInt8 → Option Tr
  | T, [] => some T
  | .leaf _, _ :: _ => none
  | .two l r, c :: p => if c = 108 then subT l p else if c = 114 then subT r p else none
theorem find_other (pre : List UInt8) (c d : UInt8) (h : c ≠ d) (p : List UInt8) : ∀ (T : Tr), (∀ x ∈ nodesT (pre ++ [c]) T, ∃ q, x.1 = pre ++ (c :: q)) → (nodesT (pre ++ [c]) T).find? (fun x => decide (x.1 = pre ++ (d :: p))) = none := by
  intro T hT
  refine List.find?_eq_none.2 fun x hx => ?_
  obtain ⟨q, hq⟩ := hT x hx
  rw [hq]
  simp [h]
theorem nodes_pre : ∀ (T : Tr) (pre : List UInt8), ∀ x ∈ nodesT pre T, ∃ q, x.1 = pre ++ q
  | .leaf p, pre, x, hx => by simp [nodesT] at hx; subst hx; exact ⟨[], by simp⟩
  | .two l r, pre, x, hx => by
    simp only [nodesT, List.mem_cons, List.mem_append] at hx
    rcases hx with rfl | hx | hx
    · exact ⟨[], by simp⟩
    · obtain ⟨q, hq⟩ := nodes_pre l _ x hx; exact ⟨[108] ++ q, by rw [hq]; simp⟩
    · obtain ⟨q, hq⟩ := nodes_pre r _ x hx; exact ⟨[114] ++ q, by rw [hq]; simp⟩
theorem find_sub : ∀ (T : Tr) (pre p : List UInt8), (nodesT pre T).find? (fun x => decide (x.1 = pre ++ p)) = (subT T p).map (fun S => (pre ++ p, S.text))
  | .leaf q, pre, [] => by simp [nodesT, subT]
  | .leaf q, pre, c :: p => by simp [nodesT, subT]
  | .two l r, pre, [] => by simp [nodesT, subT]
  | .two l r, pre, c :: p => by
    have h0 : (nodesT pre (Tr.two l r)).find? (fun x => decide (x.1 = pre ++ (c :: p))) = ((nodesT (pre ++ [108]) l).find? (fun x => decide (x.1 = pre ++ (c :: p)))).or ((nodesT (pre ++ [114]) r).find? (fun x => decide (x.1 = pre ++ (c :: p)))) := by
      simp [nodesT, List.find?_append]
    rw [h0]
    have hpl : ∀ (d : UInt8) (T : Tr), ∀ x ∈ nodesT (pre ++ [d]) T, ∃ q, x.1 = pre ++ (d :: q) := fun d T x hx => by
      obtain ⟨q, hq⟩ := nodes_pre T _ x hx
      exact ⟨q, by rw [hq]; simp⟩
    by_cases h1 : c = 108
    · subst h1
      have := find_sub l (pre ++ [108]) p
      simp only [List.append_assoc, List.singleton_append] at this
      rw [this, find_other pre 114 108 (by decide) p r (hpl 114 r)]
      simp [subT]
    · rw [find_other pre 108 c (fun h => h1 h.symm) p l (hpl 108 l), Option.none_or]
      by_cases h2 : c = 114
      · subst h2
        have := find_sub r (pre ++ [114]) p
        simp only [List.append_assoc, List.singleton_append] at this
        rw [this]
        simp [subT]
      · rw [find_other pre 114 c (fun h => h2 h.symm) p r (hpl 114 r)]
        simp [subT, h1, h2]
theorem at_sub {s : List UInt8} {T : Tr} (h : ofM s = some T) (p : List UInt8) : atM s p = match subT T p with | some S => (S.text, 0) | none => ([], 8) := by
  unfold atM
  rw [h]
  simp only
  have := find_sub T [] p
  simp only [List.nil_append] at this
  rw [this]
  cases subT T p <;> rfl
theorem subT_ok : ∀ (T : Tr) (p : List UInt8) (S : Tr), subT T p = some S → T.ok → S.ok
  | T, [], S, h, hok => by cases T <;> (simp [subT] at h; subst h; exact hok)
  | .leaf _, _ :: _, S, h, hok => by simp [subT] at h
  | .two l r, c :: p, S, h, hok => by
    unfold subT at h
    split at h
    · exact subT_ok l p S h hok.1
    · split at h
      · exact subT_ok r p S h hok.2
      · cases h
theorem subT_nodup : ∀ (T : Tr) (p : List UInt8) (S : Tr), subT T p = some S → T.leavesR.Nodup → S.leavesR.Nodup ∧ ∀ x ∈ S.leavesR, x ∈ T.leavesR
  | T, [], S, h, hn => by cases T <;> (simp [subT] at h; subst h; exact ⟨hn, fun x hx => hx⟩)
  | .leaf _, _ :: _, S, h, hn => by simp [subT] at h
  | .two l r, c :: p, S, h, hn => by
    have hn' := List.nodup_append.1 (show (r.leavesR ++ l.leavesR).Nodup from hn)
    unfold subT at h
    split at h
    · obtain ⟨h1, h2⟩ := subT_nodup l p S h hn'.2.1
      exact ⟨h1, fun x hx => List.mem_append_right _ (h2 x hx)⟩
    · split at h
      · obtain ⟨h1, h2⟩ := subT_nodup r p S h hn'.1
        exact ⟨h1, fun x hx => List.mem_append_left _ (h2 x hx)⟩
      · cases h
theorem subT_len : ∀ (T : Tr) (p : List UInt8) (S : Tr), subT T p = some S → S.text.length ≤ T.text.length
  | T, [], S, h => by cases T <;> (simp [subT] at h; subst h; exact Nat.le_refl _)
  | .leaf _, _ :: _, S, h => by simp [subT] at h
  | .two l r, c :: p, S, h => by
    unfold subT at h
    have e : (Tr.two l r).text.length = l.text.length + r.text.length + 2 := by simp [Tr.text]; omega
    split at h
    · have := subT_len l p S h; omega
    · split at h
      · have := subT_len r p S h; omega
      · cases h
theorem ofM_nodup {s : List UInt8} {T : Tr} (h : ofM s = some T) : T.leavesR.Nodup := by
  obtain ⟨hs, hok⟩ := ofM_text h
  rw [hs, ofM_iff hok] at h
  split at h
  · assumption
  · cases h
theorem subT_snoc : ∀ (T : Tr) (p : List UInt8) (l r : Tr), subT T p = some (.two l r) → subT T (p ++ [108]) = some l ∧ subT T (p ++ [114]) = some r
  | T, [], l, r, h => by
    cases T with
    | leaf q => simp [subT] at h
    | two a b => simp [subT] at h; obtain ⟨rfl, rfl⟩ := h; exact ⟨by cases a <;> simp [subT], by cases b <;> simp [subT]⟩
  | .leaf _, _ :: _, l, r, h => by simp [subT] at h
  | .two a b, c :: p, l, r, h => by
    unfold subT at h
    rw [List.cons_append, List.cons_append]
    unfold subT
    split at h
    · rename_i hc; rw [if_pos hc, if_pos hc]; exact subT_snoc a p l r h
    · rename_i hc
      split at h
      · rename_i hc2; rw [if_neg hc, if_neg hc, if_pos hc2, if_pos hc2]; exact subT_snoc b p l r h
      · cases h
end Go.Proofs.YtfapphlhkfddoaaGreatDoor.G
