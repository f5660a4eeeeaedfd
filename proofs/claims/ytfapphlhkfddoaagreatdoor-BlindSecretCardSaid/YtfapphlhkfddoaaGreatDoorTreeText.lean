/- Trees in memory: how a text is read as one. -/
import Derived.Test.YtfapphlhkfddoaaGreatDoorH1
import Derived.Test.YtfapphlhkfddoaaGreatDoorSortI
import Derived.Test.YtfapphlhkfddoaaGreatDoorSorts1
namespace Go.Proofs.YtfapphlhkfddoaaGreatDoor.G
open Go.RowKit Go.Eng Go.Proofs Go.Proofs.YtfapphlhkfddoaaGreatDoor.Cut
set_option linter.unusedVariables false
set_option maxRecDepth 20000
variable {ok : Nat → Prop} {w0 w : World} {L : List Eng.Item}

inductive Tr where
  | leaf (p : Int) : Tr
  | two (l r : Tr) : Tr
/-- .. with the places where its nodes stand. -/
inductive TrA where
  | leaf (b : Nat) (p : Int) : TrA
  | two (b : Nat) (l r : TrA) : TrA
def TrA.root : TrA → Nat
  | .leaf b _ => b
  | .two b _ _ => b
def TrA.ptr (A : TrA) : Value := .pointer (some ⟨A.root, 0, none⟩)
def TrA.tr : TrA → Tr
  | .leaf _ p => .leaf p
  | .two _ l r => .two l.tr r.tr
def TrA.items : TrA → List Eng.Item
  | .leaf b p => [.blk b [.int .i64 p, .pointer none, .pointer none] 135]
  | .two b l r => .blk b [.int .i64 0, l.ptr, r.ptr] 135 :: (l.items ++ r.items)
/-- What a text begins with, and what is behind it. -/
def readM : Nat → List UInt8 → Option (Tr × List UInt8)
  | 0, _ => none
  | _ + 1, [] => none
  | n + 1, c :: r => if 49 ≤ c.toNat ∧ c.toNat ≤ 56 then some (.leaf ((c.toNat : Int) - 48), r) else if c ≠ 40 then none else
    match readM n r with
    | none => none
    | some (a, r1) => match readM n r1 with
      | none => none
      | some (b, r2) => match r2 with
        | [] => none
        | d :: r3 => if d = 41 then some (.two a b, r3) else none
theorem readM_len : ∀ (n : Nat) (s : List UInt8) (T : Tr) (r : List UInt8), readM n s = some (T, r) → r.length < s.length
  | 0, s, T, r, h => by simp [readM] at h
  | n + 1, [], T, r, h => by simp [readM] at h
  | n + 1, c :: q, T, r, h => by
    unfold readM at h
    split at h
    · cases h; simp
    · split at h
      · cases h
      · cases h1 : readM n q with
        | none => rw [h1] at h; cases h
        | some x =>
          obtain ⟨a, r1⟩ := x
          rw [h1] at h
          simp only at h
          cases h2 : readM n r1 with
          | none => rw [h2] at h; cases h
          | some y =>
            obtain ⟨b, r2⟩ := y
            rw [h2] at h
            simp only at h
            have l1 := readM_len n q a r1 h1
            have l2 := readM_len n r1 b r2 h2
            cases r2 with
            | nil => cases h
            | cons d r3 =>
              simp only at h
              split at h
              · cases h; simp at l2 ⊢; omega
              · cases h
def headIs (d : UInt8) : List UInt8 → Bool
  | [] => false
  | c :: _ => decide (c = d)
theorem prefix_eq (s : List UInt8) (d : UInt8) : strings_HasPrefix.f s [d] = some (headIs d s) := by
  unfold strings_HasPrefix.f internal_stringslite_HasPrefix.f internal_stringslite_HasPrefix.k1
  cases s with
  | nil => rfl
  | cons c r =>
    have hl : ((c :: r : List UInt8).length : Int) ≥ (([d] : List UInt8).length : Int) := by simp; omega
    have hs : slcM (c :: r) (0 : Int) (([d] : List UInt8).length : Int) = some [c] := by unfold slcM; rw [if_pos ⟨by simp, by simp, by simp; omega⟩]; rfl
    rw [decide_eq_true hl, cond_true, hs, Option.bind_some, cond_true, strEq_eq, Option.bind_some]
    unfold headIs
    simp
def ReadR (ok : Nat → Prop) (w0 : World) (L : List Eng.Item) (x : Option (Tr × List UInt8)) (v : Value) (w' : World) : Prop :=
  match x with
  | none => v = .tuple #[.pointer none, .string (bs [])] ∧ Eng.Own ok w0 w' L
  | some (T, r) => ∃ A : TrA, A.tr = T ∧ v = .tuple #[A.ptr, .string (bs r)] ∧ Eng.Own ok w0 w' (A.items ++ L)

set_option maxHeartbeats 4000000 in
theorem read_own : ∀ (n : Nat) (s : List UInt8), s.length < n → ∀ {ok : Nat → Prop} {w0 w : World} {L : List Eng.Item}, Eng.Own ok w0 w L →
    Calls Tryz.prog 93 #[.string (bs s)] w fun e w' => ∃ v, e = .returned v ∧ ReadR ok w0 L (readM n s) v w' := by
  intro n
  induction n with
  | zero => intro s h; omega
  | succ n ih =>
  intro s hs ok w0 w L H
  refine enterN (args := [.string (bs s)]) Tryz.func93 rfl Tryz.ntmps93 rfl rfl ?_
  refine Eng.nc_seq ?_
  refine nc ?_
  cases s with
  | nil =>
    refine Eng.nc_seq ?_
    refine Eng.nc_block ?_
    refine Eng.nc_seq ?_
    refine nc ?_
    refine Eng.nc_cond rfl (fun hc => ?_) (fun hc => ?_)
    · refine Eng.nc_seq ?_
      refine nc ?_
      refine nc ?_
      exact ret_inA [.pointer none, .string (bs [])] ⟨_, rfl, rfl, H⟩
    · simp [bs_toList] at hc
  | cons c r =>
    have h256 := UInt8.toNat_lt c
    have hidx : idxS (c :: r) (0 : Int) = some (c.toNat : Int) := rfl
    have hsl : slcM (c :: r) (1 : Int) ((c :: r).length : Int) = some r := by rw [show (1 : Int) = ((1 : Nat) : Int) from rfl]; unfold slcM; rw [if_pos ⟨by omega, by simp; omega, by omega⟩]; simp
    refine nc_cut (fun e w' => ¬ (49 ≤ c.toNat ∧ c.toNat ≤ 56) ∧ c = 40 ∧ e = [(0, .string (bs (c :: r)))] ∧ Eng.Own ok w0 w' L) ?_ ?_
    · refine Eng.nc_block ?_
      refine Eng.nc_seq ?_
      refine nc ?_
      refine Eng.nc_cond rfl (fun hc => ?_) (fun hc => ?_)
      · simp [bs_toList] at hc
      refine Eng.nc_seq ?_
      refine nc ?_
      refine idxS_rule (by kernel_rfl) hidx ?_
      refine idxS_rule (by kernel_rfl) hidx ?_
      refine Eng.nc_cond (b := cond (decide ((c.toNat : Int) ≥ 49)) (decide ((c.toNat : Int) ≤ 56)) false) rfl (fun hc => ?_) (fun hc => ?_)
      · have hcc : 49 ≤ c.toNat ∧ c.toNat ≤ 56 := by
          by_cases h1 : (c.toNat : Int) ≥ 49
          · rw [decide_eq_true h1, cond_true, decide_eq_true_eq] at hc; omega
          · rw [decide_eq_false h1] at hc; cases hc
        refine Eng.nc_seq ?_
        refine nc ?_
        refine draw_rule [] (by kernel_rfl) (by kernel_rfl) H ?_
        refine c_idxS (by kernel_rfl) hidx ?_
        refine c_box [.int .i64 (IntKind.i64.wrap (IntKind.u8.wrap ((c.toNat : Int) - 48))), .pointer none, .pointer none] rfl fun b => ?_
        refine c_txtI 1 ((c :: r).length : Int) (by kernel_rfl) ⟨_, rfl⟩ rfl hsl ?_
        intro w1 H
        refine nc ?_
        refine ret_inA [.pointer (some ⟨b, 0, none⟩), .string (bs r)] ⟨_, rfl, ?_⟩
        unfold readM
        rw [if_pos hcc]
        refine ⟨.leaf b ((c.toNat : Int) - 48), rfl, rfl, ?_⟩
        have e : IntKind.i64.wrap (IntKind.u8.wrap ((c.toNat : Int) - 48)) = (c.toNat : Int) - 48 := by
          have e1 : IntKind.u8.wrap ((c.toNat : Int) - 48) = (c.toNat : Int) - 48 := by
            have e : ∀ x : Int, IntKind.u8.wrap x = x % 256 := fun x => by simp [IntKind.wrap, IntKind.bits, IntKind.signed]
            rw [e]; omega
          rw [e1, Eng.i64_id (by omega) (by omega)]
        rw [e] at H
        exact H
      · have hcc : ¬ (49 ≤ c.toNat ∧ c.toNat ≤ 56) := by
          rintro ⟨h1, h2⟩
          rw [decide_eq_true (show (c.toNat : Int) ≥ 49 by omega), decide_eq_true (show (c.toNat : Int) ≤ 56 by omega)] at hc
          cases hc
        refine Eng.nc_seq ?_
        refine nc ?_
        refine idxS_rule (by kernel_rfl) hidx ?_
        refine Eng.nc_cond rfl (fun hc => ?_) (fun hc => ?_)
        · refine Eng.nc_seq ?_
          refine nc ?_
          refine nc ?_
          refine ret_inA [.pointer none, .string (bs [])] ⟨_, rfl, ?_⟩
          have hne : c ≠ 40 := by rintro rfl; cases hc
          unfold readM
          rw [if_neg hcc, if_pos hne]
          exact ⟨rfl, H⟩
        · refine nc ?_
          have h40 : c = 40 := by
            have : ((c.toNat : Int) != 40) = false := hc
            simp at this
            exact UInt8.toNat_inj.1 (by show c.toNat = 40; omega)
          exact cut_inA ⟨hcc, h40, rfl, H⟩
    · rintro _ w1 ⟨hcc, rfl, rfl, H⟩
      refine Eng.nc_seq ?_
      refine nc ?_
      refine own_box H [.int .i64 0, .pointer none, .pointer none] rfl fun b w2 H => ?_
      refine Eng.nc_seq ?_
      refine nc ?_
      refine txtI_rule 1 (((40 : UInt8) :: r).length : Int) (by kernel_rfl) ⟨_, rfl⟩ rfl hsl ?_
      refine call_rule (by kernel_rfl) (ih r (by simp at hs; omega) H) fun v w3 hR => ?_
      unfold readM
      rw [if_neg hcc, if_neg (by decide)]
      cases hr1 : readM n r with
      | none =>
        rw [hr1] at hR
        obtain ⟨rfl, H⟩ := hR
        refine own_store (t := 89) H 0 rfl (by kernel_rfl) (j := 1) rfl rfl fun w4 H => ?_
        refine Eng.nc_seq ?_
        refine nc ?_
        refine own_load H 0 rfl (by kernel_rfl) (j := 1) rfl ?_
        refine eqlNil_rule (by kernel_rfl) ?_
        refine Eng.nc_cond rfl (fun hc => ?_) (fun hc => ?_)
        · refine Eng.nc_seq ?_
          refine nc ?_
          refine nc ?_
          exact ret_inA [.pointer none, .string (bs [])] ⟨_, rfl, rfl, H.tail⟩
        · cases hc
      | some q =>
        obtain ⟨T1, r1⟩ := q
        rw [hr1] at hR
        obtain ⟨A, hA, rfl, H⟩ := hR
        replace H : Eng.Own ok w0 w3 (.blk b [.int .i64 0, .pointer none, .pointer none] 135 :: (A.items ++ L)) := H.perm (List.perm_append_comm_assoc A.items [_] L)
        refine own_store (t := 89) H 0 rfl (by kernel_rfl) (j := 1) rfl rfl fun w4 H => ?_
        refine Eng.nc_seq ?_
        refine nc ?_
        refine own_load H 0 rfl (by kernel_rfl) (j := 1) (v := .pointer (some ⟨A.root, 0, none⟩)) rfl ?_
        refine eqlNil_rule (by kernel_rfl) ?_
        refine Eng.nc_cond rfl (fun hc => ?_) (fun hc => ?_)
        · cases hc
        refine nc ?_
        refine Eng.nc_seq ?_
        refine nc ?_
        have hl1 := readM_len n r _ _ hr1
        refine call_rule (by kernel_rfl) (ih r1 (by simp at hs; omega) H) fun v w5 hR => ?_
        simp only
        cases hr2 : readM n r1 with
        | none =>
          rw [hr2] at hR
          obtain ⟨rfl, H⟩ := hR
          refine own_store (t := 89) H 0 rfl (by kernel_rfl) (j := 2) rfl rfl fun w6 H => ?_
          refine Eng.nc_seq ?_
          refine nc ?_
          refine own_load H 0 rfl (by kernel_rfl) (j := 2) (v := .pointer none) rfl ?_
          refine eqlNil_rule (by kernel_rfl) ?_
          refine call_skip (.bool false) rfl ?_
          refine Eng.nc_cond (b := true) rfl (fun hc => ?_) (fun hc => ?_)
          · refine Eng.nc_seq ?_
            refine nc ?_
            refine nc ?_
            refine ret_inA [.pointer none, .string (bs [])] ⟨_, rfl, rfl, ?_⟩
            exact H.less ((List.sublist_append_right A.items L).trans (List.sublist_cons_self _ _))
          · cases hc
        | some q =>
          obtain ⟨T2, r2⟩ := q
          rw [hr2] at hR
          obtain ⟨B, hB, rfl, H⟩ := hR
          replace H : Eng.Own ok w0 w5 (.blk b [.int .i64 0, A.ptr, .pointer none] 135 :: (A.items ++ (B.items ++ L))) :=
            H.perm ((List.perm_append_comm_assoc B.items [_] (A.items ++ L)).trans (List.Perm.cons _ (List.perm_append_comm_assoc B.items A.items L)))
          refine own_store (t := 89) H 0 rfl (by kernel_rfl) (j := 2) rfl rfl fun w6 H => ?_
          refine Eng.nc_seq ?_
          refine nc ?_
          refine own_load H 0 rfl (by kernel_rfl) (j := 2) (v := .pointer (some ⟨B.root, 0, none⟩)) rfl ?_
          refine eqlNil_rule (by kernel_rfl) ?_
          refine call_yes rfl (by kernel_rfl) (strings_HasPrefix_ok (ok := fun _ => False) (prefix_eq r2 41)) fun v w7 ⟨hv, hb7⟩ => ?_
          subst hv
          replace H := H.call hb7
          replace H : Eng.Own ok w0 w7 (.blk b [.int .i64 0, A.ptr, B.ptr] 135 :: (A.items ++ (B.items ++ L))) := H
          refine Eng.nc_cond (b := !(headIs 41 r2)) rfl (fun hc => ?_) (fun hc => ?_)
          · refine Eng.nc_seq ?_
            refine nc ?_
            refine nc ?_
            refine ret_inA [.pointer none, .string (bs [])] ⟨_, rfl, ?_⟩
            have hL : Eng.Own ok w0 w7 L := H.less (((List.sublist_append_right B.items L).trans (List.sublist_append_right A.items _)).trans (List.sublist_cons_self _ _))
            cases r2 with
            | nil => exact ⟨rfl, hL⟩
            | cons d r3 =>
              have hd : ¬ d = 41 := by simpa [headIs] using hc
              simp only
              rw [if_neg hd]
              exact ⟨rfl, hL⟩
          · cases r2 with
            | nil => simp [headIs] at hc
            | cons d r3 =>
              have hd : d = 41 := by simpa [headIs] using hc
              simp only
              rw [if_pos hd]
              have hsl3 : slcM (d :: r3) (1 : Int) ((d :: r3).length : Int) = some r3 := by rw [show (1 : Int) = ((1 : Nat) : Int) from rfl]; unfold slcM; rw [if_pos ⟨by omega, by simp; omega, by omega⟩]; simp
              refine nc ?_
              refine Eng.nc_seq ?_
              refine nc ?_
              refine draw_rule [] (by kernel_rfl) (by kernel_rfl) H ?_
              refine c_txtI 1 ((d :: r3).length : Int) (by kernel_rfl) ⟨_, rfl⟩ rfl hsl3 ?_
              intro w8 H
              refine nc ?_
              refine ret_inA [.pointer (some ⟨b, 0, none⟩), .string (bs r3)] ⟨_, rfl, .two b A B, ?_, rfl, ?_⟩
              · show Tr.two A.tr B.tr = _
                rw [hA, hB]
              · show Eng.Own ok w0 w8 (.blk b [.int .i64 0, A.ptr, B.ptr] 135 :: ((A.items ++ B.items) ++ L))
                rw [List.append_assoc]
                exact H
end Go.Proofs.YtfapphlhkfddoaaGreatDoor.G
/- Whose a tree is: its leaves, in order. -/
namespace Go.Proofs.YtfapphlhkfddoaaGreatDoor.G
open Go.RowKit Go.Eng Go.Proofs Go.Proofs.YtfapphlhkfddoaaGreatDoor.Cut
set_option linter.unusedVariables false
set_option maxRecDepth 20000
variable {ok : Nat → Prop} {w0 w : World} {L R : List Eng.Item}

/-- append(row, one fresh block), in an open order: the row's value is a slice. -/
theorem c_appendV {P : Program} {ok : Nat → Prop} {w0 : World} {L : List Eng.Item} {KE : Value → List Eng.Item → Prop} {t ty e e' : TypeId} {sz by_ n m c b : Nat} {z v : Value} {xs news : List Value} {consts : Array Bool} (i j : Nat) (hi : L[i]? = some (.row v e sz n xs)) (hj : L[j]? = some (.blk b news e')) (ht : sliceB P t = some e) (hinfo : infoB P e = some (some z, sz, by_)) (hzl : z.cells.toList.length = sz) (hpos : Nat.blt 0 sz = true)
    (hl : news.length = m * sz) (ho : ∀ u ∈ news, oneV u = true) (hb : n + m ≤ 140737488355328) (hb2 : (n + m) * by_ ≤ 140737488355328)
    (hk : ∀ A c, KE (.slice A (n + m) c) (L.set i (.row (.slice A (n + m) c) e sz (n + m) (xs ++ news)))) : cBuiltin P true .append [t, t] ty [v, .slice (some ⟨b, 0, none⟩) m c] consts ok w0 L KE := by
  unfold cBuiltin
  refine cEv_in ⟨fun v' L' => ∃ A c, v' = .slice A (n + m) c ∧ L' = L.set i (.row (.slice A (n + m) c) e sz (n + m) (xs ++ news)), fun h => (by cases h), fun w H => ⟨fun _ => ?_, fun h => by cases h⟩, fun v' L' h _ => by obtain ⟨A, c, rfl, rfl⟩ := h; exact hk A c⟩
  obtain ⟨v', w', hr, hO⟩ := own_rowAppend (ty := ty) (consts := consts) (c := c) H i hi ht hinfo hzl hpos hl (cellsAt_of fun q u hq => by rw [add_at]; exact H.cell j hj (0 + (0 + q)) (by simpa using hq)) ho hb hb2
  have hi' : (L.set i (.row v' e sz (n + m) (xs ++ news)))[i]? = some (.row v' e sz (n + m) (xs ++ news)) := by
    rw [List.getElem?_set_self]
    exact (List.getElem?_eq_some_iff.1 hi).1
  obtain ⟨A, c', hv, _, _⟩ := hO.rowSl i hi'
  subst hv
  show upon P _ ((builtin .append #[t, t] ty consts #[v, .slice (some ⟨b, 0, none⟩) m c]).run P w)
  rw [hr]
  exact ⟨_, ⟨A, c', rfl, rfl⟩, hO⟩
/-- The leaves, from the right. -/
def Tr.leavesR : Tr → List Int
  | .leaf p => [p]
  | .two l r => r.leavesR ++ l.leavesR
def intsV (xs : List Int) : List Value := xs.map (.int .i64 ·)
def doV (cl : Nat) : Value := .func (.func 95) #[] #[.pointer (some ⟨cl, 0, none⟩)]
def walkV (c3 c4 : Nat) : Value := .func (.func 119) #[] #[.pointer (some ⟨c3, 0, none⟩), .pointer (some ⟨c4, 0, none⟩)]
def memL (cl c3 c4 : Nat) (v : Value) (xs : List Int) (R : List Eng.Item) : List Eng.Item :=
  .blk cl [v] 22 :: .row v 3 1 xs.length (intsV xs) :: .blk c3 [doV cl] 133 :: .blk c4 [walkV c3 c4] 169 :: R
theorem at_mem {it : Eng.Item} (h : it ∈ R) : ∃ i : Nat, R[i]? = some it := List.mem_iff_getElem?.1 h
def TrA.top : TrA → Eng.Item
  | .leaf b p => .blk b [.int .i64 p, .pointer none, .pointer none] 135
  | .two b l r => .blk b [.int .i64 0, l.ptr, r.ptr] 135
set_option maxHeartbeats 4000000 in
theorem members1_own {A : TrA} {cl c3 c4 : Nat} {v : Value} {xs : List Int} (hA : A.top ∈ R) (hl : xs.length ≤ 1000000) (H : Eng.Own ok w0 w (memL cl c3 c4 v xs R)) :
    Calls Tryz.prog 95 #[A.ptr, .pointer (some ⟨cl, 0, none⟩)] w fun e w' => ∃ u, e = .returned u ∧ u = .bool true ∧ ∃ v', Eng.Own ok w0 w' (memL cl c3 c4 v' (match A with | .leaf _ p => xs ++ [p] | .two .. => xs) R) := by
  obtain ⟨i, hi⟩ := at_mem hA
  have hi4 : (memL cl c3 c4 v xs R)[i + 4]? = some A.top := hi
  refine enterN (args := [A.ptr, .pointer (some ⟨cl, 0, none⟩)]) Tryz.func95 rfl Tryz.ntmps95 rfl rfl ?_
  refine Eng.nc_seq ?_
  refine nc ?_
  refine Eng.nc_seq ?_
  refine Eng.nc_seq ?_
  refine nc ?_
  cases A with
  | leaf b p =>
    refine own_load H (i + 4) hi4 (by kernel_rfl) (j := 1) rfl ?_
    refine eqlNil_rule (by kernel_rfl) ?_
    refine Eng.nc_cond (b := true) rfl (fun hc => ?_) (fun hc => ?_)
    · refine nc ?_
      refine draw_rule [] (by kernel_rfl) (by kernel_rfl) H ?_
      refine c_load 0 rfl (by kernel_rfl) (j := 0) rfl ?_
      refine c_load (i + 4) hi4 (by kernel_rfl) (j := 0) rfl ?_
      refine c_buildSlice (e := 3) (sz := 1) (z := .int .i64 0) (cs := [.int .i64 p]) (by kernel_rfl) (by kernel_rfl) (by kernel_rfl) rfl rfl rfl rfl fun g => ?_
      refine c_appendV (e := 3) (sz := 1) (z := .int .i64 0) (by_ := 8) (m := 1) 2 0 rfl rfl (by kernel_rfl) (by kernel_rfl) rfl rfl rfl (by intro u hu; simp at hu; subst hu; rfl) (by omega) (by omega) fun A' c' => ?_
      refine c_storeB (m := 1) 1 rfl (by kernel_rfl) [.slice A' (xs.length + 1) c'] rfl rfl rfl rfl ?_
      intro w1 H
      refine Eng.nc_seq ?_
      refine nc ?_
      refine nc ?_
      refine ret_inA [.bool true] ⟨_, rfl, rfl, .slice A' (xs.length + 1) c', ?_⟩
      have e1 : intsV (xs ++ [p]) = intsV xs ++ [.int .i64 p] := by simp [intsV]
      have e2 : (xs ++ [p]).length = xs.length + 1 := by simp
      unfold memL
      rw [e1, e2]
      exact H.tail
    · cases hc
  | two b l r =>
    refine own_load H (i + 4) hi4 (by kernel_rfl) (j := 1) rfl ?_
    refine eqlNil_rule (by kernel_rfl) ?_
    refine Eng.nc_cond (b := false) rfl (fun hc => ?_) (fun hc => ?_)
    · cases hc
    · refine nc ?_
      refine Eng.nc_seq ?_
      refine nc ?_
      refine nc ?_
      exact ret_inA [.bool true] ⟨_, rfl, rfl, v, H⟩
theorem TrA.top_mem (A : TrA) : A.top ∈ A.items := by cases A <;> exact List.mem_cons_self
set_option maxHeartbeats 4000000 in
theorem walk_own {cl c3 c4 : Nat} : ∀ (A : TrA) {xs : List Int} {v : Value} {w : World}, (∀ it ∈ A.items, it ∈ R) → xs.length + A.tr.leavesR.length ≤ 1000000 → Eng.Own ok w0 w (memL cl c3 c4 v xs R) →
    Calls Tryz.prog 119 #[A.ptr, .pointer (some ⟨c3, 0, none⟩), .pointer (some ⟨c4, 0, none⟩)] w fun e w' => ∃ u, e = .returned u ∧ ∃ v', Eng.Own ok w0 w' (memL cl c3 c4 v' (xs ++ A.tr.leavesR) R) := by
  intro A
  induction A with
  | leaf b p =>
    intro xs v w hA hl H
    have hT := hA _ (TrA.top_mem (.leaf b p))
    have hl1 : xs.length ≤ 1000000 := by omega
    refine enterN (args := [(TrA.leaf b p).ptr, .pointer (some ⟨c3, 0, none⟩), .pointer (some ⟨c4, 0, none⟩)]) Tryz.func119 rfl Tryz.ntmps119 rfl rfl ?_
    refine Eng.nc_seq ?_
    refine nc ?_
    refine own_load H 2 rfl (by kernel_rfl) (j := 0) rfl ?_
    refine callV_rule (by kernel_rfl) (members1_own (A := .leaf b p) hT hl1 H) fun u w1 ⟨hu, v', H⟩ => ?_
    subst hu
    obtain ⟨i, hi⟩ := at_mem hT
    have hi4 : (memL cl c3 c4 v' (xs ++ [p]) R)[i + 4]? = some (TrA.leaf b p).top := hi
    refine own_load H (i + 4) hi4 (by kernel_rfl) (j := 1) rfl ?_
    refine neqNil_rule (by kernel_rfl) ?_
    refine Eng.nc_cond (b := false) rfl (fun hc => ?_) (fun hc => ?_)
    · cases hc
    · refine nc ?_
      exact ret_inA [] ⟨_, rfl, v', H⟩
  | two b l r ihl ihr =>
    intro xs v w hA hl H
    have hT := hA _ (TrA.top_mem (.two b l r))
    have hsub : ∀ it ∈ l.items ++ r.items, it ∈ R := fun it h => hA it (List.mem_cons_of_mem _ h)
    have hl' : xs.length + (r.tr.leavesR.length + l.tr.leavesR.length) ≤ 1000000 := by
      have : (TrA.two b l r).tr.leavesR.length = r.tr.leavesR.length + l.tr.leavesR.length := by simp [TrA.tr, Tr.leavesR]
      omega
    refine enterN (args := [(TrA.two b l r).ptr, .pointer (some ⟨c3, 0, none⟩), .pointer (some ⟨c4, 0, none⟩)]) Tryz.func119 rfl Tryz.ntmps119 rfl rfl ?_
    refine Eng.nc_seq ?_
    refine nc ?_
    refine own_load H 2 rfl (by kernel_rfl) (j := 0) rfl ?_
    refine callV_rule (by kernel_rfl) (members1_own (A := .two b l r) hT (by omega) H) fun u w1 ⟨hu, v1, H⟩ => ?_
    subst hu
    replace H : Eng.Own ok w0 w1 (memL cl c3 c4 v1 xs R) := H
    obtain ⟨i, hi⟩ := at_mem hT
    have hi4 : ∀ v xs, (memL cl c3 c4 v xs R)[i + 4]? = some (TrA.two b l r).top := fun v xs => hi
    refine own_load H (i + 4) (hi4 _ _) (by kernel_rfl) (j := 1) (v := .pointer (some ⟨l.root, 0, none⟩)) rfl ?_
    refine neqNil_rule (by kernel_rfl) ?_
    refine Eng.nc_cond (b := true) rfl (fun hc => ?_) (fun hc => ?_)
    · refine Eng.nc_seq ?_
      refine nc ?_
      refine draw_rule [] (by kernel_rfl) (by kernel_rfl) H ?_
      refine c_load 3 rfl (by kernel_rfl) (j := 0) rfl ?_
      refine c_load (i + 4) (hi4 _ _) (by kernel_rfl) (j := 2) (v := r.ptr) rfl ?_
      refine c_callV (fun _ L' => ∃ v', L' = memL cl c3 c4 v' (xs ++ r.tr.leavesR) R) rfl (by kernel_rfl) (fun w H => (ihr (fun it h => hsub it (List.mem_append_right _ h)) (by omega) H).mono fun e w' ⟨u, he, v', H'⟩ => ⟨u, he, _, ⟨v', rfl⟩, H'⟩) fun u L' ⟨v2, hL'⟩ => ?_
      subst hL'
      intro w2 H
      refine nc ?_
      refine draw_rule [] (by kernel_rfl) (by kernel_rfl) H ?_
      refine c_load 3 rfl (by kernel_rfl) (j := 0) rfl ?_
      refine c_load (i + 4) (hi4 _ _) (by kernel_rfl) (j := 1) (v := l.ptr) rfl ?_
      refine c_callV (fun _ L' => ∃ v', L' = memL cl c3 c4 v' ((xs ++ r.tr.leavesR) ++ l.tr.leavesR) R) rfl (by kernel_rfl) (fun w H => (ihl (fun it h => hsub it (List.mem_append_left _ h)) (by rw [List.length_append]; omega) H).mono fun e w' ⟨u, he, v', H'⟩ => ⟨u, he, _, ⟨v', rfl⟩, H'⟩) fun u L' ⟨v3, hL'⟩ => ?_
      subst hL'
      intro w3 H
      refine ret_inA [] ⟨_, rfl, v3, ?_⟩
      rw [List.append_assoc] at H
      exact H
    · cases hc
end Go.Proofs.YtfapphlhkfddoaaGreatDoor.G
/- Whose a tree is, and whether a text is one. -/
namespace Go.Proofs.YtfapphlhkfddoaaGreatDoor.G
open Go.RowKit Go.Eng Go.Proofs Go.Proofs.YtfapphlhkfddoaaGreatDoor.Cut
set_option linter.unusedVariables false
set_option maxRecDepth 20000
variable {ok : Nat → Prop} {w0 w : World} {L R : List Eng.Item}

/-- The first ones, in another order. -/
theorem order_own {A : List Eng.Item} (H : Eng.Own ok w0 w (A ++ R)) (is : List Nat) (hp : (List.range A.length).Perm is) : Eng.Own ok w0 w ((is.map fun i => A.getD i (.blk 0 [] 0)) ++ R) := by
  refine H.perm (List.Perm.append_right R ?_)
  have e : A = (List.range A.length).map fun i => A.getD i (.blk 0 [] 0) := by
    apply List.ext_getElem?
    intro i
    by_cases h : i < A.length
    · simp [h, List.getD_eq_getElem?_getD]
    · simp [h]
  conv => lhs; rw [e]
  exact hp.map _
theorem leavesR_pos (T : Tr) : 0 < T.leavesR.length := by
  induction T with
  | leaf p => simp [Tr.leavesR]
  | two l r ihl ihr => simp only [Tr.leavesR, List.length_append]; omega
set_option maxHeartbeats 4000000 in
theorem nodeMembers_in {A : TrA} (hs : ∀ it ∈ A.items, it ∈ R) (hl : A.tr.leavesR.length ≤ 1000000) (H : Eng.Own ok w0 w R) :
    Calls Tryz.prog 49 #[A.ptr] w fun e w' => ∃ u, e = .returned u ∧ Eng.Own ok w0 w' (.row u 3 1 (sortZ A.tr.leavesR).length (intsV (sortZ A.tr.leavesR)) :: R) := by
  refine enterN (args := [A.ptr]) Tryz.func49 rfl Tryz.ntmps49 rfl rfl ?_
  refine Eng.nc_seq ?_
  refine nc ?_
  refine Eng.nc_seq ?_
  refine nc ?_
  refine own_alloc (z := .slice none 0 0) H (by kernel_rfl) [.slice none 0 0] rfl fun cl w1 H => ?_
  refine Eng.nc_seq ?_
  refine nc ?_
  have hE : Calls Tryz.prog 85 #[A.ptr, doV cl] w1 fun e w' => ∃ u, e = .returned u ∧ ∃ c3 c4 v', Eng.Own ok w0 w' (memL cl c3 c4 v' ([] ++ A.tr.leavesR) R) := by
    refine enterN (args := [A.ptr, doV cl]) Tryz.func85 rfl Tryz.ntmps85 rfl rfl ?_
    refine Eng.nc_seq ?_
    refine nc ?_
    refine own_box H [doV cl] rfl fun c3 w2 H => ?_
    refine Eng.nc_seq ?_
    refine nc ?_
    refine own_alloc (z := .nilFunc) H (by kernel_rfl) [.nilFunc] rfl fun c4 w3 H => ?_
    refine Eng.nc_seq ?_
    refine nc ?_
    refine own_store (t := 169) H 0 rfl (by kernel_rfl) (j := 0) rfl rfl fun w4 H => ?_
    refine nc ?_
    have H0 : Eng.Own ok w0 w4 (memL cl c3 c4 (.slice none 0 0) [] R) :=
      order_own (A := [.row (.slice none 0 0) 3 1 0 [], .blk c4 [walkV c3 c4] 169, .blk c3 [doV cl] 133, .blk cl [.slice none 0 0] 22]) (H.nilRow 3 1) [3, 0, 2, 1] (by show (List.range 4).Perm _; decide)
    refine own_load H0 3 rfl (by kernel_rfl) (j := 0) rfl ?_
    refine callV_rule (by kernel_rfl) (walk_own (R := R) A hs (by simpa using hl) H0) fun u w5 ⟨v', H⟩ => ?_
    exact ret_inA [] ⟨_, rfl, c3, c4, v', H⟩
  refine call_rule (by kernel_rfl) hE fun u w2 ⟨c3, c4, v', H⟩ => ?_
  rw [List.nil_append] at H
  replace H : Eng.Own ok w0 w2 (.blk cl [v'] 22 :: .row v' 3 1 A.tr.leavesR.length (intsV A.tr.leavesR) :: R) := H.less (List.Sublist.cons_cons _ (List.Sublist.cons_cons _ (List.Sublist.cons _ (List.Sublist.cons _ (List.Sublist.refl _)))))
  refine Eng.nc_seq ?_
  refine nc ?_
  refine own_load H 0 rfl (by kernel_rfl) (j := 0) rfl ?_
  refine call_rule (by kernel_rfl) (sort1_own (A := [.blk cl [v'] 22]) (enc := (Value.int .i64)) sortI_at sortZ_len (leavesR_pos _) (by omega) H) fun u w3 ⟨hu, H⟩ => ?_
  subst hu
  replace H : Eng.Own ok w0 w3 (.blk cl [v'] 22 :: .row v' 3 1 A.tr.leavesR.length (intsV (sortZ A.tr.leavesR)) :: R) := H
  refine Eng.nc_seq ?_
  refine nc ?_
  refine own_load H 0 rfl (by kernel_rfl) (j := 0) rfl ?_
  refine nc ?_
  refine ret_inA [v'] ⟨_, rfl, ?_⟩
  rw [sortZ_len]
  exact H.tail
theorem nodeMembers_own {A : TrA} (hl : A.tr.leavesR.length ≤ 1000000) (H : Eng.Own ok w0 w (A.items ++ L)) :
    Calls Tryz.prog 49 #[A.ptr] w fun e w' => ∃ u, e = .returned u ∧ Eng.Own ok w0 w' (.row u 3 1 (sortZ A.tr.leavesR).length (intsV (sortZ A.tr.leavesR)) :: (A.items ++ L)) := nodeMembers_in (fun it h => List.mem_append_left _ h) hl H
/-! Whether a text is a tree. -/
def rowRes : Int → List Int → Int ⊕ Bool
  | last, [] => .inl last
  | last, x :: xs => if x ≤ last ∨ 8 < x then .inr false else rowRes x xs
/-- Do numbers rise, from 1 to 8, and are there any? -/
def rowB (xs : List Int) : Bool := match rowRes 0 xs with
  | .inl l => decide (l > 0)
  | .inr b => b
theorem row_loop (xs : List Int) (hl : xs.length ≤ 1000000000) : ∀ (k i : Nat) (last : Int), i + k = xs.length → loopM (fun s98 : Int × Int => view_Row.b1 xs s98.1 s98.2) (last, (i : Int)) = some (rowRes last (xs.drop i)) := by
  intro k
  induction k with
  | zero =>
    intro i last hi
    rw [List.drop_of_length_le (by omega)]
    refine loop_end ?_
    show view_Row.b1 xs last (i : Int) = _
    unfold view_Row.b1
    rw [decide_eq_false (show ¬ (i : Int) < (xs.length : Int) by omega)]; rfl
  | succ k ih =>
    intro i last hi
    have hil : i < xs.length := by omega
    rw [List.drop_eq_getElem_cons hil]
    unfold rowRes
    have hx : idxL xs (i : Int) = some xs[i] := by rw [idxL_nat, List.getElem?_eq_getElem hil]
    have hw : IntKind.i64.wrap ((i : Int) + (1 : Int)) = ((i + 1 : Nat) : Int) := by rw [Eng.i64_id (by omega) (by omega)]; omega
    have hbody : view_Row.b1 xs last (i : Int) = if xs[i] ≤ last ∨ 8 < xs[i] then some (.inr (.inr false)) else some (.inl (xs[i], ((i + 1 : Nat) : Int))) := by
      unfold view_Row.b1
      rw [decide_eq_true (show (i : Int) < (xs.length : Int) by omega), cond_true, hx, Option.bind_some, hw]
      by_cases h1 : xs[i] ≤ last
      · rw [decide_eq_true h1, if_pos (.inl h1)]; rfl
      · rw [decide_eq_false h1]
        by_cases h2 : 8 < xs[i]
        · rw [decide_eq_true (show xs[i] > 8 from h2), if_pos (.inr h2)]; rfl
        · rw [decide_eq_false (show ¬ xs[i] > 8 from h2), if_neg (fun q => q.elim h1 h2)]; rfl
    by_cases hc : xs[i] ≤ last ∨ 8 < xs[i]
    · rw [if_pos hc] at hbody ⊢; exact loop_end hbody
    · rw [if_neg hc] at hbody ⊢; exact loop_step hbody (ih (i + 1) _ (by omega))
theorem row_eq (xs : List Int) (hl : xs.length ≤ 1000000000) : view_Row.f xs = some (rowB xs) := by
  unfold view_Row.f rowB
  have h := row_loop xs hl xs.length 0 0 (by omega)
  rw [show loopM (fun s98 : Int × Int => view_Row.b1 xs s98.1 s98.2) ((0 : Int), (0 : Int)) = _ from h, List.drop_zero]
  cases rowRes 0 xs <;> rfl
theorem readM_leaves : ∀ (n : Nat) (s : List UInt8) (T : Tr) (r : List UInt8), readM n s = some (T, r) → T.leavesR.length + r.length ≤ s.length
  | 0, s, T, r, h => by simp [readM] at h
  | n + 1, [], T, r, h => by simp [readM] at h
  | n + 1, c :: q, T, r, h => by
    unfold readM at h
    split at h
    · cases h; simp [Tr.leavesR]; omega
    · split at h
      · cases h
      · cases h1 : readM n q with
        | none => rw [h1] at h; cases h
        | some x =>
          obtain ⟨a, r1⟩ := x
          rw [h1] at h
          simp only at h
          cases h2 : readM n r1 with
          | none => rw [h2] at h; cases h
          | some y =>
            obtain ⟨b, r2⟩ := y
            rw [h2] at h
            simp only at h
            have l1 := readM_leaves n q a r1 h1
            have l2 := readM_leaves n r1 b r2 h2
            cases r2 with
            | nil => cases h
            | cons d r3 =>
              simp only at h
              split at h
              · cases h; simp [Tr.leavesR] at l2 ⊢; omega
              · cases h
def ofM (s : List UInt8) : Option Tr := match readM (s.length + 1) s with
  | some (T, []) => if rowB (sortZ T.leavesR) = true then some T else none
  | _ => none
theorem ofM_leaves {s : List UInt8} {T : Tr} (h : ofM s = some T) : T.leavesR.length ≤ s.length := by
  unfold ofM at h
  split at h
  · rename_i T' hr
    split at h
    · cases h
      have := readM_leaves _ _ _ _ hr
      simp at this; omega
    · cases h
  · cases h
def OfR (ok : Nat → Prop) (w0 : World) (L : List Eng.Item) (x : Option Tr) (v : Value) (w' : World) : Prop :=
  match x with
  | none => v = .pointer none ∧ Eng.Own ok w0 w' L
  | some T => ∃ A : TrA, A.tr = T ∧ v = A.ptr ∧ Eng.Own ok w0 w' (A.items ++ L)
theorem rowsR_ints (w : World) (ok : Nat → Prop) : ∀ xs : List Int, rowsR (tInt .i64) w ok xs (intsV xs)
  | [] => rfl
  | x :: xs => ⟨[.int .i64 x], intsV xs, rfl, rfl, rowsR_ints w ok xs⟩
set_option maxHeartbeats 4000000 in
theorem treeOf_own {s : List UInt8} (hs : s.length ≤ 1000000) (H : Eng.Own ok w0 w L) :
    Calls Tryz.prog 48 #[.string (bs s)] w fun e w' => ∃ v, e = .returned v ∧ OfR ok w0 L (ofM s) v w' := by
  refine enterN (args := [.string (bs s)]) Tryz.func48 rfl Tryz.ntmps48 rfl rfl ?_
  refine Eng.nc_seq ?_
  refine nc ?_
  refine Eng.nc_seq ?_
  refine nc ?_
  refine call_rule (by kernel_rfl) (read_own (s.length + 1) s (by omega) H) fun v w1 hR => ?_
  unfold ofM
  cases hr : readM (s.length + 1) s with
  | none =>
    rw [hr] at hR
    obtain ⟨rfl, H⟩ := hR
    refine Eng.nc_seq ?_
    refine nc ?_
    refine eqlNil_rule (by kernel_rfl) ?_
    refine call_skip (.bool false) rfl ?_
    refine call_skip (.bool false) rfl ?_
    refine Eng.nc_cond (b := true) rfl (fun hc => ?_) (fun hc => ?_)
    · refine Eng.nc_seq ?_
      refine nc ?_
      refine nc ?_
      exact ret_inA [.pointer none] ⟨_, rfl, rfl, H⟩
    · cases hc
  | some q =>
    obtain ⟨T, r⟩ := q
    rw [hr] at hR
    obtain ⟨A, hA, rfl, H⟩ := hR
    have hlen := readM_leaves _ _ _ _ hr
    refine Eng.nc_seq ?_
    refine nc ?_
    refine eqlNil_rule (p := some ⟨A.root, 0, none⟩) (by kernel_rfl) ?_
    cases r with
    | cons d r =>
      have hg : ((bs (d :: r)).toList == ({ data := #[] } : ByteArray).toList) = false := by simp [bs_toList]
      refine call_skip (.bool false) (by show (!(!((bs (d :: r)).toList == ({ data := #[] } : ByteArray).toList)) && true) = false; rw [hg]; rfl) ?_
      refine call_skip (.bool false) (by show (!(!((bs (d :: r)).toList == ({ data := #[] } : ByteArray).toList)) && true) = false; rw [hg]; rfl) ?_
      refine Eng.nc_cond (b := cond (!((bs (d :: r)).toList == ({ data := #[] } : ByteArray).toList)) true (!false)) rfl (fun hc => ?_) (fun hc => ?_)
      · refine Eng.nc_seq ?_
        refine nc ?_
        refine nc ?_
        refine ret_inA [.pointer none] ⟨_, rfl, rfl, ?_⟩
        exact H.less (List.sublist_append_right A.items L)
      · rw [hg] at hc; cases hc
    | nil =>
      have hlA : A.tr.leavesR.length ≤ 1000000 := by rw [hA]; simp at hlen; omega
      have hg0 : ((bs []).toList == ({ data := #[] } : ByteArray).toList) = true := by simp [bs_toList]
      refine call_yes (by show (!(!((bs []).toList == ({ data := #[] } : ByteArray).toList)) && true) = true; rw [hg0]; rfl) (by kernel_rfl) (nodeMembers_own hlA H) fun u w2 H => ?_
      have hrow : slR (tInt .i64) w2 (fun _ => True) u (sortZ A.tr.leavesR) := H.rowSlR (k := tInt .i64) 0 rfl (rowsR_ints w2 (fun _ => True) _)
      refine call_yes (by show (!(!((bs []).toList == ({ data := #[] } : ByteArray).toList)) && true) = true; rw [hg0]; rfl) (by kernel_rfl) (view_Row_ok hrow (row_eq _ (by rw [sortZ_len]; omega))) fun v w3 ⟨hv, hb3⟩ => ?_
      subst hv
      replace H := (H.call hb3).tail
      rw [hA]
      refine Eng.nc_cond (b := cond (!((bs []).toList == ({ data := #[] } : ByteArray).toList)) true (!(rowB (sortZ T.leavesR)))) rfl (fun hc => ?_) (fun hc => ?_)
      · refine Eng.nc_seq ?_
        refine nc ?_
        refine nc ?_
        refine ret_inA [.pointer none] ⟨_, rfl, ?_⟩
        rw [hg0] at hc
        simp only
        rw [if_neg (by simpa using hc)]
        exact ⟨rfl, H.less (List.sublist_append_right A.items L)⟩
      · refine nc ?_
        refine Eng.nc_seq ?_
        refine nc ?_
        refine nc ?_
        refine ret_inA [A.ptr] ⟨_, rfl, ?_⟩
        rw [hg0] at hc
        simp only
        rw [if_pos (by simpa using hc)]
        exact ⟨A, hA, rfl, H⟩
/-! What the package tells. -/
set_option maxHeartbeats 2000000 in
theorem treeRight_calls {s : List UInt8} (hs : s.length ≤ 1000000) : Calls Tryz.prog 76 #[.string (bs s)] w fun e w' => ∃ v, e = .returned v ∧ (v = .bool (ofM s).isSome ∧ Bel w.heap.size w w') := by
  have H : Eng.Own (fun _ => False) w w [] := Eng.Own.nil _ w
  refine enterN (args := [.string (bs s)]) Tryz.func76 rfl Tryz.ntmps76 rfl rfl ?_
  refine Eng.nc_seq ?_
  refine nc ?_
  refine Eng.nc_seq ?_
  refine nc ?_
  refine call_rule (by kernel_rfl) (treeOf_own hs H) fun v w1 hR => ?_
  cases ho : ofM s with
  | none =>
    rw [ho] at hR
    obtain ⟨rfl, H⟩ := hR
    refine neqNil_rule (by kernel_rfl) ?_
    refine nc ?_
    exact ret_inA [.bool false] ⟨_, rfl, rfl, H.frame⟩
  | some T =>
    rw [ho] at hR
    obtain ⟨A, hA, rfl, H⟩ := hR
    refine neqNil_rule (p := some ⟨A.root, 0, none⟩) (by kernel_rfl) ?_
    refine nc ?_
    exact ret_inA [.bool true] ⟨_, rfl, rfl, H.frame⟩
/-- The members of a tree, in order; none where it is none. -/
def membersM (s : List UInt8) : List Int := match ofM s with
  | some T => sortZ T.leavesR
  | none => []
set_option maxHeartbeats 2000000 in
theorem treeMembers_calls {s : List UInt8} (hs : s.length ≤ 1000000) : Calls Tryz.prog 14 #[.string (bs s)] w fun e w' => ∃ v, e = .returned v ∧ (slR (tInt .i64) w' (fun b => ok b ∨ w.heap.size ≤ b) v (membersM s) ∧ Bel w.heap.size w w') := by
  have H : Eng.Own ok w w [] := Eng.Own.nil _ w
  refine enterN (args := [.string (bs s)]) Tryz.func14 rfl Tryz.ntmps14 rfl rfl ?_
  refine Eng.nc_seq ?_
  refine nc ?_
  refine Eng.nc_seq ?_
  refine nc ?_
  refine call_rule (by kernel_rfl) (treeOf_own hs H) fun v w1 hR => ?_
  unfold membersM
  cases ho : ofM s with
  | none =>
    rw [ho] at hR
    obtain ⟨rfl, H⟩ := hR
    refine Eng.nc_seq ?_
    refine nc ?_
    refine neqNil_rule (by kernel_rfl) ?_
    refine Eng.nc_cond (b := false) rfl (fun hc => ?_) (fun hc => ?_)
    · cases hc
    · refine nc ?_
      refine Eng.nc_seq ?_
      refine nc ?_
      refine nc ?_
      exact ret_inA [.slice none 0 0] ⟨_, rfl, ⟨none, 0, rfl, Nat.le_refl _, .inl ⟨rfl, fun _ => rfl⟩⟩, H.frame⟩
  | some T =>
    rw [ho] at hR
    obtain ⟨A, hA, rfl, H⟩ := hR
    have hlT := ofM_leaves ho
    have hlA : A.tr.leavesR.length ≤ 1000000 := by rw [hA]; omega
    refine Eng.nc_seq ?_
    refine nc ?_
    refine neqNil_rule (p := some ⟨A.root, 0, none⟩) (by kernel_rfl) ?_
    refine Eng.nc_cond (b := true) rfl (fun hc => ?_) (fun hc => ?_)
    · refine Eng.nc_seq ?_
      refine nc ?_
      refine call_rule (by kernel_rfl) (nodeMembers_own hlA H) fun u w2 H => ?_
      refine nc ?_
      refine ret_inA [u] ⟨_, rfl, ?_, H.frame⟩
      rw [← hA]
      exact H.rowSlRin (k := tInt .i64) (okr := fun _ => False) 0 rfl (rowsR_ints w2 (fun _ => False) _) (fun b h => h.elim) (fun b h => .inr h)
    · cases hc
end Go.Proofs.YtfapphlhkfddoaaGreatDoor.G
/- A tree's two halves. -/
namespace Go.Proofs.YtfapphlhkfddoaaGreatDoor.G
open Go.RowKit Go.Eng Go.Proofs Go.Proofs.YtfapphlhkfddoaaGreatDoor.Cut
set_option linter.unusedVariables false
set_option maxRecDepth 20000
variable {ok : Nat → Prop} {w0 w : World} {L R : List Eng.Item}

def openI (c : UInt8) (o : Int) : Int := if c = 40 then o + 1 else if c = 41 then o - 1 else o
/-- Behind how many bytes the brackets are all shut for the first time. -/
def cutAt : List UInt8 → Int → Nat → Option Nat
  | [], _, _ => none
  | c :: r, o, i => if openI c o = 0 then some (i + 1) else cutAt r (openI c o) (i + 1)
def halvesM (s : List UInt8) : List UInt8 × List UInt8 × Bool :=
  if s.length < 2 then ([], [], false) else
  match cutAt ((s.drop 1).take (s.length - 2)) 0 0 with
  | some k => (((s.drop 1).take (s.length - 2)).take k, ((s.drop 1).take (s.length - 2)).drop k, true)
  | none => ([], [], false)
set_option maxHeartbeats 4000000 in
theorem halves_calls {s : List UInt8} (hs : s.length ≤ 1000000) (ha : ∀ c ∈ s, c.toNat < 128) : Calls Tryz.prog 113 #[.string (bs s)] w fun e w' => ∃ v, e = .returned v ∧ (v = .tuple #[.string (bs (halvesM s).1), .string (bs (halvesM s).2.1), .bool (halvesM s).2.2] ∧ Bel w.heap.size w w') := by
  have H : Eng.Own (fun _ => False) w w [] := Eng.Own.nil _ w
  refine enterN (args := [.string (bs s)]) Tryz.func113 rfl Tryz.ntmps113 rfl rfl ?_
  refine Eng.nc_seq ?_
  refine nc ?_
  refine Eng.nc_seq ?_
  refine Eng.nc_seq ?_
  refine nc ?_
  refine Eng.nc_cond (b := decide (((bs s).size : Int) < 2)) rfl (fun hc => ?_) (fun hc => ?_)
  · refine Eng.nc_seq ?_
    refine nc ?_
    refine nc ?_
    refine ret_inA [.string (bs []), .string (bs []), .bool false] ⟨_, rfl, ?_, H.frame⟩
    have hl : s.length < 2 := by have := of_decide_eq_true hc; rw [bs_size] at this; omega
    unfold halvesM
    rw [if_pos hl]; rfl
  · have hl : ¬ s.length < 2 := by have := of_decide_eq_false hc; rw [bs_size] at this; omega
    have hinner : slcM s (1 : Int) (IntKind.i64.wrap (((bs s).size : Int) - 1)) = some ((s.drop 1).take (s.length - 2)) := by
      rw [bs_size, Eng.i64_id (by omega) (by omega)]
      unfold slcM
      rw [if_pos ⟨by omega, by omega, by omega⟩]
      congr 2
      omega
    generalize hin : (s.drop 1).take (s.length - 2) = inner at hinner
    have hil : inner.length ≤ 1000000 := by rw [← hin, List.length_take]; omega
    have hia : ∀ c ∈ inner, c.toNat < 128 := fun c hc => ha c (List.mem_of_mem_drop (List.mem_of_mem_take (by rw [hin]; exact hc)))
    have hM : halvesM s = match cutAt inner 0 0 with
      | some k => (inner.take k, inner.drop k, true)
      | none => ([], [], false) := by unfold halvesM; rw [if_neg hl, hin]
    rw [hM]
    refine nc ?_
    refine Eng.nc_seq ?_
    refine nc ?_
    refine txtI_rule 1 (IntKind.i64.wrap (((bs s).size : Int) - 1)) (by kernel_rfl) ⟨_, rfl⟩ ⟨_, rfl⟩ hinner ?_
    refine Eng.nc_seq ?_
    refine nc ?_
    refine nc_cut (fun e w' => cutAt inner 0 0 = none ∧ e = [] ∧ Eng.Own (fun _ => False) w w' []) ?_ ?_
    · refine Eng.nc_seq ?_
      refine nc ?_
      refine rangeStr_rule (by kernel_rfl) H fun r w1 H => ?_
      refine Eng.nc_block ?_
      refine nc ?_
      refine loop_ruleA (fun k e w' => ∃ (pos : Nat) (o : Int), pos + k = inner.length + 1 ∧ -1000000 ≤ o + pos ∧ o ≤ pos ∧ -(pos : Int) ≤ o ∧ cutAt inner 0 0 = cutAt (inner.drop pos) o pos ∧ e = [(5, .string (bs inner)), (6, .int .i64 o), (18, .pointer (some ⟨r, 0, none⟩))] ∧ Eng.Own (fun _ => False) w w' [.obj r (· = .stringIter (bs inner) pos)]) (k₀ := inner.length + 1) ⟨0, 0, by omega, by omega, by omega, by omega, rfl, rfl, H⟩ ?_
      rintro k e w2 ⟨pos, o, hk, ho1, ho2, ho3, hcut, rfl, H⟩
      refine Eng.nc_seq ?_
      refine nc ?_
      refine nextStr_rule hia H 0 rfl (fun hend => ?_) (fun c w3 hc H => ?_)
      · refine Eng.nc_seq ?_
        refine Eng.nc_cond (b := false) rfl (fun hc => ?_) (fun hc => ?_)
        · cases hc
        · refine nc ?_
          refine cut_inA ⟨?_, rfl, H.less (List.nil_sublist _)⟩
          rw [hcut, List.drop_of_length_le (by omega)]; rfl
      · have hpl := (List.getElem?_eq_some_iff.1 hc).1
        have hdrop : inner.drop pos = c :: inner.drop (pos + 1) := by
          rw [List.drop_eq_getElem_cons hpl]
          congr 1
          exact (List.getElem?_eq_some_iff.1 hc).2
        have h256 := UInt8.toNat_lt c
        obtain ⟨k, rfl⟩ : ∃ m, k = m + 1 := ⟨k - 1, by omega⟩
        refine Eng.nc_seq ?_
        refine Eng.nc_cond (b := true) rfl (fun hc2 => ?_) (fun hc2 => ?_)
        · refine nc ?_
          refine Eng.nc_block ?_
          refine Eng.nc_seq ?_
          refine nc ?_
          refine nc_cut (fun e w' => ∃ o2, o2 = openI c o ∧ e = [(5, .string (bs inner)), (6, .int .i64 o2), (7, .int .i64 (pos : Int)), (18, .pointer (some ⟨r, 0, none⟩))] ∧ Eng.Own (fun _ => False) w w' [.obj r (· = .stringIter (bs inner) (pos + 1))]) ?_ ?_
          · have hw1 : IntKind.i64.wrap (o + 1) = o + 1 := Eng.i64_id (by omega) (by omega)
            have hw2 : IntKind.i64.wrap (o - 1) = o - 1 := Eng.i64_id (by omega) (by omega)
            refine Eng.nc_seq ?_
            refine nc ?_
            refine Eng.nc_block ?_
            refine Eng.nc_seq ?_
            refine nc ?_
            refine Eng.nc_cond (b := ((c.toNat : Int) == 40)) rfl (fun h1 => ?_) (fun h1 => ?_)
            · have hc40 : c = 40 := UInt8.toNat_inj.1 (by show c.toNat = 40; simp at h1; omega)
              refine nc ?_
              refine cut_inA ⟨_, ?_, rfl, H⟩
              rw [hw1]
              unfold openI
              rw [if_pos hc40]
            · have hc40 : c ≠ 40 := by rintro rfl; cases h1
              refine Eng.nc_seq ?_
              refine nc ?_
              refine Eng.nc_cond (b := ((c.toNat : Int) == 41)) rfl (fun h2 => ?_) (fun h2 => ?_)
              · have hc41 : c = 41 := UInt8.toNat_inj.1 (by show c.toNat = 41; simp at h2; omega)
                refine nc ?_
                refine cut_inA ⟨_, ?_, rfl, H⟩
                rw [hw2]
                unfold openI
                rw [if_neg hc40, if_pos hc41]
              · have hc41 : c ≠ 41 := by rintro rfl; cases h2
                refine nc ?_
                refine cut_inA ⟨_, ?_, rfl, H⟩
                unfold openI
                rw [if_neg hc40, if_neg hc41]
          · rintro _ w4 ⟨_, rfl, rfl, H⟩
            have hstep : cutAt (inner.drop pos) o pos = if openI c o = 0 then some (pos + 1) else cutAt (inner.drop (pos + 1)) (openI c o) (pos + 1) := by rw [hdrop]; rfl
            have hpw : IntKind.i64.wrap ((pos : Int) + 1) = ((pos + 1 : Nat) : Int) := by rw [Eng.i64_id (by omega) (by omega)]; omega
            have hoI : openI c o ≤ ((pos + 1 : Nat) : Int) ∧ -((pos + 1 : Nat) : Int) ≤ openI c o := by
              unfold openI
              split
              · omega
              · split <;> omega
            refine Eng.nc_seq ?_
            refine nc ?_
            refine Eng.nc_cond (b := (openI c o == 0)) rfl (fun h1 => ?_) (fun h1 => ?_)
            · have h0 : openI c o = 0 := by simpa using h1
              rw [if_pos h0] at hstep
              rw [hcut, hstep]
              have s1 : slcM inner (0 : Int) (IntKind.i64.wrap ((pos : Int) + 1)) = some (inner.take (pos + 1)) := by
                rw [hpw]
                unfold slcM
                rw [if_pos ⟨by omega, by omega, by omega⟩]
                simp
              have s2 : slcM inner (IntKind.i64.wrap ((pos : Int) + 1)) (inner.length : Int) = some (inner.drop (pos + 1)) := by
                rw [hpw]
                unfold slcM
                rw [if_pos ⟨by omega, by omega, by omega⟩]
                rw [List.take_of_length_le (by rw [List.length_drop]; omega)]; rfl
              refine Eng.nc_seq ?_
              refine nc ?_
              refine draw_rule [] (by kernel_rfl) (by kernel_rfl) H ?_
              refine c_txtI 0 (IntKind.i64.wrap ((pos : Int) + 1)) (by kernel_rfl) rfl ⟨_, rfl⟩ s1 ?_
              refine c_txtI (IntKind.i64.wrap ((pos : Int) + 1)) (inner.length : Int) (by kernel_rfl) ⟨_, rfl⟩ rfl s2 ?_
              intro w5 H
              refine nc ?_
              exact ret_inA [.string (bs (inner.take (pos + 1))), .string (bs (inner.drop (pos + 1))), .bool true] ⟨_, rfl, rfl, H.frame⟩
            · have h0 : ¬ openI c o = 0 := by simpa using h1
              rw [if_neg h0] at hstep
              refine nc ?_
              exact again_inA ⟨pos + 1, openI c o, by omega, by omega, hoI.1, hoI.2, by rw [hcut, hstep], rfl, H⟩
        · cases hc2
    · rintro _ w2 ⟨hcut, rfl, H⟩
      rw [hcut]
      refine Eng.nc_seq ?_
      refine nc ?_
      refine nc ?_
      exact ret_inA [.string (bs []), .string (bs []), .bool false] ⟨_, rfl, rfl, H.frame⟩
end Go.Proofs.YtfapphlhkfddoaaGreatDoor.G
/- A tree's text, and its halves. -/
namespace Go.Proofs.YtfapphlhkfddoaaGreatDoor.G
open Go.RowKit Go.Eng Go.Proofs Go.Proofs.YtfapphlhkfddoaaGreatDoor.Cut
set_option linter.unusedVariables false
set_option linter.unusedSimpArgs false

def Tr.text : Tr → List UInt8
  | .leaf p => [UInt8.ofNat (p.toNat + 48)]
  | .two l r => 40 :: (l.text ++ (r.text ++ [41]))
def Tr.ok : Tr → Prop
  | .leaf p => 1 ≤ p ∧ p ≤ 8
  | .two l r => l.ok ∧ r.ok
theorem readM_text : ∀ (n : Nat) (s : List UInt8) (T : Tr) (r : List UInt8), readM n s = some (T, r) → s = T.text ++ r ∧ T.ok
  | 0, s, T, r, h => by simp [readM] at h
  | n + 1, [], T, r, h => by simp [readM] at h
  | n + 1, c :: q, T, r, h => by
    unfold readM at h
    split at h
    · rename_i hc
      cases h
      refine ⟨?_, by show 1 ≤ (c.toNat : Int) - 48 ∧ (c.toNat : Int) - 48 ≤ 8; omega⟩
      show c :: q = [UInt8.ofNat (((c.toNat : Int) - 48).toNat + 48)] ++ q
      have e : ((c.toNat : Int) - 48).toNat + 48 = c.toNat := by omega
      rw [e]
      simp
    · split at h
      · cases h
      · rename_i h40
        have hc : c = 40 := by simpa using h40
        subst hc
        cases h1 : readM n q with
        | none => rw [h1] at h; cases h
        | some x =>
          obtain ⟨a, r1⟩ := x
          rw [h1] at h
          simp only at h
          cases h2 : readM n r1 with
          | none => rw [h2] at h; cases h
          | some y =>
            obtain ⟨b, r2⟩ := y
            rw [h2] at h
            simp only at h
            obtain ⟨e1, o1⟩ := readM_text n q a r1 h1
            obtain ⟨e2, o2⟩ := readM_text n r1 b r2 h2
            cases r2 with
            | nil => cases h
            | cons d r3 =>
              simp only at h
              split at h
              · rename_i hd
                cases h
                subst hd
                refine ⟨?_, o1, o2⟩
                rw [e1, e2]
                simp [Tr.text]
              · cases h
theorem text_pos (T : Tr) : 0 < T.text.length := by cases T <;> simp [Tr.text]
theorem digit_toNat {p : Int} (h : 1 ≤ p ∧ p ≤ 8) : (UInt8.ofNat (p.toNat + 48)).toNat = p.toNat + 48 := by
  rw [UInt8.toNat_ofNat']; omega
theorem text_ascii : ∀ (T : Tr), T.ok → ∀ c ∈ T.text, c.toNat < 128
  | .leaf p, h, c, hc => by
    simp only [Tr.text, List.mem_singleton] at hc
    subst hc
    have h' : 1 ≤ p ∧ p ≤ 8 := h
    rw [digit_toNat h']; omega
  | .two l r, h, c, hc => by
    simp only [Tr.text, List.mem_cons, List.mem_append, List.mem_singleton, List.not_mem_nil, or_false] at hc
    rcases hc with rfl | hc | hc | rfl
    · decide
    · exact text_ascii l h.1 c hc
    · exact text_ascii r h.2 c hc
    · decide
theorem openI_digit {p : Int} (h : 1 ≤ p ∧ p ≤ 8) (o : Int) : openI (UInt8.ofNat (p.toNat + 48)) o = o := by
  have hd := digit_toNat h
  unfold openI
  rw [if_neg (by intro e; rw [e] at hd; have : (40 : UInt8).toNat = 40 := rfl; omega), if_neg (by intro e; rw [e] at hd; have : (41 : UInt8).toNat = 41 := rfl; omega)]
theorem cutAt_over : ∀ (T : Tr), T.ok → ∀ (rest : List UInt8) (o : Int) (i : Nat), 0 < o → cutAt (T.text ++ rest) o i = cutAt rest o (i + T.text.length)
  | .leaf p, h, rest, o, i, ho => by
    show (if openI (UInt8.ofNat (p.toNat + 48)) o = 0 then some (i + 1) else cutAt rest (openI (UInt8.ofNat (p.toNat + 48)) o) (i + 1)) = _
    have h' : 1 ≤ p ∧ p ≤ 8 := h
    rw [openI_digit h', if_neg (by omega)]
    rfl
  | .two l r, h, rest, o, i, ho => by
    have e : (Tr.two l r).text ++ rest = 40 :: (l.text ++ (r.text ++ (41 :: rest))) := by simp [Tr.text]
    rw [e]
    show (if openI 40 o = 0 then some (i + 1) else cutAt (l.text ++ (r.text ++ (41 :: rest))) (openI 40 o) (i + 1)) = _
    have e1 : openI 40 o = o + 1 := rfl
    rw [e1, if_neg (by omega), cutAt_over l h.1 _ _ _ (by omega), cutAt_over r h.2 _ _ _ (by omega)]
    show (if openI 41 (o + 1) = 0 then _ else cutAt rest (openI 41 (o + 1)) (i + 1 + l.text.length + r.text.length + 1)) = _
    have e2 : openI 41 (o + 1) = o := by show o + 1 - 1 = o; omega
    rw [e2, if_neg (by omega)]
    congr 1
    simp [Tr.text]; omega
theorem cutAt_first : ∀ (T : Tr), T.ok → ∀ (rest : List UInt8) (i : Nat), cutAt (T.text ++ rest) 0 i = some (i + T.text.length)
  | .leaf p, h, rest, i => by
    show (if openI (UInt8.ofNat (p.toNat + 48)) 0 = 0 then some (i + 1) else _) = _
    have h' : 1 ≤ p ∧ p ≤ 8 := h
    rw [openI_digit h', if_pos rfl]
    rfl
  | .two l r, h, rest, i => by
    have e : (Tr.two l r).text ++ rest = 40 :: (l.text ++ (r.text ++ (41 :: rest))) := by simp [Tr.text]
    rw [e]
    show (if openI 40 0 = 0 then some (i + 1) else cutAt (l.text ++ (r.text ++ (41 :: rest))) (openI 40 0) (i + 1)) = _
    have e1 : openI 40 0 = 1 := rfl
    rw [e1, if_neg (by omega), cutAt_over l h.1 _ _ _ (by omega), cutAt_over r h.2 _ _ _ (by omega)]
    show (if openI 41 1 = 0 then some (i + 1 + l.text.length + r.text.length + 1) else _) = _
    have e2 : openI 41 1 = 0 := rfl
    rw [e2, if_pos rfl]
    congr 1
    simp [Tr.text]; omega
theorem halves_leaf (p : Int) : halvesM (Tr.leaf p).text = ([], [], false) := by
  unfold halvesM; rw [if_pos (by simp [Tr.text])]
theorem halves_two {l r : Tr} (h : (Tr.two l r).ok) : halvesM (Tr.two l r).text = (l.text, r.text, true) := by
  have hl := text_pos l
  have hr := text_pos r
  unfold halvesM
  rw [if_neg (by simp [Tr.text]; omega)]
  have e : ((Tr.two l r).text.drop 1).take ((Tr.two l r).text.length - 2) = l.text ++ r.text := by
    simp only [Tr.text, List.drop_succ_cons, List.drop_zero, List.length_cons, List.length_append, List.length_nil]
    rw [← List.append_assoc, List.take_left' (by simp)]
  rw [e, cutAt_first l h.1]
  simp only [Nat.zero_add]
  rw [List.take_left, List.drop_left]
/-- All nodes, with what stands there: a node ahead of those below it. -/
def nodesT (pre : List UInt8) : Tr → List (List UInt8 × List UInt8)
  | .leaf p => [(pre, (Tr.leaf p).text)]
  | .two l r => (pre, (Tr.two l r).text) :: (nodesT (pre ++ [108]) l ++ nodesT (pre ++ [114]) r)
theorem ofM_text {s : List UInt8} {T : Tr} (h : ofM s = some T) : s = T.text ∧ T.ok := by
  unfold ofM at h
  split at h
  · rename_i T' hr
    split at h
    · cases h
      have := readM_text _ _ _ _ hr
      rw [List.append_nil] at this
      exact this
    · cases h
  · cases h
end Go.Proofs.YtfapphlhkfddoaaGreatDoor.G
