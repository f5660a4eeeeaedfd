/- Trees in memory: how a text is read as one. -/
import Derived.Test.YtfapphlhkfddoaaDoorH1
namespace Go.Proofs.YtfapphlhkfddoaaDoor.G
open Go.RowKit Go.Eng Go.Proofs Go.Proofs.YtfapphlhkfddoaaDoor.Cut
set_option linter.unusedVariables false
set_option maxRecDepth 20000
variable {ok : Nat → Prop} {w0 w : World} {L : List Eng.Item}

inductive Tr where
  | leaf (p : Int) : Tr
  | two (l r : Tr) : Tr
/-- .. with the places where its nodes stand. -/
inductive TrA where
  | leaf (b : Nat) (p : Int) : TrA
  | two (b : Nat) (l r : TrA) : TrA
def TrA.root : TrA → Nat
  | .leaf b _ => b
  | .two b _ _ => b
def TrA.ptr (A : TrA) : Value := .pointer (some ⟨A.root, 0, none⟩)
def TrA.tr : TrA → Tr
  | .leaf _ p => .leaf p
  | .two _ l r => .two l.tr r.tr
def TrA.items : TrA → List Eng.Item
  | .leaf b p => [.blk b [.int .i64 p, .pointer none, .pointer none] 59]
  | .two b l r => .blk b [.int .i64 0, l.ptr, r.ptr] 59 :: (l.items ++ r.items)
/-- What a text begins with, and what is behind it. -/
def readM : Nat → List UInt8 → Option (Tr × List UInt8)
  | 0, _ => none
  | _ + 1, [] => none
  | n + 1, c :: r => if 49 ≤ c.toNat ∧ c.toNat ≤ 56 then some (.leaf ((c.toNat : Int) - 48), r) else if c ≠ 40 then none else
    match readM n r with
    | none => none
    | some (a, r1) => match readM n r1 with
      | none => none
      | some (b, r2) => match r2 with
        | [] => none
        | d :: r3 => if d = 41 then some (.two a b, r3) else none
theorem readM_len : ∀ (n : Nat) (s : List UInt8) (T : Tr) (r : List UInt8), readM n s = some (T, r) → r.length < s.length
  | 0, s, T, r, h => by simp [readM] at h
  | n + 1, [], T, r, h => by simp [readM] at h
  | n + 1, c :: q, T, r, h => by
    unfold readM at h
    split at h
    · cases h; simp
    · split at h
      · cases h
      · cases h1 : readM n q with
        | none => rw [h1] at h; cases h
        | some x =>
          obtain ⟨a, r1⟩ := x
          rw [h1] at h
          simp only at h
          cases h2 : readM n r1 with
          | none => rw [h2] at h; cases h
          | some y =>
            obtain ⟨b, r2⟩ := y
            rw [h2] at h
            simp only at h
            have l1 := readM_len n q a r1 h1
            have l2 := readM_len n r1 b r2 h2
            cases r2 with
            | nil => cases h
            | cons d r3 =>
              simp only at h
              split at h
              · cases h; simp at l2 ⊢; omega
              · cases h
def headIs (d : UInt8) : List UInt8 → Bool
  | [] => false
  | c :: _ => decide (c = d)
theorem prefix_eq (s : List UInt8) (d : UInt8) : strings_HasPrefix.f s [d] = some (headIs d s) := by
  unfold strings_HasPrefix.f internal_stringslite_HasPrefix.f internal_stringslite_HasPrefix.k1
  cases s with
  | nil => rfl
  | cons c r =>
    have hl : ((c :: r : List UInt8).length : Int) ≥ (([d] : List UInt8).length : Int) := by simp; omega
    have hs : slcM (c :: r) (0 : Int) (([d] : List UInt8).length : Int) = some [c] := by unfold slcM; rw [if_pos ⟨by simp, by simp, by simp; omega⟩]; rfl
    rw [decide_eq_true hl, cond_true, hs, Option.bind_some, cond_true, strEq_eq, Option.bind_some]
    unfold headIs
    simp
def ReadR (ok : Nat → Prop) (w0 : World) (L : List Eng.Item) (x : Option (Tr × List UInt8)) (v : Value) (w' : World) : Prop :=
  match x with
  | none => v = .tuple #[.pointer none, .string (bs [])] ∧ Eng.Own ok w0 w' L
  | some (T, r) => ∃ A : TrA, A.tr = T ∧ v = .tuple #[A.ptr, .string (bs r)] ∧ Eng.Own ok w0 w' (A.items ++ L)

set_option maxHeartbeats 4000000 in
theorem read_own : ∀ (n : Nat) (s : List UInt8), s.length < n → ∀ {ok : Nat → Prop} {w0 w : World} {L : List Eng.Item}, Eng.Own ok w0 w L →
    Calls Tryd.prog 41 #[.string (bs s)] w fun e w' => ∃ v, e = .returned v ∧ ReadR ok w0 L (readM n s) v w' := by
  intro n
  induction n with
  | zero => intro s h; omega
  | succ n ih =>
  intro s hs ok w0 w L H
  refine enterN (args := [.string (bs s)]) Tryd.func41 rfl Tryd.ntmps41 rfl rfl ?_
  refine Eng.nc_seq ?_
  refine nc ?_
  cases s with
  | nil =>
    refine Eng.nc_seq ?_
    refine Eng.nc_block ?_
    refine Eng.nc_seq ?_
    refine nc ?_
    refine Eng.nc_cond rfl (fun hc => ?_) (fun hc => ?_)
    · refine Eng.nc_seq ?_
      refine nc ?_
      refine nc ?_
      exact ret_inA [.pointer none, .string (bs [])] ⟨_, rfl, rfl, H⟩
    · simp [bs_toList] at hc
  | cons c r =>
    have h256 := UInt8.toNat_lt c
    have hidx : idxS (c :: r) (0 : Int) = some (c.toNat : Int) := rfl
    have hsl : slcM (c :: r) (1 : Int) ((c :: r).length : Int) = some r := by rw [show (1 : Int) = ((1 : Nat) : Int) from rfl]; unfold slcM; rw [if_pos ⟨by omega, by simp; omega, by omega⟩]; simp
    refine nc_cut (fun e w' => ¬ (49 ≤ c.toNat ∧ c.toNat ≤ 56) ∧ c = 40 ∧ e = [(0, .string (bs (c :: r)))] ∧ Eng.Own ok w0 w' L) ?_ ?_
    · refine Eng.nc_block ?_
      refine Eng.nc_seq ?_
      refine nc ?_
      refine Eng.nc_cond rfl (fun hc => ?_) (fun hc => ?_)
      · simp [bs_toList] at hc
      refine Eng.nc_seq ?_
      refine nc ?_
      refine idxS_rule (by kernel_rfl) hidx ?_
      refine idxS_rule (by kernel_rfl) hidx ?_
      refine Eng.nc_cond (b := cond (decide ((c.toNat : Int) ≥ 49)) (decide ((c.toNat : Int) ≤ 56)) false) rfl (fun hc => ?_) (fun hc => ?_)
      · have hcc : 49 ≤ c.toNat ∧ c.toNat ≤ 56 := by
          by_cases h1 : (c.toNat : Int) ≥ 49
          · rw [decide_eq_true h1, cond_true, decide_eq_true_eq] at hc; omega
          · rw [decide_eq_false h1] at hc; cases hc
        refine Eng.nc_seq ?_
        refine nc ?_
        refine draw_rule [] (by kernel_rfl) (by kernel_rfl) H ?_
        refine c_idxS (by kernel_rfl) hidx ?_
        refine c_box [.int .i64 (IntKind.i64.wrap (IntKind.u8.wrap ((c.toNat : Int) - 48))), .pointer none, .pointer none] rfl fun b => ?_
        refine c_txtI 1 ((c :: r).length : Int) (by kernel_rfl) ⟨_, rfl⟩ rfl hsl ?_
        intro w1 H
        refine nc ?_
        refine ret_inA [.pointer (some ⟨b, 0, none⟩), .string (bs r)] ⟨_, rfl, ?_⟩
        unfold readM
        rw [if_pos hcc]
        refine ⟨.leaf b ((c.toNat : Int) - 48), rfl, rfl, ?_⟩
        have e : IntKind.i64.wrap (IntKind.u8.wrap ((c.toNat : Int) - 48)) = (c.toNat : Int) - 48 := by
          have e1 : IntKind.u8.wrap ((c.toNat : Int) - 48) = (c.toNat : Int) - 48 := by
            have e : ∀ x : Int, IntKind.u8.wrap x = x % 256 := fun x => by simp [IntKind.wrap, IntKind.bits, IntKind.signed]
            rw [e]; omega
          rw [e1, Eng.i64_id (by omega) (by omega)]
        rw [e] at H
        exact H
      · have hcc : ¬ (49 ≤ c.toNat ∧ c.toNat ≤ 56) := by
          rintro ⟨h1, h2⟩
          rw [decide_eq_true (show (c.toNat : Int) ≥ 49 by omega), decide_eq_true (show (c.toNat : Int) ≤ 56 by omega)] at hc
          cases hc
        refine Eng.nc_seq ?_
        refine nc ?_
        refine idxS_rule (by kernel_rfl) hidx ?_
        refine Eng.nc_cond rfl (fun hc => ?_) (fun hc => ?_)
        · refine Eng.nc_seq ?_
          refine nc ?_
          refine nc ?_
          refine ret_inA [.pointer none, .string (bs [])] ⟨_, rfl, ?_⟩
          have hne : c ≠ 40 := by rintro rfl; cases hc
          unfold readM
          rw [if_neg hcc, if_pos hne]
          exact ⟨rfl, H⟩
        · refine nc ?_
          have h40 : c = 40 := by
            have : ((c.toNat : Int) != 40) = false := hc
            simp at this
            exact UInt8.toNat_inj.1 (by show c.toNat = 40; omega)
          exact cut_inA ⟨hcc, h40, rfl, H⟩
    · rintro _ w1 ⟨hcc, rfl, rfl, H⟩
      refine Eng.nc_seq ?_
      refine nc ?_
      refine own_box H [.int .i64 0, .pointer none, .pointer none] rfl fun b w2 H => ?_
      refine Eng.nc_seq ?_
      refine nc ?_
      refine txtI_rule 1 (((40 : UInt8) :: r).length : Int) (by kernel_rfl) ⟨_, rfl⟩ rfl hsl ?_
      refine call_rule (by kernel_rfl) (ih r (by simp at hs; omega) H) fun v w3 hR => ?_
      unfold readM
      rw [if_neg hcc, if_neg (by decide)]
      cases hr1 : readM n r with
      | none =>
        rw [hr1] at hR
        obtain ⟨rfl, H⟩ := hR
        refine own_store (t := 45) H 0 rfl (by kernel_rfl) (j := 1) rfl rfl fun w4 H => ?_
        refine Eng.nc_seq ?_
        refine nc ?_
        refine own_load H 0 rfl (by kernel_rfl) (j := 1) rfl ?_
        refine eqlNil_rule (by kernel_rfl) ?_
        refine Eng.nc_cond rfl (fun hc => ?_) (fun hc => ?_)
        · refine Eng.nc_seq ?_
          refine nc ?_
          refine nc ?_
          exact ret_inA [.pointer none, .string (bs [])] ⟨_, rfl, rfl, H.tail⟩
        · cases hc
      | some q =>
        obtain ⟨T1, r1⟩ := q
        rw [hr1] at hR
        obtain ⟨A, hA, rfl, H⟩ := hR
        replace H : Eng.Own ok w0 w3 (.blk b [.int .i64 0, .pointer none, .pointer none] 59 :: (A.items ++ L)) := H.perm (List.perm_append_comm_assoc A.items [_] L)
        refine own_store (t := 45) H 0 rfl (by kernel_rfl) (j := 1) rfl rfl fun w4 H => ?_
        refine Eng.nc_seq ?_
        refine nc ?_
        refine own_load H 0 rfl (by kernel_rfl) (j := 1) (v := .pointer (some ⟨A.root, 0, none⟩)) rfl ?_
        refine eqlNil_rule (by kernel_rfl) ?_
        refine Eng.nc_cond rfl (fun hc => ?_) (fun hc => ?_)
        · cases hc
        refine nc ?_
        refine Eng.nc_seq ?_
        refine nc ?_
        have hl1 := readM_len n r _ _ hr1
        refine call_rule (by kernel_rfl) (ih r1 (by simp at hs; omega) H) fun v w5 hR => ?_
        simp only
        cases hr2 : readM n r1 with
        | none =>
          rw [hr2] at hR
          obtain ⟨rfl, H⟩ := hR
          refine own_store (t := 45) H 0 rfl (by kernel_rfl) (j := 2) rfl rfl fun w6 H => ?_
          refine Eng.nc_seq ?_
          refine nc ?_
          refine own_load H 0 rfl (by kernel_rfl) (j := 2) (v := .pointer none) rfl ?_
          refine eqlNil_rule (by kernel_rfl) ?_
          refine call_skip (.bool false) rfl ?_
          refine Eng.nc_cond (b := true) rfl (fun hc => ?_) (fun hc => ?_)
          · refine Eng.nc_seq ?_
            refine nc ?_
            refine nc ?_
            refine ret_inA [.pointer none, .string (bs [])] ⟨_, rfl, rfl, ?_⟩
            exact H.less ((List.sublist_append_right A.items L).trans (List.sublist_cons_self _ _))
          · cases hc
        | some q =>
          obtain ⟨T2, r2⟩ := q
          rw [hr2] at hR
          obtain ⟨B, hB, rfl, H⟩ := hR
          replace H : Eng.Own ok w0 w5 (.blk b [.int .i64 0, A.ptr, .pointer none] 59 :: (A.items ++ (B.items ++ L))) :=
            H.perm ((List.perm_append_comm_assoc B.items [_] (A.items ++ L)).trans (List.Perm.cons _ (List.perm_append_comm_assoc B.items A.items L)))
          refine own_store (t := 45) H 0 rfl (by kernel_rfl) (j := 2) rfl rfl fun w6 H => ?_
          refine Eng.nc_seq ?_
          refine nc ?_
          refine own_load H 0 rfl (by kernel_rfl) (j := 2) (v := .pointer (some ⟨B.root, 0, none⟩)) rfl ?_
          refine eqlNil_rule (by kernel_rfl) ?_
          refine call_yes rfl (by kernel_rfl) (strings_HasPrefix_ok (ok := fun _ => False) (prefix_eq r2 41)) fun v w7 ⟨hv, hb7⟩ => ?_
          subst hv
          replace H := H.call hb7
          replace H : Eng.Own ok w0 w7 (.blk b [.int .i64 0, A.ptr, B.ptr] 59 :: (A.items ++ (B.items ++ L))) := H
          refine Eng.nc_cond (b := !(headIs 41 r2)) rfl (fun hc => ?_) (fun hc => ?_)
          · refine Eng.nc_seq ?_
            refine nc ?_
            refine nc ?_
            refine ret_inA [.pointer none, .string (bs [])] ⟨_, rfl, ?_⟩
            have hL : Eng.Own ok w0 w7 L := H.less (((List.sublist_append_right B.items L).trans (List.sublist_append_right A.items _)).trans (List.sublist_cons_self _ _))
            cases r2 with
            | nil => exact ⟨rfl, hL⟩
            | cons d r3 =>
              have hd : ¬ d = 41 := by simpa [headIs] using hc
              simp only
              rw [if_neg hd]
              exact ⟨rfl, hL⟩
          · cases r2 with
            | nil => simp [headIs] at hc
            | cons d r3 =>
              have hd : d = 41 := by simpa [headIs] using hc
              simp only
              rw [if_pos hd]
              have hsl3 : slcM (d :: r3) (1 : Int) ((d :: r3).length : Int) = some r3 := by rw [show (1 : Int) = ((1 : Nat) : Int) from rfl]; unfold slcM; rw [if_pos ⟨by omega, by simp; omega, by omega⟩]; simp
              refine nc ?_
              refine Eng.nc_seq ?_
              refine nc ?_
              refine draw_rule [] (by kernel_rfl) (by kernel_rfl) H ?_
              refine c_txtI 1 ((d :: r3).length : Int) (by kernel_rfl) ⟨_, rfl⟩ rfl hsl3 ?_
              intro w8 H
              refine nc ?_
              refine ret_inA [.pointer (some ⟨b, 0, none⟩), .string (bs r3)] ⟨_, rfl, .two b A B, ?_, rfl, ?_⟩
              · show Tr.two A.tr B.tr = _
                rw [hA, hB]
              · show Eng.Own ok w0 w8 (.blk b [.int .i64 0, A.ptr, B.ptr] 59 :: ((A.items ++ B.items) ++ L))
                rw [List.append_assoc]
                exact H
end Go.Proofs.YtfapphlhkfddoaaDoor.G
