/- How deep a tree is, whether it is full, and its text. -/
import Derived.Test.YtfapphlhkfddoaaGreatDoorTreeText
import Derived.Test.YtfapphlhkfddoaaGreatDoorItoaLay
import Derived.Shelf.Strconv.Itoa3
namespace Go.Proofs.YtfapphlhkfddoaaGreatDoor.G
open Go.RowKit Go.Eng Go.Proofs Go.Proofs.YtfapphlhkfddoaaGreatDoor.Cut
set_option linter.unusedVariables false
set_option maxRecDepth 20000
variable {ok : Nat → Prop} {w0 w : World} {L R : List Eng.Item}

def Tr.deep : Tr → Nat
  | .leaf _ => 0
  | .two l r => 1 + max l.deep r.deep
theorem deep_lt : ∀ T : Tr, T.deep < T.leavesR.length
  | .leaf _ => by simp [Tr.deep, Tr.leavesR]
  | .two l r => by
    have h1 := deep_lt l
    have h2 := deep_lt r
    simp only [Tr.deep, Tr.leavesR, List.length_append]
    omega
/-- Are all leaves as deep? -/
def fullT (T : Tr) : Bool := decide (T.leavesR.length = 2 ^ T.deep)
theorem sub_left {b : Nat} {l r : TrA} (h : ∀ it ∈ (TrA.two b l r).items, it ∈ R) : ∀ it ∈ l.items, it ∈ R := fun it q => h it (List.mem_cons_of_mem _ (List.mem_append_left _ q))
theorem sub_right {b : Nat} {l r : TrA} (h : ∀ it ∈ (TrA.two b l r).items, it ∈ R) : ∀ it ∈ r.items, it ∈ R := fun it q => h it (List.mem_cons_of_mem _ (List.mem_append_right _ q))
set_option maxHeartbeats 4000000 in
theorem depth_own : ∀ (A : TrA) {w : World}, (∀ it ∈ A.items, it ∈ R) → A.tr.leavesR.length ≤ 1000000 → Eng.Own ok w0 w R →
    Calls Tryz.prog 88 #[A.ptr] w fun e w' => ∃ u, e = .returned u ∧ ∃ L', (u = .int .i64 (A.tr.deep : Int) ∧ R = L') ∧ Eng.Own ok w0 w' L' := by
  intro A
  induction A with
  | leaf b p =>
    intro w hA hl H
    obtain ⟨i, hi⟩ := at_mem (hA _ (TrA.top_mem (.leaf b p)))
    refine enterN (args := [(TrA.leaf b p).ptr]) Tryz.func88 rfl Tryz.ntmps88 rfl rfl ?_
    refine Eng.nc_seq ?_
    refine nc ?_
    refine Eng.nc_seq ?_
    refine Eng.nc_seq ?_
    refine nc ?_
    refine own_load H i hi (by kernel_rfl) (j := 1) rfl ?_
    refine eqlNil_rule (by kernel_rfl) ?_
    refine Eng.nc_cond (b := true) rfl (fun hc => ?_) (fun hc => ?_)
    · refine Eng.nc_seq ?_
      refine nc ?_
      refine nc ?_
      exact ret_inA [.int .i64 0] ⟨_, rfl, R, ⟨rfl, rfl⟩, H⟩
    · cases hc
  | two b l r ihl ihr =>
    intro w hA hl H
    have hl' : (TrA.two b l r).tr.leavesR.length = r.tr.leavesR.length + l.tr.leavesR.length := by simp [TrA.tr, Tr.leavesR]
    obtain ⟨i, hi⟩ := at_mem (hA _ (TrA.top_mem (.two b l r)))
    refine enterN (args := [(TrA.two b l r).ptr]) Tryz.func88 rfl Tryz.ntmps88 rfl rfl ?_
    refine Eng.nc_seq ?_
    refine nc ?_
    refine Eng.nc_seq ?_
    refine Eng.nc_seq ?_
    refine nc ?_
    refine own_load H i hi (by kernel_rfl) (j := 1) (v := .pointer (some ⟨l.root, 0, none⟩)) rfl ?_
    refine eqlNil_rule (by kernel_rfl) ?_
    refine Eng.nc_cond (b := false) rfl (fun hc => ?_) (fun hc => ?_)
    · cases hc
    refine nc ?_
    refine Eng.nc_seq ?_
    refine nc ?_
    refine draw_rule [] (by kernel_rfl) (by kernel_rfl) H ?_
    refine c_load i hi (by kernel_rfl) (j := 1) (v := l.ptr) rfl ?_
    refine c_callOwn (fun u L' => u = .int .i64 (l.tr.deep : Int) ∧ R = L') rfl (by kernel_rfl) (fun v L' h => by rw [← h.2]; exact List.Sublist.refl _) (fun w H => ihl (sub_left hA) (by omega) H) fun v L' hv => ?_
    obtain ⟨rfl, rfl⟩ := hv
    refine c_load i hi (by kernel_rfl) (j := 2) (v := r.ptr) rfl ?_
    refine c_callOwn (fun u L' => u = .int .i64 (r.tr.deep : Int) ∧ R = L') rfl (by kernel_rfl) (fun v L' h => by rw [← h.2]; exact List.Sublist.refl _) (fun w H => ihr (sub_right hA) (by omega) H) fun v L' hv => ?_
    obtain ⟨rfl, rfl⟩ := hv
    intro w2 H
    refine nc ?_
    refine ret_inA [_] ⟨_, rfl, R, ⟨?_, rfl⟩, H⟩
    have h1 := deep_lt l.tr
    have h2 := deep_lt r.tr
    have e : IntKind.i64.wrap (1 + maxI (l.tr.deep : Int) (r.tr.deep : Int)) = (((TrA.two b l r).tr.deep : Nat) : Int) := by
      have e1 : maxI (l.tr.deep : Int) (r.tr.deep : Int) = ((max l.tr.deep r.tr.deep : Nat) : Int) := by
        unfold maxI
        split <;> omega
      rw [e1, Eng.i64_id (by omega) (by omega)]
      show _ = (((1 + max l.tr.deep r.tr.deep : Nat)) : Int)
      omega
    exact congrArg (Value.int .i64) e
set_option maxHeartbeats 4000000 in
theorem full_own (A : TrA) (hA : ∀ it ∈ A.items, it ∈ R) (hl : A.tr.leavesR.length ≤ 60) (H : Eng.Own ok w0 w R) :
    Calls Tryz.prog 87 #[A.ptr] w fun e w' => ∃ u, e = .returned u ∧ (u = .bool (fullT A.tr) ∧ Eng.Own ok w0 w' R) := by
  refine enterN (args := [A.ptr]) Tryz.func87 rfl Tryz.ntmps87 rfl rfl ?_
  refine Eng.nc_seq ?_
  refine nc ?_
  refine Eng.nc_seq ?_
  refine nc ?_
  refine call_rule (by kernel_rfl) (nodeMembers_in hA (by omega) H) fun u w1 H => ?_
  obtain ⟨a, c, rfl, _, _⟩ := H.rowSl 0 rfl
  refine call_rule (by kernel_rfl) (depth_own A (fun it h => List.mem_cons_of_mem _ (hA it h)) (by omega) H) fun u w2 ⟨L', ⟨hu, hL⟩, H⟩ => ?_
  subst hu hL
  have hd := deep_lt A.tr
  refine shl_rule (fun _ => by omega) ?_
  refine nc ?_
  refine ret_inA [_] ⟨_, rfl, ?_, H.tail⟩
  have e : IntKind.i64.wrap (1 * 2 ^ min ((A.tr.deep : Int)).toNat IntKind.i64.bits) = ((2 ^ A.tr.deep : Nat) : Int) := by
    have e1 : min ((A.tr.deep : Int)).toNat IntKind.i64.bits = A.tr.deep := by
      have : IntKind.i64.bits = 64 := rfl
      omega
    have hp : 2 ^ A.tr.deep ≤ 2 ^ 60 := Nat.pow_le_pow_right (by omega) (by omega)
    have e2 : (1 : Int) * 2 ^ A.tr.deep = ((2 ^ A.tr.deep : Nat) : Int) := by rw [Int.one_mul]; exact (Int.natCast_pow 2 _).symm
    rw [e1, e2]
    generalize 2 ^ A.tr.deep = m at hp
    exact Eng.i64_id (by omega) (by omega)
  show Value.bool ((((sortZ A.tr.leavesR).length : Nat) : Int) == IntKind.i64.wrap (1 * 2 ^ min ((A.tr.deep : Int)).toNat IntKind.i64.bits)) = _
  rw [e, sortZ_len]
  unfold fullT
  congr 1
  rw [Bool.eq_iff_iff, beq_iff_eq, decide_eq_true_iff]
  omega
theorem dec_one {p : Int} (h : 1 ≤ p ∧ p ≤ 8) : (⟨(Lib.decDigits p.toNat).toArray⟩ : ByteArray) = bs (Tr.leaf p).text := by
  rw [Lib.decDigits_one (by omega), Nat.add_comm]
  rfl
theorem itoa_own {p : Int} (h : 1 ≤ p ∧ p ≤ 8) : Calls Tryz.prog 84 #[.int .i64 p] w fun e w' => ∃ u, e = .returned u ∧ (u = .string (bs (Tr.leaf p).text) ∧ w' = w) := by
  have hp : ((p.toNat : Nat) : Int) = p := by omega
  have := Any.strconv_Itoa_small Tryz.itoaI p.toNat (by omega) w
  rw [hp, dec_one h] at this
  exact this.mono fun e w' ⟨he, hw⟩ => ⟨_, he, rfl, hw⟩
set_option maxHeartbeats 4000000 in
theorem text_own : ∀ (A : TrA) {w : World}, (∀ it ∈ A.items, it ∈ R) → A.tr.ok → A.tr.text.length ≤ 1000000 → Eng.Own ok w0 w R →
    Calls Tryz.prog 89 #[A.ptr] w fun e w' => ∃ u, e = .returned u ∧ ∃ L', (u = .string (bs A.tr.text) ∧ R = L') ∧ Eng.Own ok w0 w' L' := by
  intro A
  induction A with
  | leaf b p =>
    intro w hA hk hl H
    obtain ⟨i, hi⟩ := at_mem (hA _ (TrA.top_mem (.leaf b p)))
    refine enterN (args := [(TrA.leaf b p).ptr]) Tryz.func89 rfl Tryz.ntmps89 rfl rfl ?_
    refine Eng.nc_seq ?_
    refine nc ?_
    refine Eng.nc_seq ?_
    refine Eng.nc_seq ?_
    refine nc ?_
    refine own_load H i hi (by kernel_rfl) (j := 1) rfl ?_
    refine eqlNil_rule (by kernel_rfl) ?_
    refine Eng.nc_cond (b := true) rfl (fun hc => ?_) (fun hc => ?_)
    · refine Eng.nc_seq ?_
      refine nc ?_
      refine own_load H i hi (by kernel_rfl) (j := 0) (v := .int .i64 p) rfl ?_
      refine call_rule (by kernel_rfl) (itoa_own hk) fun u w1 ⟨hu, hw⟩ => ?_
      subst hu hw
      refine nc ?_
      exact ret_inA [_] ⟨_, rfl, R, ⟨rfl, rfl⟩, H⟩
    · cases hc
  | two b l r ihl ihr =>
    intro w hA hk hl H
    have hl' : (TrA.two b l r).tr.text.length = l.tr.text.length + r.tr.text.length + 2 := by simp only [TrA.tr, Tr.text, List.length_cons, List.length_append, List.length_nil]; omega
    obtain ⟨i, hi⟩ := at_mem (hA _ (TrA.top_mem (.two b l r)))
    refine enterN (args := [(TrA.two b l r).ptr]) Tryz.func89 rfl Tryz.ntmps89 rfl rfl ?_
    refine Eng.nc_seq ?_
    refine nc ?_
    refine Eng.nc_seq ?_
    refine Eng.nc_seq ?_
    refine nc ?_
    refine own_load H i hi (by kernel_rfl) (j := 1) (v := .pointer (some ⟨l.root, 0, none⟩)) rfl ?_
    refine eqlNil_rule (by kernel_rfl) ?_
    refine Eng.nc_cond (b := false) rfl (fun hc => ?_) (fun hc => ?_)
    · cases hc
    refine nc ?_
    refine Eng.nc_seq ?_
    refine nc ?_
    refine draw_rule [] (by kernel_rfl) (by kernel_rfl) H ?_
    refine c_load i hi (by kernel_rfl) (j := 1) (v := l.ptr) rfl ?_
    refine c_callOwn (fun u L' => u = .string (bs l.tr.text) ∧ R = L') rfl (by kernel_rfl) (fun v L' h => by rw [← h.2]; exact List.Sublist.refl _) (fun w H => ihl (sub_left hA) hk.1 (by omega) H) fun v L' hv => ?_
    obtain ⟨rfl, rfl⟩ := hv
    refine c_catM (a := [40]) (by simp; omega) ?_
    refine c_load i hi (by kernel_rfl) (j := 2) (v := r.ptr) rfl ?_
    refine c_callOwn (fun u L' => u = .string (bs r.tr.text) ∧ R = L') rfl (by kernel_rfl) (fun v L' h => by rw [← h.2]; exact List.Sublist.refl _) (fun w H => ihr (sub_right hA) hk.2 (by omega) H) fun v L' hv => ?_
    obtain ⟨rfl, rfl⟩ := hv
    refine c_catM (by simp; omega) ?_
    refine c_catM (b := [41]) (by simp; omega) ?_
    intro w2 H
    refine nc ?_
    refine ret_inA [_] ⟨_, rfl, R, ⟨?_, rfl⟩, H⟩
    have e : ([40] ++ l.tr.text ++ r.tr.text ++ [41] : List UInt8) = (TrA.two b l r).tr.text := by simp [TrA.tr, Tr.text]
    exact congrArg (fun q => Value.string (bs q)) e
set_option maxHeartbeats 1000000 in
theorem treeLeaf_calls {p : Int} : Calls Tryz.prog 44 #[.int .i64 p] w fun e w' => ∃ v, e = .returned v ∧ (v = .tuple #[.string (bs (if 1 ≤ p ∧ p ≤ 8 then (Tr.leaf p).text else [])), .int .i64 (if 1 ≤ p ∧ p ≤ 8 then 0 else 1)] ∧ Bel w.heap.size w w') := by
  have H : Eng.Own (fun _ => False) w w [] := Eng.Own.nil _ w
  refine enterN (args := [.int .i64 p]) Tryz.func44 rfl Tryz.ntmps44 rfl rfl ?_
  refine Eng.nc_seq ?_
  refine nc ?_
  refine Eng.nc_seq ?_
  refine Eng.nc_seq ?_
  refine nc ?_
  by_cases hp : 1 ≤ p ∧ p ≤ 8
  · rw [if_pos hp, if_pos hp]
    refine Eng.nc_cond (b := false) (by rw [decide_eq_false (show ¬ p < 1 by omega), decide_eq_false (show ¬ p > 8 by omega)]; rfl) (fun hc => ?_) (fun hc => ?_)
    · cases hc
    refine nc ?_
    refine Eng.nc_seq ?_
    refine nc ?_
    refine call_rule (by kernel_rfl) (itoa_own hp) fun u w1 ⟨hu, hw⟩ => ?_
    subst hu hw
    refine nc ?_
    exact ret_inA [_, .int .i64 0] ⟨_, rfl, rfl, H.frame⟩
  · rw [if_neg hp, if_neg hp]
    refine Eng.nc_cond (b := true) (by
      by_cases h1 : p < 1
      · rw [decide_eq_true h1]; rfl
      · rw [decide_eq_false h1, decide_eq_true (show p > 8 by omega)]; rfl) (fun hc => ?_) (fun hc => ?_)
    · refine Eng.nc_seq ?_
      refine nc ?_
      refine nc ?_
      exact ret_inA [.string (bs []), .int .i64 1] ⟨_, rfl, rfl, H.frame⟩
    · cases hc
end Go.Proofs.YtfapphlhkfddoaaGreatDoor.G
