/- Chapter 16: a view of bits, and new members, as they are reckoned. -/
import Derived.Test.YtfapphlhkfddoaaGreatDoorRkU
import Derived.KernelRfl
import Derived.Test.YtfapphlhkfddoaaGreatDoorGObjs
import Derived.Test.YtfapphlhkfddoaaGreatDoorH1
namespace Go.Proofs.YtfapphlhkfddoaaGreatDoor.G
open Go.RowKit Go.Eng Go.Proofs Go.Proofs.YtfapphlhkfddoaaGreatDoor.Cut
set_option linter.unusedVariables false
set_option linter.unusedSimpArgs false
structure MsOk (ms : List Int) : Prop where
  ne : ms ≠ []
  up : ms.Pairwise (· < ·)
  rng : ∀ x ∈ ms, 1 ≤ x ∧ x ≤ 8
def bitR (y : Int) (k : Nat) : Bool := andI .i64 (y.fdiv (2 ^ min ((k : Int)).toNat IntKind.i64.bits)) (1 : Int) == (1 : Int)
def ofR (y : Int) : Nat → List Int
  | 0 => []
  | k + 1 => if bitR y k = true then ofR y k ++ [((k + 1 : Nat) : Int)] else ofR y k
theorem ofR_rng (y : Int) : ∀ k x, x ∈ ofR y k → 1 ≤ x ∧ x ≤ (k : Int) := by
  intro k
  induction k with
  | zero => intro x hx; cases hx
  | succ k ih =>
    intro x hx
    unfold ofR at hx
    split at hx
    · rcases List.mem_append.1 hx with hx | hx
      · have := ih x hx; omega
      · rw [List.mem_singleton] at hx; omega
    · have := ih x hx; omega
theorem ofR_up (y : Int) : ∀ k, (ofR y k).Pairwise (· < ·) := by
  intro k
  induction k with
  | zero => exact .nil
  | succ k ih =>
    unfold ofR
    split
    · refine List.pairwise_append.2 ⟨ih, List.pairwise_singleton _ _, fun a ha b hb => ?_⟩
      rw [List.mem_singleton] at hb
      have := ofR_rng y k a ha
      omega
    · exact ih
theorem ofR_len (y : Int) : ∀ k, (ofR y k).length ≤ k := by
  intro k
  induction k with
  | zero => exact Nat.le_refl _
  | succ k ih =>
    unfold ofR
    split
    · rw [List.length_append, List.length_singleton]; omega
    · omega
theorem bits_loop {x0 y : Int} (hy : gemotlaw16_pick.f x0 (256 : Int) = some y) (x1 : Int) : loopM (fun s403 : (List Int) × Int => gemotlaw16_of.b2 x0 x1 s403.1 s403.2) (([] : List Int), (1 : Int)) = some (ofR y 8) := by
  refine loop_count (fun i => (ofR y i, ((i + 1 : Nat) : Int))) 8 (fun i hi => ?_) ?_
  · show gemotlaw16_of.b2 x0 x1 (ofR y i) ((i + 1 : Nat) : Int) = _
    unfold gemotlaw16_of.b2 gemotlaw16_of.k1
    have hw : IntKind.i64.wrap (((i + 1 : Nat) : Int) - (1 : Int)) = (i : Int) := by rw [Eng.i64_id (by omega) (by omega)]; omega
    have hw2 : IntKind.i64.wrap (((i + 1 : Nat) : Int) + (1 : Int)) = ((i + 1 + 1 : Nat) : Int) := by rw [Eng.i64_id (by omega) (by omega)]; omega
    rw [cond_t (by omega), hy, Option.bind_some, hw, hw2]
    unfold shrM
    rw [if_pos (by omega), Option.bind_some]
    show cond (bitR y i) _ _ = _
    cases hb : bitR y i with
    | true =>
      rw [cond_true, show ofR y (i + 1) = ofR y i ++ [((i + 1 : Nat) : Int)] from if_pos hb]
      have := ofR_len y i
      exact if_pos (by omega)
    | false =>
      rw [cond_false, show ofR y (i + 1) = ofR y i from if_neg (by rw [hb]; simp)]
  · show gemotlaw16_of.b2 x0 x1 (ofR y 8) ((8 + 1 : Nat) : Int) = _
    unfold gemotlaw16_of.b2
    rw [cond_f (by omega)]
theorem of_is {x0 : Int} (h0 : inI64 x0) : ∃ ms, MsOk ms ∧ ∀ x1, inI64 x1 → ∃ e h, gemotlaw16_of.f x0 x1 = some ((e, h), ms) ∧ h ∈ ms ∧ 0 ≤ e ∧ e < 100 := by
  obtain ⟨y, hy, hy0, hy1⟩ := pick16 h0 (n := 256) (by decide)
  have hl := bits_loop hy
  have h3 : ∀ ms, MsOk ms → ∀ x1, inI64 x1 → ∃ e h, gemotlaw16_of.k3 x1 ms = some ((e, h), ms) ∧ h ∈ ms ∧ 0 ≤ e ∧ e < 100 := fun ms hm x1 h1 => by
    obtain ⟨e, he, he0, he1⟩ := pick16 h1 (n := 100) (by decide)
    obtain ⟨a, l, rfl⟩ := List.exists_cons_of_ne_nil hm.ne
    exact ⟨e, a, by unfold gemotlaw16_of.k3; rw [he]; rfl, List.mem_cons_self, he0, he1⟩
  by_cases hn : ofR y 8 = []
  · have hm : MsOk [3] := ⟨by simp, by simp, by simp⟩
    refine ⟨[3], hm, fun x1 h1 => ?_⟩
    obtain ⟨e, h, h4⟩ := h3 [3] hm x1 h1
    refine ⟨e, h, ?_, h4.2⟩
    unfold gemotlaw16_of.f gemotlaw16_of.k4
    rw [hl, Option.bind_some, hn]
    exact h4.1
  · have hm : MsOk (ofR y 8) := ⟨hn, ofR_up y 8, ofR_rng y 8⟩
    refine ⟨_, hm, fun x1 h1 => ?_⟩
    obtain ⟨e, h, h4⟩ := h3 _ hm x1 h1
    refine ⟨e, h, ?_, h4.2⟩
    unfold gemotlaw16_of.f gemotlaw16_of.k4
    rw [hl, Option.bind_some]
    have hp := List.length_pos_iff.2 hn
    rw [show ((((ofR y 8).length : Nat) : Int) == (0 : Int)) = false by simp; omega, cond_false]
    exact h4.1
theorem up_len8 : ∀ (l : List Int) (a : Int), l.Pairwise (· < ·) → (∀ x ∈ l, a < x ∧ x ≤ 8) → a ≤ 8 → (l.length : Int) ≤ 8 - a
  | [], a, _, _, ha => by simp; omega
  | b :: l, a, h, hr, ha => by
    have h1 := hr b List.mem_cons_self
    have h2 := up_len8 l b (List.pairwise_cons.1 h).2 (fun x hx => ⟨(List.pairwise_cons.1 h).1 x hx, (hr x (List.mem_cons_of_mem _ hx)).2⟩) h1.2
    rw [List.length_cons]
    omega
theorem MsOk.len {ms : List Int} (h : MsOk ms) : ms.length ≤ 8 := by
  have := up_len8 ms 0 h.up (fun x hx => by have := h.rng x hx; omega) (by omega)
  omega
def buildT (ms : List Int) : Tr := ms.tail.foldl joinT (.leaf (ms.headD 0))
theorem build_fold {ms : List Int} (hm : MsOk ms) : ∀ k, k ≤ ms.tail.length → ((ms.tail.take k).foldl joinT (.leaf (ms.headD 0))).ok ∧ ((ms.tail.take k).foldl joinT (.leaf (ms.headD 0))).leavesR.Perm (ms.take (k + 1)) := by
  obtain ⟨a, l, rfl⟩ := List.exists_cons_of_ne_nil hm.ne
  intro k
  induction k with
  | zero => intro _; exact ⟨hm.rng a List.mem_cons_self, List.Perm.refl _⟩
  | succ k ih =>
    intro hk
    show _ ∧ _
    obtain ⟨i1, i2⟩ := ih (by omega)
    have hk' : k < l.length := hk
    simp only [List.tail_cons, List.headD_cons] at i1 i2 ⊢
    have hr := hm.rng l[k] (List.mem_cons_of_mem _ (List.getElem_mem hk'))
    rw [← take_snoc hk', List.foldl_append]
    obtain ⟨j1, j2⟩ := joinT_ok i1 hr
    refine ⟨j1, j2.trans ?_⟩
    rw [List.take_succ_cons, ← take_snoc hk']
    rw [List.take_succ_cons] at i2
    exact (List.Perm.cons _ i2).trans (List.perm_append_comm (l₁ := [l[k]]) (l₂ := a :: l.take k))
theorem buildT_ok {ms : List Int} (hm : MsOk ms) : (buildT ms).ok ∧ (buildT ms).leavesR.Perm ms := by
  have := build_fold hm ms.tail.length (Nat.le_refl _)
  rw [List.take_length] at this
  refine ⟨this.1, this.2.trans ?_⟩
  rw [List.take_of_length_le (by rw [List.length_tail]; omega)]
theorem buildT_nd {ms : List Int} (hm : MsOk ms) : (buildT ms).leavesR.Nodup := (buildT_ok hm).2.nodup_iff.2 (hm.up.imp (fun h => by omega))
theorem buildT_ms {ms : List Int} (hm : MsOk ms) : memS (buildT ms) = ms := sortZ_is (buildT_ok hm).2 (hm.up.imp (fun h => by omega))
theorem rowB_ms {ms : List Int} (hm : MsOk ms) : rowB ms = true := (rowB_iff ms).2 ⟨hm.ne, fun x hx => by have := hm.rng x hx; omega, hm.up⟩
theorem build_is {ms : List Int} (hm : MsOk ms) : tree_Build.f ms = some ((buildT ms).text, 0) := by
  have hl8 := hm.len
  have hf := build_fold hm
  have hb : buildT ms = ms.tail.foldl joinT (.leaf (ms.headD 0)) := rfl
  unfold tree_Build.f
  rw [row_eq _ (by omega), Option.bind_some, rowB_ms hm]
  obtain ⟨a, l, rfl⟩ := List.exists_cons_of_ne_nil hm.ne
  have ha := hm.rng a List.mem_cons_self
  simp only [List.tail_cons, List.headD_cons] at hf hb
  have hlen : (a :: l).length = l.length + 1 := rfl
  have hs : slcM (a :: l) (1 : Int) (((a :: l).length : Nat) : Int) = some l := by
    unfold slcM
    rw [if_pos ⟨by omega, by omega, by omega⟩]
    show some (((a :: l).drop 1).take _) = _
    rw [List.take_of_length_le (by simp)]
    rfl
  have hL : tree_Leaf.f a = some ((Tr.leaf a).text, 0) := by unfold tree_Leaf.f leafM; rw [if_pos ha]
  rw [Bool.not_true, cond_false, show idxL (a :: l) (0 : Int) = some a from rfl, Option.bind_some, hL, Option.bind_some, hs, Option.bind_some]
  have hloop : loopM (fun s173 : (List UInt8) × Int => tree_Build.b1 l s173.1 s173.2) ((Tr.leaf a).text, (0 : Int)) = some (Sum.inl (buildT (a :: l)).text) := by
    refine loop_count (fun i => (((l.take i).foldl joinT (.leaf a)).text, (i : Int))) l.length (fun i hi => ?_) ?_
    · show tree_Build.b1 l ((l.take i).foldl joinT (.leaf a)).text (i : Int) = _
      obtain ⟨i1, i2⟩ := hf i (by omega)
      have hr := hm.rng l[i] (List.mem_cons_of_mem _ (List.getElem_mem hi))
      have hnd : ((l.take i).foldl joinT (.leaf a)).leavesR.Nodup := i2.nodup_iff.2 ((hm.up.imp (fun h => by omega) : (a :: l).Nodup).sublist (List.take_sublist _ _))
      have hof := ofM_iff i1
      rw [if_pos hnd] at hof
      have hni : l[i] ∉ ((l.take i).foldl joinT (.leaf a)).leavesR := fun hin => by
        have := i2.mem_iff.1 hin
        have hnd2 : (a :: l).Nodup := hm.up.imp (fun h => by omega)
        rw [show l[i] = (a :: l)[i + 1] from rfl] at this
        obtain ⟨j, hj, hje⟩ := List.mem_take_iff_getElem.1 this
        have := List.pairwise_iff_getElem.1 hm.up j (i + 1) (by omega) (by simp; omega) (by omega)
        omega
      have hsh := ofM_short hof
      unfold tree_Build.b1
      rw [cond_t (by omega), idxL_lt hi, Option.bind_some]
      unfold tree_Join.f
      rw [given_of (by omega), Option.bind_some, joinM_yes hof ⟨hr, hni⟩, wrap1 i (by omega), ← take_snoc hi, List.foldl_append]
      rfl
    · show tree_Build.b1 l ((l.take l.length).foldl joinT (.leaf a)).text (l.length : Int) = _
      unfold tree_Build.b1
      rw [cond_f (by omega), List.take_length]
      rfl
  rw [hloop]
  rfl
def roundO (p : Int) (V : D_api_View) (T : Tr) (sec : List UInt8) : O_rekey_Round := { me_ := p, v_ := V, secret_ := sec, tree_ := T.text, known_ := [], told_ := [], marked_ := false, marks_ := [] }
theorem view_of {ms : List Int} (hm : MsOk ms) {e h : Int} (hh : h ∈ ms) (he : 0 ≤ e ∧ e ≤ 1000) : ViewOk (buildT ms) ((e, h), ms) where
  ok := (buildT_ok hm).1
  nd := buildT_nd hm
  ms := (buildT_ms hm).symm
  right := by
    unfold rightV
    rw [rowB_ms hm, decide_eq_true hh, decide_eq_true he.1, decide_eq_true (show e ≤ 2147483647 by omega)]
    rfl
  ep := he
theorem new_is {ms : List Int} (hm : MsOk ms) {e h p : Int} (hh : h ∈ ms) (he : 0 ≤ e ∧ e ≤ 1000) (hp : p ∈ ms) {sec : List UInt8} (hs : full sec 1) (hsl : sec.length = 9) :
    rekey_New.f p ((e, h), ms) sec = some (some (roundO p ((e, h), ms) (buildT ms) sec), 0) := by
  have hv := view_of hm hh he
  have hl := hm.len
  unfold rekey_New.f
  rw [viewRight_eq _ (show ms.length ≤ _ by omega), Option.bind_some, hv.right, Bool.not_true, cond_false, has_eq _ _ (show ms.length ≤ _ by omega), Option.bind_some, decide_eq_true hp, Bool.not_true, cond_false, rightF hs (by omega) (by omega), Option.bind_some]
  unfold rekey_New.k1
  rw [decide_eq_false (show ¬ ((sec.length : Int) > 1000) by omega)]
  simp only [cond_true, cond_false, Bool.not_true]
  rw [build_is hm, Option.bind_some]
  simp only [bne_self_eq_false, cond_false]
  rw [members_of hv.ok hv.nd, Option.bind_some, show sortZ (buildT ms).leavesR = ms from buildT_ms hm]
  rfl
end Go.Proofs.YtfapphlhkfddoaaGreatDoor.G
/- Chapter 16, one member: a message comes, as it is reckoned. -/
namespace Go.Proofs.YtfapphlhkfddoaaGreatDoor.G
open Go.RowKit Go.Eng Go.Proofs Go.Proofs.YtfapphlhkfddoaaGreatDoor.Cut
set_option linter.unusedVariables false
set_option linter.unusedSimpArgs false
theorem preK_mono {K K' : List (List UInt8 × List UInt8)} (h : ∀ x, (getA x K).isSome = true → (getA x K').isSome = true) (π : List UInt8) : ∀ d, preK K π d ≤ preK K' π d := by
  intro d
  induction d with
  | zero => exact Nat.le_refl _
  | succ d ih =>
    rw [preK_succ, preK_succ]
    by_cases hg : (getA (besideT (π.take (d + 1))) K).isSome = true
    · rw [if_pos hg, if_pos (h _ hg)]; omega
    · rw [if_neg hg]; omega
section
variable {T : Tr} {V : D_api_View} {first : Int} {p q : Int} {π : List UInt8} {O : O_rekey_Round}
structure MemOk (T : Tr) (V : D_api_View) (first : Int) (p : Int) (π : List UInt8) (O : O_rekey_Round) : Prop where
  rk : RkOk T V first p O
  mrk : marksOk T V first O
  told : toldIs T p O (canT T p π O)
  marked : O.marked_ = true ↔ preK O.known_ π π.length = π.length
def outM (T : Tr) (V : D_api_View) (first : Int) (p : Int) (c c' : Nat) (b b' : Bool) : List D_list_Message :=
  (((duT T p).take c').drop c).map (msgB T V first) ++ (if b' = true ∧ b = false then [msgC T V first p] else [])
def leftM (T : Tr) (p : Int) (π : List UInt8) (O : O_rekey_Round) : Nat := (duT T p).length - canT T p π O + (if O.marked_ = true then 0 else 1)
theorem canT_le : canT T p π O ≤ (duT T p).length := Nat.min_le_left _ _
theorem canT_mono {O' : O_rekey_Round} (h : ∀ x, (getA x O.known_).isSome = true → (getA x O'.known_).isSome = true) : canT T p π O ≤ canT T p π O' := by
  have := preK_mono h π π.length
  unfold canT
  omega
def closedQ (T : Tr) (p : Int) (π : List UInt8) (Q : List UInt8 → Prop) : Prop := ∀ K : List (List UInt8 × List UInt8), (∀ y, (getA y K).isSome = true → Q y) → ∀ n ∈ (duT T p).take (min (duT T p).length (preK K π π.length + 1)), Q n
theorem start_mem (hv : ViewOk T V) (h : RkOk T V first p O) (hπ : pathL T p = some π) (hmk : marksOk T V first O) {t : Nat} (ht : toldIs T p O t) (htc : t ≤ canT T p π O) (hm : O.marked_ = true → preK O.known_ π π.length = π.length) :
    ∃ O', rekey_Round_Start.f O = some (outM T V first p t (canT T p π O') O.marked_ O'.marked_, O') ∧ MemOk T V first p π O' ∧ canT T p π O' = canT T p π O ∧ O'.marks_ = O.marks_ ∧ (O.marked_ = true → O'.marked_ = true) ∧ (∀ x, (getA x O.known_).isSome = true → (getA x O'.known_).isSome = true) ∧ (∀ Q, closedQ T p π Q → (∀ y, (getA y O.known_).isSome = true → Q y) → ∀ y, (getA y O'.known_).isSome = true → Q y) := by
  obtain ⟨s1, s2, s3, s4, s5, s6, s7⟩ := startO_ok hv h hπ ht htc
  refine ⟨startO T first p π O t, ?_, ⟨s1, fun q m hq => hmk q m (by rw [← s5]; exact hq), by rw [s3]; exact s2, ?_⟩, s3, s5, fun hO => s6.2 (.inl hO), s7, fun Q hQ hK y hy => ?_⟩
  · rw [start_is hv h hπ ht htc]
    refine congrArg some (Prod.ext ?_ rfl)
    show startM T V first p π O t = _
    unfold startM outM
    rw [s3]
    congr 1
    by_cases hk : preK O.known_ π π.length = π.length ∧ O.marked_ = false
    · rw [if_pos hk, if_pos ⟨s6.2 (.inr hk.1), hk.2⟩]
    · rw [if_neg hk, if_neg (fun q => ?_)]
      rcases s6.1 q.1 with e | e
      · rw [q.2] at e; cases e
      · exact hk ⟨e, q.2⟩
  · rw [s4, s6]
    exact ⟨fun e => e.elim hm id, .inr⟩
  · have e : (startO T first p π O t).known_ = (addT T first O (((duT T p).take (canT T p π O)).drop t)).known_ := by
      unfold startO; dsimp only; split <;> rfl
    rw [e, addT_known] at hy
    split at hy
    · rename_i hin
      exact hQ O.known_ hK y (List.mem_of_mem_drop hin)
    · exact hK y hy
theorem out_len {O' : O_rekey_Round} (hc : canT T p π O ≤ canT T p π O') (hm : O.marked_ = true → O'.marked_ = true) :
    (outM T V first p (canT T p π O) (canT T p π O') O.marked_ O'.marked_).length + leftM T p π O' = leftM T p π O := by
  have h1 : canT T p π O' ≤ (duT T p).length := canT_le
  unfold outM leftM
  rw [List.length_append, List.length_map, List.length_drop, List.length_take, Nat.min_eq_left h1]
  cases hb : O.marked_ <;> cases hb' : O'.marked_
  · simp; omega
  · simp; omega
  · exact absurd (hm hb) (by rw [hb']; simp)
  · simp; omega
structure TookOk (T : Tr) (V : D_api_View) (first : Int) (p : Int) (π : List UInt8) (O O' : O_rekey_Round) : Prop where
  mem : MemOk T V first p π O'
  can : canT T p π O ≤ canT T p π O'
  marked : O.marked_ = true → O'.marked_ = true
  known : ∀ x, (getA x O.known_).isSome = true → (getA x O'.known_).isSome = true
  marks : ∀ x, (getA x O.marks_).isSome = true → (getA x O'.marks_).isSome = true
theorem TookOk.refl (h : MemOk T V first p π O) : TookOk T V first p π O O := ⟨h, Nat.le_refl _, id, fun _ => id, fun _ => id⟩
theorem out_none {c : Nat} {b : Bool} (hc : c ≤ (duT T p).length) : outM T V first p c c b b = [] := by
  unfold outM
  rw [List.drop_of_length_le (by rw [List.length_take]; omega), if_neg (by rintro ⟨e, f⟩; rw [e] at f; cases f)]
  rfl
theorem take_B (hv : ViewOk T V) (hm : MemOk T V first p π O) (hπ : pathL T p = some π) {x : List UInt8} {S : Tr} (hx : subT T x = some S) (hne : x ≠ []) (hl : x.length ≤ 100) (hs : sponM T.text x = q) (hq : q ∈ memS T) (hqp : q ≠ p) :
    ∃ O', rekey_Round_Take.f O q (msgB T V first x) = some (outM T V first p (canT T p π O) (canT T p π O') O.marked_ O'.marked_, O') ∧ TookOk T V first p π O O' ∧ (getA x O'.known_).isSome = true ∧ (∀ Q, closedQ T p π Q → (∀ y, (getA y O.known_).isSome = true → Q y) → Q x → ∀ y, (getA y O'.known_).isSome = true → Q y) := by
  rw [take_blind hv hm.rk hx hne hl hs hq hqp]
  by_cases hg : (getA x O.known_).isSome = true
  · rw [if_pos hg]
    exact ⟨O, by rw [out_none canT_le], .refl hm, hg, fun Q _ hK _ => hK⟩
  · rw [if_neg hg]
    have hmono : ∀ y, (getA y O.known_).isSome = true → (getA y (putA x (blT T first x) O.known_)).isSome = true := fun y hy => by
      rw [getA_put]; split
      · rfl
      · exact hy
    have hmono' : ∀ y, (getA y O.known_).isSome = true → (getA y ({ O with known_ := putA x (blT T first x) O.known_ } : O_rekey_Round).known_).isSome = true := hmono
    obtain ⟨O', h1, h2, h3, h4, h5, h6, h7⟩ := start_mem (O := { O with known_ := putA x (blT T first x) O.known_ }) hv
      ⟨hm.rk.me, hm.rk.v, hm.rk.sec, hm.rk.tree, fun n e hn => by
        rw [show getA n ({ O with known_ := putA x (blT T first x) O.known_ } : O_rekey_Round).known_ = getA n (putA x (blT T first x) O.known_) from rfl, getA_put] at hn
        split at hn
        · rename_i he
          cases hn
          rw [he]
          exact ⟨rfl, S, hx⟩
        · exact hm.rk.known n e hn⟩ hπ hm.mrk (t := canT T p π O) hm.told (canT_mono hmono') (fun hb => by
        have a := hm.marked.1 hb
        have b := preK_mono hmono' π π.length
        have c := preK_le ({ O with known_ := putA x (blT T first x) O.known_ } : O_rekey_Round).known_ π π.length
        omega)
    refine ⟨O', h1, ⟨h2, by rw [h3]; exact canT_mono hmono', h5, fun y hy => h6 y (hmono y hy), fun y hy => by rw [h4]; exact hy⟩, h6 x ?_, fun Q hQ hK hx y hy => h7 Q hQ (fun y hy => ?_) y hy⟩
    rotate_left
    · rw [show getA y ({ O with known_ := putA x (blT T first x) O.known_ } : O_rekey_Round).known_ = getA y (putA x (blT T first x) O.known_) from rfl, getA_put] at hy
      split at hy
      · rename_i he; rw [he]; exact hx
      · exact hK y hy
    show (getA x (putA x (blT T first x) O.known_)).isSome = true
    rw [getA_put, if_pos rfl]; rfl
theorem take_C (hv : ViewOk T V) (hm : MemOk T V first p π O) (hq : q ∈ memS T) (hqp : q ≠ p) :
    ∃ O', rekey_Round_Take.f O q (msgC T V first q) = some (outM T V first p (canT T p π O) (canT T p π O') O.marked_ O'.marked_, O') ∧ TookOk T V first p π O O' ∧ (getA q O'.marks_).isSome = true ∧ O'.known_ = O.known_ := by
  rw [take_mark hv hm.rk hq hqp]
  by_cases hg : (getA q O.marks_).isSome = true
  · rw [if_pos hg]
    exact ⟨O, by rw [out_none canT_le], .refl hm, hg, rfl⟩
  · rw [if_neg hg]
    refine ⟨{ O with marks_ := putA q (markT (keyT T V first) q) O.marks_ }, ?_, ⟨⟨⟨hm.rk.me, hm.rk.v, hm.rk.sec, hm.rk.tree, hm.rk.known⟩, fun r m hr => ?_, hm.told, hm.marked⟩, Nat.le_refl _, id, fun _ => id, fun y hy => ?_⟩, ?_, rfl⟩
    · rw [show canT T p π ({ O with marks_ := putA q (markT (keyT T V first) q) O.marks_ } : O_rekey_Round) = canT T p π O from rfl, show ({ O with marks_ := putA q (markT (keyT T V first) q) O.marks_ } : O_rekey_Round).marked_ = O.marked_ from rfl, out_none canT_le]
    · rw [show ({ O with marks_ := putA q (markT (keyT T V first) q) O.marks_ } : O_rekey_Round).marks_ = putA q (markT (keyT T V first) q) O.marks_ from rfl, getA_put] at hr
      split at hr
      · rename_i he
        cases hr
        rw [he]
      · exact hm.mrk r m hr
    · show (getA y (putA q (markT (keyT T V first) q) O.marks_)).isSome = true
      rw [getA_put]; split
      · rfl
      · exact hy
    · show (getA q (putA q (markT (keyT T V first) q) O.marks_)).isSome = true
      rw [getA_put, if_pos rfl]; rfl
end
end Go.Proofs.YtfapphlhkfddoaaGreatDoor.G
/- Chapter 16, all members: a letter comes, as it is reckoned. -/
namespace Go.Proofs.YtfapphlhkfddoaaGreatDoor.G
open Go.RowKit Go.Eng Go.Proofs Go.Proofs.YtfapphlhkfddoaaGreatDoor.Cut
set_option linter.unusedVariables false
set_option linter.unusedSimpArgs false
def osL (o : Nat → O_rekey_Round) (N : Nat) : List (Option O_rekey_Round) := (List.range N).map fun i => some (o i)
def updO (o : Nat → O_rekey_Round) (j : Nat) (x : O_rekey_Round) : Nat → O_rekey_Round := fun i => if i = j then x else o i
theorem updO_eq (o : Nat → O_rekey_Round) (j : Nat) (x : O_rekey_Round) : updO o j x j = x := if_pos rfl
theorem updO_ne (o : Nat → O_rekey_Round) {i j : Nat} (x : O_rekey_Round) (h : i ≠ j) : updO o j x i = o i := if_neg h
theorem osL_len (o : Nat → O_rekey_Round) (N : Nat) : (osL o N).length = N := by simp [osL]
theorem osL_get (o : Nat → O_rekey_Round) {i N : Nat} (h : i < N) : idxL (osL o N) (i : Int) = some (some (o i)) := by
  rw [idxL_lt (by rw [osL_len]; exact h)]
  simp [osL]
theorem osL_set (o : Nat → O_rekey_Round) {j N : Nat} (h : j < N) (x : O_rekey_Round) : (osL o N).set j (some x) = osL (updO o j x) N := by
  refine List.ext_getElem (by rw [List.length_set, osL_len, osL_len]) fun i h1 h2 => ?_
  rw [List.getElem_set]
  simp only [osL, List.getElem_map, List.getElem_range, updO]
  by_cases hi : j = i
  · rw [if_pos hi, if_pos hi.symm]
  · rw [if_neg hi, if_neg (fun e => hi e.symm)]
theorem osL_succ (o : Nat → O_rekey_Round) (N : Nat) : osL o (N + 1) = osL o N ++ [some (o N)] := by
  unfold osL
  rw [List.range_succ, List.map_append]
  rfl
section
variable {T : Tr} {V : D_api_View} {first : Int} {p q : Int} {π : List UInt8} {O : O_rekey_Round}
def saidBy (T : Tr) (V : D_api_View) (first : Int) (p : Int) (c : Nat) (b : Bool) (x : D_list_Message) : Prop := (∃ n ∈ (duT T p).take c, x = msgB T V first n) ∨ (x = msgC T V first p ∧ b = true)
theorem mem_take_mono {α : Type} {l : List α} {c c' : Nat} (h : c ≤ c') {x : α} (hx : x ∈ l.take c) : x ∈ l.take c' := by
  have : l.take c = (l.take c').take c := by rw [List.take_take, Nat.min_eq_left h]
  rw [this] at hx
  exact List.mem_of_mem_take hx
theorem saidBy_mono {c c' : Nat} {b b' : Bool} (hc : c ≤ c') (hb : b = true → b' = true) {x : D_list_Message} (h : saidBy T V first p c b x) : saidBy T V first p c' b' x := by
  rcases h with ⟨n, hn, e⟩ | ⟨e, f⟩
  · exact .inl ⟨n, mem_take_mono hc hn, e⟩
  · exact .inr ⟨e, hb f⟩
theorem out_said {c c' : Nat} {b b' : Bool} {x : D_list_Message} (h : x ∈ outM T V first p c c' b b') : saidBy T V first p c' b' x := by
  unfold outM at h
  rcases List.mem_append.1 h with h | h
  · obtain ⟨n, hn, e⟩ := List.mem_map.1 h
    exact .inl ⟨n, List.mem_of_mem_drop hn, e.symm⟩
  · split at h
    · rename_i hb
      exact .inr ⟨List.mem_singleton.1 h, hb.1⟩
    · cases h
theorem msgB_inj {x y : List UInt8} (h : msgB T V first x = msgB T V first y) : x = y := by
  have h1 : textT x = textT y := by
    have := congrArg (fun m : D_list_Message => m.2.2.2.2.2) h
    exact (List.cons.inj this).1
  exact (List.cons.inj (List.cons.inj (List.cons.inj h1).2).2).2
theorem msgBC {x : List UInt8} (h : msgB T V first x = msgC T V first p) : False := by
  have : (7 : Int) = 8 := congrArg (fun m : D_list_Message => m.1) h
  omega
def gotM (T : Tr) (V : D_api_View) (first : Int) (q : Int) (x : D_list_Message) (O : O_rekey_Round) : Prop := (∀ n, x = msgB T V first n → (getA n O.known_).isSome = true) ∧ (x = msgC T V first q → (getA q O.marks_).isSome = true)
def keepQ (T : Tr) (V : D_api_View) (first : Int) (p : Int) (π : List UInt8) (x : D_list_Message) (O O' : O_rekey_Round) : Prop := ∀ Q, closedQ T p π Q → (∀ y, (getA y O.known_).isSome = true → Q y) → (∀ n, x = msgB T V first n → Q n) → ∀ y, (getA y O'.known_).isSome = true → Q y
theorem take_any (hv : ViewOk T V) (hm : MemOk T V first p π O) (hπ : pathL T p = some π) {ρ : List UInt8} (hρ : pathL T q = some ρ) (hq : q ∈ memS T) (hqp : q ≠ p) {c : Nat} {b : Bool} {x : D_list_Message} (hx : saidBy T V first q c b x) :
    ∃ O', rekey_Round_Take.f O q x = some (outM T V first p (canT T p π O) (canT T p π O') O.marked_ O'.marked_, O') ∧ TookOk T V first p π O O' ∧ gotM T V first q x O' ∧ keepQ T V first p π x O O' := by
  rcases hx with ⟨n, hn, rfl⟩ | ⟨rfl, hb⟩
  · have hn' := List.mem_of_mem_take hn
    obtain ⟨_, _, _, _, _, h5⟩ := duty_nodes hv hρ
    obtain ⟨_, h6, h7, S, h8⟩ := h5 n hn'
    have hs : sponM T.text n = q := ((dut_mem hv.ok hv.nd h8 q).1 hn').2
    obtain ⟨O', k1, k2, k3, k4⟩ := take_B hv hm hπ h8 h6 (by omega) hs hq hqp
    refine ⟨O', k1, k2, ⟨fun y hy => ?_, fun e => (msgBC e).elim⟩, fun Q hQ hK hy => k4 Q hQ hK (hy n rfl)⟩
    rw [← msgB_inj hy]; exact k3
  · obtain ⟨O', k1, k2, k3, k4⟩ := take_C (p := p) hv hm hq hqp
    refine ⟨O', k1, k2, ⟨fun y hy => (msgBC hy.symm).elim, fun _ => k3⟩, fun Q hQ hK _ y hy => hK y (by rw [← k4]; exact hy)⟩
def mAt (T : Tr) (i : Nat) : Int := ((memS T)[i]?).getD 0
def pth (T : Tr) (p : Int) : List UInt8 := (pathL T p).getD []
abbrev nN (T : Tr) : Nat := (memS T).length
abbrev canI (T : Tr) (o : Nat → O_rekey_Round) (i : Nat) : Nat := canT T (mAt T i) (pth T (mAt T i)) (o i)
theorem mAt_get {i : Nat} (h : i < nN T) : mAt T i = (memS T)[i] := by unfold mAt; rw [List.getElem?_eq_getElem h]; rfl
theorem mAt_mem {i : Nat} (h : i < nN T) : mAt T i ∈ memS T := by rw [mAt_get h]; exact List.getElem_mem h
theorem mAt_path {i : Nat} (h : i < nN T) : pathL T (mAt T i) = some (pth T (mAt T i)) := by
  obtain ⟨π, hπ⟩ := leaf_path ((sortZ_perm _).mem_iff.1 (mAt_mem h))
  unfold pth
  rw [hπ]; rfl
theorem mAt_inj (hn : T.leavesR.Nodup) {i j : Nat} (hi : i < nN T) (hj : j < nN T) (h : mAt T i = mAt T j) : i = j := by
  have hd : (memS T).Nodup := (sortZ_perm _).nodup_iff.2 hn
  rw [mAt_get hi, mAt_get hj] at h
  rcases Nat.lt_trichotomy i j with a | a | a
  · exact absurd h (List.pairwise_iff_getElem.1 hd i j hi hj a)
  · exact a
  · exact absurd h.symm (List.pairwise_iff_getElem.1 hd j i hj hi a)
structure SysOk (T : Tr) (V : D_api_View) (first : Int) (P : Nat → Prop) (o : Nat → O_rekey_Round) (row : List D_gemotlaw16_letter) : Prop where
  mem : ∀ i, i < nN T → MemOk T V first (mAt T i) (pth T (mAt T i)) (o i)
  let1 : ∀ l ∈ row, ∃ i j x, i < nN T ∧ j < nN T ∧ i ≠ j ∧ l = (mAt T i, (j : Int), x) ∧ saidBy T V first (mAt T i) (canI T o i) (o i).marked_ x
  due : ∀ i j, i < nN T → j < nN T → i ≠ j → P i → ∀ n ∈ (duT T (mAt T i)).take (canI T o i), (getA n (o j).known_).isSome = true ∨ (mAt T i, (j : Int), msgB T V first n) ∈ row
  mrk : ∀ i j, i < nN T → j < nN T → i ≠ j → P i → (o i).marked_ = true → (getA (mAt T i) (o j).marks_).isSome = true ∨ (mAt T i, (j : Int), msgC T V first (mAt T i)) ∈ row
abbrev outI (T : Tr) (V : D_api_View) (first : Int) (j : Nat) (O O' : O_rekey_Round) : List D_list_Message := outM T V first (mAt T j) (canT T (mAt T j) (pth T (mAt T j)) O) (canT T (mAt T j) (pth T (mAt T j)) O') O.marked_ O'.marked_
theorem step_sys (hv : ViewOk T V) {P : Nat → Prop} {o : Nat → O_rekey_Round} {a b : List D_gemotlaw16_letter} {l : D_gemotlaw16_letter} (h : SysOk T V first P o (a ++ l :: b)) :
    ∃ i j x O', i < nN T ∧ j < nN T ∧ i ≠ j ∧ l = (mAt T i, (j : Int), x) ∧ saidBy T V first (mAt T i) (canI T o i) (o i).marked_ x ∧
      rekey_Round_Take.f (o j) (mAt T i) x = some (outI T V first j (o j) O', O') ∧ TookOk T V first (mAt T j) (pth T (mAt T j)) (o j) O' ∧ keepQ T V first (mAt T j) (pth T (mAt T j)) x (o j) O' ∧
      SysOk T V first P (updO o j O') (a ++ b ++ sendL (mAt T j) j (nN T) (outI T V first j (o j) O')) := by
  obtain ⟨i, j, x, hi, hj, hij, hl, hsaid⟩ := h.let1 l (by simp)
  obtain ⟨O', k1, k2, k3, k4⟩ := take_any hv (h.mem j hj) (mAt_path hj) (mAt_path hi) (mAt_mem hi) (fun e => hij (mAt_inj hv.nd hi hj e)) hsaid
  refine ⟨i, j, x, O', hi, hj, hij, hl, hsaid, k1, k2, k4, ?_⟩
  have hcan : ∀ r, canI T o r ≤ canI T (updO o j O') r := fun r => by
    by_cases hr : r = j
    · subst hr; unfold canI; rw [updO_eq]; exact k2.can
    · unfold canI; rw [updO_ne _ _ hr]; exact Nat.le_refl _
  have hmk : ∀ r, (o r).marked_ = true → (updO o j O' r).marked_ = true := fun r => by
    by_cases hr : r = j
    · subst hr; rw [updO_eq]; exact k2.marked
    · rw [updO_ne _ _ hr]; exact id
  have hkn : ∀ r y, (getA y (o r).known_).isSome = true → (getA y (updO o j O' r).known_).isSome = true := fun r y => by
    by_cases hr : r = j
    · subst hr; rw [updO_eq]; exact k2.known y
    · rw [updO_ne _ _ hr]; exact id
  have hms : ∀ r y, (getA y (o r).marks_).isSome = true → (getA y (updO o j O' r).marks_).isSome = true := fun r y => by
    by_cases hr : r = j
    · subst hr; rw [updO_eq]; exact k2.marks y
    · rw [updO_ne _ _ hr]; exact id
  -- what was in the row is there still, or has come
  have hrow : ∀ r k y, r < nN T → k < nN T → (mAt T r, (k : Int), y) ∈ a ++ l :: b → (r = i ∧ k = j ∧ y = x) ∨ (mAt T r, (k : Int), y) ∈ a ++ b ++ sendL (mAt T j) j (nN T) (outI T V first j (o j) O') := fun r k y hr hk hy => by
    rcases List.mem_append.1 hy with hy | hy
    · exact .inr (List.mem_append_left _ (List.mem_append_left _ hy))
    · rcases List.mem_cons.1 hy with hy | hy
      · rw [hl] at hy
        have e1 := congrArg (fun z : D_gemotlaw16_letter => z.1) hy
        have e2 := congrArg (fun z : D_gemotlaw16_letter => z.2.1) hy
        have e3 := congrArg (fun z : D_gemotlaw16_letter => z.2.2) hy
        exact .inl ⟨mAt_inj hv.nd hr hi e1, Int.ofNat.inj e2, e3⟩
      · exact .inr (List.mem_append_left _ (List.mem_append_right _ hy))
  have hnew : ∀ k y, k < nN T → k ≠ j → y ∈ outI T V first j (o j) O' → (mAt T j, (k : Int), y) ∈ a ++ b ++ sendL (mAt T j) j (nN T) (outI T V first j (o j) O') := fun k y hk hkj hy =>
    List.mem_append_right _ (sendL_mem.2 ⟨y, hy, k, hk, hkj, rfl⟩)
  refine ⟨fun r hr => ?_, fun l' hl' => ?_, fun r k hr hk hrk hP n hn => ?_, fun r k hr hk hrk hP hm => ?_⟩
  · by_cases e : r = j
    · subst e; rw [updO_eq]; exact k2.mem
    · rw [updO_ne _ _ e]; exact h.mem r hr
  · rcases List.mem_append.1 hl' with hl' | hl'
    · obtain ⟨r, k, y, h1, h2, h3, h4, h5⟩ := h.let1 l' (by
        rcases List.mem_append.1 hl' with q | q
        · exact List.mem_append_left _ q
        · exact List.mem_append_right _ (List.mem_cons_of_mem _ q))
      exact ⟨r, k, y, h1, h2, h3, h4, saidBy_mono (hcan r) (hmk r) h5⟩
    · obtain ⟨y, hy, k, h1, h2, h3⟩ := sendL_mem.1 hl'
      refine ⟨j, k, y, hj, h1, fun e => h2 e.symm, h3, ?_⟩
      have := out_said hy
      unfold canI
      rw [updO_eq]
      exact this
  · -- blinds
    have old : n ∈ (duT T (mAt T r)).take (canI T o r) → (getA n (updO o j O' k).known_).isSome = true ∨ (mAt T r, (k : Int), msgB T V first n) ∈ a ++ b ++ sendL (mAt T j) j (nN T) (outI T V first j (o j) O') := fun hn => by
      rcases h.due r k hr hk hrk hP n hn with q | q
      · exact .inl (hkn k n q)
      · rcases hrow r k _ hr hk q with ⟨e1, e2, e3⟩ | q
        · refine .inl ?_
          rw [e2, updO_eq]
          exact k3.1 n e3.symm
        · exact .inr q
    by_cases e : r = j
    · by_cases hn' : n ∈ (duT T (mAt T r)).take (canI T o r)
      · exact old hn'
      · subst e
        refine .inr (hnew k _ hk (fun q => hrk q.symm) ?_)
        unfold canI at hn hn'
        rw [updO_eq] at hn
        refine List.mem_append_left _ (List.mem_map.2 ⟨n, ?_, rfl⟩)
        have e2 : (duT T (mAt T r)).take (canT T (mAt T r) (pth T (mAt T r)) O') = (duT T (mAt T r)).take (canT T (mAt T r) (pth T (mAt T r)) (o r)) ++ ((duT T (mAt T r)).take (canT T (mAt T r) (pth T (mAt T r)) O')).drop (canT T (mAt T r) (pth T (mAt T r)) (o r)) := by
          have := (List.take_append_drop (canT T (mAt T r) (pth T (mAt T r)) (o r)) ((duT T (mAt T r)).take (canT T (mAt T r) (pth T (mAt T r)) O'))).symm
          rwa [List.take_take, Nat.min_eq_left k2.can] at this
        rw [e2] at hn
        exact (List.mem_append.1 hn).resolve_left hn'
    · refine old ?_
      unfold canI at hn
      rw [updO_ne _ _ e] at hn
      exact hn
  · have old : (o r).marked_ = true → (getA (mAt T r) (updO o j O' k).marks_).isSome = true ∨ (mAt T r, (k : Int), msgC T V first (mAt T r)) ∈ a ++ b ++ sendL (mAt T j) j (nN T) (outI T V first j (o j) O') := fun hm => by
      rcases h.mrk r k hr hk hrk hP hm with q | q
      · exact .inl (hms k _ q)
      · rcases hrow r k _ hr hk q with ⟨e1, e2, e3⟩ | q
        · refine .inl ?_
          rw [e2, updO_eq, e1]
          exact k3.2 (by rw [← e3, e1])
        · exact .inr q
    by_cases e : r = j
    · cases hb : (o r).marked_ with
      | true => exact old hb
      | false =>
        subst e
        rw [updO_eq] at hm
        refine .inr (hnew k _ hk (fun q => hrk q.symm) (List.mem_append_right _ ?_))
        rw [if_pos ⟨hm, hb⟩]
        exact List.mem_singleton.2 rfl
    · rw [updO_ne _ _ e] at hm
      exact old hm
end
end Go.Proofs.YtfapphlhkfddoaaGreatDoor.G
/- Chapter 16, all members: how much is to come, as it is reckoned. -/
namespace Go.Proofs.YtfapphlhkfddoaaGreatDoor.G
open Go.RowKit Go.Eng Go.Proofs Go.Proofs.YtfapphlhkfddoaaGreatDoor.Cut
set_option linter.unusedVariables false
set_option linter.unusedSimpArgs false
def wM (wb wc : Nat) (x : D_list_Message) : Nat := if x.1 = 7 then wb else wc
def sumW (wb wc : Nat) (l : List D_list_Message) : Nat := (l.map (wM wb wc)).sum
def rowW (wb wc : Nat) (l : List D_gemotlaw16_letter) : Nat := (l.map fun x => wM wb wc x.2.2).sum
theorem sumW_app (wb wc : Nat) (a b : List D_list_Message) : sumW wb wc (a ++ b) = sumW wb wc a + sumW wb wc b := by unfold sumW; rw [List.map_append, List.sum_append]
theorem rowW_app (wb wc : Nat) (a b : List D_gemotlaw16_letter) : rowW wb wc (a ++ b) = rowW wb wc a + rowW wb wc b := by unfold rowW; rw [List.map_append, List.sum_append]
theorem rowW_one (l : List D_gemotlaw16_letter) : rowW 1 1 l = l.length := by
  induction l with
  | nil => rfl
  | cons x l ih =>
    have e : rowW 1 1 (x :: l) = wM 1 1 x.2.2 + rowW 1 1 l := by simp [rowW]
    rw [e, ih, List.length_cons]
    unfold wM
    split <;> omega
theorem sumW_one (l : List D_list_Message) : sumW 1 1 l = l.length := by
  induction l with
  | nil => rfl
  | cons x l ih =>
    have e : sumW 1 1 (x :: l) = wM 1 1 x + sumW 1 1 l := by simp [sumW]
    rw [e, ih, List.length_cons]
    unfold wM
    split <;> omega
theorem toAll_w (wb wc : Nat) (p : Int) (i : Nat) (m : D_list_Message) : ∀ n, rowW wb wc (toAll p i m n) + (if i < n then wM wb wc m else 0) = n * wM wb wc m := by
  intro n
  induction n with
  | zero => simp [toAll, rowW]
  | succ n ih =>
    show rowW wb wc (toAll p i m n ++ (if n = i then [] else [(p, (n : Int), m)])) + _ = _
    rw [rowW_app, Nat.succ_mul]
    by_cases h : n = i
    · rw [if_pos h, if_pos (by omega)]
      rw [if_neg (by omega)] at ih
      show _ + 0 + _ = _
      omega
    · rw [if_neg h]
      have e : rowW wb wc [(p, (n : Int), m)] = wM wb wc m := by simp [rowW]
      rw [e]
      by_cases h2 : i < n
      · rw [if_pos (by omega)]; rw [if_pos h2] at ih; omega
      · rw [if_neg (by omega)]; rw [if_neg h2] at ih; omega
theorem sendL_w (wb wc : Nat) (p : Int) {i N : Nat} (hi : i < N) : ∀ l : List D_list_Message, rowW wb wc (sendL p i N l) = (N - 1) * sumW wb wc l := by
  intro l
  induction l with
  | nil => simp [sendL, rowW, sumW]
  | cons m l ih =>
    have h := toAll_w wb wc p i m N
    rw [if_pos hi] at h
    have e1 : sendL p i N (m :: l) = toAll p i m N ++ sendL p i N l := by simp [sendL]
    have e2 : sumW wb wc (m :: l) = wM wb wc m + sumW wb wc l := by simp [sumW]
    have e3 : (N - 1) * wM wb wc m = N * wM wb wc m - wM wb wc m := by rw [Nat.sub_mul, Nat.one_mul]
    rw [e1, rowW_app, ih, e2, Nat.mul_add, e3]
    omega
def sumN (f : Nat → Nat) (N : Nat) : Nat := ((List.range N).map f).sum
theorem sumN_succ (f : Nat → Nat) (N : Nat) : sumN f (N + 1) = sumN f N + f N := by
  unfold sumN
  rw [List.range_succ, List.map_append, List.sum_append]
  simp
theorem sumN_congr {f g : Nat → Nat} : ∀ {N : Nat}, (∀ i, i < N → f i = g i) → sumN f N = sumN g N := by
  intro N
  induction N with
  | zero => intro _; rfl
  | succ N ih =>
    intro h
    rw [sumN_succ, sumN_succ, ih (fun i hi => h i (by omega)), h N (by omega)]
theorem sumN_upd {f g : Nat → Nat} {j : Nat} : ∀ {N : Nat}, j < N → (∀ i, i ≠ j → g i = f i) → sumN g N + f j = sumN f N + g j := by
  intro N
  induction N with
  | zero => intro h; omega
  | succ N ih =>
    intro hj h
    rw [sumN_succ, sumN_succ]
    by_cases e : j = N
    · subst e
      rw [sumN_congr (f := g) (g := f) (fun i hi => h i (by omega))]
      omega
    · have := ih (by omega) h
      rw [h N (fun q => e q.symm)]
      omega
theorem sumN_le {f : Nat → Nat} {c : Nat} : ∀ {N : Nat}, (∀ i, i < N → f i ≤ c) → sumN f N ≤ N * c := by
  intro N
  induction N with
  | zero => intro _; exact Nat.zero_le _
  | succ N ih =>
    intro h
    rw [sumN_succ, Nat.succ_mul]
    have := ih (fun i hi => h i (by omega))
    have := h N (by omega)
    omega
section
variable {T : Tr} {V : D_api_View} {first : Int} {p q : Int} {π : List UInt8} {O : O_rekey_Round}
theorem sumW_B (wb wc : Nat) (l : List (List UInt8)) : sumW wb wc (l.map (msgB T V first)) = wb * l.length := by
  induction l with
  | nil => rfl
  | cons x l ih =>
    have e : sumW wb wc ((x :: l).map (msgB T V first)) = wM wb wc (msgB T V first x) + sumW wb wc (l.map (msgB T V first)) := by simp [sumW]
    rw [e, ih, List.length_cons, Nat.mul_succ]
    have : wM wb wc (msgB T V first x) = wb := if_pos rfl
    omega
theorem out_w (wb wc : Nat) {c c' : Nat} {b b' : Bool} (hc : c ≤ c') (hl : c' ≤ (duT T p).length) (hb : b = true → b' = true) :
    sumW wb wc (outM T V first p c c' b b') + (wb * ((duT T p).length - c') + (if b' = true then 0 else wc)) = wb * ((duT T p).length - c) + (if b = true then 0 else wc) := by
  unfold outM
  have e1 : ((((duT T p).take c').drop c)).length = c' - c := by rw [List.length_drop, List.length_take, Nat.min_eq_left hl]
  have e2 : wb * (c' - c) + wb * ((duT T p).length - c') = wb * ((duT T p).length - c) := by rw [← Nat.mul_add]; congr 1; omega
  rw [sumW_app, sumW_B, e1]
  have e3 : wM wb wc (msgC T V first p) = wc := if_neg (by show ¬ ((8 : Int) = 7); decide)
  cases b <;> cases b'
  · simp [sumW]; omega
  · simp [sumW, e3]; omega
  · exact absurd (hb rfl) (by simp)
  · simp [sumW]; omega
def leftW (wb wc : Nat) (T : Tr) (p : Int) (π : List UInt8) (O : O_rekey_Round) : Nat := wb * ((duT T p).length - canT T p π O) + (if O.marked_ = true then 0 else wc)
def phiW (wb wc : Nat) (T : Tr) (o : Nat → O_rekey_Round) (row : List D_gemotlaw16_letter) : Nat := rowW wb wc row + (nN T - 1) * sumN (fun i => leftW wb wc T (mAt T i) (pth T (mAt T i)) (o i)) (nN T)
theorem phi_step (wb wc : Nat) {o : Nat → O_rekey_Round} {a b : List D_gemotlaw16_letter} {l : D_gemotlaw16_letter} {j : Nat} (hj : j < nN T) {O' : O_rekey_Round} (hO : TookOk T V first (mAt T j) (pth T (mAt T j)) (o j) O') :
    phiW wb wc T (updO o j O') (a ++ b ++ sendL (mAt T j) j (nN T) (outI T V first j (o j) O')) + wM wb wc l.2.2 = phiW wb wc T o (a ++ l :: b) := by
  have h1 := sumN_upd (f := fun i => leftW wb wc T (mAt T i) (pth T (mAt T i)) (o i)) (g := fun i => leftW wb wc T (mAt T i) (pth T (mAt T i)) (updO o j O' i)) hj (fun i hi => by show leftW _ _ _ _ _ _ = _; rw [updO_ne _ _ hi])
  have h2 := out_w (T := T) (V := V) (first := first) (p := mAt T j) wb wc hO.can canT_le hO.marked
  have h3 : leftW wb wc T (mAt T j) (pth T (mAt T j)) (updO o j O' j) = leftW wb wc T (mAt T j) (pth T (mAt T j)) O' := by rw [updO_eq]
  simp only [h3] at h1
  have h4 : sumN (fun i => leftW wb wc T (mAt T i) (pth T (mAt T i)) (updO o j O' i)) (nN T) + sumW wb wc (outI T V first j (o j) O') = sumN (fun i => leftW wb wc T (mAt T i) (pth T (mAt T i)) (o i)) (nN T) := by
    have h2' : sumW wb wc (outI T V first j (o j) O') + leftW wb wc T (mAt T j) (pth T (mAt T j)) O' = leftW wb wc T (mAt T j) (pth T (mAt T j)) (o j) := h2
    omega
  have h5 : (nN T - 1) * sumN (fun i => leftW wb wc T (mAt T i) (pth T (mAt T i)) (updO o j O' i)) (nN T) + (nN T - 1) * sumW wb wc (outI T V first j (o j) O') = (nN T - 1) * sumN (fun i => leftW wb wc T (mAt T i) (pth T (mAt T i)) (o i)) (nN T) := by
    rw [← Nat.mul_add, h4]
  have e : rowW wb wc (a ++ l :: b) = rowW wb wc a + (wM wb wc l.2.2 + rowW wb wc b) := by
    rw [rowW_app]; congr 1; 
  unfold phiW
  rw [rowW_app, rowW_app, sendL_w wb wc _ hj, e]
  omega
end
end Go.Proofs.YtfapphlhkfddoaaGreatDoor.G
/- Chapter 16, all members: how it starts, as it is reckoned. -/
namespace Go.Proofs.YtfapphlhkfddoaaGreatDoor.G
open Go.RowKit Go.Eng Go.Proofs Go.Proofs.YtfapphlhkfddoaaGreatDoor.Cut
set_option linter.unusedVariables false
set_option linter.unusedSimpArgs false
theorem nm_at {T : Tr} (hn : T.leavesR.Nodup) (first : Int) {i : Nat} (h : i < nN T) : nmS T first (mAt T i) = nmAt first i := by
  have hd : (memS T).Nodup := (sortZ_perm _).nodup_iff.2 hn
  rw [mAt_get h]
  unfold nmS nmOf
  rw [hd.idxOf_getElem i h]
section
variable {T : Tr} {V : D_api_View} {first : Int}
abbrev outS (T : Tr) (V : D_api_View) (first : Int) (i : Nat) (O : O_rekey_Round) : List D_list_Message := outM T V first (mAt T i) 0 (canT T (mAt T i) (pth T (mAt T i)) O) false O.marked_
theorem start_one (hv : ViewOk T V) {i : Nat} (h : i < nN T) : ∃ O', rekey_Round_Start.f (roundO (mAt T i) V T (nmAt first i)) = some (outS T V first i O', O') ∧ MemOk T V first (mAt T i) (pth T (mAt T i)) O' ∧ (∀ Q, closedQ T (mAt T i) (pth T (mAt T i)) Q → ∀ y, (getA y O'.known_).isSome = true → Q y) := by
  obtain ⟨O', h1, h2, h3, h4, h5, h6, h7⟩ := start_mem (T := T) (V := V) (first := first) (p := mAt T i) (π := pth T (mAt T i)) (O := roundO (mAt T i) V T (nmAt first i)) hv
    ⟨rfl, rfl, (nm_at hv.nd first h).symm, rfl, fun n e hn => by cases hn⟩ (mAt_path h) (fun q m hq => by cases hq) (t := 0) (fun n => by
      rw [List.take_zero]
      constructor
      · intro hh
        have : ((getA n ([] : List (List UInt8 × Int))).getD 0) = (0 : Int) := rfl
        have hh' : ((getA n ([] : List (List UInt8 × Int))).getD 0) > (0 : Int) := hh
        omega
      · intro hh; cases hh) (Nat.zero_le _) (fun hb => by cases hb)
  exact ⟨O', h1, h2, fun Q hQ y hy => h7 Q hQ (fun y hy => by cases hy) y hy⟩
structure StartOk (T : Tr) (V : D_api_View) (first : Int) (o : Nat → O_rekey_Round) : Prop where
  start : ∀ i, i < nN T → rekey_Round_Start.f (roundO (mAt T i) V T (nmAt first i)) = some (outS T V first i (o i), o i)
  mem : ∀ i, i < nN T → MemOk T V first (mAt T i) (pth T (mAt T i)) (o i)
  keep : ∀ i, i < nN T → ∀ Q, closedQ T (mAt T i) (pth T (mAt T i)) Q → ∀ y, (getA y (o i).known_).isSome = true → Q y
theorem start_all (hv : ViewOk T V) : ∃ o, StartOk T V first o := by
  have h : ∀ i : Nat, ∃ O' : O_rekey_Round, i < nN T → (rekey_Round_Start.f (roundO (mAt T i) V T (nmAt first i)) = some (outS T V first i O', O') ∧ MemOk T V first (mAt T i) (pth T (mAt T i)) O' ∧ (∀ Q, closedQ T (mAt T i) (pth T (mAt T i)) Q → ∀ y, (getA y O'.known_).isSome = true → Q y)) := fun i => by
    by_cases hi : i < nN T
    · obtain ⟨O', hO⟩ := start_one (first := first) hv hi
      exact ⟨O', fun _ => hO⟩
    · exact ⟨roundO 0 V T [], fun q => absurd q hi⟩
  obtain ⟨o, ho⟩ := Classical.axiomOfChoice h
  exact ⟨o, fun i hi => (ho i hi).1, fun i hi => (ho i hi).2.1, fun i hi => (ho i hi).2.2⟩
def rowS (T : Tr) (V : D_api_View) (first : Int) (o : Nat → O_rekey_Round) (k : Nat) : List D_gemotlaw16_letter := (List.range k).flatMap fun i => sendL (mAt T i) i (nN T) (outS T V first i (o i))
theorem rowS_succ (o : Nat → O_rekey_Round) (k : Nat) : rowS T V first o (k + 1) = rowS T V first o k ++ sendL (mAt T k) k (nN T) (outS T V first k (o k)) := by
  unfold rowS
  rw [List.range_succ, List.flatMap_append]
  simp
theorem nN_le (hv : ViewOk T V) : nN T ≤ 8 := by
  have h8 := leaves_eight hv.ok hv.nd
  show (sortZ T.leavesR).length ≤ 8
  rw [sortZ_len]; exact h8
theorem dut_len (hv : ViewOk T V) {i : Nat} (h : i < nN T) : (duT T (mAt T i)).length ≤ 7 := by
  have h8 := leaves_eight hv.ok hv.nd
  obtain ⟨c, h1, _, h3, _⟩ := duty_nodes hv (mAt_path h)
  have := pathL_len T _ _ (mAt_path h)
  omega
theorem outS_len (hv : ViewOk T V) {i : Nat} (h : i < nN T) (O : O_rekey_Round) : (outS T V first i O).length ≤ 8 := by
  have h0 := out_w (T := T) (V := V) (first := first) (p := mAt T i) 1 1 (b := false) (b' := O.marked_) (Nat.zero_le _) (canT_le (π := pth T (mAt T i)) (O := O)) (fun h => by cases h)
  rw [sumW_one] at h0
  have := dut_len hv h
  have e : (outS T V first i O).length + (1 * ((duT T (mAt T i)).length - canT T (mAt T i) (pth T (mAt T i)) O) + (if O.marked_ = true then 0 else 1)) = 1 * (duT T (mAt T i)).length + 1 := h0
  omega
theorem rowS_w (wb wc : Nat) (o : Nat → O_rekey_Round) : ∀ {k : Nat}, k ≤ nN T → rowW wb wc (rowS T V first o k) + (nN T - 1) * sumN (fun i => leftW wb wc T (mAt T i) (pth T (mAt T i)) (o i)) k = (nN T - 1) * sumN (fun i => wb * (duT T (mAt T i)).length + wc) k := by
  intro k
  induction k with
  | zero => intro _; rfl
  | succ k ih =>
    intro hk
    have h1 := ih (by omega)
    have h2 := out_w (T := T) (V := V) (first := first) (p := mAt T k) wb wc (b := false) (b' := (o k).marked_) (Nat.zero_le _) (canT_le (π := pth T (mAt T k)) (O := o k)) (fun h => by cases h)
    have h2' : sumW wb wc (outS T V first k (o k)) + leftW wb wc T (mAt T k) (pth T (mAt T k)) (o k) = wb * (duT T (mAt T k)).length + wc := h2
    have h3 : (nN T - 1) * sumW wb wc (outS T V first k (o k)) + (nN T - 1) * leftW wb wc T (mAt T k) (pth T (mAt T k)) (o k) = (nN T - 1) * (wb * (duT T (mAt T k)).length + wc) := by rw [← Nat.mul_add, h2']
    rw [rowS_succ, rowW_app, sendL_w wb wc _ (show k < nN T by omega), sumN_succ, sumN_succ, Nat.mul_add, Nat.mul_add]
    omega
def allW (T : Tr) (wb wc : Nat) : Nat := (nN T - 1) * sumN (fun i => wb * (duT T (mAt T i)).length + wc) (nN T)
theorem allW_le (hv : ViewOk T V) : allW T 1 1 ≤ 448 := by
  have h8 := nN_le hv
  have := sumN_le (f := fun i => 1 * (duT T (mAt T i)).length + 1) (c := 8) (N := nN T) (fun i hi => by have := dut_len hv hi; show 1 * _ + 1 ≤ 8; omega)
  unfold allW
  have h2 := Nat.mul_le_mul (show nN T - 1 ≤ 7 by omega) (show sumN (fun i => 1 * (duT T (mAt T i)).length + 1) (nN T) ≤ 64 by omega)
  omega
theorem rowS_len (hv : ViewOk T V) (o : Nat → O_rekey_Round) {k : Nat} (hk : k ≤ nN T) : (rowS T V first o k).length ≤ 448 := by
  have h8 := nN_le hv
  have h1 := rowS_w (V := V) (first := first) 1 1 o hk
  rw [rowW_one] at h1
  have := sumN_le (f := fun i => 1 * (duT T (mAt T i)).length + 1) (c := 8) (N := k) (fun i hi => by have := dut_len hv (show i < nN T by omega); show 1 * _ + 1 ≤ 8; omega)
  have h2 := Nat.mul_le_mul (show nN T - 1 ≤ 7 by omega) (show sumN (fun i => 1 * (duT T (mAt T i)).length + 1) k ≤ 64 by omega)
  omega
theorem start_sys (hv : ViewOk T V) {o : Nat → O_rekey_Round} (h : StartOk T V first o) (P : Nat → Prop) : SysOk T V first P o (rowS T V first o (nN T)) := by
  have hin : ∀ i j y, i < nN T → j < nN T → i ≠ j → y ∈ outS T V first i (o i) → (mAt T i, (j : Int), y) ∈ rowS T V first o (nN T) := fun i j y hi hj hij hy =>
    List.mem_flatMap.2 ⟨i, List.mem_range.2 hi, sendL_mem.2 ⟨y, hy, j, hj, fun e => hij e.symm, rfl⟩⟩
  refine ⟨h.mem, fun l hl => ?_, fun i j hi hj hij _ n hn => .inr (hin i j _ hi hj hij (List.mem_append_left _ (List.mem_map.2 ⟨n, hn, rfl⟩))), fun i j hi hj hij _ hm => .inr (hin i j _ hi hj hij (List.mem_append_right _ ?_))⟩
  · obtain ⟨i, hi, hl⟩ := List.mem_flatMap.1 hl
    have hi := List.mem_range.1 hi
    obtain ⟨y, hy, j, hj, hji, e⟩ := sendL_mem.1 hl
    exact ⟨i, j, y, hi, hj, fun e => hji e.symm, e, out_said hy⟩
  · rw [if_pos ⟨hm, rfl⟩]
    exact List.mem_singleton.2 rfl
end
theorem all_start {ms : List Int} (hm : MsOk ms) {e h : Int} (hh : h ∈ ms) (he : 0 ≤ e ∧ e ≤ 1000) {first : Int} {order : List Int} {o : Nat → O_rekey_Round} (ho : StartOk (buildT ms) ((e, h), ms) first o) :
    loopM (fun s : (List (Option O_rekey_Round)) × (List D_gemotlaw16_letter) × Int => gemotlaw16_all.b1 ((e, h), ms) first order s.1 s.2.1 s.2.2) (([] : List (Option O_rekey_Round)), ([] : List D_gemotlaw16_letter), (0 : Int)) = some (.inl (osL o (nN (buildT ms)), rowS (buildT ms) ((e, h), ms) first o (nN (buildT ms)))) := by
  have hv := view_of hm hh he
  have hms : memS (buildT ms) = ms := buildT_ms hm
  have hN : nN (buildT ms) = ms.length := by show (memS (buildT ms)).length = _; rw [hms]
  have h8 := nN_le hv
  refine loop_count (fun i => (osL o i, rowS (buildT ms) ((e, h), ms) first o i, (i : Int))) (nN (buildT ms)) (fun i hi => ?_) ?_
  · show gemotlaw16_all.b1 ((e, h), ms) first order (osL o i) (rowS (buildT ms) ((e, h), ms) first o i) (i : Int) = _
    have hil : i < ms.length := by omega
    have hmi : ms[i] = mAt (buildT ms) i := by rw [mAt_get hi]; simp only [hms]
    have hnm := nmAt_ok first i
    unfold gemotlaw16_all.b1
    rw [cond_t (by show (i : Int) < (ms.length : Int); omega)]
    rw [show idxL (((e, h), ms) : D_api_View).2 (i : Int) = some ms[i] from idxL_lt hil, Option.bind_some]
    rw [show term_Name.f (IntKind.u64.wrap (first + IntKind.u64.wrap (i : Int))) = some (nmAt first i) from rfl, Option.bind_some]
    rw [new_is hm hh he (List.getElem_mem hil) hnm.1 hnm.2, Option.bind_some, hmi]
    show (cond false _ _) = _
    rw [cond_false, Option.bind_some, osL_len, room_of (by omega), ho.start i hi, Option.bind_some]
    have hsend := send_eq (ms := ms) (l := outS (buildT ms) ((e, h), ms) first i (o i)) (by have := outS_len (first := first) hv hi (o i); omega) hil (by omega) (rowS (buildT ms) ((e, h), ms) first o i) (by have := rowS_len (first := first) hv o (show i ≤ nN (buildT ms) by omega); omega)
    rw [show gemotlaw16_send.f (rowS (buildT ms) ((e, h), ms) first o i) (((e, h), ms) : D_api_View).2 (i : Int) (outS (buildT ms) ((e, h), ms) first i (o i), o i).1 = _ from hsend, Option.bind_some, wrap1 i (by omega), osL_succ, rowS_succ, hmi, hN]
  · show gemotlaw16_all.b1 _ _ _ _ _ ((nN (buildT ms) : Nat) : Int) = _
    unfold gemotlaw16_all.b1
    rw [cond_f (by show ¬ ((nN (buildT ms) : Int) < (ms.length : Int)); omega)]
end Go.Proofs.YtfapphlhkfddoaaGreatDoor.G
/- Chapter 16, all members: all that is told comes, as it is reckoned. -/
namespace Go.Proofs.YtfapphlhkfddoaaGreatDoor.G
open Go.RowKit Go.Eng Go.Proofs Go.Proofs.YtfapphlhkfddoaaGreatDoor.Cut
set_option linter.unusedVariables false
set_option linter.unusedSimpArgs false
abbrev termsOf (x : D_list_Message) : List (List UInt8) := x.2.2.2.2.2
section
variable {T : Tr} {V : D_api_View} {first : Int}
def toldBy (T : Tr) (V : D_api_View) (first : Int) (o : Nat → O_rekey_Round) (x : D_list_Message) : Prop := ∃ i, i < nN T ∧ saidBy T V first (mAt T i) (canI T o i) (o i).marked_ x
theorem toldBy_terms {o : Nat → O_rekey_Round} {x : D_list_Message} (h : toldBy T V first o x) : (termsOf x).length ≤ 2 := by
  obtain ⟨i, _, ⟨n, _, rfl⟩ | ⟨rfl, _⟩⟩ := h
  · exact Nat.le_refl 2
  · exact Nat.le_succ 1
theorem heard_len : ∀ dl : List D_list_Message, (∀ x ∈ dl, (termsOf x).length ≤ 2) → (dl.flatMap termsOf).length ≤ 2 * dl.length := by
  intro dl
  induction dl with
  | nil => intro _; exact Nat.le_refl _
  | cons x dl ih =>
    intro h
    have h1 := h x List.mem_cons_self
    have h2 := ih fun y hy => h y (List.mem_cons_of_mem _ hy)
    rw [List.flatMap_cons, List.length_append, List.length_cons]
    omega
theorem toldBy_step {o : Nat → O_rekey_Round} {j : Nat} {O' : O_rekey_Round} (hO : TookOk T V first (mAt T j) (pth T (mAt T j)) (o j) O') {x : D_list_Message} (h : toldBy T V first o x) : toldBy T V first (updO o j O') x := by
  obtain ⟨i, hi, hs⟩ := h
  refine ⟨i, hi, ?_⟩
  by_cases e : i = j
  · subst e
    unfold canI
    rw [updO_eq]
    exact saidBy_mono hO.can hO.marked hs
  · unfold canI
    rw [updO_ne _ _ e]
    exact hs
theorem outI_len (hv : ViewOk T V) {j : Nat} (hj : j < nN T) {O O' : O_rekey_Round} (hO : TookOk T V first (mAt T j) (pth T (mAt T j)) O O') : (outI T V first j O O').length ≤ 8 := by
  have h1 : (outI T V first j O O').length + leftM T (mAt T j) (pth T (mAt T j)) O' = leftM T (mAt T j) (pth T (mAt T j)) O := out_len (T := T) (V := V) (first := first) (p := mAt T j) (π := pth T (mAt T j)) hO.can hO.marked
  have h2 := dut_len hv hj
  have h3 : leftM T (mAt T j) (pth T (mAt T j)) O ≤ 8 := by
    unfold leftM
    split <;> omega
  omega
end
theorem one_w (x : D_list_Message) : wM 1 1 x = 1 := by unfold wM; split <;> rfl
theorem all_round {ms : List Int} (hm : MsOk ms) {e h : Int} (hh : h ∈ ms) (he : 0 ≤ e ∧ e ≤ 1000) {first : Int} {P : Nat → Prop} {o : Nat → O_rekey_Round} {row : List D_gemotlaw16_letter} (hs : SysOk (buildT ms) ((e, h), ms) first P o row) {at1 : Nat} (hat : at1 < row.length) {dl : List D_list_Message} (hdl : ∀ x ∈ dl, toldBy (buildT ms) ((e, h), ms) first o x) (hdn : dl.length ≤ 2000) (hrn : row.length ≤ 2000) {i : Nat} (hi : i ≤ 2000) {order : List Int} :
    ∃ j x O', j < nN (buildT ms) ∧ row[at1].2.2 = x ∧ TookOk (buildT ms) ((e, h), ms) first (mAt (buildT ms) j) (pth (buildT ms) (mAt (buildT ms) j)) (o j) O' ∧
      SysOk (buildT ms) ((e, h), ms) first P (updO o j O') (row.take at1 ++ row.drop (at1 + 1) ++ sendL (mAt (buildT ms) j) j (nN (buildT ms)) (outI (buildT ms) ((e, h), ms) first j (o j) O')) ∧
      toldBy (buildT ms) ((e, h), ms) first (updO o j O') x ∧
      gemotlaw16_all.k2 ((e, h), ms) order row (dl.flatMap termsOf) (i : Int) (osL o (nN (buildT ms))) (at1 : Int) = some (.inl (osL (updO o j O') (nN (buildT ms)), row.take at1 ++ row.drop (at1 + 1) ++ sendL (mAt (buildT ms) j) j (nN (buildT ms)) (outI (buildT ms) ((e, h), ms) first j (o j) O'), (dl ++ [x]).flatMap termsOf, ((i + 1 : Nat) : Int))) := by
  have hv := view_of hm hh he
  have hms : memS (buildT ms) = ms := buildT_ms hm
  have hN : nN (buildT ms) = ms.length := by show (memS (buildT ms)).length = _; rw [hms]
  have h8 := nN_le hv
  have hrow : row = row.take at1 ++ row[at1] :: row.drop (at1 + 1) := by
    rw [← List.drop_eq_getElem_cons hat, List.take_append_drop]
  have hs' := hs
  rw [hrow] at hs'
  obtain ⟨i0, j, x, O', hi0, hj, hij, hl, hsaid, k1, k2, k4, k5⟩ := step_sys hv hs'
  have hxt : toldBy (buildT ms) ((e, h), ms) first o x := ⟨i0, hi0, hsaid⟩
  refine ⟨j, x, O', hj, by rw [hl], k2, k5, toldBy_step k2 hxt, ?_⟩
  have hjl : j < ms.length := by omega
  have hmj : ms[j] = mAt (buildT ms) j := by rw [mAt_get hj]; simp only [hms]
  have hhl := heard_len dl fun y hy => toldBy_terms (hdl y hy)
  have hxl := toldBy_terms hxt
  have s1 : slcM row (0 : Int) (at1 : Int) = some (row.take at1) := by
    unfold slcM
    rw [if_pos ⟨Int.le_refl _, by omega, by omega⟩]
    rfl
  have s2 : slcM row (IntKind.i64.wrap ((at1 : Int) + (1 : Int))) ((row.length : Nat) : Int) = some (row.drop (at1 + 1)) := by
    rw [wrap1 at1 (by omega)]
    unfold slcM
    rw [if_pos ⟨by omega, by omega, Int.le_refl _⟩]
    show some ((row.drop (at1 + 1)).take _) = _
    rw [List.take_of_length_le (by rw [List.length_drop]; omega)]
  unfold gemotlaw16_all.k2
  rw [idxL_lt hat, Option.bind_some, s1, Option.bind_some, room_of (by rw [List.length_nil, List.length_take]; omega), s2, Option.bind_some, room_of (by rw [List.nil_append, List.length_take, List.length_drop]; omega)]
  rw [hl]
  dsimp only
  rw [room_of (by show ((dl.flatMap termsOf).length + (termsOf x).length) * 16 ≤ 140737488355328; omega)]
  rw [osL_get o hj, Option.bind_some, Option.bind_some, k1, Option.bind_some]
  have hsend := send_eq (ms := ms) (l := outI (buildT ms) ((e, h), ms) first j (o j) O') (by have := outI_len hv hj k2; omega) hjl (by omega) (([] ++ row.take at1) ++ row.drop (at1 + 1)) (by rw [List.nil_append, List.length_append, List.length_take, List.length_drop]; omega)
  rw [show gemotlaw16_send.f (([] ++ row.take at1) ++ row.drop (at1 + 1)) ms (j : Int) (outI (buildT ms) ((e, h), ms) first j (o j) O') = _ from hsend, Option.bind_some]
  rw [cond_f (by omega), wrap1 i (by omega), show ((j : Int)).toNat = j from rfl, osL_set o hj, hmj, hN, List.nil_append, List.flatMap_append]
  simp
theorem all_loop {ms : List Int} (hm : MsOk ms) {e h : Int} (hh : h ∈ ms) (he : 0 ≤ e ∧ e ≤ 1000) {first : Int} {P : Nat → Prop} {order : List Int} (hord : ∀ x ∈ order, inI64 x) (hol : order.length ≤ 1000) : ∀ (k : Nat) (o : Nat → O_rekey_Round) (row : List D_gemotlaw16_letter) (dl : List D_list_Message) (i : Nat),
    SysOk (buildT ms) ((e, h), ms) first P o row → phiW 1 1 (buildT ms) o row = k → k + i ≤ 1000 → k + dl.length ≤ 1000 → (∀ x ∈ dl, toldBy (buildT ms) ((e, h), ms) first o x) →
    ∃ o' dl', loopM (fun s : (List (Option O_rekey_Round)) × (List D_gemotlaw16_letter) × (List (List UInt8)) × Int => gemotlaw16_all.b3 ((e, h), ms) order s.1 s.2.1 s.2.2.1 s.2.2.2) (osL o (nN (buildT ms)), row, dl.flatMap termsOf, (i : Int)) = some (.inl (osL o' (nN (buildT ms)), dl'.flatMap termsOf)) ∧
      SysOk (buildT ms) ((e, h), ms) first P o' [] ∧ (∀ x ∈ dl', toldBy (buildT ms) ((e, h), ms) first o' x) ∧ (∀ wb wc, sumW wb wc dl' + phiW wb wc (buildT ms) o' [] = sumW wb wc dl + phiW wb wc (buildT ms) o row) := by
  intro k
  induction k with
  | zero =>
    intro o row dl i hs hk _ _ hdl
    have hr : row.length = 0 := by
      unfold phiW at hk
      rw [rowW_one] at hk
      omega
    rw [List.length_eq_zero_iff] at hr
    subst hr
    refine ⟨o, dl, loop_end ?_, hs, hdl, fun _ _ => rfl⟩
    rfl
  | succ k ih =>
    intro o row dl i hs hk hki hkd hdl
    by_cases hr : row = []
    · subst hr
      refine ⟨o, dl, loop_end ?_, hs, hdl, fun _ _ => rfl⟩
      rfl
    have hrl := List.length_pos_iff.2 hr
    have hrn : row.length ≤ k + 1 := by
      unfold phiW at hk
      rw [rowW_one] at hk
      omega
    -- which one comes
    have hat : ∃ at1 : Nat, at1 < row.length ∧ gemotlaw16_all.b3 ((e, h), ms) order (osL o (nN (buildT ms))) row (dl.flatMap termsOf) (i : Int) = gemotlaw16_all.k2 ((e, h), ms) order row (dl.flatMap termsOf) (i : Int) (osL o (nN (buildT ms))) (at1 : Int) := by
      unfold gemotlaw16_all.b3
      rw [cond_t (by omega)]
      by_cases ho : order = []
      · subst ho
        refine ⟨0, hrl, ?_⟩
        rfl
      · have hop := List.length_pos_iff.2 ho
        have hmod : i % order.length < order.length := Nat.mod_lt _ hop
        obtain ⟨y, hy, hy0, hy1⟩ := pick16 (hord _ (List.getElem_mem hmod)) (n := (row.length : Int)) (by omega)
        refine ⟨y.toNat, by omega, ?_⟩
        rw [cond_t (by omega)]
        unfold remM
        rw [if_neg (by omega), Option.bind_some, show ((i : Int).tmod (order.length : Int)) = ((i % order.length : Nat) : Int) from rfl, idxL_lt hmod, Option.bind_some, hy, Option.bind_some, Int.toNat_of_nonneg hy0]
    obtain ⟨at1, hat1, hb⟩ := hat
    obtain ⟨j, x, O', hj, hx, hO, hs2, htx, hk2⟩ := all_round hm hh he hs hat1 hdl (by omega) (by omega) (i := i) (by omega) (order := order)
    have hrow : row = row.take at1 ++ row[at1] :: row.drop (at1 + 1) := by
      rw [← List.drop_eq_getElem_cons hat1, List.take_append_drop]
    have hphi := fun wb wc => phi_step (V := ((e, h), ms)) (first := first) wb wc (o := o) (a := row.take at1) (b := row.drop (at1 + 1)) (l := row[at1]) hj hO
    have hp1 := hphi 1 1
    rw [one_w, ← hrow] at hp1
    obtain ⟨o', dl', h1, h2, h3, h4⟩ := ih (updO o j O') _ (dl ++ [x]) (i + 1) hs2 (by omega) (by omega) (by rw [List.length_append, List.length_singleton]; omega) (fun y hy => by
      rcases List.mem_append.1 hy with hy | hy
      · exact toldBy_step hO (hdl y hy)
      · rw [List.mem_singleton.1 hy]; exact htx)
    refine ⟨o', dl', loop_step ?_ h1, h2, h3, fun wb wc => ?_⟩
    · show gemotlaw16_all.b3 ((e, h), ms) order (osL o (nN (buildT ms))) row (dl.flatMap termsOf) (i : Int) = _
      rw [hb, hk2]
    · have hp := hphi wb wc
      rw [← hrow, hx] at hp
      have hw : sumW wb wc [x] = wM wb wc x := by simp [sumW]
      rw [h4 wb wc, sumW_app, hw]
      omega
theorem all_is {ms : List Int} (hm : MsOk ms) {e h : Int} (hh : h ∈ ms) (he : 0 ≤ e ∧ e ≤ 1000) {first : Int} {order : List Int} (hord : ∀ x ∈ order, inI64 x) (hol : order.length ≤ 1000) :
    ∃ o dl, gemotlaw16_all.f ((e, h), ms) first order = some (osL o (nN (buildT ms)), dl.flatMap termsOf) ∧ SysOk (buildT ms) ((e, h), ms) first (fun _ => True) o [] ∧ (∀ x ∈ dl, toldBy (buildT ms) ((e, h), ms) first o x) ∧ (∀ wb wc, sumW wb wc dl + phiW wb wc (buildT ms) o [] = allW (buildT ms) wb wc) := by
  have hv := view_of hm hh he
  obtain ⟨o0, ho⟩ := start_all (first := first) hv
  have hs := start_sys hv ho (fun _ => True)
  have hphi : ∀ wb wc, phiW wb wc (buildT ms) o0 (rowS (buildT ms) ((e, h), ms) first o0 (nN (buildT ms))) = allW (buildT ms) wb wc := fun wb wc => rowS_w wb wc o0 (Nat.le_refl _)
  have hle := allW_le hv
  obtain ⟨o, dl, h1, h2, h3, h4⟩ := all_loop hm hh he hord hol (allW (buildT ms) 1 1) o0 _ [] 0 hs (hphi 1 1) (by omega) (by rw [List.length_nil]; omega) (fun x hx => by cases hx)
  refine ⟨o, dl, ?_, h2, h3, fun wb wc => by rw [h4 wb wc, hphi wb wc]; show 0 + _ = _; omega⟩
  unfold gemotlaw16_all.f
  rw [all_start hm hh he ho, Option.bind_some]
  show gemotlaw16_all.k5 _ _ _ _ = _
  unfold gemotlaw16_all.k5
  have h1' : loopM (fun s : (List (Option O_rekey_Round)) × (List D_gemotlaw16_letter) × (List (List UInt8)) × Int => gemotlaw16_all.b3 ((e, h), ms) order s.1 s.2.1 s.2.2.1 s.2.2.2) (osL o0 (nN (buildT ms)), rowS (buildT ms) ((e, h), ms) first o0 (nN (buildT ms)), ([] : List (List UInt8)), (0 : Int)) = _ := h1
  rw [h1']
  rfl
end Go.Proofs.YtfapphlhkfddoaaGreatDoor.G
/- Chapter 16, all members: when all has come, as it is reckoned. -/
namespace Go.Proofs.YtfapphlhkfddoaaGreatDoor.G
open Go.RowKit Go.Eng Go.Proofs Go.Proofs.YtfapphlhkfddoaaGreatDoor.Cut
set_option linter.unusedVariables false
set_option linter.unusedSimpArgs false
theorem preK_ge {K : List (List UInt8 × List UInt8)} {π : List UInt8} : ∀ d m, m ≤ d → (∀ j, d - m ≤ j → j < d → (getA (besideT (π.take (j + 1))) K).isSome = true) → m ≤ preK K π d := by
  intro d
  induction d with
  | zero => intro m hm _; omega
  | succ d ih =>
    intro m hm h
    cases m with
    | zero => exact Nat.zero_le _
    | succ m =>
      rw [preK_succ, if_pos (h d (by omega) (by omega))]
      have := ih m (by omega) (fun j h1 h2 => h j (by omega) (by omega))
      omega
section
variable {T : Tr} {V : D_api_View} {first : Int} {o : Nat → O_rekey_Round} {P : Nat → Prop}
theorem mAt_of {p : Int} (h : p ∈ T.leavesR) : ∃ i, i < nN T ∧ mAt T i = p := by
  obtain ⟨i, hi, e⟩ := List.mem_iff_getElem.1 ((sortZ_perm _).mem_iff.2 h)
  exact ⟨i, hi, by rw [mAt_get hi]; exact e⟩
theorem beside_len {π : List UInt8} {j : Nat} (hj : j < π.length) : (besideT (π.take (j + 1))).length = j + 1 := by
  rw [← take_snoc hj, besideT_snoc, List.length_append, List.length_take, List.length_singleton]
  omega
theorem beside_known (hv : ViewOk T V) (h : SysOk T V first P o []) (hP : ∀ i, P i) {i : Nat} (hi : i < nN T) {j : Nat} (hj : j < (pth T (mAt T i)).length)
    (ht : ∀ n S, subT T n = some S → n ≠ [] → n.length = j + 1 → ∃ r, r < nN T ∧ mAt T r ∈ S.leavesR ∧ n ∈ (duT T (mAt T r)).take (canI T o r)) :
    (getA (besideT ((pth T (mAt T i)).take (j + 1))) (o i).known_).isSome = true := by
  have hπ := mAt_path hi
  have hl := beside_len hj
  obtain ⟨S, hS⟩ : ∃ S, subT T (besideT ((pth T (mAt T i)).take (j + 1))) = some S := by
    obtain ⟨l, r, _, ⟨_, q⟩ | ⟨_, q⟩⟩ := sib_at hπ hj
    · exact ⟨_, q⟩
    · exact ⟨_, q⟩
  obtain ⟨r, hr, hrS, hn⟩ := ht _ S hS (fun e => by rw [e] at hl; cases hl) hl
  have hri : r ≠ i := fun e => by
    subst e
    obtain ⟨ρ, hρ⟩ := path_sub _ T S _ hv.nd hS hrS
    rw [hπ] at hρ
    have e2 := Option.some.inj hρ
    refine beside_off (path_leafAt T _ _ hπ).2 j hj ?_
    generalize hb : besideT ((pth T (mAt T r)).take (j + 1)) = b at *
    rw [e2]
    unfold upT
    exact List.mem_map.2 ⟨ρ.length, List.mem_range.2 (by rw [List.length_append]; omega), by rw [List.length_append, show b.length + ρ.length - ρ.length = b.length by omega, List.take_left]⟩
  rcases h.due r i hr hi hri (hP r) _ hn with q | q
  · exact q
  · cases q
theorem told_all (hv : ViewOk T V) (h : SysOk T V first P o []) (hP : ∀ i, P i) : ∀ k n S, 8 ≤ n.length + k → subT T n = some S → n ≠ [] → ∃ i, i < nN T ∧ mAt T i ∈ S.leavesR ∧ n ∈ (duT T (mAt T i)).take (canI T o i) := by
  have h8 := leaves_eight hv.ok hv.nd
  intro k
  induction k with
  | zero =>
    intro n S hk hs hn
    obtain ⟨ρ, hρ⟩ := path_sub n T S _ hv.nd hs (head_in (leavesR_pos S))
    have := pathL_len T _ _ hρ
    rw [List.length_append] at this
    omega
  | succ k ih =>
    intro n S hk hs hn
    have ho : ofM T.text = some T := by rw [ofM_iff hv.ok, if_pos hv.nd]
    have hp : sponM T.text n ∈ S.leavesR := by
      rw [sponM_in ho, hs]
      exact head_in (leavesR_pos S)
    obtain ⟨ρ, hρ⟩ := path_sub n T S _ hv.nd hs hp
    obtain ⟨i, hi, e⟩ := mAt_of ((sub_ok4 hv.ok hv.nd hs).2.2.1 _ hp)
    refine ⟨i, hi, by rw [e]; exact hp, ?_⟩
    have hd : n ∈ duT T (mAt T i) := (dut_mem hv.ok hv.nd hs _).2 ⟨hn, e.symm⟩
    have hπ : pth T (mAt T i) = n ++ ρ := by
      have := mAt_path hi
      rw [e] at this
      rw [hρ] at this
      rw [e]
      exact (Option.some.inj this).symm
    obtain ⟨c, c1, c2, c3, c4, c5⟩ := duty_nodes hv (mAt_path hi)
    have hpre : ρ.length ≤ preK (o i).known_ (pth T (mAt T i)) (pth T (mAt T i)).length := by
      refine preK_ge _ _ (by rw [hπ, List.length_append]; omega) fun j h1 h2 => ?_
      have h1' : n.length ≤ j := by rw [hπ, List.length_append] at h1; omega
      exact beside_known hv h hP hi h2 fun n' S' hs' hn' hl' => ih n' S' (by omega) hs' hn'
    -- where it stands among the duties
    obtain ⟨t, ht, et⟩ := List.mem_iff_getElem.1 hd
    refine List.mem_take_iff_getElem.2 ⟨t, ?_, et⟩
    have htl : t = ρ.length := by
      have e1 : (duT T (mAt T i))[t] = (pth T (mAt T i)).take ((pth T (mAt T i)).length - t) := by
        have : (duT T (mAt T i))[t]? = some ((pth T (mAt T i)).take ((pth T (mAt T i)).length - t)) := by
          rw [c2, List.getElem?_take_of_lt (by omega), ← idxL_nat, up_get (by omega)]
        rw [List.getElem?_eq_getElem ht] at this
        exact Option.some.inj this
      rw [e1] at et
      have := congrArg List.length et
      rw [List.length_take, hπ, List.length_append] at this
      have : t ≤ n.length + ρ.length := by
        have := hπ ▸ c1
        rw [List.length_append] at this
        omega
      omega
    have hcan : ρ.length < canI T o i := by
      unfold canI canT
      omega
    omega
theorem end_full (hv : ViewOk T V) (h : SysOk T V first P o []) (hP : ∀ i, P i) {i : Nat} (hi : i < nN T) : preK (o i).known_ (pth T (mAt T i)) (pth T (mAt T i)).length = (pth T (mAt T i)).length := by
  have h1 := preK_le (o i).known_ (pth T (mAt T i)) (pth T (mAt T i)).length
  have h2 := preK_ge (K := (o i).known_) (π := pth T (mAt T i)) (pth T (mAt T i)).length (pth T (mAt T i)).length (Nat.le_refl _) fun j _ hj => beside_known hv h hP hi hj fun n S hs hn hl => told_all hv h hP 8 n S (by omega) hs hn
  omega
theorem end_key (hv : ViewOk T V) (h : SysOk T V first P o []) (hP : ∀ i, P i) {i : Nat} (hi : i < nN T) : rekey_Round_Key.f (o i) = some (keyT T V first, true) := by
  rw [key_is hv (h.mem i hi).rk (mAt_path hi), if_pos (end_full hv h hP hi)]
end
end Go.Proofs.YtfapphlhkfddoaaGreatDoor.G
/- Chapter 16's example, as it is reckoned. -/
namespace Go.Proofs.YtfapphlhkfddoaaGreatDoor.G
open Go.RowKit Go.Eng Go.Proofs Go.Proofs.YtfapphlhkfddoaaGreatDoor.Cut
set_option linter.unusedVariables false
set_option linter.unusedSimpArgs false
abbrev ms12 : List Int := [1, 2]
abbrev T12 : Tr := buildT ms12
abbrev V12 : D_api_View := ((1, 1), ms12)
theorem ms12_ok : MsOk ms12 := ⟨by simp, by simp, by simp⟩
theorem V12_ok : ViewOk T12 V12 := view_of ms12_ok (by simp) (by decide)
theorem of_12 : gemotlaw16_of.f 3 1 = some V12 := by
  have hy : gemotlaw16_pick.f 3 256 = some 3 := rfl
  unfold gemotlaw16_of.f gemotlaw16_of.k4
  rw [bits_loop hy 1, Option.bind_some, show ofR 3 8 = [1, 2] by decide]
  rfl
theorem nN12 : nN T12 = 2 := by show (memS T12).length = 2; rw [buildT_ms ms12_ok]; rfl
theorem mAt12 (i : Nat) : mAt T12 i = (ms12[i]?).getD 0 := by unfold mAt; rw [buildT_ms ms12_ok]
theorem dut12 {p : Int} {c : UInt8} (hp : pathL T12 p = some [c]) : duT T12 p = [[c]] := by
  obtain ⟨k, h1, h2, h3⟩ := dut_front V12_ok.ok V12_ok.nd hp
  have h4 := h3 (by simp)
  have hk : k = 1 := by simp at h1; omega
  subst hk
  exact h2
theorem ex_start {i : Nat} (hi : i < 2) {c d : UInt8} (hp : pathL T12 (mAt T12 i) = some [c]) (hd : besideT [c] = [d]) (hcd : c ≠ d) :
    ∃ A, rekey_Round_Start.f (roundO (mAt T12 i) V12 T12 (nmAt 1 i)) = some ([msgB T12 V12 1 [c]], A) ∧ MemOk T12 V12 1 (mAt T12 i) [c] A ∧ canT T12 (mAt T12 i) [c] A = 1 ∧ A.marked_ = false := by
  have hpt : pth T12 (mAt T12 i) = [c] := by unfold pth; rw [hp]; rfl
  obtain ⟨A, h1, h2, h3⟩ := start_one (first := 1) V12_ok (i := i) (by rw [nN12]; exact hi)
  rw [hpt] at h2 h3
  have hdu := dut12 hp
  have hno : (getA [d] A.known_).isSome = true → False := fun hq => by
    refine h3 (fun y => y ≠ [d]) (fun K _ n hn => ?_) [d] hq rfl
    have := List.mem_of_mem_take hn
    rw [hdu, List.mem_singleton] at this
    rw [this]
    intro e
    exact hcd (List.cons.inj e).1
  have hpre : preK A.known_ [c] 1 = 0 := by
    rw [preK_succ, if_neg (fun q => hno (by rw [show besideT (([c] : List UInt8).take (0 + 1)) = [d] from hd] at q; exact q))]
  have hcan : canT T12 (mAt T12 i) [c] A = 1 := by
    unfold canT
    rw [hdu]
    show min 1 (preK A.known_ [c] 1 + 1) = 1
    rw [hpre]; rfl
  have hm : A.marked_ = false := by
    cases hb : A.marked_ with
    | false => rfl
    | true =>
      have := h2.marked.1 hb
      have : preK A.known_ [c] 1 = 1 := this
      omega
  refine ⟨A, ?_, h2, hcan, hm⟩
  rw [h1]
  unfold outS outM
  rw [hpt, hcan, hm, hdu]
  rfl
theorem ex_take {i r : Nat} (hi : i < 2) (hr : r < 2) (hir : r ≠ i) {c d : UInt8} (hp : pathL T12 (mAt T12 i) = some [c]) (hq : pathL T12 (mAt T12 r) = some [d]) (hd : besideT [c] = [d]) {A : O_rekey_Round} (hA : MemOk T12 V12 1 (mAt T12 i) [c] A) (hc : canT T12 (mAt T12 i) [c] A = 1) (hm : A.marked_ = false) :
    ∃ B, rekey_Round_Take.f A (mAt T12 r) (msgB T12 V12 1 [d]) = some ([msgC T12 V12 1 (mAt T12 i)], B) ∧ MemOk T12 V12 1 (mAt T12 i) [c] B ∧ preK B.known_ [c] 1 = 1 := by
  have hqm : mAt T12 r ∈ memS T12 := mAt_mem (by rw [nN12]; exact hr)
  have hne : mAt T12 r ≠ mAt T12 i := fun e => hir (mAt_inj V12_ok.nd (by rw [nN12]; exact hr) (by rw [nN12]; exact hi) e)
  obtain ⟨B, h1, h2, h3, _⟩ := take_any (q := mAt T12 r) V12_ok hA hp hq hqm hne (c := 1) (b := false) (x := msgB T12 V12 1 [d]) (.inl ⟨[d], by rw [dut12 hq]; exact List.mem_singleton.2 rfl, rfl⟩)
  have hk := h3.1 [d] rfl
  have hpre : preK B.known_ [c] 1 = 1 := by
    rw [preK_succ, if_pos (by rw [show besideT (([c] : List UInt8).take (0 + 1)) = [d] from hd]; exact hk)]
    rfl
  have hcan : canT T12 (mAt T12 i) [c] B = 1 := by
    unfold canT
    rw [dut12 hp]
    show min 1 (preK B.known_ [c] 1 + 1) = 1
    rw [hpre]; rfl
  have hm2 : B.marked_ = true := h2.mem.marked.2 hpre
  refine ⟨B, ?_, h2.mem, hpre⟩
  rw [h1, hc, hcan, hm, hm2]
  unfold outM
  rw [dut12 hp]
  rfl
theorem ex_mark {i r : Nat} (hi : i < 2) (hr : r < 2) (hir : r ≠ i) {c : UInt8} (hp : pathL T12 (mAt T12 i) = some [c]) {A : O_rekey_Round} (hA : MemOk T12 V12 1 (mAt T12 i) [c] A) (hpre : preK A.known_ [c] 1 = 1) :
    ∃ out B, rekey_Round_Take.f A (mAt T12 r) (msgC T12 V12 1 (mAt T12 r)) = some (out, B) ∧ rekey_Round_Key.f B = some (keyT T12 V12 1, true) ∧ rekey_Round_Confirmed.f B = some true := by
  have hqm : mAt T12 r ∈ memS T12 := mAt_mem (by rw [nN12]; exact hr)
  have hne : mAt T12 r ≠ mAt T12 i := fun e => hir (mAt_inj V12_ok.nd (by rw [nN12]; exact hr) (by rw [nN12]; exact hi) e)
  obtain ⟨B, h1, h2, h3, h4⟩ := take_C (p := mAt T12 i) V12_ok hA hqm hne
  have hk : preK B.known_ [c] ([c] : List UInt8).length = ([c] : List UInt8).length := by rw [h4]; exact hpre
  refine ⟨_, B, h1, ?_, ?_⟩
  · rw [key_is V12_ok h2.mem.rk hp, if_pos hk]
  · rw [confirmed_is V12_ok h2.mem.rk hp h2.mem.mrk]
    refine congrArg some (decide_eq_true ⟨hk, fun q hq hqi => ?_⟩)
    obtain ⟨s, hs, e⟩ := mAt_of ((sortZ_perm _).mem_iff.1 hq)
    rw [nN12] at hs
    have : s = r := by
      have : s ≠ i := fun e2 => hqi (by rw [← e, e2])
      omega
    rw [← e, this]
    exact h3
theorem shown16 : gemotlaw16_shown.f = some true := by
  have m0 : mAt T12 0 = 1 := mAt12 0
  have m1 : mAt T12 1 = 2 := mAt12 1
  have p0 : pathL T12 (mAt T12 0) = some [108] := by rw [m0]; rfl
  have p1 : pathL T12 (mAt T12 1) = some [114] := by rw [m1]; rfl
  obtain ⟨A, a1, a2, a3, a4⟩ := ex_start (i := 0) (by decide) p0 (d := 114) (by decide) (by decide)
  obtain ⟨B, b1, b2, b3, b4⟩ := ex_start (i := 1) (by decide) p1 (d := 108) (by decide) (by decide)
  obtain ⟨A2, c1, c2, c3⟩ := ex_take (i := 0) (r := 1) (by decide) (by decide) (by decide) p0 p1 (by decide) a2 a3 a4
  obtain ⟨B2, d1, d2, d3⟩ := ex_take (i := 1) (r := 0) (by decide) (by decide) (by decide) p1 p0 (by decide) b2 b3 b4
  obtain ⟨o1, A3, e1, e2, e3⟩ := ex_mark (i := 0) (r := 1) (by decide) (by decide) (by decide) p0 c2 c3
  obtain ⟨o2, B3, f1, f2, f3⟩ := ex_mark (i := 1) (r := 0) (by decide) (by decide) (by decide) p1 d2 d3
  rw [m0, m1] at *
  have n0 := nmAt_ok 1 0
  have n1 := nmAt_ok 1 1
  have hn0 : rekey_New.f 1 V12 (nmAt 1 0) = some (some (roundO 1 V12 T12 (nmAt 1 0)), 0) := new_is ms12_ok (by simp) (by decide) (by simp) n0.1 n0.2
  have hn1 : rekey_New.f 2 V12 (nmAt 1 1) = some (some (roundO 2 V12 T12 (nmAt 1 1)), 0) := new_is ms12_ok (by simp) (by decide) (by simp) n1.1 n1.2
  unfold gemotlaw16_shown.f
  rw [of_12, Option.bind_some]
  rw [show term_Name.f (1 : Int) = some (nmAt 1 0) from rfl, Option.bind_some, hn0, Option.bind_some]
  rw [show term_Name.f (2 : Int) = some (nmAt 1 1) from rfl, Option.bind_some, hn1, Option.bind_some]
  show (cond false _ _) = _
  rw [cond_false, Option.bind_some, a1, Option.bind_some, Option.bind_some, b1, Option.bind_some]
  show (gemotlaw16_shown.k3 ([msgB T12 V12 1 [108]], A) ([msgB T12 V12 1 [114]], B) [msgB T12 V12 1 [108]] false) = _
  unfold gemotlaw16_shown.k3
  rw [cond_false]
  show (rekey_Round_Take.f A 2 (msgB T12 V12 1 [114])).bind _ = _
  rw [c1, Option.bind_some]
  show (rekey_Round_Take.f B 1 (msgB T12 V12 1 [108])).bind _ = _
  rw [d1, Option.bind_some]
  show (gemotlaw16_shown.k2 ([msgC T12 V12 1 1], A2) ([msgC T12 V12 1 2], B2) [msgC T12 V12 1 1] false) = _
  unfold gemotlaw16_shown.k2
  rw [cond_false]
  show (rekey_Round_Take.f A2 2 (msgC T12 V12 1 2)).bind _ = _
  rw [e1, Option.bind_some]
  show (rekey_Round_Take.f B2 1 (msgC T12 V12 1 1)).bind _ = _
  rw [f1, Option.bind_some, e2, Option.bind_some, f2, Option.bind_some, strEq_eq, decide_eq_true rfl]
  show (rekey_Round_Confirmed.f A3).bind _ = _
  rw [e3, Option.bind_some, cond_true, f3, Option.bind_some]
  rfl
end Go.Proofs.YtfapphlhkfddoaaGreatDoor.G
/- Walks, printed by a program of this proof's own. -/
namespace Go.Proofs.YtfapphlhkfddoaaGreatDoor.G
open Go.RowKit Go.Eng Go.Proofs
set_option linter.unusedVariables false
set_option maxRecDepth 20000
end Go.Proofs.YtfapphlhkfddoaaGreatDoor.G
/- Walks, printed by a program of this proof's own. -/
namespace Go.Proofs.YtfapphlhkfddoaaGreatDoor.G
open Go.RowKit Go.Eng Go.Proofs
set_option linter.unusedVariables false
set_option maxRecDepth 20000
end Go.Proofs.YtfapphlhkfddoaaGreatDoor.G
/- RekeyMeet, RekeyOrder, as they are reckoned. -/
namespace Go.Proofs.YtfapphlhkfddoaaGreatDoor.G
open Go.RowKit Go.Eng Go.Proofs Go.Proofs.YtfapphlhkfddoaaGreatDoor.Cut
set_option linter.unusedVariables false
set_option linter.unusedSimpArgs false
end Go.Proofs.YtfapphlhkfddoaaGreatDoor.G
/- Data that come in, with the bounds that memory sets: each list, each text. -/
set_option linter.unusedVariables false
namespace Go.Eng
open Go.RowKit
set_option linter.unusedSectionVars false
variable [Inhabited Keep] [Inhabited Hard]
def OpensS {α : Type} (P : Program) (t : TypeId) (k : Ty α) (p : α → Prop) : Prop :=
  P.cellsOf t = k.sz ∧ ∀ (H : Type) (enc : TypeId × Value → H) (w : World) (base : Nat) (spare : Nat → Bool) (held : Bool) (fuel : Nat) (cs : List Value) (x : DataW H × List MemPlace), DataW.trod enc P w base spare held fuel t cs = some x → (∀ n ∈ x.1.weights P t, n ≤ 140737488351232) → ∃ a, k.R w (fun _ => True) a cs ∧ p a
section
variable {P : Program} {t : TypeId}
theorem openS_int {k : IntKind} (ht : P.underlying t = some (.int k)) (hc : P.cellsOf t = 1) : OpensS P t (tInt k) (inKind k) := ⟨hc, fun H enc w base spare held fuel cs x h _ => by
  obtain ⟨n, hb, _, hw⟩ := DataW.trod_int ht h
  simp only [Lit.wf, Bool.and_eq_true, decide_eq_true_eq] at hw
  exact ⟨n, hb, hw⟩⟩
theorem weights_all {H : Type} {e : TypeId} : ∀ {ds : List (DataW H)} {d : DataW H}, d ∈ ds → ∀ n ∈ d.weights P e, n ∈ DataW.weightsAll P e ds
  | d0 :: ds, d, hd, n, hn => by
    simp only [DataW.weightsAll, List.mem_append]
    rcases List.mem_cons.1 hd with h | h
    · subst h; exact .inl hn
    · exact .inr (weights_all h n hn)
theorem openS_slice {α : Type} {k : Ty α} {p : α → Prop} {e : TypeId} {b : Nat} (ht : P.underlying t = some (.slice e)) (hc : P.cellsOf t = 1) (hb' : P.bytesOf e = b) (he : OpensS P e k p) (hpos : 0 < k.sz) : OpensS P t (tSl k) (fun xs => xs.length * b ≤ 140737488351232 ∧ ∀ x ∈ xs, p x) := ⟨hc, fun H enc w base spare held fuel cs x h hz => by
  rcases DataW.trod_slice ht h with ⟨hcs, _⟩ | ⟨a, len, cap, elems, rest, n, _, hcs, hx, hb, hl, hm, hel, hat, _⟩
  · exact ⟨[], ⟨.slice none 0 0, hcs, none, 0, rfl, Nat.le_refl _, .inl ⟨rfl, fun _ => rfl⟩⟩, by simp, fun x hx => by cases hx⟩
  · subst hx
    have hw : (DataW.slice (elems.map (·.1)) (rest.map (·.1))).weights P t = ((elems.map (·.1)).length + (rest.map (·.1)).length) * P.bytesOf e :: (DataW.weightsAll P e (elems.map (·.1)) ++ DataW.weightsAll P e (rest.map (·.1))) := by
      simp [DataW.weights, ht]
    rw [hw] at hz
    have hsz := hz _ List.mem_cons_self
    have key : ∀ i, i < len → ∃ x cs, k.R w (fun _ => True) x cs ∧ p x ∧ cellsAt w (a.add (i * k.sz)) 0 cs := by
      intro i hi
      have h1 := hat i hi
      have hlt : i < elems.length := by omega
      rw [List.getElem?_eq_getElem hlt] at h1
      obtain ⟨cs', h2, h3⟩ := Option.bind_eq_some_iff.1 h1
      obtain ⟨h4, h5⟩ := cells_at h2
      obtain ⟨x, hx, hp⟩ := he.2 _ enc w base spare held n cs' _ h3 (fun m hm => hz m (List.mem_cons_of_mem _ (List.mem_append.2 (.inl (weights_all (List.mem_map.2 ⟨_, List.getElem_mem hlt, rfl⟩) m hm)))))
      refine ⟨x, cs', hx, hp, ?_⟩
      rw [← he.1]; exact h5
    have hex : ∀ m, m ≤ len → ∃ xs : List α, xs.length = m ∧ (∀ x ∈ xs, p x) ∧ ∀ j x, xs[j]? = some x → ∃ cs, k.R w (fun _ => True) x cs ∧ cellsAt w (a.add (j * k.sz)) 0 cs := by
      intro m
      induction m with
      | zero => intro _; exact ⟨[], rfl, by simp, by simp⟩
      | succ m ih =>
        intro hm'
        obtain ⟨xs, hxl, hpx, hxs⟩ := ih (by omega)
        obtain ⟨x, cs', g1, gp, g2⟩ := key m (by omega)
        refine ⟨xs ++ [x], by simp [hxl], fun y hy => ?_, fun j y hy => ?_⟩
        · rcases List.mem_append.1 hy with h | h
          · exact hpx y h
          · rw [List.mem_singleton] at h; subst h; exact gp
        · by_cases hj : j < xs.length
          · rw [List.getElem?_append_left hj] at hy; exact hxs j y hy
          · have hjl := (List.getElem?_eq_some_iff.1 hy).1
            simp at hjl
            have : j = xs.length := by omega
            subst this
            simp at hy
            subst hy
            rw [hxl]; exact ⟨cs', g1, g2⟩
    obtain ⟨xs, hxl, hpx, hxs⟩ := hex len (Nat.le_refl _)
    refine ⟨xs, ⟨.slice (some a) len cap, hcs, some a, cap, by rw [hxl], by omega, ?_⟩, ?_, hpx⟩
    · by_cases h0 : len = 0
      · left
        exact ⟨List.eq_nil_of_length_eq_zero (by omega), fun h => by cases h⟩
      · right
        obtain ⟨x0, cs0, g1, _, g2⟩ := key 0 (by omega)
        have hne : cs0 ≠ [] := fun e => by have := k.len g1; rw [e] at this; simp at this; omega
        have hlt := cellsAt_lt g2 hne
        rw [add_block] at hlt
        exact ⟨a, rfl, trivial, hlt, fun j x hx => hxs j x hx⟩
    · rw [hb'] at hsz
      refine Nat.le_trans (Nat.mul_le_mul_right b ?_) hsz
      rw [List.length_map]; omega⟩
theorem openS_list {α : Type} {k : Ty α} {p : α → Prop} {e : TypeId} {b : Nat} (ht : P.underlying t = some (.slice e)) (hc : P.cellsOf t = 1) (hb' : P.bytesOf e = b) (he : OpensS P e k p) (hpos : 0 < k.sz) {H : Type} {enc : TypeId × Value → H} {w : World} {base : Nat} {spare : Nat → Bool} {held : Bool} {a : Option Addr} {len cap : Nat} {d : DataW H} {ps : List MemPlace} {ts : List TypeId} {ds : List (DataW H)} {j : Nat}
    (hsz : (DataW.weightsEach P ts ds).all (· ≤ reachBytes) = true) (htj : ts[j]? = some t) (hdj : ds[j]? = some d)
    (hd : DataW.Trod enc P w base spare held t (.slice a len cap) d ps) : ∃ xs, slR k w (fun _ => True) (.slice a len cap) xs ∧ xs.length * b ≤ 140737488351232 ∧ ∀ x ∈ xs, p x := by
  obtain ⟨fuel, hf⟩ := hd
  obtain ⟨xs, ⟨v, hv, hx⟩, h1, h2⟩ := (openS_slice ht hc hb' he hpos).2 _ enc w base spare held fuel _ _ hf (fun n hn => by
    have := List.all_eq_true.1 hsz _ (DataW.weights_mem_each htj hdj n hn)
    exact of_decide_eq_true this)
  have : v = .slice a len cap := by simpa [Value.cells] using hv.symm
  subst this
  exact ⟨xs, hx, h1, h2⟩
end
end Go.Eng
