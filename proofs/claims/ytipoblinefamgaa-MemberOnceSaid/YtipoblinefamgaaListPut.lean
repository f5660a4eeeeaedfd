/- A row as a term: list.Put, and what it leans on. -/
import Derived.Test.YtipoblinefamgaaMissing
import Derived.Test.YtipoblinefamgaaNumber
import Derived.Test.YtipoblinefamgaaM1
namespace Go.Proofs.Ytipoblinefamgaa.Cut
open Go.RowKit Go.Eng Go.Proofs
set_option linter.unusedVariables false
set_option maxRecDepth 20000

variable {ok : Nat → Prop} {w0 w : World} {L : List Eng.Item}

set_option maxHeartbeats 1000000 in
theorem IndexTerm_own (H : Eng.Own ok w0 w L) (i : Nat) {v : Value} {ls : List Tx} (hi : L[i]? = some (.dat (dSl tStr v ls))) (hl : ls.length ≤ 140737488355328) {f : FuncId} {cap : Array Value} (t : Tx → Bool) (hb : bodyB Try.prog f = true)
    (hf : ∀ (w' : World) (x : Tx), x ∈ ls → Eng.Own ok w0 w' L → Calls Try.prog f ((#[] ++ [Value.string (bs x)].toArray) ++ cap) w' fun e w'' => ∃ r, e = .returned r ∧ (r = .bool (t x) ∧ Bel w'.heap.size w' w'')) :
    Calls Try.prog 76 #[v, .func (.func f) #[] cap] w fun e w' => ∃ r, e = .returned r ∧ (r = .int .i64 (idxOf t ls) ∧ Eng.Own ok w0 w' L) := by
  obtain ⟨A, c, hA, hc⟩ := H.sl i hi
  subst hA
  refine enter (args := [.slice A ls.length c, .func (.func f) #[] cap]) Try.func76 rfl Try.ntmps76 rfl rfl ?_
  try refine nc ?_
  try refine nc ?_
  refine loop_rule (fun k e w' => ∃ j : Nat, j + k = ls.length ∧ e = [(0, .slice A ls.length c), (1, .func (.func f) #[] cap), (7, .int .i64 (ls.length : Nat)), (8, .int .i64 (j : Int))] ∧ (∀ q (h : q < ls.length), q < j → t ls[q] = false) ∧ Eng.Own ok w0 w' L) ls.length [(0, .slice A ls.length c), (1, .func (.func f) #[] cap), (7, .int .i64 (ls.length : Nat)), (8, .int .i64 ((0 : Nat) : Int))] ⟨rfl, rfl, rfl, rfl, trivial⟩ ⟨0, by omega, rfl, fun q _ h => by omega, H⟩ ?_
  rintro k e w' ⟨j, hjk, rfl, ht, H⟩
  try refine nc ?_
  try refine nc ?_
  refine cond_of (fun hc => ?_) (fun hc => ?_)
  · have hlt : j < ls.length := by have := of_decide_eq_true hc; omega
    try refine nc ?_
    try refine nc ?_
    obtain ⟨a, c', cs, hA, hR, H'⟩ := H.elem i hi j hlt
    cases hA
    have hR : cs = [.string (bs ls[j])] := hR
    subst hR
    refine indexAddr_rule (e := 45) 1 j (by kernel_rfl) (by kernel_rfl) (fun _ => hlt) ?_
    refine own_loadD H' 0 rfl 0 (by kernel_rfl) rfl ?_
    refine callV_rule hb (hf w' ls[j] (List.getElem_mem hlt) H) fun v w2 ⟨hv, hbel⟩ => ?_
    subst hv
    replace H := H.call hbel
    try refine nc ?_
    try refine nc ?_
    refine cond_of (fun hd => ?_) (fun hd => ?_)
    · try refine nc ?_
      try refine nc ?_
      refine ret_of [.int .i64 (j : Nat)] ⟨rfl, trivial⟩ ⟨_, rfl, ?_, H⟩
      have : ls.findIdx? t = some j := List.findIdx?_eq_some_iff_getElem.2 ⟨hlt, hd, fun q hq => by simpa using ht q (by omega) hq⟩
      unfold idxOf; rw [this]; rfl
    · try refine nc ?_
      try refine nc ?_
      refine again_in (k - 1) (by omega) [(0, .slice (some a) ls.length c), (1, .func (.func f) #[] cap), (7, .int .i64 (ls.length : Nat)), (8, .int .i64 ((j + 1 : Nat) : Int))] ⟨rfl, rfl, rfl, ?_, trivial⟩ ⟨j + 1, by omega, rfl, fun q hq hq2 => ?_, H⟩
      · show some (Value.int .i64 (IntKind.i64.wrap ((j : Int) + 1))) = _
        rw [Eng.i64_id (by omega) (by omega)]; rfl
      · by_cases h : q = j
        · subst h; exact hd
        · exact ht q hq (by omega)
  · have hge : j = ls.length := by have := of_decide_eq_false hc; omega
    try refine nc ?_
    try refine nc ?_
    refine ret_of [.int .i64 (-1)] ⟨rfl, trivial⟩ ⟨_, rfl, ?_, H⟩
    have : ls.findIdx? t = none := List.findIdx?_eq_none_iff.2 fun x hx => by
      obtain ⟨q, hq, rfl⟩ := List.mem_iff_getElem.1 hx
      exact ht q hq (by omega)
    unfold idxOf; rw [this]; rfl
theorem idxOf_any {α : Type} (t : α → Bool) (l : List α) : decide (idxOf t l ≥ 0) = l.any t := by
  unfold idxOf
  cases h : l.findIdx? t with
  | none =>
    have := List.findIdx?_eq_none_iff.1 h
    have e : l.any t = false := by rw [List.any_eq_false]; intro x hx; simpa using this x hx
    rw [e]; rfl
  | some i =>
    obtain ⟨hi, ht, _⟩ := List.findIdx?_eq_some_iff_getElem.1 h
    have e : l.any t = true := List.any_eq_true.2 ⟨_, List.getElem_mem hi, ht⟩
    rw [e]; simp
theorem ContainsTerm_own (H : Eng.Own ok w0 w L) (i : Nat) {v : Value} {ls : List Tx} (hi : L[i]? = some (.dat (dSl tStr v ls))) (hl : ls.length ≤ 140737488355328) {f : FuncId} {cap : Array Value} (t : Tx → Bool) (hb : bodyB Try.prog f = true)
    (hf : ∀ (w' : World) (x : Tx), x ∈ ls → Eng.Own ok w0 w' L → Calls Try.prog f ((#[] ++ [Value.string (bs x)].toArray) ++ cap) w' fun e w'' => ∃ r, e = .returned r ∧ (r = .bool (t x) ∧ Bel w'.heap.size w' w'')) :
    Calls Try.prog 61 #[v, .func (.func f) #[] cap] w fun e w' => ∃ r, e = .returned r ∧ (r = .bool (ls.any t) ∧ Eng.Own ok w0 w' L) := by
  refine enter (args := [v, .func (.func f) #[] cap]) Try.func61 rfl Try.ntmps61 rfl rfl ?_
  try refine nc ?_
  try refine nc ?_
  refine call_rule (by kernel_rfl) (IndexTerm_own H i hi hl t hb hf) fun r w1 ⟨hr, H⟩ => ?_
  subst hr
  try refine nc ?_
  try refine nc ?_
  refine ret_of [.bool (decide (idxOf t ls ≥ 0))] ⟨rfl, trivial⟩ ⟨_, rfl, by rw [← idxOf_any]; rfl, H⟩

/-! A list from behind. -/
def backS (ls : List Tx) (xs : List (Int × Tx)) : Prop := xs.map (·.2) = ls.reverse
def backSp (ls : List Tx) (pre : List (Int × Tx)) : Prop := ∃ j, pre.map (·.2) = (ls.drop j).reverse
abbrev encB (p : Int × Tx) : List Value := [.int .i64 p.1, .string (bs p.2)]
set_option maxHeartbeats 2000000 in
theorem back_iter {b : Nat} {ls : List Tx} {v : Value} (hl : ls.length ≤ 140737488355328) : IterAt Try.prog ok w0 77 #[.pointer (some ⟨b, 0, none⟩)] encB (backS ls) (backSp ls) [.blk b [v] 36, .dat (dSl tStr v ls)] := by
  intro lp I Ix hY W L h0 H
  have ea : (#[Value.func (.yield lp) #[] #[]] ++ #[Value.pointer (some ⟨b, 0, none⟩)] : Array Value) = [Value.func (.yield lp) #[] #[], .pointer (some ⟨b, 0, none⟩)].toArray := rfl
  rw [ea]
  obtain ⟨A, c, hA, hc⟩ := H.sl 1 rfl
  subst hA
  replace H : Eng.Own ok w0 W (.blk b [.slice A ls.length c] 36 :: .dat (dSl tStr (.slice A ls.length c) ls) :: L) := H
  refine enter (args := [.func (.yield lp) #[] #[], .pointer (some ⟨b, 0, none⟩)]) Try.func77 rfl Try.ntmps77 rfl rfl ?_
  try refine nc ?_
  refine own_load H 0 rfl (by kernel_rfl) (j := 0) rfl ?_
  try refine nc ?_
  refine loop_rule (fun k e w => ∃ pre L', pre.map (·.2) = (ls.drop k).reverse ∧ k ≤ ls.length ∧ I pre L' ∧ e = [(0, .func (.yield lp) #[] #[]), (1, .pointer (some ⟨b, 0, none⟩)), (3, .int .i64 ((k : Int) - 1))] ∧
      Eng.Own ok w0 w (.blk b [.slice A ls.length c] 36 :: .dat (dSl tStr (.slice A ls.length c) ls) :: L')) ls.length [(0, .func (.yield lp) #[] #[]), (1, .pointer (some ⟨b, 0, none⟩)), (3, .int .i64 ((ls.length : Int) - 1))] ⟨rfl, rfl, ?_, trivial⟩
    ⟨[], L, by simp, Nat.le_refl _, h0, rfl, H⟩ ?_
  · show some (Value.int .i64 (IntKind.i64.wrap (((ls.length : Nat) : Int) - 1))) = _
    rw [Eng.i64_id (by omega) (by omega)]
  rintro k e w ⟨pre, L', hpre, hk, hI, rfl, H⟩
  try refine nc ?_
  try refine nc ?_
  refine cond_of (fun hc => ?_) (fun hc => ?_)
  · have hk0 : 0 < k := by have := of_decide_eq_true hc; omega
    obtain ⟨m, rfl⟩ : ∃ m, k = m + 1 := ⟨k - 1, by omega⟩
    have hlt : m < ls.length := by omega
    have em : (((m + 1 : Nat) : Int) - 1) = (m : Int) := by omega
    rw [em]
    try refine nc ?_
    try refine nc ?_
    refine own_load H 0 rfl (by kernel_rfl) (j := 0) rfl ?_
    obtain ⟨a, c', cs, hA, hR, H'⟩ := H.elem 1 rfl m hlt
    cases hA
    have hR : cs = [.string (bs ls[m])] := hR
    subst hR
    refine indexAddr_rule (e := 45) 1 m (by kernel_rfl) (by kernel_rfl) (fun _ => hlt) ?_
    refine own_loadD H' 0 rfl 0 (by kernel_rfl) rfl ?_
    have hsp : backSp ls (pre ++ [((m : Int), ls[m])]) := ⟨m, by rw [List.map_append, hpre, List.drop_eq_getElem_cons hlt, List.reverse_cons]; rfl⟩
    have hpre2 : (pre ++ [((m : Int), ls[m])]).map (·.2) = (ls.drop m).reverse := by rw [List.map_append, hpre, List.drop_eq_getElem_cons hlt, List.reverse_cons]; rfl
    refine yield_rule (hY [.blk b [.slice (some a) ls.length c] 36, .dat (dSl tStr (.slice (some a) ls.length c) ls)] pre ((m : Int), ls[m]) L' _ hsp hI (Eng.Own.swap (A := [_, _]) H)) fun v w5 hv => ?_
    rcases hv with ⟨rfl, L2, hI2, H⟩ | ⟨rfl, L2, hI2, H⟩
    · replace H : Eng.Own ok w0 w5 (.blk b [.slice (some a) ls.length c] 36 :: .dat (dSl tStr (.slice (some a) ls.length c) ls) :: L2) := Eng.Own.swap (B := [_, _]) H
      try refine nc ?_
      try refine nc ?_
      refine cond_no rfl ?_
      try refine nc ?_
      refine again_in m (by omega) [(0, .func (.yield lp) #[] #[]), (1, .pointer (some ⟨b, 0, none⟩)), (3, .int .i64 ((m : Int) - 1))] ⟨rfl, rfl, ?_, trivial⟩ ⟨_, L2, hpre2, by omega, hI2, rfl, H⟩
      show some (Value.int .i64 (IntKind.i64.wrap ((m : Int) - 1))) = _
      rw [Eng.i64_id (by omega) (by omega)]
    · replace H : Eng.Own ok w0 w5 (.blk b [.slice (some a) ls.length c] 36 :: .dat (dSl tStr (.slice (some a) ls.length c) ls) :: L2) := Eng.Own.swap (B := [_, _]) H
      try refine nc ?_
      try refine nc ?_
      refine cond_yes rfl ?_
      try refine nc ?_
      exact ret_of [] trivial ⟨_, rfl, .inr ⟨_, L2, hsp, hI2, H⟩⟩
  · have hk0 : k = 0 := by have := of_decide_eq_false hc; omega
    subst hk0
    try refine nc ?_
    try refine nc ?_
    refine ret_of [] trivial ⟨_, rfl, .inl ⟨pre, L', ?_, hI, H⟩⟩
    simpa [backS] using hpre
theorem Back_own {A : Option Addr} {n c : Nat} (H : Eng.Own ok w0 w L) :
    Calls Try.prog 62 #[.slice A n c] w fun e w' => ∃ v, e = .returned v ∧ ∃ b, v = .func (.func 77) #[] #[.pointer (some ⟨b, 0, none⟩)] ∧ Eng.Own ok w0 w' (.blk b [.slice A n c] 36 :: L) := by
  refine enter (args := [.slice A n c]) Try.func62 rfl Try.ntmps62 rfl rfl ?_
  try refine nc ?_
  refine own_box H [.slice A n c] rfl fun b w1 H => ?_
  try refine nc ?_
  try refine nc ?_
  exact ret_of [_] ⟨rfl, trivial⟩ ⟨_, rfl, b, rfl, H⟩

/-! list.Put. -/
def putStep (out t : Tx) : Tx := ([112] ++ t) ++ out
def putT (ls : List Tx) : Tx := ls.reverse.foldl putStep (countedT 117 0)
theorem putT_drop (ls : List Tx) (j : Nat) : (putT (ls.drop j)).length ≤ (putT ls).length := by
  have key : ∀ (a b : List Tx) (s : Tx), (a.foldl putStep s).length ≤ ((a ++ b).foldl putStep s).length := by
    intro a b s
    rw [List.foldl_append]
    generalize a.foldl putStep s = q
    induction b generalizing q with
    | nil => exact Nat.le_refl _
    | cons x b ih => rw [List.foldl_cons]; refine Nat.le_trans ?_ (ih _); simp [putStep]; omega
  unfold putT
  have : ls.reverse = (ls.drop j).reverse ++ (ls.take j).reverse := by rw [← List.reverse_append, List.take_append_drop]
  rw [this]
  exact key _ _ _
end Go.Proofs.Ytipoblinefamgaa.Cut
namespace Go.Proofs.Ytipoblinefamgaa.G
open Go.RowKit Go.Eng Go.Proofs Go.Proofs.Ytipoblinefamgaa.Cut
set_option linter.unusedVariables false
set_option maxRecDepth 20000
variable {ok : Nat → Prop} {w : World}
noncomputable def rightT (t : List UInt8) : Bool := (term_Right.f t).getD false
noncomputable def list_Put.f (x0 : List (List UInt8)) : Option (List UInt8 × Int) :=
  if x0.length > 150 then some ([], 1) else
  givenM (∀ t ∈ x0, ∃ b, term_Right.f t = some b) (
    if x0.any (fun t => !rightT t) then some ([], 1) else
    givenM ((putT x0).length * 1 ≤ 140737488355328) (
    if (putT x0).length > 20000 then some ([], 3) else
    (term_Right.f (putT x0)).bind fun b => cond b (some (putT x0, 0)) (some ([], 4))))
set_option maxHeartbeats 2000000 in
theorem Put1_calls {t : List UInt8} {b : Bool} (h : term_Right.f t = some b) : Calls Try.prog 60 ((#[] ++ [Value.string (bs t)].toArray) ++ #[]) w fun e w' => ∃ v, e = .returned v ∧ (v = .bool (!b) ∧ Bel w.heap.size w w') := by
  have ea : ((#[] ++ [Value.string (bs t)].toArray) ++ #[] : Array Value) = [Value.string (bs t)].toArray := rfl
  rw [ea]
  have H : Eng.Own (fun _ => False) w w [] := Eng.Own.nil _ w
  refine enter (args := [.string (bs t)]) Try.func60 rfl Try.ntmps60 rfl rfl ?_
  try refine nc ?_
  try refine nc ?_
  refine call_rule (by kernel_rfl) (term_Right_ok (ok := fun _ => False) h) fun r w1 ⟨hr, hbel⟩ => ?_
  subst hr
  replace H := H.call hbel
  try refine nc ?_
  try refine nc ?_
  exact ret_of [.bool (!b)] ⟨rfl, trivial⟩ ⟨_, rfl, rfl, H.frame⟩
set_option maxHeartbeats 4000000 in
theorem list_Put_ok {u : Value} {x0 : List (List UInt8)} {r : List UInt8 × Int} (hu : slR tStr w ok u x0) (h : list_Put.f x0 = some r) :
    Calls Try.prog 51 #[u] w fun e w' => ∃ v, e = .returned v ∧ (v = .tuple #[.string (bs r.1), .int .i64 r.2] ∧ Bel w.heap.size w w') := by
  have H : Eng.Own ok w w [] := Eng.Own.nil ok w
  obtain ⟨A, c, rfl, H⟩ := H.arg rfl hu
  unfold list_Put.f at h
  refine enter (args := [.slice A x0.length c]) Try.func51 rfl Try.ntmps51 rfl rfl ?_
  try refine nc ?_
  try refine nc ?_
  try refine nc ?_
  by_cases hlen : x0.length > 150
  · rw [if_pos hlen] at h
    cases h
    have hg : decide ((x0.length : Int) > 150) = true := decide_eq_true (by omega)
    refine call_skip (.bool false) (gF0 hg) ?_
    try refine nc ?_
    try refine nc ?_
    refine cond_yes (by show cond (decide ((x0.length : Int) > 150)) true false = true; rw [hg]; rfl) ?_
    try refine nc ?_
    try refine nc ?_
    exact ret_of [.string (bs []), .int .i64 1] ⟨rfl, rfl, trivial⟩ ⟨_, rfl, rfl, H.frame⟩
  rw [if_neg hlen] at h
  have hg : decide ((x0.length : Int) > 150) = false := decide_eq_false (by omega)
  obtain ⟨hR, h⟩ := givenS h
  have hrt : ∀ t ∈ x0, term_Right.f t = some (rightT t) := fun t ht => by obtain ⟨b, e⟩ := hR t ht; unfold rightT; rw [e]; rfl
  refine call_yes (gT0 hg rfl) (by kernel_rfl) (ContainsTerm_own H 0 rfl (by omega) (fun t => !rightT t) (by kernel_rfl) (fun w' x hx H' => Put1_calls (hrt x hx))) fun r1 w1 ⟨hr1, H⟩ => ?_
  subst hr1
  try refine nc ?_
  try refine nc ?_
  by_cases ha : x0.any (fun t => !rightT t) = true
  · rw [if_pos ha] at h
    cases h
    refine cond_yes (by show cond (decide ((x0.length : Int) > 150)) true (x0.any fun t => !rightT t) = true; rw [hg, ha]; rfl) ?_
    try refine nc ?_
    try refine nc ?_
    exact ret_of [.string (bs []), .int .i64 1] ⟨rfl, rfl, trivial⟩ ⟨_, rfl, rfl, H.frame⟩
  rw [if_neg ha] at h
  obtain ⟨hb, h⟩ := givenS h
  refine cond_no (by show cond (decide ((x0.length : Int) > 150)) true (x0.any fun t => !rightT t) = false; rw [hg]; simpa using ha) ?_
  try refine nc ?_
  try refine nc ?_
  refine call_rule (by kernel_rfl) (number_calls 0 w1) fun r2 w2 ⟨hr2, hbel2⟩ => ?_
  subst hr2
  replace H := H.call hbel2
  refine own_alloc (z := .string (bs [])) H (by kernel_rfl) [.string (bs [])] rfl fun q w3 H => ?_
  refine own_storeB (m := 1) H 0 rfl (by kernel_rfl) [.string (bs (countedT 117 0))] rfl rfl rfl rfl fun w4 H => ?_
  try refine nc ?_
  try refine nc ?_
  refine call_rule (by kernel_rfl) (Back_own H) fun v w5 ⟨b, hv, H⟩ => ?_
  subst hv
  try refine nc ?_
  have H0 : Eng.Own ok w w5 ([.blk b [.slice A x0.length c] 36, .dat (dSl tStr (.slice A x0.length c) x0)] ++ [.blk q [.string (bs (countedT 117 0))] 45]) := H.pickL [0, 2, 1] rfl
  refine range_rule (I := fun pre L1 => L1 = [.blk q [.string (bs ((pre.map (·.2)).foldl putStep (countedT 117 0)))] 45]) (Ix := fun _ _ _ => False) rfl (by kernel_rfl) (fun _ => rfl) rfl (back_iter (by omega)) H0 rfl ?_ ?_ ?_
  · rintro l φ T pre x L1 W hφ ⟨j, hsp⟩ rfl H
    have hbound : ([112] ++ x.2).length + ((pre.map (·.2)).foldl putStep (countedT 117 0)).length ≤ 140737488355328 := by
      have h1 := putT_drop x0 j
      have h2 : putT (x0.drop j) = putStep ((pre.map (·.2)).foldl putStep (countedT 117 0)) x.2 := by
        unfold putT
        rw [← hsp, List.map_append, List.foldl_append]; rfl
      rw [h2] at h1
      simp only [putStep, List.length_append] at h1 ⊢
      omega
    try refine nc ?_
    refine rGo_in _ H fun w6 φ2 hφ2 H => ?_
    try refine nc ?_
    try refine nc ?_
    refine catM_rule (a := [112]) (b := x.2) (by rw [List.length_append] at hbound; omega) ?_
    refine own_load H 0 rfl (by kernel_rfl) (j := 0) rfl ?_
    refine catM_rule (a := [112] ++ x.2) (b := (pre.map (·.2)).foldl putStep (countedT 117 0)) (by omega) ?_
    refine own_storeB (m := 1) H 0 rfl (by kernel_rfl) [.string (bs (([112] ++ x.2) ++ (pre.map (·.2)).foldl putStep (countedT 117 0)))] rfl rfl rfl rfl fun w7 H => ?_
    try refine nc ?_
    refine rEnd_in [.blk q [.string (bs (([112] ++ x.2) ++ (pre.map (·.2)).foldl putStep (countedT 117 0)))] 45] ?_ H
    rw [List.map_append, List.foldl_append]; rfl
  · rintro D W L1 xs hS rfl H
    have hx : (xs.map (·.2)).foldl putStep (countedT 117 0) = putT x0 := by unfold putT; rw [show xs.map (·.2) = x0.reverse from hS]
    rw [hx] at H
    replace H : Eng.Own ok w W [.obj D isDef, .blk q [.string (bs (putT x0))] 45] := H.pickL [0, 3] rfl
    try refine nc ?_
    try refine nc ?_
    refine own_load H 1 rfl (by kernel_rfl) (j := 0) rfl ?_
    try refine nc ?_
    try refine nc ?_
    by_cases hlong : (putT x0).length > 20000
    · rw [if_pos hlong] at h
      cases h
      refine cond_yes (decide_eq_true (show ((putT x0).length : Int) > 20000 by omega)) ?_
      try refine nc ?_
      try refine nc ?_
      refine ret_own H 0 rfl fun w' H => ?_
      exact ret_of [.string (bs []), .int .i64 3] ⟨rfl, rfl, trivial⟩ ⟨_, rfl, rfl, H.frame⟩
    rw [if_neg hlong] at h
    refine cond_no (decide_eq_false (show ¬ ((putT x0).length : Int) > 20000 by omega)) ?_
    try refine nc ?_
    try refine nc ?_
    refine own_load H 1 rfl (by kernel_rfl) (j := 0) rfl ?_
    obtain ⟨b2, hb2, h⟩ := bindS h
    refine call_rule (by kernel_rfl) (term_Right_ok (ok := fun _ => False) hb2) fun r3 w8 ⟨hr3, hbel3⟩ => ?_
    subst hr3
    replace H := H.call hbel3
    try refine nc ?_
    try refine nc ?_
    cases b2 with
    | false =>
      replace h := Option.some.inj h
      subst h
      refine cond_yes rfl ?_
      try refine nc ?_
      try refine nc ?_
      refine ret_own H 0 rfl fun w' H => ?_
      exact ret_of [.string (bs []), .int .i64 4] ⟨rfl, rfl, trivial⟩ ⟨_, rfl, rfl, H.frame⟩
    | true =>
      replace h := Option.some.inj h
      subst h
      refine cond_no rfl ?_
      try refine nc ?_
      try refine nc ?_
      refine own_load H 1 rfl (by kernel_rfl) (j := 0) rfl ?_
      try refine nc ?_
      try refine nc ?_
      refine ret_own H 0 rfl fun w' H => ?_
      exact ret_of [.string (bs (putT x0)), .int .i64 0] ⟨rfl, rfl, trivial⟩ ⟨_, rfl, rfl, H.frame⟩
  · intro D W L pre c _ h _; exact h.elim
end Go.Proofs.Ytipoblinefamgaa.G
