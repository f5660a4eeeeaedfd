/- What compares: cmp's functions, ids, places. -/
import Derived.Test.YtipoblinefamgaaMaps
import Derived.Test.YtipoblinefamgaaPieces
import Derived.Test.YtipoblinefamgaaOpen
import Derived.Test.YtipoblinefamgaaChecked
import Derived.WalkKit
namespace Go.Proofs.Ytipoblinefamgaa.Cut
open Go.RowKit Go.Eng Go.Proofs
set_option linter.unusedVariables false
set_option linter.unusedSectionVars false
set_option maxRecDepth 20000
variable [Inhabited Keep]

theorem isNaN_calls (x : Int) (w : World) : Calls Try.prog 56 #[.int .i64 x] w fun e w' => ∃ v, e = .returned v ∧ (v = .bool false ∧ Bel w.heap.size w w') := by
  refine enter (args := [.int .i64 x]) Try.func56 rfl Try.ntmps56 rfl rfl ?_
  try refine nc ?_
  try refine nc ?_
  try refine nc ?_
  refine ret_of [_] ⟨rfl, trivial⟩ ⟨_, rfl, ?_, Bel.refl _ _⟩
  show Value.bool (!(x == x)) = _
  simp

def cmpI (x y : Int) : Int := if x < y then -1 else if x > y then 1 else 0
theorem Compare_calls (x y : Int) (w : World) : Calls Try.prog 43 #[.int .i64 x, .int .i64 y] w fun e w' => ∃ v, e = .returned v ∧ (v = .int .i64 (cmpI x y) ∧ Bel w.heap.size w w') := by
  have H : Eng.Own (fun _ => False) w w [] := Eng.Own.nil _ w
  refine enter (args := [.int .i64 x, .int .i64 y]) Try.func43 rfl Try.ntmps43 rfl rfl ?_
  try refine nc ?_
  try refine nc ?_
  refine call_rule (by kernel_rfl) (isNaN_calls x w) fun v w1 ⟨hv, hb⟩ => ?_
  subst hv
  replace H := H.call hb
  try refine nc ?_
  refine call_rule (by kernel_rfl) (isNaN_calls y w1) fun v w2 ⟨hv, hb⟩ => ?_
  subst hv
  replace H := H.call hb
  try refine nc ?_
  try refine nc ?_
  refine cond_no rfl ?_
  try refine nc ?_
  try refine nc ?_
  refine cond_no rfl ?_
  try refine nc ?_
  try refine nc ?_
  refine cond_of (fun hc => ?_) (fun hc => ?_)
  · have hlt := of_decide_eq_true hc
    try refine nc ?_
    try refine nc ?_
    refine ret_of [_] ⟨rfl, trivial⟩ ⟨_, rfl, ?_, H.frame⟩
    unfold cmpI; rw [if_pos hlt]; rfl
  · have hlt := of_decide_eq_false hc
    try refine nc ?_
    try refine nc ?_
    refine cond_of (fun hc => ?_) (fun hc => ?_)
    · have hgt := of_decide_eq_true hc
      try refine nc ?_
      try refine nc ?_
      refine ret_of [_] ⟨rfl, trivial⟩ ⟨_, rfl, ?_, H.frame⟩
      unfold cmpI; rw [if_neg hlt, if_pos hgt]; rfl
    · have hgt := of_decide_eq_false hc
      try refine nc ?_
      try refine nc ?_
      refine ret_of [_] ⟨rfl, trivial⟩ ⟨_, rfl, ?_, H.frame⟩
      unfold cmpI; rw [if_neg hlt, if_neg hgt]; rfl

variable {ok : Nat → Prop} {w0 w : World} {L : List Eng.Item}

/-- The first of two numbers that is not 0. -/
theorem Or2_own {g : Nat} {x y : Int} {t : TypeId} (H : Eng.Own ok w0 w L) (i : Nat) (hi : L[i]? = some (.blk g [.int .i64 x, .int .i64 y] t)) :
    Calls Try.prog 42 #[.slice (some ⟨g, 0, none⟩) 2 2] w fun e w' => ∃ v, e = .returned v ∧ (v = .int .i64 (if x ≠ 0 then x else y) ∧ Eng.Own ok w0 w' L) := by
  refine enter (args := [.slice (some ⟨g, 0, none⟩) 2 2]) Try.func42 rfl Try.ntmps42 rfl rfl ?_
  try refine nc ?_
  try refine nc ?_
  try refine nc ?_
  refine loop_rule (fun k e w => (∃ j : Nat, j + k = 2 ∧ e = [(3, .int .i64 0), (6, .slice (some ⟨g, 0, none⟩) 2 2), (7, .int .i64 2), (8, .int .i64 (j : Nat))] ∧ (0 < j → x = 0) ∧ (1 < j → y = 0) ∧ Eng.Own ok w0 w L)) 2 [(3, .int .i64 0), (6, .slice (some ⟨g, 0, none⟩) 2 2), (7, .int .i64 2), (8, .int .i64 ((0 : Nat) : Int))] ⟨rfl, rfl, rfl, rfl, trivial⟩ ⟨0, rfl, rfl, by omega, by omega, H⟩ ?_
  intro k e w ⟨j, hjk, he, hx, hy, H⟩
  subst he
  try refine nc ?_
  try refine nc ?_
  refine cond_of (fun hc => ?_) (fun hc => ?_)
  · have hlt : j < 2 := by have := of_decide_eq_true hc; omega
    try refine nc ?_
    refine indexAddr_rule (e := 3) 1 j (by kernel_rfl) (by kernel_rfl) (fun _ => hlt) ?_
    rw [add_at]
    have h01 : j = 0 ∨ j = 1 := by omega
    rcases h01 with h0 | h0
    · subst h0
      refine own_load H i hi (by kernel_rfl) (j := 0 + 0 * 1) (v := .int .i64 x) rfl ?_
      try refine nc ?_
      try refine nc ?_
      refine cond_of (fun hc => ?_) (fun hc => ?_)
      · have hne : x ≠ 0 := by simpa using hc
        try refine nc ?_
        try refine nc ?_
        refine ret_of [.int .i64 x] ⟨rfl, trivial⟩ ⟨_, rfl, by rw [if_pos hne]; rfl, H⟩
      · have he : x = 0 := by simpa using hc
        try refine nc ?_
        try refine nc ?_
        refine again_in 1 (by omega) [(3, .int .i64 0), (6, .slice (some ⟨g, 0, none⟩) 2 2), (7, .int .i64 2), (8, .int .i64 ((1 : Nat) : Int))] ⟨rfl, rfl, rfl, rfl, trivial⟩ ⟨1, by omega, rfl, fun _ => he, fun h => absurd h (by omega), H⟩
    · subst h0
      refine own_load H i hi (by kernel_rfl) (j := 0 + 1 * 1) (v := .int .i64 y) rfl ?_
      try refine nc ?_
      try refine nc ?_
      refine cond_of (fun hc => ?_) (fun hc => ?_)
      · have hne : y ≠ 0 := by simpa using hc
        try refine nc ?_
        try refine nc ?_
        refine ret_of [.int .i64 y] ⟨rfl, trivial⟩ ⟨_, rfl, by rw [if_neg (by simp [hx (by omega)])]; rfl, H⟩
      · have he : y = 0 := by simpa using hc
        try refine nc ?_
        try refine nc ?_
        refine again_in 0 (by omega) [(3, .int .i64 0), (6, .slice (some ⟨g, 0, none⟩) 2 2), (7, .int .i64 2), (8, .int .i64 ((2 : Nat) : Int))] ⟨rfl, rfl, rfl, rfl, trivial⟩ ⟨2, by omega, rfl, fun _ => hx (by omega), fun _ => he, H⟩
  · have hge : j = 2 := by have := of_decide_eq_false hc; omega
    subst hge
    have hx := hx (by omega)
    have hy := hy (by omega)
    subst hx hy
    try refine nc ?_
    try refine nc ?_
    refine ret_of [.int .i64 0] ⟨rfl, trivial⟩ ⟨_, rfl, rfl, H⟩

def idV (e c : Int) : Value := .agg #[.int .i64 e, .int .i64 c]
def idLt (e c e' c' : Int) : Bool := decide ((if cmpI e e' ≠ 0 then cmpI e e' else cmpI c c') < 0)
set_option maxHeartbeats 1000000 in
theorem Less_calls (e c e' c' : Int) (w : World) : Calls Try.prog 27 #[idV e c, idV e' c'] w fun x w' => ∃ v, x = .returned v ∧ (v = .bool (idLt e c e' c') ∧ Bel w.heap.size w w') := by
  have H : Eng.Own (fun _ => False) w w [] := Eng.Own.nil _ w
  refine enter (args := [idV e c, idV e' c']) Try.func27 rfl Try.ntmps27 rfl rfl ?_
  try refine nc ?_
  refine own_box H [.int .i64 e, .int .i64 c] rfl fun g w1 H => ?_
  refine own_box H [.int .i64 e', .int .i64 c'] rfl fun g' w2 H => ?_
  try refine nc ?_
  refine draw_rule [] (by kernel_rfl) (by kernel_rfl) H ?_
  refine c_load 1 rfl (by kernel_rfl) (j := 0) rfl ?_
  refine c_load 0 rfl (by kernel_rfl) (j := 0) rfl ?_
  refine c_call (.int .i64 (cmpI e e')) (by kernel_rfl) (fun _ w _ => Compare_calls e e' w) ?_
  refine c_load 1 rfl (by kernel_rfl) (j := 1) rfl ?_
  refine c_load 0 rfl (by kernel_rfl) (j := 1) rfl ?_
  refine c_call (.int .i64 (cmpI c c')) (by kernel_rfl) (fun _ w _ => Compare_calls c c' w) ?_
  refine c_buildSlice (e := 3) (sz := 1) (z := .int .i64 0) (cs := [.int .i64 (cmpI e e'), .int .i64 (cmpI c c')]) (by kernel_rfl) (by kernel_rfl) (by kernel_rfl) rfl rfl rfl rfl ?_
  intro g3
  refine c_callOwn (fun v L' => v = .int .i64 (if cmpI e e' ≠ 0 then cmpI e e' else cmpI c c') ∧ L' = [.blk g3 [.int .i64 (cmpI e e'), .int .i64 (cmpI c c')] 3, .blk g' [.int .i64 e', .int .i64 c'] 34, .blk g [.int .i64 e, .int .i64 c] 34]) rfl (by kernel_rfl) (fun v L' h => by rw [h.2]; exact List.Sublist.refl _) (fun w H => (Or2_own H 0 rfl).mono fun x w' ⟨v, hv, h, H⟩ => ⟨v, hv, _, ⟨h, rfl⟩, H⟩) ?_
  rintro v L' ⟨rfl, rfl⟩
  intro w3 H
  try refine nc ?_
  try refine nc ?_
  refine ret_of [_] ⟨rfl, trivial⟩ ⟨_, rfl, ?_, H.frame⟩
  rfl

/-- A place: an id, a sender. -/
abbrev Pl := Int × Int × Int
def plC (p : Pl) : List Value := [.int .i64 p.1, .int .i64 p.2.1, .int .i64 p.2.2]
def plV (p : Pl) : Value := .agg (plC p).toArray
def plLt (p q : Pl) : Bool := idLt p.1 p.2.1 q.1 q.2.1
def plCmp (p q : Pl) : Int := if plLt p q then -1 else if plLt q p then 1 else cmpI p.2.2 q.2.2
set_option maxHeartbeats 1000000 in
theorem against_calls (p q : Pl) (w : World) : Calls Try.prog 50 #[plV p, plV q] w fun x w' => ∃ v, x = .returned v ∧ (v = .int .i64 (plCmp p q) ∧ Bel w.heap.size w w') := by
  have H : Eng.Own (fun _ => False) w w [] := Eng.Own.nil _ w
  refine enter (args := [plV p, plV q]) Try.func50 rfl Try.ntmps50 rfl rfl ?_
  try refine nc ?_
  refine own_box H (plC p) rfl fun g w1 H => ?_
  refine own_box H (plC q) rfl fun g' w2 H => ?_
  try refine nc ?_
  try refine nc ?_
  refine own_loadA (m := 2) H 1 rfl (by kernel_rfl) (by kernel_rfl) [.int .i64 p.1, .int .i64 p.2.1] rfl rfl ?_
  refine own_loadA (m := 2) H 0 rfl (by kernel_rfl) (by kernel_rfl) [.int .i64 q.1, .int .i64 q.2.1] rfl rfl ?_
  refine call_rule (by kernel_rfl) (Less_calls p.1 p.2.1 q.1 q.2.1 w2) fun v w3 ⟨hv, hb⟩ => ?_
  subst hv
  replace H := H.call hb
  try refine nc ?_
  try refine nc ?_
  refine cond_of (fun hc => ?_) (fun hc => ?_)
  · try refine nc ?_
    try refine nc ?_
    refine ret_of [_] ⟨rfl, trivial⟩ ⟨_, rfl, ?_, H.frame⟩
    unfold plCmp plLt; rw [if_pos hc]; rfl
  · try refine nc ?_
    refine own_loadA (m := 2) H 0 rfl (by kernel_rfl) (by kernel_rfl) [.int .i64 q.1, .int .i64 q.2.1] rfl rfl ?_
    refine own_loadA (m := 2) H 1 rfl (by kernel_rfl) (by kernel_rfl) [.int .i64 p.1, .int .i64 p.2.1] rfl rfl ?_
    refine call_rule (by kernel_rfl) (Less_calls q.1 q.2.1 p.1 p.2.1 w3) fun v w4 ⟨hv, hb⟩ => ?_
    subst hv
    replace H := H.call hb
    try refine nc ?_
    try refine nc ?_
    refine cond_of (fun hc2 => ?_) (fun hc2 => ?_)
    · try refine nc ?_
      try refine nc ?_
      refine ret_of [_] ⟨rfl, trivial⟩ ⟨_, rfl, ?_, H.frame⟩
      unfold plCmp plLt; rw [if_neg (by rw [hc]; simp), if_pos hc2]; rfl
    · try refine nc ?_
      try refine nc ?_
      refine own_load H 1 rfl (by kernel_rfl) (j := 2) rfl ?_
      refine own_load H 0 rfl (by kernel_rfl) (j := 2) rfl ?_
      refine call_rule (by kernel_rfl) (Compare_calls p.2.2 q.2.2 w4) fun v w5 ⟨hv, hb⟩ => ?_
      subst hv
      replace H := H.call hb
      try refine nc ?_
      try refine nc ?_
      refine ret_of [_] ⟨rfl, trivial⟩ ⟨_, rfl, ?_, H.frame⟩
      unfold plCmp plLt; rw [if_neg (by rw [hc]; simp), if_neg (by rw [hc2]; simp)]; rfl
end Go.Proofs.Ytipoblinefamgaa.Cut
