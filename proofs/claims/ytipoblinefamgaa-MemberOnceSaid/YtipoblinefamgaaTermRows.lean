/- Rows of terms: whether two are one, a copy, a beginning; rows of texts of them. -/
import Derived.Test.YtipoblinefamgaaCmp
namespace Go.Proofs.Ytipoblinefamgaa.Cut
open Go.RowKit Go.Eng Go.Proofs
set_option linter.unusedVariables false
set_option maxRecDepth 20000

variable {ok : Nat → Prop} {w0 w : World} {L : List Eng.Item}
abbrev Tx := List UInt8

theorem own_two {ok : Nat → Prop} {w : World} {a b : Dat} (ha : a.φ w ok) (hb : b.φ w ok) : Eng.Own ok w w [.dat a, .dat b] := Eng.Own.start (ds := [a, b]) (by
  intro d hd
  rcases List.mem_cons.1 hd with h | h
  · subst h; exact ha
  · rw [List.mem_singleton] at h; subst h; exact hb)
theorem own_one {ok : Nat → Prop} {w : World} {a : Dat} (ha : a.φ w ok) : Eng.Own ok w w [.dat a] := Eng.Own.start (ds := [a]) (by
  intro d hd
  rw [List.mem_singleton] at hd; subst hd; exact ha)

set_option maxHeartbeats 1000000 in
theorem Equal_calls {ok : Nat → Prop} {w : World} {u v : Value} {xs ys : List Tx} (hu : slR tStr w ok u xs) (hv : slR tStr w ok v ys) (hl : xs.length ≤ 140737488355328) :
    Calls Try.prog 82 #[u, v] w fun e w' => ∃ r, e = .returned r ∧ (r = .bool (decide (xs = ys)) ∧ Bel w.heap.size w w') := by
  have H : Eng.Own ok w w [.dat (dSl tStr u xs), .dat (dSl tStr v ys)] := own_two hu hv
  obtain ⟨A, c, hA, hc⟩ := H.sl 0 rfl
  obtain ⟨B, d, hB, hd⟩ := H.sl 1 rfl
  subst hA hB
  refine enter (args := [.slice A xs.length c, .slice B ys.length d]) Try.func82 rfl Try.ntmps82 rfl rfl ?_
  try refine nc ?_
  try refine nc ?_
  refine cond_of (fun hc => ?_) (fun hc => ?_)
  · have hne : ¬ xs = ys := fun e => by subst e; simp at hc
    try refine nc ?_
    try refine nc ?_
    refine ret_of [.bool false] ⟨rfl, trivial⟩ ⟨_, rfl, ?_, H.frame⟩
    rw [decide_eq_false hne]; rfl
  · have hlen : xs.length = ys.length := by
      have : ((xs.length : Int) != (ys.length : Int)) = false := hc
      simp at this; omega
    try refine nc ?_
    try refine nc ?_
    refine loop_rule (fun k e w' => ∃ i : Nat, i + k = xs.length ∧ e = [(0, .slice A xs.length c), (1, .slice B ys.length d), (12, .int .i64 (xs.length : Nat)), (13, .int .i64 (i : Int))] ∧ xs.take i = ys.take i ∧ Eng.Own ok w w' [.dat (dSl tStr (.slice A xs.length c) xs), .dat (dSl tStr (.slice B ys.length d) ys)]) xs.length [(0, .slice A xs.length c), (1, .slice B ys.length d), (12, .int .i64 (xs.length : Nat)), (13, .int .i64 ((0 : Nat) : Int))] ⟨rfl, rfl, rfl, rfl, trivial⟩ ⟨0, by omega, rfl, rfl, H⟩ ?_
    rintro k e w' ⟨i, hik, rfl, ht, H⟩
    try refine nc ?_
    try refine nc ?_
    refine cond_of (fun hc => ?_) (fun hc => ?_)
    · have hlt : i < xs.length := by have := of_decide_eq_true hc; omega
      try refine nc ?_
      try refine nc ?_
      obtain ⟨a, c', cs, hA, hR, H⟩ := H.elem 0 rfl i hlt
      obtain ⟨b, d', ds, hB, hR2, H⟩ := H.elem 3 rfl i (by omega)
      cases hA; cases hB
      have hR : cs = [.string (bs xs[i])] := hR
      have hR2 : ds = [.string (bs (ys[i]'(by omega)))] := hR2
      subst hR hR2
      refine draw_rule [] (by kernel_rfl) (by kernel_rfl) H ?_
      refine c_indexAddr (e := 45) 1 i (by kernel_rfl) (by kernel_rfl) (fun _ => hlt) ?_
      refine c_loadD 2 rfl 0 (by kernel_rfl) rfl ?_
      refine c_indexAddr (e := 45) 1 i (by kernel_rfl) (by kernel_rfl) (fun _ => by omega) ?_
      refine c_loadD 0 rfl 0 (by kernel_rfl) rfl ?_
      refine fun w2 H => ?_
      try refine nc ?_
      refine cond_of (fun hd => ?_) (fun hd => ?_)
      · have hne : ¬ xs = ys := by
          intro e
          subst e
          simp at hd
        try refine nc ?_
        try refine nc ?_
        refine ret_of [.bool false] ⟨rfl, trivial⟩ ⟨_, rfl, ?_, H.frame⟩
        rw [decide_eq_false hne]; rfl
      · have hel : xs[i] = ys[i]'(by omega) := by
          simp [bs_toList] at hd
          exact hd
        try refine nc ?_
        try refine nc ?_
        refine again_in (k - 1) (by omega) [(0, .slice (some a) xs.length c), (1, .slice (some b) ys.length d), (12, .int .i64 (xs.length : Nat)), (13, .int .i64 ((i + 1 : Nat) : Int))] ⟨rfl, rfl, rfl, ?_, trivial⟩ ⟨i + 1, by omega, rfl, ?_, H.tail.tail.tail.tail⟩
        · show some (Value.int .i64 (IntKind.i64.wrap ((i : Int) + 1))) = _
          rw [Eng.i64_id (by omega) (by omega)]; rfl
        · rw [List.take_add_one, List.take_add_one, ht, List.getElem?_eq_getElem hlt, List.getElem?_eq_getElem (by omega), hel]
    · have hge : i = xs.length := by have := of_decide_eq_false hc; omega
      have hxy : xs = ys := by
        have h := ht
        rw [hge, List.take_length, List.take_of_length_le (by omega)] at h
        exact h
      try refine nc ?_
      try refine nc ?_
      refine ret_of [.bool true] ⟨rfl, trivial⟩ ⟨_, rfl, ?_, H.frame⟩
      rw [decide_eq_true hxy]; rfl

/-- Whether a row is another one's beginning. -/
def beg (xs ys : List Tx) : Bool := decide (xs.length ≤ ys.length) && decide (xs = ys.take xs.length)
set_option maxHeartbeats 1000000 in
theorem Begins_calls {ok : Nat → Prop} {w : World} {u v : Value} {xs ys : List Tx} (hu : slR tStr w ok u xs) (hv : slR tStr w ok v ys) (hl : xs.length ≤ 140737488355328) :
    Calls Try.prog 69 #[u, v] w fun e w' => ∃ r, e = .returned r ∧ (r = .bool (beg xs ys) ∧ Bel w.heap.size w w') := by
  have H : Eng.Own ok w w [.dat (dSl tStr u xs), .dat (dSl tStr v ys)] := own_two hu hv
  obtain ⟨A, c, hA, hc⟩ := H.sl 0 rfl
  obtain ⟨B, d, hB, hd⟩ := H.sl 1 rfl
  subst hA hB
  refine enter (args := [.slice A xs.length c, .slice B ys.length d]) Try.func69 rfl Try.ntmps69 rfl rfl ?_
  by_cases hle : xs.length ≤ ys.length
  · have e1 : decide ((xs.length : Int) ≤ (ys.length : Int)) = true := decide_eq_true (by omega)
    try refine nc ?_
    try refine nc ?_
    refine piece_rule 1 0 xs.length (e := 45) (by kernel_rfl) (by kernel_rfl) rfl ⟨_, rfl⟩ (fun _ => Nat.zero_le _) (fun _ => hle) hd ?_
    have hp := slR_piece hv (Nat.zero_le xs.length) hle
    rw [List.drop_zero, Nat.sub_zero] at hp
    have e2 : (decide ((xs.length : Int) ≤ (ys.length : Int)) && true) = true := by rw [e1]; rfl
    refine call_yes e2 (by kernel_rfl) (Equal_calls hu hp hl) fun v w1 ⟨hv, hb⟩ => ?_
    subst hv
    replace H := H.call hb
    try refine nc ?_
    try refine nc ?_
    refine ret_of [_] ⟨rfl, trivial⟩ ⟨_, rfl, ?_, H.frame⟩
    show Value.bool (bif decide ((xs.length : Int) ≤ (ys.length : Int)) then decide (xs = ys.take xs.length) else false) = _
    rw [e1]; unfold beg; rw [decide_eq_true hle]; rfl
  · have e1 : decide ((xs.length : Int) ≤ (ys.length : Int)) = false := decide_eq_false (by omega)
    try refine nc ?_
    try refine nc ?_
    have e2 : (decide ((xs.length : Int) ≤ (ys.length : Int)) && true) = false := by rw [e1]; rfl
    refine piece_rule 1 0 xs.length (e := 45) (by kernel_rfl) (by kernel_rfl) rfl ⟨_, rfl⟩ (fun h => absurd (e2.symm.trans h) (by simp)) (fun h => absurd (e2.symm.trans h) (by simp)) hd ?_
    refine call_skip (.bool false) e2 ?_
    try refine nc ?_
    try refine nc ?_
    refine ret_of [_] ⟨rfl, trivial⟩ ⟨_, rfl, ?_, H.frame⟩
    show Value.bool (bif decide ((xs.length : Int) ≤ (ys.length : Int)) then false else false) = _
    rw [e1]; unfold beg; rw [decide_eq_false hle]; rfl

set_option maxHeartbeats 1000000 in
theorem Clone_calls {ok : Nat → Prop} {w : World} {u : Value} {xs : List Tx} (hu : slR tStr w ok u xs) (hl : xs.length ≤ 8796093022208) :
    Calls Try.prog 37 #[u] w fun e w' => ∃ r, e = .returned r ∧ (slR tStr w' (fun b => w.heap.size ≤ b) r xs ∧ Bel w.heap.size w w') := by
  have H : Eng.Own ok w w [.dat (dSl tStr u xs)] := own_one hu
  obtain ⟨A, c, hA, hc, h0⟩ := id hu
  subst hA
  refine enter (args := [.slice A xs.length c]) Try.func37 rfl Try.ntmps37 rfl rfl ?_
  try refine nc ?_
  try refine nc ?_
  refine eqlSl_rule (by kernel_rfl) ?_
  try refine nc ?_
  try refine nc ?_
  cases A with
  | none =>
    have hx : xs = [] := by
      rcases h0 with ⟨h, _⟩ | ⟨a, h, _⟩
      · exact h
      · cases h
    subst hx
    refine cond_yes rfl ?_
    try refine nc ?_
    try refine nc ?_
    refine ret_of [.slice none 0 0] ⟨rfl, trivial⟩ ⟨_, rfl, ⟨none, 0, rfl, Nat.le_refl _, .inl ⟨rfl, fun _ => rfl⟩⟩, H.frame⟩
  | some a =>
    refine cond_no rfl ?_
    try refine nc ?_
    try refine nc ?_
    refine own_buildEmpty (e := 45) (sz := 1) H (by kernel_rfl) (by kernel_rfl) fun v w1 H => ?_
    refine own_appendSl (k := tStr) (e := 45) (z := .string ⟨#[]⟩) (by_ := 16) H 0 1 rfl rfl (by kernel_rfl) (by kernel_rfl) rfl rfl (by omega) (by omega) ?_
    intro v' w2 news hn H
    have := strs_of hn
    subst this
    try refine nc ?_
    try refine nc ?_
    refine ret_of [v'] ⟨rfl, trivial⟩ ⟨_, rfl, ?_, H.frame⟩
    have e1 : 0 + xs.length = xs.length := Nat.zero_add _
    rw [e1] at H
    exact H.rowSlRin (k := tStr) (okr := fun _ => False) 0 rfl (rows_strs xs) (fun _ h => h.elim) (fun _ h => h)
end Go.Proofs.Ytipoblinefamgaa.Cut
