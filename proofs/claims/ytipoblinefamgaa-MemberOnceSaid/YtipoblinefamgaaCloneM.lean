/- slices.Clone at ints and at terms, for the printer. -/
import Derived.Test.YtipoblinefamgaaMan11
namespace Go.Proofs.Ytipoblinefamgaa.G
open Go.RowKit Go.Eng Go.Proofs Go.Proofs.Ytipoblinefamgaa.Cut
set_option linter.unusedVariables false
def slices_Clone_int_int.f (x0 : List Int) : Option (List Int) := givenM (x0.length ≤ 8796093022208) (some x0)
def slices_Clone_term_Term_term_Term.f (x0 : List (List UInt8)) : Option (List (List UInt8)) := givenM (x0.length ≤ 8796093022208) (some x0)
set_option maxHeartbeats 1000000 in
theorem slices_Clone_int_int_ok {ok : Nat → Prop} {w : World} {u0 : Value} {x0 r : List Int} (hu : slR (tInt .i64) w ok u0 x0) (h : slices_Clone_int_int.f x0 = some r) :
    Calls Try.prog 23 #[u0] w fun e w' => ∃ v, e = .returned v ∧ (slR (tInt .i64) w' (fun b => ok b ∨ w.heap.size ≤ b) v r ∧ Bel w.heap.size w w') := by
  obtain ⟨hl, h⟩ := givenS h
  cases h
  have H : Eng.Own ok w w [.dat (dSl (tInt .i64) u0 x0)] := own_one hu
  obtain ⟨A, c, hA, hc, h0⟩ := id hu
  subst hA
  refine enter (args := [.slice A x0.length c]) Try.func23 rfl Try.ntmps23 rfl rfl ?_
  try refine nc ?_
  try refine nc ?_
  refine eqlSl_rule (by kernel_rfl) ?_
  try refine nc ?_
  try refine nc ?_
  cases A with
  | none =>
    have hx : x0 = [] := by
      rcases h0 with ⟨h, _⟩ | ⟨a, h, _⟩
      · exact h
      · cases h
    subst hx
    refine cond_yes rfl ?_
    try refine nc ?_
    try refine nc ?_
    refine ret_of [.slice none 0 0] ⟨rfl, trivial⟩ ⟨_, rfl, ⟨none, 0, rfl, Nat.le_refl _, .inl ⟨rfl, fun _ => rfl⟩⟩, H.frame⟩
  | some a =>
    refine cond_no rfl ?_
    try refine nc ?_
    try refine nc ?_
    refine own_buildEmpty (e := 3) (sz := 1) H (by kernel_rfl) (by kernel_rfl) fun v w1 H => ?_
    replace H := H.addDat (dRows (tInt .i64) [] []) rfl
    refine own_appendD (k := tInt .i64) (z := .int .i64 0) 8 H 1 0 2 rfl rfl rfl rfl (by kernel_rfl) (by kernel_rfl) rfl rfl (by show (0 + x0.length) * 8 ≤ _; omega) rfl fun v' cs w2 H => ?_
    try refine nc ?_
    try refine nc ?_
    have hr := H.outR (k := tInt .i64) 1 0 rfl rfl rfl
    refine ret_of [v'] ⟨rfl, trivial⟩ ⟨_, rfl, ?_, H.frame⟩
    have := rowOut_sl hr H.frame
    show slR (tInt .i64) w2 _ v' x0
    simpa using this
theorem slices_Clone_term_Term_term_Term_own {ok : Nat → Prop} {w0 w : World} {L : List Eng.Item} {A : Option Addr} {c : Nat} {e : TypeId} {xs r : List (List UInt8)} {cells : List Value} (H : Eng.Own ok w0 w L) (i j : Nat) (hi : L[i]? = some (.row (.slice A xs.length c) e 1 xs.length cells)) (hj : L[j]? = some (.dat (dRows tStr xs cells))) (h : slices_Clone_term_Term_term_Term.f xs = some r) :
    Calls Try.prog 37 #[.slice A xs.length c] w fun e w' => ∃ v, e = .returned v ∧ ∃ (A' : Option Addr) (c' : Nat), v = .slice A' r.length c' ∧ Eng.Own ok w0 w' (.dat (dSl tStr (.slice A' r.length c') r) :: L) := by
  obtain ⟨hl, h⟩ := givenS h
  cases h
  have hr : slR tStr w (fun _ => True) (.slice A xs.length c) xs := H.rowSlRin (k := tStr) i hi (H.dat j hj) (fun _ _ => trivial) (fun _ _ => trivial)
  refine (Clone_calls hr hl).mono fun e w' ⟨v, he, hv, hb⟩ => ?_
  obtain ⟨A', c', hA, _⟩ := id hv
  subst hA
  exact ⟨_, he, A', c', rfl, H.callDats hb [dSl tStr (.slice A' xs.length c') xs] ⟨(dSl tStr (.slice A' xs.length c') xs).mono (ok := fun b => w.heap.size ≤ b) (fun b hb => .inr hb) hv, trivial⟩⟩
end Go.Proofs.Ytipoblinefamgaa.G
