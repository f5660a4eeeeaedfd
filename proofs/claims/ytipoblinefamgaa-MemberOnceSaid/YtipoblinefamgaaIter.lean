/- A map's keys as an iterator; what comes of one, as a list. -/
import Derived.Test.YtipoblinefamgaaCmp
namespace Go.Proofs.Ytipoblinefamgaa.Cut
open Go.RowKit Go.Eng Go.Proofs
set_option linter.unusedVariables false
set_option maxRecDepth 20000

variable {ok : Nat → Prop} {w0 w : World} {L : List Eng.Item}

def plsC (ps : List Pl) : List Value := ps.flatMap plC
theorem plsC_append (a b : List Pl) : plsC (a ++ b) = plsC a ++ plsC b := by simp [plsC]
def keyS (l : List (Pl × Value)) (ks : List Pl) : Prop := ks.Perm (l.map (·.1))
def keySp (l : List (Pl × Value)) (pre : List Pl) : Prop := ∃ rest, (pre ++ rest).Perm (l.map (·.1))

set_option maxHeartbeats 2000000 in
theorem keys_iter {b g : Nat} {l : List (Pl × Value)} : IterAt Try.prog ok w0 66 #[.pointer (some ⟨b, 0, none⟩)] (fun p : Pl => [plV p]) (keyS l) (keySp l) [.blk b [.map (some g)] 113, .obj g (mapOk plV l)] := by
  intro lp I Ix hY W L h0 H
  obtain ⟨es, cl, hit, hes, H⟩ := H.openMap 1 rfl
  replace H : Eng.Own ok w0 W (.blk b [.map (some g)] 113 :: .obj g (· = .map es cl) :: L) := H
  have ea : (#[Value.func (.yield lp) #[] #[]] ++ #[Value.pointer (some ⟨b, 0, none⟩)] : Array Value) = [Value.func (.yield lp) #[] #[], .pointer (some ⟨b, 0, none⟩)].toArray := rfl
  rw [ea]
  refine enter (args := [.func (.yield lp) #[] #[], .pointer (some ⟨b, 0, none⟩)]) Try.func66 rfl Try.ntmps66 rfl rfl ?_
  try refine nc ?_
  refine own_load H 0 rfl (by kernel_rfl) (j := 0) rfl ?_
  refine rangeMap_rule (kt := 106) (et := 36) (by kernel_rfl) H 1 rfl fun r w1 H => ?_
  try refine nc ?_
  refine loop_rule (fun k e w => ∃ pre rest seen L', (pre ++ rest.map (·.1)).Perm (l.map (·.1)) ∧ rest.length = k ∧ ItOk plV es cl seen rest ∧ I pre L' ∧ e = [(0, .func (.yield lp) #[] #[]), (5, .pointer (some ⟨r, 0, none⟩))] ∧
      Eng.Own ok w0 w (.obj r (· = .mapIter (some g) cl seen cl) :: .blk b [.map (some g)] 113 :: .obj g (· = .map es cl) :: L')) l.length [(0, .func (.yield lp) #[] #[]), (5, .pointer (some ⟨r, 0, none⟩))] ⟨rfl, rfl, trivial⟩
    ⟨[], l, #[], L, List.Perm.refl _, rfl, hit, h0, rfl, H⟩ ?_
  rintro k e w ⟨pre, rest, seen, L', hperm, hk, hit, hI, rfl, H⟩
  try refine nc ?_
  refine nextMap_rule H 2 0 rfl rfl hit (fun hr => ?_) (fun A p B seen' w2 hr hit' hent H => ?_)
  · subst hr
    try refine nc ?_
    try refine nc ?_
    refine cond_no rfl ?_
    try refine nc ?_
    try refine nc ?_
    refine ret_of [] trivial ⟨_, rfl, .inl ⟨pre, L', ?_, hI, ?_⟩⟩
    · simpa [keyS] using hperm
    · exact (H.tail.shutMap 1 rfl hit hes)
  · subst hr
    replace H : Eng.Own ok w0 w2 (.obj r (· = .mapIter (some g) cl seen' cl) :: .blk b [.map (some g)] 113 :: .obj g (· = .map es cl) :: L') := H
    try refine nc ?_
    try refine nc ?_
    refine cond_yes rfl ?_
    try refine nc ?_
    try refine nc ?_
    refine entry_rule H 2 0 rfl rfl hent ?_
    refine own_alloc (z := plV (0, 0, 0)) H (by kernel_rfl) (plC (0, 0, 0)) rfl fun q w3 H => ?_
    refine own_storeA (m := 3) H 0 rfl (by kernel_rfl) (plC p.1) rfl rfl (by intro v hv; simp [plC] at hv; rcases hv with rfl | rfl | rfl <;> rfl) (by decide) fun w4 H => ?_
    replace H : Eng.Own ok w0 w4 (.blk q (plC p.1) 106 :: .obj r (· = .mapIter (some g) cl seen' cl) :: .blk b [.map (some g)] 113 :: .obj g (· = .map es cl) :: L') := H
    try refine nc ?_
    refine own_loadA (m := 3) H 0 rfl (by kernel_rfl) (by kernel_rfl) (plC p.1) rfl rfl ?_
    have hp2 : (pre ++ p.1 :: (A ++ B).map (·.1)).Perm (l.map (·.1)) := by
      refine List.Perm.trans ?_ hperm
      refine List.Perm.append_left _ ?_
      simp only [List.map_append, List.map_cons]
      exact List.perm_middle.symm
    have hsp : keySp l (pre ++ [p.1]) := ⟨(A ++ B).map (·.1), by simpa using hp2⟩
    refine yield_rule (hY [.blk q (plC p.1) 106, .obj r (· = .mapIter (some g) cl seen' cl), .blk b [.map (some g)] 113, .obj g (· = .map es cl)] pre p.1 L' w4 hsp hI (Eng.Own.swap (A := [_, _, _, _]) H)) fun v w5 hv => ?_
    rcases hv with ⟨rfl, L2, hI2, H⟩ | ⟨rfl, L2, hI2, H⟩
    · replace H : Eng.Own ok w0 w5 (.blk q (plC p.1) 106 :: .obj r (· = .mapIter (some g) cl seen' cl) :: .blk b [.map (some g)] 113 :: .obj g (· = .map es cl) :: L2) := Eng.Own.swap (B := [_, _, _, _]) H
      try refine nc ?_
      try refine nc ?_
      refine cond_no rfl ?_
      try refine nc ?_
      refine again_in (A ++ B).length (by rw [← hk]; simp) [(0, .func (.yield lp) #[] #[]), (5, .pointer (some ⟨r, 0, none⟩))] ⟨rfl, rfl, trivial⟩ ⟨pre ++ [p.1], A ++ B, seen', L2, by simpa using hp2, rfl, hit', hI2, rfl, H.tail⟩
    · replace H : Eng.Own ok w0 w5 (.blk q (plC p.1) 106 :: .obj r (· = .mapIter (some g) cl seen' cl) :: .blk b [.map (some g)] 113 :: .obj g (· = .map es cl) :: L2) := Eng.Own.swap (B := [_, _, _, _]) H
      try refine nc ?_
      try refine nc ?_
      refine cond_yes rfl ?_
      try refine nc ?_
      refine ret_of [] trivial ⟨_, rfl, .inr ⟨pre ++ [p.1], L2, hsp, hI2, ?_⟩⟩
      exact (H.tail.tail.shutMap 1 rfl hit' hes)

/-- What an iterator over places hands out, as a list of the call's own. -/
def gotP (ok : Nat → Prop) (w0 : World) (S : List Pl → Prop) (L : List Eng.Item) (v : Value) (w : World) : Prop := ∃ xs, S xs ∧ Eng.Own ok w0 w (.row v 106 3 xs.length (plsC xs) :: L)
set_option maxHeartbeats 2000000 in
theorem appendSeq_own {gf : FuncId} {lb : Array Value} {S Sp : List Pl → Prop} {M : List Eng.Item} (hb : bodyB Try.prog gf = true) (hit : IterAt Try.prog ok w0 gf lb (fun p : Pl => [plV p]) S Sp M) (hSp : ∀ pre, Sp pre → pre.length ≤ 1000000000) (H : Eng.Own ok w0 w (M ++ L)) :
    Calls Try.prog 79 #[.slice none 0 0, .func (.func gf) #[] lb] w fun e w' => ∃ v, e = .returned v ∧ gotP ok w0 S (M ++ L) v w' := by
  refine enter (args := [.slice none 0 0, .func (.func gf) #[] lb]) Try.func79 rfl Try.ntmps79 rfl rfl ?_
  try refine nc ?_
  refine own_box H [.slice none 0 0] rfl fun B w1 H => ?_
  try refine nc ?_
  try refine nc ?_
  have H0 : Eng.Own ok w0 w1 (M ++ (.blk B [.slice none 0 0] 114 :: .row (.slice none 0 0) 106 3 0 [] :: L)) := by
    refine (H.nilRow 106 3).perm ?_
    refine (List.Perm.swap _ _ _).trans ?_
    exact (List.perm_append_comm_assoc [_, _] M L)
  refine range_rule (I := fun pre L1 => ∃ v, L1 = .blk B [v] 114 :: .row v 106 3 pre.length (plsC pre) :: L) (Ix := fun _ _ _ => False) rfl hb (fun _ => rfl) rfl hit H0 ⟨_, rfl⟩ ?_ ?_ ?_
  · rintro l φ T pre x L1 W hφ hsp ⟨v, rfl⟩ H
    try refine nc ?_
    refine own_alloc (z := plV (0, 0, 0)) H (by kernel_rfl) (plC (0, 0, 0)) rfl fun q w3 H => ?_
    refine own_storeA (m := 3) H 0 rfl (by kernel_rfl) (plC x) rfl rfl (by intro v hv; simp [plC] at hv; rcases hv with rfl | rfl | rfl <;> rfl) (by decide) fun w4 H => ?_
    refine rGo_in (.blk q (plC x) 106 :: .blk B [v] 114 :: .row v 106 3 pre.length (plsC pre) :: L) H fun w5 φ2 hφ2 H => ?_
    have hl := hSp _ hsp
    simp only [List.length_append, List.length_cons, List.length_nil] at hl
    try refine nc ?_
    refine own_load H 1 rfl (by kernel_rfl) (j := 0) rfl ?_
    refine own_loadA (m := 3) H 0 rfl (by kernel_rfl) (by kernel_rfl) (plC x) rfl rfl ?_
    refine own_buildSlice (e := 106) (sz := 3) (z := plV (0, 0, 0)) (cs := plC x) H (by kernel_rfl) (by kernel_rfl) (by kernel_rfl) rfl rfl rfl rfl ?_
    intro g w6 H
    refine own_appendBlk (e := 106) (sz := 3) (z := plV (0, 0, 0)) (by_ := 24) (m := 1) H 3 0 rfl rfl (by kernel_rfl) (by kernel_rfl) rfl rfl rfl (by intro v hv; simp [plC] at hv; rcases hv with rfl | rfl | rfl <;> rfl) (by omega) (by omega) ?_
    intro v' w7 H
    obtain ⟨A', c', hv', _, _⟩ := H.rowSl 3 rfl
    subst hv'
    refine own_store (t := 114) H 2 rfl (by kernel_rfl) (j := 0) rfl rfl ?_
    intro w8 H
    try refine nc ?_
    refine rEnd_in (.blk B [.slice A' (pre.length + 1) c'] 114 :: .row (.slice A' (pre.length + 1) c') 106 3 (pre ++ [x]).length (plsC (pre ++ [x])) :: L) ⟨_, rfl⟩ ?_
    have e1 : plsC (pre ++ [x]) = plsC pre ++ plC x := by rw [plsC_append]; simp [plsC]
    have e2 : (pre ++ [x]).length = pre.length + 1 := by simp
    rw [e1, e2]
    exact H.tail.tail
  · rintro D W L1 xs hS ⟨v, rfl⟩ H
    replace H : Eng.Own ok w0 W (.obj D isDef :: (.blk B [v] 114 :: .row v 106 3 xs.length (plsC xs) :: (M ++ L))) := H.perm (List.Perm.cons _ (List.perm_append_comm_assoc M [_, _] L))
    try refine nc ?_
    try refine nc ?_
    refine own_load H 1 rfl (by kernel_rfl) (j := 0) rfl ?_
    try refine nc ?_
    try refine nc ?_
    refine ret_own H 0 rfl fun w' H => ?_
    refine ret_of [v] ⟨rfl, trivial⟩ ⟨_, rfl, xs, hS, H.tail.tail⟩
  · intro D W L1 pre c _ h _; exact h.elim

theorem collect_own {gf : FuncId} {lb : Array Value} {S Sp : List Pl → Prop} {M : List Eng.Item} (hb : bodyB Try.prog gf = true) (hit : IterAt Try.prog ok w0 gf lb (fun p : Pl => [plV p]) S Sp M) (hSp : ∀ pre, Sp pre → pre.length ≤ 1000000000) (H : Eng.Own ok w0 w (M ++ L)) :
    Calls Try.prog 64 #[.func (.func gf) #[] lb] w fun e w' => ∃ v, e = .returned v ∧ gotP ok w0 S (M ++ L) v w' := by
  refine enter (args := [.func (.func gf) #[] lb]) Try.func64 rfl Try.ntmps64 rfl rfl ?_
  try refine nc ?_
  try refine nc ?_
  refine call_rule (by kernel_rfl) (appendSeq_own hb hit hSp H) fun v w1 hv => ?_
  try refine nc ?_
  refine ret_of [v] ⟨rfl, trivial⟩ ⟨_, rfl, hv⟩

/-- The function that goes over a map's keys. -/
theorem keys_own {g : Nat} (H : Eng.Own ok w0 w L) :
    Calls Try.prog 54 #[.map (some g)] w fun e w' => ∃ v, e = .returned v ∧ ∃ b, v = .func (.func 66) #[] #[.pointer (some ⟨b, 0, none⟩)] ∧ Eng.Own ok w0 w' (.blk b [.map (some g)] 113 :: L) := by
  refine enter (args := [.map (some g)]) Try.func54 rfl Try.ntmps54 rfl rfl ?_
  try refine nc ?_
  refine own_box H [.map (some g)] rfl fun b w1 H => ?_
  try refine nc ?_
  try refine nc ?_
  refine ret_of [_] ⟨rfl, trivial⟩ ⟨_, rfl, b, rfl, H⟩
end Go.Proofs.Ytipoblinefamgaa.Cut
