/- What one has not: cut.Missing, and what it leans on. -/
import Derived.Test.YtipoblinefamgaaTermRows
namespace Go.Proofs.Ytipoblinefamgaa.Cut
open Go.RowKit Go.Eng Go.Proofs
set_option linter.unusedVariables false
set_option maxRecDepth 20000

variable {ok : Nat → Prop} {w0 w : World} {L : List Eng.Item}

abbrev LogD := Int × List Tx
abbrev PartD := (Int × Int) × (Int × List Tx)
abbrev tLog : Ty LogD := tPair (tInt .i64) (tSl tStr)
abbrev tPart : Ty PartD := tPair (tPair (tInt .i64) (tInt .i64)) (tPair (tInt .i64) (tSl tStr))

theorem log_cells {w : World} {ok : Nat → Prop} {x : LogD} {cs : List Value} (h : tLog.R w ok x cs) : ∃ v, cs = [.int .i64 x.1, v] ∧ slR tStr w ok v x.2 := by
  obtain ⟨c, d, rfl, h1, v, rfl, h2⟩ := h
  have h1 : c = [.int .i64 x.1] := h1
  subst h1
  exact ⟨v, rfl, h2⟩
theorem log_in {w : World} {ok : Nat → Prop} {x : LogD} {v : Value} (h : slR tStr w ok v x.2) : tLog.R w ok x [.int .i64 x.1, v] := ⟨[_], [v], rfl, rfl, v, rfl, h⟩
theorem part_cells {w : World} {ok : Nat → Prop} {x : PartD} {cs : List Value} (h : tPart.R w ok x cs) : ∃ v, cs = [.int .i64 x.1.1, .int .i64 x.1.2, .int .i64 x.2.1, v] ∧ slR tStr w ok v x.2.2 := by
  obtain ⟨c, d, rfl, ⟨c1, c2, rfl, h1, h2⟩, c3, c4, rfl, h3, v, rfl, h4⟩ := h
  have h1 : c1 = [.int .i64 x.1.1] := h1
  have h2 : c2 = [.int .i64 x.1.2] := h2
  have h3 : c3 = [.int .i64 x.2.1] := h3
  subst h1 h2 h3
  exact ⟨v, rfl, h4⟩
theorem part_in {w : World} {ok : Nat → Prop} {x : PartD} {v : Value} (h : slR tStr w ok v x.2.2) : tPart.R w ok x [.int .i64 x.1.1, .int .i64 x.1.2, .int .i64 x.2.1, v] :=
  ⟨[_, _], [_, v], rfl, ⟨[_], [_], rfl, rfl, rfl⟩, [_], [v], rfl, rfl, v, rfl, h⟩

def idxOf {α : Type} (t : α → Bool) (l : List α) : Int := match l.findIdx? t with | some i => (i : Int) | none => -1

set_option maxHeartbeats 1000000 in
theorem IndexLog_own (H : Eng.Own ok w0 w L) (i : Nat) {v : Value} {ls : List LogD} (hi : L[i]? = some (.dat (dSl tLog v ls))) (hl : ls.length ≤ 140737488355328) {f : FuncId} {cap : Array Value} (t : LogD → Bool) (hb : bodyB Try.prog f = true)
    (hf : ∀ (w' : World) (x : LogD) (u : Value), Eng.Own ok w0 w' L → Calls Try.prog f ((#[] ++ [Value.agg #[.int .i64 x.1, u]].toArray) ++ cap) w' fun e w'' => ∃ r, e = .returned r ∧ (r = .bool (t x) ∧ Bel w'.heap.size w' w'')) :
    Calls Try.prog 67 #[v, .func (.func f) #[] cap] w fun e w' => ∃ r, e = .returned r ∧ (r = .int .i64 (idxOf t ls) ∧ Eng.Own ok w0 w' L) := by
  obtain ⟨A, c, hA, hc⟩ := H.sl i hi
  subst hA
  refine enter (args := [.slice A ls.length c, .func (.func f) #[] cap]) Try.func67 rfl Try.ntmps67 rfl rfl ?_
  try refine nc ?_
  try refine nc ?_
  refine loop_rule (fun k e w' => ∃ j : Nat, j + k = ls.length ∧ e = [(0, .slice A ls.length c), (1, .func (.func f) #[] cap), (7, .int .i64 (ls.length : Nat)), (8, .int .i64 (j : Int))] ∧ (∀ q (h : q < ls.length), q < j → t ls[q] = false) ∧ Eng.Own ok w0 w' L) ls.length [(0, .slice A ls.length c), (1, .func (.func f) #[] cap), (7, .int .i64 (ls.length : Nat)), (8, .int .i64 ((0 : Nat) : Int))] ⟨rfl, rfl, rfl, rfl, trivial⟩ ⟨0, by omega, rfl, fun _ _ h => by omega, H⟩ ?_
  rintro k e w' ⟨j, hjk, rfl, ht, H⟩
  try refine nc ?_
  try refine nc ?_
  refine cond_of (fun hc => ?_) (fun hc => ?_)
  · have hlt : j < ls.length := by have := of_decide_eq_true hc; omega
    try refine nc ?_
    try refine nc ?_
    obtain ⟨a, c', cs, hA, hR, H'⟩ := H.elem i hi j hlt
    cases hA
    obtain ⟨u, rfl, hu⟩ := log_cells hR
    refine indexAddr_rule (e := 88) 2 j (by kernel_rfl) (by kernel_rfl) (fun _ => hlt) ?_
    refine own_loadDA (m := 2) H' 0 rfl 0 (by kernel_rfl) (by kernel_rfl) [.int .i64 ls[j].1, u] rfl rfl ?_
    refine callV_rule hb (hf w' ls[j] u H) fun v w2 ⟨hv, hbel⟩ => ?_
    subst hv
    replace H := H.call hbel
    try refine nc ?_
    try refine nc ?_
    refine cond_of (fun hd => ?_) (fun hd => ?_)
    · try refine nc ?_
      try refine nc ?_
      refine ret_of [.int .i64 (j : Nat)] ⟨rfl, trivial⟩ ⟨_, rfl, ?_, H⟩
      have : ls.findIdx? t = some j := List.findIdx?_eq_some_iff_getElem.2 ⟨hlt, hd, fun q hq => by simpa using ht q (by omega) hq⟩
      unfold idxOf; rw [this]; rfl
    · try refine nc ?_
      try refine nc ?_
      refine again_in (k - 1) (by omega) [(0, .slice (some a) ls.length c), (1, .func (.func f) #[] cap), (7, .int .i64 (ls.length : Nat)), (8, .int .i64 ((j + 1 : Nat) : Int))] ⟨rfl, rfl, rfl, ?_, trivial⟩ ⟨j + 1, by omega, rfl, fun q hq hq2 => ?_, H⟩
      · show some (Value.int .i64 (IntKind.i64.wrap ((j : Int) + 1))) = _
        rw [Eng.i64_id (by omega) (by omega)]; rfl
      · by_cases h : q = j
        · subst h; exact hd
        · exact ht q hq (by omega)
  · have hge : j = ls.length := by have := of_decide_eq_false hc; omega
    try refine nc ?_
    try refine nc ?_
    refine ret_of [.int .i64 (-1)] ⟨rfl, trivial⟩ ⟨_, rfl, ?_, H⟩
    have : ls.findIdx? t = none := List.findIdx?_eq_none_iff.2 fun x hx => by
      obtain ⟨q, hq, rfl⟩ := List.mem_iff_getElem.1 hx
      exact ht q hq (by omega)
    unfold idxOf; rw [this]; rfl

/-- The closure that asks for a sender. -/
theorem Missing1_calls (H : Eng.Own ok w0 w L) (i : Nat) {g : Nat} {e c s : Int} {v : Value} (hi : L[i]? = some (.blk g [.int .i64 e, .int .i64 c, .int .i64 s, v] 57)) (x : Int) (u : Value) :
    Calls Try.prog 68 ((#[] ++ [Value.agg #[.int .i64 x, u]].toArray) ++ #[.pointer (some ⟨g, 0, none⟩)]) w fun e w'' => ∃ r, e = .returned r ∧ (r = .bool (x == s) ∧ Bel w.heap.size w w'') := by
  have ea : ((#[] ++ [Value.agg #[.int .i64 x, u]].toArray) ++ #[.pointer (some ⟨g, 0, none⟩)] : Array Value) = [Value.agg #[.int .i64 x, u], .pointer (some ⟨g, 0, none⟩)].toArray := rfl
  rw [ea]
  have hcell : w.cell? ⟨g, 2, none⟩ = some (.int .i64 s) := H.cell i hi 2 rfl
  have hglt : g < w.heap.size := H.lt g (mem_muts.2 ⟨_, List.mem_of_getElem? hi, by simp [Item.muts]⟩)
  have H0 : Eng.Own (fun _ => False) w w [] := Eng.Own.nil _ w
  refine enter (args := [.agg #[.int .i64 x, u], .pointer (some ⟨g, 0, none⟩)]) Try.func68 rfl Try.ntmps68 rfl rfl ?_
  try refine nc ?_
  refine own_box H0 [.int .i64 x, u] rfl fun q w1 H1 => ?_
  have hcell1 : w1.cell? ⟨g, 2, none⟩ = some (.int .i64 s) := (H1.frame.toBelow.cell (p := ⟨g, 2, none⟩) hglt).trans hcell
  try refine nc ?_
  try refine nc ?_
  refine own_load H1 0 rfl (by kernel_rfl) (j := 0) rfl ?_
  refine load_rule (v := .int .i64 s) (by kernel_rfl) (fun _ => hcell1) ?_
  try refine nc ?_
  try refine nc ?_
  refine ret_of [_] ⟨rfl, trivial⟩ ⟨_, rfl, rfl, H1.frame⟩

def ownOf (logs : List LogD) (s : Int) : List Tx := match logs.findIdx? (fun g => g.1 == s) with | some i => ((logs[i]?).map (·.2)).getD [] | none => []
def missOne (old : Int × Int) (logs : List LogD) (x : PartD) : Option LogD :=
  if x.1 ≠ old then none else
  if (ownOf logs x.2.1).length < x.2.2.length && beg (ownOf logs x.2.1) x.2.2 then some (x.2.1, x.2.2.drop (ownOf logs x.2.1).length) else none
def missL (ps : List PartD) (old : Int × Int) (logs : List LogD) : List LogD := ps.filterMap (missOne old logs)
theorem missL_snoc (ps : List PartD) (x : PartD) (old : Int × Int) (logs : List LogD) : missL (ps ++ [x]) old logs = missL ps old logs ++ (missOne old logs x).toList := by
  simp only [missL, List.filterMap_append]
  cases h : missOne old logs x <;> simp [h]
theorem missL_le (ps : List PartD) (old : Int × Int) (logs : List LogD) : (missL ps old logs).length ≤ ps.length := List.length_filterMap_le _ _

set_option maxHeartbeats 4000000 in
theorem Missing_calls {ok : Nat → Prop} {w : World} {v u : Value} {ps : List PartD} {logs : List LogD} {oe oc : Int} (hv : slR tPart w ok v ps) (hu : slR tLog w ok u logs) (hlp : ps.length ≤ 1000000000) (hll : logs.length ≤ 1000000000) (hlx : ∀ x ∈ ps, x.2.2.length ≤ 8796093022208) (hlg : ∀ x ∈ logs, x.2.length ≤ 8796093022208) :
    Calls Try.prog 55 #[v, idV oe oc, u] w fun e w' => ∃ r, e = .returned r ∧ (slR tLog w' (fun b => ok b ∨ w.heap.size ≤ b) r (missL ps (oe, oc) logs) ∧ Bel w.heap.size w w') := by
  have H : Eng.Own ok w w [.dat (dSl tPart v ps), .dat (dSl tLog u logs)] := own_two hv hu
  obtain ⟨A, c, hA, hc⟩ := H.sl 0 rfl
  obtain ⟨B, d, hB, hd⟩ := H.sl 1 rfl
  subst hA hB
  refine enter (args := [.slice A ps.length c, idV oe oc, .slice B logs.length d]) Try.func55 rfl Try.ntmps55 rfl rfl ?_
  try refine nc ?_
  refine own_box H [.int .i64 oe, .int .i64 oc] rfl fun q w1 H => ?_
  try refine nc ?_
  try refine nc ?_
  try refine nc ?_
  have H0 := (H.nilRow 88 2).addDat (dRows tLog [] []) rfl
  refine loop_rule (fun k e w' => ∃ (j : Nat) (z : Value) (cells : List Value), j + k = ps.length ∧ e = [(2, .slice B logs.length d), (4, .pointer (some ⟨q, 0, none⟩)), (7, z), (12, .slice A ps.length c), (13, .int .i64 (ps.length : Nat)), (14, .int .i64 (j : Int))] ∧
      Eng.Own ok w w' [.dat (dRows tLog (missL (ps.take j) (oe, oc) logs) cells), .row z 88 2 (missL (ps.take j) (oe, oc) logs).length cells, .blk q [.int .i64 oe, .int .i64 oc] 34, .dat (dSl tPart (.slice A ps.length c) ps), .dat (dSl tLog (.slice B logs.length d) logs)])
    ps.length [(2, .slice B logs.length d), (4, .pointer (some ⟨q, 0, none⟩)), (7, .slice none 0 0), (12, .slice A ps.length c), (13, .int .i64 (ps.length : Nat)), (14, .int .i64 ((0 : Nat) : Int))] ⟨rfl, rfl, rfl, rfl, rfl, rfl, trivial⟩ ⟨0, .slice none 0 0, [], by omega, rfl, H0⟩ ?_
  rintro k e w' ⟨j, z, cells, hjk, rfl, H⟩
  try refine nc ?_
  try refine nc ?_
  refine cond_of (fun hc => ?_) (fun hc => ?_)
  · have hlt : j < ps.length := by have := of_decide_eq_true hc; omega
    have hm1 := missL_snoc (ps.take j) ps[j] (oe, oc) logs
    have ht1 : ps.take (j + 1) = ps.take j ++ [ps[j]] := by rw [List.take_add_one, List.getElem?_eq_getElem hlt]; rfl
    rw [← ht1] at hm1
    have hml := missL_le (ps.take j) (oe, oc) logs
    have hml2 : (ps.take j).length ≤ j := by simp; omega
    obtain ⟨⟨⟨xe, xc⟩, xs, items⟩, hx⟩ : ∃ y, ps[j] = y := ⟨_, rfl⟩
    have hit := hlx _ (List.getElem_mem hlt)
    rw [hx] at hit hm1
    replace hit : items.length ≤ 8796093022208 := hit
    try refine nc ?_
    try refine nc ?_
    obtain ⟨a, c', cs, hA, hR, H⟩ := H.elem 3 rfl j hlt
    cases hA
    rw [hx] at hR
    obtain ⟨iv, rfl, hiv⟩ := part_cells hR
    refine indexAddr_rule (e := 57) 4 j (by kernel_rfl) (by kernel_rfl) (fun _ => hlt) ?_
    refine own_loadDA (m := 4) H 0 rfl 0 (by kernel_rfl) (by kernel_rfl) [.int .i64 xe, .int .i64 xc, .int .i64 xs, iv] rfl rfl ?_
    replace H := H.tail.tail
    replace H := H.addDat (dSl tStr iv items) hiv
    refine own_alloc (z := .agg #[.int .i64 0, .int .i64 0, .int .i64 0, .slice none 0 0]) H (by kernel_rfl) [.int .i64 0, .int .i64 0, .int .i64 0, .slice none 0 0] rfl fun g w2 H => ?_
    obtain ⟨I, ci, hI, hci⟩ := H.sl 1 rfl
    subst hI
    refine own_storeA (m := 4) H 0 rfl (by kernel_rfl) [.int .i64 xe, .int .i64 xc, .int .i64 xs, .slice I items.length ci] rfl rfl (by intro v hv; simp at hv; rcases hv with rfl | rfl | rfl | rfl <;> rfl) (by decide) fun w3 H => ?_
    replace H : Eng.Own ok w w3 [.blk g [.int .i64 xe, .int .i64 xc, .int .i64 xs, .slice I items.length ci] 57, .dat (dSl tStr (.slice I items.length ci) items), .dat (dRows tLog (missL (ps.take j) (oe, oc) logs) cells), .row z 88 2 (missL (ps.take j) (oe, oc) logs).length cells, .blk q [.int .i64 oe, .int .i64 oc] 34, .dat (dSl tPart (.slice (some a) ps.length c) ps), .dat (dSl tLog (.slice B logs.length d) logs)] := H
    try refine nc ?_
    try refine nc ?_
    refine own_loadA (m := 2) H 0 rfl (by kernel_rfl) (by kernel_rfl) [.int .i64 xe, .int .i64 xc] rfl rfl ?_
    refine own_loadA (m := 2) H 4 rfl (by kernel_rfl) (by kernel_rfl) [.int .i64 oe, .int .i64 oc] rfl rfl ?_
    refine neq_rule ((xe == oe) && (xc == oc)) (fun _ => by kernel_rfl) (fun _ => by kernel_rfl) ?_
    try refine nc ?_
    refine cond_of (fun hne => ?_) (fun hne => ?_)
    · have hno : missOne (oe, oc) logs ((xe, xc), xs, items) = none := by
        unfold missOne
        rw [if_pos]
        intro h
        have h1 : xe = oe := congrArg Prod.fst h
        have h2 : xc = oc := congrArg Prod.snd h
        subst h1 h2
        simp at hne
      rw [hno] at hm1
      simp only [Option.toList_none, List.append_nil] at hm1
      try refine nc ?_
      try refine nc ?_
      refine again_in (k - 1) (by omega) [(2, .slice B logs.length d), (4, .pointer (some ⟨q, 0, none⟩)), (7, z), (12, .slice (some a) ps.length c), (13, .int .i64 (ps.length : Nat)), (14, .int .i64 ((j + 1 : Nat) : Int))] ⟨rfl, rfl, rfl, rfl, rfl, ?_, trivial⟩ ⟨j + 1, z, cells, by omega, rfl, ?_⟩
      · show some (Value.int .i64 (IntKind.i64.wrap ((j : Int) + 1))) = _
        rw [Eng.i64_id (by omega) (by omega)]; rfl
      · rw [hm1]; exact H.tail.tail
    · have heq : xe = oe ∧ xc = oc := by simpa using hne
      obtain ⟨rfl, rfl⟩ := heq
      refine nc ?_
      refine nc_cut (fun e w' => ∃ ov, e = [(2, .slice B logs.length d), (4, .pointer (some ⟨q, 0, none⟩)), (7, z), (9, .pointer (some ⟨g, 0, none⟩)), (10, ov), (12, .slice (some a) ps.length c), (13, .int .i64 (ps.length : Nat)), (14, .int .i64 (j : Int))] ∧
        Eng.Own ok w w' [.dat (dSl tStr ov (ownOf logs xs)), .blk g [.int .i64 xe, .int .i64 xc, .int .i64 xs, .slice I items.length ci] 57, .dat (dSl tStr (.slice I items.length ci) items), .dat (dRows tLog (missL (ps.take j) (xe, xc) logs) cells), .row z 88 2 (missL (ps.take j) (xe, xc) logs).length cells, .blk q [.int .i64 xe, .int .i64 xc] 34, .dat (dSl tPart (.slice (some a) ps.length c) ps), .dat (dSl tLog (.slice B logs.length d) logs)]) ?_ ?_
      · refine nc ?_
        refine call_rule (by kernel_rfl) (IndexLog_own H 6 rfl (by omega) (fun x => x.1 == xs) (by kernel_rfl) (fun w' x u H => Missing1_calls H 0 rfl x.1 u)) fun v w4 ⟨hv, H⟩ => ?_
        subst hv
        try refine nc ?_
        try refine nc ?_
        cases hf : logs.findIdx? (fun x => x.1 == xs) with
        | none =>
          have hi : idxOf (fun x : LogD => x.1 == xs) logs = -1 := by unfold idxOf; rw [hf]
          refine cond_no (by rw [hi]; rfl) ?_
          try refine nc ?_
          have ho : ownOf logs xs = [] := by unfold ownOf; rw [hf]
          refine cut_in (e' := [(2, .slice B logs.length d), (4, .pointer (some ⟨q, 0, none⟩)), (7, z), (9, .pointer (some ⟨g, 0, none⟩)), (10, .slice none 0 0), (12, .slice (some a) ps.length c), (13, .int .i64 (ps.length : Nat)), (14, .int .i64 (j : Int))]) ⟨rfl, rfl, rfl, rfl, rfl, rfl, rfl, rfl, trivial⟩ ⟨_, rfl, ?_⟩
          rw [ho]
          exact H.addDat (dSl tStr (.slice none 0 0) []) ⟨none, 0, rfl, Nat.le_refl _, .inl ⟨rfl, fun _ => rfl⟩⟩
        | some i =>
          have hi : idxOf (fun x : LogD => x.1 == xs) logs = (i : Int) := by unfold idxOf; rw [hf]
          have hil : i < logs.length := (List.findIdx?_eq_some_iff_getElem.1 hf).1
          rw [hi]
          refine cond_yes (decide_eq_true (by omega)) ?_
          try refine nc ?_
          obtain ⟨a2, c2, cs2, hA2, hR2, H2⟩ := H.elem 6 rfl i hil
          cases hA2
          obtain ⟨ov, rfl, hov⟩ := log_cells hR2
          refine indexAddr_rule (e := 88) 2 i (by kernel_rfl) (by kernel_rfl) (fun _ => hil) ?_
          refine own_loadD H2 0 rfl 1 (by kernel_rfl) rfl ?_
          try refine nc ?_
          have ho : ownOf logs xs = logs[i].2 := by unfold ownOf; rw [hf]; simp [List.getElem?_eq_getElem hil]
          refine cut_in (e' := [(2, .slice (some a2) logs.length d), (4, .pointer (some ⟨q, 0, none⟩)), (7, z), (9, .pointer (some ⟨g, 0, none⟩)), (10, ov), (12, .slice (some a) ps.length c), (13, .int .i64 (ps.length : Nat)), (14, .int .i64 (j : Int))]) ⟨rfl, rfl, rfl, rfl, rfl, rfl, rfl, rfl, trivial⟩ ⟨_, rfl, ?_⟩
          rw [ho]
          exact H.addDat (dSl tStr ov logs[i].2) hov
      · rintro e w4 ⟨ov, rfl, H⟩
        obtain ⟨O, co, hO, hco⟩ := H.sl 0 rfl
        subst hO
        have hol : (ownOf logs xs).length ≤ 8796093022208 := by
          unfold ownOf
          split
          · rename_i i hf
            have hil : i < logs.length := (List.findIdx?_eq_some_iff_getElem.1 hf).1
            rw [List.getElem?_eq_getElem hil]
            exact hlg _ (List.getElem_mem hil)
          · exact Nat.zero_le _
        have ew : IntKind.i64.wrap ((j : Int) + 1) = ((j + 1 : Nat) : Int) := by rw [Eng.i64_id (by omega) (by omega)]; rfl
        by_cases hlo : (ownOf logs xs).length < items.length
        · have e1 : decide (((ownOf logs xs).length : Int) < (items.length : Int)) = true := decide_eq_true (by omega)
          have e2 : (decide (((ownOf logs xs).length : Int) < (items.length : Int)) && true) = true := by rw [e1]; rfl
          try refine nc ?_
          refine own_load H 1 rfl (by kernel_rfl) (j := 3) rfl ?_
          refine own_load H 1 rfl (by kernel_rfl) (j := 3) rfl ?_
          refine call_yes e2 (by kernel_rfl) (Begins_calls (H.dat 0 rfl) (H.dat 2 rfl) (by omega)) fun v w5 ⟨hv, hb⟩ => ?_
          subst hv
          replace H := H.call hb
          try refine nc ?_
          cases hbg : beg (ownOf logs xs) items with
          | false =>
            have hno : missOne (xe, xc) logs ((xe, xc), xs, items) = none := by
              unfold missOne
              rw [if_neg (by simp)]
              simp only
              rw [if_neg (by rw [hbg]; simp)]
            rw [hno] at hm1
            simp only [Option.toList_none, List.append_nil] at hm1
            refine cond_no (by show (bif decide (((ownOf logs xs).length : Int) < (items.length : Int)) then false else false) = false; rw [e1]; rfl) ?_
            try refine nc ?_
            try refine nc ?_
            refine again_in (k - 1) (by omega) [(2, .slice B logs.length d), (4, .pointer (some ⟨q, 0, none⟩)), (7, z), (12, .slice (some a) ps.length c), (13, .int .i64 (ps.length : Nat)), (14, .int .i64 ((j + 1 : Nat) : Int))] ⟨rfl, rfl, rfl, rfl, rfl, ?_, trivial⟩ ⟨j + 1, z, cells, by omega, rfl, ?_⟩
            · show some (Value.int .i64 (IntKind.i64.wrap ((j : Int) + 1))) = _
              rw [ew]
            · rw [hm1]; exact H.less (by repeat first | exact List.Sublist.refl _ | apply List.Sublist.cons_cons | apply List.Sublist.cons)
          | true =>
            have hyes : missOne (xe, xc) logs ((xe, xc), xs, items) = some (xs, items.drop (ownOf logs xs).length) := by
              unfold missOne
              rw [if_neg (by simp)]
              simp only
              rw [if_pos (by rw [hbg, decide_eq_true hlo]; rfl)]
            rw [hyes] at hm1
            simp only [Option.toList_some] at hm1
            refine cond_yes (by show (bif decide (((ownOf logs xs).length : Int) < (items.length : Int)) then true else false) = true; rw [e1]; rfl) ?_
            try refine nc ?_
            refine draw_rule [] (by kernel_rfl) (by kernel_rfl) H ?_
            refine c_load 1 rfl (by kernel_rfl) (j := 2) rfl ?_
            refine c_load 1 rfl (by kernel_rfl) (j := 3) rfl ?_
            refine c_piece 1 (ownOf logs xs).length items.length (e := 45) (by kernel_rfl) (by kernel_rfl) ⟨_, rfl⟩ rfl (fun _ => by omega) (fun _ => Nat.le_refl _) hci ?_
            refine c_callDat (fun v => dSl tStr v (items.drop (ownOf logs xs).length)) (fun r => ∃ A0 c0, r = .slice A0 (items.drop (ownOf logs xs).length).length c0) (by kernel_rfl) (fun w6 H => by
              have hp := slR_piece (l := (ownOf logs xs).length) (h := items.length) (H.dat 2 rfl) (by omega) (Nat.le_refl _)
              have e3 := List.take_of_length_le (l := items.drop (ownOf logs xs).length) (i := items.length - (ownOf logs xs).length) (by simp)
              rw [e3] at hp
              refine (Clone_calls hp (by simp; omega)).mono ?_
              rintro e w7 ⟨r, rfl, h1, h2⟩
              exact ⟨_, rfl, (by obtain ⟨A0, c0, hr0, _⟩ := h1; exact ⟨A0, c0, hr0⟩), (dSl tStr r _).mono (fun b hb => .inr hb) h1, h2⟩) ?_
            rintro r ⟨A0, c0, hr0⟩
            subst hr0
            refine c_buildSlice (e := 88) (sz := 2) (z := .agg #[.int .i64 0, .slice none 0 0]) (cs := [.int .i64 xs, .slice A0 (items.drop (ownOf logs xs).length).length c0]) (by kernel_rfl) (by kernel_rfl) (by kernel_rfl) rfl rfl rfl rfl ?_
            intro b2
            refine c_appendBlk (e := 88) (sz := 2) (z := .agg #[.int .i64 0, .slice none 0 0]) (by_ := 32) (m := 1) 6 0 rfl rfl (by kernel_rfl) (by kernel_rfl) rfl rfl rfl (by intro v hv; simp at hv; rcases hv with rfl | rfl <;> rfl) (by omega) (by omega) ?_
            intro z' w6 H
            replace H : Eng.Own ok w w6 [.blk b2 [.int .i64 xs, .slice A0 (items.drop (ownOf logs xs).length).length c0] 88, .dat (dSl tStr (.slice A0 (items.drop (ownOf logs xs).length).length c0) (items.drop (ownOf logs xs).length)), .dat (dSl tStr (.slice O (ownOf logs xs).length co) (ownOf logs xs)), .blk g [.int .i64 xe, .int .i64 xc, .int .i64 xs, .slice I items.length ci] 57, .dat (dSl tStr (.slice I items.length ci) items), .dat (dRows tLog (missL (ps.take j) (xe, xc) logs) cells), .row z' 88 2 ((missL (ps.take j) (xe, xc) logs).length + 1) (cells ++ [.int .i64 xs, .slice A0 (items.drop (ownOf logs xs).length).length c0]), .blk q [.int .i64 xe, .int .i64 xc] 34, .dat (dSl tPart (.slice (some a) ps.length c) ps), .dat (dSl tLog (.slice B logs.length d) logs)] := H
            have hn : rowsR tLog w6 (okOf ok w _) (missL (ps.take j) (xe, xc) logs ++ [(xs, items.drop (ownOf logs xs).length)]) (cells ++ [.int .i64 xs, .slice A0 (items.drop (ownOf logs xs).length).length c0]) := rowsR_snoc (log_in (x := (xs, items.drop (ownOf logs xs).length)) (H.dat 1 rfl)) (H.dat 5 rfl)
            rw [← hm1] at hn
            replace H := H.addDat _ (show (dRows tLog _ _).φ w6 _ from hn)
            try refine nc ?_
            try refine nc ?_
            refine again_in (k - 1) (by omega) [(2, .slice B logs.length d), (4, .pointer (some ⟨q, 0, none⟩)), (7, z'), (12, .slice (some a) ps.length c), (13, .int .i64 (ps.length : Nat)), (14, .int .i64 ((j + 1 : Nat) : Int))] ⟨rfl, rfl, rfl, rfl, rfl, ?_, trivial⟩ ⟨j + 1, z', cells ++ [.int .i64 xs, .slice A0 (items.drop (ownOf logs xs).length).length c0], by omega, rfl, ?_⟩
            · show some (Value.int .i64 (IntKind.i64.wrap ((j : Int) + 1))) = _
              rw [ew]
            · have hlen : (missL (ps.take (j + 1)) (xe, xc) logs).length = (missL (ps.take j) (xe, xc) logs).length + 1 := by rw [hm1]; simp
              rw [hlen]
              exact H.less (by repeat first | exact List.Sublist.refl _ | apply List.Sublist.cons_cons | apply List.Sublist.cons)
        · have e1 : decide (((ownOf logs xs).length : Int) < (items.length : Int)) = false := decide_eq_false (by omega)
          have e2 : (decide (((ownOf logs xs).length : Int) < (items.length : Int)) && true) = false := by rw [e1]; rfl
          have hno : missOne (xe, xc) logs ((xe, xc), xs, items) = none := by
            unfold missOne
            rw [if_neg (by simp)]
            simp only
            rw [if_neg (by rw [decide_eq_false hlo]; simp)]
          rw [hno] at hm1
          simp only [Option.toList_none, List.append_nil] at hm1
          try refine nc ?_
          refine own_load H 1 rfl (by kernel_rfl) (j := 3) rfl ?_
          refine own_load H 1 rfl (by kernel_rfl) (j := 3) rfl ?_
          refine call_skip (.bool false) e2 ?_
          try refine nc ?_
          refine cond_no (by show (bif decide (((ownOf logs xs).length : Int) < (items.length : Int)) then false else false) = false; rw [e1]; rfl) ?_
          try refine nc ?_
          try refine nc ?_
          refine again_in (k - 1) (by omega) [(2, .slice B logs.length d), (4, .pointer (some ⟨q, 0, none⟩)), (7, z), (12, .slice (some a) ps.length c), (13, .int .i64 (ps.length : Nat)), (14, .int .i64 ((j + 1 : Nat) : Int))] ⟨rfl, rfl, rfl, rfl, rfl, ?_, trivial⟩ ⟨j + 1, z, cells, by omega, rfl, ?_⟩
          · show some (Value.int .i64 (IntKind.i64.wrap ((j : Int) + 1))) = _
            rw [ew]
          · rw [hm1]; exact H.less (by repeat first | exact List.Sublist.refl _ | apply List.Sublist.cons_cons | apply List.Sublist.cons)
  · have hge : j = ps.length := by have := of_decide_eq_false hc; omega
    subst hge
    rw [List.take_length] at H
    try refine nc ?_
    try refine nc ?_
    refine ret_of [z] ⟨rfl, trivial⟩ ⟨_, rfl, ?_, H.frame⟩
    exact H.rowSlRin (k := tLog) 1 rfl (H.dat 0 rfl) (fun b h => h.1) (fun b h => .inr h)
end Go.Proofs.Ytipoblinefamgaa.Cut
