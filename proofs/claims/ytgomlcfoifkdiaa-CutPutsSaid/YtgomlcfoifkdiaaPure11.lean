/- What is cut of one report, whose senders rise; the law package's rows; chapter 11's example. -/
import Derived.Test.YtgomlcfoifkdiaaMan11
import Derived.Test.YtgomlcfoifkdiaaPureA
namespace Go.Proofs.Ytgomlcfoifkdiaa.Cut
open Go.RowKit Go.Eng Go.Proofs
set_option linter.unusedVariables false

def cntOf (many : List Int) (s : Nat) : Nat := match many[s - 1]? with | some x => (pickN x 6).toNat | none => 0
def itemsOf (s n : Nat) : List Tx := (List.range n).map fun i : Nat => countedT 117 (100 * (s : Int) + (i : Int))
theorem itemsOf_succ (s n : Nat) : itemsOf s (n + 1) = itemsOf s n ++ [countedT 117 (100 * (s : Int) + (n : Int))] := by simp [itemsOf, List.range_succ]
theorem itemsOf_len (s n : Nat) : (itemsOf s n).length = n := by simp [itemsOf]
def rowAt (many : List Int) (s : Nat) : List LogD := if 0 < cntOf many s then [((s : Int), itemsOf s (cntOf many s))] else []
def rowsTo (many : List Int) : Nat → List LogD
  | 0 => []
  | s + 1 => rowsTo many s ++ rowAt many (s + 1)
theorem rowsTo_len (many : List Int) : ∀ s, (rowsTo many s).length ≤ s
  | 0 => Nat.le_refl _
  | s + 1 => by
    have := rowsTo_len many s
    simp only [rowsTo, List.length_append, rowAt]
    split <;> simp <;> omega
theorem cntOf_lt (many : List Int) (s : Nat) : cntOf many s < 6 := by
  unfold cntOf
  split
  · rename_i x _
    have := pickN_range x 6 (by omega)
    omega
  · omega

theorem getA_none {β : Type} {p : Pl} : ∀ {m : List (Pl × β)}, p ∉ m.map (·.1) → getA p m = none := by
  intro m
  induction m with
  | nil => intro _; rfl
  | cons e m ih =>
    intro h
    simp only [List.map_cons, List.mem_cons, not_or] at h
    simp only [getA]
    rw [if_neg h.1]
    exact ih h.2
theorem putA_none {β : Type} {p : Pl} {v : β} : ∀ {m : List (Pl × β)}, p ∉ m.map (·.1) → putA p v m = m ++ [(p, v)] := by
  intro m
  induction m with
  | nil => intro _; rfl
  | cons e m ih =>
    intro h
    simp only [List.map_cons, List.mem_cons, not_or] at h
    simp only [putA]
    rw [if_neg h.1, ih h.2]
    rfl
/-- Logs of one report whose senders are others, and none of which is empty: each stands as it is. -/
theorem foldG (id : Int × Int) : ∀ (logs : List LogD) (m : MapD), (∀ g ∈ logs, 0 < g.2.length) → (logs.map (·.1)).Nodup → (∀ g ∈ logs, (id.1, id.2, g.1) ∉ m.map (·.1)) →
    logs.foldl (stepG id) m = m ++ logs.map fun g => ((id.1, id.2, g.1), g.2) := by
  intro logs
  induction logs with
  | nil => intro m _ _ _; simp
  | cons g logs ih =>
    intro m hp hn hf
    have hg := hf g (by simp)
    have h1 : stepG id m g = m ++ [((id.1, id.2, g.1), g.2)] := by
      unfold stepG
      rw [getA_none hg, if_pos (show ((none : Option (List Tx)).getD []).length < g.2.length from hp g (by simp)), putA_none hg]
    rw [List.foldl_cons, h1, ih _ (fun x hx => hp x (List.mem_cons_of_mem _ hx)) (List.nodup_cons.1 hn).2]
    · simp
    · intro x hx
      simp only [List.map_append, List.map_cons, List.map_nil, List.mem_append, List.mem_singleton, not_or]
      refine ⟨hf x (List.mem_cons_of_mem _ hx), fun h => ?_⟩
      have : x.1 = g.1 := by have := congrArg (fun q : Pl => q.2.2) h; exact this
      exact (List.nodup_cons.1 hn).1 (List.mem_map.2 ⟨x, hx, this⟩)
def partsOf (id : Int × Int) (logs : List LogD) : List PartD := logs.map fun g => (id, g.1, g.2)
theorem missL_nil (id : Int × Int) (logs : List LogD) (hp : ∀ g ∈ logs, 0 < g.2.length) : missL (partsOf id logs) id [] = logs := by
  induction logs with
  | nil => rfl
  | cons g logs ih =>
    have h : missOne id [] (id, g.1, g.2) = some g := by
      unfold missOne
      rw [if_neg (by simp)]
      have h0 : ownOf [] g.1 = [] := rfl
      simp only [h0]
      rw [if_pos]
      · rfl
      · have := hp g (by simp)
        simp [beg, this]
    have ih := ih fun x hx => hp x (List.mem_cons_of_mem _ hx)
    unfold missL partsOf at ih ⊢
    rw [List.map_cons, List.filterMap_cons, h]
    simp only
    rw [ih]
theorem missL_other (id id' : Int × Int) (logs own : List LogD) (h : id ≠ id') : missL (partsOf id logs) id' own = [] := by
  unfold missL partsOf
  rw [List.filterMap_eq_nil_iff]
  intro x hx
  obtain ⟨g, _, rfl⟩ := List.mem_map.1 hx
  unfold missOne
  rw [if_pos (by exact h)]
theorem missL_own (id : Int × Int) (logs ps : List LogD) (h : ∀ g ∈ ps, ownOf logs g.1 = g.2) : missL (partsOf id ps) id logs = [] := by
  unfold missL partsOf
  rw [List.filterMap_eq_nil_iff]
  intro x hx
  obtain ⟨g, hg, rfl⟩ := List.mem_map.1 hx
  unfold missOne
  rw [if_neg (by simp)]
  simp only [h g hg]
  rw [if_neg]
  simp
/-- A list that rises is sorted. -/
theorem sortPl_up {ps : List Pl} (h : ps.Pairwise fun x y => Go.Proofs.ltOf plCmp y x = false) : sortPl ps = ps := by
  unfold sortPl
  refine List.mergeSort_of_pairwise (h.imp ?_)
  intro a b hab
  simp [hab]
theorem getA_map (id : Int × Int) : ∀ (logs : List LogD) (g : LogD), (logs.map (·.1)).Nodup → g ∈ logs → getA (id.1, id.2, g.1) (logs.map fun g => (((id.1, id.2, g.1) : Pl), g.2)) = some g.2 := by
  intro logs
  induction logs with
  | nil => intro g _ h; cases h
  | cons x logs ih =>
    intro g hn hg
    simp only [List.map_cons, getA]
    rcases List.mem_cons.1 hg with rfl | hg'
    · simp
    · have hx : g.1 ≠ x.1 := fun e => (List.nodup_cons.1 hn).1 (List.mem_map.2 ⟨g, hg', e⟩)
      rw [if_neg (fun e => hx (by have := congrArg (fun q : Pl => q.2.2) e; first | exact this | exact this.symm))]
      exact ih g (List.nodup_cons.1 hn).2 hg'
/-- What is cut of one report whose senders rise, and none of whose logs is empty: its logs as they stand. -/
theorem cutL_one {r : ReportD} (hp : ∀ g ∈ r.2.2, 0 < g.2.length) (hr : (r.2.2.map (·.1)).Pairwise (· < ·)) :
    cutL [r] = r.2.2.map fun g => ((r.2.1.1, r.2.1.2), g.1, g.2) := by
  have hn : (r.2.2.map (·.1)).Nodup := hr.imp fun h => Int.ne_of_lt h
  have h1 : cutM [r] = r.2.2.map fun g => (((r.2.1.1, r.2.1.2, g.1) : Pl), g.2) := by
    show r.2.2.foldl (stepG r.2.1) [] = _
    rw [foldG r.2.1 r.2.2 [] hp hn (fun _ _ h => by cases h)]
    simp
  have h2 : sortPl ((cutM [r]).map (·.1)) = r.2.2.map fun g => ((r.2.1.1, r.2.1.2, g.1) : Pl) := by
    rw [h1, List.map_map]
    refine sortPl_up ?_
    rw [List.pairwise_map] at hr ⊢
    refine hr.imp fun h => ?_
    simp only [Function.comp, ltPl_no]
    omega
  unfold cutL
  rw [h2, List.map_map]
  refine List.map_congr_left fun g hg => ?_
  simp only [Function.comp, partOf, h1]
  rw [getA_map r.2.1 r.2.2 g hn hg]
  rfl
/-- Of logs whose senders are others, the one with a log's sender is that log. -/
theorem ownOf_mem : ∀ (logs : List LogD) (g : LogD), (logs.map (·.1)).Nodup → g ∈ logs → ownOf logs g.1 = g.2 := by
  intro logs
  induction logs with
  | nil => intro g _ h; cases h
  | cons x logs ih =>
    intro g hn hg
    have hn' := List.nodup_cons.1 hn
    rcases List.mem_cons.1 hg with rfl | hg'
    · unfold ownOf
      rw [List.findIdx?_cons]
      simp
    · have hx : ¬ (x.1 == g.1) = true := fun e => hn'.1 (List.mem_map.2 ⟨g, hg', by simpa using (beq_iff_eq.1 e).symm⟩)
      have := ih g hn'.2 hg'
      unfold ownOf at this ⊢
      rw [List.findIdx?_cons, if_neg hx]
      cases hf : logs.findIdx? (fun y => y.1 == g.1) with
      | none => rw [hf] at this; exact this
      | some i => rw [hf] at this; simpa using this
theorem rowAt_fst (many : List Int) (s : Nat) : ∀ g ∈ rowAt many s, g.1 = (s : Int) ∧ 0 < g.2.length ∧ g.2.length ≤ 6 := by
  intro g hg
  unfold rowAt at hg
  split at hg
  · rename_i h
    simp at hg
    subst hg
    have := cntOf_lt many s
    refine ⟨rfl, ?_, ?_⟩ <;> rw [itemsOf_len] <;> omega
  · cases hg
theorem rowsTo_fst (many : List Int) : ∀ s, ∀ g ∈ rowsTo many s, 0 < g.1 ∧ g.1 ≤ (s : Int) ∧ 0 < g.2.length ∧ g.2.length ≤ 6
  | 0 => by intro g hg; cases hg
  | s + 1 => by
    intro g hg
    rcases List.mem_append.1 hg with h | h
    · have := rowsTo_fst many s g h
      exact ⟨this.1, by omega, this.2.2⟩
    · have := rowAt_fst many (s + 1) g h
      exact ⟨by omega, by omega, this.2⟩
theorem rowsTo_up (many : List Int) : ∀ s, ((rowsTo many s).map (·.1)).Pairwise (· < ·)
  | 0 => List.Pairwise.nil
  | s + 1 => by
    show ((rowsTo many s ++ rowAt many (s + 1)).map (·.1)).Pairwise (· < ·)
    rw [List.map_append, List.pairwise_append]
    refine ⟨rowsTo_up many s, ?_, ?_⟩
    · unfold rowAt
      split <;> simp
    · intro a ha b hb
      obtain ⟨g, hg, rfl⟩ := List.mem_map.1 ha
      obtain ⟨g', hg', rfl⟩ := List.mem_map.1 hb
      have h1 := rowsTo_fst many s g hg
      have h2 := rowAt_fst many (s + 1) g' hg'
      omega
def exA : List LogD := [(1, [[103]])]
def exB : List LogD := [(1, [[103], [104, 103]])]
def exR : List ReportD := [(1, (0, 0), exA), (2, (0, 0), exB), (3, (0, 0), [])]
theorem exM : cutM exR = [((0, 0, 1), [[103], [104, 103]])] := by rfl
theorem exCut : cutL exR = [((0, 0), 1, [[103], [104, 103]])] := by
  unfold cutL
  rw [exM]
  have : sortPl (List.map (·.1) ([((0, 0, 1), [[103], [104, 103]])] : MapD)) = [(0, 0, 1)] := by
    show sortPl [(0, 0, 1)] = _
    unfold sortPl
    exact List.mergeSort_singleton _
  rw [this]
  rfl
theorem exMiss : missL [((0, 0), 1, [[103], [104, 103]])] (0, 0) exA = [(1, [[104, 103]])] := by rfl

end Go.Proofs.Ytgomlcfoifkdiaa.Cut
