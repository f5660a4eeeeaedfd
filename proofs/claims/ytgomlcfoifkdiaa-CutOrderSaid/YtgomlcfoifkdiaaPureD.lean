/- The reference's cut, put part by part into its place, is the sorted one. -/
import Derived.Test.YtgomlcfoifkdiaaPureC
namespace Go.Proofs.Ytgomlcfoifkdiaa.G
open Go.RowKit Go.Eng Go.Proofs Go.Proofs.Ytgomlcfoifkdiaa.Cut
set_option linter.unusedVariables false
set_option linter.unusedSimpArgs false

def keyP (x : D_cut_Part) : Pl := (x.1.1, x.1.2, x.2.1)
def klt (p q : Pl) : Prop := p.1 < q.1 ∨ (p.1 = q.1 ∧ (p.2.1 < q.2.1 ∨ (p.2.1 = q.2.1 ∧ p.2.2 < q.2.2)))
instance (p q : Pl) : Decidable (klt p q) := by unfold klt; infer_instance
theorem klt_irr (p : Pl) : ¬ klt p p := by unfold klt; omega
theorem klt_tr {p q r : Pl} (h : klt p q) (k : klt q r) : klt p r := by unfold klt at *; omega
theorem klt_tri (p q : Pl) : klt p q ∨ p = q ∨ klt q p := by
  unfold klt
  by_cases h : p = q
  · exact .inr (.inl h)
  · have : p.1 ≠ q.1 ∨ p.2.1 ≠ q.2.1 ∨ p.2.2 ≠ q.2.2 := by
      obtain ⟨a, b, c⟩ := p
      obtain ⟨a', b', c'⟩ := q
      by_cases h1 : a = a'
      · by_cases h2 : b = b'
        · by_cases h3 : c = c'
          · subst h1 h2 h3; exact absurd rfl h
          · exact .inr (.inr h3)
        · exact .inr (.inl h2)
      · exact .inl h1
    omega
def SortedP (l : List D_cut_Part) : Prop := l.Pairwise fun x y => klt (keyP x) (keyP y)
def findP (p : Pl) : List D_cut_Part → Option (List (List UInt8))
  | [] => none
  | x :: l => if p = keyP x then some x.2.2 else findP p l
theorem findP_none {p : Pl} : ∀ {l : List D_cut_Part}, (∀ x ∈ l, p ≠ keyP x) → findP p l = none
  | [], _ => rfl
  | x :: l, h => by
    unfold findP
    rw [if_neg (h x List.mem_cons_self)]
    exact findP_none fun y hy => h y (List.mem_cons_of_mem _ hy)
theorem findP_lt {p : Pl} {l : List D_cut_Part} (h : ∀ x ∈ l, klt p (keyP x)) : findP p l = none := findP_none fun x hx e => klt_irr p (by have := h x hx; rw [← e] at this; exact this)
theorem part_ext {x y : D_cut_Part} (h1 : keyP x = keyP y) (h2 : x.2.2 = y.2.2) : x = y := by
  obtain ⟨⟨a, b⟩, c, d⟩ := x
  obtain ⟨⟨a', b'⟩, c', d'⟩ := y
  simp only [keyP, Prod.mk.injEq] at h1
  obtain ⟨rfl, rfl, rfl⟩ := h1
  simp only at h2
  subst h2
  rfl
theorem sorted_ext : ∀ {l l' : List D_cut_Part}, SortedP l → SortedP l' → (∀ p, findP p l = findP p l') → l = l'
  | [], [], _, _, _ => rfl
  | [], y :: l', _, _, h => by have := h (keyP y); simp [findP] at this
  | x :: l, [], _, _, h => by have := h (keyP x); simp [findP] at this
  | x :: l, y :: l', h1, h2, h => by
    have a1 := List.pairwise_cons.1 h1
    have a2 := List.pairwise_cons.1 h2
    have hk : keyP x = keyP y := by
      rcases klt_tri (keyP x) (keyP y) with k | k | k
      · have := h (keyP x)
        rw [findP_lt (p := keyP x) (l := y :: l') (fun z hz => by
          rcases List.mem_cons.1 hz with e | e
          · subst e; exact k
          · exact klt_tr k (a2.1 z e))] at this
        simp [findP] at this
      · exact k
      · have := h (keyP y)
        rw [findP_lt (p := keyP y) (l := x :: l) (fun z hz => by
          rcases List.mem_cons.1 hz with e | e
          · subst e; exact k
          · exact klt_tr k (a1.1 z e))] at this
        simp [findP] at this
    have hx : x = y := part_ext hk (by
      have := h (keyP x)
      simp only [findP, if_true, hk] at this
      exact Option.some.inj this)
    subst hx
    congr 1
    refine sorted_ext a1.2 a2.2 fun p => ?_
    by_cases e : p = keyP x
    · subst e
      rw [findP_lt (fun z hz => a1.1 z hz), findP_lt (fun z hz => a2.1 z hz)]
    · have := h p
      simp only [findP, if_neg e] at this
      exact this

def insP : List D_cut_Part → D_cut_Part → List D_cut_Part
  | [], x => [x]
  | y :: l, x => if keyP y = keyP x then (if y.2.2.length < x.2.2.length then x else y) :: l else if klt (keyP x) (keyP y) then x :: y :: l else y :: insP l x
theorem insP_mem {x z : D_cut_Part} : ∀ {l : List D_cut_Part}, z ∈ insP l x → z = x ∨ z ∈ l
  | [], h => by simp [insP] at h; exact .inl h
  | y :: l, h => by
    unfold insP at h
    split at h
    · rcases List.mem_cons.1 h with e | e
      · split at e
        · exact .inl e
        · exact .inr (by rw [e]; exact List.mem_cons_self)
      · exact .inr (List.mem_cons_of_mem _ e)
    · split at h
      · rcases List.mem_cons.1 h with e | e
        · exact .inl e
        · exact .inr e
      · rcases List.mem_cons.1 h with e | e
        · exact .inr (by rw [e]; exact List.mem_cons_self)
        · exact (insP_mem e).imp id (List.mem_cons_of_mem _)
theorem insP_len (x : D_cut_Part) : ∀ l : List D_cut_Part, (insP l x).length ≤ l.length + 1
  | [] => by simp [insP]
  | y :: l => by
    unfold insP
    split
    · simp
    · split
      · simp
      · have := insP_len x l; simp; omega
theorem insP_sorted (x : D_cut_Part) : ∀ {l : List D_cut_Part}, SortedP l → SortedP (insP l x)
  | [], _ => List.pairwise_singleton _ _
  | y :: l, h => by
    have a := List.pairwise_cons.1 h
    unfold insP
    split
    · rename_i e
      refine List.pairwise_cons.2 ⟨fun z hz => ?_, a.2⟩
      split
      · rw [← e]; exact a.1 z hz
      · exact a.1 z hz
    · split
      · rename_i k
        refine List.pairwise_cons.2 ⟨fun z hz => ?_, h⟩
        rcases List.mem_cons.1 hz with e | e
        · subst e; exact k
        · exact klt_tr k (a.1 z e)
      · rename_i e k
        refine List.pairwise_cons.2 ⟨fun z hz => ?_, insP_sorted x a.2⟩
        rcases insP_mem hz with q | q
        · subst q
          rcases klt_tri (keyP y) (keyP z) with r | r | r
          · exact r
          · exact absurd r e
          · exact absurd r k
        · exact a.1 z q
theorem insP_find (x : D_cut_Part) (p : Pl) : ∀ {l : List D_cut_Part}, SortedP l → findP p (insP l x) = if p = keyP x then some (match findP p l with | some t => if t.length < x.2.2.length then x.2.2 else t | none => x.2.2) else findP p l
  | [], _ => by simp [insP, findP]
  | y :: l, h => by
    have a := List.pairwise_cons.1 h
    unfold insP
    split
    · rename_i e
      by_cases hp : p = keyP x
      · subst hp
        rw [if_pos rfl]
        simp only [findP, e, if_true]
        split
        · rename_i hl; simp [hl]
        · rename_i hl; simp [hl, e]
      · rw [if_neg hp]
        simp only [findP]
        rw [if_neg (fun q => hp (by rw [q]; split <;> simp [e])), if_neg (fun q => hp (by rw [q, e]))]
    · rename_i e
      split
      · rename_i k
        by_cases hp : p = keyP x
        · subst hp
          have : findP (keyP x) (y :: l) = none := findP_lt fun z hz => by
            rcases List.mem_cons.1 hz with q | q
            · subst q; exact k
            · exact klt_tr k (a.1 z q)
          rw [if_pos rfl, this]
          simp [findP]
        · rw [if_neg hp]
          conv => lhs; unfold findP
          rw [if_neg hp]
      · rename_i k
        by_cases hy : p = keyP y
        · have hne : p ≠ keyP x := fun q => e (by rw [← hy, q])
          rw [if_neg hne]
          simp [findP, hy]
        · simp only [findP, if_neg hy]
          exact insP_find x p a.2

/-! The reference's way. -/
theorem ahead_eq (x y : D_cut_Part) : gemotref11_ahead.f x y = some (decide (klt (keyP x) (keyP y))) := by
  obtain ⟨⟨a, b⟩, c, d⟩ := x
  obtain ⟨⟨a', b'⟩, c', d'⟩ := y
  unfold gemotref11_ahead.f gemotref10_Less.f klt keyP
  simp only
  by_cases h1 : a = a'
  · subst h1
    by_cases h2 : b = b'
    · subst h2
      by_cases h3 : c < c' <;> simp [h3]
    · by_cases h3 : b < b' <;> simp [h2, h3, beq_false_of_ne h2]
  · by_cases h2 : a < a' <;> simp [h1, h2, beq_false_of_ne h1, bne]
def stepP (x : D_cut_Part) (s : List D_cut_Part × Bool) (y : D_cut_Part) : List D_cut_Part × Bool :=
  if keyP y = keyP x then (s.1 ++ [if y.2.2.length < x.2.2.length then x else y], true)
  else if s.2 = false ∧ klt (keyP x) (keyP y) then (s.1 ++ [x] ++ [y], true) else (s.1 ++ [y], s.2)
theorem stepP_len (x : D_cut_Part) (s : List D_cut_Part × Bool) (y : D_cut_Part) : (stepP x s y).1.length ≤ s.1.length + 2 := by
  unfold stepP
  split
  · simp
  · split <;> simp
theorem foldP_len (x : D_cut_Part) (l : List D_cut_Part) : (l.foldl (stepP x) ([], false)).1.length ≤ 2 * l.length := by
  have : ∀ (l : List D_cut_Part) (s : List D_cut_Part × Bool), (l.foldl (stepP x) s).1.length ≤ s.1.length + 2 * l.length := by
    intro l
    induction l with
    | nil => intro s; simp
    | cons y l ih => intro s; have := ih (stepP x s y); have := stepP_len x s y; simp only [List.foldl_cons, List.length_cons]; omega
  have := this l ([], false)
  simpa using this
def finP (x : D_cut_Part) (s : List D_cut_Part × Bool) : List D_cut_Part := if s.2 then s.1 else s.1 ++ [x]
theorem fold_ins (x : D_cut_Part) : ∀ (l : List D_cut_Part) (acc : List D_cut_Part) (d : Bool), SortedP l → (d = true → ∀ y ∈ l, keyP y ≠ keyP x) → finP x (l.foldl (stepP x) (acc, d)) = acc ++ (if d then l else insP l x) := by
  intro l
  induction l with
  | nil => intro acc d _ _; cases d <;> simp [finP, insP]
  | cons y l ih =>
    intro acc d hs hd
    have a := List.pairwise_cons.1 hs
    rw [List.foldl_cons]
    rw [show stepP x (acc, d) y = if keyP y = keyP x then (acc ++ [if y.2.2.length < x.2.2.length then x else y], true) else if d = false ∧ klt (keyP x) (keyP y) then (acc ++ [x] ++ [y], true) else (acc ++ [y], d) from rfl]
    by_cases e : keyP y = keyP x
    · cases d with
      | true => exact absurd e (hd rfl y List.mem_cons_self)
      | false =>
        rw [if_pos e, ih _ _ a.2 (fun _ z hz q => klt_irr (keyP y) (by have := a.1 z hz; rw [q, ← e] at this; exact this))]
        simp [insP, e]
    · rw [if_neg e]
      cases d with
      | true =>
        rw [if_neg (by simp), ih _ _ a.2 (fun _ z hz => hd rfl z (List.mem_cons_of_mem _ hz))]
        simp
      | false =>
        by_cases k : klt (keyP x) (keyP y)
        · rw [if_pos ⟨rfl, k⟩, ih _ _ a.2 (fun _ z hz q => klt_irr (keyP x) (by have := klt_tr k (a.1 z hz); rw [q] at this; exact this))]
          simp [insP, e, k]
        · rw [if_neg (fun q => k q.2), ih _ _ a.2 (fun q => by cases q)]
          simp [insP, e, k]
theorem k3_eq (l : List D_cut_Part) (x y : D_cut_Part) (out : List D_cut_Part) (i : Nat) (d : Bool) (ho : out.length ≤ 10000000) (hi : i ≤ 10000000) :
    gemotref11_put.k3 l x out (i : Int) d y.1.1 y.1.2 y.2.1 y.2.2 = some (.inl (if d = false ∧ klt (keyP x) (keyP y) then (out ++ [x] ++ [y], true, ((i + 1 : Nat) : Int)) else (out ++ [y], d, ((i + 1 : Nat) : Int)))) := by
  unfold gemotref11_put.k3 gemotref11_put.k2 gemotref11_put.k1
  have e1 : gemotref11_ahead.f ((x.1.1, x.1.2), x.2.1, x.2.2) ((y.1.1, y.1.2), y.2.1, y.2.2) = some (decide (klt (keyP x) (keyP y))) := ahead_eq x y
  rw [e1, wrap1 i (by omega)]
  cases d with
  | true => simp only [Bool.not_true, cond_false]; rw [room_of (by omega)]; simp
  | false =>
    simp only [Bool.not_false, cond_true, Option.bind_some]
    by_cases k : klt (keyP x) (keyP y)
    · rw [decide_eq_true k]
      simp only [cond_true]
      rw [room_of (by omega), room_of (by simp; omega)]; simp [k]
    · rw [decide_eq_false k]
      simp only [cond_false]
      rw [room_of (by omega)]; simp [k]
theorem put_eq (l : List D_cut_Part) (x : D_cut_Part) (hs : SortedP l) (hl : l.length ≤ 1000000) : gemotref11_put.f l x = some (insP l x) := by
  unfold gemotref11_put.f
  have hL : loopM (fun s : (List D_gemotref11_Part) × Bool × Int => gemotref11_put.b4 l x s.1 s.2.1 s.2.2) (([] : List D_gemotref11_Part), false, (0 : Int)) = some (l.foldl (stepP x) ([], false)) := by
    refine loop_count (fun i => (((l.take i).foldl (stepP x) ([], false)).1, ((l.take i).foldl (stepP x) ([], false)).2, (i : Int))) l.length (fun i hi => ?_) ?_
    · have hf := foldP_len x (l.take i)
      have hf2 : (l.take i).length ≤ i := by simp; omega
      have hst : (l.take (i + 1)).foldl (stepP x) ([], false) = stepP x ((l.take i).foldl (stepP x) ([], false)) l[i] := by rw [← take_snoc hi, List.foldl_append]; rfl
      rw [hst]
      generalize (l.take i).foldl (stepP x) ([], false) = s at *
      obtain ⟨out, d⟩ := s
      show gemotref11_put.b4 l x out d (i : Int) = _
      unfold gemotref11_put.b4 stepP
      rw [cond_t (by omega), idxL_lt hi, Option.bind_some]
      simp only at hf
      have hk : (cond ((l[i].1.1 == x.1.1) && (l[i].1.2 == x.1.2)) (l[i].2.1 == x.2.1) false) = decide (keyP l[i] = keyP x) := by
        rw [Bool.eq_iff_iff]
        simp [keyP, Prod.ext_iff, and_assoc]
      rw [hk]
      by_cases e : keyP l[i] = keyP x
      · rw [decide_eq_true e, if_pos e]
        simp only [cond_true]
        by_cases hlt : l[i].2.2.length < x.2.2.length
        · rw [cond_t (by omega), k3_eq l x x out i true (by omega) (by omega), if_pos hlt]; simp
        · rw [cond_f (by omega), k3_eq l x l[i] out i true (by omega) (by omega), if_neg hlt]; simp
      · rw [decide_eq_false e, if_neg e]
        simp only [cond_false]
        rw [k3_eq l x l[i] out i d (by omega) (by omega)]
        split <;> rfl
    · show gemotref11_put.b4 l x _ _ (l.length : Int) = _
      unfold gemotref11_put.b4
      rw [cond_f (by omega), List.take_length]
  rw [hL, Option.bind_some]
  have h1 := fold_ins x l [] false hs (fun h => by cases h)
  have hf := foldP_len x l
  simp only [List.nil_append, Bool.false_eq_true, if_false] at h1
  rw [← h1]
  generalize l.foldl (stepP x) ([], false) = s at hf
  obtain ⟨out, d⟩ := s
  simp only at hf
  unfold gemotref11_put.k6 gemotref11_put.k5 finP
  cases d with
  | true => rfl
  | false => simp only [Bool.not_false, cond_true]; rw [room_of (by omega)]; rfl

/-! All parts. -/
def refG (id : D_api_Id) (out : List D_cut_Part) (g : D_cut_Log) : List D_cut_Part := if 0 < g.2.length then insP out (id, g.1, g.2) else out
def refR (out : List D_cut_Part) (r : D_cut_Report) : List D_cut_Part := r.2.2.foldl (refG r.2.1) out
theorem refG_sorted (id : D_api_Id) {out : List D_cut_Part} (g : D_cut_Log) (h : SortedP out) : SortedP (refG id out g) := by
  unfold refG; split
  · exact insP_sorted _ h
  · exact h
theorem refG_len (id : D_api_Id) (out : List D_cut_Part) (g : D_cut_Log) : (refG id out g).length ≤ out.length + 1 := by
  unfold refG; split
  · exact insP_len _ _
  · omega
theorem foldG_sorted (id : D_api_Id) : ∀ (gs : List D_cut_Log) {out : List D_cut_Part}, SortedP out → SortedP (gs.foldl (refG id) out)
  | [], _, h => h
  | g :: gs, _, h => foldG_sorted id gs (refG_sorted id g h)
theorem foldG_len (id : D_api_Id) : ∀ (gs : List D_cut_Log) (out : List D_cut_Part), (gs.foldl (refG id) out).length ≤ out.length + gs.length
  | [], out => by simp
  | g :: gs, out => by
    have := foldG_len id gs (refG id out g)
    have := refG_len id out g
    simp only [List.foldl_cons, List.length_cons]; omega
theorem foldR_sorted : ∀ (rs : List D_cut_Report) {out : List D_cut_Part}, SortedP out → SortedP (rs.foldl refR out)
  | [], _, h => h
  | r :: rs, _, h => foldR_sorted rs (foldG_sorted r.2.1 r.2.2 h)
theorem foldR_len : ∀ (rs : List D_cut_Report) (out : List D_cut_Part), (∀ r ∈ rs, r.2.2.length < 20) → (rs.foldl refR out).length ≤ out.length + 20 * rs.length
  | [], out, _ => by simp
  | r :: rs, out, h => by
    have h1 := foldR_len rs (refR out r) (fun x hx => h x (List.mem_cons_of_mem _ hx))
    have h2 : (refR out r).length ≤ out.length + r.2.2.length := foldG_len _ _ _
    have h3 := h r List.mem_cons_self
    simp only [List.foldl_cons, List.length_cons]; omega
theorem fold_snoc {α β : Type} (f : β → α → β) (b : β) (l : List α) (i : Nat) (h : i < l.length) : (l.take (i + 1)).foldl f b = f ((l.take i).foldl f b) l[i] := by rw [← take_snoc h, List.foldl_append]; rfl
theorem refCut_inner (rs : List D_cut_Report) (i : Nat) (hi : i < rs.length) (out : List D_cut_Part) (hs : SortedP out) (ho : out.length ≤ 10000) (hl : rs[i].2.2.length < 20) :
    loopM (fun s : (List D_gemotref11_Part) × Int => gemotref11_Cut.b2 rs (i : Int) s.1 s.2) (out, (0 : Int)) = some (refR out rs[i]) := by
  refine loop_count (fun j => ((rs[i].2.2.take j).foldl (refG rs[i].2.1) out, (j : Int))) rs[i].2.2.length (fun j hj => ?_) ?_
  · have h1 := foldG_sorted rs[i].2.1 (rs[i].2.2.take j) hs
    have h2 := foldG_len rs[i].2.1 (rs[i].2.2.take j) out
    have h3 : (rs[i].2.2.take j).length ≤ j := by simp; omega
    rw [fold_snoc _ _ _ _ hj]
    generalize (rs[i].2.2.take j).foldl (refG rs[i].2.1) out = v at *
    show gemotref11_Cut.b2 rs (i : Int) v (j : Int) = _
    have hj1 : (j : Int) < (rs[i].2.2.length : Int) := by omega
    have hj2 : j ≤ 4611686018427387904 := by omega
    unfold gemotref11_Cut.b2 gemotref11_Cut.k1 refG
    rw [idxL_lt hi, Option.bind_some, cond_t hj1, Option.bind_some, idxL_lt hj, Option.bind_some, wrap1 j hj2]
    by_cases hp : 0 < rs[i].2.2[j].2.length
    · rw [cond_t (by omega), Option.bind_some, if_pos hp]
      rw [put_eq v _ h1 (by omega), Option.bind_some]
    · rw [cond_f (by omega), if_neg hp]
  · have hj0 : ¬ ((rs[i].2.2.length : Int) < (rs[i].2.2.length : Int)) := by omega
    show gemotref11_Cut.b2 rs (i : Int) _ (rs[i].2.2.length : Int) = _
    unfold gemotref11_Cut.b2
    rw [idxL_lt hi, Option.bind_some, cond_f hj0, List.take_length]; rfl
theorem refCut_eq (rs : List D_cut_Report) (hr : rs.length < 12) (hl : ∀ r ∈ rs, r.2.2.length < 20) : gemotref11_Cut.f rs = some (rs.foldl refR []) := by
  unfold gemotref11_Cut.f
  have hL : loopM (fun s : (List D_gemotref11_Part) × Int => gemotref11_Cut.b4 rs s.1 s.2) (([] : List D_gemotref11_Part), (0 : Int)) = some (rs.foldl refR []) := by
    refine loop_count (fun i => ((rs.take i).foldl refR [], (i : Int))) rs.length (fun i hi => ?_) ?_
    · have h1 : SortedP ((rs.take i).foldl refR []) := foldR_sorted _ List.Pairwise.nil
      have h2 := foldR_len (rs.take i) [] (fun r h => hl r (List.mem_of_mem_take h))
      have h3 : (rs.take i).length ≤ i := by simp; omega
      rw [fold_snoc _ _ _ _ hi]
      generalize (rs.take i).foldl refR [] = v at *
      show gemotref11_Cut.b4 rs v (i : Int) = _
      simp only [List.length_nil] at h2
      unfold gemotref11_Cut.b4
      rw [cond_t (by omega), refCut_inner rs i hi v h1 (by omega) (hl _ (List.getElem_mem hi)), Option.bind_some]
      unfold gemotref11_Cut.k3
      rw [wrap1 i (by omega)]
    · show gemotref11_Cut.b4 rs _ (rs.length : Int) = _
      unfold gemotref11_Cut.b4
      rw [cond_f (by omega), List.take_length]
  rw [hL]; rfl

/-! The sorted one. -/
theorem getA_putA {β : Type} (p q : Pl) (v : β) : ∀ m : List (Pl × β), getA p (putA q v m) = if p = q then some v else getA p m
  | [] => by simp only [putA, getA]
  | e :: m => by
    simp only [putA]
    by_cases h : q = e.1
    · rw [if_pos h]
      simp only [getA]
      by_cases hp : p = q
      · rw [if_pos hp, if_pos hp]
      · rw [if_neg hp, if_neg hp, if_neg (fun k => hp (by rw [k, h]))]
    · rw [if_neg h]
      simp only [getA]
      by_cases hp : p = e.1
      · rw [if_pos hp, if_neg (fun k => h (by rw [← k, hp])), if_pos hp]
      · rw [if_neg hp, getA_putA p q v m, if_neg hp]
theorem putA_keys {β : Type} (q : Pl) (v : β) : ∀ {m : List (Pl × β)}, (m.map (·.1)).Nodup → ((putA q v m).map (·.1)).Nodup ∧ ∀ p, p ∈ (putA q v m).map (·.1) → p = q ∨ p ∈ m.map (·.1)
  | [], _ => by simp [putA]
  | e :: m, h => by
    have h' := List.nodup_cons.1 h
    simp only [putA]
    by_cases hq : q = e.1
    · rw [if_pos hq]
      refine ⟨List.nodup_cons.2 ⟨by rw [hq]; exact h'.1, h'.2⟩, fun p hp => ?_⟩
      rcases List.mem_cons.1 hp with k | k
      · exact .inl k
      · exact .inr (List.mem_cons_of_mem _ k)
    · rw [if_neg hq]
      obtain ⟨i1, i2⟩ := putA_keys q v h'.2
      refine ⟨List.nodup_cons.2 ⟨fun k => ?_, i1⟩, fun p hp => ?_⟩
      · rcases i2 _ k with r | r
        · exact hq r.symm
        · exact h'.1 r
      · rcases List.mem_cons.1 hp with k | k
        · exact .inr (by rw [k]; exact List.mem_cons_self)
        · exact (i2 p k).imp id (List.mem_cons_of_mem _)
structure InvP (out : List D_cut_Part) (m : MapD) : Prop where
  sorted : SortedP out
  find : ∀ p, findP p out = getA p m
  nodup : (m.map (·.1)).Nodup
theorem inv_step {out : List D_cut_Part} {m : MapD} (id : D_api_Id) (g : D_cut_Log) (h : InvP out m) : InvP (refG id out g) (Cut.stepG id m g) := by
  have hk : keyP (id, g.1, g.2) = (id.1, id.2, g.1) := rfl
  unfold refG Cut.stepG
  by_cases h0 : 0 < g.2.length
  · rw [if_pos h0]
    cases hf : getA (id.1, id.2, g.1) m with
    | none =>
      rw [show ((none : Option (List (List UInt8))).getD []) = [] from rfl, if_pos (show ([] : List (List UInt8)).length < g.2.length from h0)]
      refine ⟨insP_sorted _ h.sorted, fun p => ?_, (putA_keys _ _ h.nodup).1⟩
      rw [insP_find _ _ h.sorted, getA_putA, hk, h.find]
      by_cases hp : p = (id.1, id.2, g.1)
      · rw [if_pos hp, if_pos hp, hp, hf]
      · rw [if_neg hp, if_neg hp]
    | some t =>
      rw [show ((some t).getD []) = t from rfl]
      by_cases hlt : t.length < g.2.length
      · rw [if_pos hlt]
        refine ⟨insP_sorted _ h.sorted, fun p => ?_, (putA_keys _ _ h.nodup).1⟩
        rw [insP_find _ _ h.sorted, getA_putA, hk, h.find]
        by_cases hp : p = (id.1, id.2, g.1)
        · rw [if_pos hp, if_pos hp, hp, hf]; simp [hlt]
        · rw [if_neg hp, if_neg hp]
      · rw [if_neg hlt]
        refine ⟨insP_sorted _ h.sorted, fun p => ?_, h.nodup⟩
        rw [insP_find _ _ h.sorted, hk, h.find]
        by_cases hp : p = (id.1, id.2, g.1)
        · rw [if_pos hp, hp, hf]; simp [hlt]
        · rw [if_neg hp]
  · rw [if_neg h0, if_neg (by omega)]
    exact h
theorem inv_logs (id : D_api_Id) : ∀ (gs : List D_cut_Log) {out : List D_cut_Part} {m : MapD}, InvP out m → InvP (gs.foldl (refG id) out) (gs.foldl (Cut.stepG id) m)
  | [], _, _, h => h
  | g :: gs, _, _, h => inv_logs id gs (inv_step id g h)
theorem inv_all : ∀ (rs : List D_cut_Report) {out : List D_cut_Part} {m : MapD}, InvP out m → InvP (rs.foldl refR out) (rs.foldl stepR m)
  | [], _, _, h => h
  | r :: rs, _, _, h => inv_all rs (inv_logs r.2.1 r.2.2 h)
theorem getA_key {β : Type} (p : Pl) : ∀ m : List (Pl × β), p ∈ m.map (·.1) ↔ ∃ v, getA p m = some v
  | [] => by simp [getA]
  | e :: m => by
    simp only [List.map_cons, List.mem_cons, getA]
    by_cases h : p = e.1
    · rw [if_pos h]; simp [h]
    · rw [if_neg h, ← getA_key p m]; simp [h]
theorem find_map (m : MapD) (p : Pl) : ∀ ks : List Pl, findP p (ks.map (partOf m)) = if p ∈ ks then some ((getA p m).getD []) else none
  | [] => by simp [findP]
  | k :: ks => by
    have hk : keyP (partOf m k) = k := rfl
    simp only [List.map_cons, findP, hk]
    by_cases h : p = k
    · rw [if_pos h, if_pos (by rw [h]; exact List.mem_cons_self), h]; rfl
    · rw [if_neg h, find_map m p ks]; simp [h]
theorem sorted_cut {m : MapD} (h : (m.map (·.1)).Nodup) : SortedP ((sortPl (m.map (·.1))).map (partOf m)) := by
  unfold SortedP
  rw [List.pairwise_map]
  have hk : ∀ k, keyP (partOf m k) = k := fun _ => rfl
  simp only [hk]
  have hp : (sortPl (m.map (·.1))).Perm (m.map (·.1)) := List.mergeSort_perm _ _
  have hn : (sortPl (m.map (·.1))).Nodup := hp.nodup_iff.2 h
  have tr : ∀ (a b c : Pl), (!(Go.Proofs.ltOf plCmp) b a) = true → (!(Go.Proofs.ltOf plCmp) c b) = true → (!(Go.Proofs.ltOf plCmp) c a) = true := fun a b c h1 h2 => by
    simp only [Bool.not_eq_true', ltPl_no] at *; omega
  have to : ∀ (a b : Pl), (!(Go.Proofs.ltOf plCmp) b a || !(Go.Proofs.ltOf plCmp) a b) = true := fun a b => by
    cases h1 : Go.Proofs.ltOf plCmp b a with
    | false => rfl
    | true =>
      have : Go.Proofs.ltOf plCmp a b = false := by rw [ltPl_no]; rw [ltPl] at h1; omega
      rw [this]; rfl
  have hs : (sortPl (m.map (·.1))).Pairwise fun a b => (!(Go.Proofs.ltOf plCmp) b a) = true := List.pairwise_mergeSort tr to _
  refine (hs.and hn).imp fun {a b} ⟨q, r⟩ => ?_
  simp only [Bool.not_eq_true', ltPl_no] at q
  rcases klt_tri a b with k | k | k
  · exact k
  · exact absurd k r
  · exact absurd k q
theorem refCut_cutL (rs : List D_cut_Report) : rs.foldl refR [] = cutL rs := by
  have h : InvP (rs.foldl refR []) (cutM rs) := inv_all rs ⟨List.Pairwise.nil, fun _ => rfl, List.nodup_nil⟩
  refine sorted_ext h.sorted (sorted_cut h.nodup) fun p => ?_
  rw [h.find, show cutL rs = (sortPl ((cutM rs).map (·.1))).map (partOf (cutM rs)) from rfl, find_map]
  have hm : p ∈ sortPl ((cutM rs).map (·.1)) ↔ p ∈ (cutM rs).map (·.1) := (List.mergeSort_perm _ _).mem_iff
  by_cases hp : p ∈ (cutM rs).map (·.1)
  · obtain ⟨v, hv⟩ := (getA_key p _).1 hp
    rw [if_pos (hm.2 hp), hv]; rfl
  · rw [if_neg (fun q => hp (hm.1 q))]
    cases hv : getA p (cutM rs) with
    | none => rfl
    | some v => exact absurd ((getA_key p _).2 ⟨v, hv⟩) hp
end Go.Proofs.Ytgomlcfoifkdiaa.G
