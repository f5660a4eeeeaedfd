/- RekeySecret, as it is reckoned: what is known makes no secret of the other names. -/
import Derived.Test.YtfapphlhkfddoaaGreatDoorSized
import Derived.KernelRfl
namespace Go.Proofs.YtfapphlhkfddoaaGreatDoor.G
open Go.RowKit Go.Eng Go.Proofs Go.Proofs.YtfapphlhkfddoaaGreatDoor.Cut
set_option linter.unusedVariables false
set_option maxRecDepth 20000
variable {ok : Nat → Prop} {w0 w : World} {L : List Eng.Item}
noncomputable def headM (t : List UInt8) : Option (List UInt8) :=
  (idxS t (0 : Int)).bind fun y => if five y then slcM t (1 : Int) (t.length : Int) else if y = 101 then slcM t (2 : Int) (t.length : Int) else some []
noncomputable def stepN (st : List (List UInt8) × List UInt8) : Option ((List (List UInt8) × List UInt8) ⊕ List (List UInt8)) :=
  if st.2 = [] then some (.inr st.1) else (term_Take.f st.2).bind fun y => if y.2.2 = 0 then some (.inl (st.1 ++ [y.1], y.2.1)) else some (.inr st.1)
noncomputable def nextM (t : List UInt8) : Option (List (List UInt8)) := (headM t).bind fun s => loopM stepN ([], s)
noncomputable def parts_Of.f (x0 : List UInt8) : Option (List (List UInt8)) :=
  (term_Right.f x0).bind fun b => cond b ((nextM x0).bind fun xs => givenM (xs.length ≤ 1000000000) (some xs)) (some [])
end Go.Proofs.YtfapphlhkfddoaaGreatDoor.G
namespace Go.Proofs.YtfapphlhkfddoaaGreatDoor.G
open Go.RowKit Go.Eng Go.Proofs Go.Proofs.YtfapphlhkfddoaaGreatDoor.Cut
set_option linter.unusedVariables false
set_option linter.unusedSimpArgs false
set_option maxRecDepth 20000
variable {ok : Nat → Prop} {w0 w : World} {L R : List Eng.Item}
def seenM (M : List (List UInt8)) (E : List (List (List UInt8))) (t : List UInt8) (ps : List (List UInt8)) : List (List UInt8) × List (List (List UInt8)) := if t ∈ M then (M, E) else (M ++ [t], if t.head? = some 101 then E ++ [ps] else E)
end Go.Proofs.YtfapphlhkfddoaaGreatDoor.G
namespace Go.Proofs.YtfapphlhkfddoaaGreatDoor.G
open Go.RowKit Go.Eng Go.Proofs Go.Proofs.YtfapphlhkfddoaaGreatDoor.Cut
set_option linter.unusedVariables false
set_option linter.unusedSimpArgs false
set_option maxRecDepth 20000
variable {ok : Nat → Prop} {w0 w : World} {L R : List Eng.Item}
abbrev KnS : Type := List (List UInt8) × List (List (List UInt8))
noncomputable def knowM : List (List UInt8) → KnS → Option KnS
  | [], S => some S
  | t :: l, S => (term_Right.f t).bind fun b => cond b ((parts_Of.f t).bind fun ps => givenM (t ≠ []) (knowM l (seenM S.1 S.2 t ps))) (knowM l S)
theorem knowM_cons (t : List UInt8) (l : List (List UInt8)) (S : KnS) : knowM (t :: l) S = (term_Right.f t).bind fun b => cond b ((parts_Of.f t).bind fun ps => givenM (t ≠ []) (knowM l (seenM S.1 S.2 t ps))) (knowM l S) := rfl
end Go.Proofs.YtfapphlhkfddoaaGreatDoor.G
namespace Go.Proofs.YtfapphlhkfddoaaGreatDoor.G
open Go.RowKit Go.Eng Go.Proofs Go.Proofs.YtfapphlhkfddoaaGreatDoor.Cut
set_option linter.unusedVariables false
set_option linter.unusedSimpArgs false
set_option maxRecDepth 20000
variable {ok : Nat → Prop} {w0 w : World} {L R : List Eng.Item}
def allG (f : Tx1 → Option Bool) : List Tx1 → Option Bool
  | [] => some true
  | t :: l => (f t).bind fun b => if b = true then allG f l else some false
def outL : List Tx1 → List Tx1 → Option (List Tx1)
  | [], left => some left
  | t :: base, left => if t ∈ left then outL base (left.eraseIdx (left.idxOf t)) else none
def anyG (f : Tx1 → Option Bool) (l : List Tx1) : List (List Tx1) → Option Bool
  | [] => some false
  | base :: E => match outL base l with
    | none => anyG f l E
    | some left => (allG f left).bind fun b => if b = true then some true else anyG f l E
def raisesG (f : Tx1 → Option Bool) (E : List (List Tx1)) (l : List Tx1) : Option Bool := (allG f l).bind fun b => if b = true then some true else anyG f l E
noncomputable def makesG (M : List Tx1) (E : List (List Tx1)) : Nat → Tx1 → Option Bool
  | 0, _ => none
  | n + 1, t => if t ∈ M then some true else match t with
    | [] => none
    | c :: r => if c = 103 ∨ c = 117 ∨ c = 116 then some true else if c = 110 ∨ c = 105 then some false else (parts_Of.f (c :: r)).bind fun ps => givenM (ps.length ≤ 1000000) (if c = 101 then raisesG (makesG M E n) E ps else allG (makesG M E n) ps)
theorem allG_mono {f g : Tx1 → Option Bool} (h : ∀ t b, f t = some b → g t = some b) : ∀ (l : List Tx1) (b : Bool), allG f l = some b → allG g l = some b
  | [], b, hb => hb
  | t :: l, b, hb => by
    obtain ⟨x, hx, hb⟩ := bindS (show (f t).bind _ = some b from hb)
    show (g t).bind _ = some b
    rw [h t x hx, Option.bind_some]
    split
    · rename_i hx1; rw [if_pos hx1] at hb; exact allG_mono h l b hb
    · rename_i hx1; rw [if_neg hx1] at hb; exact hb
theorem anyG_mono {f g : Tx1 → Option Bool} (h : ∀ t b, f t = some b → g t = some b) (l : List Tx1) : ∀ (E : List (List Tx1)) (b : Bool), anyG f l E = some b → anyG g l E = some b
  | [], b, hb => hb
  | base :: E, b, hb => by
    unfold anyG at hb ⊢
    cases ho : outL base l with
    | none => rw [ho] at hb; exact anyG_mono h l E b hb
    | some left =>
      rw [ho] at hb
      obtain ⟨x, hx, hb⟩ := bindS hb
      simp only
      rw [allG_mono h left x hx, Option.bind_some]
      split
      · rename_i hx1; rw [if_pos hx1] at hb; exact hb
      · rename_i hx1; rw [if_neg hx1] at hb; exact anyG_mono h l E b hb
theorem raisesG_mono {f g : Tx1 → Option Bool} (h : ∀ t b, f t = some b → g t = some b) (E : List (List Tx1)) (l : List Tx1) (b : Bool) (hb : raisesG f E l = some b) : raisesG g E l = some b := by
  unfold raisesG at hb ⊢
  obtain ⟨x, hx, hb⟩ := bindS hb
  rw [allG_mono h l x hx, Option.bind_some]
  split
  · rename_i hx1; rw [if_pos hx1] at hb; exact hb
  · rename_i hx1; rw [if_neg hx1] at hb; exact anyG_mono h l E b hb
theorem makesG_succ (M : List Tx1) (E : List (List Tx1)) : ∀ (n : Nat) (t : Tx1) (b : Bool), makesG M E n t = some b → makesG M E (n + 1) t = some b
  | 0, t, b, h => by cases h
  | n + 1, t, b, h => by
    have ih := makesG_succ M E n
    unfold makesG at h ⊢
    by_cases hm : t ∈ M
    · rw [if_pos hm] at h ⊢; exact h
    rw [if_neg hm] at h ⊢
    cases t with
    | nil => cases h
    | cons c r =>
      simp only at h ⊢
      by_cases h1 : c = 103 ∨ c = 117 ∨ c = 116
      · rw [if_pos h1] at h ⊢; exact h
      rw [if_neg h1] at h ⊢
      by_cases h2 : c = 110 ∨ c = 105
      · rw [if_pos h2] at h ⊢; exact h
      rw [if_neg h2] at h ⊢
      obtain ⟨ps, hps, h⟩ := bindS h
      rw [hps, Option.bind_some]
      obtain ⟨hpl, h⟩ := givenS h
      rw [given_of hpl]
      by_cases h3 : c = 101
      · rw [if_pos h3] at h ⊢; exact raisesG_mono ih E ps b h
      · rw [if_neg h3] at h ⊢; exact allG_mono ih ps b h
theorem makesG_mono {M : List Tx1} {E : List (List Tx1)} {t : Tx1} {b : Bool} {n m : Nat} (hm : n ≤ m) (h : makesG M E n t = some b) : makesG M E m t = some b := by
  obtain ⟨k, rfl⟩ : ∃ k, m = n + k := ⟨m - n, by omega⟩
  clear hm
  induction k with
  | zero => exact h
  | succ k ih => exact makesG_succ M E _ t b ih
theorem makesG_same {M : List Tx1} {E : List (List Tx1)} {t : Tx1} {a b : Bool} {n m : Nat} (h : makesG M E n t = some a) (h' : makesG M E m t = some b) : a = b := by
  have h1 := makesG_mono (Nat.le_max_left n m) h
  have h2 := makesG_mono (Nat.le_max_right n m) h'
  rw [h1] at h2
  exact Option.some.inj h2
end Go.Proofs.YtfapphlhkfddoaaGreatDoor.G
namespace Go.Proofs.YtfapphlhkfddoaaGreatDoor.G
open Go.RowKit Go.Eng Go.Proofs Go.Proofs.YtfapphlhkfddoaaGreatDoor.Cut Go.Sort
set_option linter.unusedVariables false
set_option linter.unusedSimpArgs false
set_option maxRecDepth 20000
variable {ok : Nat → Prop} {w0 w : World} {L R : List Eng.Item}
variable {g bm bq n : Nat} {ve : Value} {M : List Tx1} {E : List (List Tx1)}
theorem makesG_cons (c : UInt8) (r : List UInt8) (n : Nat) (hm : c :: r ∉ M) : makesG M E (n + 1) (c :: r) = if c = 103 ∨ c = 117 ∨ c = 116 then some true else if c = 110 ∨ c = 105 then some false else (parts_Of.f (c :: r)).bind fun ps => givenM (ps.length ≤ 1000000) (if c = 101 then raisesG (makesG M E n) E ps else allG (makesG M E n) ps) := by
  show (if c :: r ∈ M then _ else _) = _
  rw [if_neg hm]
end Go.Proofs.YtfapphlhkfddoaaGreatDoor.G
namespace Go.Proofs.YtfapphlhkfddoaaGreatDoor.G
open Go.RowKit Go.Eng Go.Proofs Go.Proofs.YtfapphlhkfddoaaGreatDoor.Cut
set_option linter.unusedVariables false
set_option linter.unusedSimpArgs false
def valE (l : List UInt8) : Nat := l.foldl (fun v b => 256 * v + b.toNat) 0
theorem bytesOf8 (n : Int) : bytesOf n 8 = [byteAt n 56, byteAt n 48, byteAt n 40, byteAt n 32, byteAt n 24, byteAt n 16, byteAt n 8, byteAt n 0] := rfl
theorem byte_nat (n : Nat) (k : Nat) (hk : k ≤ 64) : ((byteAt (n : Int) (k : Int)).toNat : Nat) = n / 2 ^ k % 256 := by
  unfold byteAt b8
  rw [show min ((k : Int)).toNat IntKind.u64.bits = k by simp [IntKind.bits]; omega]
  have : ((n : Int).fdiv (2 ^ k) % 256).toNat = n / 2 ^ k % 256 := by
    have h : (n : Int).fdiv (2 ^ k) = ((n / 2 ^ k : Nat) : Int) := by
      rw [Int.fdiv_eq_ediv_of_nonneg _ (by exact_mod_cast Nat.zero_le _)]
      norm_cast
    rw [h]; omega
  rw [this]
  simp
theorem bytes_nat (n : Nat) : (byteAt (n : Int) 56).toNat = n / 72057594037927936 % 256 ∧ (byteAt (n : Int) 48).toNat = n / 281474976710656 % 256 ∧ (byteAt (n : Int) 40).toNat = n / 1099511627776 % 256 ∧ (byteAt (n : Int) 32).toNat = n / 4294967296 % 256 ∧ (byteAt (n : Int) 24).toNat = n / 16777216 % 256 ∧ (byteAt (n : Int) 16).toNat = n / 65536 % 256 ∧ (byteAt (n : Int) 8).toNat = n / 256 % 256 ∧ (byteAt (n : Int) 0).toNat = n / 1 % 256 :=
  ⟨byte_nat n 56 (by omega), byte_nat n 48 (by omega), byte_nat n 40 (by omega), byte_nat n 32 (by omega), byte_nat n 24 (by omega), byte_nat n 16 (by omega), byte_nat n 8 (by omega), byte_nat n 0 (by omega)⟩
theorem valE_bytes (n : Nat) (h : n < 18446744073709551616) : valE (bytesOf (n : Int) 8) = n := by
  rw [bytesOf8]
  obtain ⟨e56, e48, e40, e32, e24, e16, e8, e0⟩ := bytes_nat n
  simp only [valE, List.foldl_cons, List.foldl_nil, e56, e48, e40, e32, e24, e16, e8, e0]
  omega
theorem name_inj {a b : Int} {c : UInt8} (ha : 0 ≤ a ∧ a < 18446744073709551616) (hb : 0 ≤ b ∧ b < 18446744073709551616) (h : countedT c a = countedT c b) : a = b := by
  have h1 : bytesOf a 8 = bytesOf b 8 := (List.cons.inj h).2
  obtain ⟨n, rfl⟩ : ∃ n : Nat, a = (n : Int) := ⟨a.toNat, by omega⟩
  obtain ⟨m, rfl⟩ : ∃ m : Nat, b = (m : Int) := ⟨b.toNat, by omega⟩
  have h2 := congrArg valE h1
  rw [valE_bytes n (by omega), valE_bytes m (by omega)] at h2
  rw [h2]
theorem full_cancel {x y r r' : List UInt8} {left : Nat} (hx : full x left) (hy : full y left) (h : x ++ r = y ++ r') : x = y ∧ r = r' := by
  have h1 := full_at (p := []) (r := r) hx
  have h2 := full_at (p := []) (r := r') hy
  simp only [List.nil_append] at h1 h2
  rw [h, h2] at h1
  exact List.append_inj h (by omega)
theorem flatten_inj {left : Nat} : ∀ {l m : List (List UInt8)}, (∀ x ∈ l, full x left) → (∀ x ∈ m, full x left) → l.flatten = m.flatten → l = m
  | [], [], _, _, _ => rfl
  | [], y :: m, _, hm, h => by
    have := full_pos (hm y List.mem_cons_self)
    have := congrArg List.length h
    simp only [List.flatten_nil, List.flatten_cons, List.length_append, List.length_nil] at this
    omega
  | x :: l, [], hl, _, h => by
    have := full_pos (hl x List.mem_cons_self)
    have := congrArg List.length h
    simp only [List.flatten_nil, List.flatten_cons, List.length_append, List.length_nil] at this
    omega
  | x :: l, y :: m, hl, hm, h => by
    obtain ⟨h1, h2⟩ := full_cancel (hl x List.mem_cons_self) (hm y List.mem_cons_self) (show x ++ l.flatten = y ++ m.flatten from h)
    rw [h1, flatten_inj (fun z hz => hl z (List.mem_cons_of_mem _ hz)) (fun z hz => hm z (List.mem_cons_of_mem _ hz)) h2]
theorem powT_perm {l m : List (List UInt8)} {left : Nat} (hl : ∀ x ∈ l, full x left) (hm : ∀ x ∈ m, full x left) (h : powT l = powT m) : l.Perm m := by
  have h1 : (sortB l).flatten = (sortB m).flatten := (List.cons.inj (List.cons.inj h).2).2
  have h2 := flatten_inj (fun x hx => hl x ((sortB_perm l).mem_iff.1 hx)) (fun x hx => hm x ((sortB_perm m).mem_iff.1 hx)) h1
  exact (sortB_perm l).symm.trans (h2 ▸ sortB_perm m)
theorem pair_cancel {a b c : List UInt8} (h : [a, b].Perm [a, c]) : b = c := List.singleton_perm_singleton.1 ((List.perm_cons a).1 h)
end Go.Proofs.YtfapphlhkfddoaaGreatDoor.G
namespace Go.Proofs.YtfapphlhkfddoaaGreatDoor.G
open Go.RowKit Go.Eng Go.Proofs Go.Proofs.YtfapphlhkfddoaaGreatDoor.Cut Go.Sort
set_option linter.unusedVariables false
set_option linter.unusedSimpArgs false
set_option maxRecDepth 20000
variable {ok : Nat → Prop} {w0 w : World} {L R : List Eng.Item}
def plainT (t : List UInt8) : Prop := ∃ c r ps, t = c :: r ∧ c ≠ 112 ∧ c ≠ 120 ∧ c ≠ 115 ∧ parts_Of.f t = some ps
end Go.Proofs.YtfapphlhkfddoaaGreatDoor.G
namespace Go.Proofs.YtfapphlhkfddoaaGreatDoor.G
open Go.RowKit Go.Eng Go.Proofs Go.Proofs.YtfapphlhkfddoaaGreatDoor.Cut
set_option linter.unusedVariables false
def closeP (l : List Tx1) (r : List Tx1) : Prop := l.length ≤ 1000000 ∧ ∃ S : KnS, knowM l ([], []) = some S ∧ S.1.length ≤ 1000000 ∧ (∀ t ∈ S.1, plainT t) ∧ r = sortB S.1
def deriveP (l : List Tx1) (t : Tx1) (b : Bool) : Prop := l.length ≤ 1000000 ∧ ∃ (S : KnS) (n : Nat), knowM l ([], []) = some S ∧ (∀ x ∈ S.2, x.length ≤ 1000000) ∧ term_Right.f t = some true ∧ makesG S.1 S.2 n t = some b
noncomputable def theOne {α : Type} (p : α → Prop) : Option α := by
  classical exact if h : ∃ x, p x then some h.choose else none
theorem theOne_eq {α : Type} {p : α → Prop} {x : α} (hp : p x) (hu : ∀ y, p y → y = x) : theOne p = some x := by
  unfold theOne
  rw [dif_pos ⟨x, hp⟩]
  exact congrArg some (hu _ (Exists.choose_spec (⟨x, hp⟩ : ∃ y, p y)))
noncomputable def know_Close.f (x0 : List Tx1) : Option (List (List UInt8)) := theOne (closeP x0)
noncomputable def know_Derives.f (x0 : List Tx1) (x1 : List UInt8) : Option Bool := theOne (deriveP x0 x1)
theorem close_eq {l : List Tx1} {S : KnS} (hl : l.length ≤ 1000000) (h1 : knowM l ([], []) = some S) (h2 : S.1.length ≤ 1000000) (h3 : ∀ t ∈ S.1, plainT t) : know_Close.f l = some (sortB S.1) :=
  theOne_eq ⟨hl, S, h1, h2, h3, rfl⟩ (fun y ⟨_, T, g1, _, _, g4⟩ => by rw [h1] at g1; cases g1; exact g4)
theorem derives_eq {l : List Tx1} {t : Tx1} {b : Bool} {S : KnS} {n : Nat} (hl : l.length ≤ 1000000) (h1 : knowM l ([], []) = some S) (h2 : ∀ x ∈ S.2, x.length ≤ 1000000) (h3 : term_Right.f t = some true) (h4 : makesG S.1 S.2 n t = some b) : know_Derives.f l t = some b :=
  theOne_eq ⟨hl, S, n, h1, h2, h3, h4⟩ (fun y ⟨_, T, m, g1, _, _, g4⟩ => by rw [h1] at g1; cases g1; exact makesG_same g4 h4)
end Go.Proofs.YtfapphlhkfddoaaGreatDoor.G
namespace Go.Proofs.YtfapphlhkfddoaaGreatDoor.G
open Go.RowKit Go.Eng Go.Proofs Go.Proofs.YtfapphlhkfddoaaGreatDoor.Cut
set_option linter.unusedVariables false
set_option linter.unusedSimpArgs false
theorem above_perm {a b c d : List UInt8} {left : Nat} (ha : full a left) (hb : full b left) (hc : full c left) (hd : full d left) (h : 107 :: powT [a, b] = 107 :: powT [c, d]) : [a, b].Perm [c, d] :=
  powT_perm (left := left) (fun x hx => by
    rcases List.mem_cons.1 hx with h | h
    · rw [h]; exact ha
    · rw [List.mem_singleton.1 h]; exact hb) (fun x hx => by
    rcases List.mem_cons.1 hx with h | h
    · rw [h]; exact hc
    · rw [List.mem_singleton.1 h]; exact hd) (List.cons.inj h).2
end Go.Proofs.YtfapphlhkfddoaaGreatDoor.G
namespace Go.Proofs.YtfapphlhkfddoaaGreatDoor.G
open Go.RowKit Go.Eng Go.Proofs Go.Proofs.YtfapphlhkfddoaaGreatDoor.Cut
set_option linter.unusedVariables false
set_option linter.unusedSimpArgs false
theorem small_two {nm : Int → List UInt8} {l r : Tr} (h : smallT nm (.two l r)) : smallT nm l ∧ smallT nm r := by
  obtain ⟨h1, h2⟩ := h
  have e : (Tr.two l r).leavesR.length = r.leavesR.length + l.leavesR.length := by simp [Tr.leavesR]
  exact ⟨⟨(isNm_two h1).1, by omega⟩, ⟨(isNm_two h1).2, by omega⟩⟩
end Go.Proofs.YtfapphlhkfddoaaGreatDoor.G
namespace Go.Proofs.YtfapphlhkfddoaaGreatDoor.G
open Go.RowKit Go.Eng Go.Proofs Go.Proofs.YtfapphlhkfddoaaGreatDoor.Cut
set_option linter.unusedVariables false
set_option linter.unusedSimpArgs false
theorem group_inj {v v' : D_api_View} {x x' : List UInt8} (h1 : v.2.length ≤ 100) (h2 : v'.2.length ≤ 100) (h : (104 : UInt8) :: 112 :: (putT (viewL v) ++ x) = 104 :: 112 :: (putT (viewL v') ++ x')) : putT (viewL v) = putT (viewL v') ∧ x = x' := by
  obtain ⟨f, l⟩ := view_full v h1
  obtain ⟨f', l'⟩ := view_full v' h2
  have h := (List.cons.inj (List.cons.inj h).2).2
  exact full_cancel (full_mono f (show v.2.length + 8 ≤ 200 by omega)) (full_mono f' (show v'.2.length + 8 ≤ 200 by omega)) h
theorem sec_perm {nm nm' : Int → List UInt8} : ∀ (S S' : Tr), smallT nm S → smallT nm' S' → secT nm S = secT nm' S' → (S.leavesR.map nm).Perm (S'.leavesR.map nm')
  | .leaf p, .leaf q, _, _, h => by
    have h : nm p = nm' q := h
    show [nm p].Perm [nm' q]
    rw [h]
  | .leaf p, .two l r, h1, h2, h => by
    have l1 := (secT_full (.leaf p) h1.1).2
    have l2 := (secT_full (.two l r) h2.1).2
    have p1 := leavesR_pos l
    have p2 := leavesR_pos r
    have e1 : (Tr.leaf p).leavesR.length = 1 := rfl
    have e2 : (Tr.two l r).leavesR.length = r.leavesR.length + l.leavesR.length := by simp [Tr.leavesR]
    have := congrArg List.length h
    omega
  | .two l r, .leaf p, h2, h1, h => by
    have l1 := (secT_full (.leaf p) h1.1).2
    have l2 := (secT_full (.two l r) h2.1).2
    have p1 := leavesR_pos l
    have p2 := leavesR_pos r
    have e1 : (Tr.leaf p).leavesR.length = 1 := rfl
    have e2 : (Tr.two l r).leavesR.length = r.leavesR.length + l.leavesR.length := by simp [Tr.leavesR]
    have := congrArg List.length h
    omega
  | .two l r, .two l' r', h1, h2, h => by
    obtain ⟨a1, a2⟩ := small_two h1
    obtain ⟨b1, b2⟩ := small_two h2
    have hp := above_perm (sec_le a1).1 (sec_le a2).1 (sec_le b1).1 (sec_le b2).1 h
    rw [leavesR_two, leavesR_two, List.map_append, List.map_append]
    by_cases e : secT nm l = secT nm' l'
    · rw [e] at hp
      have e2 := pair_cancel hp
      exact (sec_perm r r' a2 b2 e2).append (sec_perm l l' a1 b1 e)
    · have hm : secT nm l ∈ [secT nm' l', secT nm' r'] := hp.mem_iff.1 List.mem_cons_self
      have e1 : secT nm l = secT nm' r' := by
        rcases List.mem_cons.1 hm with q | q
        · exact absurd q e
        · exact List.mem_singleton.1 q
      rw [e1] at hp
      have e2 : secT nm r = secT nm' l' := pair_cancel (hp.trans (List.Perm.swap _ _ _))
      exact ((sec_perm r l' a2 b1 e2).append (sec_perm l r' a1 b2 e1)).trans List.perm_append_comm
theorem u64_mod (x : Int) : IntKind.u64.wrap x = x % 18446744073709551616 := by simp [IntKind.wrap, IntKind.bits, IntKind.signed]
theorem nm_num {x y : Int} {i j : Nat} (hi : i ≤ 1000) (hj : j ≤ 1000) (h : nmAt x i = nmAt y j) : (x + i) % 18446744073709551616 = (y + j) % 18446744073709551616 := by
  unfold nmAt at h
  rw [u64_mod, u64_mod, u64_mod, u64_mod, Int.emod_eq_of_lt (a := (i : Int)) (by omega) (by omega), Int.emod_eq_of_lt (a := (j : Int)) (by omega) (by omega)] at h
  exact name_inj (by omega) (by omega) h
theorem sec_head {T : Tr} {m : List Int} {x : Int} : ∃ c r, secT (nmOf m x) T = c :: r ∧ (c = 110 ∨ c = 107) := by
  cases T with
  | leaf p => exact ⟨110, _, rfl, .inl rfl⟩
  | two l r => exact ⟨107, _, rfl, .inr rfl⟩
end Go.Proofs.YtfapphlhkfddoaaGreatDoor.G
namespace Go.Proofs.YtfapphlhkfddoaaGreatDoor.G
open Go.RowKit Go.Eng Go.Proofs Go.Proofs.YtfapphlhkfddoaaGreatDoor.Cut
set_option linter.unusedVariables false
set_option linter.unusedSimpArgs false
theorem next_loop {l : List Tx1} (hf : ∀ x ∈ l, full x 400) (hl : l.flatten.length ≤ 20000) : loopM stepN (([] : List Tx1), l.flatten) = some l := by
  have go : ∀ (r done : List Tx1), done ++ r = l → loopM stepN (done, r.flatten) = some l := by
    intro r
    induction r with
    | nil =>
      intro done hd
      refine loop_end ?_
      unfold stepN
      rw [if_pos (show ([] : List Tx1).flatten = [] from rfl)]
      rw [List.append_nil] at hd
      rw [hd]
    | cons x r ih =>
      intro done hd
      have hx : full x 400 := hf x (by rw [← hd]; simp)
      have hlen : (x ++ r.flatten).length ≤ 20000 := by
        have := congrArg (fun l => l.flatten.length) hd
        simp only [List.flatten_append, List.length_append, List.flatten_cons] at this
        rw [List.length_append]
        omega
      refine loop_step ?_ (ih (done ++ [x]) (by rw [← hd]; simp))
      unfold stepN
      have hne : ¬ (x :: r).flatten = [] := fun e => by
        have := full_pos hx
        rw [List.flatten_cons, List.append_eq_nil_iff] at e
        rw [e.1] at this; simp at this
      simp only
      rw [if_neg hne, List.flatten_cons, take_first hx hlen, Option.bind_some, if_pos rfl]
  exact go l [] rfl
theorem parts_go {t : Tx1} {l : List Tx1} (hr : rightB t = true) (hh : headM t = some l.flatten) (hf : ∀ x ∈ l, full x 400) (hl : l.flatten.length ≤ 20000) (hn : l.length ≤ 1000000) : parts_Of.f t = some l := by
  have hb := rightB_len hr
  unfold parts_Of.f nextM
  rw [right_spec (by omega), Option.bind_some, hr, cond_true, hh, Option.bind_some, next_loop hf hl, Option.bind_some, given_of (by omega)]
theorem parts_one {c : UInt8} {x : Tx1} (hc : c = 107 ∨ c = 104) (hx : full x 400) (hr : rightB (c :: x) = true) : parts_Of.f (c :: x) = some [x] := by
  have hb := rightB_len hr
  refine parts_go hr ?_ (fun y hy => by rw [List.mem_singleton.1 hy]; exact hx) (by simp at hb ⊢; omega) (by simp)
  unfold headM
  rw [show idxS (c :: x) (0 : Int) = some (c.toNat : Int) from rfl, Option.bind_some, if_pos (by rcases hc with h | h <;> rw [h] <;> unfold five <;> decide)]
  have := slc_to (xs := c :: x) (a := 1) (by simp)
  rw [show slcM (c :: x) (1 : Int) ((c :: x).length : Int) = _ from this]
  simp
theorem parts_two {a b : Tx1} (ha : full a 400) (hb : full b 400) (hr : rightB (112 :: (a ++ b)) = true) : parts_Of.f (112 :: (a ++ b)) = some [a, b] := by
  have hl := rightB_len hr
  refine parts_go hr ?_ (fun y hy => by
    rcases List.mem_cons.1 hy with q | q
    · rw [q]; exact ha
    · rw [List.mem_singleton.1 q]; exact hb) (by simp at hl ⊢; omega) (by simp)
  unfold headM
  rw [show idxS (112 :: (a ++ b)) (0 : Int) = some ((112 : UInt8).toNat : Int) from rfl, Option.bind_some, if_pos (by unfold five; decide)]
  have := slc_to (xs := 112 :: (a ++ b)) (a := 1) (by simp)
  rw [show slcM (112 :: (a ++ b)) (1 : Int) ((112 :: (a ++ b)).length : Int) = _ from this]
  simp
theorem parts_el {n : UInt8} {l : List Tx1} (hf : ∀ x ∈ l, full x 400) (hr : rightB (101 :: n :: l.flatten) = true) (hn : l.length ≤ 1000000) : parts_Of.f (101 :: n :: l.flatten) = some l := by
  have hl := rightB_len hr
  refine parts_go hr ?_ hf (by simp at hl ⊢; omega) hn
  unfold headM
  rw [show idxS (101 :: n :: l.flatten) (0 : Int) = some ((101 : UInt8).toNat : Int) from rfl, Option.bind_some, if_neg (by unfold five; decide), if_pos (by decide)]
  have := slc_to (xs := 101 :: n :: l.flatten) (a := 2) (by simp)
  rw [show slcM (101 :: n :: l.flatten) (2 : Int) ((101 :: n :: l.flatten).length : Int) = _ from this]
  rfl
theorem parts_nil {c : UInt8} {x : Tx1} (hc : ¬ five (c.toNat : Int)) (hc2 : c ≠ 101) (hr : rightB (c :: x) = true) : parts_Of.f (c :: x) = some [] := by
  refine parts_go hr ?_ (fun y hy => by cases hy) (by simp) (by simp)
  unfold headM
  rw [show idxS (c :: x) (0 : Int) = some (c.toNat : Int) from rfl, Option.bind_some, if_neg hc, if_neg (fun e => hc2 (UInt8.toNat_inj.1 (by show c.toNat = 101; omega)))]
  rfl
def goodT (t : Tx1) : Prop := t ≠ [] ∧ term_Right.f t = some true ∧ ∃ ps, parts_Of.f t = some ps
theorem know_spec : ∀ (l : List Tx1) (S0 : KnS), (∀ t ∈ l, goodT t) → ∃ S, knowM l S0 = some S ∧ (∀ t, t ∈ S.1 ↔ t ∈ S0.1 ∨ t ∈ l) ∧ (∀ e ∈ S.2, e ∈ S0.2 ∨ ∃ t ∈ l, t.head? = some 101 ∧ parts_Of.f t = some e) ∧ (∀ t ∈ l, t ∉ S0.1 → t.head? = some 101 → ∀ e, parts_Of.f t = some e → e ∈ S.2) ∧ (∀ e ∈ S0.2, e ∈ S.2) ∧ S.1.length ≤ S0.1.length + l.length
  | [], S0, _ => ⟨S0, rfl, fun t => by simp, fun e he => .inl he, fun t ht => (by cases ht), fun e he => he, by simp⟩
  | t :: l, S0, hg => by
    obtain ⟨h1, h2, ps, h3⟩ := hg t List.mem_cons_self
    obtain ⟨S, k1, k2, k3, k4, k5, k6⟩ := know_spec l (seenM S0.1 S0.2 t ps) (fun x hx => hg x (List.mem_cons_of_mem _ hx))
    have hM : ∀ x, x ∈ (seenM S0.1 S0.2 t ps).1 ↔ x ∈ S0.1 ∨ x = t := by
      intro x
      unfold seenM
      split
      · rename_i hin
        exact ⟨.inl, fun q => q.elim id (fun e => by rw [e]; exact hin)⟩
      · simp
    have hE : ∀ e, e ∈ (seenM S0.1 S0.2 t ps).2 → e ∈ S0.2 ∨ (t.head? = some 101 ∧ parts_Of.f t = some e) := by
      intro e he
      unfold seenM at he
      split at he
      · exact .inl he
      · simp only at he
        split at he
        · rename_i hh
          rcases List.mem_append.1 he with q | q
          · exact .inl q
          · rw [List.mem_singleton.1 q]; exact .inr ⟨hh, h3⟩
        · exact .inl he
    have hE2 : ∀ e ∈ S0.2, e ∈ (seenM S0.1 S0.2 t ps).2 := by
      intro e he
      unfold seenM
      split
      · exact he
      · simp only
        split
        · exact List.mem_append_left _ he
        · exact he
    have hE3 : t ∉ S0.1 → t.head? = some 101 → ps ∈ (seenM S0.1 S0.2 t ps).2 := by
      intro hn hh
      unfold seenM
      rw [if_neg hn, if_pos hh]
      simp
    have hlen : (seenM S0.1 S0.2 t ps).1.length ≤ S0.1.length + 1 := by
      unfold seenM
      split
      · simp
      · simp
    refine ⟨S, ?_, ?_, ?_, ?_, ?_, ?_⟩
    · rw [knowM_cons, h2, Option.bind_some, cond_true, h3, Option.bind_some, given_of h1]
      exact k1
    · intro x
      rw [k2, hM, List.mem_cons]
      constructor
      · rintro ((q | q) | q)
        · exact .inl q
        · exact .inr (.inl q)
        · exact .inr (.inr q)
      · rintro (q | q | q)
        · exact .inl (.inl q)
        · exact .inl (.inr q)
        · exact .inr q
    · intro e he
      rcases k3 e he with q | ⟨x, hx, q⟩
      · rcases hE e q with q | q
        · exact .inl q
        · exact .inr ⟨t, List.mem_cons_self, q⟩
      · exact .inr ⟨x, List.mem_cons_of_mem _ hx, q⟩
    · intro x hx hn hh e he
      by_cases hxt : x = t
      · subst hxt
        rw [h3] at he; cases he
        exact k5 _ (hE3 hn hh)
      · rcases List.mem_cons.1 hx with q | q
        · exact absurd q hxt
        · exact k4 x q (fun c => ((hM x).1 c).elim hn hxt) hh e he
    · intro e he
      exact k5 e (hE2 e he)
    · rw [List.length_cons]; omega
theorem makesG_at {M : List Tx1} {E : List (List Tx1)} (c : UInt8) (r : Tx1) (n : Nat) {ps : List Tx1} (hm : c :: r ∉ M) (h1 : ¬ (c = 103 ∨ c = 117 ∨ c = 116)) (h2 : ¬ (c = 110 ∨ c = 105)) (hps : parts_Of.f (c :: r) = some ps) (hl : ps.length ≤ 1000000) : makesG M E (n + 1) (c :: r) = if c = 101 then raisesG (makesG M E n) E ps else allG (makesG M E n) ps := by
  rw [makesG_cons c r n hm, if_neg h1, if_neg h2, hps, Option.bind_some, given_of hl]
theorem all_one {f : Tx1 → Option Bool} {x : Tx1} {a : Bool} (h : f x = some a) : allG f [x] = some a := by
  show (f x).bind _ = _
  rw [h, Option.bind_some]
  cases a <;> rfl
theorem all_two {f : Tx1 → Option Bool} {x y : Tx1} {a b : Bool} (h : f x = some a) (h' : f y = some b) : allG f [x, y] = some (a && b) := by
  show (f x).bind _ = _
  rw [h, Option.bind_some]
  cases a
  · rfl
  · show allG f [y] = _
    rw [all_one h']; rfl
theorem any_one {f : Tx1 → Option Bool} {x y : Tx1} {a b : Bool} (h : f x = some a) (h' : f y = some b) : ∀ E : List (List Tx1), (∀ e ∈ E, ∃ s, e = [s]) → ∃ z, anyG f [x, y] E = some z ∧ (z = true → a = true ∨ b = true) ∧ ([x] ∈ E → b = true → z = true) ∧ ([y] ∈ E → a = true → z = true ∨ (x = y ∧ b = false))
  | [], _ => ⟨false, rfl, fun h => (by cases h), fun h => (by cases h), fun h => (by cases h)⟩
  | e :: E, hE => by
    obtain ⟨s, rfl⟩ := hE e List.mem_cons_self
    obtain ⟨z, hz, z1, z2, z3⟩ := any_one h h' E (fun e he => hE e (List.mem_cons_of_mem _ he))
    have hcons : anyG f [x, y] ([s] :: E) = match outL [s] [x, y] with
      | none => anyG f [x, y] E
      | some left => (allG f left).bind fun b => if b = true then some true else anyG f [x, y] E := rfl
    have hout : outL [s] [x, y] = if s ∈ [x, y] then some ([x, y].eraseIdx ([x, y].idxOf s)) else none := rfl
    by_cases hx : s = x
    · subst hx
      have ho : outL [s] [s, y] = some [y] := by
        rw [hout, if_pos List.mem_cons_self]
        simp
      rw [hcons, ho]
      simp only
      rw [all_one h', Option.bind_some]
      cases b with
      | true => exact ⟨true, rfl, fun _ => .inr rfl, fun _ _ => rfl, fun _ _ => .inl rfl⟩
      | false =>
        refine ⟨z, hz, z1, fun _ q => (by cases q), fun q qa => ?_⟩
        rcases List.mem_cons.1 q with q | q
        · exact .inr ⟨by injection q with q1; exact q1.symm, rfl⟩
        · exact z3 q qa
    by_cases hy : s = y
    · subst hy
      have ho : outL [s] [x, s] = some [x] := by
        rw [hout, if_pos (by simp)]
        rw [List.idxOf_cons, show (x == s) = false from beq_eq_false_iff_ne.2 (fun e => hx e.symm)]
        simp
      rw [hcons, ho]
      simp only
      rw [all_one h, Option.bind_some]
      cases a with
      | true => exact ⟨true, rfl, fun _ => .inl rfl, fun _ _ => rfl, fun _ _ => .inl rfl⟩
      | false =>
        refine ⟨z, hz, z1, fun q qb => ?_, fun _ q => (by cases q)⟩
        rcases List.mem_cons.1 q with q | q
        · exact absurd (by injection q with q1; exact q1.symm) hx
        · exact z2 q qb
    · have ho : outL [s] [x, y] = none := by
        rw [hout, if_neg (by simp [hx, hy])]
      rw [hcons, ho]
      refine ⟨z, hz, z1, fun q qb => ?_, fun q qa => ?_⟩
      · rcases List.mem_cons.1 q with q | q
        · exact absurd (by injection q with q1; exact q1.symm) hx
        · exact z2 q qb
      · rcases List.mem_cons.1 q with q | q
        · exact absurd (by injection q with q1; exact q1.symm) hy
        · exact z3 q qa
theorem makes_yes {M : List Tx1} {E : List (List Tx1)} {t : Tx1} {N : Nat} (h : t ∉ M → makesG M E (N + 1) t = some true) : makesG M E (N + 1) t = some true := by
  by_cases hm : t ∈ M
  · show (if t ∈ M then some true else _) = _
    rw [if_pos hm]
  · exact h hm
theorem makes_num (M : List Tx1) (E : List (List Tx1)) (x : Int) (N : Nat) : makesG M E (N + 1) (countedT 117 x) = some true :=
  makes_yes fun hm => by
    show makesG M E (N + 1) (117 :: bytesOf x 8) = _
    rw [makesG_cons 117 _ N hm, if_pos (.inr (.inl rfl))]
theorem makes_nums (M : List Tx1) (E : List (List Tx1)) : ∀ (l : List Tx1), (∀ t ∈ l, ∃ x, t = countedT 117 x) → l.length ≤ 100 → ∃ N, makesG M E (N + 1) (putT l) = some true
  | [], _, _ => ⟨0, by rw [putT_nil]; exact makes_num M E 0 0⟩
  | t :: l, h, hl => by
    obtain ⟨N, hN⟩ := makes_nums M E l (fun x hx => h x (List.mem_cons_of_mem _ hx)) (by simp at hl; omega)
    have hf : ∀ x ∈ t :: l, full x 1 := fun x hx => by obtain ⟨n, rfl⟩ := h x hx; exact full_number n
    have hlen := putT_len_le 9 (t :: l) (fun x hx => by obtain ⟨n, rfl⟩ := h x hx; simp [countedT, bytesOf_length])
    have f1 := full_put (t :: l) hf (Nat.le_refl _)
    have f2 := full_put l (fun x hx => hf x (List.mem_cons_of_mem _ hx)) (Nat.le_refl _)
    have hll : (t :: l).length ≤ 100 := hl
    have hll2 : l.length ≤ 100 := by rw [List.length_cons] at hll; omega
    have hr : rightB (putT (t :: l)) = true := full_right (full_mono f1 (by omega)) (by omega)
    refine ⟨N + 1, makes_yes fun hm => ?_⟩
    rw [putT_cons] at hm hr ⊢
    rw [makesG_at 112 _ (N + 1) hm (by decide) (by decide) (parts_two (full_mono (hf t List.mem_cons_self) (by omega)) (full_mono f2 (by omega)) hr) (by simp), if_neg (by decide)]
    obtain ⟨x, rfl⟩ := h t List.mem_cons_self
    rw [all_two (makes_num M E x N) hN]; rfl
end Go.Proofs.YtfapphlhkfddoaaGreatDoor.G
namespace Go.Proofs.YtfapphlhkfddoaaGreatDoor.G
open Go.RowKit Go.Eng Go.Proofs
set_option linter.unusedVariables false
set_option maxRecDepth 20000
noncomputable def gemotref10_Same.b1 (x0 : List Int) (x1 : List Int) (v169 : Int) : Option (Int ⊕ (Unit ⊕ Bool)) := cond (decide (v169 < (x0.length : Int))) ((idxL x0 v169).bind fun y254 => (idxL x1 v169).bind fun y260 => cond (y254 != y260) (some (.inr (Sum.inr false))) (some (.inl (IntKind.i64.wrap (v169 + (1 : Int)))))) (some (.inr (Sum.inl ())))
noncomputable def gemotref10_Same.k2 : Option (Bool) := some true
noncomputable def gemotref10_Same.f (x0 : List Int) (x1 : List Int) : Option (Bool) := cond ((x0.length : Int) != (x1.length : Int)) (some false) ((loopM (fun s237 : Int => gemotref10_Same.b1 x0 x1 s237) (0 : Int)).bind (Sum.elim (fun (o235 : Unit) => gemotref10_Same.k2) (fun (o236 : Bool) => some o236)))
set_option maxHeartbeats 4000000 in
theorem gemotref10_Same_ok {ok : Nat → Prop} {w : World} {u1 u6 : Value} {x0 : List Int} {x1 : List Int} {r : Bool} (hu2 : slR (tInt .i64) w ok u1 x0) (hu7 : slR (tInt .i64) w ok u6 x1) (h : gemotref10_Same.f x0 x1 = some r) :
    Calls Tryz.prog 33 #[u1, u6] w fun e w' => ∃ v, e = .returned v ∧ (v = .bool r ∧ Bel w.heap.size w w') := by
  have H : Eng.Own ok w w [] := Eng.Own.nil ok w
  obtain ⟨A3, c4, rfl, H⟩ := H.arg rfl hu2
  obtain ⟨A8, c9, rfl, H⟩ := H.arg rfl hu7
  unfold gemotref10_Same.f at h
  refine enterN (args := [.slice A3 x0.length c4, .slice A8 x1.length c9]) Tryz.func33 rfl Tryz.ntmps33 rfl rfl ?_
  refine nc_seq ?_
  refine nc ?_
  refine nc_seq ?_
  refine nc_seq ?_
  refine nc ?_
  refine nc_cond rfl (fun hc11 => ?_) (fun hc11 => ?_)
  · replace h := condT hc11 h
    refine nc_seq ?_
    refine nc ?_
    refine nc ?_
    replace h := Option.some.inj h
    subst h
    exact ret_inA [.bool false] ⟨_, rfl, ⟨rfl, H.frame⟩⟩
  · replace h := condF hc11 h
    refine nc ?_
    refine nc_cut (fun e w139 => gemotref10_Same.k2 = some r ∧ e = [] ∧ Eng.Own ok w w139 []) ?_ ?_
    · skip
      refine nc_seq ?_
      refine nc ?_
      refine nc_block ?_
      obtain ⟨o227, hL228, hO229⟩ := bindS h
      obtain ⟨n230, hL228⟩ := loopS hL228
      refine nc ?_
      refine loop_ruleA (fun k e w234 => ∃ (v169 : Int), iterM (fun s237 : Int => gemotref10_Same.b1 x0 x1 s237) k v169 = some o227 ∧ e = [(0, .slice A3 x0.length c4), (1, .slice A8 x1.length c9), (5, .int .i64 v169)] ∧ Eng.Own ok w w234 [.dat (dSl (tInt .i64) (.slice A3 x0.length c4) x0), .dat (dSl (tInt .i64) (.slice A8 x1.length c9) x1)]) ⟨_, hL228, rfl, H.pickL [1, 0] rfl⟩ ?_
      rintro k239 _ w238 ⟨v169, hL228, rfl, H⟩
      obtain ⟨k233, rfl, q231, h, hq232⟩ := iterS hL228
      replace h : gemotref10_Same.b1 x0 x1 v169 = some q231 := h
      unfold gemotref10_Same.b1 at h
      refine nc_seq ?_
      refine nc_seq ?_
      refine nc ?_
      refine nc_cond rfl (fun hc240 => ?_) (fun hc240 => ?_)
      · replace h := condT hc240 h
        refine nc ?_
        refine nc_seq ?_
        refine nc_block ?_
        refine nc_seq ?_
        obtain ⟨y254, hx255, h⟩ := bindS h
        obtain ⟨a256, cs257, rfl, hR258, H⟩ := H.elemI 0 rfl hx255
        obtain rfl : cs257 = [.int .i64 y254] := hR258
        obtain ⟨y260, hx261, h⟩ := bindS h
        obtain ⟨a262, cs263, rfl, hR264, H⟩ := H.elemI 2 rfl hx261
        obtain rfl : cs263 = [.int .i64 y260] := hR264
        refine nc ?_
        refine draw_rule [] (by kernel_rfl) (by kernel_rfl) H ?_
        refine c_idxA (e := 3) 1 _ (by kernel_rfl) (by kernel_rfl) (idxL_some hx255).1 (idxL_some hx255).2.1 ?_
        refine c_loadD 1 rfl 0 (by kernel_rfl) rfl ?_
        refine c_idxA (e := 3) 1 _ (by kernel_rfl) (by kernel_rfl) (idxL_some hx261).1 (idxL_some hx261).2.1 ?_
        refine c_loadD 0 rfl 0 (by kernel_rfl) rfl ?_
        intro w266 H
        refine nc_cond rfl (fun hc267 => ?_) (fun hc267 => ?_)
        · replace h := condT hc267 h
          refine nc_seq ?_
          refine nc ?_
          refine nc ?_
          cases h
          replace hq232 : (Sum.inr false) = o227 := hq232
          subst hq232
          have h := hO229
          try dsimp only [Sum.elim_inl, Sum.elim_inr] at h
          replace h := Option.some.inj h
          subst h
          exact ret_inA [.bool false] ⟨_, rfl, ⟨rfl, H.frame⟩⟩
        · replace h := condF hc267 h
          refine nc ?_
          refine nc ?_
          cases h
          exact again_inA ⟨_, hq232, rfl, H.pickL [2, 3] rfl⟩
      · replace h := condF hc240 h
        refine nc ?_
        cases h
        replace hq232 : (Sum.inl ()) = o227 := hq232
        subst hq232
        have h := hO229
        try dsimp only [Sum.elim_inl, Sum.elim_inr] at h
        exact cut_inA ⟨h, rfl, H.pickL [] rfl⟩
    · rintro _ w268 ⟨h, rfl, H⟩
      unfold gemotref10_Same.k2 at h
      refine nc_seq ?_
      refine nc ?_
      refine nc ?_
      replace h := Option.some.inj h
      subst h
      exact ret_inA [.bool true] ⟨_, rfl, ⟨rfl, H.frame⟩⟩
end Go.Proofs.YtfapphlhkfddoaaGreatDoor.G
namespace Go.Proofs.YtfapphlhkfddoaaGreatDoor.G
open Go.RowKit Go.Eng Go.Proofs Go.Proofs.YtfapphlhkfddoaaGreatDoor.Cut
set_option linter.unusedVariables false
set_option linter.unusedSimpArgs false
theorem nm_apart2 {T : Tr} (hk : T.ok) (hn : T.leavesR.Nodup) (p q : Int) : nmS T 100 p ≠ nmS T 200 q := by
  intro h
  have h8 := leaves_eight hk hn
  have hl := sortZ_len T.leavesR
  have hm : (memS T).length ≤ 8 := by show (sortZ _).length ≤ 8; omega
  have hi : (memS T).idxOf p ≤ (memS T).length := List.idxOf_le_length
  have hj : (memS T).idxOf q ≤ (memS T).length := List.idxOf_le_length
  have := nm_num (x := 100) (y := 200) (i := (memS T).idxOf p) (j := (memS T).idxOf q) (by omega) (by omega) h
  omega
theorem sec_apart2 {T S S' : Tr} {n n' : List UInt8} (hk : T.ok) (hn : T.leavesR.Nodup) (hs : subT T n = some S) (hs' : subT T n' = some S') : secT (nmS T 100) S ≠ secT (nmS T 200) S' := by
  intro h
  have hp := sec_perm S S' (nm_small hk hn (memS T) 100 hs) (nm_small hk hn (memS T) 200 hs') h
  have hx := head_in (leavesR_pos S)
  have hm := hp.mem_iff.1 (List.mem_map_of_mem (f := nmS T 100) hx)
  obtain ⟨q, _, e⟩ := List.mem_map.1 hm
  exact nm_apart2 hk hn _ q e.symm
def knownT (T : Tr) (W : D_api_View) (t : Tx1) : Prop :=
  (∃ x, x.length ≤ 100 ∧ t = textT x) ∨ (∃ f n S, subT T n = some S ∧ t = 101 :: 1 :: secT (nmS T f) S) ∨ (∃ X f p, ViewOk T X ∧ t = markT (keyT T X f) p) ∨ t = keyT T W 200 ∨ (∃ n S, subT T n = some S ∧ t = secT (nmS T 200) S)
section
variable {T : Tr} {V W : D_api_View}
theorem sec_hd (S : Tr) (f : Int) : ∃ c r, secT (nmS T f) S = c :: r ∧ (c = 110 ∨ c = 107) := sec_head
theorem key_in_full (hv : ViewOk T V) (f : Int) : full (112 :: (putT (viewL V) ++ secT (nmS T f) T)) 397 := by
  have h8 := leaves_eight hv.ok hv.nd
  have hl : V.2.length ≤ 8 := by rw [hv.ms, sortZ_len]; omega
  obtain ⟨f1, l⟩ := view_full V (by omega)
  have sf := (secT_full T (nm_small hv.ok hv.nd (memS T) f (subT_nil T)).1).1
  exact full_mono (full_pairT (full_mono f1 (show V.2.length + 8 ≤ 30 by omega)) (full_mono sf (show 2 * T.leavesR.length ≤ 30 by omega))) (by omega)
theorem num_full (p : Int) : full (countedT 117 (IntKind.u64.wrap p)) 1 ∧ (countedT 117 (IntKind.u64.wrap p)).length = 9 := ⟨full_number _, by simp [countedT, bytesOf_length]⟩
theorem key_good (hv : ViewOk T V) (f : Int) : rightB (keyT T V f) = true ∧ parts_Of.f (keyT T V f) = some [112 :: (putT (viewL V) ++ secT (nmS T f) T)] := by
  obtain ⟨k1, k2⟩ := key_full (first := f) hv
  have hr : rightB (keyT T V f) = true := full_right (full_mono k1 (by omega)) (by omega)
  exact ⟨hr, parts_one (.inr rfl) (full_mono (key_in_full hv f) (by omega)) hr⟩
theorem mark_good (hv : ViewOk T V) (f p : Int) : (markT (keyT T V f) p).length ≤ 2000 ∧ rightB (markT (keyT T V f) p) = true ∧ ∃ ps, parts_Of.f (markT (keyT T V f) p) = some ps := by
  obtain ⟨k1, k2⟩ := key_full (first := f) hv
  obtain ⟨n1, n2⟩ := num_full p
  have fp := full_pairT k1 (full_mono n1 (show 1 ≤ 398 by omega))
  have fh := full_hash fp
  have hl : (markT (keyT T V f) p).length ≤ 2000 := by unfold markT; simp [n2]; omega
  have hr : rightB (markT (keyT T V f) p) = true := full_right (full_mono fh (by omega)) (by omega)
  exact ⟨hl, hr, _, parts_one (.inr rfl) (full_mono fp (by omega)) hr⟩
theorem sec_good (hk : T.ok) (hn : T.leavesR.Nodup) (f : Int) {S : Tr} {n : List UInt8} (hs : subT T n = some S) : rightB (secT (nmS T f) S) = true ∧ ∃ ps, parts_Of.f (secT (nmS T f) S) = some ps := by
  have hsm := nm_small hk hn (memS T) f hs
  obtain ⟨f1, l⟩ := sec_le hsm
  have l : (secT (nmS T f) S).length ≤ 96 := l
  have hr : rightB (secT (nmS T f) S) = true := full_right (full_mono f1 (show 398 ≤ 400 by omega)) (by omega)
  refine ⟨hr, ?_⟩
  cases S with
  | leaf p => exact ⟨_, parts_nil (c := 110) (by unfold five; decide) (by decide) hr⟩
  | two l r =>
    obtain ⟨s1, s2⟩ := small_two hsm
    exact ⟨_, parts_one (.inl rfl) (full_mono (full_two (sec_le s1).1 (sec_le s2).1) (by omega)) hr⟩
theorem bl_good (hk : T.ok) (hn : T.leavesR.Nodup) (f : Int) {S : Tr} {n : List UInt8} (hs : subT T n = some S) : rightB (101 :: 1 :: secT (nmS T f) S) = true ∧ parts_Of.f (101 :: 1 :: secT (nmS T f) S) = some [secT (nmS T f) S] := by
  obtain ⟨f1, l⟩ := sec_le (nm_small hk hn (memS T) f hs)
  have fe := full_elem (full_mono f1 (show 398 ≤ 399 by omega))
  have l : (secT (nmS T f) S).length ≤ 96 := l
  have hr : rightB (101 :: 1 :: secT (nmS T f) S) = true := full_right fe (by simp; omega)
  have := parts_el (n := 1) (l := [secT (nmS T f) S]) (fun x hx => by rw [List.mem_singleton.1 hx]; exact full_mono f1 (by omega)) (by simpa using hr) (by simp)
  exact ⟨hr, by simpa using this⟩
theorem text_good {x : List UInt8} (h : x.length ≤ 100) : rightB (textT x) = true ∧ parts_Of.f (textT x) = some [] := by
  have hr : rightB (textT x) = true := full_right (full_mono (full_text h) (by omega)) (by simp [textT]; omega)
  exact ⟨hr, parts_nil (c := 116) (by unfold five; decide) (by decide) hr⟩
theorem known_good (hw : ViewOk T W) {t : Tx1} (h : knownT T W t) : goodT t ∧ plainT t ∧ (∀ e, parts_Of.f t = some e → t.head? = some 101 → ∃ s, e = [s]) := by
  rcases h with ⟨x, hx, rfl⟩ | ⟨f, n, S, hs, rfl⟩ | ⟨X, f, p, hX, rfl⟩ | rfl | ⟨n, S, hs, rfl⟩
  · obtain ⟨h1, h2⟩ := text_good hx
    exact ⟨⟨by simp [textT], by rw [right_spec (by simp [textT]; omega), h1], _, h2⟩, ⟨116, _, _, rfl, by decide, by decide, by decide, h2⟩, fun e _ h => by simp [textT] at h⟩
  · obtain ⟨h1, h2⟩ := bl_good hw.ok hw.nd f hs
    obtain ⟨_, l⟩ := sec_le (nm_small hw.ok hw.nd (memS T) f hs)
    have l : (secT (nmS T f) S).length ≤ 96 := l
    exact ⟨⟨by simp, by rw [right_spec (by simp; omega), h1], _, h2⟩, ⟨101, _, _, rfl, by decide, by decide, by decide, h2⟩, fun e he _ => by rw [h2] at he; exact ⟨_, (Option.some.inj he).symm⟩⟩
  · obtain ⟨h0, h1, ps, h2⟩ := mark_good hX f p
    exact ⟨⟨by simp [markT], by rw [right_spec (by omega), h1], _, h2⟩, ⟨104, _, _, rfl, by decide, by decide, by decide, h2⟩, fun e _ h => by simp [markT] at h⟩
  · obtain ⟨h1, h2⟩ := key_good hw 200
    have hl := (key_full (first := 200) hw).2
    exact ⟨⟨by simp [keyT], by rw [right_spec (by omega), h1], _, h2⟩, ⟨104, _, _, rfl, by decide, by decide, by decide, h2⟩, fun e _ h => by simp [keyT] at h⟩
  · obtain ⟨h1, ps, h2⟩ := sec_good hw.ok hw.nd 200 hs
    obtain ⟨_, l⟩ := sec_le (nm_small hw.ok hw.nd (memS T) 200 hs)
    have l : (secT (nmS T 200) S).length ≤ 96 := l
    obtain ⟨c, r, e, hc⟩ := sec_hd (T := T) S 200
    refine ⟨⟨by rw [e]; simp, by rw [right_spec (by omega), h1], _, h2⟩, ⟨c, r, _, e, ?_, ?_, ?_, h2⟩, fun e' _ h => ?_⟩
    · rcases hc with q | q <;> rw [q] <;> decide
    · rcases hc with q | q <;> rw [q] <;> decide
    · rcases hc with q | q <;> rw [q] <;> decide
    · rw [e] at h
      rcases hc with q | q <;> rw [q] at h <;> simp at h
theorem sec_not (hw : ViewOk T W) {S : Tr} {n : List UInt8} (hs : subT T n = some S) : ¬ knownT T W (secT (nmS T 100) S) := by
  obtain ⟨c, r, e, hc⟩ := sec_hd (T := T) S 100
  intro h
  have hd : ∀ (d : UInt8) (x : Tx1), secT (nmS T 100) S = d :: x → d = 110 ∨ d = 107 := fun d x q => by
    rw [e] at q
    rw [← (List.cons.inj q).1]; exact hc
  rcases h with ⟨x, hx, q⟩ | ⟨f, m, S', hs', q⟩ | ⟨X, f, p, hX, q⟩ | q | ⟨m, S', hs', q⟩
  · have := hd 116 _ q
    revert this; decide
  · have := hd 101 _ q
    revert this; decide
  · have := hd 104 _ q
    revert this; decide
  · have := hd 104 _ q
    revert this; decide
  · exact sec_apart2 hw.ok hw.nd hs hs' q
theorem pow_not (hw : ViewOk T W) (x y : Tx1) : ¬ knownT T W (powT [x, y]) := by
  intro h
  have hp : powT [x, y] = (101 : UInt8) :: UInt8.ofNat 2 :: (sortB [x, y]).flatten := rfl
  rw [hp] at h
  rcases h with ⟨x, hx, q⟩ | ⟨f, m, S', hs', q⟩ | ⟨X, f, p, hX, q⟩ | q | ⟨m, S', hs', q⟩
  · have := (List.cons.inj (show (101 : UInt8) :: _ = 116 :: _ from q)).1
    revert this; decide
  · have := (List.cons.inj (List.cons.inj q).2).1
    revert this; decide
  · have := (List.cons.inj (show (101 : UInt8) :: _ = 104 :: _ from q)).1
    revert this; decide
  · have := (List.cons.inj (show (101 : UInt8) :: _ = 104 :: _ from q)).1
    revert this; decide
  · obtain ⟨c, r, e, hc⟩ := sec_hd (T := T) S' 200
    rw [e] at q
    have := (List.cons.inj q).1
    rcases hc with k | k <;> rw [k] at this <;> revert this <;> decide
theorem pair_not (hw : ViewOk T W) (x : Tx1) : ¬ knownT T W (112 :: x) := by
  intro h
  rcases h with ⟨x, hx, q⟩ | ⟨f, m, S', hs', q⟩ | ⟨X, f, p, hX, q⟩ | q | ⟨m, S', hs', q⟩
  · have := (List.cons.inj (show (112 : UInt8) :: _ = 116 :: _ from q)).1
    revert this; decide
  · have := (List.cons.inj q).1
    revert this; decide
  · have := (List.cons.inj (show (112 : UInt8) :: _ = 104 :: _ from q)).1
    revert this; decide
  · have := (List.cons.inj (show (112 : UInt8) :: _ = 104 :: _ from q)).1
    revert this; decide
  · obtain ⟨c, r, e, hc⟩ := sec_hd (T := T) S' 200
    rw [e] at q
    have := (List.cons.inj q).1
    rcases hc with k | k <;> rw [k] at this <;> revert this <;> decide
theorem key_not (hv : ViewOk T V) (hw : ViewOk T W) : ¬ knownT T W (keyT T V 100) := by
  have h8 := leaves_eight hv.ok hv.nd
  have hl : V.2.length ≤ 100 := by rw [hv.ms, sortZ_len]; omega
  have hl2 : W.2.length ≤ 100 := by rw [hw.ms, sortZ_len]; omega
  intro h
  rcases h with ⟨x, hx, q⟩ | ⟨f, m, S', hs', q⟩ | ⟨X, f, p, hX, q⟩ | q | ⟨m, S', hs', q⟩
  · have := (List.cons.inj (show (104 : UInt8) :: _ = 116 :: _ from q)).1
    revert this; decide
  · have := (List.cons.inj (show (104 : UInt8) :: _ = 101 :: _ from q)).1
    revert this; decide
  · have e : putT (viewL V) ++ secT (nmS T 100) T = keyT T X f ++ countedT 117 (IntKind.u64.wrap p) := (List.cons.inj (List.cons.inj (show (104 : UInt8) :: 112 :: _ = 104 :: 112 :: _ from q)).2).2
    obtain ⟨t, l, hvl⟩ : ∃ t l, viewL V = t :: l := List.exists_cons_of_ne_nil (fun e => by have := viewL_len V; rw [e] at this; simp at this)
    rw [hvl, putT_cons] at e
    have := (List.cons.inj (show (112 : UInt8) :: _ = 104 :: _ from e)).1
    revert this; decide
  · exact sec_apart2 hv.ok hv.nd (subT_nil T) (subT_nil T) (group_inj hl hl2 q).2
  · obtain ⟨c, r, e, hc⟩ := sec_hd (T := T) S' 200
    rw [e] at q
    have := (List.cons.inj (show (104 : UInt8) :: _ = c :: r from q)).1
    rcases hc with k | k <;> rw [k] at this <;> revert this <;> decide
theorem makes_none (hw : ViewOk T W) {M : List Tx1} {E : List (List Tx1)} (hM : ∀ t ∈ M, knownT T W t) (hE : ∀ e ∈ E, ∃ s, e = [s]) : ∀ (S : Tr) (n : List UInt8), subT T n = some S → ∃ N, makesG M E N (secT (nmS T 100) S) = some false
  | .leaf p, n, hs => by
    have hno := fun h => sec_not hw hs (hM _ h)
    refine ⟨1, ?_⟩
    show (if secT (nmS T 100) (.leaf p) ∈ M then some true else _) = _
    rw [if_neg hno]
    rfl
  | .two l r, n, hs => by
    have hsm := nm_small hw.ok hw.nd (memS T) 100 hs
    obtain ⟨s1, s2⟩ := small_two hsm
    have hl : subT T (n ++ [108]) = some l := by rw [sub_append, hs]; show subT l [] = _; rw [subT_nil]
    have hr : subT T (n ++ [114]) = some r := by rw [sub_append, hs]; show subT r [] = _; rw [subT_nil]
    obtain ⟨N1, ha⟩ := makes_none hw hM hE l _ hl
    obtain ⟨N2, hb⟩ := makes_none hw hM hE r _ hr
    have ha := makesG_mono (Nat.le_max_left N1 N2) ha
    have hb := makesG_mono (Nat.le_max_right N1 N2) hb
    generalize max N1 N2 = N at ha hb
    have hno := fun h => sec_not hw hs (hM _ h)
    have hnp := fun h => pow_not hw (secT (nmS T 100) l) (secT (nmS T 100) r) (hM _ h)
    obtain ⟨f1, l1⟩ := sec_le s1
    obtain ⟨f2, l2⟩ := sec_le s2
    generalize hx : secT (nmS T 100) l = x at *
    generalize hy : secT (nmS T 100) r = y at *
    have hsec : secT (nmS T 100) (.two l r) = 107 :: powT [x, y] := by rw [← hx, ← hy]; rfl
    rw [hsec] at hno ⊢
    have fp := full_two f1 f2
    have fk := full_above f1 f2
    have plen : (powT [x, y]).length ≤ 400 := by rw [powT_len]; simp; omega
    have rk : rightB (107 :: powT [x, y]) = true := full_right fk (by simp; omega)
    have rp : rightB (powT [x, y]) = true := full_right (full_mono fp (by omega)) (by omega)
    have pk := parts_one (.inl rfl) (full_mono fp (show 399 ≤ 400 by omega)) rk
    have hpw : powT [x, y] = 101 :: UInt8.ofNat 2 :: (sortB [x, y]).flatten := rfl
    have pe : parts_Of.f (powT [x, y]) = some (sortB [x, y]) := by
      rw [hpw] at rp ⊢
      refine parts_el (fun z hz => ?_) rp (by rw [sortB_len]; simp)
      have := (sortB_perm _).mem_iff.1 hz
      rcases List.mem_cons.1 this with q | q
      · rw [q]; exact full_mono f1 (by omega)
      · rw [List.mem_singleton.1 q]; exact full_mono f2 (by omega)
    have gen : ∀ {x y : Tx1}, makesG M E N x = some false → makesG M E N y = some false → raisesG (makesG M E N) E [x, y] = some false := by
      intro x y ha hb
      unfold raisesG
      rw [all_two ha hb, Option.bind_some]
      obtain ⟨z, hz, z1, z2, z3⟩ := any_one ha hb E hE
      have : z = false := by
        cases z with
        | false => rfl
        | true => rcases z1 rfl with q | q <;> cases q
      rw [this] at hz
      simpa using hz
    have hz : raisesG (makesG M E N) E (sortB [x, y]) = some false := by
      have hp := sortB_perm [x, y]
      generalize sortB [x, y] = q at hp
      match q, hp.length_eq with
      | [u, v], _ =>
        have hu : u ∈ [x, y] := hp.mem_iff.1 List.mem_cons_self
        rcases List.mem_cons.1 hu with e | e
        · subst e
          rw [pair_cancel hp]
          exact gen ha hb
        · obtain rfl := List.mem_singleton.1 e
          rw [pair_cancel (hp.trans (List.Perm.swap _ _ _))]
          exact gen hb ha
    refine ⟨N + 2, ?_⟩
    show makesG M E (N + 1 + 1) (107 :: powT [x, y]) = _
    rw [makesG_at 107 _ (N + 1) hno (by decide) (by decide) pk (by simp), if_neg (by decide)]
    refine all_one ?_
    rw [hpw] at pe hnp ⊢
    rw [makesG_at 101 _ N hnp (by decide) (by decide) pe (by rw [sortB_len]; simp), if_pos rfl]
    exact hz
theorem makes_key (hv : ViewOk T V) (hw : ViewOk T W) {M : List Tx1} {E : List (List Tx1)} (hM : ∀ t ∈ M, knownT T W t) (hE : ∀ e ∈ E, ∃ s, e = [s]) : ∃ N, makesG M E N (keyT T V 100) = some false := by
  have h8 := leaves_eight hv.ok hv.nd
  have hl : V.2.length ≤ 8 := by rw [hv.ms, sortZ_len]; omega
  obtain ⟨N, hz⟩ := makes_none hw hM hE T [] (subT_nil T)
  obtain ⟨N1, h1⟩ := makes_nums M E (viewL V) (viewL_num V) (by rw [viewL_len]; omega)
  obtain ⟨f, l⟩ := view_full V (by omega)
  have hr := (sec_le (nm_small hv.ok hv.nd (memS T) 100 (subT_nil T))).1
  have hrl : (secT (nmS T 100) T).length ≤ 96 := (sec_le (nm_small hv.ok hv.nd (memS T) 100 (subT_nil T))).2
  have f1 := full_mono f (show V.2.length + 8 ≤ 398 by omega)
  have fp := full_pairT f1 hr
  have h1 := makesG_mono (Nat.le_max_left (N1 + 1) N) h1
  have hz := makesG_mono (Nat.le_max_right (N1 + 1) N) hz
  generalize max (N1 + 1) N = K at h1 hz
  obtain ⟨k1, k2⟩ := key_good hv 100
  refine ⟨K + 1 + 1, ?_⟩
  have hno := fun h => key_not hv hw (hM _ h)
  have hnp := fun h => pair_not hw (putT (viewL V) ++ secT (nmS T 100) T) (hM _ h)
  unfold keyT at hno k2 ⊢
  rw [makesG_at 104 _ (K + 1) hno (by decide) (by decide) k2 (by simp), if_neg (by decide)]
  refine all_one ?_
  rw [makesG_at 112 _ K hnp (by decide) (by decide) (parts_two (full_mono f1 (by omega)) (full_mono hr (by omega)) (full_right (full_mono fp (by omega)) (by simp; omega))) (by simp), if_neg (by decide)]
  rw [all_two h1 hz]; rfl
theorem derive_two (hv : ViewOk T V) (hw : ViewOk T W) {l : List Tx1} (hl : l.length ≤ 5000) (ht : ∀ t ∈ l, knownT T W t) (hkey : keyT T W 200 ∈ l) :
    ∃ C, know_Close.f l = some C ∧ (∀ n S, subT T n = some S → know_Derives.f C (secT (nmS T 100) S) = some false) ∧ know_Derives.f C (keyT T V 100) = some false ∧ know_Derives.f C (keyT T W 200) = some true := by
  obtain ⟨S, k1, k2, k3, k4, k5, k6⟩ := know_spec l ([], []) (fun t h => (known_good hw (ht t h)).1)
  have hS1 : ∀ t, t ∈ S.1 ↔ t ∈ l := fun t => by rw [k2]; simp
  have k6 : S.1.length ≤ l.length := by simpa using k6
  have hclose := close_eq (l := l) (by omega) k1 (by omega) (fun t h => (known_good hw (ht t ((hS1 t).1 h))).2.1)
  have hC : ∀ t, t ∈ sortB S.1 ↔ t ∈ l := fun t => ((sortB_perm S.1).mem_iff).trans (hS1 t)
  have hCl : (sortB S.1).length ≤ 5000 := by rw [sortB_len]; omega
  generalize sortB S.1 = C at hclose hC hCl
  obtain ⟨S2, m1, m2, m3, m4, m5, m6⟩ := know_spec C ([], []) (fun t h => (known_good hw (ht t ((hC t).1 h))).1)
  have hM : ∀ t, t ∈ S2.1 ↔ t ∈ l := fun t => by rw [m2, hC]; simp
  have hE : ∀ e ∈ S2.2, ∃ s, e = [s] := fun e he => by
    rcases m3 e he with q | ⟨t, ht2, q1, q2⟩
    · cases q
    · exact (known_good hw (ht t ((hC t).1 ht2))).2.2 e q2 q1
  have hEl : ∀ x ∈ S2.2, x.length ≤ 1000000 := fun x hx => by obtain ⟨s, rfl⟩ := hE x hx; simp
  have hMk : ∀ t ∈ S2.1, knownT T W t := fun t h => ht t ((hM t).1 h)
  refine ⟨C, hclose, fun n S hs => ?_, ?_, ?_⟩
  · obtain ⟨N, hz⟩ := makes_none hw hMk hE S n hs
    have hsl := (sec_le (nm_small hv.ok hv.nd (memS T) 100 hs)).2
    have hsl : (secT (nmS T 100) S).length ≤ 96 := hsl
    exact derives_eq (by omega) m1 hEl (by rw [right_spec (by omega), (sec_good hv.ok hv.nd 100 hs).1]) hz
  · obtain ⟨N, hz⟩ := makes_key hv hw hMk hE
    have hkl := (key_full (first := 100) hv).2
    exact derives_eq (by omega) m1 hEl (by rw [right_spec (by omega), (key_good hv 100).1]) hz
  · have hkl := (key_full (first := 200) hw).2
    refine derives_eq (n := 1) (by omega) m1 hEl (by rw [right_spec (by omega), (key_good hw 200).1]) ?_
    show (if keyT T W 200 ∈ S2.1 then some true else _) = _
    rw [if_pos ((hM _).2 hkey)]
end
end Go.Proofs.YtfapphlhkfddoaaGreatDoor.G
