/- PlacePaths, as it is reckoned. -/
import Derived.Test.YtfapphlhkfddoaaDoorPlaceQ
import Derived.Test.YtfapphlhkfddoaaDoorMadeQ
import Derived.Test.YtfapphlhkfddoaaDoorPathT
import Derived.Test.YtfapphlhkfddoaaDoorHP
namespace Go.Proofs.YtfapphlhkfddoaaDoor.G
open Go.RowKit Go.Eng Go.Proofs Go.Proofs.YtfapphlhkfddoaaDoor.Cut
set_option linter.unusedVariables false
set_option linter.unusedSimpArgs false
theorem rhas_eq (xs : List Int) (p : Int) (hl : xs.length ≤ 1000000000) : gemotref10_Has.f xs p = some (decide (p ∈ xs)) := by
  have go : ∀ k i, i + k = xs.length → loopM (fun s91 : Int => gemotref10_Has.b1 xs p s91) (i : Int) = some (if p ∈ xs.drop i then .inr true else .inl ()) := by
    intro k
    induction k with
    | zero =>
      intro i hi
      refine loop_end ?_
      show gemotref10_Has.b1 xs p (i : Int) = _
      unfold gemotref10_Has.b1
      rw [cond_f (by omega), List.drop_of_length_le (by omega), if_neg (by simp)]
    | succ k ih =>
      intro i hi
      have hil : i < xs.length := by omega
      rw [List.drop_eq_getElem_cons hil]
      by_cases he : xs[i] = p
      · rw [if_pos (by rw [he]; exact List.mem_cons_self)]
        refine loop_end ?_
        show gemotref10_Has.b1 xs p (i : Int) = _
        unfold gemotref10_Has.b1
        rw [cond_t (by omega), idxL_lt hil, Option.bind_some, show (xs[i] == p) = true from beq_iff_eq.2 he, cond_true]
      · have e : (p ∈ xs[i] :: xs.drop (i + 1)) ↔ p ∈ xs.drop (i + 1) := by
          rw [List.mem_cons]
          exact ⟨fun h => h.elim (fun q => absurd q.symm he) id, .inr⟩
        rw [show (if p ∈ xs[i] :: xs.drop (i + 1) then (Sum.inr true : Unit ⊕ Bool) else .inl ()) = if p ∈ xs.drop (i + 1) then .inr true else .inl () from by simp only [e]]
        refine loop_step ?_ (ih (i + 1) (by omega))
        show gemotref10_Has.b1 xs p (i : Int) = _
        unfold gemotref10_Has.b1
        rw [cond_t (by omega), idxL_lt hil, Option.bind_some, show (xs[i] == p) = false from beq_eq_false_iff_ne.2 he, cond_false, wrap1 i (by omega)]
  unfold gemotref10_Has.f
  rw [show loopM (fun s91 : Int => gemotref10_Has.b1 xs p s91) (0 : Int) = _ from go xs.length 0 (by omega), List.drop_zero]
  by_cases h : p ∈ xs
  · rw [if_pos h, decide_eq_true h]; rfl
  · rw [if_neg h, decide_eq_false h]; rfl
theorem sib_at {T : Tr} {p : Int} {π : List UInt8} (hπ : pathL T p = some π) {d : Nat} (hd : d < π.length) : ∃ l r : Tr, subT T (π.take d) = some (.two l r) ∧ ((subT T (π.take (d + 1)) = some l ∧ subT T (besideT (π.take (d + 1))) = some r) ∨ (subT T (π.take (d + 1)) = some r ∧ subT T (besideT (π.take (d + 1))) = some l)) := by
  obtain ⟨S, hs, _⟩ := path_node hπ d
  obtain ⟨S2, hs2, _⟩ := path_node hπ (d + 1)
  have hc := (path_leafAt T p π hπ).2 π[d] (List.getElem_mem hd)
  have e : π.take (d + 1) = π.take d ++ [π[d]] := (take_snoc hd).symm
  rw [e, sub_append, hs] at hs2
  have hs2 : subT S [π[d]] = some S2 := hs2
  cases S with
  | leaf q => cases hs2
  | two l r =>
    refine ⟨l, r, hs, ?_⟩
    rw [e, besideT_snoc, sub_append, sub_append, hs]
    rcases hc with h | h
    · rw [h]
      exact .inl ⟨by show subT l [] = _; rw [subT_nil], by show subT r [] = _; rw [subT_nil]⟩
    · rw [h]
      exact .inr ⟨by show subT r [] = _; rw [subT_nil], by show subT l [] = _; rw [subT_nil]⟩
theorem same_one (p : Int) : gemotref10_Same.f [p] [p] = some true := by
  have hL : loopM (fun s146 : Int => gemotref10_Same.b1 [p] [p] s146) (0 : Int) = some (Sum.inl ()) := by
    have h1 : loopM (fun s146 : Int => gemotref10_Same.b1 [p] [p] s146) ((1 : Nat) : Int) = some (Sum.inl ()) := by
      refine loop_end ?_
      show gemotref10_Same.b1 [p] [p] ((1 : Nat) : Int) = _
      unfold gemotref10_Same.b1
      rw [cond_f (by simp)]
    refine loop_step (s := ((0 : Nat) : Int)) ?_ h1
    show gemotref10_Same.b1 [p] [p] ((0 : Nat) : Int) = _
    unfold gemotref10_Same.b1
    rw [cond_t (by simp), idxL_lt (show 0 < [p].length by simp), Option.bind_some, Option.bind_some, wrap1 0 (by omega)]
    simp
  unfold gemotref10_Same.f gemotref10_Same.k2
  rw [hL]; simp
theorem sorted_one (p : Int) : sortZ [p] = [p] := sortZ_is (List.Perm.refl _) (by simp)
theorem beside_twice {n : List UInt8} {d : Nat} (h : d < n.length) (hc : n[d] = 108 ∨ n[d] = 114) : besideT (besideT (n.take (d + 1))) = n.take (d + 1) := by
  rw [← take_snoc h, besideT_snoc, besideT_snoc]
  congr 2
  rcases hc with h | h <;> rw [h] <;> rfl
theorem path_text {T : Tr} (hk : T.ok) (hn : T.leavesR.Nodup) {p : Int} {π : List UInt8} (hπ : pathL T p = some π) : place_Path.f T.text p = some (upT π) ∧ place_Co.f T.text p = some ((upT π).dropLast.map besideT) := by
  have hlen := tree_len hk hn
  have ho : ofM T.text = some T := by rw [ofM_iff hk, if_pos hn]
  have hp : pathM T.text p = upT π := by rw [pathM_eq ho, hπ]
  refine ⟨?_, ?_⟩
  · unfold place_Path.f; rw [given_of (by omega), hp]
  · rw [co_eq (by omega)]
    unfold coM
    rw [hp]
theorem co_get {π : List UInt8} {i : Nat} (h : i < π.length) : idxL ((upT π).dropLast.map besideT) (i : Int) = some (besideT (π.take (π.length - i))) := by
  have h1 := up_get (n := π) (j := i) (by omega)
  rw [idxL_nat] at h1 ⊢
  rw [List.getElem?_map, List.getElem?_dropLast, if_pos (by rw [up_len]; omega), h1]; rfl
theorem at_node {T S : Tr} (hk : T.ok) (hn : T.leavesR.Nodup) {n : List UInt8} (hs : subT T n = some S) : place_At.f T.text n = some (S.text, 0) := by
  have hlen := tree_len hk hn
  have ho : ofM T.text = some T := by rw [ofM_iff hk, if_pos hn]
  unfold place_At.f; rw [given_of (by omega), at_sub ho, hs]
theorem mem_node {S : Tr} (hk : S.ok) (hn : S.leavesR.Nodup) : tree_Members.f S.text = some (sortZ S.leavesR) := by
  have hlen := tree_len hk hn
  unfold tree_Members.f; rw [given_of (by omega), members_text hk hn]
theorem cat_text (a b : List UInt8) : (([40] ++ a) ++ b) ++ [41] = 40 :: (a ++ b ++ [41]) := by simp
theorem paths_round {T : Tr} (hk : T.ok) (hn : T.leavesR.Nodup) {m : List Int} {k : Nat} {p : Int} (hm : idxL m (k : Int) = some p) {π : List UInt8} (hπ : pathL T p = some π) (hl : π.length ≤ 8) {i : Nat} (hi : i < π.length) :
    gemotlaw14_PlacePaths.b2 T.text m (k : Int) (upT π) ((upT π).dropLast.map besideT) (i : Int) = some (.inl ((i + 1 : Nat) : Int)) := by
  have hcl : ((upT π).dropLast.map besideT).length = π.length := by rw [List.length_map, List.length_dropLast, up_len]; omega
  obtain ⟨d, hd⟩ : ∃ d, d = π.length - i - 1 := ⟨_, rfl⟩
  have hdl : d < π.length := by omega
  have g1 := up_get (n := π) (j := i) (by omega)
  have g2 := up_get (n := π) (j := i + 1) (by omega)
  have g3 := co_get (π := π) hi
  rw [show π.length - i = d + 1 by omega] at g1 g3
  rw [show π.length - (i + 1) = d by omega] at g2
  obtain ⟨l, r, h1, h2⟩ := sib_at hπ hdl
  obtain ⟨S, hS, hpS⟩ := path_node hπ (d + 1)
  have hB : place_Beside.f (besideT (π.take (d + 1))) = some (π.take (d + 1)) := by
    rw [beside_eq (by rw [← take_snoc hdl, besideT_snoc, List.length_append, List.length_take]; simp only [List.length_cons, List.length_nil]; omega), beside_twice hdl ((path_leafAt T p π hπ).2 _ (List.getElem_mem hdl))]
  have c1 := at_node hk hn h1
  obtain ⟨k1, n1, _, _⟩ := sub_ok4 hk hn h1
  obtain ⟨nr, nl, hdis⟩ := List.nodup_append.1 (show (r.leavesR ++ l.leavesR).Nodup from n1)
  have text2 : (Tr.two l r).text = 40 :: (l.text ++ r.text ++ [41]) := by simp [Tr.text]
  have fin : ∀ (A B : Tr), place_At.f T.text (π.take (d + 1)) = some (A.text, 0) → place_At.f T.text (besideT (π.take (d + 1))) = some (B.text, 0) → B.ok → B.leavesR.Nodup → A.text.length ≤ 22 → B.text.length ≤ 22 → p ∉ B.leavesR → ((Tr.two l r).text = 40 :: (A.text ++ B.text ++ [41]) ∨ (Tr.two l r).text = 40 :: (B.text ++ A.text ++ [41])) →
      gemotlaw14_PlacePaths.b2 T.text m (k : Int) (upT π) ((upT π).dropLast.map besideT) (i : Int) = some (.inl ((i + 1 : Nat) : Int)) := by
    intro A B a1 a2 kB nB lA lB hpB htx
    unfold gemotlaw14_PlacePaths.b2
    rw [hcl, cond_t (by omega), g1, Option.bind_some, a1, Option.bind_some, g3, Option.bind_some, a2, Option.bind_some, wrap1 i (by omega), g2, Option.bind_some, c1, Option.bind_some]
    show (tree_Members.f B.text).bind _ = _
    rw [mem_node kB nB, Option.bind_some, hm, Option.bind_some, rhas_eq _ _ (by rw [sortZ_len]; have := leaves_le kB nB; omega), Option.bind_some, decide_eq_false (fun q => hpB ((sortZ_perm _).mem_iff.1 q))]
    rw [room_of (by simp; omega), room_of (by simp; omega), room_of (by simp; omega), room_of (by simp; omega), room_of (by simp; omega), room_of (by simp; omega)]
    have hv : (cond (cond (cond (cond (((0 : Int)) != (0 : Int)) true ((0 : Int) != (0 : Int))) true ((0 : Int) != (0 : Int))) true false) true (cond (!(strEq (Tr.two l r).text ((([40] ++ A.text) ++ B.text) ++ [41]))) (!(strEq (Tr.two l r).text ((([40] ++ B.text) ++ A.text) ++ [41]))) false)) = false := by
      rw [cat_text, cat_text, strEq_eq, strEq_eq]
      rcases htx with h | h
      · rw [decide_eq_true h]; rfl
      · rw [decide_eq_true h]
        cases decide ((Tr.two l r).text = 40 :: (A.text ++ B.text ++ [41])) <;> rfl
    show cond (cond (cond (cond (cond (((0 : Int)) != (0 : Int)) true ((0 : Int) != (0 : Int))) true ((0 : Int) != (0 : Int))) true false) true (cond (!(strEq (Tr.two l r).text ((([40] ++ A.text) ++ B.text) ++ [41]))) (!(strEq (Tr.two l r).text ((([40] ++ B.text) ++ A.text) ++ [41]))) false)) _ _ = _
    rw [hv, cond_false]
    rw [Option.bind_some, hB, Option.bind_some, Option.bind_some, cond_false, strEq_eq, decide_eq_true rfl, Bool.not_true]
    unfold gemotlaw14_PlacePaths.k1
    rw [cond_false, wrap1 i (by omega)]
  have hpin : ∀ {S : Tr}, subT T (π.take (d + 1)) = some S → p ∈ S.leavesR := fun hq => by
    rw [hS] at hq; cases hq; exact hpS
  rcases h2 with ⟨a, b⟩ | ⟨a, b⟩
  · obtain ⟨ka, na, _, la⟩ := sub_ok4 hk hn a
    obtain ⟨kb, nb, _, lb⟩ := sub_ok4 hk hn b
    exact fin l r (at_node hk hn a) (at_node hk hn b) kb nb la lb (fun q => hdis p q p (hpin a) rfl) (.inl text2)
  · obtain ⟨ka, na, _, la⟩ := sub_ok4 hk hn a
    obtain ⟨kb, nb, _, lb⟩ := sub_ok4 hk hn b
    exact fin r l (at_node hk hn a) (at_node hk hn b) kb nb la lb (fun q => hdis p (hpin a) p q rfl) (.inr text2)
theorem paths_member {T : Tr} (hk : T.ok) (hn : T.leavesR.Nodup) {m : List Int} (hml : m.length ≤ 1000) (hmem : ∀ x ∈ m, x ∈ T.leavesR) {k : Nat} (hkl : k < m.length) : gemotlaw14_PlacePaths.b5 T.text m (k : Int) = some (.inl ((k + 1 : Nat) : Int)) := by
  obtain ⟨π, hπ⟩ := path_mem (hmem _ (List.getElem_mem hkl))
  have h8 := leaves_le hk hn
  have hpl := pathL_len T _ π hπ
  obtain ⟨h1, h2⟩ := path_text hk hn hπ
  have hm : idxL m (k : Int) = some m[k] := idxL_lt hkl
  have hleaf := (path_leafAt T _ π hπ).1
  obtain ⟨kl, nl, _, ll⟩ := sub_ok4 hk hn hleaf
  have hcl : ((upT π).dropLast.map besideT).length = π.length := by rw [List.length_map, List.length_dropLast, up_len]; omega
  have g0 := up_get (n := π) (j := 0) (by omega)
  have gl := up_get (n := π) (j := π.length) (by omega)
  rw [Nat.sub_zero, List.take_length] at g0
  rw [Nat.sub_self, List.take_zero] at gl
  have hw : IntKind.i64.wrap (((upT π).length : Int) - (1 : Int)) = (π.length : Int) := by rw [up_len, Eng.i64_id (by omega) (by omega)]; omega
  have hL : loopM (fun s19968 : Int => gemotlaw14_PlacePaths.b2 T.text m (k : Int) (upT π) ((upT π).dropLast.map besideT) s19968) (0 : Int) = some (Sum.inl ()) := by
    have key : ∀ g i, i + g = π.length → loopM (fun s19968 : Int => gemotlaw14_PlacePaths.b2 T.text m (k : Int) (upT π) ((upT π).dropLast.map besideT) s19968) (i : Int) = some (Sum.inl ()) := by
      intro g
      induction g with
      | zero =>
        intro i hi
        refine loop_end ?_
        show gemotlaw14_PlacePaths.b2 T.text m (k : Int) (upT π) ((upT π).dropLast.map besideT) (i : Int) = _
        unfold gemotlaw14_PlacePaths.b2
        rw [hcl, cond_f (by omega)]
      | succ g ih =>
        intro i hi
        exact loop_step (paths_round hk hn hm hπ (by omega) (by omega)) (ih (i + 1) (by omega))
    exact key π.length 0 (by omega)
  unfold gemotlaw14_PlacePaths.b5
  rw [cond_t (by omega), hm, Option.bind_some, h1, Option.bind_some, Option.bind_some, h2, Option.bind_some, hcl, wrap1 π.length (by omega), hw, gl, Option.bind_some, up_len, show (((π.length + 1 : Nat) : Int) != ((π.length + 1 : Nat) : Int)) = false by simp, cond_false, cond_false, strEq_eq, decide_eq_true rfl, Bool.not_true]
  unfold gemotlaw14_PlacePaths.k4
  rw [cond_false, show idxL (upT π) (0 : Int) = _ from g0, Option.bind_some, at_node hk hn hleaf, Option.bind_some]
  show (tree_Members.f (Tr.leaf m[k]).text).bind _ = _
  rw [mem_node kl nl, Option.bind_some, hm, Option.bind_some, show (Tr.leaf m[k]).leavesR = [m[k]] from rfl, sorted_one, same_one, Option.bind_some, Bool.not_true, cond_false, hL]
  show gemotlaw14_PlacePaths.k3 T.text m (k : Int) = _
  unfold gemotlaw14_PlacePaths.k3
  rw [wrap1 k (by omega)]
theorem paths_law {x0 : List Int} (h0 : ∀ x ∈ x0, inI64 x) : gemotlaw14_PlacePaths.f x0 = some true := by
  obtain ⟨T, hk, hn, hT⟩ := made_is h0
  have h8 := leaves_le hk hn
  have hsl := sortZ_len T.leavesR
  unfold gemotlaw14_PlacePaths.f
  rw [shown14, Option.bind_some, Bool.not_true, cond_false, hT, Option.bind_some, mem_node hk hn, Option.bind_some]
  have hL : loopM (fun s17728 : Int => gemotlaw14_PlacePaths.b5 T.text (sortZ T.leavesR) s17728) (0 : Int) = some (Sum.inl ()) := by
    have key : ∀ g i, i + g = (sortZ T.leavesR).length → loopM (fun s17728 : Int => gemotlaw14_PlacePaths.b5 T.text (sortZ T.leavesR) s17728) (i : Int) = some (Sum.inl ()) := by
      intro g
      induction g with
      | zero =>
        intro i hi
        refine loop_end ?_
        show gemotlaw14_PlacePaths.b5 T.text (sortZ T.leavesR) (i : Int) = _
        unfold gemotlaw14_PlacePaths.b5
        rw [cond_f (by omega)]
      | succ g ih =>
        intro i hi
        exact loop_step (paths_member (k := i) hk hn (by omega) (fun x hx => (sortZ_perm _).mem_iff.1 hx) (by omega)) (ih (i + 1) (by omega))
    exact key (sortZ T.leavesR).length 0 (by omega)
  rw [hL]
  rfl
theorem paths_row {ok : Nat → Prop} {w : World} {u0 : Value} {x0 : List Int} (hu : slR (tInt .i64) w ok u0 x0) (h0 : ∀ x ∈ x0, inI64 x) :
    Calls Tryd.prog 3 #[u0] w fun e w' => ∃ r, e = .returned r ∧ r = .bool true ∧ Below w.heap.size w w' :=
  (gemotlaw14_PlacePaths_ok hu (paths_law h0)).mono fun e w' ⟨v, h1, h2, h3⟩ => ⟨v, h1, h2, h3.toBelow⟩
end Go.Proofs.YtfapphlhkfddoaaDoor.G
