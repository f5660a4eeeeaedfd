/- PlaceOne, as it is reckoned. -/
import Derived.Test.YtfapphlhkfddoaaDoorPlaceQ
import Derived.Test.YtfapphlhkfddoaaDoorMadeQ
namespace Go.Proofs.YtfapphlhkfddoaaDoor.G
open Go.RowKit Go.Eng Go.Proofs Go.Proofs.YtfapphlhkfddoaaDoor.Cut
set_option linter.unusedVariables false
set_option linter.unusedSimpArgs false

theorem of_text {T : Tr} (hk : T.ok) (hn : T.leavesR.Nodup) : ofM T.text = some T := by rw [ofM_iff hk, if_pos hn]
theorem of_leaf {p : Int} (hp : 1 ≤ p ∧ p ≤ 8) : ofM (Tr.leaf p).text = some (.leaf p) := of_text (T := .leaf p) hp (by simp [Tr.leavesR])
theorem of_pair {p q : Int} (hp : 1 ≤ p ∧ p ≤ 8) (hq : 1 ≤ q ∧ q ≤ 8) (hne : p ≠ q) : ofM (Tr.two (.leaf p) (.leaf q)).text = some (.two (.leaf p) (.leaf q)) := of_text (T := .two (.leaf p) (.leaf q)) ⟨hp, hq⟩ (by simpa [Tr.leavesR] using fun e => hne e.symm)
theorem sortZ_one (p : Int) : sortZ [p] = [p] := sortZ_is (List.Perm.refl _) (by simp)
theorem sortZ_two (p q : Int) : (sortZ [q, p]).headD 0 = min p q := by
  by_cases h : q ≤ p
  · rw [sortZ_is (ys := [q, p]) (List.Perm.refl _) (by simpa using h)]; show q = _; omega
  · rw [sortZ_is (ys := [p, q]) (List.Perm.swap _ _ _) (by simp; omega)]; show p = _; omega
theorem one_law {x0 x1 : Int} (h0 : inI64 x0) (h1 : inI64 x1) : gemotlaw14_PlaceOne.f x0 x1 = some true := by
  obtain ⟨y, hy, y0, y8⟩ := pick14 (n := 8) h0 (by omega)
  obtain ⟨z, hz, z0, z8⟩ := pick14 (n := 8) h1 (by omega)
  have hp : IntKind.i64.wrap ((1 : Int) + y) = 1 + y := Eng.i64_id (by omega) (by omega)
  have hq : IntKind.i64.wrap ((1 : Int) + z) = 1 + z := Eng.i64_id (by omega) (by omega)
  unfold gemotlaw14_PlaceOne.f
  rw [shown14, Option.bind_some, hy, Option.bind_some, hz, Option.bind_some, hp]
  obtain ⟨p, hpd⟩ : ∃ p, p = 1 + y := ⟨_, rfl⟩
  obtain ⟨q, hqd⟩ : ∃ q, q = 1 + z := ⟨_, rfl⟩
  have hp8 : 1 ≤ p ∧ p ≤ 8 := by omega
  have hq8 : 1 ≤ q ∧ q ≤ 8 := by omega
  rw [← hpd]
  have ho := of_leaf hp8
  have hlen : (Tr.leaf p).text.length ≤ 900000 := by simp [Tr.text]
  have hL : tree_Leaf.f p = some ((Tr.leaf p).text, 0) := by unfold tree_Leaf.f leafM; rw [if_pos hp8]
  have hN : place_Nodes.f (Tr.leaf p).text = some [[]] := by unfold place_Nodes.f; rw [given_of hlen, nodesM_eq ho]; rfl
  have hP : ∀ r, place_Path.f (Tr.leaf p).text r = some (if p = r then [[]] else []) := by
    intro r
    unfold place_Path.f
    rw [given_of hlen, pathM_eq ho, pathL_leaf]
    by_cases h : p = r
    · rw [if_pos h, if_pos h]; rfl
    · rw [if_neg h, if_neg h]
  have hPm : pathM (Tr.leaf p).text p = [[]] := by rw [pathM_eq ho, pathL_leaf, if_pos rfl]; rfl
  have hD : place_Duties.f (Tr.leaf p).text p = some [] := by rw [dut_eq hlen]; unfold dutM; rw [hPm]; rfl
  have hS : place_Sponsor.f (Tr.leaf p).text [] = some p := by
    rw [spon_eq hlen, sponM_in ho, subT_nil]
    show some ((sortZ [p]).headD 0) = _
    rw [sortZ_one]; rfl
  rw [hL, Option.bind_some, Bool.not_true, cond_false, hN, Option.bind_some, same14 _ (by simp), Option.bind_some, Bool.not_true, cond_false, hP, if_pos rfl, Option.bind_some, same14 _ (by simp), Option.bind_some, Bool.not_true, cond_false, hD, Option.bind_some]
  show (place_Sponsor.f (Tr.leaf p).text []).bind _ = _
  rw [hS, Option.bind_some, show (p != p) = false by simp]
  show gemotlaw14_PlaceOne.k2 y z _ false = _
  unfold gemotlaw14_PlaceOne.k2
  rw [cond_false, hp, hq, ← hpd, ← hqd]
  by_cases he : p = q
  · rw [show (p == q) = true from beq_iff_eq.2 he, cond_true, hP, if_pos he]; rfl
  rw [show (p == q) = false from beq_eq_false_iff_ne.2 he, cond_false]
  have hJ : tree_Join.f (Tr.leaf p).text q = some ((Tr.two (.leaf p) (.leaf q)).text, 0) := by
    unfold tree_Join.f
    rw [given_of hlen, joinM_yes ho ⟨hq8, by simpa [Tr.leavesR] using fun e => he e.symm⟩]; rfl
  have hu := of_pair hp8 hq8 he
  have hul : (Tr.two (.leaf p) (.leaf q)).text.length ≤ 900000 := by simp [Tr.text]
  have hN2 : place_Nodes.f (Tr.two (.leaf p) (.leaf q)).text = some [[], [108], [114]] := by unfold place_Nodes.f; rw [given_of hul, nodesM_eq hu]; rfl
  have hPp : pathM (Tr.two (.leaf p) (.leaf q)).text p = [[108], []] := by
    rw [pathM_eq hu, pathL_two, pathL_leaf, if_pos rfl]; rfl
  have hPq : pathM (Tr.two (.leaf p) (.leaf q)).text q = [[114], []] := by
    rw [pathM_eq hu, pathL_two, pathL_leaf, if_neg he, pathL_leaf, if_pos rfl]; rfl
  have s1 : sponM (Tr.two (.leaf p) (.leaf q)).text [108] = p := by
    rw [sponM_in hu]; show (sortZ [p]).headD 0 = p; rw [sortZ_one]; rfl
  have s2 : sponM (Tr.two (.leaf p) (.leaf q)).text [114] = q := by
    rw [sponM_in hu]; show (sortZ [q]).headD 0 = q; rw [sortZ_one]; rfl
  have hDp : place_Duties.f (Tr.two (.leaf p) (.leaf q)).text p = some [[108]] := by rw [dut_eq hul]; unfold dutM; rw [hPp]; simp [s1]
  have hDq : place_Duties.f (Tr.two (.leaf p) (.leaf q)).text q = some [[114]] := by rw [dut_eq hul]; unfold dutM; rw [hPq]; simp [s2]
  have hC : place_Co.f (Tr.two (.leaf p) (.leaf q)).text p = some [[114]] := by rw [co_eq hul]; unfold coM; rw [hPp]; rfl
  have hS2 : place_Sponsor.f (Tr.two (.leaf p) (.leaf q)).text [] = some (min p q) := by
    rw [spon_eq hul, sponM_in hu, subT_nil]
    show some ((sortZ [q, p]).headD 0) = _
    rw [sortZ_two]
  have hPP : ∀ r, place_Path.f (Tr.two (.leaf p) (.leaf q)).text r = some (pathM (Tr.two (.leaf p) (.leaf q)).text r) := by intro r; unfold place_Path.f; rw [given_of hul]
  rw [hJ, Option.bind_some]
  show (place_Path.f (Tr.leaf p).text q).bind _ = _
  rw [hP, if_neg he, Option.bind_some]
  show (place_Nodes.f (Tr.two (.leaf p) (.leaf q)).text).bind _ = _
  rw [hN2, Option.bind_some, same14 _ (by simp), Option.bind_some, cond_true, hPP, hPp, Option.bind_some, same14 _ (by simp), Option.bind_some, cond_true, hPP, hPq, Option.bind_some, same14 _ (by simp), Option.bind_some, cond_true, hDp, Option.bind_some, same14 _ (by simp), Option.bind_some, cond_true, hDq, Option.bind_some, same14 _ (by simp), Option.bind_some, cond_true, hC, Option.bind_some, same14 _ (by simp), Option.bind_some, cond_true, hS2, Option.bind_some]
  have hm : minI p q = min p q := by unfold minI; split <;> omega
  rw [hm]
  show gemotlaw14_PlaceOne.k1 (min p q == min p q) = _
  rw [beq_self_eq_true]; rfl
theorem one_row {w : World} {x0 x1 : Int} (h0 : inI64 x0) (h1 : inI64 x1) :
    Calls Tryd.prog 4 #[.int .i64 x0, .int .i64 x1] w fun e w' => ∃ r, e = .returned r ∧ r = .bool true ∧ Below w.heap.size w w' :=
  (gemotlaw14_PlaceOne_ok (ok := fun _ => False) (one_law h0 h1)).mono fun e w' ⟨v, h1, h2, h3⟩ => ⟨v, h1, h2, h3.toBelow⟩
end Go.Proofs.YtfapphlhkfddoaaDoor.G
