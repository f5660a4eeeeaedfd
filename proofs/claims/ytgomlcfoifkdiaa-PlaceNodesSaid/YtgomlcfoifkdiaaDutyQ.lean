/- Who answers for a node, and for which ones a process answers: the same to both. -/
import Derived.Test.YtgomlcfoifkdiaaBesideQ
namespace Go.Proofs.Ytgomlcfoifkdiaa.G
open Go.RowKit Go.Eng Go.Proofs Go.Proofs.Ytgomlcfoifkdiaa.Cut
set_option linter.unusedVariables false
set_option linter.unusedSimpArgs false

def sponM (s n : List UInt8) : Int := match ofM s with
  | none => 0
  | some T => match subT T n with
    | none => 0
    | some S => (sortZ S.leavesR).headD 0
theorem sponM_no {s : List UInt8} (n : List UInt8) (ho : ofM s = none) : sponM s n = 0 := by unfold sponM; rw [ho]
theorem sponM_in {s n : List UInt8} {T : Tr} (ho : ofM s = some T) : sponM s n = match subT T n with
    | none => 0
    | some S => (sortZ S.leavesR).headD 0 := by unfold sponM; rw [ho]
def dutM (s : List UInt8) (p : Int) : List (List UInt8) := (pathM s p).filter fun n => decide (n ≠ [] ∧ sponM s n = p)
theorem members_text {S : Tr} (hok : S.ok) (hn : S.leavesR.Nodup) : membersM S.text = sortZ S.leavesR := by
  unfold membersM
  rw [ofM_iff hok, if_pos hn]
theorem sort_head {xs : List Int} (h : 0 < xs.length) : idxL (sortZ xs) (0 : Int) = some ((sortZ xs).headD 0) := by
  have hl := sortZ_len xs
  cases hs : sortZ xs with
  | nil => rw [hs] at hl; simp only [List.length_nil] at hl; omega
  | cons a r => rfl
theorem at_none {s : List UInt8} (h : ofM s = none) (n : List UInt8) : atM s n = ([], 1) := by unfold atM; rw [h]
theorem spon_eq {s n : List UInt8} (hl : s.length ≤ 900000) : place_Sponsor.f s n = some (sponM s n) := by
  unfold place_Sponsor.f place_At.f
  rw [given_of hl, Option.bind_some]
  cases ho : ofM s with
  | none => rw [at_none ho, sponM_no n ho]; rfl
  | some T =>
    rw [at_sub ho, sponM_in ho]
    cases hq : subT T n with
    | none => rfl
    | some S =>
      have hok := subT_ok _ _ _ hq (ofM_text ho).2
      have hn := (subT_nodup _ _ _ hq (ofM_nodup ho)).1
      have hSl := subT_len _ _ _ hq
      have h22 := ofM_short ho
      show (tree_Members.f S.text).bind _ = _
      unfold tree_Members.f
      rw [given_of (by rw [← (ofM_text ho).1] at hSl; omega), Option.bind_some, members_text hok hn, sort_head (leavesR_pos S), Option.bind_some]
theorem rspon_eq {s n : List UInt8} (hl : s.length ≤ 900000) (hnl : n.length ≤ 1000000000) : gemotref14_Sponsor.f s n = some (sponM s n) := by
  unfold gemotref14_Sponsor.f
  rw [at14 (by omega) hnl, Option.bind_some]
  cases ho : ofM s with
  | none => rw [at_none ho, sponM_no n ho]; rfl
  | some T =>
    rw [at_sub ho, sponM_in ho]
    cases hq : subT T n with
    | none => rfl
    | some S =>
      have hok := subT_ok _ _ _ hq (ofM_text ho).2
      have hn := (subT_nodup _ _ _ hq (ofM_nodup ho)).1
      have hSl := subT_len _ _ _ hq
      have h22 := ofM_short ho
      show (gemotref13_Members.f S.text).bind _ = _
      rw [members13 (by rw [← (ofM_text ho).1] at hSl; omega), Option.bind_some, members_text hok hn, sort_head (leavesR_pos S), Option.bind_some]
theorem dut_loop {s : List UInt8} {p : Int} (hs : s.length ≤ 900000) {path : List (List UInt8)} (hl : path.length ≤ 1000) : ∀ k i out, i + k = path.length → out.length ≤ i → loopM (fun s648 : (List (List UInt8)) × Int => place_Duties.b3 s p path s648.1 s648.2) (out, (i : Int)) = some (out ++ (path.drop i).filter fun n => decide (n ≠ [] ∧ sponM s n = p)) := by
  intro k
  induction k with
  | zero =>
    intro i out hi _
    refine loop_end ?_
    show place_Duties.b3 s p path out (i : Int) = _
    unfold place_Duties.b3
    rw [cond_f (by omega), List.drop_of_length_le (by omega)]; simp
  | succ k ih =>
    intro i out hi ho
    have hil : i < path.length := by omega
    rw [List.drop_eq_getElem_cons hil, List.filter_cons]
    have hbody : place_Duties.b3 s p path out (i : Int) = some (.inl (if path[i] ≠ [] ∧ sponM s path[i] = p then out ++ [path[i]] else out, ((i + 1 : Nat) : Int))) := by
      unfold place_Duties.b3
      rw [cond_t (by omega), idxL_lt hil, Option.bind_some, strEq_eq]
      by_cases hn : path[i] = []
      · rw [decide_eq_true hn, if_neg (fun q => q.1 hn)]
        show place_Duties.k2 s p path out (i : Int) path[i] false = _
        unfold place_Duties.k2 place_Duties.k1
        rw [cond_false, wrap1 i (by omega)]
      · rw [decide_eq_false hn]
        show (place_Sponsor.f s path[i]).bind _ = _
        rw [spon_eq hs, Option.bind_some]
        unfold place_Duties.k2 place_Duties.k1
        by_cases hp : sponM s path[i] = p
        · rw [if_pos ⟨hn, hp⟩, show (cond (!false) (sponM s path[i] == p) false) = true by simpa using hp, cond_true, room_of (by omega), wrap1 i (by omega)]
        · rw [if_neg (fun q => hp q.2), show (cond (!false) (sponM s path[i] == p) false) = false by simpa using hp, cond_false, wrap1 i (by omega)]
    by_cases hc : path[i] ≠ [] ∧ sponM s path[i] = p
    · rw [if_pos hc] at hbody
      rw [if_pos (by simpa using hc)]
      have := ih (i + 1) (out ++ [path[i]]) (by omega) (by rw [List.length_append]; simp only [List.length_cons, List.length_nil]; omega)
      rw [List.append_assoc] at this
      exact loop_step hbody this
    · rw [if_neg hc] at hbody
      rw [if_neg (by simpa using hc)]
      exact loop_step hbody (ih (i + 1) out (by omega) (by omega))
theorem path_len9 (s : List UInt8) (p : Int) : (pathM s p).length ≤ 9 := by
  rcases path_cut s p with h | ⟨a, h1, h2, h3, h4⟩
  · rw [h]; simp
  · rw [h1]; simp; omega
theorem dut_eq {s : List UInt8} {p : Int} (hl : s.length ≤ 900000) : place_Duties.f s p = some (dutM s p) := by
  unfold place_Duties.f place_Path.f
  have h9 := path_len9 s p
  rw [given_of hl, Option.bind_some, show loopM (fun s648 : (List (List UInt8)) × Int => place_Duties.b3 s p (pathM s p) s648.1 s648.2) (([] : List (List UInt8)), (0 : Int)) = _ from dut_loop hl (by omega) (pathM s p).length 0 [] (by omega) (by simp)]
  rfl
theorem rdut_loop {s : List UInt8} {p : Int} (hs : s.length ≤ 900000) {path : List (List UInt8)} (hl : path.length ≤ 1000) (hx : ∀ x ∈ path, x.length ≤ 1000) (h0 : 0 < path.length) : ∀ k i out, i + k + 1 = path.length → out.length ≤ i → loopM (fun s552 : (List (List UInt8)) × Int => gemotref14_Duties.b2 s p path s552.1 s552.2) (out, (i : Int)) = some (out ++ (path.dropLast.drop i).filter fun n => decide (sponM s n = p)) := by
  intro k
  induction k with
  | zero =>
    intro i out hi _
    refine loop_end ?_
    show gemotref14_Duties.b2 s p path out (i : Int) = _
    unfold gemotref14_Duties.b2
    rw [wrap1 i (by omega), cond_f (by omega), List.drop_of_length_le (by rw [List.length_dropLast]; omega)]; simp
  | succ k ih =>
    intro i out hi ho
    have hil : i < path.dropLast.length := by rw [List.length_dropLast]; omega
    have hil2 : i < path.length := by omega
    have hlen := hx path[i] (List.getElem_mem hil2)
    rw [List.drop_eq_getElem_cons hil, List.filter_cons, List.getElem_dropLast]
    have hbody : gemotref14_Duties.b2 s p path out (i : Int) = some (.inl (if sponM s path[i] = p then out ++ [path[i]] else out, ((i + 1 : Nat) : Int))) := by
      unfold gemotref14_Duties.b2 gemotref14_Duties.k1
      rw [wrap1 i (by omega), cond_t (by omega), idxL_lt hil2, Option.bind_some, rspon_eq hs (by omega), Option.bind_some]
      by_cases hp : sponM s path[i] = p
      · rw [if_pos hp, show (sponM s path[i] == p) = true by simpa using hp, cond_true, Option.bind_some, room_of (by omega)]
      · rw [if_neg hp, show (sponM s path[i] == p) = false by simpa using hp, cond_false]
    by_cases hc : sponM s path[i] = p
    · rw [if_pos hc] at hbody
      rw [if_pos (by simpa using hc)]
      have := ih (i + 1) (out ++ [path[i]]) (by omega) (by rw [List.length_append]; simp only [List.length_cons, List.length_nil]; omega)
      rw [List.append_assoc] at this
      exact loop_step hbody this
    · rw [if_neg hc] at hbody
      rw [if_neg (by simpa using hc)]
      exact loop_step hbody (ih (i + 1) out (by omega) (by omega))
theorem rdut_eq {s : List UInt8} {p : Int} (hl : s.length ≤ 900000) : gemotref14_Duties.f s p = some (dutM s p) := by
  unfold gemotref14_Duties.f dutM
  rw [path14 (by omega), Option.bind_some]
  rcases path_cut s p with h | ⟨a, h1, h2, h3, h4⟩
  · rw [h]
    have hL : loopM (fun s552 : (List (List UInt8)) × Int => gemotref14_Duties.b2 s p [] s552.1 s552.2) (([] : List (List UInt8)), (0 : Int)) = some [] := by
      refine loop_end ?_
      show gemotref14_Duties.b2 s p [] [] ((0 : Nat) : Int) = _
      unfold gemotref14_Duties.b2
      rw [wrap1 0 (by omega)]; rfl
    rw [hL]; rfl
  · have hpl : (pathM s p).length ≤ 9 ∧ 0 < (pathM s p).length := by rw [h1]; simp; omega
    have hL := rdut_loop (p := p) hl (path := pathM s p) (by omega) (fun x hx => by have := h3 x hx; omega) hpl.2 ((pathM s p).length - 1) 0 [] (by omega) (by simp)
    rw [show loopM (fun s552 : (List (List UInt8)) × Int => gemotref14_Duties.b2 s p (pathM s p) s552.1 s552.2) (([] : List (List UInt8)), (0 : Int)) = _ from hL]
    show some _ = some _
    rw [List.nil_append, List.drop_zero, h1, List.dropLast_concat, List.filter_append]
    have e1 : ([[]] : List (List UInt8)).filter (fun n => decide (n ≠ [] ∧ sponM s n = p)) = [] := by simp
    rw [e1, List.append_nil]
    congr 1
    refine List.filter_congr fun x hx => ?_
    have := h2 x hx
    simp [this]
end Go.Proofs.Ytgomlcfoifkdiaa.G
