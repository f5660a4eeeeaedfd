/- A tree's two halves. -/
import Derived.Test.YtfapphlhkfddoaaDoorRunes
import Derived.Test.YtfapphlhkfddoaaDoorTreeOf
namespace Go.Proofs.YtfapphlhkfddoaaDoor.G
open Go.RowKit Go.Eng Go.Proofs Go.Proofs.YtfapphlhkfddoaaDoor.Cut
set_option linter.unusedVariables false
set_option maxRecDepth 20000
variable {ok : Nat → Prop} {w0 w : World} {L R : List Eng.Item}

def openI (c : UInt8) (o : Int) : Int := if c = 40 then o + 1 else if c = 41 then o - 1 else o
/-- Behind how many bytes the brackets are all shut for the first time. -/
def cutAt : List UInt8 → Int → Nat → Option Nat
  | [], _, _ => none
  | c :: r, o, i => if openI c o = 0 then some (i + 1) else cutAt r (openI c o) (i + 1)
def halvesM (s : List UInt8) : List UInt8 × List UInt8 × Bool :=
  if s.length < 2 then ([], [], false) else
  match cutAt ((s.drop 1).take (s.length - 2)) 0 0 with
  | some k => (((s.drop 1).take (s.length - 2)).take k, ((s.drop 1).take (s.length - 2)).drop k, true)
  | none => ([], [], false)
set_option maxHeartbeats 4000000 in
theorem halves_calls {s : List UInt8} (hs : s.length ≤ 1000000) (ha : ∀ c ∈ s, c.toNat < 128) : Calls Tryd.prog 46 #[.string (bs s)] w fun e w' => ∃ v, e = .returned v ∧ (v = .tuple #[.string (bs (halvesM s).1), .string (bs (halvesM s).2.1), .bool (halvesM s).2.2] ∧ Bel w.heap.size w w') := by
  have H : Eng.Own (fun _ => False) w w [] := Eng.Own.nil _ w
  refine enterN (args := [.string (bs s)]) Tryd.func46 rfl Tryd.ntmps46 rfl rfl ?_
  refine Eng.nc_seq ?_
  refine nc ?_
  refine Eng.nc_seq ?_
  refine Eng.nc_seq ?_
  refine nc ?_
  refine Eng.nc_cond (b := decide (((bs s).size : Int) < 2)) rfl (fun hc => ?_) (fun hc => ?_)
  · refine Eng.nc_seq ?_
    refine nc ?_
    refine nc ?_
    refine ret_inA [.string (bs []), .string (bs []), .bool false] ⟨_, rfl, ?_, H.frame⟩
    have hl : s.length < 2 := by have := of_decide_eq_true hc; rw [bs_size] at this; omega
    unfold halvesM
    rw [if_pos hl]; rfl
  · have hl : ¬ s.length < 2 := by have := of_decide_eq_false hc; rw [bs_size] at this; omega
    have hinner : slcM s (1 : Int) (IntKind.i64.wrap (((bs s).size : Int) - 1)) = some ((s.drop 1).take (s.length - 2)) := by
      rw [bs_size, Eng.i64_id (by omega) (by omega)]
      unfold slcM
      rw [if_pos ⟨by omega, by omega, by omega⟩]
      congr 2
      omega
    generalize hin : (s.drop 1).take (s.length - 2) = inner at hinner
    have hil : inner.length ≤ 1000000 := by rw [← hin, List.length_take]; omega
    have hia : ∀ c ∈ inner, c.toNat < 128 := fun c hc => ha c (List.mem_of_mem_drop (List.mem_of_mem_take (by rw [hin]; exact hc)))
    have hM : halvesM s = match cutAt inner 0 0 with
      | some k => (inner.take k, inner.drop k, true)
      | none => ([], [], false) := by unfold halvesM; rw [if_neg hl, hin]
    rw [hM]
    refine nc ?_
    refine Eng.nc_seq ?_
    refine nc ?_
    refine txtI_rule 1 (IntKind.i64.wrap (((bs s).size : Int) - 1)) (by kernel_rfl) ⟨_, rfl⟩ ⟨_, rfl⟩ hinner ?_
    refine Eng.nc_seq ?_
    refine nc ?_
    refine nc_cut (fun e w' => cutAt inner 0 0 = none ∧ e = [] ∧ Eng.Own (fun _ => False) w w' []) ?_ ?_
    · refine Eng.nc_seq ?_
      refine nc ?_
      refine rangeStr_rule (by kernel_rfl) H fun r w1 H => ?_
      refine Eng.nc_block ?_
      refine nc ?_
      refine loop_ruleA (fun k e w' => ∃ (pos : Nat) (o : Int), pos + k = inner.length + 1 ∧ -1000000 ≤ o + pos ∧ o ≤ pos ∧ -(pos : Int) ≤ o ∧ cutAt inner 0 0 = cutAt (inner.drop pos) o pos ∧ e = [(5, .string (bs inner)), (6, .int .i64 o), (18, .pointer (some ⟨r, 0, none⟩))] ∧ Eng.Own (fun _ => False) w w' [.obj r (· = .stringIter (bs inner) pos)]) (k₀ := inner.length + 1) ⟨0, 0, by omega, by omega, by omega, by omega, rfl, rfl, H⟩ ?_
      rintro k e w2 ⟨pos, o, hk, ho1, ho2, ho3, hcut, rfl, H⟩
      refine Eng.nc_seq ?_
      refine nc ?_
      refine nextStr_rule hia H 0 rfl (fun hend => ?_) (fun c w3 hc H => ?_)
      · refine Eng.nc_seq ?_
        refine Eng.nc_cond (b := false) rfl (fun hc => ?_) (fun hc => ?_)
        · cases hc
        · refine nc ?_
          refine cut_inA ⟨?_, rfl, H.less (List.nil_sublist _)⟩
          rw [hcut, List.drop_of_length_le (by omega)]; rfl
      · have hpl := (List.getElem?_eq_some_iff.1 hc).1
        have hdrop : inner.drop pos = c :: inner.drop (pos + 1) := by
          rw [List.drop_eq_getElem_cons hpl]
          congr 1
          exact (List.getElem?_eq_some_iff.1 hc).2
        have h256 := UInt8.toNat_lt c
        obtain ⟨k, rfl⟩ : ∃ m, k = m + 1 := ⟨k - 1, by omega⟩
        refine Eng.nc_seq ?_
        refine Eng.nc_cond (b := true) rfl (fun hc2 => ?_) (fun hc2 => ?_)
        · refine nc ?_
          refine Eng.nc_block ?_
          refine Eng.nc_seq ?_
          refine nc ?_
          refine nc_cut (fun e w' => ∃ o2, o2 = openI c o ∧ e = [(5, .string (bs inner)), (6, .int .i64 o2), (7, .int .i64 (pos : Int)), (18, .pointer (some ⟨r, 0, none⟩))] ∧ Eng.Own (fun _ => False) w w' [.obj r (· = .stringIter (bs inner) (pos + 1))]) ?_ ?_
          · have hw1 : IntKind.i64.wrap (o + 1) = o + 1 := Eng.i64_id (by omega) (by omega)
            have hw2 : IntKind.i64.wrap (o - 1) = o - 1 := Eng.i64_id (by omega) (by omega)
            refine Eng.nc_seq ?_
            refine nc ?_
            refine Eng.nc_block ?_
            refine Eng.nc_seq ?_
            refine nc ?_
            refine Eng.nc_cond (b := ((c.toNat : Int) == 40)) rfl (fun h1 => ?_) (fun h1 => ?_)
            · have hc40 : c = 40 := UInt8.toNat_inj.1 (by show c.toNat = 40; simp at h1; omega)
              refine nc ?_
              refine cut_inA ⟨_, ?_, rfl, H⟩
              rw [hw1]
              unfold openI
              rw [if_pos hc40]
            · have hc40 : c ≠ 40 := by rintro rfl; cases h1
              refine Eng.nc_seq ?_
              refine nc ?_
              refine Eng.nc_cond (b := ((c.toNat : Int) == 41)) rfl (fun h2 => ?_) (fun h2 => ?_)
              · have hc41 : c = 41 := UInt8.toNat_inj.1 (by show c.toNat = 41; simp at h2; omega)
                refine nc ?_
                refine cut_inA ⟨_, ?_, rfl, H⟩
                rw [hw2]
                unfold openI
                rw [if_neg hc40, if_pos hc41]
              · have hc41 : c ≠ 41 := by rintro rfl; cases h2
                refine nc ?_
                refine cut_inA ⟨_, ?_, rfl, H⟩
                unfold openI
                rw [if_neg hc40, if_neg hc41]
          · rintro _ w4 ⟨_, rfl, rfl, H⟩
            have hstep : cutAt (inner.drop pos) o pos = if openI c o = 0 then some (pos + 1) else cutAt (inner.drop (pos + 1)) (openI c o) (pos + 1) := by rw [hdrop]; rfl
            have hpw : IntKind.i64.wrap ((pos : Int) + 1) = ((pos + 1 : Nat) : Int) := by rw [Eng.i64_id (by omega) (by omega)]; omega
            have hoI : openI c o ≤ ((pos + 1 : Nat) : Int) ∧ -((pos + 1 : Nat) : Int) ≤ openI c o := by
              unfold openI
              split
              · omega
              · split <;> omega
            refine Eng.nc_seq ?_
            refine nc ?_
            refine Eng.nc_cond (b := (openI c o == 0)) rfl (fun h1 => ?_) (fun h1 => ?_)
            · have h0 : openI c o = 0 := by simpa using h1
              rw [if_pos h0] at hstep
              rw [hcut, hstep]
              have s1 : slcM inner (0 : Int) (IntKind.i64.wrap ((pos : Int) + 1)) = some (inner.take (pos + 1)) := by
                rw [hpw]
                unfold slcM
                rw [if_pos ⟨by omega, by omega, by omega⟩]
                simp
              have s2 : slcM inner (IntKind.i64.wrap ((pos : Int) + 1)) (inner.length : Int) = some (inner.drop (pos + 1)) := by
                rw [hpw]
                unfold slcM
                rw [if_pos ⟨by omega, by omega, by omega⟩]
                rw [List.take_of_length_le (by rw [List.length_drop]; omega)]; rfl
              refine Eng.nc_seq ?_
              refine nc ?_
              refine draw_rule [] (by kernel_rfl) (by kernel_rfl) H ?_
              refine c_txtI 0 (IntKind.i64.wrap ((pos : Int) + 1)) (by kernel_rfl) rfl ⟨_, rfl⟩ s1 ?_
              refine c_txtI (IntKind.i64.wrap ((pos : Int) + 1)) (inner.length : Int) (by kernel_rfl) ⟨_, rfl⟩ rfl s2 ?_
              intro w5 H
              refine nc ?_
              exact ret_inA [.string (bs (inner.take (pos + 1))), .string (bs (inner.drop (pos + 1))), .bool true] ⟨_, rfl, rfl, H.frame⟩
            · have h0 : ¬ openI c o = 0 := by simpa using h1
              rw [if_neg h0] at hstep
              refine nc ?_
              exact again_inA ⟨pos + 1, openI c o, by omega, by omega, hoI.1, hoI.2, by rw [hcut, hstep], rfl, H⟩
        · cases hc2
    · rintro _ w2 ⟨hcut, rfl, H⟩
      rw [hcut]
      refine Eng.nc_seq ?_
      refine nc ?_
      refine nc ?_
      exact ret_inA [.string (bs []), .string (bs []), .bool false] ⟨_, rfl, rfl, H.frame⟩
end Go.Proofs.YtfapphlhkfddoaaDoor.G
