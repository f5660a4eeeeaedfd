/- MemberFlush, as it is reckoned: what a node has been told by then; what it installs. -/
import Derived.Test.YtipoblinefamgaaCutQ
import Derived.Test.YtipoblinefamgaaMbAsk
namespace Go.Proofs.Ytipoblinefamgaa.G
open Go.RowKit Go.Eng Go.Proofs Go.Proofs.Ytipoblinefamgaa.Cut
set_option linter.unusedVariables false
set_option linter.unusedSimpArgs false
set_option maxRecDepth 100000

def itF (n : Nat) : List (List UInt8) := (List.range n).map fun (i : Nat) => countedT 117 (i : Int)
theorem itF_succ (n : Nat) : itF (n + 1) = itF n ++ [countedT 117 (n : Int)] := by simp [itF, List.range_succ]
theorem itF_len (n : Nat) : (itF n).length = n := by simp [itF]
theorem itF_all (n : Nat) : ∀ t ∈ itF n, ∃ k, t = countedT 117 k := fun t ht => by
  unfold itF at ht
  obtain ⟨i, -, rfl⟩ := List.mem_map.1 ht
  exact ⟨_, rfl⟩
theorem itF_one {n i : Nat} (h : i < n) : slcM (itF n) (i : Int) ((i + 1 : Nat) : Int) = some [countedT 117 (i : Int)] := by
  have hl := itF_len n
  rw [slc_lt (by omega) (by omega)]
  refine congrArg some ?_
  rw [show i + 1 - i = 1 by omega, List.drop_eq_getElem_cons (by omega)]
  simp [itF]
theorem parts_one {items : List (List UInt8)} (hu : ∀ t ∈ items, ∃ n, t = countedT 117 n) (h0 : 0 < items.length) (hl : items.length ≤ 100) :
    ∃ ts, cut_Parts.f ([(((1 : Int), (1 : Int)), (1 : Int), items)] : List D_cut_Part) = some (ts, 0) ∧ cut_Unpart.f ts = some (([(((1 : Int), (1 : Int)), (1 : Int), items)] : List D_cut_Part), 0) := by
  have hall : ∀ t ∈ ([1, 1, 1] : List Int).map numT ++ items, ∃ n, t = countedT 117 n := fun t ht => by
    rcases List.mem_append.1 ht with ht | ht
    · obtain ⟨n, -, rfl⟩ := List.mem_map.1 ht
      exact ⟨n, rfl⟩
    · exact hu t ht
  have hlen : (([1, 1, 1] : List Int).map numT ++ items).length ≤ 150 := by simp; omega
  obtain ⟨-, hr, hR, -⟩ := putE_ok (put_numbers hall hlen)
  have hone : ∀ n ∈ ([1, 1, 1] : List Int), 0 ≤ n ∧ n ≤ 2147483647 := fun n hn => by
    simp at hn; omega
  have hrow : rowO items [1, 1, 1] = some (putT (([1, 1, 1] : List Int).map numT ++ items)) := ok_rowO hone h0 hlen hr hR
  have hbig := (rightB_len hR).2
  have hsm : ∀ t ∈ items, t.length ≤ 140737488355328 := fun t ht => by
    obtain ⟨n, rfl⟩ := hu t ht
    simp [countedT, bytesOf_length]
  generalize hT : putT (([1, 1, 1] : List Int).map numT ++ items) = T at hrow hbig
  have hm : mapO partO ([(((1 : Int), (1 : Int)), (1 : Int), items)] : List D_cut_Part) = some [T] := by
    unfold mapO
    rw [show partO (((1 : Int), (1 : Int)), (1 : Int), items) = some T from hrow]
    rfl
  have hrp : rightPs ([(((1 : Int), (1 : Int)), (1 : Int), items)] : List D_cut_Part) := fun i hi => by
    obtain rfl : i = 0 := by simpa using hi
    exact ⟨hi, ⟨(by decide : (1 : Int) ≤ 1), (by decide : (1 : Int) ≤ 8), (by decide : (1 : Int) ≤ 8)⟩, fun h => absurd h (by omega)⟩
  refine ⟨[T], ?_, ?_⟩
  · rcases cutParts_spec (l := ([(((1 : Int), (1 : Int)), (1 : Int), items)] : List D_cut_Part)) (by simp) (fun x hx => by rw [List.mem_singleton] at hx; subst hx; show items.length ≤ _; omega) (fun x hx => by rw [List.mem_singleton] at hx; subst hx; exact hsm) with ⟨_, e⟩ | ⟨hn, _⟩
    · rw [e, hm]
    · exact absurd hrp hn
  · have hu2 := parts_take hm
    have := cutUnpart_spec (l := [T]) (by simp) (fun x hx => by rw [List.mem_singleton] at hx; subst hx; omega)
    rw [hu2] at this
    rcases this with ⟨_, e⟩ | ⟨hn, _⟩
    · exact e
    · exact absurd hrp hn
def rowsF : Nat → List (Int × List (List UInt8))
  | 0 => []
  | i + 1 => [(1, itF (i + 1))]
def nodeF (l : List (Int × List (List UInt8))) : O_member_Node := { me_ := 2, view_ := ((1, 1), [1, 2]), rows_ := l, promised_ := ((1, 1), [1, 2]), seen_ := (1, 1), plan_ := none, early_ := [], outs_ := [], events_ := [] }
def nodeP (l : List (Int × List (List UInt8))) : O_member_Node := { me_ := 2, view_ := ((1, 1), [1, 2]), rows_ := l, promised_ := ((2, 1), [1, 2]), seen_ := (2, 1), plan_ := none, early_ := [], outs_ := [], events_ := [] }
def evF (i : Nat) : D_member_Event := (1, ((1, 1), [1, 2]), 1, ((i + 1 : Nat) : Int), countedT 117 (i : Int))
theorem castF : ∀ {i : Nat}, i < 7 → member_Node_Take.f (nodeF (rowsF i)) (1 : Int) ((6 : Int), ((1 : Int), (1 : Int)), ((0 : Int), (0 : Int)), ((i + 1 : Nat) : Int), ([] : List Int), [countedT 117 (i : Int)]) = some ([], [evF i], nodeF (rowsF (i + 1)))
  | 0, _ => by kernel_rfl
  | 1, _ => by kernel_rfl
  | 2, _ => by kernel_rfl
  | 3, _ => by kernel_rfl
  | 4, _ => by kernel_rfl
  | 5, _ => by kernel_rfl
  | 6, _ => by kernel_rfl
  | n + 7, h => absurd h (by omega)
theorem frozeF : ∀ {a : Nat} (b : Int) (I : List (List UInt8)), a < 8 → gemotlaw12_MemberFlush.k11 (a : Int) b (nodeF (rowsF a)) I = gemotlaw12_MemberFlush.k10 (a : Int) b I ([], [], nodeP (rowsF a)) false
  | 0, b, I, _ => by kernel_rfl
  | 1, b, I, _ => by kernel_rfl
  | 2, b, I, _ => by kernel_rfl
  | 3, b, I, _ => by kernel_rfl
  | 4, b, I, _ => by kernel_rfl
  | 5, b, I, _ => by kernel_rfl
  | 6, b, I, _ => by kernel_rfl
  | 7, b, I, _ => by kernel_rfl
  | n + 8, b, I, h => absurd h (by omega)
end Go.Proofs.Ytipoblinefamgaa.G
/- MemberFlush: what is told ahead of the view, from each state. -/
namespace Go.Proofs.Ytipoblinefamgaa.G
open Go.RowKit Go.Eng Go.Proofs Go.Proofs.Ytipoblinefamgaa.Cut
set_option linter.unusedVariables false
set_option maxRecDepth 100000
theorem k9F0 {ts : List (List UInt8)} : ∀ {b : Nat}, b < 8 → cut_Unpart.f ts = some (([(((1 : Int), (1 : Int)), (1 : Int), itF (0 + b))] : List D_cut_Part), 0) → gemotlaw12_MemberFlush.k9 ((0 : Nat) : Int) (b : Int) (itF (0 + b)) ([], [], nodeP (rowsF 0)) ts = some true
  | 0, _, h => by
    unfold gemotlaw12_MemberFlush.k9 member_Node_Take.f member_Node_install.f
    show ((((cut_Unpart.f ts).bind _).bind _).bind _) = _
    rw [h]
    kernel_rfl
  | 1, _, h => by
    unfold gemotlaw12_MemberFlush.k9 member_Node_Take.f member_Node_install.f
    show ((((cut_Unpart.f ts).bind _).bind _).bind _) = _
    rw [h]
    kernel_rfl
  | 2, _, h => by
    unfold gemotlaw12_MemberFlush.k9 member_Node_Take.f member_Node_install.f
    show ((((cut_Unpart.f ts).bind _).bind _).bind _) = _
    rw [h]
    kernel_rfl
  | 3, _, h => by
    unfold gemotlaw12_MemberFlush.k9 member_Node_Take.f member_Node_install.f
    show ((((cut_Unpart.f ts).bind _).bind _).bind _) = _
    rw [h]
    kernel_rfl
  | 4, _, h => by
    unfold gemotlaw12_MemberFlush.k9 member_Node_Take.f member_Node_install.f
    show ((((cut_Unpart.f ts).bind _).bind _).bind _) = _
    rw [h]
    kernel_rfl
  | 5, _, h => by
    unfold gemotlaw12_MemberFlush.k9 member_Node_Take.f member_Node_install.f
    show ((((cut_Unpart.f ts).bind _).bind _).bind _) = _
    rw [h]
    kernel_rfl
  | 6, _, h => by
    unfold gemotlaw12_MemberFlush.k9 member_Node_Take.f member_Node_install.f
    show ((((cut_Unpart.f ts).bind _).bind _).bind _) = _
    rw [h]
    kernel_rfl
  | 7, _, h => by
    unfold gemotlaw12_MemberFlush.k9 member_Node_Take.f member_Node_install.f
    show ((((cut_Unpart.f ts).bind _).bind _).bind _) = _
    rw [h]
    kernel_rfl
  | n + 8, h, _ => absurd h (by omega)
theorem k9F1 {ts : List (List UInt8)} : ∀ {b : Nat}, b < 8 → cut_Unpart.f ts = some (([(((1 : Int), (1 : Int)), (1 : Int), itF (1 + b))] : List D_cut_Part), 0) → gemotlaw12_MemberFlush.k9 ((1 : Nat) : Int) (b : Int) (itF (1 + b)) ([], [], nodeP (rowsF 1)) ts = some true
  | 0, _, h => by
    unfold gemotlaw12_MemberFlush.k9 member_Node_Take.f member_Node_install.f
    show ((((cut_Unpart.f ts).bind _).bind _).bind _) = _
    rw [h]
    kernel_rfl
  | 1, _, h => by
    unfold gemotlaw12_MemberFlush.k9 member_Node_Take.f member_Node_install.f
    show ((((cut_Unpart.f ts).bind _).bind _).bind _) = _
    rw [h]
    kernel_rfl
  | 2, _, h => by
    unfold gemotlaw12_MemberFlush.k9 member_Node_Take.f member_Node_install.f
    show ((((cut_Unpart.f ts).bind _).bind _).bind _) = _
    rw [h]
    kernel_rfl
  | 3, _, h => by
    unfold gemotlaw12_MemberFlush.k9 member_Node_Take.f member_Node_install.f
    show ((((cut_Unpart.f ts).bind _).bind _).bind _) = _
    rw [h]
    kernel_rfl
  | 4, _, h => by
    unfold gemotlaw12_MemberFlush.k9 member_Node_Take.f member_Node_install.f
    show ((((cut_Unpart.f ts).bind _).bind _).bind _) = _
    rw [h]
    kernel_rfl
  | 5, _, h => by
    unfold gemotlaw12_MemberFlush.k9 member_Node_Take.f member_Node_install.f
    show ((((cut_Unpart.f ts).bind _).bind _).bind _) = _
    rw [h]
    kernel_rfl
  | 6, _, h => by
    unfold gemotlaw12_MemberFlush.k9 member_Node_Take.f member_Node_install.f
    show ((((cut_Unpart.f ts).bind _).bind _).bind _) = _
    rw [h]
    kernel_rfl
  | 7, _, h => by
    unfold gemotlaw12_MemberFlush.k9 member_Node_Take.f member_Node_install.f
    show ((((cut_Unpart.f ts).bind _).bind _).bind _) = _
    rw [h]
    kernel_rfl
  | n + 8, h, _ => absurd h (by omega)
theorem k9F2 {ts : List (List UInt8)} : ∀ {b : Nat}, b < 8 → cut_Unpart.f ts = some (([(((1 : Int), (1 : Int)), (1 : Int), itF (2 + b))] : List D_cut_Part), 0) → gemotlaw12_MemberFlush.k9 ((2 : Nat) : Int) (b : Int) (itF (2 + b)) ([], [], nodeP (rowsF 2)) ts = some true
  | 0, _, h => by
    unfold gemotlaw12_MemberFlush.k9 member_Node_Take.f member_Node_install.f
    show ((((cut_Unpart.f ts).bind _).bind _).bind _) = _
    rw [h]
    kernel_rfl
  | 1, _, h => by
    unfold gemotlaw12_MemberFlush.k9 member_Node_Take.f member_Node_install.f
    show ((((cut_Unpart.f ts).bind _).bind _).bind _) = _
    rw [h]
    kernel_rfl
  | 2, _, h => by
    unfold gemotlaw12_MemberFlush.k9 member_Node_Take.f member_Node_install.f
    show ((((cut_Unpart.f ts).bind _).bind _).bind _) = _
    rw [h]
    kernel_rfl
  | 3, _, h => by
    unfold gemotlaw12_MemberFlush.k9 member_Node_Take.f member_Node_install.f
    show ((((cut_Unpart.f ts).bind _).bind _).bind _) = _
    rw [h]
    kernel_rfl
  | 4, _, h => by
    unfold gemotlaw12_MemberFlush.k9 member_Node_Take.f member_Node_install.f
    show ((((cut_Unpart.f ts).bind _).bind _).bind _) = _
    rw [h]
    kernel_rfl
  | 5, _, h => by
    unfold gemotlaw12_MemberFlush.k9 member_Node_Take.f member_Node_install.f
    show ((((cut_Unpart.f ts).bind _).bind _).bind _) = _
    rw [h]
    kernel_rfl
  | 6, _, h => by
    unfold gemotlaw12_MemberFlush.k9 member_Node_Take.f member_Node_install.f
    show ((((cut_Unpart.f ts).bind _).bind _).bind _) = _
    rw [h]
    kernel_rfl
  | 7, _, h => by
    unfold gemotlaw12_MemberFlush.k9 member_Node_Take.f member_Node_install.f
    show ((((cut_Unpart.f ts).bind _).bind _).bind _) = _
    rw [h]
    kernel_rfl
  | n + 8, h, _ => absurd h (by omega)
theorem k9F3 {ts : List (List UInt8)} : ∀ {b : Nat}, b < 8 → cut_Unpart.f ts = some (([(((1 : Int), (1 : Int)), (1 : Int), itF (3 + b))] : List D_cut_Part), 0) → gemotlaw12_MemberFlush.k9 ((3 : Nat) : Int) (b : Int) (itF (3 + b)) ([], [], nodeP (rowsF 3)) ts = some true
  | 0, _, h => by
    unfold gemotlaw12_MemberFlush.k9 member_Node_Take.f member_Node_install.f
    show ((((cut_Unpart.f ts).bind _).bind _).bind _) = _
    rw [h]
    kernel_rfl
  | 1, _, h => by
    unfold gemotlaw12_MemberFlush.k9 member_Node_Take.f member_Node_install.f
    show ((((cut_Unpart.f ts).bind _).bind _).bind _) = _
    rw [h]
    kernel_rfl
  | 2, _, h => by
    unfold gemotlaw12_MemberFlush.k9 member_Node_Take.f member_Node_install.f
    show ((((cut_Unpart.f ts).bind _).bind _).bind _) = _
    rw [h]
    kernel_rfl
  | 3, _, h => by
    unfold gemotlaw12_MemberFlush.k9 member_Node_Take.f member_Node_install.f
    show ((((cut_Unpart.f ts).bind _).bind _).bind _) = _
    rw [h]
    kernel_rfl
  | 4, _, h => by
    unfold gemotlaw12_MemberFlush.k9 member_Node_Take.f member_Node_install.f
    show ((((cut_Unpart.f ts).bind _).bind _).bind _) = _
    rw [h]
    kernel_rfl
  | 5, _, h => by
    unfold gemotlaw12_MemberFlush.k9 member_Node_Take.f member_Node_install.f
    show ((((cut_Unpart.f ts).bind _).bind _).bind _) = _
    rw [h]
    kernel_rfl
  | 6, _, h => by
    unfold gemotlaw12_MemberFlush.k9 member_Node_Take.f member_Node_install.f
    show ((((cut_Unpart.f ts).bind _).bind _).bind _) = _
    rw [h]
    kernel_rfl
  | 7, _, h => by
    unfold gemotlaw12_MemberFlush.k9 member_Node_Take.f member_Node_install.f
    show ((((cut_Unpart.f ts).bind _).bind _).bind _) = _
    rw [h]
    kernel_rfl
  | n + 8, h, _ => absurd h (by omega)
theorem k9F4 {ts : List (List UInt8)} : ∀ {b : Nat}, b < 8 → cut_Unpart.f ts = some (([(((1 : Int), (1 : Int)), (1 : Int), itF (4 + b))] : List D_cut_Part), 0) → gemotlaw12_MemberFlush.k9 ((4 : Nat) : Int) (b : Int) (itF (4 + b)) ([], [], nodeP (rowsF 4)) ts = some true
  | 0, _, h => by
    unfold gemotlaw12_MemberFlush.k9 member_Node_Take.f member_Node_install.f
    show ((((cut_Unpart.f ts).bind _).bind _).bind _) = _
    rw [h]
    kernel_rfl
  | 1, _, h => by
    unfold gemotlaw12_MemberFlush.k9 member_Node_Take.f member_Node_install.f
    show ((((cut_Unpart.f ts).bind _).bind _).bind _) = _
    rw [h]
    kernel_rfl
  | 2, _, h => by
    unfold gemotlaw12_MemberFlush.k9 member_Node_Take.f member_Node_install.f
    show ((((cut_Unpart.f ts).bind _).bind _).bind _) = _
    rw [h]
    kernel_rfl
  | 3, _, h => by
    unfold gemotlaw12_MemberFlush.k9 member_Node_Take.f member_Node_install.f
    show ((((cut_Unpart.f ts).bind _).bind _).bind _) = _
    rw [h]
    kernel_rfl
  | 4, _, h => by
    unfold gemotlaw12_MemberFlush.k9 member_Node_Take.f member_Node_install.f
    show ((((cut_Unpart.f ts).bind _).bind _).bind _) = _
    rw [h]
    kernel_rfl
  | 5, _, h => by
    unfold gemotlaw12_MemberFlush.k9 member_Node_Take.f member_Node_install.f
    show ((((cut_Unpart.f ts).bind _).bind _).bind _) = _
    rw [h]
    kernel_rfl
  | 6, _, h => by
    unfold gemotlaw12_MemberFlush.k9 member_Node_Take.f member_Node_install.f
    show ((((cut_Unpart.f ts).bind _).bind _).bind _) = _
    rw [h]
    kernel_rfl
  | 7, _, h => by
    unfold gemotlaw12_MemberFlush.k9 member_Node_Take.f member_Node_install.f
    show ((((cut_Unpart.f ts).bind _).bind _).bind _) = _
    rw [h]
    kernel_rfl
  | n + 8, h, _ => absurd h (by omega)
theorem k9F5 {ts : List (List UInt8)} : ∀ {b : Nat}, b < 8 → cut_Unpart.f ts = some (([(((1 : Int), (1 : Int)), (1 : Int), itF (5 + b))] : List D_cut_Part), 0) → gemotlaw12_MemberFlush.k9 ((5 : Nat) : Int) (b : Int) (itF (5 + b)) ([], [], nodeP (rowsF 5)) ts = some true
  | 0, _, h => by
    unfold gemotlaw12_MemberFlush.k9 member_Node_Take.f member_Node_install.f
    show ((((cut_Unpart.f ts).bind _).bind _).bind _) = _
    rw [h]
    kernel_rfl
  | 1, _, h => by
    unfold gemotlaw12_MemberFlush.k9 member_Node_Take.f member_Node_install.f
    show ((((cut_Unpart.f ts).bind _).bind _).bind _) = _
    rw [h]
    kernel_rfl
  | 2, _, h => by
    unfold gemotlaw12_MemberFlush.k9 member_Node_Take.f member_Node_install.f
    show ((((cut_Unpart.f ts).bind _).bind _).bind _) = _
    rw [h]
    kernel_rfl
  | 3, _, h => by
    unfold gemotlaw12_MemberFlush.k9 member_Node_Take.f member_Node_install.f
    show ((((cut_Unpart.f ts).bind _).bind _).bind _) = _
    rw [h]
    kernel_rfl
  | 4, _, h => by
    unfold gemotlaw12_MemberFlush.k9 member_Node_Take.f member_Node_install.f
    show ((((cut_Unpart.f ts).bind _).bind _).bind _) = _
    rw [h]
    kernel_rfl
  | 5, _, h => by
    unfold gemotlaw12_MemberFlush.k9 member_Node_Take.f member_Node_install.f
    show ((((cut_Unpart.f ts).bind _).bind _).bind _) = _
    rw [h]
    kernel_rfl
  | 6, _, h => by
    unfold gemotlaw12_MemberFlush.k9 member_Node_Take.f member_Node_install.f
    show ((((cut_Unpart.f ts).bind _).bind _).bind _) = _
    rw [h]
    kernel_rfl
  | 7, _, h => by
    unfold gemotlaw12_MemberFlush.k9 member_Node_Take.f member_Node_install.f
    show ((((cut_Unpart.f ts).bind _).bind _).bind _) = _
    rw [h]
    kernel_rfl
  | n + 8, h, _ => absurd h (by omega)
theorem k9F6 {ts : List (List UInt8)} : ∀ {b : Nat}, b < 8 → cut_Unpart.f ts = some (([(((1 : Int), (1 : Int)), (1 : Int), itF (6 + b))] : List D_cut_Part), 0) → gemotlaw12_MemberFlush.k9 ((6 : Nat) : Int) (b : Int) (itF (6 + b)) ([], [], nodeP (rowsF 6)) ts = some true
  | 0, _, h => by
    unfold gemotlaw12_MemberFlush.k9 member_Node_Take.f member_Node_install.f
    show ((((cut_Unpart.f ts).bind _).bind _).bind _) = _
    rw [h]
    kernel_rfl
  | 1, _, h => by
    unfold gemotlaw12_MemberFlush.k9 member_Node_Take.f member_Node_install.f
    show ((((cut_Unpart.f ts).bind _).bind _).bind _) = _
    rw [h]
    kernel_rfl
  | 2, _, h => by
    unfold gemotlaw12_MemberFlush.k9 member_Node_Take.f member_Node_install.f
    show ((((cut_Unpart.f ts).bind _).bind _).bind _) = _
    rw [h]
    kernel_rfl
  | 3, _, h => by
    unfold gemotlaw12_MemberFlush.k9 member_Node_Take.f member_Node_install.f
    show ((((cut_Unpart.f ts).bind _).bind _).bind _) = _
    rw [h]
    kernel_rfl
  | 4, _, h => by
    unfold gemotlaw12_MemberFlush.k9 member_Node_Take.f member_Node_install.f
    show ((((cut_Unpart.f ts).bind _).bind _).bind _) = _
    rw [h]
    kernel_rfl
  | 5, _, h => by
    unfold gemotlaw12_MemberFlush.k9 member_Node_Take.f member_Node_install.f
    show ((((cut_Unpart.f ts).bind _).bind _).bind _) = _
    rw [h]
    kernel_rfl
  | 6, _, h => by
    unfold gemotlaw12_MemberFlush.k9 member_Node_Take.f member_Node_install.f
    show ((((cut_Unpart.f ts).bind _).bind _).bind _) = _
    rw [h]
    kernel_rfl
  | 7, _, h => by
    unfold gemotlaw12_MemberFlush.k9 member_Node_Take.f member_Node_install.f
    show ((((cut_Unpart.f ts).bind _).bind _).bind _) = _
    rw [h]
    kernel_rfl
  | n + 8, h, _ => absurd h (by omega)
theorem k9F7 {ts : List (List UInt8)} : ∀ {b : Nat}, b < 8 → cut_Unpart.f ts = some (([(((1 : Int), (1 : Int)), (1 : Int), itF (7 + b))] : List D_cut_Part), 0) → gemotlaw12_MemberFlush.k9 ((7 : Nat) : Int) (b : Int) (itF (7 + b)) ([], [], nodeP (rowsF 7)) ts = some true
  | 0, _, h => by
    unfold gemotlaw12_MemberFlush.k9 member_Node_Take.f member_Node_install.f
    show ((((cut_Unpart.f ts).bind _).bind _).bind _) = _
    rw [h]
    kernel_rfl
  | 1, _, h => by
    unfold gemotlaw12_MemberFlush.k9 member_Node_Take.f member_Node_install.f
    show ((((cut_Unpart.f ts).bind _).bind _).bind _) = _
    rw [h]
    kernel_rfl
  | 2, _, h => by
    unfold gemotlaw12_MemberFlush.k9 member_Node_Take.f member_Node_install.f
    show ((((cut_Unpart.f ts).bind _).bind _).bind _) = _
    rw [h]
    kernel_rfl
  | 3, _, h => by
    unfold gemotlaw12_MemberFlush.k9 member_Node_Take.f member_Node_install.f
    show ((((cut_Unpart.f ts).bind _).bind _).bind _) = _
    rw [h]
    kernel_rfl
  | 4, _, h => by
    unfold gemotlaw12_MemberFlush.k9 member_Node_Take.f member_Node_install.f
    show ((((cut_Unpart.f ts).bind _).bind _).bind _) = _
    rw [h]
    kernel_rfl
  | 5, _, h => by
    unfold gemotlaw12_MemberFlush.k9 member_Node_Take.f member_Node_install.f
    show ((((cut_Unpart.f ts).bind _).bind _).bind _) = _
    rw [h]
    kernel_rfl
  | 6, _, h => by
    unfold gemotlaw12_MemberFlush.k9 member_Node_Take.f member_Node_install.f
    show ((((cut_Unpart.f ts).bind _).bind _).bind _) = _
    rw [h]
    kernel_rfl
  | 7, _, h => by
    unfold gemotlaw12_MemberFlush.k9 member_Node_Take.f member_Node_install.f
    show ((((cut_Unpart.f ts).bind _).bind _).bind _) = _
    rw [h]
    kernel_rfl
  | n + 8, h, _ => absurd h (by omega)
theorem k9F {ts : List (List UInt8)} : ∀ {a b : Nat}, a < 8 → b < 8 → cut_Unpart.f ts = some (([(((1 : Int), (1 : Int)), (1 : Int), itF (a + b))] : List D_cut_Part), 0) → gemotlaw12_MemberFlush.k9 (a : Int) (b : Int) (itF (a + b)) ([], [], nodeP (rowsF a)) ts = some true
  | 0, b, _, hb, h => k9F0 hb h
  | 1, b, _, hb, h => k9F1 hb h
  | 2, b, _, hb, h => k9F2 hb h
  | 3, b, _, hb, h => k9F3 hb h
  | 4, b, _, hb, h => k9F4 hb h
  | 5, b, _, hb, h => k9F5 hb h
  | 6, b, _, hb, h => k9F6 hb h
  | 7, b, _, hb, h => k9F7 hb h
  | n + 8, _, h, _, _ => absurd h (by omega)
end Go.Proofs.Ytipoblinefamgaa.G
/- MemberFlush, as it is reckoned: the law. -/
namespace Go.Proofs.Ytipoblinefamgaa.G
open Go.RowKit Go.Eng Go.Proofs Go.Proofs.Ytipoblinefamgaa.Cut
set_option linter.unusedVariables false
set_option linter.unusedSimpArgs false
set_option maxRecDepth 100000

theorem addF {a b : Nat} (ha : a < 8) (hb : b < 8) : IntKind.i64.wrap ((a : Int) + (b : Int)) = ((a + b : Nat) : Int) := by
  rw [Eng.i64_id (by omega) (by omega)]; omega
theorem items_loop (y44 : (List D_member_Out) × (List D_member_Event) × O_member_Node) {a b : Nat} (ha : a < 8) (hb : b < 8) :
    loopM (fun s255 : (List (List UInt8)) × Int => gemotlaw12_MemberFlush.b1 y44 (a : Int) (b : Int) s255.1 s255.2) (([] : List (List UInt8)), (0 : Int)) = some (itF (a + b)) := by
  refine loop_count (fun i => (itF i, (i : Int))) (a + b) (fun i hi => ?_) ?_
  · show gemotlaw12_MemberFlush.b1 y44 (a : Int) (b : Int) (itF i) (i : Int) = _
    unfold gemotlaw12_MemberFlush.b1 term_Number.f
    rw [addF ha hb, cond_t (by omega), Option.bind_some, Eng.u64_id (by omega) (by omega), room_of (by rw [itF_len]; omega), wrap1 i (by omega), itF_succ]
  · show gemotlaw12_MemberFlush.b1 y44 (a : Int) (b : Int) (itF (a + b)) ((a + b : Nat) : Int) = _
    unfold gemotlaw12_MemberFlush.b1
    rw [addF ha hb, cond_f (by omega)]
theorem casts_loop {a b : Nat} (ha : a < 8) (hb : b < 8) :
    loopM (fun s1414 : O_member_Node × (List (List UInt8)) × Int => gemotlaw12_MemberFlush.b3 (a : Int) (b : Int) s1414.1 s1414.2.1 s1414.2.2) (nodeF [], itF (a + b), (0 : Int)) = some (.inl (nodeF (rowsF a), itF (a + b))) := by
  refine loop_count (fun i => (nodeF (rowsF i), itF (a + b), (i : Int))) a (fun i hi => ?_) ?_
  · show gemotlaw12_MemberFlush.b3 (a : Int) (b : Int) (nodeF (rowsF i)) (itF (a + b)) (i : Int) = _
    unfold gemotlaw12_MemberFlush.b3
    rw [cond_t (by omega), wrap1 i (by omega), itF_one (by omega), Option.bind_some, castF (by omega), Option.bind_some]
    show cond ((1 : Int) != 1) _ ((idxL [evF i] (0 : Int)).bind _) = _
    rw [show ((1 : Int) != 1) = false from rfl, cond_false, show idxL [evF i] (0 : Int) = some (evF i) from rfl, Option.bind_some]
    show gemotlaw12_MemberFlush.k2 _ _ _ _ _ (cond ((1 : Int) != 1) true (((i + 1 : Nat) : Int) != ((i + 1 : Nat) : Int))) = _
    rw [bne_self_eq_false, cond_false, bne_self_eq_false]
    unfold gemotlaw12_MemberFlush.k2
    rw [cond_false, wrap1 i (by omega)]
  · show gemotlaw12_MemberFlush.b3 (a : Int) (b : Int) (nodeF (rowsF a)) (itF (a + b)) (a : Int) = _
    unfold gemotlaw12_MemberFlush.b3
    rw [cond_f (by omega)]
theorem startF : ((member_Node_Take.f (node0 2) (1 : Int) ((3 : Int), ((1 : Int), (1 : Int)), ((0 : Int), (0 : Int)), (0 : Int), ([(1 : Int), (2 : Int)] : List Int), ([] : List (List UInt8)))).bind fun y26 => (member_Node_Take.f y26.2.2 (1 : Int) ((5 : Int), ((1 : Int), (1 : Int)), ((0 : Int), (0 : Int)), (0 : Int), ([(1 : Int), (2 : Int)] : List Int), ([] : List (List UInt8)))).bind fun y44 => some y44.2.2) = some (nodeF []) := by kernel_rfl
theorem k10F0 : gemotlaw12_MemberFlush.k10 ((0 : Nat) : Int) ((0 : Nat) : Int) (itF (0 + 0)) ([], [], nodeP (rowsF 0)) false = some true := by kernel_rfl
theorem k10F {a b : Nat} (ha : a < 8) (hb : b < 8) : gemotlaw12_MemberFlush.k10 (a : Int) (b : Int) (itF (a + b)) ([], [], nodeP (rowsF a)) false = some true := by
  by_cases hz : a + b = 0
  · obtain rfl : a = 0 := by omega
    obtain rfl : b = 0 := by omega
    exact k10F0
  · obtain ⟨ts, hp, hu⟩ := parts_one (itF_all (a + b)) (by rw [itF_len]; omega) (by rw [itF_len]; omega)
    unfold gemotlaw12_MemberFlush.k10
    rw [cond_false, addF ha hb, cond_t (by omega), hp, Option.bind_some]
    exact k9F ha hb hu
theorem flush_law {x0 x1 : Int} (h0 : inI64 x0) (h1 : inI64 x1) : gemotlaw12_MemberFlush.f x0 x1 = some true := by
  unfold gemotlaw12_MemberFlush.f
  rw [shown12, Option.bind_some, new12 (p := 2) ⟨by decide, by decide⟩, Option.bind_some]
  show cond false _ _ = _
  rw [cond_false, Option.bind_some]
  obtain ⟨y26, h26, h⟩ := bindS startF
  obtain ⟨y44, h44, h⟩ := bindS h
  have hn : y44.2.2 = nodeF [] := Option.some.inj h
  rw [h26, Option.bind_some, h44, Option.bind_some]
  obtain ⟨a', e1, a0, a1⟩ := pick12 h0 (n := 8) (by decide)
  obtain ⟨b', e2, b0, b1⟩ := pick12 h1 (n := 8) (by decide)
  obtain ⟨a, rfl⟩ : ∃ a : Nat, a' = (a : Int) := ⟨a'.toNat, by omega⟩
  obtain ⟨b, rfl⟩ : ∃ b : Nat, b' = (b : Int) := ⟨b'.toNat, by omega⟩
  have ha : a < 8 := by omega
  have hb : b < 8 := by omega
  rw [e1, Option.bind_some, e2, Option.bind_some, items_loop y44 ha hb, Option.bind_some]
  unfold gemotlaw12_MemberFlush.k12
  rw [hn, casts_loop ha hb, Option.bind_some]
  show gemotlaw12_MemberFlush.k11 (a : Int) (b : Int) (nodeF (rowsF a)) (itF (a + b)) = _
  rw [frozeF (b : Int) (itF (a + b)) ha, k10F ha hb]
theorem flush_row {w : World} {x0 x1 : Int} (h0 : inI64 x0) (h1 : inI64 x1) : Calls Try.prog 4 #[.int .i64 x0, .int .i64 x1] w fun e w' => ∃ v, e = .returned v ∧ v = .bool true ∧ Below w.heap.size w w' :=
  (gemotlaw12_MemberFlush_ok (ok := fun _ => False) (flush_law h0 h1)).mono fun e w' ⟨v, e1, e2, e3⟩ => ⟨v, e1, e2, e3.toBelow⟩
end Go.Proofs.Ytipoblinefamgaa.G
