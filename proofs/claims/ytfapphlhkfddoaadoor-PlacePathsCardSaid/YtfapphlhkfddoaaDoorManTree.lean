/- Contracts of trees that were walked by hand, in the printed texts' words. -/
import Derived.Test.YtfapphlhkfddoaaDoorTreeMerge
namespace Go.Proofs.YtfapphlhkfddoaaDoor.G
open Go.RowKit Go.Eng Go.Proofs Go.Proofs.YtfapphlhkfddoaaDoor.Cut
set_option linter.unusedVariables false
variable {ok : Nat → Prop} {w : World}

def leafM (p : Int) : List UInt8 × Int := if 1 ≤ p ∧ p ≤ 8 then ((Tr.leaf p).text, 0) else ([], 1)
def tree_Leaf.f (x0 : Int) : Option (List UInt8 × Int) := some (leafM x0)
theorem tree_Leaf_ok {x0 : Int} {r : List UInt8 × Int} (h : tree_Leaf.f x0 = some r) : Calls Tryd.prog 17 #[.int .i64 x0] w fun e w' => ∃ v, e = .returned v ∧ (v = .tuple #[.string (bs r.1), .int .i64 r.2] ∧ Bel w.heap.size w w') := by
  cases h
  refine (leaf_calls (p := x0)).mono fun e w' ⟨v, he, hv, hb⟩ => ⟨v, he, ?_, hb⟩
  rw [hv]
  unfold leafM
  by_cases hp : 1 ≤ x0 ∧ x0 ≤ 8
  · rw [if_pos hp, if_pos hp, if_pos hp]
  · rw [if_neg hp, if_neg hp, if_neg hp]
noncomputable def tree_Join.f (x0 : List UInt8) (x1 : Int) : Option (List UInt8 × Int) := givenM (x0.length ≤ 900000) (some (joinM x0 x1))
theorem tree_Join_ok {x0 : List UInt8} {x1 : Int} {r : List UInt8 × Int} (h : tree_Join.f x0 x1 = some r) : Calls Tryd.prog 22 #[.string (bs x0), .int .i64 x1] w fun e w' => ∃ v, e = .returned v ∧ (v = .tuple #[.string (bs r.1), .int .i64 r.2] ∧ Bel w.heap.size w w') := by
  obtain ⟨hl, h⟩ := givenS h
  cases h
  exact join_calls hl
noncomputable def tree_Leave.f (x0 : List UInt8) (x1 : Int) : Option (List UInt8 × Int) := givenM (x0.length ≤ 900000) (some (leaveM x0 x1))
theorem tree_Leave_ok {x0 : List UInt8} {x1 : Int} {r : List UInt8 × Int} (h : tree_Leave.f x0 x1 = some r) : Calls Tryd.prog 23 #[.string (bs x0), .int .i64 x1] w fun e w' => ∃ v, e = .returned v ∧ (v = .tuple #[.string (bs r.1), .int .i64 r.2] ∧ Bel w.heap.size w w') := by
  obtain ⟨hl, h⟩ := givenS h
  cases h
  exact leave_calls hl
noncomputable def tree_Merge.f (x0 x1 : List UInt8) : Option (List UInt8 × Int) := givenM (x0.length ≤ 900000 ∧ x1.length ≤ 900000) (some (mergeM x0 x1))
theorem tree_Merge_ok {x0 x1 : List UInt8} {r : List UInt8 × Int} (h : tree_Merge.f x0 x1 = some r) : Calls Tryd.prog 24 #[.string (bs x0), .string (bs x1)] w fun e w' => ∃ v, e = .returned v ∧ (v = .tuple #[.string (bs r.1), .int .i64 r.2] ∧ Bel w.heap.size w w') := by
  obtain ⟨hl, h⟩ := givenS h
  cases h
  exact merge_calls hl.1 hl.2
end Go.Proofs.YtfapphlhkfddoaaDoor.G
