/- Contracts that were walked by hand, or are the kit's, in the printed texts' words: chapter 14. -/
import Derived.Test.YtfapphlhkfddoaaGreatDoorPathP
import Derived.Test.YtfapphlhkfddoaaGreatDoorCompareLay
import Derived.Shelf.Small.Strs
namespace Go.Proofs.YtfapphlhkfddoaaGreatDoor.G
open Go.RowKit Go.Eng Go.Proofs Go.Proofs.YtfapphlhkfddoaaGreatDoor.Cut
set_option linter.unusedVariables false
variable {ok : Nat → Prop} {w : World}

def strings_Compare.f (x0 x1 : List UInt8) : Option Int := some (Lib.compareBytes x0 x1)
theorem strings_Compare_ok [Inhabited Keep] {x0 x1 : List UInt8} {r : Int} (h : strings_Compare.f x0 x1 = some r) : Calls Tryz.prog 149 #[.string (bs x0), .string (bs x1)] w fun e w' => ∃ v, e = .returned v ∧ (v = .int .i64 r ∧ Bel w.heap.size w w') := by
  cases h
  refine (Any.strings_Compare Tryz.compareS (bs x0) (bs x1) w).mono fun e w' ⟨he, hw⟩ => ?_
  subst hw
  exact ⟨_, he, by simp [bs], Bel.refl _ _⟩
noncomputable def place_At.f (x0 x1 : List UInt8) : Option (List UInt8 × Int) := givenM (x0.length ≤ 900000) (some (atM x0 x1))
theorem place_At_ok {x0 x1 : List UInt8} {r : List UInt8 × Int} (h : place_At.f x0 x1 = some r) : Calls Tryz.prog 51 #[.string (bs x0), .string (bs x1)] w fun e w' => ∃ v, e = .returned v ∧ (v = .tuple #[.string (bs r.1), .int .i64 r.2] ∧ Bel w.heap.size w w') := by
  obtain ⟨hl, h⟩ := givenS h
  cases h
  exact placeAt_calls hl
noncomputable def tree_Members.f (x0 : List UInt8) : Option (List Int) := givenM (x0.length ≤ 1000000) (some (membersM x0))
theorem tree_Members_ok {x0 : List UInt8} {r : List Int} (h : tree_Members.f x0 = some r) : Calls Tryz.prog 14 #[.string (bs x0)] w fun e w' => ∃ u, e = .returned u ∧ (slR (tInt .i64) w' (fun b => ok b ∨ w.heap.size ≤ b) u r ∧ Bel w.heap.size w w') := by
  obtain ⟨hl, h⟩ := givenS h
  cases h
  exact treeMembers_calls hl
end Go.Proofs.YtfapphlhkfddoaaGreatDoor.G
