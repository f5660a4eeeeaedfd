/- CutOwn's answer, as the row wants it. -/
import Derived.Test.YtgomlcfoifkdiaaOwn11
namespace Go.Proofs.Ytgomlcfoifkdiaa.G
open Go.RowKit Go.Eng Go.Proofs
theorem ownLaw_row {ok : Nat → Prop} {w : World} {v : Value} {xs : List Int} (hv : slR (tIn .i64) w ok v xs) (a : Int) (h0 : -9223372036854775808 ≤ a) (h1 : a ≤ 9223372036854775807) : Calls Try.prog 5 #[v, .int .i64 a] w fun e w' => ∃ v, e = .returned v ∧ (v = .bool true ∧ Below w.heap.size w w') := by
  obtain ⟨h, hp⟩ := slR_sub hv
  exact (gemotlaw11_CutOwn_ok h (own_eq xs a hp h0 h1)).mono fun e w' ⟨v, h1, h2, h3⟩ => ⟨v, h1, h2, h3.toBelow⟩
end Go.Proofs.Ytgomlcfoifkdiaa.G
