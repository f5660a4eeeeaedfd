/- CutForged's answer, as the row wants it. -/
import Derived.Test.YtgomlcfoifkdiaaForged
namespace Go.Proofs.Ytgomlcfoifkdiaa.Cut
open Go.RowKit Go.Eng Go.Proofs
theorem forgedLaw_calls {w : World} (a b : Int) (a0 : -9223372036854775808 ≤ a) (a1 : a ≤ 9223372036854775807) (b0 : -9223372036854775808 ≤ b) (b1 : b ≤ 9223372036854775807) : Calls Try.prog 6 #[.int .i64 a, .int .i64 b] w fun e w' => ∃ v, e = .returned v ∧ (v = .bool true ∧ Below w.heap.size w w') :=
  (Forged_calls a b a0 a1 b0 b1 w).mono fun _ _ ⟨v, h1, h2, h3⟩ => ⟨v, h1, h2, h3.toBelow⟩
end Go.Proofs.Ytgomlcfoifkdiaa.Cut
