/- The kinds of data, out of the program's types. -/
import Derived.Test.YtfapphlhkfddoaaDoorGen2
import Derived.Test.YtfapphlhkfddoaaDoorChecked
import Derived.KernelRfl
namespace Go.Proofs.YtfapphlhkfddoaaDoor.G
open Go.RowKit Go.Eng Go.Proofs
set_option linter.unusedVariables false
set_option maxRecDepth 20000
abbrev D_runtime_boundsError := Int × Int × Bool × Int
abbrev t_runtime_boundsError : Ty D_runtime_boundsError := (tPair (tInt .i64) (tPair (tInt .i64) (tPair tBool (tInt .u8))))
theorem runtime_boundsError_cells {w : World} {ok : Nat → Prop} {x : D_runtime_boundsError} {cs : List Value} (h : (t_runtime_boundsError).R w ok x cs) : cs = [.int .i64 x.1, .int .i64 x.2.1, .bool x.2.2.1, .int .u8 x.2.2.2] := by
  obtain ⟨c1, d2, rfl, ha3, hb4⟩ := h
  obtain rfl : c1 = [.int .i64 x.1] := ha3
  obtain ⟨c5, d6, rfl, ha7, hb8⟩ := hb4
  obtain rfl : c5 = [.int .i64 x.2.1] := ha7
  obtain ⟨c9, d10, rfl, ha11, hb12⟩ := hb8
  obtain rfl : c9 = [.bool x.2.2.1] := ha11
  obtain rfl : d10 = [.int .u8 x.2.2.2] := hb12
  exact rfl
theorem runtime_boundsError_in {w : World} {ok : Nat → Prop} {x : D_runtime_boundsError} : (t_runtime_boundsError).R w ok x [.int .i64 x.1, .int .i64 x.2.1, .bool x.2.2.1, .int .u8 x.2.2.2] := ⟨[.int .i64 x.1], [.int .i64 x.2.1, .bool x.2.2.1, .int .u8 x.2.2.2], rfl, rfl, ⟨[.int .i64 x.2.1], [.bool x.2.2.1, .int .u8 x.2.2.2], rfl, rfl, ⟨[.bool x.2.2.1], [.int .u8 x.2.2.2], rfl, rfl, rfl⟩⟩⟩
abbrev D_runtime_errorAddressString := (List UInt8) × Int
abbrev t_runtime_errorAddressString : Ty D_runtime_errorAddressString := (tPair tStr (tInt .u64))
theorem runtime_errorAddressString_cells {w : World} {ok : Nat → Prop} {x : D_runtime_errorAddressString} {cs : List Value} (h : (t_runtime_errorAddressString).R w ok x cs) : cs = [.string (bs x.1), .int .u64 x.2] := by
  obtain ⟨c1, d2, rfl, ha3, hb4⟩ := h
  obtain rfl : c1 = [.string (bs x.1)] := ha3
  obtain rfl : d2 = [.int .u64 x.2] := hb4
  exact rfl
theorem runtime_errorAddressString_in {w : World} {ok : Nat → Prop} {x : D_runtime_errorAddressString} : (t_runtime_errorAddressString).R w ok x [.string (bs x.1), .int .u64 x.2] := ⟨[.string (bs x.1)], [.int .u64 x.2], rfl, rfl, rfl⟩
end Go.Proofs.YtfapphlhkfddoaaDoor.G
