/- The kinds of data, out of the program's types. -/
import Derived.Test.YtgomlcfoifkdiaaGen2
import Derived.Test.YtgomlcfoifkdiaaChecked
import Derived.KernelRfl
namespace Go.Proofs.Ytgomlcfoifkdiaa.G
open Go.RowKit Go.Eng Go.Proofs
set_option linter.unusedVariables false
set_option maxRecDepth 20000
abbrev D_runtime_boundsError := Int × Int × Bool × Int
abbrev t_runtime_boundsError : Ty D_runtime_boundsError := (tPair (tInt .i64) (tPair (tInt .i64) (tPair tBool (tInt .u8))))
theorem runtime_boundsError_cells {w : World} {ok : Nat → Prop} {x : D_runtime_boundsError} {cs : List Value} (h : (t_runtime_boundsError).R w ok x cs) : cs = [.int .i64 x.1, .int .i64 x.2.1, .bool x.2.2.1, .int .u8 x.2.2.2] := by
  obtain ⟨c1, d2, rfl, ha3, hb4⟩ := h
  obtain rfl : c1 = [.int .i64 x.1] := ha3
  obtain ⟨c5, d6, rfl, ha7, hb8⟩ := hb4
  obtain rfl : c5 = [.int .i64 x.2.1] := ha7
  obtain ⟨c9, d10, rfl, ha11, hb12⟩ := hb8
  obtain rfl : c9 = [.bool x.2.2.1] := ha11
  obtain rfl : d10 = [.int .u8 x.2.2.2] := hb12
  exact rfl
theorem runtime_boundsError_in {w : World} {ok : Nat → Prop} {x : D_runtime_boundsError} : (t_runtime_boundsError).R w ok x [.int .i64 x.1, .int .i64 x.2.1, .bool x.2.2.1, .int .u8 x.2.2.2] := ⟨[.int .i64 x.1], [.int .i64 x.2.1, .bool x.2.2.1, .int .u8 x.2.2.2], rfl, rfl, ⟨[.int .i64 x.2.1], [.bool x.2.2.1, .int .u8 x.2.2.2], rfl, rfl, ⟨[.bool x.2.2.1], [.int .u8 x.2.2.2], rfl, rfl, rfl⟩⟩⟩
abbrev D_runtime_errorAddressString := (List UInt8) × Int
abbrev t_runtime_errorAddressString : Ty D_runtime_errorAddressString := (tPair tStr (tInt .u64))
theorem runtime_errorAddressString_cells {w : World} {ok : Nat → Prop} {x : D_runtime_errorAddressString} {cs : List Value} (h : (t_runtime_errorAddressString).R w ok x cs) : cs = [.string (bs x.1), .int .u64 x.2] := by
  obtain ⟨c1, d2, rfl, ha3, hb4⟩ := h
  obtain rfl : c1 = [.string (bs x.1)] := ha3
  obtain rfl : d2 = [.int .u64 x.2] := hb4
  exact rfl
theorem runtime_errorAddressString_in {w : World} {ok : Nat → Prop} {x : D_runtime_errorAddressString} : (t_runtime_errorAddressString).R w ok x [.string (bs x.1), .int .u64 x.2] := ⟨[.string (bs x.1)], [.int .u64 x.2], rfl, rfl, rfl⟩
abbrev D_api_Id := Int × Int
abbrev t_api_Id : Ty D_api_Id := (tPair (tInt .i64) (tInt .i64))
theorem api_Id_cells {w : World} {ok : Nat → Prop} {x : D_api_Id} {cs : List Value} (h : (t_api_Id).R w ok x cs) : cs = [.int .i64 x.1, .int .i64 x.2] := by
  obtain ⟨c1, d2, rfl, ha3, hb4⟩ := h
  obtain rfl : c1 = [.int .i64 x.1] := ha3
  obtain rfl : d2 = [.int .i64 x.2] := hb4
  exact rfl
theorem api_Id_in {w : World} {ok : Nat → Prop} {x : D_api_Id} : (t_api_Id).R w ok x [.int .i64 x.1, .int .i64 x.2] := ⟨[.int .i64 x.1], [.int .i64 x.2], rfl, rfl, rfl⟩
abbrev D_cut_Part := D_api_Id × Int × (List (List UInt8))
abbrev t_cut_Part : Ty D_cut_Part := (tPair t_api_Id (tPair (tInt .i64) (tSl tStr)))
theorem cut_Part_cells {w : World} {ok : Nat → Prop} {x : D_cut_Part} {cs : List Value} (h : (t_cut_Part).R w ok x cs) : ∃ (u0 : Value), cs = [.int .i64 x.1.1, .int .i64 x.1.2, .int .i64 x.2.1, u0] ∧ slR tStr w ok u0 x.2.2 := by
  obtain ⟨c1, d2, rfl, ha3, hb4⟩ := h
  obtain ⟨c5, d6, rfl, ha7, hb8⟩ := ha3
  obtain rfl : c5 = [.int .i64 x.1.1] := ha7
  obtain rfl : d6 = [.int .i64 x.1.2] := hb8
  obtain ⟨c9, d10, rfl, ha11, hb12⟩ := hb4
  obtain rfl : c9 = [.int .i64 x.2.1] := ha11
  obtain ⟨u13, rfl, hu14⟩ := hb12
  exact ⟨u13, rfl, hu14⟩
theorem cut_Part_in {w : World} {ok : Nat → Prop} {x : D_cut_Part} {u0 : Value} (hu0 : slR tStr w ok u0 x.2.2) : (t_cut_Part).R w ok x [.int .i64 x.1.1, .int .i64 x.1.2, .int .i64 x.2.1, u0] := ⟨[.int .i64 x.1.1, .int .i64 x.1.2], [.int .i64 x.2.1, u0], rfl, ⟨[.int .i64 x.1.1], [.int .i64 x.1.2], rfl, rfl, rfl⟩, ⟨[.int .i64 x.2.1], [u0], rfl, rfl, ⟨u0, rfl, hu0⟩⟩⟩
abbrev D_cut_Log := Int × (List (List UInt8))
abbrev t_cut_Log : Ty D_cut_Log := (tPair (tInt .i64) (tSl tStr))
theorem cut_Log_cells {w : World} {ok : Nat → Prop} {x : D_cut_Log} {cs : List Value} (h : (t_cut_Log).R w ok x cs) : ∃ (u0 : Value), cs = [.int .i64 x.1, u0] ∧ slR tStr w ok u0 x.2 := by
  obtain ⟨c1, d2, rfl, ha3, hb4⟩ := h
  obtain rfl : c1 = [.int .i64 x.1] := ha3
  obtain ⟨u5, rfl, hu6⟩ := hb4
  exact ⟨u5, rfl, hu6⟩
theorem cut_Log_in {w : World} {ok : Nat → Prop} {x : D_cut_Log} {u0 : Value} (hu0 : slR tStr w ok u0 x.2) : (t_cut_Log).R w ok x [.int .i64 x.1, u0] := ⟨[.int .i64 x.1], [u0], rfl, rfl, ⟨u0, rfl, hu0⟩⟩
abbrev D_cut_Report := Int × D_api_Id × (List D_cut_Log)
abbrev t_cut_Report : Ty D_cut_Report := (tPair (tInt .i64) (tPair t_api_Id (tSl t_cut_Log)))
theorem cut_Report_cells {w : World} {ok : Nat → Prop} {x : D_cut_Report} {cs : List Value} (h : (t_cut_Report).R w ok x cs) : ∃ (u0 : Value), cs = [.int .i64 x.1, .int .i64 x.2.1.1, .int .i64 x.2.1.2, u0] ∧ slR t_cut_Log w ok u0 x.2.2 := by
  obtain ⟨c1, d2, rfl, ha3, hb4⟩ := h
  obtain rfl : c1 = [.int .i64 x.1] := ha3
  obtain ⟨c5, d6, rfl, ha7, hb8⟩ := hb4
  obtain ⟨c9, d10, rfl, ha11, hb12⟩ := ha7
  obtain rfl : c9 = [.int .i64 x.2.1.1] := ha11
  obtain rfl : d10 = [.int .i64 x.2.1.2] := hb12
  obtain ⟨u13, rfl, hu14⟩ := hb8
  exact ⟨u13, rfl, hu14⟩
theorem cut_Report_in {w : World} {ok : Nat → Prop} {x : D_cut_Report} {u0 : Value} (hu0 : slR t_cut_Log w ok u0 x.2.2) : (t_cut_Report).R w ok x [.int .i64 x.1, .int .i64 x.2.1.1, .int .i64 x.2.1.2, u0] := ⟨[.int .i64 x.1], [.int .i64 x.2.1.1, .int .i64 x.2.1.2, u0], rfl, rfl, ⟨[.int .i64 x.2.1.1, .int .i64 x.2.1.2], [u0], rfl, ⟨[.int .i64 x.2.1.1], [.int .i64 x.2.1.2], rfl, rfl, rfl⟩, ⟨u0, rfl, hu0⟩⟩⟩
abbrev D_gemotref11_Log := Int × (List (List UInt8))
abbrev t_gemotref11_Log : Ty D_gemotref11_Log := (tPair (tInt .i64) (tSl tStr))
theorem gemotref11_Log_cells {w : World} {ok : Nat → Prop} {x : D_gemotref11_Log} {cs : List Value} (h : (t_gemotref11_Log).R w ok x cs) : ∃ (u0 : Value), cs = [.int .i64 x.1, u0] ∧ slR tStr w ok u0 x.2 := by
  obtain ⟨c1, d2, rfl, ha3, hb4⟩ := h
  obtain rfl : c1 = [.int .i64 x.1] := ha3
  obtain ⟨u5, rfl, hu6⟩ := hb4
  exact ⟨u5, rfl, hu6⟩
theorem gemotref11_Log_in {w : World} {ok : Nat → Prop} {x : D_gemotref11_Log} {u0 : Value} (hu0 : slR tStr w ok u0 x.2) : (t_gemotref11_Log).R w ok x [.int .i64 x.1, u0] := ⟨[.int .i64 x.1], [u0], rfl, rfl, ⟨u0, rfl, hu0⟩⟩
abbrev D_gemotref11_Report := Int × D_api_Id × (List D_gemotref11_Log)
abbrev t_gemotref11_Report : Ty D_gemotref11_Report := (tPair (tInt .i64) (tPair t_api_Id (tSl t_gemotref11_Log)))
theorem gemotref11_Report_cells {w : World} {ok : Nat → Prop} {x : D_gemotref11_Report} {cs : List Value} (h : (t_gemotref11_Report).R w ok x cs) : ∃ (u0 : Value), cs = [.int .i64 x.1, .int .i64 x.2.1.1, .int .i64 x.2.1.2, u0] ∧ slR t_gemotref11_Log w ok u0 x.2.2 := by
  obtain ⟨c1, d2, rfl, ha3, hb4⟩ := h
  obtain rfl : c1 = [.int .i64 x.1] := ha3
  obtain ⟨c5, d6, rfl, ha7, hb8⟩ := hb4
  obtain ⟨c9, d10, rfl, ha11, hb12⟩ := ha7
  obtain rfl : c9 = [.int .i64 x.2.1.1] := ha11
  obtain rfl : d10 = [.int .i64 x.2.1.2] := hb12
  obtain ⟨u13, rfl, hu14⟩ := hb8
  exact ⟨u13, rfl, hu14⟩
theorem gemotref11_Report_in {w : World} {ok : Nat → Prop} {x : D_gemotref11_Report} {u0 : Value} (hu0 : slR t_gemotref11_Log w ok u0 x.2.2) : (t_gemotref11_Report).R w ok x [.int .i64 x.1, .int .i64 x.2.1.1, .int .i64 x.2.1.2, u0] := ⟨[.int .i64 x.1], [.int .i64 x.2.1.1, .int .i64 x.2.1.2, u0], rfl, rfl, ⟨[.int .i64 x.2.1.1, .int .i64 x.2.1.2], [u0], rfl, ⟨[.int .i64 x.2.1.1], [.int .i64 x.2.1.2], rfl, rfl, rfl⟩, ⟨u0, rfl, hu0⟩⟩⟩
abbrev D_gemotref11_Part := D_api_Id × Int × (List (List UInt8))
abbrev t_gemotref11_Part : Ty D_gemotref11_Part := (tPair t_api_Id (tPair (tInt .i64) (tSl tStr)))
theorem gemotref11_Part_cells {w : World} {ok : Nat → Prop} {x : D_gemotref11_Part} {cs : List Value} (h : (t_gemotref11_Part).R w ok x cs) : ∃ (u0 : Value), cs = [.int .i64 x.1.1, .int .i64 x.1.2, .int .i64 x.2.1, u0] ∧ slR tStr w ok u0 x.2.2 := by
  obtain ⟨c1, d2, rfl, ha3, hb4⟩ := h
  obtain ⟨c5, d6, rfl, ha7, hb8⟩ := ha3
  obtain rfl : c5 = [.int .i64 x.1.1] := ha7
  obtain rfl : d6 = [.int .i64 x.1.2] := hb8
  obtain ⟨c9, d10, rfl, ha11, hb12⟩ := hb4
  obtain rfl : c9 = [.int .i64 x.2.1] := ha11
  obtain ⟨u13, rfl, hu14⟩ := hb12
  exact ⟨u13, rfl, hu14⟩
theorem gemotref11_Part_in {w : World} {ok : Nat → Prop} {x : D_gemotref11_Part} {u0 : Value} (hu0 : slR tStr w ok u0 x.2.2) : (t_gemotref11_Part).R w ok x [.int .i64 x.1.1, .int .i64 x.1.2, .int .i64 x.2.1, u0] := ⟨[.int .i64 x.1.1, .int .i64 x.1.2], [.int .i64 x.2.1, u0], rfl, ⟨[.int .i64 x.1.1], [.int .i64 x.1.2], rfl, rfl, rfl⟩, ⟨[.int .i64 x.2.1], [u0], rfl, rfl, ⟨u0, rfl, hu0⟩⟩⟩
abbrev D_cut_place := D_api_Id × Int
abbrev t_cut_place : Ty D_cut_place := (tPair t_api_Id (tInt .i64))
theorem cut_place_cells {w : World} {ok : Nat → Prop} {x : D_cut_place} {cs : List Value} (h : (t_cut_place).R w ok x cs) : cs = [.int .i64 x.1.1, .int .i64 x.1.2, .int .i64 x.2] := by
  obtain ⟨c1, d2, rfl, ha3, hb4⟩ := h
  obtain ⟨c5, d6, rfl, ha7, hb8⟩ := ha3
  obtain rfl : c5 = [.int .i64 x.1.1] := ha7
  obtain rfl : d6 = [.int .i64 x.1.2] := hb8
  obtain rfl : d2 = [.int .i64 x.2] := hb4
  exact rfl
theorem cut_place_in {w : World} {ok : Nat → Prop} {x : D_cut_place} : (t_cut_place).R w ok x [.int .i64 x.1.1, .int .i64 x.1.2, .int .i64 x.2] := ⟨[.int .i64 x.1.1, .int .i64 x.1.2], [.int .i64 x.2], rfl, ⟨[.int .i64 x.1.1], [.int .i64 x.1.2], rfl, rfl, rfl⟩, rfl⟩
abbrev D_term_open := Int × Int × Bool × Int × (List UInt8)
abbrev t_term_open : Ty D_term_open := (tPair (tInt .i64) (tPair (tInt .i64) (tPair tBool (tPair (tInt .i64) tStr))))
theorem term_open_cells {w : World} {ok : Nat → Prop} {x : D_term_open} {cs : List Value} (h : (t_term_open).R w ok x cs) : cs = [.int .i64 x.1, .int .i64 x.2.1, .bool x.2.2.1, .int .i64 x.2.2.2.1, .string (bs x.2.2.2.2)] := by
  obtain ⟨c1, d2, rfl, ha3, hb4⟩ := h
  obtain rfl : c1 = [.int .i64 x.1] := ha3
  obtain ⟨c5, d6, rfl, ha7, hb8⟩ := hb4
  obtain rfl : c5 = [.int .i64 x.2.1] := ha7
  obtain ⟨c9, d10, rfl, ha11, hb12⟩ := hb8
  obtain rfl : c9 = [.bool x.2.2.1] := ha11
  obtain ⟨c13, d14, rfl, ha15, hb16⟩ := hb12
  obtain rfl : c13 = [.int .i64 x.2.2.2.1] := ha15
  obtain rfl : d14 = [.string (bs x.2.2.2.2)] := hb16
  exact rfl
theorem term_open_in {w : World} {ok : Nat → Prop} {x : D_term_open} : (t_term_open).R w ok x [.int .i64 x.1, .int .i64 x.2.1, .bool x.2.2.1, .int .i64 x.2.2.2.1, .string (bs x.2.2.2.2)] := ⟨[.int .i64 x.1], [.int .i64 x.2.1, .bool x.2.2.1, .int .i64 x.2.2.2.1, .string (bs x.2.2.2.2)], rfl, rfl, ⟨[.int .i64 x.2.1], [.bool x.2.2.1, .int .i64 x.2.2.2.1, .string (bs x.2.2.2.2)], rfl, rfl, ⟨[.bool x.2.2.1], [.int .i64 x.2.2.2.1, .string (bs x.2.2.2.2)], rfl, rfl, ⟨[.int .i64 x.2.2.2.1], [.string (bs x.2.2.2.2)], rfl, rfl, rfl⟩⟩⟩⟩
end Go.Proofs.Ytgomlcfoifkdiaa.G
