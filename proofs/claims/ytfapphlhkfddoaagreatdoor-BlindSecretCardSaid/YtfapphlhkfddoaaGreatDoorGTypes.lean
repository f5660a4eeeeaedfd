/- The kinds of data, out of the program's types. -/
import Derived.Test.YtfapphlhkfddoaaGreatDoorSorts1
import Derived.Test.YtfapphlhkfddoaaGreatDoorChecked
import Derived.KernelRfl
namespace Go.Proofs.YtfapphlhkfddoaaGreatDoor.G
open Go.RowKit Go.Eng Go.Proofs
set_option linter.unusedVariables false
set_option maxRecDepth 20000
abbrev D_runtime_boundsError := Int × Int × Bool × Int
abbrev t_runtime_boundsError : Ty D_runtime_boundsError := (tPair (tInt .i64) (tPair (tInt .i64) (tPair tBool (tInt .u8))))
theorem runtime_boundsError_cells {w : World} {ok : Nat → Prop} {x : D_runtime_boundsError} {cs : List Value} (h : (t_runtime_boundsError).R w ok x cs) : cs = [.int .i64 x.1, .int .i64 x.2.1, .bool x.2.2.1, .int .u8 x.2.2.2] := by
  obtain ⟨c1, d2, rfl, ha3, hb4⟩ := h
  obtain rfl : c1 = [.int .i64 x.1] := ha3
  obtain ⟨c5, d6, rfl, ha7, hb8⟩ := hb4
  obtain rfl : c5 = [.int .i64 x.2.1] := ha7
  obtain ⟨c9, d10, rfl, ha11, hb12⟩ := hb8
  obtain rfl : c9 = [.bool x.2.2.1] := ha11
  obtain rfl : d10 = [.int .u8 x.2.2.2] := hb12
  exact rfl
theorem runtime_boundsError_in {w : World} {ok : Nat → Prop} {x : D_runtime_boundsError} : (t_runtime_boundsError).R w ok x [.int .i64 x.1, .int .i64 x.2.1, .bool x.2.2.1, .int .u8 x.2.2.2] := ⟨[.int .i64 x.1], [.int .i64 x.2.1, .bool x.2.2.1, .int .u8 x.2.2.2], rfl, rfl, ⟨[.int .i64 x.2.1], [.bool x.2.2.1, .int .u8 x.2.2.2], rfl, rfl, ⟨[.bool x.2.2.1], [.int .u8 x.2.2.2], rfl, rfl, rfl⟩⟩⟩
abbrev D_runtime_errorAddressString := (List UInt8) × Int
abbrev t_runtime_errorAddressString : Ty D_runtime_errorAddressString := (tPair tStr (tInt .u64))
theorem runtime_errorAddressString_cells {w : World} {ok : Nat → Prop} {x : D_runtime_errorAddressString} {cs : List Value} (h : (t_runtime_errorAddressString).R w ok x cs) : cs = [.string (bs x.1), .int .u64 x.2] := by
  obtain ⟨c1, d2, rfl, ha3, hb4⟩ := h
  obtain rfl : c1 = [.string (bs x.1)] := ha3
  obtain rfl : d2 = [.int .u64 x.2] := hb4
  exact rfl
theorem runtime_errorAddressString_in {w : World} {ok : Nat → Prop} {x : D_runtime_errorAddressString} : (t_runtime_errorAddressString).R w ok x [.string (bs x.1), .int .u64 x.2] := ⟨[.string (bs x.1)], [.int .u64 x.2], rfl, rfl, rfl⟩
abbrev D_api_Id := Int × Int
abbrev t_api_Id : Ty D_api_Id := (tPair (tInt .i64) (tInt .i64))
theorem api_Id_cells {w : World} {ok : Nat → Prop} {x : D_api_Id} {cs : List Value} (h : (t_api_Id).R w ok x cs) : cs = [.int .i64 x.1, .int .i64 x.2] := by
  obtain ⟨c1, d2, rfl, ha3, hb4⟩ := h
  obtain rfl : c1 = [.int .i64 x.1] := ha3
  obtain rfl : d2 = [.int .i64 x.2] := hb4
  exact rfl
theorem api_Id_in {w : World} {ok : Nat → Prop} {x : D_api_Id} : (t_api_Id).R w ok x [.int .i64 x.1, .int .i64 x.2] := ⟨[.int .i64 x.1], [.int .i64 x.2], rfl, rfl, rfl⟩
abbrev D_api_View := D_api_Id × (List Int)
abbrev t_api_View : Ty D_api_View := (tPair t_api_Id (tSl (tInt .i64)))
theorem api_View_cells {w : World} {ok : Nat → Prop} {x : D_api_View} {cs : List Value} (h : (t_api_View).R w ok x cs) : ∃ (u0 : Value), cs = [.int .i64 x.1.1, .int .i64 x.1.2, u0] ∧ slR (tInt .i64) w ok u0 x.2 := by
  obtain ⟨c1, d2, rfl, ha3, hb4⟩ := h
  obtain ⟨c5, d6, rfl, ha7, hb8⟩ := ha3
  obtain rfl : c5 = [.int .i64 x.1.1] := ha7
  obtain rfl : d6 = [.int .i64 x.1.2] := hb8
  obtain ⟨u9, rfl, hu10⟩ := hb4
  exact ⟨u9, rfl, hu10⟩
theorem api_View_in {w : World} {ok : Nat → Prop} {x : D_api_View} {u0 : Value} (hu0 : slR (tInt .i64) w ok u0 x.2) : (t_api_View).R w ok x [.int .i64 x.1.1, .int .i64 x.1.2, u0] := ⟨[.int .i64 x.1.1, .int .i64 x.1.2], [u0], rfl, ⟨[.int .i64 x.1.1], [.int .i64 x.1.2], rfl, rfl, rfl⟩, ⟨u0, rfl, hu0⟩⟩
abbrev D_list_Message := Int × D_api_Id × D_api_Id × Int × (List Int) × (List (List UInt8))
abbrev t_list_Message : Ty D_list_Message := (tPair (tInt .i64) (tPair t_api_Id (tPair t_api_Id (tPair (tInt .i64) (tPair (tSl (tInt .i64)) (tSl tStr))))))
theorem list_Message_cells {w : World} {ok : Nat → Prop} {x : D_list_Message} {cs : List Value} (h : (t_list_Message).R w ok x cs) : ∃ (u0 : Value) (u1 : Value), cs = [.int .i64 x.1, .int .i64 x.2.1.1, .int .i64 x.2.1.2, .int .i64 x.2.2.1.1, .int .i64 x.2.2.1.2, .int .i64 x.2.2.2.1, u0, u1] ∧ slR (tInt .i64) w ok u0 x.2.2.2.2.1 ∧ slR tStr w ok u1 x.2.2.2.2.2 := by
  obtain ⟨c1, d2, rfl, ha3, hb4⟩ := h
  obtain rfl : c1 = [.int .i64 x.1] := ha3
  obtain ⟨c5, d6, rfl, ha7, hb8⟩ := hb4
  obtain ⟨c9, d10, rfl, ha11, hb12⟩ := ha7
  obtain rfl : c9 = [.int .i64 x.2.1.1] := ha11
  obtain rfl : d10 = [.int .i64 x.2.1.2] := hb12
  obtain ⟨c13, d14, rfl, ha15, hb16⟩ := hb8
  obtain ⟨c17, d18, rfl, ha19, hb20⟩ := ha15
  obtain rfl : c17 = [.int .i64 x.2.2.1.1] := ha19
  obtain rfl : d18 = [.int .i64 x.2.2.1.2] := hb20
  obtain ⟨c21, d22, rfl, ha23, hb24⟩ := hb16
  obtain rfl : c21 = [.int .i64 x.2.2.2.1] := ha23
  obtain ⟨c25, d26, rfl, ha27, hb28⟩ := hb24
  obtain ⟨u29, rfl, hu30⟩ := ha27
  obtain ⟨u31, rfl, hu32⟩ := hb28
  exact ⟨u29, u31, rfl, hu30, hu32⟩
theorem list_Message_in {w : World} {ok : Nat → Prop} {x : D_list_Message} {u0 u1 : Value} (hu0 : slR (tInt .i64) w ok u0 x.2.2.2.2.1) (hu1 : slR tStr w ok u1 x.2.2.2.2.2) : (t_list_Message).R w ok x [.int .i64 x.1, .int .i64 x.2.1.1, .int .i64 x.2.1.2, .int .i64 x.2.2.1.1, .int .i64 x.2.2.1.2, .int .i64 x.2.2.2.1, u0, u1] := ⟨[.int .i64 x.1], [.int .i64 x.2.1.1, .int .i64 x.2.1.2, .int .i64 x.2.2.1.1, .int .i64 x.2.2.1.2, .int .i64 x.2.2.2.1, u0, u1], rfl, rfl, ⟨[.int .i64 x.2.1.1, .int .i64 x.2.1.2], [.int .i64 x.2.2.1.1, .int .i64 x.2.2.1.2, .int .i64 x.2.2.2.1, u0, u1], rfl, ⟨[.int .i64 x.2.1.1], [.int .i64 x.2.1.2], rfl, rfl, rfl⟩, ⟨[.int .i64 x.2.2.1.1, .int .i64 x.2.2.1.2], [.int .i64 x.2.2.2.1, u0, u1], rfl, ⟨[.int .i64 x.2.2.1.1], [.int .i64 x.2.2.1.2], rfl, rfl, rfl⟩, ⟨[.int .i64 x.2.2.2.1], [u0, u1], rfl, rfl, ⟨[u0], [u1], rfl, ⟨u0, rfl, hu0⟩, ⟨u1, rfl, hu1⟩⟩⟩⟩⟩⟩
abbrev D_gemotlaw16_letter := Int × Int × D_list_Message
abbrev t_gemotlaw16_letter : Ty D_gemotlaw16_letter := (tPair (tInt .i64) (tPair (tInt .i64) t_list_Message))
theorem gemotlaw16_letter_cells {w : World} {ok : Nat → Prop} {x : D_gemotlaw16_letter} {cs : List Value} (h : (t_gemotlaw16_letter).R w ok x cs) : ∃ (u0 : Value) (u1 : Value), cs = [.int .i64 x.1, .int .i64 x.2.1, .int .i64 x.2.2.1, .int .i64 x.2.2.2.1.1, .int .i64 x.2.2.2.1.2, .int .i64 x.2.2.2.2.1.1, .int .i64 x.2.2.2.2.1.2, .int .i64 x.2.2.2.2.2.1, u0, u1] ∧ slR (tInt .i64) w ok u0 x.2.2.2.2.2.2.1 ∧ slR tStr w ok u1 x.2.2.2.2.2.2.2 := by
  obtain ⟨c1, d2, rfl, ha3, hb4⟩ := h
  obtain rfl : c1 = [.int .i64 x.1] := ha3
  obtain ⟨c5, d6, rfl, ha7, hb8⟩ := hb4
  obtain rfl : c5 = [.int .i64 x.2.1] := ha7
  obtain ⟨c9, d10, rfl, ha11, hb12⟩ := hb8
  obtain rfl : c9 = [.int .i64 x.2.2.1] := ha11
  obtain ⟨c13, d14, rfl, ha15, hb16⟩ := hb12
  obtain ⟨c17, d18, rfl, ha19, hb20⟩ := ha15
  obtain rfl : c17 = [.int .i64 x.2.2.2.1.1] := ha19
  obtain rfl : d18 = [.int .i64 x.2.2.2.1.2] := hb20
  obtain ⟨c21, d22, rfl, ha23, hb24⟩ := hb16
  obtain ⟨c25, d26, rfl, ha27, hb28⟩ := ha23
  obtain rfl : c25 = [.int .i64 x.2.2.2.2.1.1] := ha27
  obtain rfl : d26 = [.int .i64 x.2.2.2.2.1.2] := hb28
  obtain ⟨c29, d30, rfl, ha31, hb32⟩ := hb24
  obtain rfl : c29 = [.int .i64 x.2.2.2.2.2.1] := ha31
  obtain ⟨c33, d34, rfl, ha35, hb36⟩ := hb32
  obtain ⟨u37, rfl, hu38⟩ := ha35
  obtain ⟨u39, rfl, hu40⟩ := hb36
  exact ⟨u37, u39, rfl, hu38, hu40⟩
theorem gemotlaw16_letter_in {w : World} {ok : Nat → Prop} {x : D_gemotlaw16_letter} {u0 u1 : Value} (hu0 : slR (tInt .i64) w ok u0 x.2.2.2.2.2.2.1) (hu1 : slR tStr w ok u1 x.2.2.2.2.2.2.2) : (t_gemotlaw16_letter).R w ok x [.int .i64 x.1, .int .i64 x.2.1, .int .i64 x.2.2.1, .int .i64 x.2.2.2.1.1, .int .i64 x.2.2.2.1.2, .int .i64 x.2.2.2.2.1.1, .int .i64 x.2.2.2.2.1.2, .int .i64 x.2.2.2.2.2.1, u0, u1] := ⟨[.int .i64 x.1], [.int .i64 x.2.1, .int .i64 x.2.2.1, .int .i64 x.2.2.2.1.1, .int .i64 x.2.2.2.1.2, .int .i64 x.2.2.2.2.1.1, .int .i64 x.2.2.2.2.1.2, .int .i64 x.2.2.2.2.2.1, u0, u1], rfl, rfl, ⟨[.int .i64 x.2.1], [.int .i64 x.2.2.1, .int .i64 x.2.2.2.1.1, .int .i64 x.2.2.2.1.2, .int .i64 x.2.2.2.2.1.1, .int .i64 x.2.2.2.2.1.2, .int .i64 x.2.2.2.2.2.1, u0, u1], rfl, rfl, ⟨[.int .i64 x.2.2.1], [.int .i64 x.2.2.2.1.1, .int .i64 x.2.2.2.1.2, .int .i64 x.2.2.2.2.1.1, .int .i64 x.2.2.2.2.1.2, .int .i64 x.2.2.2.2.2.1, u0, u1], rfl, rfl, ⟨[.int .i64 x.2.2.2.1.1, .int .i64 x.2.2.2.1.2], [.int .i64 x.2.2.2.2.1.1, .int .i64 x.2.2.2.2.1.2, .int .i64 x.2.2.2.2.2.1, u0, u1], rfl, ⟨[.int .i64 x.2.2.2.1.1], [.int .i64 x.2.2.2.1.2], rfl, rfl, rfl⟩, ⟨[.int .i64 x.2.2.2.2.1.1, .int .i64 x.2.2.2.2.1.2], [.int .i64 x.2.2.2.2.2.1, u0, u1], rfl, ⟨[.int .i64 x.2.2.2.2.1.1], [.int .i64 x.2.2.2.2.1.2], rfl, rfl, rfl⟩, ⟨[.int .i64 x.2.2.2.2.2.1], [u0, u1], rfl, rfl, ⟨[u0], [u1], rfl, ⟨u0, rfl, hu0⟩, ⟨u1, rfl, hu1⟩⟩⟩⟩⟩⟩⟩⟩
abbrev D_blind_Blind := (List UInt8) × (List UInt8)
abbrev t_blind_Blind : Ty D_blind_Blind := (tPair tStr tStr)
theorem blind_Blind_cells {w : World} {ok : Nat → Prop} {x : D_blind_Blind} {cs : List Value} (h : (t_blind_Blind).R w ok x cs) : cs = [.string (bs x.1), .string (bs x.2)] := by
  obtain ⟨c1, d2, rfl, ha3, hb4⟩ := h
  obtain rfl : c1 = [.string (bs x.1)] := ha3
  obtain rfl : d2 = [.string (bs x.2)] := hb4
  exact rfl
theorem blind_Blind_in {w : World} {ok : Nat → Prop} {x : D_blind_Blind} : (t_blind_Blind).R w ok x [.string (bs x.1), .string (bs x.2)] := ⟨[.string (bs x.1)], [.string (bs x.2)], rfl, rfl, rfl⟩
abbrev D_term_open := Int × Int × Bool × Int × (List UInt8)
abbrev t_term_open : Ty D_term_open := (tPair (tInt .i64) (tPair (tInt .i64) (tPair tBool (tPair (tInt .i64) tStr))))
theorem term_open_cells {w : World} {ok : Nat → Prop} {x : D_term_open} {cs : List Value} (h : (t_term_open).R w ok x cs) : cs = [.int .i64 x.1, .int .i64 x.2.1, .bool x.2.2.1, .int .i64 x.2.2.2.1, .string (bs x.2.2.2.2)] := by
  obtain ⟨c1, d2, rfl, ha3, hb4⟩ := h
  obtain rfl : c1 = [.int .i64 x.1] := ha3
  obtain ⟨c5, d6, rfl, ha7, hb8⟩ := hb4
  obtain rfl : c5 = [.int .i64 x.2.1] := ha7
  obtain ⟨c9, d10, rfl, ha11, hb12⟩ := hb8
  obtain rfl : c9 = [.bool x.2.2.1] := ha11
  obtain ⟨c13, d14, rfl, ha15, hb16⟩ := hb12
  obtain rfl : c13 = [.int .i64 x.2.2.2.1] := ha15
  obtain rfl : d14 = [.string (bs x.2.2.2.2)] := hb16
  exact rfl
theorem term_open_in {w : World} {ok : Nat → Prop} {x : D_term_open} : (t_term_open).R w ok x [.int .i64 x.1, .int .i64 x.2.1, .bool x.2.2.1, .int .i64 x.2.2.2.1, .string (bs x.2.2.2.2)] := ⟨[.int .i64 x.1], [.int .i64 x.2.1, .bool x.2.2.1, .int .i64 x.2.2.2.1, .string (bs x.2.2.2.2)], rfl, rfl, ⟨[.int .i64 x.2.1], [.bool x.2.2.1, .int .i64 x.2.2.2.1, .string (bs x.2.2.2.2)], rfl, rfl, ⟨[.bool x.2.2.1], [.int .i64 x.2.2.2.1, .string (bs x.2.2.2.2)], rfl, rfl, ⟨[.int .i64 x.2.2.2.1], [.string (bs x.2.2.2.2)], rfl, rfl, rfl⟩⟩⟩⟩
end Go.Proofs.YtfapphlhkfddoaaGreatDoor.G
