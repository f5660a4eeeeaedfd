/- The kinds of data, out of the program's types. -/
import Derived.Test.YtipoblinefamgaaGen2
import Derived.Test.YtipoblinefamgaaChecked
import Derived.KernelRfl
namespace Go.Proofs.Ytipoblinefamgaa.G
open Go.RowKit Go.Eng Go.Proofs
set_option linter.unusedVariables false
set_option maxRecDepth 20000
abbrev D_api_Id := Int × Int
abbrev t_api_Id : Ty D_api_Id := (tPair (tInt .i64) (tInt .i64))
abbrev D_list_Message := Int × D_api_Id × D_api_Id × Int × (List Int) × (List (List UInt8))
abbrev t_list_Message : Ty D_list_Message := (tPair (tInt .i64) (tPair t_api_Id (tPair t_api_Id (tPair (tInt .i64) (tPair (tSl (tInt .i64)) (tSl tStr))))))
abbrev D_member_Out := Int × D_list_Message
abbrev t_member_Out : Ty D_member_Out := (tPair (tInt .i64) t_list_Message)
theorem member_Out_cells {w : World} {ok : Nat → Prop} {x : D_member_Out} {cs : List Value} (h : (t_member_Out).R w ok x cs) : ∃ (u0 : Value) (u1 : Value), cs = [.int .i64 x.1, .int .i64 x.2.1, .int .i64 x.2.2.1.1, .int .i64 x.2.2.1.2, .int .i64 x.2.2.2.1.1, .int .i64 x.2.2.2.1.2, .int .i64 x.2.2.2.2.1, u0, u1] ∧ slR (tInt .i64) w ok u0 x.2.2.2.2.2.1 ∧ slR tStr w ok u1 x.2.2.2.2.2.2 := by
  obtain ⟨c1, d2, rfl, ha3, hb4⟩ := h
  obtain rfl : c1 = [.int .i64 x.1] := ha3
  obtain ⟨c5, d6, rfl, ha7, hb8⟩ := hb4
  obtain rfl : c5 = [.int .i64 x.2.1] := ha7
  obtain ⟨c9, d10, rfl, ha11, hb12⟩ := hb8
  obtain ⟨c13, d14, rfl, ha15, hb16⟩ := ha11
  obtain rfl : c13 = [.int .i64 x.2.2.1.1] := ha15
  obtain rfl : d14 = [.int .i64 x.2.2.1.2] := hb16
  obtain ⟨c17, d18, rfl, ha19, hb20⟩ := hb12
  obtain ⟨c21, d22, rfl, ha23, hb24⟩ := ha19
  obtain rfl : c21 = [.int .i64 x.2.2.2.1.1] := ha23
  obtain rfl : d22 = [.int .i64 x.2.2.2.1.2] := hb24
  obtain ⟨c25, d26, rfl, ha27, hb28⟩ := hb20
  obtain rfl : c25 = [.int .i64 x.2.2.2.2.1] := ha27
  obtain ⟨c29, d30, rfl, ha31, hb32⟩ := hb28
  obtain ⟨u33, rfl, hu34⟩ := ha31
  obtain ⟨u35, rfl, hu36⟩ := hb32
  exact ⟨u33, u35, rfl, hu34, hu36⟩
theorem member_Out_in {w : World} {ok : Nat → Prop} {x : D_member_Out} {u0 u1 : Value} (hu0 : slR (tInt .i64) w ok u0 x.2.2.2.2.2.1) (hu1 : slR tStr w ok u1 x.2.2.2.2.2.2) : (t_member_Out).R w ok x [.int .i64 x.1, .int .i64 x.2.1, .int .i64 x.2.2.1.1, .int .i64 x.2.2.1.2, .int .i64 x.2.2.2.1.1, .int .i64 x.2.2.2.1.2, .int .i64 x.2.2.2.2.1, u0, u1] := ⟨[.int .i64 x.1], [.int .i64 x.2.1, .int .i64 x.2.2.1.1, .int .i64 x.2.2.1.2, .int .i64 x.2.2.2.1.1, .int .i64 x.2.2.2.1.2, .int .i64 x.2.2.2.2.1, u0, u1], rfl, rfl, ⟨[.int .i64 x.2.1], [.int .i64 x.2.2.1.1, .int .i64 x.2.2.1.2, .int .i64 x.2.2.2.1.1, .int .i64 x.2.2.2.1.2, .int .i64 x.2.2.2.2.1, u0, u1], rfl, rfl, ⟨[.int .i64 x.2.2.1.1, .int .i64 x.2.2.1.2], [.int .i64 x.2.2.2.1.1, .int .i64 x.2.2.2.1.2, .int .i64 x.2.2.2.2.1, u0, u1], rfl, ⟨[.int .i64 x.2.2.1.1], [.int .i64 x.2.2.1.2], rfl, rfl, rfl⟩, ⟨[.int .i64 x.2.2.2.1.1, .int .i64 x.2.2.2.1.2], [.int .i64 x.2.2.2.2.1, u0, u1], rfl, ⟨[.int .i64 x.2.2.2.1.1], [.int .i64 x.2.2.2.1.2], rfl, rfl, rfl⟩, ⟨[.int .i64 x.2.2.2.2.1], [u0, u1], rfl, rfl, ⟨[u0], [u1], rfl, ⟨u0, rfl, hu0⟩, ⟨u1, rfl, hu1⟩⟩⟩⟩⟩⟩⟩
abbrev D_api_View := D_api_Id × (List Int)
abbrev t_api_View : Ty D_api_View := (tPair t_api_Id (tSl (tInt .i64)))
abbrev D_member_Event := Int × D_api_View × Int × Int × (List UInt8)
abbrev t_member_Event : Ty D_member_Event := (tPair (tInt .i64) (tPair t_api_View (tPair (tInt .i64) (tPair (tInt .i64) tStr))))
theorem member_Event_cells {w : World} {ok : Nat → Prop} {x : D_member_Event} {cs : List Value} (h : (t_member_Event).R w ok x cs) : ∃ (u0 : Value), cs = [.int .i64 x.1, .int .i64 x.2.1.1.1, .int .i64 x.2.1.1.2, u0, .int .i64 x.2.2.1, .int .i64 x.2.2.2.1, .string (bs x.2.2.2.2)] ∧ slR (tInt .i64) w ok u0 x.2.1.2 := by
  obtain ⟨c1, d2, rfl, ha3, hb4⟩ := h
  obtain rfl : c1 = [.int .i64 x.1] := ha3
  obtain ⟨c5, d6, rfl, ha7, hb8⟩ := hb4
  obtain ⟨c9, d10, rfl, ha11, hb12⟩ := ha7
  obtain ⟨c13, d14, rfl, ha15, hb16⟩ := ha11
  obtain rfl : c13 = [.int .i64 x.2.1.1.1] := ha15
  obtain rfl : d14 = [.int .i64 x.2.1.1.2] := hb16
  obtain ⟨u17, rfl, hu18⟩ := hb12
  obtain ⟨c19, d20, rfl, ha21, hb22⟩ := hb8
  obtain rfl : c19 = [.int .i64 x.2.2.1] := ha21
  obtain ⟨c23, d24, rfl, ha25, hb26⟩ := hb22
  obtain rfl : c23 = [.int .i64 x.2.2.2.1] := ha25
  obtain rfl : d24 = [.string (bs x.2.2.2.2)] := hb26
  exact ⟨u17, rfl, hu18⟩
theorem member_Event_in {w : World} {ok : Nat → Prop} {x : D_member_Event} {u0 : Value} (hu0 : slR (tInt .i64) w ok u0 x.2.1.2) : (t_member_Event).R w ok x [.int .i64 x.1, .int .i64 x.2.1.1.1, .int .i64 x.2.1.1.2, u0, .int .i64 x.2.2.1, .int .i64 x.2.2.2.1, .string (bs x.2.2.2.2)] := ⟨[.int .i64 x.1], [.int .i64 x.2.1.1.1, .int .i64 x.2.1.1.2, u0, .int .i64 x.2.2.1, .int .i64 x.2.2.2.1, .string (bs x.2.2.2.2)], rfl, rfl, ⟨[.int .i64 x.2.1.1.1, .int .i64 x.2.1.1.2, u0], [.int .i64 x.2.2.1, .int .i64 x.2.2.2.1, .string (bs x.2.2.2.2)], rfl, ⟨[.int .i64 x.2.1.1.1, .int .i64 x.2.1.1.2], [u0], rfl, ⟨[.int .i64 x.2.1.1.1], [.int .i64 x.2.1.1.2], rfl, rfl, rfl⟩, ⟨u0, rfl, hu0⟩⟩, ⟨[.int .i64 x.2.2.1], [.int .i64 x.2.2.2.1, .string (bs x.2.2.2.2)], rfl, rfl, ⟨[.int .i64 x.2.2.2.1], [.string (bs x.2.2.2.2)], rfl, rfl, rfl⟩⟩⟩⟩
abbrev D_cut_Part := D_api_Id × Int × (List (List UInt8))
abbrev t_cut_Part : Ty D_cut_Part := (tPair t_api_Id (tPair (tInt .i64) (tSl tStr)))
theorem cut_Part_cells {w : World} {ok : Nat → Prop} {x : D_cut_Part} {cs : List Value} (h : (t_cut_Part).R w ok x cs) : ∃ (u0 : Value), cs = [.int .i64 x.1.1, .int .i64 x.1.2, .int .i64 x.2.1, u0] ∧ slR tStr w ok u0 x.2.2 := by
  obtain ⟨c1, d2, rfl, ha3, hb4⟩ := h
  obtain ⟨c5, d6, rfl, ha7, hb8⟩ := ha3
  obtain rfl : c5 = [.int .i64 x.1.1] := ha7
  obtain rfl : d6 = [.int .i64 x.1.2] := hb8
  obtain ⟨c9, d10, rfl, ha11, hb12⟩ := hb4
  obtain rfl : c9 = [.int .i64 x.2.1] := ha11
  obtain ⟨u13, rfl, hu14⟩ := hb12
  exact ⟨u13, rfl, hu14⟩
theorem cut_Part_in {w : World} {ok : Nat → Prop} {x : D_cut_Part} {u0 : Value} (hu0 : slR tStr w ok u0 x.2.2) : (t_cut_Part).R w ok x [.int .i64 x.1.1, .int .i64 x.1.2, .int .i64 x.2.1, u0] := ⟨[.int .i64 x.1.1, .int .i64 x.1.2], [.int .i64 x.2.1, u0], rfl, ⟨[.int .i64 x.1.1], [.int .i64 x.1.2], rfl, rfl, rfl⟩, ⟨[.int .i64 x.2.1], [u0], rfl, rfl, ⟨u0, rfl, hu0⟩⟩⟩
abbrev D_cut_Log := Int × (List (List UInt8))
abbrev t_cut_Log : Ty D_cut_Log := (tPair (tInt .i64) (tSl tStr))
theorem cut_Log_cells {w : World} {ok : Nat → Prop} {x : D_cut_Log} {cs : List Value} (h : (t_cut_Log).R w ok x cs) : ∃ (u0 : Value), cs = [.int .i64 x.1, u0] ∧ slR tStr w ok u0 x.2 := by
  obtain ⟨c1, d2, rfl, ha3, hb4⟩ := h
  obtain rfl : c1 = [.int .i64 x.1] := ha3
  obtain ⟨u5, rfl, hu6⟩ := hb4
  exact ⟨u5, rfl, hu6⟩
theorem cut_Log_in {w : World} {ok : Nat → Prop} {x : D_cut_Log} {u0 : Value} (hu0 : slR tStr w ok u0 x.2) : (t_cut_Log).R w ok x [.int .i64 x.1, u0] := ⟨[.int .i64 x.1], [u0], rfl, rfl, ⟨u0, rfl, hu0⟩⟩
abbrev D_cut_Report := Int × D_api_Id × (List D_cut_Log)
abbrev t_cut_Report : Ty D_cut_Report := (tPair (tInt .i64) (tPair t_api_Id (tSl t_cut_Log)))
theorem cut_Report_cells {w : World} {ok : Nat → Prop} {x : D_cut_Report} {cs : List Value} (h : (t_cut_Report).R w ok x cs) : ∃ (u0 : Value), cs = [.int .i64 x.1, .int .i64 x.2.1.1, .int .i64 x.2.1.2, u0] ∧ slR t_cut_Log w ok u0 x.2.2 := by
  obtain ⟨c1, d2, rfl, ha3, hb4⟩ := h
  obtain rfl : c1 = [.int .i64 x.1] := ha3
  obtain ⟨c5, d6, rfl, ha7, hb8⟩ := hb4
  obtain ⟨c9, d10, rfl, ha11, hb12⟩ := ha7
  obtain rfl : c9 = [.int .i64 x.2.1.1] := ha11
  obtain rfl : d10 = [.int .i64 x.2.1.2] := hb12
  obtain ⟨u13, rfl, hu14⟩ := hb8
  exact ⟨u13, rfl, hu14⟩
theorem cut_Report_in {w : World} {ok : Nat → Prop} {x : D_cut_Report} {u0 : Value} (hu0 : slR t_cut_Log w ok u0 x.2.2) : (t_cut_Report).R w ok x [.int .i64 x.1, .int .i64 x.2.1.1, .int .i64 x.2.1.2, u0] := ⟨[.int .i64 x.1], [.int .i64 x.2.1.1, .int .i64 x.2.1.2, u0], rfl, rfl, ⟨[.int .i64 x.2.1.1, .int .i64 x.2.1.2], [u0], rfl, ⟨[.int .i64 x.2.1.1], [.int .i64 x.2.1.2], rfl, rfl, rfl⟩, ⟨u0, rfl, hu0⟩⟩⟩
abbrev D_member_cast := Int × D_list_Message
abbrev t_member_cast : Ty D_member_cast := (tPair (tInt .i64) t_list_Message)
theorem member_cast_cells {w : World} {ok : Nat → Prop} {x : D_member_cast} {cs : List Value} (h : (t_member_cast).R w ok x cs) : ∃ (u0 : Value) (u1 : Value), cs = [.int .i64 x.1, .int .i64 x.2.1, .int .i64 x.2.2.1.1, .int .i64 x.2.2.1.2, .int .i64 x.2.2.2.1.1, .int .i64 x.2.2.2.1.2, .int .i64 x.2.2.2.2.1, u0, u1] ∧ slR (tInt .i64) w ok u0 x.2.2.2.2.2.1 ∧ slR tStr w ok u1 x.2.2.2.2.2.2 := by
  obtain ⟨c1, d2, rfl, ha3, hb4⟩ := h
  obtain rfl : c1 = [.int .i64 x.1] := ha3
  obtain ⟨c5, d6, rfl, ha7, hb8⟩ := hb4
  obtain rfl : c5 = [.int .i64 x.2.1] := ha7
  obtain ⟨c9, d10, rfl, ha11, hb12⟩ := hb8
  obtain ⟨c13, d14, rfl, ha15, hb16⟩ := ha11
  obtain rfl : c13 = [.int .i64 x.2.2.1.1] := ha15
  obtain rfl : d14 = [.int .i64 x.2.2.1.2] := hb16
  obtain ⟨c17, d18, rfl, ha19, hb20⟩ := hb12
  obtain ⟨c21, d22, rfl, ha23, hb24⟩ := ha19
  obtain rfl : c21 = [.int .i64 x.2.2.2.1.1] := ha23
  obtain rfl : d22 = [.int .i64 x.2.2.2.1.2] := hb24
  obtain ⟨c25, d26, rfl, ha27, hb28⟩ := hb20
  obtain rfl : c25 = [.int .i64 x.2.2.2.2.1] := ha27
  obtain ⟨c29, d30, rfl, ha31, hb32⟩ := hb28
  obtain ⟨u33, rfl, hu34⟩ := ha31
  obtain ⟨u35, rfl, hu36⟩ := hb32
  exact ⟨u33, u35, rfl, hu34, hu36⟩
theorem member_cast_in {w : World} {ok : Nat → Prop} {x : D_member_cast} {u0 u1 : Value} (hu0 : slR (tInt .i64) w ok u0 x.2.2.2.2.2.1) (hu1 : slR tStr w ok u1 x.2.2.2.2.2.2) : (t_member_cast).R w ok x [.int .i64 x.1, .int .i64 x.2.1, .int .i64 x.2.2.1.1, .int .i64 x.2.2.1.2, .int .i64 x.2.2.2.1.1, .int .i64 x.2.2.2.1.2, .int .i64 x.2.2.2.2.1, u0, u1] := ⟨[.int .i64 x.1], [.int .i64 x.2.1, .int .i64 x.2.2.1.1, .int .i64 x.2.2.1.2, .int .i64 x.2.2.2.1.1, .int .i64 x.2.2.2.1.2, .int .i64 x.2.2.2.2.1, u0, u1], rfl, rfl, ⟨[.int .i64 x.2.1], [.int .i64 x.2.2.1.1, .int .i64 x.2.2.1.2, .int .i64 x.2.2.2.1.1, .int .i64 x.2.2.2.1.2, .int .i64 x.2.2.2.2.1, u0, u1], rfl, rfl, ⟨[.int .i64 x.2.2.1.1, .int .i64 x.2.2.1.2], [.int .i64 x.2.2.2.1.1, .int .i64 x.2.2.2.1.2, .int .i64 x.2.2.2.2.1, u0, u1], rfl, ⟨[.int .i64 x.2.2.1.1], [.int .i64 x.2.2.1.2], rfl, rfl, rfl⟩, ⟨[.int .i64 x.2.2.2.1.1, .int .i64 x.2.2.2.1.2], [.int .i64 x.2.2.2.2.1, u0, u1], rfl, ⟨[.int .i64 x.2.2.2.1.1], [.int .i64 x.2.2.2.1.2], rfl, rfl, rfl⟩, ⟨[.int .i64 x.2.2.2.2.1], [u0, u1], rfl, rfl, ⟨[u0], [u1], rfl, ⟨u0, rfl, hu0⟩, ⟨u1, rfl, hu1⟩⟩⟩⟩⟩⟩⟩
abbrev D_cut_place := D_api_Id × Int
abbrev D_term_open := Int × Int × Bool × Int × (List UInt8)
abbrev t_term_open : Ty D_term_open := (tPair (tInt .i64) (tPair (tInt .i64) (tPair tBool (tPair (tInt .i64) tStr))))
theorem term_open_cells {w : World} {ok : Nat → Prop} {x : D_term_open} {cs : List Value} (h : (t_term_open).R w ok x cs) : cs = [.int .i64 x.1, .int .i64 x.2.1, .bool x.2.2.1, .int .i64 x.2.2.2.1, .string (bs x.2.2.2.2)] := by
  obtain ⟨c1, d2, rfl, ha3, hb4⟩ := h
  obtain rfl : c1 = [.int .i64 x.1] := ha3
  obtain ⟨c5, d6, rfl, ha7, hb8⟩ := hb4
  obtain rfl : c5 = [.int .i64 x.2.1] := ha7
  obtain ⟨c9, d10, rfl, ha11, hb12⟩ := hb8
  obtain rfl : c9 = [.bool x.2.2.1] := ha11
  obtain ⟨c13, d14, rfl, ha15, hb16⟩ := hb12
  obtain rfl : c13 = [.int .i64 x.2.2.2.1] := ha15
  obtain rfl : d14 = [.string (bs x.2.2.2.2)] := hb16
  exact rfl
theorem term_open_in {w : World} {ok : Nat → Prop} {x : D_term_open} : (t_term_open).R w ok x [.int .i64 x.1, .int .i64 x.2.1, .bool x.2.2.1, .int .i64 x.2.2.2.1, .string (bs x.2.2.2.2)] := ⟨[.int .i64 x.1], [.int .i64 x.2.1, .bool x.2.2.1, .int .i64 x.2.2.2.1, .string (bs x.2.2.2.2)], rfl, rfl, ⟨[.int .i64 x.2.1], [.bool x.2.2.1, .int .i64 x.2.2.2.1, .string (bs x.2.2.2.2)], rfl, rfl, ⟨[.bool x.2.2.1], [.int .i64 x.2.2.2.1, .string (bs x.2.2.2.2)], rfl, rfl, ⟨[.int .i64 x.2.2.2.1], [.string (bs x.2.2.2.2)], rfl, rfl, rfl⟩⟩⟩⟩
end Go.Proofs.Ytipoblinefamgaa.G
