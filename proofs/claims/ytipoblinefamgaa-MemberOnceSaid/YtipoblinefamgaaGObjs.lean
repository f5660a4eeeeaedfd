/- The kinds of objects, out of the program's types. -/
import Derived.Test.YtipoblinefamgaaM3
import Derived.Test.YtipoblinefamgaaObj
import Derived.Test.YtipoblinefamgaaSorts1
import Derived.KernelRfl
namespace Go.Proofs.Ytipoblinefamgaa.G
open Go.RowKit Go.Eng Go.Proofs
set_option linter.unusedVariables false
set_option maxRecDepth 20000
instance seatHard : Inhabited Hard := ⟨⟨[8, 9, 13, 14, 16, 24, 25, 26, 28, 29, 30, 31, 34, 39, 41]⟩⟩
theorem key3 : MKey Try.prog 3 (Value.int .i64) where
  check em a w := run_keyB (P := Try.prog) (w := w) (em := em) 4 10000 3 ((Value.int .i64) a) (by decide) (by kernel_rfl)
  eq a b w := by
    have h := run_eqB (P := Try.prog) (w := w) 4 10000 3 ((Value.int .i64) a) ((Value.int .i64) b) (a == b) (by decide) (by kernel_rfl)
    have e : (a == b) = decide (a = b) := by rw [Bool.eq_iff_iff]; simp
    rw [e] at h
    exact h
  desc := by
    have h : (match Try.prog.underlying 3 with | some (.int _) => true | _ => false) = true := by kernel_rfl
    split at h
    · rename_i k hu
      exact ⟨_, hu, .inl fun a b => by
        show (if IntKind.i64 = IntKind.i64 then some (a == b) else none) = _
        rw [if_pos rfl]
        congr 1⟩
    · cases h
  stays a := by
    show (IntKind.i64 == IntKind.i64 && a == a) = true
    simp
structure O_member_plan where
  told_ : List (Int × D_cut_Report)
abbrev A_member_plan := Nat × (List (Int × Value))
def oL_member_plan (g : Nat) (a : A_member_plan) (s : O_member_plan) : List Eng.Item := [.blk g [.map (some a.1)] 75, .obj a.1 (mapOk (Value.int .i64) a.2), .dat (dEnts t_cut_Report a.2 s.told_)]
def oU_member_plan (g : Nat) (a : A_member_plan) (s : O_member_plan) : List Eng.Item := [.blk g [.map (some a.1)] 75, .obj a.1 (mapOk (Value.int .i64) a.2), .dat (dEnts t_cut_Report a.2 s.told_)]
structure O_member_Node where
  me_ : Int
  view_ : D_api_View
  rows_ : List (Int × (List (List UInt8)))
  promised_ : D_api_View
  seen_ : D_api_Id
  plan_ : Option O_member_plan
  early_ : List D_member_cast
  outs_ : List D_member_Out
  events_ : List D_member_Event
abbrev A_member_Node := (Option Addr) × Nat × Nat × (List (Option Addr × Nat × List Value)) × (Option Addr) × Nat × Nat × A_member_plan × (Option Addr) × Nat × (List Value) × (Option Addr) × Nat × (List Value) × (Option Addr) × Nat × (List Value)
def oL_member_Node (g : Nat) (a : A_member_Node) (s : O_member_Node) : List Eng.Item := [.blk g [.int .i64 s.me_, .int .i64 s.view_.1.1, .int .i64 s.view_.1.2, .slice a.1 s.view_.2.length a.2.1, .map (some a.2.2.1), .int .i64 s.promised_.1.1, .int .i64 s.promised_.1.2, .slice a.2.2.2.2.1 s.promised_.2.length a.2.2.2.2.2.1, .int .i64 s.seen_.1, .int .i64 s.seen_.2, .pointer (optA a.2.2.2.2.2.2.1 s.plan_), .slice a.2.2.2.2.2.2.2.2.1 s.early_.length a.2.2.2.2.2.2.2.2.2.1, .slice a.2.2.2.2.2.2.2.2.2.2.2.1 s.outs_.length a.2.2.2.2.2.2.2.2.2.2.2.2.1, .slice a.2.2.2.2.2.2.2.2.2.2.2.2.2.2.1 s.events_.length a.2.2.2.2.2.2.2.2.2.2.2.2.2.2.2.1] 67, .dat (dSl (tInt .i64) (.slice a.1 s.view_.2.length a.2.1) s.view_.2), .obj a.2.2.1 (mapOk (Value.int .i64) (shelfE rowVal a.2.2.2.1 s.rows_)), box (shelfL (rowI tStr 45) a.2.2.2.1 s.rows_), .dat (dSl (tInt .i64) (.slice a.2.2.2.2.1 s.promised_.2.length a.2.2.2.2.2.1) s.promised_.2), box (optL oL_member_plan a.2.2.2.2.2.2.1 a.2.2.2.2.2.2.2.1 s.plan_), .dat (dRows t_member_cast s.early_ a.2.2.2.2.2.2.2.2.2.2.1), .row (.slice a.2.2.2.2.2.2.2.2.1 s.early_.length a.2.2.2.2.2.2.2.2.2.1) 101 9 s.early_.length a.2.2.2.2.2.2.2.2.2.2.1, .dat (dRows t_member_Out s.outs_ a.2.2.2.2.2.2.2.2.2.2.2.2.2.1), .row (.slice a.2.2.2.2.2.2.2.2.2.2.2.1 s.outs_.length a.2.2.2.2.2.2.2.2.2.2.2.2.1) 40 9 s.outs_.length a.2.2.2.2.2.2.2.2.2.2.2.2.2.1, .dat (dRows t_member_Event s.events_ a.2.2.2.2.2.2.2.2.2.2.2.2.2.2.2.2), .row (.slice a.2.2.2.2.2.2.2.2.2.2.2.2.2.2.1 s.events_.length a.2.2.2.2.2.2.2.2.2.2.2.2.2.2.2.1) 51 7 s.events_.length a.2.2.2.2.2.2.2.2.2.2.2.2.2.2.2.2]
def oU_member_Node (g : Nat) (a : A_member_Node) (s : O_member_Node) : List Eng.Item := [.blk g [.int .i64 s.me_, .int .i64 s.view_.1.1, .int .i64 s.view_.1.2, .slice a.1 s.view_.2.length a.2.1, .map (some a.2.2.1), .int .i64 s.promised_.1.1, .int .i64 s.promised_.1.2, .slice a.2.2.2.2.1 s.promised_.2.length a.2.2.2.2.2.1, .int .i64 s.seen_.1, .int .i64 s.seen_.2, .pointer (optA a.2.2.2.2.2.2.1 s.plan_), .slice a.2.2.2.2.2.2.2.2.1 s.early_.length a.2.2.2.2.2.2.2.2.2.1, .slice a.2.2.2.2.2.2.2.2.2.2.2.1 s.outs_.length a.2.2.2.2.2.2.2.2.2.2.2.2.1, .slice a.2.2.2.2.2.2.2.2.2.2.2.2.2.2.1 s.events_.length a.2.2.2.2.2.2.2.2.2.2.2.2.2.2.2.1] 67, .dat (dSl (tInt .i64) (.slice a.1 s.view_.2.length a.2.1) s.view_.2), .obj a.2.2.1 (mapOk (Value.int .i64) (shelfE rowVal a.2.2.2.1 s.rows_)), box (shelfL (rowI tStr 45) a.2.2.2.1 s.rows_), .dat (dSl (tInt .i64) (.slice a.2.2.2.2.1 s.promised_.2.length a.2.2.2.2.2.1) s.promised_.2), box (optL oL_member_plan a.2.2.2.2.2.2.1 a.2.2.2.2.2.2.2.1 s.plan_), .dat (dRows t_member_cast s.early_ a.2.2.2.2.2.2.2.2.2.2.1), .row (.slice a.2.2.2.2.2.2.2.2.1 s.early_.length a.2.2.2.2.2.2.2.2.2.1) 101 9 s.early_.length a.2.2.2.2.2.2.2.2.2.2.1, .dat (dRows t_member_Out s.outs_ a.2.2.2.2.2.2.2.2.2.2.2.2.2.1), .row (.slice a.2.2.2.2.2.2.2.2.2.2.2.1 s.outs_.length a.2.2.2.2.2.2.2.2.2.2.2.2.1) 40 9 s.outs_.length a.2.2.2.2.2.2.2.2.2.2.2.2.2.1, .dat (dRows t_member_Event s.events_ a.2.2.2.2.2.2.2.2.2.2.2.2.2.2.2.2), .row (.slice a.2.2.2.2.2.2.2.2.2.2.2.2.2.2.1 s.events_.length a.2.2.2.2.2.2.2.2.2.2.2.2.2.2.2.1) 51 7 s.events_.length a.2.2.2.2.2.2.2.2.2.2.2.2.2.2.2.2]
end Go.Proofs.Ytipoblinefamgaa.G
