/- The two methods of a queue that touch its channel: what a push and a pop leave, whatever the channel holds; no condition beyond where the channel lies. -/
import Derived.Test.YtgiipmdndfcgnaaChecked
import Derived.Conc.LoneCalls
import Derived.Conc.LoneSelectN
import Derived.Conc.LoneSelect
import Derived.Test.YtgiipmdndfcgnaaOps
import Derived.KernelRfl
import Derived.Laws.Rows
import Derived.WalkKit
namespace Go.Proofs.Ytgiipmdndfcgnaa.Chan
open Go.Conc Go.RowKit Go.Proofs
set_option linter.unusedVariables false
set_option linter.unusedSimpArgs false

theorem res_r0 (a : Nat) (z v : Value) (ok : Bool) : commResult #[rcase a z] .select ((0 : Nat) : Int) v ok = .tuple #[goInt 0, .bool ok, v] := by
  simp [commResult, rcase, List.zipIdx_cons]
theorem res_rd (a : Nat) (z : Value) : commResult #[rcase a z] .select (-1) undef false = .tuple #[goInt (-1), .bool false, z] := by
  simp [commResult, rcase, List.zipIdx_cons]

set_option maxRecDepth 100000 in
theorem push_room {b c cap s r : Nat} {buf : Array Value} {t : ByteArray} {w : World} (hb : w.heap[b]? = some (.cells #[.chan (some c)] 78)) (hc : w.heap[c]? = some (.chan cap buf false s r false)) (hroom : buf.size < cap) :
    Calls Try.prog 15 #[.pointer (some ⟨b, 0, none⟩), .string t] w fun e w' => e = .returned (.int .i64 0) ∧ w' = w.setChan c cap (buf.push (.string t)) false (s + 1) r false := by
  refine calls_of_loneTo fun cs => ?_
  have e : Frame.enter Try.prog 15 #[.pointer (some ⟨b, 0, none⟩), .string t] .normal = (base 15).at ⟨#[.pointer (some ⟨b, 0, none⟩), .string t, undef, undef, undef, undef, undef, undef, undef, undef, undef, undef, undef], []⟩ [.code (Try.f15.body.getD .skip)] := by
    simp [Frame.enter, Frame.at, Try.func15, base, Try.f15]
  rw [e]
  have hcell : w.cell? ⟨b, 0, none⟩ = some (.chan (some c)) := by simp [World.cell?, hb]
  have hfz : w.frozen? ⟨b, 0, none⟩ = false := by simp [World.frozen?, hb]
  have hz : (Sem.run Try.prog (zeroValue 29) w) = .ok (.string ⟨#[]⟩) w := Eng.run_zero (by kernel_rfl)
  refine LoneTo.goes (n := 18) ?_
  simp only [Try.f15, Option.getD_some]
  s_c stepG_seq
  s_reg
  s_op
  s_c stepG_region_end
  s_c stepG_seq
  s_c stepG_seq
  s_reg
  s_op
  s_op
  s_op
  s_op
  s_c stepG_region_end
  s_reg
  s_op
  s_c stepG_region_end
  s_c stepG_seq
  s_reg
  s_stop
  refine LoneTo.step (step_lone_select_send_room (c := c) (v := .string t) (z' := .string ⟨#[]⟩) (cap := cap) (buf := buf) (s := s) (r := r) (tm := false)
    (stepG_comm (cases := #[scase c (.string t) (.string ⟨#[]⟩)]) (blocking := false) (shape := .select) (w' := w) rfl rfl (by decide) (by simp [go_sem, execOp, scase, rcase, Act.eval])) hc hroom) ?_
  rw [Frame.finish_at]
  walk_nrm
  refine LoneTo.goes (n := 18) ?_
  s_op
  s_op
  s_c stepG_region_end
  s_c stepG_block
  s_cond true
  s_c stepG_seq
  s_reg
  s_op
  s_c stepG_region_end
  s_c stepG_ret'
  s_stop
  refine LoneTo.done ⟨.returned (.int .i64 0), _, rfl, ⟨rfl, rfl⟩, rfl, rfl, rfl, rfl, _, Try.func15, by simp [results, Try.f15, Frame.at]⟩

set_option maxRecDepth 100000 in
theorem push_full {b c cap s r : Nat} {buf : Array Value} {t : ByteArray} {w : World} (hb : w.heap[b]? = some (.cells #[.chan (some c)] 78)) (hc : w.heap[c]? = some (.chan cap buf false s r false)) (hfull : cap ≤ buf.size) :
    Calls Try.prog 15 #[.pointer (some ⟨b, 0, none⟩), .string t] w fun e w' => e = .returned (.int .i64 5) ∧ w' = w := by
  refine calls_of_loneTo fun cs => ?_
  have e : Frame.enter Try.prog 15 #[.pointer (some ⟨b, 0, none⟩), .string t] .normal = (base 15).at ⟨#[.pointer (some ⟨b, 0, none⟩), .string t, undef, undef, undef, undef, undef, undef, undef, undef, undef, undef, undef], []⟩ [.code (Try.f15.body.getD .skip)] := by
    simp [Frame.enter, Frame.at, Try.func15, base, Try.f15]
  rw [e]
  have hcell : w.cell? ⟨b, 0, none⟩ = some (.chan (some c)) := by simp [World.cell?, hb]
  have hfz : w.frozen? ⟨b, 0, none⟩ = false := by simp [World.frozen?, hb]
  have hz : (Sem.run Try.prog (zeroValue 29) w) = .ok (.string ⟨#[]⟩) w := Eng.run_zero (by kernel_rfl)
  refine LoneTo.goes (n := 18) ?_
  simp only [Try.f15, Option.getD_some]
  s_c stepG_seq
  s_reg
  s_op
  s_c stepG_region_end
  s_c stepG_seq
  s_c stepG_seq
  s_reg
  s_op
  s_op
  s_op
  s_op
  s_c stepG_region_end
  s_reg
  s_op
  s_c stepG_region_end
  s_c stepG_seq
  s_reg
  s_stop
  refine LoneTo.step (step_lone_select_send_full (c := c) (v := .string t) (z' := .string ⟨#[]⟩) (cap := cap) (buf := buf) (s := s) (r := r) (tm := false)
    (stepG_comm (cases := #[scase c (.string t) (.string ⟨#[]⟩)]) (blocking := false) (shape := .select) (w' := w) rfl rfl (by decide) (by simp [go_sem, execOp, scase, rcase, Act.eval])) hc hfull) ?_
  rw [Frame.finish_at]
  walk_nrm
  refine LoneTo.goes (n := 18) ?_
  s_op
  s_op
  s_c stepG_region_end
  s_c stepG_block
  s_cond false
  s_c stepG_seq
  s_reg
  s_op
  s_c stepG_region_end
  s_c stepG_ret'
  s_stop
  refine LoneTo.done ⟨.returned (.int .i64 5), _, rfl, ⟨rfl, rfl⟩, rfl, rfl, rfl, rfl, _, Try.func15, by simp [results, Try.f15, Frame.at]⟩

set_option maxRecDepth 100000 in
theorem pop_some {b c cap s r : Nat} {buf : Array Value} {w : World} (hb : w.heap[b]? = some (.cells #[.chan (some c)] 78)) (hc : w.heap[c]? = some (.chan cap buf false s r false)) {v : Value} (hv : buf[0]? = some v) :
    Calls Try.prog 30 #[.pointer (some ⟨b, 0, none⟩)] w fun e w' => e = .returned (.tuple #[v, .bool true]) ∧ w' = w.setChan c cap (buf.extract 1 buf.size) false s (r + 1) false := by
  refine calls_of_loneTo fun cs => ?_
  have e : Frame.enter Try.prog 30 #[.pointer (some ⟨b, 0, none⟩)] .normal = (base 30).at ⟨#[.pointer (some ⟨b, 0, none⟩), undef, undef, undef, undef, undef, undef, undef, undef, undef, undef, undef, undef, undef], []⟩ [.code (Try.f30.body.getD .skip)] := by
    simp [Frame.enter, Frame.at, Try.func30, base, Try.f30]
  rw [e]
  have hcell : w.cell? ⟨b, 0, none⟩ = some (.chan (some c)) := by simp [World.cell?, hb]
  have hfz : w.frozen? ⟨b, 0, none⟩ = false := by simp [World.frozen?, hb]
  have hz : (Sem.run Try.prog (zeroValue 29) w) = .ok (.string ⟨#[]⟩) w := Eng.run_zero (by kernel_rfl)
  refine LoneTo.goes (n := 18) ?_
  simp only [Try.f30, Option.getD_some]
  s_c stepG_seq
  s_reg
  s_op
  s_op
  s_c stepG_region_end
  s_c stepG_seq
  s_reg
  s_op
  s_op
  s_op
  s_op
  s_c stepG_region_end
  s_c stepG_seq
  s_reg
  s_stop
  refine LoneTo.step (step_lone_select_recv_buf (c := c) (z := .string ⟨#[]⟩) (cap := cap) (buf := buf) (closed := false) (s := s) (r := r) (tm := false)
    (stepG_comm (cases := #[rcase c (.string ⟨#[]⟩)]) (blocking := false) (shape := .select) (w' := w) rfl rfl (by decide) (by simp [go_sem, execOp, scase, rcase, Act.eval])) hc (by obtain ⟨h, _⟩ := Array.getElem?_eq_some_iff.1 hv; exact h)) ?_
  rw [Frame.finish_at]
  walk_nrm
  refine LoneTo.goes (n := 18) ?_
  s_op
  s_op
  s_c stepG_region_end
  s_c stepG_block
  s_cond true
  s_c stepG_seq
  s_reg
  s_op
  s_op
  s_c stepG_region_end
  s_c stepG_seq
  s_reg
  s_op
  s_op
  s_op
  s_c stepG_region_end
  s_c stepG_ret'
  s_stop
  refine LoneTo.done ⟨.returned (.tuple #[v, .bool true]), _, rfl, ⟨rfl, rfl⟩, rfl, rfl, rfl, rfl, _, Try.func30, by simp [results, Try.f30, Frame.at, hv]⟩

set_option maxRecDepth 100000 in
theorem pop_none {b c cap s r : Nat} {buf : Array Value} {w : World} (hb : w.heap[b]? = some (.cells #[.chan (some c)] 78)) (hc : w.heap[c]? = some (.chan cap #[] false s r false)) :
    Calls Try.prog 30 #[.pointer (some ⟨b, 0, none⟩)] w fun e w' => e = .returned (.tuple #[.string ⟨#[]⟩, .bool false]) ∧ w' = w := by
  refine calls_of_loneTo fun cs => ?_
  have e : Frame.enter Try.prog 30 #[.pointer (some ⟨b, 0, none⟩)] .normal = (base 30).at ⟨#[.pointer (some ⟨b, 0, none⟩), undef, undef, undef, undef, undef, undef, undef, undef, undef, undef, undef, undef, undef], []⟩ [.code (Try.f30.body.getD .skip)] := by
    simp [Frame.enter, Frame.at, Try.func30, base, Try.f30]
  rw [e]
  have hcell : w.cell? ⟨b, 0, none⟩ = some (.chan (some c)) := by simp [World.cell?, hb]
  have hfz : w.frozen? ⟨b, 0, none⟩ = false := by simp [World.frozen?, hb]
  have hz : (Sem.run Try.prog (zeroValue 29) w) = .ok (.string ⟨#[]⟩) w := Eng.run_zero (by kernel_rfl)
  refine LoneTo.goes (n := 18) ?_
  simp only [Try.f30, Option.getD_some]
  s_c stepG_seq
  s_reg
  s_op
  s_op
  s_c stepG_region_end
  s_c stepG_seq
  s_reg
  s_op
  s_op
  s_op
  s_op
  s_c stepG_region_end
  s_c stepG_seq
  s_reg
  s_stop
  refine LoneTo.step (step_lone_select_default (c := c) (z := .string ⟨#[]⟩) (cap := cap) (s := s) (r := r) (tm := false)
    (stepG_comm (cases := #[rcase c (.string ⟨#[]⟩)]) (blocking := false) (shape := .select) (w' := w) rfl rfl (by decide) (by simp [go_sem, execOp, scase, rcase, Act.eval])) hc) ?_
  rw [Frame.finish_at]
  walk_nrm
  refine LoneTo.goes (n := 18) ?_
  s_op
  s_op
  s_c stepG_region_end
  s_c stepG_block
  s_cond false
  s_c stepG_seq
  s_reg
  s_op
  s_op
  s_c stepG_region_end
  s_c stepG_ret'
  s_stop
  refine LoneTo.done ⟨.returned (.tuple #[.string ⟨#[]⟩, .bool false]), _, rfl, ⟨rfl, rfl⟩, rfl, rfl, rfl, rfl, _, Try.func30, by simp [results, Try.f30, Frame.at]⟩
end Go.Proofs.Ytgiipmdndfcgnaa.Chan
