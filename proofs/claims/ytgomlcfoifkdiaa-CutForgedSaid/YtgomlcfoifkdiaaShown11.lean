/- The law package's head: chapter 11's example. -/
import Derived.Test.YtgomlcfoifkdiaaCutWalk
namespace Go.Proofs.Ytgomlcfoifkdiaa.Cut
open Go.RowKit Go.Eng Go.Proofs
set_option linter.unusedVariables false
set_option maxRecDepth 20000

variable {ok : Nat → Prop} {w0 w : World} {L : List Eng.Item}

theorem report_in {w : World} {ok : Nat → Prop} {x : ReportD} {v : Value} (h : slR tLog w ok v x.2.2) : tReport.R w ok x [.int .i64 x.1, .int .i64 x.2.1.1, .int .i64 x.2.1.2, v] :=
  ⟨[_], [_, _, v], rfl, rfl, [_, _], [v], rfl, ⟨[_], [_], rfl, rfl, rfl⟩, v, rfl, h⟩
theorem nil_sl {α : Type} {k : Ty α} {w : World} {ok : Nat → Prop} : slR k w ok (.slice none 0 0) [] := ⟨none, 0, rfl, Nat.le_refl _, .inl ⟨rfl, fun _ => rfl⟩⟩

def exA : List LogD := [(1, [[103]])]
def exB : List LogD := [(1, [[103], [104, 103]])]
def exR : List ReportD := [(1, (0, 0), exA), (2, (0, 0), exB), (3, (0, 0), [])]
theorem exM : cutM exR = [((0, 0, 1), [[103], [104, 103]])] := by rfl
theorem exCut : cutL exR = [((0, 0), 1, [[103], [104, 103]])] := by
  unfold cutL
  rw [exM]
  have : sortPl (List.map (·.1) ([((0, 0, 1), [[103], [104, 103]])] : MapD)) = [(0, 0, 1)] := by
    show sortPl [(0, 0, 1)] = _
    unfold sortPl
    exact List.mergeSort_singleton _
  rw [this]
  rfl
theorem exMiss : missL [((0, 0), 1, [[103], [104, 103]])] (0, 0) exA = [(1, [[104, 103]])] := by rfl

set_option maxHeartbeats 4000000 in
theorem shown_calls (w : World) : Calls Try.prog 12 #[] w fun e w' => ∃ v, e = .returned v ∧ (v = .bool true ∧ Bel w.heap.size w w') := by
  have H : Eng.Own (fun _ => False) w w [] := Eng.Own.nil _ w
  refine enter (args := []) Try.func12 rfl Try.ntmps12 rfl rfl ?_
  try refine nc ?_
  refine own_buildSlice (e := 62) (sz := 1) (z := .string ⟨#[]⟩) (cs := [.string (bs [103])]) H (by kernel_rfl) (by kernel_rfl) (by kernel_rfl) rfl rfl rfl rfl fun g1 w1 H => ?_
  replace H := H.blkSl (k := tStr) [[103]] 1 rfl rfl (by decide) (rows_strs [[103]])
  refine own_buildSlice (e := 58) (sz := 2) (z := .agg #[.int .i64 0, .slice none 0 0]) (cs := [.int .i64 1, .slice (some ⟨g1, 0, none⟩) 1 1]) H (by kernel_rfl) (by kernel_rfl) (by kernel_rfl) rfl rfl rfl rfl fun g2 w2 H => ?_
  replace H := H.blkSl (k := tLog) exA 1 rfl rfl (by decide) ⟨_, [], rfl, log_in (x := (1, [[103]])) (H.dat 1 rfl), rfl⟩
  try refine nc ?_
  refine own_buildSlice (e := 62) (sz := 1) (z := .string ⟨#[]⟩) (cs := [.string (bs [103]), .string (bs [104, 103])]) H (by kernel_rfl) (by kernel_rfl) (by kernel_rfl) rfl rfl rfl rfl fun g3 w3 H => ?_
  replace H := H.blkSl (k := tStr) [[103], [104, 103]] 2 rfl rfl (by decide) (rows_strs [[103], [104, 103]])
  refine own_buildSlice (e := 58) (sz := 2) (z := .agg #[.int .i64 0, .slice none 0 0]) (cs := [.int .i64 1, .slice (some ⟨g3, 0, none⟩) 2 2]) H (by kernel_rfl) (by kernel_rfl) (by kernel_rfl) rfl rfl rfl rfl fun g4 w4 H => ?_
  replace H := H.blkSl (k := tLog) exB 1 rfl rfl (by decide) ⟨_, [], rfl, log_in (x := (1, [[103], [104, 103]])) (H.dat 1 rfl), rfl⟩
  try refine nc ?_
  refine own_buildSlice (e := 55) (sz := 4) (z := .agg #[.int .i64 0, .int .i64 0, .int .i64 0, .slice none 0 0]) (cs := [.int .i64 1, .int .i64 0, .int .i64 0, .slice (some ⟨g2, 0, none⟩) 1 1, .int .i64 2, .int .i64 0, .int .i64 0, .slice (some ⟨g4, 0, none⟩) 1 1, .int .i64 3, .int .i64 0, .int .i64 0, .slice none 0 0]) H (by kernel_rfl) (by kernel_rfl) (by kernel_rfl) rfl rfl rfl rfl fun g5 w5 H => ?_
  replace H := H.blkSl (k := tReport) exR 3 rfl rfl (by decide) ⟨_, _, rfl, report_in (x := (1, (0, 0), exA)) (H.dat 3 rfl), _, _, rfl, report_in (x := (2, (0, 0), exB)) (H.dat 1 rfl), _, [], rfl, report_in (x := (3, (0, 0), [])) nil_sl, rfl⟩
  have hcut := Cut_calls (H.dat 0 rfl) (by decide) (by decide) (by rw [exM]; decide) (by rw [exM]; decide) (by decide)
  rw [exCut] at hcut
  refine call_rule (by kernel_rfl) hcut fun pv w6 ⟨hp, hb⟩ => ?_
  replace H := H.callDat hb (dSl tPart pv _) hp
  obtain ⟨Ap, cp, hpv, _, _⟩ := hp
  subst hpv
  try refine nc ?_
  have hmiss := Missing_calls (oe := 0) (oc := 0) (H.dat 0 rfl) (H.dat 4 rfl) (by decide) (by decide) (by decide) (by decide)
  rw [exMiss] at hmiss
  refine call_rule (by kernel_rfl) hmiss fun mv w7 ⟨hp, hb⟩ => ?_
  replace H := H.callDat hb (dSl tLog mv _) hp
  obtain ⟨Am, cm, hmv, _, _⟩ := hp
  subst hmv
  obtain ⟨ap, cp', csp, hAp, hRp, H⟩ := H.elem 1 rfl 0 (by decide)
  cases hAp
  obtain ⟨pi, rfl, hpi⟩ := part_cells hRp
  obtain ⟨am, cm', csm, hAm, hRm, H⟩ := H.elem 2 rfl 0 (by decide)
  cases hAm
  obtain ⟨mi, rfl, hmi⟩ := log_cells hRm
  replace hpi : slR tStr w7 _ pi [[103], [104, 103]] := hpi
  replace hmi : slR tStr w7 _ mi [[104, 103]] := hmi
  replace H := (H.addDat (dSl tStr pi [[103], [104, 103]]) hpi).addDat (dSl tStr mi [[104, 103]]) ((dSl tStr mi [[104, 103]]).mono (fun _ h => h) hmi)
  try refine nc ?_
  refine indexAddr_rule (e := 37) (kk := .i64) 4 0 (by kernel_rfl) (by kernel_rfl) (fun _ => by decide) ?_
  refine own_loadD H 4 rfl 2 (by kernel_rfl) rfl ?_
  refine indexAddr_rule (e := 37) (kk := .i64) 4 0 (by kernel_rfl) (by kernel_rfl) (fun _ => by decide) ?_
  refine own_loadD H 4 rfl 3 (by kernel_rfl) rfl ?_
  refine own_buildSlice (e := 9) (sz := 1) (z := .string ⟨#[]⟩) (cs := [.string (bs [103]), .string (bs [104, 103])]) H (by kernel_rfl) (by kernel_rfl) (by kernel_rfl) rfl rfl rfl rfl fun g6 w8 H => ?_
  replace H := H.blkSl (k := tStr) [[103], [104, 103]] 2 rfl rfl (by decide) (rows_strs [[103], [104, 103]])
  refine call_yes rfl (by kernel_rfl) (same_calls (H.dat 2 rfl) (H.dat 0 rfl) (by decide)) fun v w9 ⟨hv, hb⟩ => ?_
  subst hv
  replace H := H.call hb
  refine indexAddr_rule (e := 58) (kk := .i64) 2 0 (by kernel_rfl) (by kernel_rfl) (fun _ => by decide) ?_
  refine own_loadD H 3 rfl 1 (by kernel_rfl) rfl ?_
  refine own_buildSlice (e := 9) (sz := 1) (z := .string ⟨#[]⟩) (cs := [.string (bs [104, 103])]) H (by kernel_rfl) (by kernel_rfl) (by kernel_rfl) rfl rfl rfl rfl fun g7 w10 H => ?_
  replace H := H.blkSl (k := tStr) [[104, 103]] 1 rfl rfl (by decide) (rows_strs [[104, 103]])
  refine call_yes rfl (by kernel_rfl) (same_calls (H.dat 2 rfl) (H.dat 0 rfl) (by decide)) fun v w11 ⟨hv, hb⟩ => ?_
  subst hv
  replace H := H.call hb
  try refine nc ?_
  refine ret_of [.bool true] ⟨rfl, trivial⟩ ⟨_, rfl, rfl, H.frame⟩
end Go.Proofs.Ytgomlcfoifkdiaa.Cut
