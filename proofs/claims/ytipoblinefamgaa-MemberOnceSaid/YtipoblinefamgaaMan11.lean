/- Contracts of chapter 11's functions that were walked by hand, in the printed texts' words. -/
import Derived.Test.YtipoblinefamgaaCutWalk
import Derived.Test.YtipoblinefamgaaNumber
import Derived.Test.YtipoblinefamgaaGTypes
namespace Go.Proofs.Ytipoblinefamgaa.G
open Go.RowKit Go.Eng Go.Proofs Go.Proofs.Ytipoblinefamgaa.Cut
set_option linter.unusedVariables false
variable {ok : Nat → Prop} {w : World}

noncomputable def cut_Cut.f (x0 : List D_cut_Report) : Option (List D_cut_Part) :=
  givenM (x0.length ≤ 1000000000 ∧ (∀ r ∈ x0, r.2.2.length ≤ 1000000000) ∧ (cutM x0).length ≤ 1000000000 ∧ (∀ e ∈ cutM x0, e.2.length ≤ 8796093022208) ∧ ∀ r ∈ x0, ∀ g ∈ r.2.2, g.2.length ≤ 8796093022208) (some (cutL x0))
theorem cut_Cut_ok {u : Value} {x0 : List D_cut_Report} {r : List D_cut_Part} (hu : slR t_cut_Report w ok u x0) (h : cut_Cut.f x0 = some r) : Calls Try.prog 40 #[u] w fun e w' => ∃ v, e = .returned v ∧ (slR t_cut_Part w' (fun b => ok b ∨ w.heap.size ≤ b) v r ∧ Bel w.heap.size w w') := by
  obtain ⟨⟨h1, h2, h3, h4, h5⟩, h⟩ := givenS h
  cases h
  exact Cut_calls hu h1 h2 h3 h4 h5
noncomputable def cut_Missing.f (x0 : List D_cut_Part) (x1 : D_api_Id) (x2 : List D_cut_Log) : Option (List D_cut_Log) :=
  givenM (x0.length ≤ 1000000000 ∧ x2.length ≤ 1000000000 ∧ (∀ x ∈ x0, x.2.2.length ≤ 8796093022208) ∧ ∀ x ∈ x2, x.2.length ≤ 8796093022208) (some (missL x0 x1 x2))
theorem cut_Missing_ok {u v : Value} {x0 : List D_cut_Part} {x1 : D_api_Id} {x2 : List D_cut_Log} {r : List D_cut_Log} (hu : slR t_cut_Part w ok u x0) (hv : slR t_cut_Log w ok v x2) (h : cut_Missing.f x0 x1 x2 = some r) : Calls Try.prog 55 #[u, .agg #[.int .i64 x1.1, .int .i64 x1.2], v] w fun e w' => ∃ v, e = .returned v ∧ (slR t_cut_Log w' (fun b => ok b ∨ w.heap.size ≤ b) v r ∧ Bel w.heap.size w w') := by
  obtain ⟨⟨h1, h2, h3, h4⟩, h⟩ := givenS h
  cases h
  exact Missing_calls hu hv h1 h2 h3 h4
def view_Less.f (x0 x1 : D_api_Id) : Option Bool := some (idLt x0.1 x0.2 x1.1 x1.2)
theorem view_Less_ok {x0 x1 : D_api_Id} {r : Bool} (h : view_Less.f x0 x1 = some r) : Calls Try.prog 27 #[.agg #[.int .i64 x0.1, .int .i64 x0.2], .agg #[.int .i64 x1.1, .int .i64 x1.2]] w fun e w' => ∃ v, e = .returned v ∧ (v = .bool r ∧ Bel w.heap.size w w') := by
  cases h
  exact Less_calls _ _ _ _ w
def term_Number.f (x0 : Int) : Option (List UInt8) := some (countedT 117 x0)
theorem term_Number_ok {x0 : Int} {r : List UInt8} (h : term_Number.f x0 = some r) : Calls Try.prog 15 #[.int .u64 x0] w fun e w' => ∃ v, e = .returned v ∧ (v = .string (bs r) ∧ Bel w.heap.size w w') := by
  cases h
  exact number_calls _ w
end Go.Proofs.Ytipoblinefamgaa.G
