/- The engine's rule for structs that are compared (==, !=), over any program: what comes of it is reckoned field by field. -/
import Derived.Test.YtipoblinefamgaaMore
import Derived.Laws.StructEq
set_option linter.unusedVariables false
namespace Go.Eng
open Go.RowKit
set_option linter.unusedSectionVars false
variable [Inhabited Keep] [Inhabited Hard]

def partB (P : Program) (t : TypeId) (xs : List Value) (off : Nat) : Option Value :=
  match aggB P t with
  | some true => match sizeB P t with
    | some n => some (.agg ((xs.drop off).take n).toArray)
    | none => none
  | some false => xs[off]?
  | none => none
/-- Whether two values are one, as far as it can be reckoned; the fields by a list. -/
def eqFs (P : Program) (eq : TypeId → Value → Value → Option Bool) (xs ys : List Value) : List Field → Option Bool
  | [] => some true
  | f :: fs => match (f.name == "_") with
    | true => none
    | false => match partB P f.type xs f.offset, partB P f.type ys f.offset with
      | some a, some b => match eq f.type a b with
        | some r => match fs with
          | [] => some r
          | _ => match eqFs P eq xs ys fs with
            | some s => some (r && s)
            | none => none
        | none => none
      | _, _ => none
def eqB (P : Program) : Nat → TypeId → Value → Value → Option Bool
  | 0, _, _, _ => none
  | d + 1, t, x, y => match P.underlying t, x, y with
    | some .bool, .bool a, .bool b => some (a == b)
    | some (.int k0), .int k a, .int k' b => match k, k' with
      | .i64, .i64 => some (a == b)
      | .u64, .u64 => some (a == b)
      | .u8, .u8 => some (a == b)
      | .i32, .i32 => some (a == b)
      | _, _ => none
    | some .string, .string a, .string b => some (a == b)
    | some (.struct fs), .agg xs, .agg ys => match P.stoodInHeld t with
      | true => none
      | false => eqFs P (eqB P d) xs.toList ys.toList fs.toList
    | _, _, _ => none

section
variable {P : Program} {w : World}
theorem run_part {t : TypeId} {xs : Array Value} {off : Nat} {v : Value} (h : partB P t xs.toList off = some v) : (part t xs off).run P w = .ok v w := by
  unfold partB at h
  split at h
  · rename_i ha
    split at h
    · rename_i n hs
      cases h
      unfold part
      simp only [Sem.run_bind, run_isAgg ha, Result.andThen_ok, if_true, run_sizeOf hs, Sem.run_pure]
      congr 2
      apply Array.ext'
      simp [List.extract_eq_take_drop]
    · cases h
  · rename_i ha
    unfold part
    have h' : xs[off]? = some v := by simpa using h
    simp only [Sem.run_bind, run_isAgg ha, Result.andThen_ok, h']
    rfl
  · cases h
theorem run_eqB : ∀ (d D : Nat) (t : TypeId) (x y : Value) (r : Bool), d ≤ D → eqB P d t x y = some r → (Op.equalIn D t x y).run P w = .ok r w := by
  intro d
  induction d with
  | zero => intro D t x y r _ h; simp [eqB] at h
  | succ d ih =>
    intro D t x y r hD h
    obtain ⟨D, rfl⟩ : ∃ D', D = D' + 1 := ⟨D - 1, by omega⟩
    unfold eqB at h
    split at h
    · rename_i hu; cases h; unfold Op.equalIn; rw [Sem.run_bind, run_underlying hu]; rfl
    · rename_i hu
      split at h
      all_goals first | (cases h; unfold Op.equalIn; rw [Sem.run_bind, run_underlying hu]; rfl) | (cases h; done)
    · rename_i hu; cases h; unfold Op.equalIn; rw [Sem.run_bind, run_underlying hu]; rfl
    · rename_i fs xs ys hu
      split at h
      · cases h
      · rename_i hp
        have hf : P.fieldsOf t = fs := by simp [Program.fieldsOf, hu]
        rw [run_equalIn_struct (P := P) w D t xs ys (by rw [hf]; exact hu) hp, hf]
        have key : ∀ (l : List Field) (r : Bool), eqFs P (eqB P d) xs.toList ys.toList l = some r → (Op.eqFields D xs ys l).run P w = .ok r w := by
          intro l
          induction l with
          | nil => intro r h; cases h; rfl
          | cons f l ihl =>
            intro r h
            simp only [eqFs] at h
            split at h
            · cases h
            · rename_i hn
              have hn' : f.name ≠ "_" := by simpa using hn
              split at h
              · rename_i a b ha hb
                split at h
                · rename_i r1 hr1
                  have e := ih D _ _ _ _ (by omega) hr1
                  rw [Op.eqFields]
                  simp only [if_pos hn', Sem.run_bind, run_part ha, run_part hb, e, Result.andThen_ok]
                  split at h
                  · cases h
                    cases r <;> simp [Op.eqFields]
                  · split at h
                    · rename_i s hs
                      cases h
                      cases r1
                      · simp
                      · simpa using ihl _ hs
                    · cases h
                · cases h
              · cases h
        exact key _ _ h
    · cases h
variable {K : Value → World → Prop} {KF : Value → Prop} {g : Bool}
def noGuard (P : Program) (t : TypeId) (x y : Value) : Bool := match x, y with
  | .agg _, .agg _ => !P.eqGuardType P.depth t
  | .nilIface, .nilIface => false
  | _, _ => true
theorem run_guard {op : BinOp} {t : TypeId} {xo yo : Operand} {x y : Value} (h : noGuard P t x y = true) : (eqGuard op t xo yo x y).run P w = .ok () w := by
  unfold eqGuard
  by_cases hop : (op matches .eql | .neq) = true
  · unfold noGuard at h
    split at h
    · have h' : P.eqGuardType P.depth t = false := by simpa using h
      cases op <;> simp at hop <;> simp [run_program, h', Sem.run_bind]
    · cases h
    · rename_i hn1 hn2
      cases op <;> simp at hop <;> (cases x <;> first | rfl | (cases y <;> first | rfl | exact (hn1 _ _ rfl rfl).elim | exact (hn2 rfl rfl).elim))
  · cases op <;> first | rfl | exact absurd rfl hop
theorem eql_run {t : TypeId} {xo yo : Operand} {xs ys : Array Value} (d : Nat) (hd : d ≤ 10000) (r : Bool) (hg : noGuard P t (.agg xs) (.agg ys) = true) (h : eqB P d t (.agg xs) (.agg ys) = some r) : (sv (do eqGuard .eql t xo yo (.agg xs) (.agg ys); binOp .eql t (.agg xs) (.agg ys))).run P w = .ok (.value (.bool r)) w := by
  refine sv_run ?_
  have e : (Op.equal t (.agg xs) (.agg ys)).run P w = .ok r w := run_eqB d _ t _ _ r hd h
  have e2 : (binOp .eql t (.agg xs) (.agg ys)).run P w = .ok (.bool r) w := by
    have : binOp .eql t (.agg xs) (.agg ys) = (do pure (Value.bool (← Op.equal t (.agg xs) (.agg ys)))) := rfl
    rw [this, Sem.run_bind, e]; rfl
  rw [Sem.run_bind, run_guard hg, Result.andThen_ok, e2]
theorem neq_run {t : TypeId} {xo yo : Operand} {xs ys : Array Value} (d : Nat) (hd : d ≤ 10000) (r : Bool) (hg : noGuard P t (.agg xs) (.agg ys) = true) (h : eqB P d t (.agg xs) (.agg ys) = some r) : (sv (do eqGuard .neq t xo yo (.agg xs) (.agg ys); binOp .neq t (.agg xs) (.agg ys))).run P w = .ok (.value (.bool (!r))) w := by
  refine sv_run ?_
  have e : (Op.equal t (.agg xs) (.agg ys)).run P w = .ok r w := run_eqB d _ t _ _ r hd h
  have e2 : (binOp .neq t (.agg xs) (.agg ys)).run P w = .ok (.bool (!r)) w := by
    have : binOp .neq t (.agg xs) (.agg ys) = (do pure (Value.bool (!(← Op.equal t (.agg xs) (.agg ys))))) := rfl
    rw [this, Sem.run_bind, e]; rfl
  rw [Sem.run_bind, run_guard hg, Result.andThen_ok, e2]
theorem eql_rule {t : TypeId} {xo yo : Operand} {xs ys : Array Value} (r : Bool) (hg : g = true → noGuard P t (.agg xs) (.agg ys) = true) (h : g = true → eqB P 8 t (.agg xs) (.agg ys) = some r) (hk : K (.bool r) w) : nBin P g .eql t xo yo (.agg xs) (.agg ys) w K := by
  unfold nBin; exact nOp_now (fun hg' => eql_run 8 (by decide) r (hg hg') (h hg')) hk
theorem neq_rule {t : TypeId} {xo yo : Operand} {xs ys : Array Value} (r : Bool) (hg : g = true → noGuard P t (.agg xs) (.agg ys) = true) (h : g = true → eqB P 8 t (.agg xs) (.agg ys) = some r) (hk : K (.bool (!r)) w) : nBin P g .neq t xo yo (.agg xs) (.agg ys) w K := by
  unfold nBin; exact nOp_now (fun hg' => neq_run 8 (by decide) r (hg hg') (h hg')) hk
theorem c_eql {C : World → Prop} {t : TypeId} {xo yo : Operand} {xs ys : Array Value} (r : Bool) (hg : g = true → noGuard P t (.agg xs) (.agg ys) = true) (h : g = true → eqB P 8 t (.agg xs) (.agg ys) = some r) (hk : KF (.bool r)) : cBin P g .eql t xo yo (.agg xs) (.agg ys) C KF := by
  unfold cBin; exact cFloat_in _ (fun hg' w _ => eql_run 8 (by decide) r (hg hg') (h hg')) hk
theorem c_neq {C : World → Prop} {t : TypeId} {xo yo : Operand} {xs ys : Array Value} (r : Bool) (hg : g = true → noGuard P t (.agg xs) (.agg ys) = true) (h : g = true → eqB P 8 t (.agg xs) (.agg ys) = some r) (hk : KF (.bool (!r))) : cBin P g .neq t xo yo (.agg xs) (.agg ys) C KF := by
  unfold cBin; exact cFloat_in _ (fun hg' w _ => neq_run 8 (by decide) r (hg hg') (h hg')) hk
end
end Go.Eng
