/- RekeySecret, as it is reckoned: the law. -/
import Derived.Test.YtfapphlhkfddoaaGreatDoorSized
import Derived.Test.YtfapphlhkfddoaaGreatDoorSecB
import Derived.KernelRfl
namespace Go.Proofs.YtfapphlhkfddoaaGreatDoor.G
open Go.RowKit Go.Eng Go.Proofs Go.Proofs.YtfapphlhkfddoaaGreatDoor.Cut
set_option linter.unusedVariables false
set_option linter.unusedSimpArgs false
theorem wrap_in (x : Int) : inI64 (IntKind.i64.wrap x) := by
  have e : IntKind.i64.wrap x = if x % 18446744073709551616 ≥ 9223372036854775808 then x % 18446744073709551616 - 18446744073709551616 else x % 18446744073709551616 := by
    simp [IntKind.wrap, IntKind.bits, IntKind.signed]
  unfold inI64
  rw [e]
  split <;> omega
end Go.Proofs.YtfapphlhkfddoaaGreatDoor.G
namespace Go.Proofs.YtfapphlhkfddoaaGreatDoor.G
open Go.RowKit Go.Eng Go.Proofs Go.Proofs.YtfapphlhkfddoaaGreatDoor.Cut
set_option linter.unusedVariables false
set_option linter.unusedSimpArgs false
section
variable {T : Tr} {V W : D_api_View} {o : Nat → O_rekey_Round}
theorem heard_known (hv : ViewOk T V) {f : Int} {dl : List D_list_Message} (h : ∀ x ∈ dl, toldBy T V f o x) : ∀ t ∈ dl.flatMap termsOf, knownT T W t := by
  intro t ht
  obtain ⟨x, hx, ht⟩ := List.mem_flatMap.1 ht
  obtain ⟨i, hi, ⟨n, hn, rfl⟩ | ⟨rfl, hb⟩⟩ := h x hx
  · have hn' := List.mem_of_mem_take hn
    obtain ⟨_, _, _, _, _, h5⟩ := duty_nodes hv (mAt_path hi)
    obtain ⟨_, h6, h7, S, h8⟩ := h5 n hn'
    have ht : t ∈ [textT n, blT T f n] := ht
    rcases List.mem_cons.1 ht with q | q
    · exact .inl ⟨n, by omega, q⟩
    · rw [List.mem_singleton.1 q]
      exact .inr (.inl ⟨f, n, S, h8, by show 101 :: 1 :: secAt T (nmS T f) n = _; rw [secAt_in h8]⟩)
  · have ht : t ∈ [markT (keyT T V f) (mAt T i)] := ht
    rw [List.mem_singleton.1 ht]
    exact .inr (.inr (.inl ⟨V, f, _, hv, rfl⟩))
def secL (T : Tr) (f : Int) (i : Nat) : List Tx1 := (upT (pth T (mAt T i))).map (secAt T (nmS T f))
theorem secL_len (hv : ViewOk T V) (f : Int) {i : Nat} (hi : i < nN T) : (secL T f i).length ≤ 8 := by
  have h8 := leaves_eight hv.ok hv.nd
  have := pathL_len T _ _ (mAt_path hi)
  unfold secL
  rw [List.length_map, up_len]; omega
theorem secL_in (hv : ViewOk T V) (f : Int) {i : Nat} (hi : i < nN T) : ∀ t ∈ secL T f i, ∃ n S, subT T n = some S ∧ t = secT (nmS T f) S := by
  intro t ht
  obtain ⟨n, hn, rfl⟩ := List.mem_map.1 ht
  obtain ⟨j, hj, rfl⟩ := List.mem_map.1 (show n ∈ (List.range ((pth T (mAt T i)).length + 1)).map fun j => (pth T (mAt T i)).take ((pth T (mAt T i)).length - j) from hn)
  obtain ⟨S, hs, _⟩ := path_node (mAt_path hi) ((pth T (mAt T i)).length - j)
  exact ⟨_, S, hs, secAt_in hs⟩
theorem secrets_end (hv : ViewOk T V) {f : Int} {P : Nat → Prop} (h : SysOk T V f P o []) (hP : ∀ i, P i) {i : Nat} (hi : i < nN T) : rekey_Round_Secrets.f (o i) = some (secL T f i) := by
  rw [secrets_is hv (h.mem i hi).rk (mAt_path hi), end_full hv h hP hi, List.take_of_length_le (by rw [List.length_map, up_len]; omega)]
  rfl
theorem osL_same4 {o : Nat → O_rekey_Round} {N i : Nat} (h : i < N) : (osL o N).set i (some (o i)) = osL o N := by
  rw [osL_set o h]
  congr 1
  funext k
  unfold updO
  split
  · rename_i e; rw [e]
  · rfl
theorem flat_len (hv : ViewOk T V) (f : Int) : ∀ {k : Nat}, k ≤ nN T → ((List.range k).flatMap (secL T f)).length ≤ 8 * k := by
  intro k
  induction k with
  | zero => intro _; simp
  | succ k ih =>
    intro hk
    have h1 := ih (by omega)
    have h2 := secL_len hv f (show k < nN T by omega)
    rw [List.range_succ, List.flatMap_append, List.length_append]
    simp only [List.flatMap_cons, List.flatMap_nil, List.append_nil]
    omega
theorem sec_loop1 (hw : ViewOk T W) {P : Nat → Prop} (h : SysOk T W 200 P o []) (hP : ∀ i, P i) {vv ww : D_api_View} {ka kb : Tx1 × Bool} {RA : List (Option O_rekey_Round)} {known : List Tx1} (hkn : known.length ≤ 3000) :
    loopM (fun s766 : (List (Option O_rekey_Round)) × (List (List UInt8)) × (List (Option O_rekey_Round)) × Int => gemotlaw16_RekeySecret.b1 vv ww ka kb s766.1 s766.2.1 s766.2.2.1 s766.2.2.2) (RA, known, osL o (nN T), (0 : Int)) = some (RA, known ++ (List.range (nN T)).flatMap (secL T 200)) := by
  have h8 := nN_le hw
  have := loop_count (body := fun s766 : (List (Option O_rekey_Round)) × (List (List UInt8)) × (List (Option O_rekey_Round)) × Int => gemotlaw16_RekeySecret.b1 vv ww ka kb s766.1 s766.2.1 s766.2.2.1 s766.2.2.2) (fun i => (RA, known ++ (List.range i).flatMap (secL T 200), osL o (nN T), (i : Int))) (nN T) (fun i hi => ?_) (o := (RA, known ++ (List.range (nN T)).flatMap (secL T 200))) ?_
  · simpa using this
  · show gemotlaw16_RekeySecret.b1 vv ww ka kb RA (known ++ (List.range i).flatMap (secL T 200)) (osL o (nN T)) (i : Int) = _
    have h1 := flat_len hw 200 (show i ≤ nN T by omega)
    have h2 := secL_len hw 200 hi
    unfold gemotlaw16_RekeySecret.b1
    rw [osL_len, cond_t (by omega), osL_get o hi, Option.bind_some, Option.bind_some, secrets_end hw h hP hi, Option.bind_some, room_of (by rw [List.length_append]; omega), show ((i : Int)).toNat = i from rfl, osL_same4 hi, wrap1 i (by omega), List.range_succ, List.flatMap_append, List.append_assoc]
    simp
  · show gemotlaw16_RekeySecret.b1 vv ww ka kb RA _ (osL o (nN T)) ((nN T : Nat) : Int) = _
    unfold gemotlaw16_RekeySecret.b1
    rw [osL_len, cond_f (by omega)]
theorem sec_loop2 {vv ww : D_api_View} {ka kb : Tx1 × Bool} {C : List Tx1} {v : Int} {s : List Tx1} {RA : List (Option O_rekey_Round)} (hl : s.length ≤ 1000) (hd : ∀ t ∈ s, know_Derives.f C t = some false) :
    loopM (fun s2961 : (List (Option O_rekey_Round)) × Int => gemotlaw16_RekeySecret.b2 vv ww ka kb C v s s2961.1 s2961.2) (RA, (0 : Int)) = some (.inl RA) := by
  refine loop_count (fun i => (RA, (i : Int))) s.length (fun i hi => ?_) ?_
  · show gemotlaw16_RekeySecret.b2 vv ww ka kb C v s RA (i : Int) = _
    unfold gemotlaw16_RekeySecret.b2
    rw [cond_t (by omega), idxL_lt hi, Option.bind_some, hd _ (List.getElem_mem hi), Option.bind_some, cond_false, wrap1 i (by omega)]
  · show gemotlaw16_RekeySecret.b2 vv ww ka kb C v s RA (s.length : Int) = _
    unfold gemotlaw16_RekeySecret.b2
    rw [cond_f (by omega)]
theorem sec_loop4 (hv : ViewOk T V) {P : Nat → Prop} (h : SysOk T V 100 P o []) (hP : ∀ i, P i) {vv ww : D_api_View} {ka kb : Tx1 × Bool} {C : List Tx1} (hd : ∀ n S, subT T n = some S → know_Derives.f C (secT (nmS T 100) S) = some false) :
    loopM (fun s2715 : (List (Option O_rekey_Round)) × Int => gemotlaw16_RekeySecret.b4 vv ww ka kb C s2715.1 s2715.2) (osL o (nN T), (0 : Int)) = some (.inl ()) := by
  have h8 := nN_le hv
  refine loop_count (fun i => (osL o (nN T), (i : Int))) (nN T) (fun i hi => ?_) ?_
  · show gemotlaw16_RekeySecret.b4 vv ww ka kb C (osL o (nN T)) (i : Int) = _
    have h2 := secL_len hv 100 hi
    unfold gemotlaw16_RekeySecret.b4
    rw [osL_len, cond_t (by omega), osL_get o hi, Option.bind_some, Option.bind_some, secrets_end hv h hP hi, Option.bind_some, show ((i : Int)).toNat = i from rfl, osL_same4 hi, sec_loop2 (by omega) (fun t ht => by
      obtain ⟨n, S, hs, rfl⟩ := secL_in hv 100 hi t ht
      exact hd n S hs), Option.bind_some]
    show gemotlaw16_RekeySecret.k3 vv ww ka kb C (i : Int) (osL o (nN T)) = _
    unfold gemotlaw16_RekeySecret.k3
    rw [wrap1 i (by omega)]
  · show gemotlaw16_RekeySecret.b4 vv ww ka kb C (osL o (nN T)) ((nN T : Nat) : Int) = _
    unfold gemotlaw16_RekeySecret.b4
    rw [osL_len, cond_f (by omega)]
end
theorem same10 {l : List Int} (hl : l.length ≤ 1000) : gemotref10_Same.f l l = some true := by
  unfold gemotref10_Same.f
  rw [bne_self_eq_false, cond_false]
  have : loopM (fun s237 : Int => gemotref10_Same.b1 l l s237) (0 : Int) = some (.inl ()) := by
    refine loop_count (fun i => (i : Int)) l.length (fun i hi => ?_) ?_
    · show gemotref10_Same.b1 l l (i : Int) = _
      unfold gemotref10_Same.b1
      rw [cond_t (by omega), idxL_lt hi, Option.bind_some, Option.bind_some, bne_self_eq_false, cond_false, wrap1 i (by omega)]
    · show gemotref10_Same.b1 l l (l.length : Int) = _
      unfold gemotref10_Same.b1
      rw [cond_f (by omega)]
  rw [this]
  rfl
theorem secret_law {x0 x1 x2 : Int} (h1 : inI64 x1) (h2 : inI64 x2) {x3 : List Int} (h3 : ∀ x ∈ x3, inI64 x) : gemotlaw16_RekeySecret.f x0 x1 x2 x3 = some true := by
  obtain ⟨ms, hm, hof⟩ := of_is (x0 := andI .i64 x0 (63 : Int)) (wrap_in _)
  obtain ⟨e, h, hV, hh, he0, he1⟩ := hof x1 h1
  obtain ⟨e', h', hW, hh', he0', he1'⟩ := hof x2 h2
  unfold gemotlaw16_RekeySecret.f
  rw [shown16, Option.bind_some, Bool.not_true]
  by_cases hl : (x3.length : Int) > (60 : Int)
  · rw [decide_eq_true hl]; rfl
  rw [decide_eq_false hl]
  show ((gemotlaw16_of.f (andI .i64 x0 (63 : Int)) x1).bind _) = _
  have he : 0 ≤ e ∧ e ≤ 1000 := ⟨he0, by omega⟩
  have he' : 0 ≤ e' ∧ e' ≤ 1000 := ⟨he0', by omega⟩
  have hv := view_of hm hh he
  have hw := view_of hm hh' he'
  rw [hV, Option.bind_some, hW, Option.bind_some]
  dsimp only
  by_cases hid : ((e == e') && (h == h')) = true
  · rw [hid, cond_true]
  rw [Bool.eq_false_iff.2 hid, cond_false]
  obtain ⟨o, dl, a1, a2, a3, a4⟩ := all_is hm hh he (first := 100) h3 (by omega)
  obtain ⟨p, dp, b1, b2, b3, b4⟩ := all_is hm hh' he' (first := 200) (order := []) (fun x hx => by cases hx) (by simp)
  have hms : memS (buildT ms) = ms := buildT_ms hm
  have hN : nN (buildT ms) = ms.length := by show (memS (buildT ms)).length = _; rw [hms]
  have hp : 0 < nN (buildT ms) := by
    show 0 < (memS (buildT ms)).length
    rw [hms]
    exact List.length_pos_iff.2 hm.ne
  have h8 := nN_le hv
  have hP : ∀ i : Nat, (fun _ => True) i := fun _ => trivial
  have hdl : dl.length ≤ 448 := by
    have := a4 1 1
    rw [sumW_one] at this
    have := allW_le hv
    omega
  have hdp : dp.length ≤ 448 := by
    have := b4 1 1
    rw [sumW_one] at this
    have := allW_le hw
    omega
  have hhl := heard_len dl fun x hx => toldBy_terms (a3 x hx)
  have hhp := heard_len dp fun x hx => toldBy_terms (b3 x hx)
  have g1 := heard_known (W := ((e', h'), ms)) hv a3
  have g2 := heard_known (W := ((e', h'), ms)) hw b3
  rw [a1, Option.bind_some, b1, Option.bind_some]
  dsimp only
  have hz : ∀ o : Nat → O_rekey_Round, (((osL o (nN (buildT ms))).length : Int) == (0 : Int)) = false := fun o => by rw [osL_len]; exact beq_eq_false_iff_ne.2 (by omega)
  have hk0 : ∀ o : Nat → O_rekey_Round, idxL (osL o (nN (buildT ms))) (0 : Int) = some (some (o 0)) := fun o => osL_get o hp
  rw [hz, hz]
  show (cond false _ _) = _
  rw [cond_false, hk0, Option.bind_some, Option.bind_some, end_key hv a2 hP hp, Option.bind_some, hk0, Option.bind_some, Option.bind_some, end_key hw b2 hP hp, Option.bind_some]
  generalize dl.flatMap termsOf = A at hhl g1
  generalize dp.flatMap termsOf = B at hhp g2
  rw [room_of (by omega), room_of (by rw [List.length_append]; omega), show ((0 : Int)).toNat = 0 from rfl, osL_same4 hp, osL_same4 hp]
  rw [sec_loop1 hw b2 hP (by simp; omega), Option.bind_some]
  have hfl := flat_len hw 200 (Nat.le_refl (nN (buildT ms)))
  dsimp only
  obtain ⟨C, c1, c2, c3, c4⟩ := derive_two (l := (A ++ B ++ [keyT (buildT ms) ((e', h'), ms) 200]) ++ (List.range (nN (buildT ms))).flatMap (secL (buildT ms) 200)) hv hw (by simp only [List.length_append, List.length_singleton]; omega) (fun t ht => by
    rcases List.mem_append.1 ht with q | q
    · rcases List.mem_append.1 q with q | q
      · rcases List.mem_append.1 q with q | q
        · exact g1 t q
        · exact g2 t q
      · exact .inr (.inr (.inr (.inl (List.mem_singleton.1 q))))
    · obtain ⟨i, hi, q⟩ := List.mem_flatMap.1 q
      exact .inr (.inr (.inr (.inr (secL_in hw 200 (List.mem_range.1 hi) t q))))) (by simp)
  unfold gemotlaw16_RekeySecret.k7
  rw [c1, Option.bind_some, sec_loop4 hv a2 hP c2, Option.bind_some]
  show gemotlaw16_RekeySecret.k6 _ _ _ _ _ = _
  unfold gemotlaw16_RekeySecret.k6
  dsimp only
  have hne : strEq (keyT (buildT ms) ((e, h), ms) 100) (keyT (buildT ms) ((e', h'), ms) 200) = false := by
    rw [strEq_eq]
    refine decide_eq_false fun q => ?_
    have h9 := leaves_eight hv.ok hv.nd
    have hl : ms.length ≤ 100 := by omega
    exact sec_apart2 hv.ok hv.nd (subT_nil _) (subT_nil _) (group_inj (v := ((e, h), ms)) (v' := ((e', h'), ms)) hl hl q).2
  rw [hne, c3, Option.bind_some, c4, Option.bind_some, same10 (by omega), Option.bind_some]
  rfl
theorem secret_row {ok : Nat → Prop} {w : World} {u3 : Value} {x0 x1 x2 : Int} {x3 : List Int} (hu : slR (tInt .i64) w ok u3 x3) (h3 : ∀ x ∈ x3, inI64 x) (h1 : inI64 x1) (h2 : inI64 x2) :
    Calls Tryz.prog 8 #[.int .i64 x0, .int .i64 x1, .int .i64 x2, u3] w fun e w' => ∃ r, e = .returned r ∧ r = .bool true ∧ Below w.heap.size w w' :=
  (gemotlaw16_RekeySecret_ok hu (secret_law h1 h2 h3)).mono fun e w' ⟨v, h1, h2, h3⟩ => ⟨v, h1, h2, h3.toBelow⟩
end Go.Proofs.YtfapphlhkfddoaaGreatDoor.G
