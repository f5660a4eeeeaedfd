/- The shelf's laying of a generic library function at this program: as the kit's command spells it. -/
import Derived.Shelf.Lays
import Derived.Test.YtfapphlhkfddoaaGreatDoorChecked
import Derived.KernelRfl
import Derived.Test.YtfapphlhkfddoaaGreatDoorEqual
import Derived.Shelf.Sort.Plain
import Derived.Test.YtfapphlhkfddoaaGreatDoorH1
import Derived.Room.Shelf.Join48
import Derived.Shelf.Small.Strs
import Derived.Shelf.SlLaysF
import Derived.Shelf.SlSortCmp.NoneTotal
import Derived.Shelf.Strconv.Itoa3
namespace Go.Proofs
open Go.Shelf
def Tryz.sortI_ren : Go.Shelf.Ren := ⟨fun | 189 => 96 | 125 => 106 | 257 => 124 | 128 => 137 | 129 => 138 | 294 => 164 | 295 => 165 | 296 => 166 | 297 => 167 | 298 => 168 | 299 => 169 | 216 => 170 | 300 => 171 | 301 => 172 | 328 => 207 | 329 => 179 | 330 => 180 | 331 => 208 | 332 => 209 | 215 => 195 | 343 => 221 | n => n, fun | 28 => 22 | 3 => 3 | 46 => 152 | 0 => 0 | 51 => 189 | 53 => 23 | 4 => 4 | 183 => 181 | 182 => 180 | 131 => 186 | 5 => 5 | 9 => 9 | 218 => 223 | 222 => 227 | 228 => 249 | 229 => 250 | n => n, fun | n => n⟩
theorem Tryz.sortI : Go.Proofs.Lays.n189 Tryz.prog Tryz.sortI_ren := {
  mixed := by kernel_rfl,
  f125 := Tryz.func106.trans (congrArg some (by kernel_rfl)),
  f128 := Tryz.func137.trans (congrArg some (by kernel_rfl)),
  f129 := Tryz.func138.trans (congrArg some (by kernel_rfl)),
  f189 := Tryz.func96.trans (congrArg some (by kernel_rfl)),
  f215 := Tryz.func195.trans (congrArg some (by kernel_rfl)),
  f216 := Tryz.func170.trans (congrArg some (by kernel_rfl)),
  f257 := Tryz.func124.trans (congrArg some (by kernel_rfl)),
  f294 := Tryz.func164.trans (congrArg some (by kernel_rfl)),
  f295 := Tryz.func165.trans (congrArg some (by kernel_rfl)),
  f296 := Tryz.func166.trans (congrArg some (by kernel_rfl)),
  f297 := Tryz.func167.trans (congrArg some (by kernel_rfl)),
  f298 := Tryz.func168.trans (congrArg some (by kernel_rfl)),
  f299 := Tryz.func169.trans (congrArg some (by kernel_rfl)),
  f300 := Tryz.func171.trans (congrArg some (by kernel_rfl)),
  f301 := Tryz.func172.trans (congrArg some (by kernel_rfl)),
  f328 := Tryz.func207.trans (congrArg some (by kernel_rfl)),
  f329 := Tryz.func179.trans (congrArg some (by kernel_rfl)),
  f330 := Tryz.func180.trans (congrArg some (by kernel_rfl)),
  f331 := Tryz.func208.trans (congrArg some (by kernel_rfl)),
  f332 := Tryz.func209.trans (congrArg some (by kernel_rfl)),
  f343 := Tryz.func221.trans (congrArg some (by kernel_rfl)),
  t0 := Tryz.underlying0,
  a0 := Tryz.isAgg0,
  z0 := Tryz.sizeOf0,
  v0 := Tryz.zeroValue0,
  t3 := Tryz.underlying3,
  a3 := Tryz.isAgg3,
  z3 := Tryz.sizeOf3,
  v3 := Tryz.zeroValue3,
  t4 := Tryz.underlying4,
  a4 := Tryz.isAgg4,
  z4 := Tryz.sizeOf4,
  v4 := Tryz.zeroValue4,
  t5 := Tryz.underlying5,
  a5 := Tryz.isAgg5,
  z5 := Tryz.sizeOf5,
  v5 := Tryz.zeroValue5,
  t9 := Tryz.underlying9,
  a9 := Tryz.isAgg9,
  z9 := Tryz.sizeOf9,
  v9 := Tryz.zeroValue9,
  t28 := Tryz.underlying22,
  a28 := Tryz.isAgg22,
  z28 := Tryz.sizeOf22,
  v28 := Tryz.zeroValue22,
  t46 := Tryz.underlying152,
  a46 := Tryz.isAgg152,
  z46 := Tryz.sizeOf152,
  v46 := Tryz.zeroValue152,
  t51 := Tryz.underlying189,
  a51 := Tryz.isAgg189,
  z51 := Tryz.sizeOf189,
  v51 := Tryz.zeroValue189,
  t53 := Tryz.underlying23,
  a53 := Tryz.isAgg23,
  z53 := Tryz.sizeOf23,
  v53 := Tryz.zeroValue23,
  t131 := Tryz.underlying186,
  a131 := Tryz.isAgg186,
  z131 := Tryz.sizeOf186,
  v131 := Tryz.zeroValue186,
  t182 := Tryz.underlying180,
  a182 := Tryz.isAgg180,
  z182 := Tryz.sizeOf180,
  v182 := Tryz.zeroValue180,
  t183 := Tryz.underlying181,
  a183 := Tryz.isAgg181,
  z183 := Tryz.sizeOf181,
  v183 := Tryz.zeroValue181,
  t218 := Tryz.underlying223,
  a218 := Tryz.isAgg223,
  z218 := Tryz.sizeOf223,
  v218 := Tryz.zeroValue223,
  t222 := Tryz.underlying227,
  a222 := Tryz.isAgg227,
  z222 := Tryz.sizeOf227,
  v222 := Tryz.zeroValue227,
  t228 := Tryz.underlying249,
  a228 := Tryz.isAgg249,
  z228 := Tryz.sizeOf249,
  v228 := Tryz.zeroValue249,
  t229 := Tryz.underlying250,
  a229 := Tryz.isAgg250,
  z229 := Tryz.sizeOf250,
  v229 := Tryz.zeroValue250 }
end Go.Proofs
/- slices.Sort at numbers and at texts: the kit's contracts, at this program. -/
namespace Go.Proofs.YtfapphlhkfddoaaGreatDoor.G
open Go.RowKit Go.Eng Go.Proofs Go.Sort
def sortZ (l : List Int) : List Int := l.mergeSort fun x y => decide (x ≤ y)
theorem sortZ_len (l : List Int) : (sortZ l).length = l.length := (List.mergeSort_perm _ _).length_eq
theorem sortI_at : SortsAt Tryz.prog 96 (Value.int .i64) sortZ := fun blk off cap zs w hH hb hs => Any.slices_Sort_int Tryz.sortI blk off cap zs w hH hb hs
end Go.Proofs.YtfapphlhkfddoaaGreatDoor.G
/- The shelf's laying of a generic library function at this program: as the kit's command spells it. -/
namespace Go.Proofs
open Go.Shelf
def Tryz.sortS_ren : Go.Shelf.Ren := ⟨fun | 190 => 81 | 125 => 106 | 258 => 114 | 128 => 137 | 129 => 138 | 302 => 150 | 303 => 151 | 304 => 152 | 305 => 153 | 306 => 154 | 307 => 155 | 308 => 156 | 309 => 157 | 310 => 158 | 333 => 197 | 329 => 179 | 330 => 180 | 334 => 198 | 335 => 199 | 336 => 200 | 344 => 216 | n => n, fun | 31 => 72 | 9 => 9 | 3 => 3 | 46 => 152 | 0 => 0 | 51 => 189 | 53 => 23 | 4 => 4 | 183 => 181 | 182 => 180 | 131 => 186 | 5 => 5 | 218 => 223 | 222 => 227 | 228 => 249 | 229 => 250 | n => n, fun | n => n⟩
theorem Tryz.sortS : Go.Proofs.Lays.n190 Tryz.prog Tryz.sortS_ren := {
  mixed := by kernel_rfl,
  f125 := Tryz.func106.trans (congrArg some (by kernel_rfl)),
  f128 := Tryz.func137.trans (congrArg some (by kernel_rfl)),
  f129 := Tryz.func138.trans (congrArg some (by kernel_rfl)),
  f190 := Tryz.func81.trans (congrArg some (by kernel_rfl)),
  f258 := Tryz.func114.trans (congrArg some (by kernel_rfl)),
  f302 := Tryz.func150.trans (congrArg some (by kernel_rfl)),
  f303 := Tryz.func151.trans (congrArg some (by kernel_rfl)),
  f304 := Tryz.func152.trans (congrArg some (by kernel_rfl)),
  f305 := Tryz.func153.trans (congrArg some (by kernel_rfl)),
  f306 := Tryz.func154.trans (congrArg some (by kernel_rfl)),
  f307 := Tryz.func155.trans (congrArg some (by kernel_rfl)),
  f308 := Tryz.func156.trans (congrArg some (by kernel_rfl)),
  f309 := Tryz.func157.trans (congrArg some (by kernel_rfl)),
  f310 := Tryz.func158.trans (congrArg some (by kernel_rfl)),
  f329 := Tryz.func179.trans (congrArg some (by kernel_rfl)),
  f330 := Tryz.func180.trans (congrArg some (by kernel_rfl)),
  f333 := Tryz.func197.trans (congrArg some (by kernel_rfl)),
  f334 := Tryz.func198.trans (congrArg some (by kernel_rfl)),
  f335 := Tryz.func199.trans (congrArg some (by kernel_rfl)),
  f336 := Tryz.func200.trans (congrArg some (by kernel_rfl)),
  f344 := Tryz.func216.trans (congrArg some (by kernel_rfl)),
  t0 := Tryz.underlying0,
  a0 := Tryz.isAgg0,
  z0 := Tryz.sizeOf0,
  v0 := Tryz.zeroValue0,
  t3 := Tryz.underlying3,
  a3 := Tryz.isAgg3,
  z3 := Tryz.sizeOf3,
  v3 := Tryz.zeroValue3,
  t4 := Tryz.underlying4,
  a4 := Tryz.isAgg4,
  z4 := Tryz.sizeOf4,
  v4 := Tryz.zeroValue4,
  t5 := Tryz.underlying5,
  a5 := Tryz.isAgg5,
  z5 := Tryz.sizeOf5,
  v5 := Tryz.zeroValue5,
  t9 := Tryz.underlying9,
  a9 := Tryz.isAgg9,
  z9 := Tryz.sizeOf9,
  v9 := Tryz.zeroValue9,
  t31 := Tryz.underlying72,
  a31 := Tryz.isAgg72,
  z31 := Tryz.sizeOf72,
  v31 := Tryz.zeroValue72,
  t46 := Tryz.underlying152,
  a46 := Tryz.isAgg152,
  z46 := Tryz.sizeOf152,
  v46 := Tryz.zeroValue152,
  t51 := Tryz.underlying189,
  a51 := Tryz.isAgg189,
  z51 := Tryz.sizeOf189,
  v51 := Tryz.zeroValue189,
  t53 := Tryz.underlying23,
  a53 := Tryz.isAgg23,
  z53 := Tryz.sizeOf23,
  v53 := Tryz.zeroValue23,
  t131 := Tryz.underlying186,
  a131 := Tryz.isAgg186,
  z131 := Tryz.sizeOf186,
  v131 := Tryz.zeroValue186,
  t182 := Tryz.underlying180,
  a182 := Tryz.isAgg180,
  z182 := Tryz.sizeOf180,
  v182 := Tryz.zeroValue180,
  t183 := Tryz.underlying181,
  a183 := Tryz.isAgg181,
  z183 := Tryz.sizeOf181,
  v183 := Tryz.zeroValue181,
  t218 := Tryz.underlying223,
  a218 := Tryz.isAgg223,
  z218 := Tryz.sizeOf223,
  v218 := Tryz.zeroValue223,
  t222 := Tryz.underlying227,
  a222 := Tryz.isAgg227,
  z222 := Tryz.sizeOf227,
  v222 := Tryz.zeroValue227,
  t228 := Tryz.underlying249,
  a228 := Tryz.isAgg249,
  z228 := Tryz.sizeOf249,
  v228 := Tryz.zeroValue249,
  t229 := Tryz.underlying250,
  a229 := Tryz.isAgg250,
  z229 := Tryz.sizeOf250,
  v229 := Tryz.zeroValue250 }
end Go.Proofs
/- slices.Sort at texts: the kit's contract, at this program. -/
namespace Go.Proofs.YtfapphlhkfddoaaGreatDoor.G
open Go.RowKit Go.Eng Go.Proofs Go.Sort
def sortB (l : List (List UInt8)) : List (List UInt8) := l.mergeSort fun x y => decide (x ≤ y)
theorem sortB_len (l : List (List UInt8)) : (sortB l).length = l.length := (List.mergeSort_perm _ _).length_eq
theorem sortS_at : SortsAt Tryz.prog 81 encStr sortB := fun blk off cap zs w hH hb hs => Any.slices_Sort_string Tryz.sortS blk off cap zs w hH hb hs
end Go.Proofs.YtfapphlhkfddoaaGreatDoor.G
/- The shelf's laying of a generic library function at this program: as the kit's command spells it. -/
namespace Go.Proofs
open Go.Shelf
def Tryz.joinS_ren : Go.Shelf.Ren := ⟨fun | 156 => 83 | 165 => 115 | 166 => 116 | 169 => 117 | 240 => 159 | 241 => 160 | 276 => 201 | 277 => 202 | n => n, fun | 31 => 72 | 9 => 9 | 3 => 3 | 4 => 4 | 0 => 0 | 20 => 20 | 72 => 163 | 76 => 167 | 70 => 161 | 37 => 128 | 75 => 166 | 127 => 205 | 164 => 239 | 5 => 5 | 80 => 136 | n => n, fun | n => n⟩
theorem Tryz.joinS : Go.Proofs.Lays.n156 Tryz.prog Tryz.joinS_ren := {
  mixed := by kernel_rfl,
  f156 := Tryz.func83.trans (congrArg some (by kernel_rfl)),
  f165 := Tryz.func115.trans (congrArg some (by kernel_rfl)),
  f166 := Tryz.func116.trans (congrArg some (by kernel_rfl)),
  f169 := Tryz.func117.trans (congrArg some (by kernel_rfl)),
  f240 := Tryz.func159.trans (congrArg some (by kernel_rfl)),
  f241 := Tryz.func160.trans (congrArg some (by kernel_rfl)),
  f276 := Tryz.func201.trans (congrArg some (by kernel_rfl)),
  f277 := Tryz.func202.trans (congrArg some (by kernel_rfl)),
  t0 := Tryz.underlying0,
  a0 := Tryz.isAgg0,
  z0 := Tryz.sizeOf0,
  v0 := Tryz.zeroValue0,
  t3 := Tryz.underlying3,
  a3 := Tryz.isAgg3,
  z3 := Tryz.sizeOf3,
  v3 := Tryz.zeroValue3,
  t4 := Tryz.underlying4,
  a4 := Tryz.isAgg4,
  z4 := Tryz.sizeOf4,
  v4 := Tryz.zeroValue4,
  t9 := Tryz.underlying9,
  a9 := Tryz.isAgg9,
  z9 := Tryz.sizeOf9,
  v9 := Tryz.zeroValue9,
  t20 := Tryz.underlying20,
  a20 := Tryz.isAgg20,
  z20 := Tryz.sizeOf20,
  v20 := Tryz.zeroValue20,
  t31 := Tryz.underlying72,
  a31 := Tryz.isAgg72,
  z31 := Tryz.sizeOf72,
  v31 := Tryz.zeroValue72,
  t37 := Tryz.underlying128,
  a37 := Tryz.isAgg128,
  z37 := Tryz.sizeOf128,
  v37 := Tryz.zeroValue128,
  t70 := Tryz.underlying161,
  a70 := Tryz.isAgg161,
  z70 := Tryz.sizeOf161,
  v70 := Tryz.zeroValue161,
  t72 := Tryz.underlying163,
  a72 := Tryz.isAgg163,
  z72 := Tryz.sizeOf163,
  v72 := Tryz.zeroValue163,
  t75 := Tryz.underlying166,
  a75 := Tryz.isAgg166,
  z75 := Tryz.sizeOf166,
  v75 := Tryz.zeroValue166,
  t76 := Tryz.underlying167,
  a76 := Tryz.isAgg167,
  z76 := Tryz.sizeOf167,
  v76 := Tryz.zeroValue167,
  t127 := Tryz.underlying205,
  a127 := Tryz.isAgg205,
  z127 := Tryz.sizeOf205,
  v127 := Tryz.zeroValue205,
  t164 := Tryz.underlying239,
  a164 := Tryz.isAgg239,
  z164 := Tryz.sizeOf239,
  v164 := Tryz.zeroValue239 }
end Go.Proofs
/- Texts joined, and an element raised by one exponent more. -/
namespace Go.Proofs.YtfapphlhkfddoaaGreatDoor.G
open Go.RowKit Go.Eng Go.Proofs Go.Proofs.YtfapphlhkfddoaaGreatDoor.Cut Go.Sort
set_option linter.unusedVariables false
set_option linter.unusedSimpArgs false
set_option maxRecDepth 20000
variable {ok : Nat → Prop} {w0 w : World} {A B L R : List Eng.Item}

theorem joinX : Builder.Extra Tryz.prog Tryz.joinS_ren where
  sizeBuilder := by kernel_rfl
  liesBuilder := by kernel_rfl
  t5 := by kernel_rfl
  a5 := fun w => run_isAgg (by kernel_rfl)
  z5 := fun w => Eng.run_sizeOf (by kernel_rfl)
  v5 := fun w => run_zero (by kernel_rfl)
  infoByte := by kernel_rfl
  cellsByte := by kernel_rfl
  sizeByte := by kernel_rfl
  neB5 := by decide
theorem join_flat (xs : List (List UInt8)) : Lib.join xs [] = xs.flatten := by
  unfold Lib.join
  induction xs with
  | nil => simp [List.intercalate]
  | cons x xs ih =>
    cases xs with
    | nil => simp [List.intercalate]
    | cons y ys => simp [List.intercalate] at ih ⊢; exact ih
/-- All texts of a row, one behind the other. -/
theorem join_calls {v : Value} {e : TypeId} {xs : List (List UInt8)} (hpos : 0 < xs.length) (hN : xs.length ≤ 1000000) (hlen : xs.flatten.length ≤ 140737488355328) (H : Eng.Own ok w0 w (A ++ .row v e 1 xs.length (xs.map encStr) :: B)) :
    Calls Tryz.prog 83 #[v, .string (bs [])] w fun ee w' => ∃ u, ee = .returned u ∧ (u = .string (bs xs.flatten) ∧ Bel w.heap.size w w') := by
  have hrow : qRow w e 1 v xs.length (xs.map encStr) := H.all (.row v e 1 xs.length (xs.map encStr)) (by simp)
  rcases hrow.2 with ⟨h0, A', hv, _⟩ | ⟨q, off, cap, cur, hv, hb, hnc, hcm, hcs, ht⟩
  · omega
  · have hblk : q < w.heap.size := (Array.getElem?_eq_some_iff.1 hb).1
    rw [Nat.mul_one] at hv hcs ht
    have hmap : (xs.map bs).map (·.data.toList) = xs := by
      rw [List.map_map]
      conv => rhs; rw [← List.map_id xs]
      exact List.map_congr_left fun x _ => by simp [bs]
    have hj := Any.strings_Join_48 Tryz.joinS joinX q off cap (xs.map bs) (bs []) w (fun j x hx => by
        rw [List.getElem?_map] at hx
        cases hxj : xs[j]? with
        | none => rw [hxj] at hx; cases hx
        | some y =>
          rw [hxj] at hx
          cases hx
          have := qRow_cell (g := q) (o := off) hb (by simpa using ht) j (encStr y) (by rw [List.getElem?_map, hxj]; rfl)
          rwa [add_at] at this) hblk (by rw [List.length_map]; omega) (by rw [List.length_map]; exact hnc) (by rw [hmap, show (bs []).data.toList = [] from rfl, join_flat]; omega)
    rw [hmap, show (bs []).data.toList = [] from rfl, join_flat, List.length_map] at hj
    rw [hv]
    exact hj.mono fun ee w' ⟨he, hB⟩ => ⟨_, he, rfl, ⟨hB, fun h => by have h : false = true := h; cases h⟩⟩
/-- A literal of bytes as a text, in an open order. -/
theorem c_toStr {P : Program} {g : Bool} {KF : Value → Prop} {s d e e' : TypeId} {b n c : Nat} {l : List UInt8} {cs : List Value} (i : Nat) (hi : L[i]? = some (.blk b cs e')) (hcs : cs = bytesV l) (hn : n = l.length) (hs : byteSl P s = some e) (hd : strB P d = true) (hk : KF (.string (bs l))) : cConvert P g s d (.slice (some ⟨b, 0, none⟩) n c) (fun w => Eng.Own ok w0 w L) KF := by
  subst hcs hn
  unfold byteSl at hs
  split at hs
  · rename_i e' he'
    split at hs
    · rename_i hu8
      cases hs
      have hu : P.underlying s = some (.slice e) := by
        unfold sliceB at he'
        split at he'
        · rename_i hu; cases he'; exact hu
        · cases he'
      have hus : P.underlying d = some .string := by
        unfold strB at hd
        split at hd
        · assumption
        · cases hd
      unfold cConvert
      refine cFloat_in _ (fun _ w H => sv_run (run_convert_bytes_back w s d e ⟨b, 0, none⟩ c l hu hu8 hus fun j hj => ?_)) hk
      have := H.cell i hi j (v := .int .u8 (l[j].toNat : Int)) (by simp [bytesV, hj])
      rwa [add_at, Nat.zero_add]
    · cases hs
  · cases hs
def powT (l : List (List UInt8)) : List UInt8 := [101, UInt8.ofNat l.length] ++ (sortB l).flatten
noncomputable def term_Power.f (x0 x1 : List UInt8) : Option (List UInt8 × Int) :=
  (term_element.f x0).bind fun e => cond (!e) (some ([], 1)) ((term_Right.f x1).bind fun b => cond (!b) (some ([], 1)) ((term_exponents.f x0).bind fun l =>
    givenM (l.length ≤ 1000000) (if 32 < l.length + 1 then some ([], 3) else givenM ((sortB (l ++ [x1])).flatten.length ≤ 1000000000) (term_whole.f (powT (l ++ [x1]))))))
theorem rowsR_strs {w : World} {ok : Nat → Prop} : ∀ {xs : List (List UInt8)} {cs : List Value}, rowsR tStr w ok xs cs → cs = xs.map encStr
  | [], cs, h => h
  | x :: xs, cs, ⟨c, d, e, h1, h2⟩ => by
    have h1 : c = [.string (bs x)] := h1
    rw [e, h1, rowsR_strs h2]; rfl
set_option maxHeartbeats 4000000 in
theorem term_Power_ok {x0 x1 : List UInt8} {r : List UInt8 × Int} (h : term_Power.f x0 x1 = some r) :
    Calls Tryz.prog 41 #[.string (bs x0), .string (bs x1)] w fun e w' => ∃ v, e = .returned v ∧ (v = .tuple #[.string (bs r.1), .int .i64 r.2] ∧ Bel w.heap.size w w') := by
  have H : Eng.Own (fun _ => False) w w [] := Eng.Own.nil _ w
  unfold term_Power.f at h
  obtain ⟨el, hel, h⟩ := bindS h
  refine enterN (args := [.string (bs x0), .string (bs x1)]) Tryz.func41 rfl Tryz.ntmps41 rfl rfl ?_
  refine Eng.nc_seq ?_
  refine nc ?_
  refine Eng.nc_seq ?_
  refine Eng.nc_seq ?_
  refine nc ?_
  refine call_rule (by kernel_rfl) (term_element_ok (ok := fun _ => False) hel) fun v1 w1 ⟨hv, hb⟩ => ?_
  subst hv
  replace H := H.call hb
  cases el with
  | false =>
    cases h
    refine call_skip (.bool false) rfl ?_
    refine Eng.nc_cond (b := true) rfl (fun hc => ?_) (fun hc => ?_)
    · refine Eng.nc_seq ?_
      refine nc ?_
      refine nc ?_
      exact ret_inA [.string (bs []), .int .i64 1] ⟨_, rfl, rfl, H.frame⟩
    · cases hc
  | true =>
    replace h : (term_Right.f x1).bind _ = some r := h
    obtain ⟨rb, hrb, h⟩ := bindS h
    refine call_yes rfl (by kernel_rfl) (term_Right_ok (ok := fun _ => False) hrb) fun v2 w2 ⟨hv, hb⟩ => ?_
    subst hv
    replace H := H.call hb
    cases rb with
    | false =>
      cases h
      refine Eng.nc_cond (b := true) rfl (fun hc => ?_) (fun hc => ?_)
      · refine Eng.nc_seq ?_
        refine nc ?_
        refine nc ?_
        exact ret_inA [.string (bs []), .int .i64 1] ⟨_, rfl, rfl, H.frame⟩
      · cases hc
    | true =>
      replace h : (term_exponents.f x0).bind _ = some r := h
      obtain ⟨l, hl, h⟩ := bindS h
      obtain ⟨hll, h⟩ := givenS h
      refine Eng.nc_cond (b := false) rfl (fun hc => ?_) (fun hc => ?_)
      · cases hc
      refine nc ?_
      refine Eng.nc_seq ?_
      refine nc ?_
      refine call_rule (by kernel_rfl) (term_exponents_ok (ok := okOf (fun _ => False) w []) hl) fun v3 w3 ⟨hr, hb⟩ => ?_
      obtain ⟨cells, H⟩ := H.callRow hb hr
      obtain rfl := rowsR_strs (H.dat 0 rfl)
      replace H := H.tail
      replace H : Eng.Own (fun _ => False) w w3 [.row v3 9 1 l.length (l.map encStr)] := H
      refine own_buildSlice (e := 9) (sz := 1) (z := .string (bs [])) (cs := [.string (bs x1)]) H (by kernel_rfl) (by kernel_rfl) (by kernel_rfl) rfl rfl rfl rfl fun g w4 H => ?_
      refine own_appendBlk (e := 9) (sz := 1) (z := .string (bs [])) (by_ := 16) (m := 1) H 1 0 rfl rfl (by kernel_rfl) (by kernel_rfl) rfl rfl rfl (by intro v hv; simp at hv; subst hv; rfl) (by omega) (by omega) fun v5 w5 H => ?_
      obtain ⟨A5, c5, hv5, _, _⟩ := H.rowSl 1 rfl
      subst hv5
      have hl1 : (l ++ [x1]).length = l.length + 1 := by simp
      replace H : Eng.Own (fun _ => False) w w5 ([] ++ .row (.slice A5 (l.length + 1) c5) 9 1 (l ++ [x1]).length ((l ++ [x1]).map encStr) :: []) := by
        have e : (l ++ [x1]).map encStr = l.map encStr ++ [.string (bs x1)] := by simp; rfl
        rw [e, hl1]
        exact H.tail
      refine Eng.nc_seq ?_
      refine Eng.nc_seq ?_
      refine nc ?_
      refine Eng.nc_cond (b := decide (((l.length + 1 : Nat) : Int) > 32)) rfl (fun hc => ?_) (fun hc => ?_)
      · have hgt : 32 < l.length + 1 := by have := of_decide_eq_true hc; omega
        rw [if_pos hgt] at h
        cases h
        refine Eng.nc_seq ?_
        refine nc ?_
        refine nc ?_
        exact ret_inA [.string (bs []), .int .i64 3] ⟨_, rfl, rfl, H.frame⟩
      have hgt : ¬ 32 < l.length + 1 := by have := of_decide_eq_false hc; omega
      rw [if_neg hgt] at h
      obtain ⟨hfl, hq⟩ := givenS h
      clear h
      refine nc ?_
      refine Eng.nc_seq ?_
      refine nc ?_
      refine call_rule (by kernel_rfl) (sort1_own (A := []) (B := []) (enc := encStr) sortS_at sortB_len (by omega) (by omega) H) fun u w6 ⟨hu, H⟩ => ?_
      subst hu
      replace H : Eng.Own (fun _ => False) w w6 [.row (.slice A5 (l.length + 1) c5) 9 1 (sortB (l ++ [x1])).length ((sortB (l ++ [x1])).map encStr)] := by rw [sortB_len]; exact H
      have hsl : (sortB (l ++ [x1])).length = l.length + 1 := by rw [sortB_len, hl1]
      generalize hS : sortB (l ++ [x1]) = S at *
      refine Eng.nc_seq ?_
      refine nc ?_
      refine draw_ruleQ [83] (fun _ => .string (bs S.flatten)) [0, 0, 0, 0, 1] (by kernel_rfl) (by kernel_rfl) H ?_
      have hw8 : IntKind.u8.wrap ((l.length + 1 : Nat) : Int) = ((UInt8.ofNat (l.length + 1)).toNat : Int) := by
        have e : ∀ x : Int, IntKind.u8.wrap x = x % 256 := fun x => by simp [IntKind.wrap, IntKind.bits, IntKind.signed]
        rw [e, UInt8.toNat_ofNat']; omega
      refine c_buildSlice (e := 5) (sz := 1) (z := .int .u8 0) (cs := [.int .u8 101, .int .u8 (IntKind.u8.wrap ((l.length + 1 : Nat) : Int))]) (by kernel_rfl) (by kernel_rfl) (by kernel_rfl) rfl rfl rfl rfl fun g2 => ?_
      refine c_toStr (e := 5) (l := [101, UInt8.ofNat (l.length + 1)]) 0 rfl (by rw [hw8]; rfl) rfl (by kernel_rfl) (by kernel_rfl) ?_
      refine c_quiet (by kernel_rfl) (fun _ w H => join_calls (A := []) (B := []) (by omega) (by omega) (by omega) H) ?_
      have hp : powT (l ++ [x1]) = [101, UInt8.ofNat (l.length + 1)] ++ S.flatten := by unfold powT; rw [hl1, hS]
      rw [hp] at hq
      refine c_catM (a := [101, UInt8.ofNat (l.length + 1)]) (b := S.flatten) (by rw [show ([101, UInt8.ofNat (l.length + 1)] : List UInt8).length = 2 from rfl]; omega) ?_
      refine c_call (.tuple #[.string (bs r.1), .int .i64 r.2]) (by kernel_rfl) (fun _ w H => term_whole_ok (ok := fun _ => False) hq) ?_
      intro w7 H
      refine nc ?_
      exact ret_inA [.string (bs r.1), .int .i64 r.2] ⟨_, rfl, rfl, H.frame⟩
end Go.Proofs.YtfapphlhkfddoaaGreatDoor.G
/- Walks, printed by a program of this proof's own. -/
namespace Go.Proofs.YtfapphlhkfddoaaGreatDoor.G
open Go.RowKit Go.Eng Go.Proofs
set_option linter.unusedVariables false
set_option maxRecDepth 20000
/-! gemot/blind.Element -/
noncomputable def blind_Element.f (x0 : List UInt8) : Option ((List UInt8) × Int) := (term_Gen.f).bind fun y1 => (term_Power.f y1 x0).bind fun y7 => some (y7.1, y7.2)
set_option maxHeartbeats 4000000 in
theorem blind_Element_ok {ok : Nat → Prop} {w : World} {x0 : List UInt8} {r : (List UInt8) × Int} (h : blind_Element.f x0 = some r) :
    Calls Tryz.prog 53 #[.string (bs x0)] w fun e w' => ∃ v, e = .returned v ∧ (v = .tuple #[.string (bs r.1), .int .i64 r.2] ∧ Bel w.heap.size w w') := by
  have H : Eng.Own ok w w [] := Eng.Own.nil ok w
  unfold blind_Element.f at h
  refine enterN (args := [.string (bs x0)]) Tryz.func53 rfl Tryz.ntmps53 rfl rfl ?_
  refine nc_seq ?_
  refine nc ?_
  refine nc_seq ?_
  refine nc ?_
  obtain ⟨y1, hy2, h⟩ := bindS h
  refine call_rule (by kernel_rfl) (term_Gen_ok (ok := fun _ => False) hy2) fun v4 w3 ⟨hv5, hb6⟩ => ?_
  subst hv5
  replace H := H.call hb6
  obtain ⟨y7, hy8, h⟩ := bindS h
  refine call_rule (by kernel_rfl) (term_Power_ok hy8) fun v10 w9 ⟨hv11, hb12⟩ => ?_
  subst hv11
  replace H := H.call hb12
  refine nc ?_
  replace h := Option.some.inj h
  subst h
  exact ret_inA [.string (bs y7.1), .int .i64 y7.2] ⟨_, rfl, ⟨rfl, H.frame⟩⟩
/-! gemot/blind.Above -/
noncomputable def blind_Above.f (x0 : List UInt8) (x1 : List UInt8) : Option ((List UInt8) × Int) := (term_Power.f x1 x0).bind fun y1 => cond (y1.2 != (0 : Int)) (some (([] : List UInt8), y1.2)) ((term_Key.f y1.1).bind fun y8 => some (y8.1, y8.2))
set_option maxHeartbeats 4000000 in
theorem blind_Above_ok {ok : Nat → Prop} {w : World} {x0 : List UInt8} {x1 : List UInt8} {r : (List UInt8) × Int} (h : blind_Above.f x0 x1 = some r) :
    Calls Tryz.prog 54 #[.string (bs x0), .string (bs x1)] w fun e w' => ∃ v, e = .returned v ∧ (v = .tuple #[.string (bs r.1), .int .i64 r.2] ∧ Bel w.heap.size w w') := by
  have H : Eng.Own ok w w [] := Eng.Own.nil ok w
  unfold blind_Above.f at h
  refine enterN (args := [.string (bs x0), .string (bs x1)]) Tryz.func54 rfl Tryz.ntmps54 rfl rfl ?_
  refine nc_seq ?_
  refine nc ?_
  refine nc_seq ?_
  refine nc ?_
  obtain ⟨y1, hy2, h⟩ := bindS h
  refine call_rule (by kernel_rfl) (term_Power_ok hy2) fun v4 w3 ⟨hv5, hb6⟩ => ?_
  subst hv5
  replace H := H.call hb6
  refine nc_seq ?_
  refine nc_seq ?_
  refine nc ?_
  refine nc_cond rfl (fun hc7 => ?_) (fun hc7 => ?_)
  · replace h := condT hc7 h
    refine nc_seq ?_
    refine nc ?_
    refine nc ?_
    replace h := Option.some.inj h
    subst h
    exact ret_inA [.string (bs ([] : List UInt8)), .int .i64 y1.2] ⟨_, rfl, ⟨rfl, H.frame⟩⟩
  · replace h := condF hc7 h
    refine nc ?_
    refine nc_seq ?_
    refine nc ?_
    obtain ⟨y8, hy9, h⟩ := bindS h
    refine call_rule (by kernel_rfl) (term_Key_ok (ok := fun _ => False) hy9) fun v11 w10 ⟨hv12, hb13⟩ => ?_
    subst hv12
    replace H := H.call hb13
    refine nc ?_
    replace h := Option.some.inj h
    subst h
    exact ret_inA [.string (bs y8.1), .int .i64 y8.2] ⟨_, rfl, ⟨rfl, H.frame⟩⟩
end Go.Proofs.YtfapphlhkfddoaaGreatDoor.G
/- Trees in memory: how a text is read as one. -/
namespace Go.Proofs.YtfapphlhkfddoaaGreatDoor.G
open Go.RowKit Go.Eng Go.Proofs Go.Proofs.YtfapphlhkfddoaaGreatDoor.Cut
set_option linter.unusedVariables false
set_option maxRecDepth 20000
variable {ok : Nat → Prop} {w0 w : World} {L : List Eng.Item}

inductive Tr where
  | leaf (p : Int) : Tr
  | two (l r : Tr) : Tr
/-- .. with the places where its nodes stand. -/
inductive TrA where
  | leaf (b : Nat) (p : Int) : TrA
  | two (b : Nat) (l r : TrA) : TrA
def TrA.root : TrA → Nat
  | .leaf b _ => b
  | .two b _ _ => b
def TrA.ptr (A : TrA) : Value := .pointer (some ⟨A.root, 0, none⟩)
def TrA.tr : TrA → Tr
  | .leaf _ p => .leaf p
  | .two _ l r => .two l.tr r.tr
def TrA.items : TrA → List Eng.Item
  | .leaf b p => [.blk b [.int .i64 p, .pointer none, .pointer none] 135]
  | .two b l r => .blk b [.int .i64 0, l.ptr, r.ptr] 135 :: (l.items ++ r.items)
/-- What a text begins with, and what is behind it. -/
def readM : Nat → List UInt8 → Option (Tr × List UInt8)
  | 0, _ => none
  | _ + 1, [] => none
  | n + 1, c :: r => if 49 ≤ c.toNat ∧ c.toNat ≤ 56 then some (.leaf ((c.toNat : Int) - 48), r) else if c ≠ 40 then none else
    match readM n r with
    | none => none
    | some (a, r1) => match readM n r1 with
      | none => none
      | some (b, r2) => match r2 with
        | [] => none
        | d :: r3 => if d = 41 then some (.two a b, r3) else none
theorem readM_len : ∀ (n : Nat) (s : List UInt8) (T : Tr) (r : List UInt8), readM n s = some (T, r) → r.length < s.length
  | 0, s, T, r, h => by simp [readM] at h
  | n + 1, [], T, r, h => by simp [readM] at h
  | n + 1, c :: q, T, r, h => by
    unfold readM at h
    split at h
    · cases h; simp
    · split at h
      · cases h
      · cases h1 : readM n q with
        | none => rw [h1] at h; cases h
        | some x =>
          obtain ⟨a, r1⟩ := x
          rw [h1] at h
          simp only at h
          cases h2 : readM n r1 with
          | none => rw [h2] at h; cases h
          | some y =>
            obtain ⟨b, r2⟩ := y
            rw [h2] at h
            simp only at h
            have l1 := readM_len n q a r1 h1
            have l2 := readM_len n r1 b r2 h2
            cases r2 with
            | nil => cases h
            | cons d r3 =>
              simp only at h
              split at h
              · cases h; simp at l2 ⊢; omega
              · cases h
def headIs (d : UInt8) : List UInt8 → Bool
  | [] => false
  | c :: _ => decide (c = d)
theorem prefix_eq (s : List UInt8) (d : UInt8) : strings_HasPrefix.f s [d] = some (headIs d s) := by
  unfold strings_HasPrefix.f internal_stringslite_HasPrefix.f internal_stringslite_HasPrefix.k1
  cases s with
  | nil => rfl
  | cons c r =>
    have hl : ((c :: r : List UInt8).length : Int) ≥ (([d] : List UInt8).length : Int) := by simp; omega
    have hs : slcM (c :: r) (0 : Int) (([d] : List UInt8).length : Int) = some [c] := by unfold slcM; rw [if_pos ⟨by simp, by simp, by simp; omega⟩]; rfl
    rw [decide_eq_true hl, cond_true, hs, Option.bind_some, cond_true, strEq_eq, Option.bind_some]
    unfold headIs
    simp
def ReadR (ok : Nat → Prop) (w0 : World) (L : List Eng.Item) (x : Option (Tr × List UInt8)) (v : Value) (w' : World) : Prop :=
  match x with
  | none => v = .tuple #[.pointer none, .string (bs [])] ∧ Eng.Own ok w0 w' L
  | some (T, r) => ∃ A : TrA, A.tr = T ∧ v = .tuple #[A.ptr, .string (bs r)] ∧ Eng.Own ok w0 w' (A.items ++ L)

set_option maxHeartbeats 4000000 in
theorem read_own : ∀ (n : Nat) (s : List UInt8), s.length < n → ∀ {ok : Nat → Prop} {w0 w : World} {L : List Eng.Item}, Eng.Own ok w0 w L →
    Calls Tryz.prog 93 #[.string (bs s)] w fun e w' => ∃ v, e = .returned v ∧ ReadR ok w0 L (readM n s) v w' := by
  intro n
  induction n with
  | zero => intro s h; omega
  | succ n ih =>
  intro s hs ok w0 w L H
  refine enterN (args := [.string (bs s)]) Tryz.func93 rfl Tryz.ntmps93 rfl rfl ?_
  refine Eng.nc_seq ?_
  refine nc ?_
  cases s with
  | nil =>
    refine Eng.nc_seq ?_
    refine Eng.nc_block ?_
    refine Eng.nc_seq ?_
    refine nc ?_
    refine Eng.nc_cond rfl (fun hc => ?_) (fun hc => ?_)
    · refine Eng.nc_seq ?_
      refine nc ?_
      refine nc ?_
      exact ret_inA [.pointer none, .string (bs [])] ⟨_, rfl, rfl, H⟩
    · simp [bs_toList] at hc
  | cons c r =>
    have h256 := UInt8.toNat_lt c
    have hidx : idxS (c :: r) (0 : Int) = some (c.toNat : Int) := rfl
    have hsl : slcM (c :: r) (1 : Int) ((c :: r).length : Int) = some r := by rw [show (1 : Int) = ((1 : Nat) : Int) from rfl]; unfold slcM; rw [if_pos ⟨by omega, by simp; omega, by omega⟩]; simp
    refine nc_cut (fun e w' => ¬ (49 ≤ c.toNat ∧ c.toNat ≤ 56) ∧ c = 40 ∧ e = [(0, .string (bs (c :: r)))] ∧ Eng.Own ok w0 w' L) ?_ ?_
    · refine Eng.nc_block ?_
      refine Eng.nc_seq ?_
      refine nc ?_
      refine Eng.nc_cond rfl (fun hc => ?_) (fun hc => ?_)
      · simp [bs_toList] at hc
      refine Eng.nc_seq ?_
      refine nc ?_
      refine idxS_rule (by kernel_rfl) hidx ?_
      refine idxS_rule (by kernel_rfl) hidx ?_
      refine Eng.nc_cond (b := cond (decide ((c.toNat : Int) ≥ 49)) (decide ((c.toNat : Int) ≤ 56)) false) rfl (fun hc => ?_) (fun hc => ?_)
      · have hcc : 49 ≤ c.toNat ∧ c.toNat ≤ 56 := by
          by_cases h1 : (c.toNat : Int) ≥ 49
          · rw [decide_eq_true h1, cond_true, decide_eq_true_eq] at hc; omega
          · rw [decide_eq_false h1] at hc; cases hc
        refine Eng.nc_seq ?_
        refine nc ?_
        refine draw_rule [] (by kernel_rfl) (by kernel_rfl) H ?_
        refine c_idxS (by kernel_rfl) hidx ?_
        refine c_box [.int .i64 (IntKind.i64.wrap (IntKind.u8.wrap ((c.toNat : Int) - 48))), .pointer none, .pointer none] rfl fun b => ?_
        refine c_txtI 1 ((c :: r).length : Int) (by kernel_rfl) ⟨_, rfl⟩ rfl hsl ?_
        intro w1 H
        refine nc ?_
        refine ret_inA [.pointer (some ⟨b, 0, none⟩), .string (bs r)] ⟨_, rfl, ?_⟩
        unfold readM
        rw [if_pos hcc]
        refine ⟨.leaf b ((c.toNat : Int) - 48), rfl, rfl, ?_⟩
        have e : IntKind.i64.wrap (IntKind.u8.wrap ((c.toNat : Int) - 48)) = (c.toNat : Int) - 48 := by
          have e1 : IntKind.u8.wrap ((c.toNat : Int) - 48) = (c.toNat : Int) - 48 := by
            have e : ∀ x : Int, IntKind.u8.wrap x = x % 256 := fun x => by simp [IntKind.wrap, IntKind.bits, IntKind.signed]
            rw [e]; omega
          rw [e1, Eng.i64_id (by omega) (by omega)]
        rw [e] at H
        exact H
      · have hcc : ¬ (49 ≤ c.toNat ∧ c.toNat ≤ 56) := by
          rintro ⟨h1, h2⟩
          rw [decide_eq_true (show (c.toNat : Int) ≥ 49 by omega), decide_eq_true (show (c.toNat : Int) ≤ 56 by omega)] at hc
          cases hc
        refine Eng.nc_seq ?_
        refine nc ?_
        refine idxS_rule (by kernel_rfl) hidx ?_
        refine Eng.nc_cond rfl (fun hc => ?_) (fun hc => ?_)
        · refine Eng.nc_seq ?_
          refine nc ?_
          refine nc ?_
          refine ret_inA [.pointer none, .string (bs [])] ⟨_, rfl, ?_⟩
          have hne : c ≠ 40 := by rintro rfl; cases hc
          unfold readM
          rw [if_neg hcc, if_pos hne]
          exact ⟨rfl, H⟩
        · refine nc ?_
          have h40 : c = 40 := by
            have : ((c.toNat : Int) != 40) = false := hc
            simp at this
            exact UInt8.toNat_inj.1 (by show c.toNat = 40; omega)
          exact cut_inA ⟨hcc, h40, rfl, H⟩
    · rintro _ w1 ⟨hcc, rfl, rfl, H⟩
      refine Eng.nc_seq ?_
      refine nc ?_
      refine own_box H [.int .i64 0, .pointer none, .pointer none] rfl fun b w2 H => ?_
      refine Eng.nc_seq ?_
      refine nc ?_
      refine txtI_rule 1 (((40 : UInt8) :: r).length : Int) (by kernel_rfl) ⟨_, rfl⟩ rfl hsl ?_
      refine call_rule (by kernel_rfl) (ih r (by simp at hs; omega) H) fun v w3 hR => ?_
      unfold readM
      rw [if_neg hcc, if_neg (by decide)]
      cases hr1 : readM n r with
      | none =>
        rw [hr1] at hR
        obtain ⟨rfl, H⟩ := hR
        refine own_store (t := 89) H 0 rfl (by kernel_rfl) (j := 1) rfl rfl fun w4 H => ?_
        refine Eng.nc_seq ?_
        refine nc ?_
        refine own_load H 0 rfl (by kernel_rfl) (j := 1) rfl ?_
        refine eqlNil_rule (by kernel_rfl) ?_
        refine Eng.nc_cond rfl (fun hc => ?_) (fun hc => ?_)
        · refine Eng.nc_seq ?_
          refine nc ?_
          refine nc ?_
          exact ret_inA [.pointer none, .string (bs [])] ⟨_, rfl, rfl, H.tail⟩
        · cases hc
      | some q =>
        obtain ⟨T1, r1⟩ := q
        rw [hr1] at hR
        obtain ⟨A, hA, rfl, H⟩ := hR
        replace H : Eng.Own ok w0 w3 (.blk b [.int .i64 0, .pointer none, .pointer none] 135 :: (A.items ++ L)) := H.perm (List.perm_append_comm_assoc A.items [_] L)
        refine own_store (t := 89) H 0 rfl (by kernel_rfl) (j := 1) rfl rfl fun w4 H => ?_
        refine Eng.nc_seq ?_
        refine nc ?_
        refine own_load H 0 rfl (by kernel_rfl) (j := 1) (v := .pointer (some ⟨A.root, 0, none⟩)) rfl ?_
        refine eqlNil_rule (by kernel_rfl) ?_
        refine Eng.nc_cond rfl (fun hc => ?_) (fun hc => ?_)
        · cases hc
        refine nc ?_
        refine Eng.nc_seq ?_
        refine nc ?_
        have hl1 := readM_len n r _ _ hr1
        refine call_rule (by kernel_rfl) (ih r1 (by simp at hs; omega) H) fun v w5 hR => ?_
        simp only
        cases hr2 : readM n r1 with
        | none =>
          rw [hr2] at hR
          obtain ⟨rfl, H⟩ := hR
          refine own_store (t := 89) H 0 rfl (by kernel_rfl) (j := 2) rfl rfl fun w6 H => ?_
          refine Eng.nc_seq ?_
          refine nc ?_
          refine own_load H 0 rfl (by kernel_rfl) (j := 2) (v := .pointer none) rfl ?_
          refine eqlNil_rule (by kernel_rfl) ?_
          refine call_skip (.bool false) rfl ?_
          refine Eng.nc_cond (b := true) rfl (fun hc => ?_) (fun hc => ?_)
          · refine Eng.nc_seq ?_
            refine nc ?_
            refine nc ?_
            refine ret_inA [.pointer none, .string (bs [])] ⟨_, rfl, rfl, ?_⟩
            exact H.less ((List.sublist_append_right A.items L).trans (List.sublist_cons_self _ _))
          · cases hc
        | some q =>
          obtain ⟨T2, r2⟩ := q
          rw [hr2] at hR
          obtain ⟨B, hB, rfl, H⟩ := hR
          replace H : Eng.Own ok w0 w5 (.blk b [.int .i64 0, A.ptr, .pointer none] 135 :: (A.items ++ (B.items ++ L))) :=
            H.perm ((List.perm_append_comm_assoc B.items [_] (A.items ++ L)).trans (List.Perm.cons _ (List.perm_append_comm_assoc B.items A.items L)))
          refine own_store (t := 89) H 0 rfl (by kernel_rfl) (j := 2) rfl rfl fun w6 H => ?_
          refine Eng.nc_seq ?_
          refine nc ?_
          refine own_load H 0 rfl (by kernel_rfl) (j := 2) (v := .pointer (some ⟨B.root, 0, none⟩)) rfl ?_
          refine eqlNil_rule (by kernel_rfl) ?_
          refine call_yes rfl (by kernel_rfl) (strings_HasPrefix_ok (ok := fun _ => False) (prefix_eq r2 41)) fun v w7 ⟨hv, hb7⟩ => ?_
          subst hv
          replace H := H.call hb7
          replace H : Eng.Own ok w0 w7 (.blk b [.int .i64 0, A.ptr, B.ptr] 135 :: (A.items ++ (B.items ++ L))) := H
          refine Eng.nc_cond (b := !(headIs 41 r2)) rfl (fun hc => ?_) (fun hc => ?_)
          · refine Eng.nc_seq ?_
            refine nc ?_
            refine nc ?_
            refine ret_inA [.pointer none, .string (bs [])] ⟨_, rfl, ?_⟩
            have hL : Eng.Own ok w0 w7 L := H.less (((List.sublist_append_right B.items L).trans (List.sublist_append_right A.items _)).trans (List.sublist_cons_self _ _))
            cases r2 with
            | nil => exact ⟨rfl, hL⟩
            | cons d r3 =>
              have hd : ¬ d = 41 := by simpa [headIs] using hc
              simp only
              rw [if_neg hd]
              exact ⟨rfl, hL⟩
          · cases r2 with
            | nil => simp [headIs] at hc
            | cons d r3 =>
              have hd : d = 41 := by simpa [headIs] using hc
              simp only
              rw [if_pos hd]
              have hsl3 : slcM (d :: r3) (1 : Int) ((d :: r3).length : Int) = some r3 := by rw [show (1 : Int) = ((1 : Nat) : Int) from rfl]; unfold slcM; rw [if_pos ⟨by omega, by simp; omega, by omega⟩]; simp
              refine nc ?_
              refine Eng.nc_seq ?_
              refine nc ?_
              refine draw_rule [] (by kernel_rfl) (by kernel_rfl) H ?_
              refine c_txtI 1 ((d :: r3).length : Int) (by kernel_rfl) ⟨_, rfl⟩ rfl hsl3 ?_
              intro w8 H
              refine nc ?_
              refine ret_inA [.pointer (some ⟨b, 0, none⟩), .string (bs r3)] ⟨_, rfl, .two b A B, ?_, rfl, ?_⟩
              · show Tr.two A.tr B.tr = _
                rw [hA, hB]
              · show Eng.Own ok w0 w8 (.blk b [.int .i64 0, A.ptr, B.ptr] 135 :: ((A.items ++ B.items) ++ L))
                rw [List.append_assoc]
                exact H
end Go.Proofs.YtfapphlhkfddoaaGreatDoor.G
/- Whose a tree is: its leaves, in order. -/
namespace Go.Proofs.YtfapphlhkfddoaaGreatDoor.G
open Go.RowKit Go.Eng Go.Proofs Go.Proofs.YtfapphlhkfddoaaGreatDoor.Cut
set_option linter.unusedVariables false
set_option maxRecDepth 20000
variable {ok : Nat → Prop} {w0 w : World} {L R : List Eng.Item}

/-- append(row, one fresh block), in an open order: the row's value is a slice. -/
theorem c_appendV {P : Program} {ok : Nat → Prop} {w0 : World} {L : List Eng.Item} {KE : Value → List Eng.Item → Prop} {t ty e e' : TypeId} {sz by_ n m c b : Nat} {z v : Value} {xs news : List Value} {consts : Array Bool} (i j : Nat) (hi : L[i]? = some (.row v e sz n xs)) (hj : L[j]? = some (.blk b news e')) (ht : sliceB P t = some e) (hinfo : infoB P e = some (some z, sz, by_)) (hzl : z.cells.toList.length = sz) (hpos : Nat.blt 0 sz = true)
    (hl : news.length = m * sz) (ho : ∀ u ∈ news, oneV u = true) (hb : n + m ≤ 140737488355328) (hb2 : (n + m) * by_ ≤ 140737488355328)
    (hk : ∀ A c, KE (.slice A (n + m) c) (L.set i (.row (.slice A (n + m) c) e sz (n + m) (xs ++ news)))) : cBuiltin P true .append [t, t] ty [v, .slice (some ⟨b, 0, none⟩) m c] consts ok w0 L KE := by
  unfold cBuiltin
  refine cEv_in ⟨fun v' L' => ∃ A c, v' = .slice A (n + m) c ∧ L' = L.set i (.row (.slice A (n + m) c) e sz (n + m) (xs ++ news)), fun h => (by cases h), fun w H => ⟨fun _ => ?_, fun h => by cases h⟩, fun v' L' h _ => by obtain ⟨A, c, rfl, rfl⟩ := h; exact hk A c⟩
  obtain ⟨v', w', hr, hO⟩ := own_rowAppend (ty := ty) (consts := consts) (c := c) H i hi ht hinfo hzl hpos hl (cellsAt_of fun q u hq => by rw [add_at]; exact H.cell j hj (0 + (0 + q)) (by simpa using hq)) ho hb hb2
  have hi' : (L.set i (.row v' e sz (n + m) (xs ++ news)))[i]? = some (.row v' e sz (n + m) (xs ++ news)) := by
    rw [List.getElem?_set_self]
    exact (List.getElem?_eq_some_iff.1 hi).1
  obtain ⟨A, c', hv, _, _⟩ := hO.rowSl i hi'
  subst hv
  show upon P _ ((builtin .append #[t, t] ty consts #[v, .slice (some ⟨b, 0, none⟩) m c]).run P w)
  rw [hr]
  exact ⟨_, ⟨A, c', rfl, rfl⟩, hO⟩
/-- The leaves, from the right. -/
def Tr.leavesR : Tr → List Int
  | .leaf p => [p]
  | .two l r => r.leavesR ++ l.leavesR
def intsV (xs : List Int) : List Value := xs.map (.int .i64 ·)
def doV (cl : Nat) : Value := .func (.func 95) #[] #[.pointer (some ⟨cl, 0, none⟩)]
def walkV (c3 c4 : Nat) : Value := .func (.func 119) #[] #[.pointer (some ⟨c3, 0, none⟩), .pointer (some ⟨c4, 0, none⟩)]
def memL (cl c3 c4 : Nat) (v : Value) (xs : List Int) (R : List Eng.Item) : List Eng.Item :=
  .blk cl [v] 22 :: .row v 3 1 xs.length (intsV xs) :: .blk c3 [doV cl] 133 :: .blk c4 [walkV c3 c4] 169 :: R
theorem at_mem {it : Eng.Item} (h : it ∈ R) : ∃ i : Nat, R[i]? = some it := List.mem_iff_getElem?.1 h
def TrA.top : TrA → Eng.Item
  | .leaf b p => .blk b [.int .i64 p, .pointer none, .pointer none] 135
  | .two b l r => .blk b [.int .i64 0, l.ptr, r.ptr] 135
set_option maxHeartbeats 4000000 in
theorem members1_own {A : TrA} {cl c3 c4 : Nat} {v : Value} {xs : List Int} (hA : A.top ∈ R) (hl : xs.length ≤ 1000000) (H : Eng.Own ok w0 w (memL cl c3 c4 v xs R)) :
    Calls Tryz.prog 95 #[A.ptr, .pointer (some ⟨cl, 0, none⟩)] w fun e w' => ∃ u, e = .returned u ∧ u = .bool true ∧ ∃ v', Eng.Own ok w0 w' (memL cl c3 c4 v' (match A with | .leaf _ p => xs ++ [p] | .two .. => xs) R) := by
  obtain ⟨i, hi⟩ := at_mem hA
  have hi4 : (memL cl c3 c4 v xs R)[i + 4]? = some A.top := hi
  refine enterN (args := [A.ptr, .pointer (some ⟨cl, 0, none⟩)]) Tryz.func95 rfl Tryz.ntmps95 rfl rfl ?_
  refine Eng.nc_seq ?_
  refine nc ?_
  refine Eng.nc_seq ?_
  refine Eng.nc_seq ?_
  refine nc ?_
  cases A with
  | leaf b p =>
    refine own_load H (i + 4) hi4 (by kernel_rfl) (j := 1) rfl ?_
    refine eqlNil_rule (by kernel_rfl) ?_
    refine Eng.nc_cond (b := true) rfl (fun hc => ?_) (fun hc => ?_)
    · refine nc ?_
      refine draw_rule [] (by kernel_rfl) (by kernel_rfl) H ?_
      refine c_load 0 rfl (by kernel_rfl) (j := 0) rfl ?_
      refine c_load (i + 4) hi4 (by kernel_rfl) (j := 0) rfl ?_
      refine c_buildSlice (e := 3) (sz := 1) (z := .int .i64 0) (cs := [.int .i64 p]) (by kernel_rfl) (by kernel_rfl) (by kernel_rfl) rfl rfl rfl rfl fun g => ?_
      refine c_appendV (e := 3) (sz := 1) (z := .int .i64 0) (by_ := 8) (m := 1) 2 0 rfl rfl (by kernel_rfl) (by kernel_rfl) rfl rfl rfl (by intro u hu; simp at hu; subst hu; rfl) (by omega) (by omega) fun A' c' => ?_
      refine c_storeB (m := 1) 1 rfl (by kernel_rfl) [.slice A' (xs.length + 1) c'] rfl rfl rfl rfl ?_
      intro w1 H
      refine Eng.nc_seq ?_
      refine nc ?_
      refine nc ?_
      refine ret_inA [.bool true] ⟨_, rfl, rfl, .slice A' (xs.length + 1) c', ?_⟩
      have e1 : intsV (xs ++ [p]) = intsV xs ++ [.int .i64 p] := by simp [intsV]
      have e2 : (xs ++ [p]).length = xs.length + 1 := by simp
      unfold memL
      rw [e1, e2]
      exact H.tail
    · cases hc
  | two b l r =>
    refine own_load H (i + 4) hi4 (by kernel_rfl) (j := 1) rfl ?_
    refine eqlNil_rule (by kernel_rfl) ?_
    refine Eng.nc_cond (b := false) rfl (fun hc => ?_) (fun hc => ?_)
    · cases hc
    · refine nc ?_
      refine Eng.nc_seq ?_
      refine nc ?_
      refine nc ?_
      exact ret_inA [.bool true] ⟨_, rfl, rfl, v, H⟩
theorem TrA.top_mem (A : TrA) : A.top ∈ A.items := by cases A <;> exact List.mem_cons_self
set_option maxHeartbeats 4000000 in
theorem walk_own {cl c3 c4 : Nat} : ∀ (A : TrA) {xs : List Int} {v : Value} {w : World}, (∀ it ∈ A.items, it ∈ R) → xs.length + A.tr.leavesR.length ≤ 1000000 → Eng.Own ok w0 w (memL cl c3 c4 v xs R) →
    Calls Tryz.prog 119 #[A.ptr, .pointer (some ⟨c3, 0, none⟩), .pointer (some ⟨c4, 0, none⟩)] w fun e w' => ∃ u, e = .returned u ∧ ∃ v', Eng.Own ok w0 w' (memL cl c3 c4 v' (xs ++ A.tr.leavesR) R) := by
  intro A
  induction A with
  | leaf b p =>
    intro xs v w hA hl H
    have hT := hA _ (TrA.top_mem (.leaf b p))
    have hl1 : xs.length ≤ 1000000 := by omega
    refine enterN (args := [(TrA.leaf b p).ptr, .pointer (some ⟨c3, 0, none⟩), .pointer (some ⟨c4, 0, none⟩)]) Tryz.func119 rfl Tryz.ntmps119 rfl rfl ?_
    refine Eng.nc_seq ?_
    refine nc ?_
    refine own_load H 2 rfl (by kernel_rfl) (j := 0) rfl ?_
    refine callV_rule (by kernel_rfl) (members1_own (A := .leaf b p) hT hl1 H) fun u w1 ⟨hu, v', H⟩ => ?_
    subst hu
    obtain ⟨i, hi⟩ := at_mem hT
    have hi4 : (memL cl c3 c4 v' (xs ++ [p]) R)[i + 4]? = some (TrA.leaf b p).top := hi
    refine own_load H (i + 4) hi4 (by kernel_rfl) (j := 1) rfl ?_
    refine neqNil_rule (by kernel_rfl) ?_
    refine Eng.nc_cond (b := false) rfl (fun hc => ?_) (fun hc => ?_)
    · cases hc
    · refine nc ?_
      exact ret_inA [] ⟨_, rfl, v', H⟩
  | two b l r ihl ihr =>
    intro xs v w hA hl H
    have hT := hA _ (TrA.top_mem (.two b l r))
    have hsub : ∀ it ∈ l.items ++ r.items, it ∈ R := fun it h => hA it (List.mem_cons_of_mem _ h)
    have hl' : xs.length + (r.tr.leavesR.length + l.tr.leavesR.length) ≤ 1000000 := by
      have : (TrA.two b l r).tr.leavesR.length = r.tr.leavesR.length + l.tr.leavesR.length := by simp [TrA.tr, Tr.leavesR]
      omega
    refine enterN (args := [(TrA.two b l r).ptr, .pointer (some ⟨c3, 0, none⟩), .pointer (some ⟨c4, 0, none⟩)]) Tryz.func119 rfl Tryz.ntmps119 rfl rfl ?_
    refine Eng.nc_seq ?_
    refine nc ?_
    refine own_load H 2 rfl (by kernel_rfl) (j := 0) rfl ?_
    refine callV_rule (by kernel_rfl) (members1_own (A := .two b l r) hT (by omega) H) fun u w1 ⟨hu, v1, H⟩ => ?_
    subst hu
    replace H : Eng.Own ok w0 w1 (memL cl c3 c4 v1 xs R) := H
    obtain ⟨i, hi⟩ := at_mem hT
    have hi4 : ∀ v xs, (memL cl c3 c4 v xs R)[i + 4]? = some (TrA.two b l r).top := fun v xs => hi
    refine own_load H (i + 4) (hi4 _ _) (by kernel_rfl) (j := 1) (v := .pointer (some ⟨l.root, 0, none⟩)) rfl ?_
    refine neqNil_rule (by kernel_rfl) ?_
    refine Eng.nc_cond (b := true) rfl (fun hc => ?_) (fun hc => ?_)
    · refine Eng.nc_seq ?_
      refine nc ?_
      refine draw_rule [] (by kernel_rfl) (by kernel_rfl) H ?_
      refine c_load 3 rfl (by kernel_rfl) (j := 0) rfl ?_
      refine c_load (i + 4) (hi4 _ _) (by kernel_rfl) (j := 2) (v := r.ptr) rfl ?_
      refine c_callV (fun _ L' => ∃ v', L' = memL cl c3 c4 v' (xs ++ r.tr.leavesR) R) rfl (by kernel_rfl) (fun w H => (ihr (fun it h => hsub it (List.mem_append_right _ h)) (by omega) H).mono fun e w' ⟨u, he, v', H'⟩ => ⟨u, he, _, ⟨v', rfl⟩, H'⟩) fun u L' ⟨v2, hL'⟩ => ?_
      subst hL'
      intro w2 H
      refine nc ?_
      refine draw_rule [] (by kernel_rfl) (by kernel_rfl) H ?_
      refine c_load 3 rfl (by kernel_rfl) (j := 0) rfl ?_
      refine c_load (i + 4) (hi4 _ _) (by kernel_rfl) (j := 1) (v := l.ptr) rfl ?_
      refine c_callV (fun _ L' => ∃ v', L' = memL cl c3 c4 v' ((xs ++ r.tr.leavesR) ++ l.tr.leavesR) R) rfl (by kernel_rfl) (fun w H => (ihl (fun it h => hsub it (List.mem_append_left _ h)) (by rw [List.length_append]; omega) H).mono fun e w' ⟨u, he, v', H'⟩ => ⟨u, he, _, ⟨v', rfl⟩, H'⟩) fun u L' ⟨v3, hL'⟩ => ?_
      subst hL'
      intro w3 H
      refine ret_inA [] ⟨_, rfl, v3, ?_⟩
      rw [List.append_assoc] at H
      exact H
    · cases hc
end Go.Proofs.YtfapphlhkfddoaaGreatDoor.G
/- Whose a tree is, and whether a text is one. -/
namespace Go.Proofs.YtfapphlhkfddoaaGreatDoor.G
open Go.RowKit Go.Eng Go.Proofs Go.Proofs.YtfapphlhkfddoaaGreatDoor.Cut
set_option linter.unusedVariables false
set_option maxRecDepth 20000
variable {ok : Nat → Prop} {w0 w : World} {L R : List Eng.Item}

/-- The first ones, in another order. -/
theorem order_own {A : List Eng.Item} (H : Eng.Own ok w0 w (A ++ R)) (is : List Nat) (hp : (List.range A.length).Perm is) : Eng.Own ok w0 w ((is.map fun i => A.getD i (.blk 0 [] 0)) ++ R) := by
  refine H.perm (List.Perm.append_right R ?_)
  have e : A = (List.range A.length).map fun i => A.getD i (.blk 0 [] 0) := by
    apply List.ext_getElem?
    intro i
    by_cases h : i < A.length
    · simp [h, List.getD_eq_getElem?_getD]
    · simp [h]
  conv => lhs; rw [e]
  exact hp.map _
theorem leavesR_pos (T : Tr) : 0 < T.leavesR.length := by
  induction T with
  | leaf p => simp [Tr.leavesR]
  | two l r ihl ihr => simp only [Tr.leavesR, List.length_append]; omega
set_option maxHeartbeats 4000000 in
theorem nodeMembers_in {A : TrA} (hs : ∀ it ∈ A.items, it ∈ R) (hl : A.tr.leavesR.length ≤ 1000000) (H : Eng.Own ok w0 w R) :
    Calls Tryz.prog 49 #[A.ptr] w fun e w' => ∃ u, e = .returned u ∧ Eng.Own ok w0 w' (.row u 3 1 (sortZ A.tr.leavesR).length (intsV (sortZ A.tr.leavesR)) :: R) := by
  refine enterN (args := [A.ptr]) Tryz.func49 rfl Tryz.ntmps49 rfl rfl ?_
  refine Eng.nc_seq ?_
  refine nc ?_
  refine Eng.nc_seq ?_
  refine nc ?_
  refine own_alloc (z := .slice none 0 0) H (by kernel_rfl) [.slice none 0 0] rfl fun cl w1 H => ?_
  refine Eng.nc_seq ?_
  refine nc ?_
  have hE : Calls Tryz.prog 85 #[A.ptr, doV cl] w1 fun e w' => ∃ u, e = .returned u ∧ ∃ c3 c4 v', Eng.Own ok w0 w' (memL cl c3 c4 v' ([] ++ A.tr.leavesR) R) := by
    refine enterN (args := [A.ptr, doV cl]) Tryz.func85 rfl Tryz.ntmps85 rfl rfl ?_
    refine Eng.nc_seq ?_
    refine nc ?_
    refine own_box H [doV cl] rfl fun c3 w2 H => ?_
    refine Eng.nc_seq ?_
    refine nc ?_
    refine own_alloc (z := .nilFunc) H (by kernel_rfl) [.nilFunc] rfl fun c4 w3 H => ?_
    refine Eng.nc_seq ?_
    refine nc ?_
    refine own_store (t := 169) H 0 rfl (by kernel_rfl) (j := 0) rfl rfl fun w4 H => ?_
    refine nc ?_
    have H0 : Eng.Own ok w0 w4 (memL cl c3 c4 (.slice none 0 0) [] R) :=
      order_own (A := [.row (.slice none 0 0) 3 1 0 [], .blk c4 [walkV c3 c4] 169, .blk c3 [doV cl] 133, .blk cl [.slice none 0 0] 22]) (H.nilRow 3 1) [3, 0, 2, 1] (by show (List.range 4).Perm _; decide)
    refine own_load H0 3 rfl (by kernel_rfl) (j := 0) rfl ?_
    refine callV_rule (by kernel_rfl) (walk_own (R := R) A hs (by simpa using hl) H0) fun u w5 ⟨v', H⟩ => ?_
    exact ret_inA [] ⟨_, rfl, c3, c4, v', H⟩
  refine call_rule (by kernel_rfl) hE fun u w2 ⟨c3, c4, v', H⟩ => ?_
  rw [List.nil_append] at H
  replace H : Eng.Own ok w0 w2 (.blk cl [v'] 22 :: .row v' 3 1 A.tr.leavesR.length (intsV A.tr.leavesR) :: R) := H.less (List.Sublist.cons_cons _ (List.Sublist.cons_cons _ (List.Sublist.cons _ (List.Sublist.cons _ (List.Sublist.refl _)))))
  refine Eng.nc_seq ?_
  refine nc ?_
  refine own_load H 0 rfl (by kernel_rfl) (j := 0) rfl ?_
  refine call_rule (by kernel_rfl) (sort1_own (A := [.blk cl [v'] 22]) (enc := (Value.int .i64)) sortI_at sortZ_len (leavesR_pos _) (by omega) H) fun u w3 ⟨hu, H⟩ => ?_
  subst hu
  replace H : Eng.Own ok w0 w3 (.blk cl [v'] 22 :: .row v' 3 1 A.tr.leavesR.length (intsV (sortZ A.tr.leavesR)) :: R) := H
  refine Eng.nc_seq ?_
  refine nc ?_
  refine own_load H 0 rfl (by kernel_rfl) (j := 0) rfl ?_
  refine nc ?_
  refine ret_inA [v'] ⟨_, rfl, ?_⟩
  rw [sortZ_len]
  exact H.tail
theorem nodeMembers_own {A : TrA} (hl : A.tr.leavesR.length ≤ 1000000) (H : Eng.Own ok w0 w (A.items ++ L)) :
    Calls Tryz.prog 49 #[A.ptr] w fun e w' => ∃ u, e = .returned u ∧ Eng.Own ok w0 w' (.row u 3 1 (sortZ A.tr.leavesR).length (intsV (sortZ A.tr.leavesR)) :: (A.items ++ L)) := nodeMembers_in (fun it h => List.mem_append_left _ h) hl H
/-! Whether a text is a tree. -/
def rowRes : Int → List Int → Int ⊕ Bool
  | last, [] => .inl last
  | last, x :: xs => if x ≤ last ∨ 8 < x then .inr false else rowRes x xs
/-- Do numbers rise, from 1 to 8, and are there any? -/
def rowB (xs : List Int) : Bool := match rowRes 0 xs with
  | .inl l => decide (l > 0)
  | .inr b => b
theorem row_loop (xs : List Int) (hl : xs.length ≤ 1000000000) : ∀ (k i : Nat) (last : Int), i + k = xs.length → loopM (fun s98 : Int × Int => view_Row.b1 xs s98.1 s98.2) (last, (i : Int)) = some (rowRes last (xs.drop i)) := by
  intro k
  induction k with
  | zero =>
    intro i last hi
    rw [List.drop_of_length_le (by omega)]
    refine loop_end ?_
    show view_Row.b1 xs last (i : Int) = _
    unfold view_Row.b1
    rw [decide_eq_false (show ¬ (i : Int) < (xs.length : Int) by omega)]; rfl
  | succ k ih =>
    intro i last hi
    have hil : i < xs.length := by omega
    rw [List.drop_eq_getElem_cons hil]
    unfold rowRes
    have hx : idxL xs (i : Int) = some xs[i] := by rw [idxL_nat, List.getElem?_eq_getElem hil]
    have hw : IntKind.i64.wrap ((i : Int) + (1 : Int)) = ((i + 1 : Nat) : Int) := by rw [Eng.i64_id (by omega) (by omega)]; omega
    have hbody : view_Row.b1 xs last (i : Int) = if xs[i] ≤ last ∨ 8 < xs[i] then some (.inr (.inr false)) else some (.inl (xs[i], ((i + 1 : Nat) : Int))) := by
      unfold view_Row.b1
      rw [decide_eq_true (show (i : Int) < (xs.length : Int) by omega), cond_true, hx, Option.bind_some, hw]
      by_cases h1 : xs[i] ≤ last
      · rw [decide_eq_true h1, if_pos (.inl h1)]; rfl
      · rw [decide_eq_false h1]
        by_cases h2 : 8 < xs[i]
        · rw [decide_eq_true (show xs[i] > 8 from h2), if_pos (.inr h2)]; rfl
        · rw [decide_eq_false (show ¬ xs[i] > 8 from h2), if_neg (fun q => q.elim h1 h2)]; rfl
    by_cases hc : xs[i] ≤ last ∨ 8 < xs[i]
    · rw [if_pos hc] at hbody ⊢; exact loop_end hbody
    · rw [if_neg hc] at hbody ⊢; exact loop_step hbody (ih (i + 1) _ (by omega))
theorem row_eq (xs : List Int) (hl : xs.length ≤ 1000000000) : view_Row.f xs = some (rowB xs) := by
  unfold view_Row.f rowB
  have h := row_loop xs hl xs.length 0 0 (by omega)
  rw [show loopM (fun s98 : Int × Int => view_Row.b1 xs s98.1 s98.2) ((0 : Int), (0 : Int)) = _ from h, List.drop_zero]
  cases rowRes 0 xs <;> rfl
theorem readM_leaves : ∀ (n : Nat) (s : List UInt8) (T : Tr) (r : List UInt8), readM n s = some (T, r) → T.leavesR.length + r.length ≤ s.length
  | 0, s, T, r, h => by simp [readM] at h
  | n + 1, [], T, r, h => by simp [readM] at h
  | n + 1, c :: q, T, r, h => by
    unfold readM at h
    split at h
    · cases h; simp [Tr.leavesR]; omega
    · split at h
      · cases h
      · cases h1 : readM n q with
        | none => rw [h1] at h; cases h
        | some x =>
          obtain ⟨a, r1⟩ := x
          rw [h1] at h
          simp only at h
          cases h2 : readM n r1 with
          | none => rw [h2] at h; cases h
          | some y =>
            obtain ⟨b, r2⟩ := y
            rw [h2] at h
            simp only at h
            have l1 := readM_leaves n q a r1 h1
            have l2 := readM_leaves n r1 b r2 h2
            cases r2 with
            | nil => cases h
            | cons d r3 =>
              simp only at h
              split at h
              · cases h; simp [Tr.leavesR] at l2 ⊢; omega
              · cases h
def ofM (s : List UInt8) : Option Tr := match readM (s.length + 1) s with
  | some (T, []) => if rowB (sortZ T.leavesR) = true then some T else none
  | _ => none
theorem ofM_leaves {s : List UInt8} {T : Tr} (h : ofM s = some T) : T.leavesR.length ≤ s.length := by
  unfold ofM at h
  split at h
  · rename_i T' hr
    split at h
    · cases h
      have := readM_leaves _ _ _ _ hr
      simp at this; omega
    · cases h
  · cases h
def OfR (ok : Nat → Prop) (w0 : World) (L : List Eng.Item) (x : Option Tr) (v : Value) (w' : World) : Prop :=
  match x with
  | none => v = .pointer none ∧ Eng.Own ok w0 w' L
  | some T => ∃ A : TrA, A.tr = T ∧ v = A.ptr ∧ Eng.Own ok w0 w' (A.items ++ L)
theorem rowsR_ints (w : World) (ok : Nat → Prop) : ∀ xs : List Int, rowsR (tInt .i64) w ok xs (intsV xs)
  | [] => rfl
  | x :: xs => ⟨[.int .i64 x], intsV xs, rfl, rfl, rowsR_ints w ok xs⟩
set_option maxHeartbeats 4000000 in
theorem treeOf_own {s : List UInt8} (hs : s.length ≤ 1000000) (H : Eng.Own ok w0 w L) :
    Calls Tryz.prog 48 #[.string (bs s)] w fun e w' => ∃ v, e = .returned v ∧ OfR ok w0 L (ofM s) v w' := by
  refine enterN (args := [.string (bs s)]) Tryz.func48 rfl Tryz.ntmps48 rfl rfl ?_
  refine Eng.nc_seq ?_
  refine nc ?_
  refine Eng.nc_seq ?_
  refine nc ?_
  refine call_rule (by kernel_rfl) (read_own (s.length + 1) s (by omega) H) fun v w1 hR => ?_
  unfold ofM
  cases hr : readM (s.length + 1) s with
  | none =>
    rw [hr] at hR
    obtain ⟨rfl, H⟩ := hR
    refine Eng.nc_seq ?_
    refine nc ?_
    refine eqlNil_rule (by kernel_rfl) ?_
    refine call_skip (.bool false) rfl ?_
    refine call_skip (.bool false) rfl ?_
    refine Eng.nc_cond (b := true) rfl (fun hc => ?_) (fun hc => ?_)
    · refine Eng.nc_seq ?_
      refine nc ?_
      refine nc ?_
      exact ret_inA [.pointer none] ⟨_, rfl, rfl, H⟩
    · cases hc
  | some q =>
    obtain ⟨T, r⟩ := q
    rw [hr] at hR
    obtain ⟨A, hA, rfl, H⟩ := hR
    have hlen := readM_leaves _ _ _ _ hr
    refine Eng.nc_seq ?_
    refine nc ?_
    refine eqlNil_rule (p := some ⟨A.root, 0, none⟩) (by kernel_rfl) ?_
    cases r with
    | cons d r =>
      have hg : ((bs (d :: r)).toList == ({ data := #[] } : ByteArray).toList) = false := by simp [bs_toList]
      refine call_skip (.bool false) (by show (!(!((bs (d :: r)).toList == ({ data := #[] } : ByteArray).toList)) && true) = false; rw [hg]; rfl) ?_
      refine call_skip (.bool false) (by show (!(!((bs (d :: r)).toList == ({ data := #[] } : ByteArray).toList)) && true) = false; rw [hg]; rfl) ?_
      refine Eng.nc_cond (b := cond (!((bs (d :: r)).toList == ({ data := #[] } : ByteArray).toList)) true (!false)) rfl (fun hc => ?_) (fun hc => ?_)
      · refine Eng.nc_seq ?_
        refine nc ?_
        refine nc ?_
        refine ret_inA [.pointer none] ⟨_, rfl, rfl, ?_⟩
        exact H.less (List.sublist_append_right A.items L)
      · rw [hg] at hc; cases hc
    | nil =>
      have hlA : A.tr.leavesR.length ≤ 1000000 := by rw [hA]; simp at hlen; omega
      have hg0 : ((bs []).toList == ({ data := #[] } : ByteArray).toList) = true := by simp [bs_toList]
      refine call_yes (by show (!(!((bs []).toList == ({ data := #[] } : ByteArray).toList)) && true) = true; rw [hg0]; rfl) (by kernel_rfl) (nodeMembers_own hlA H) fun u w2 H => ?_
      have hrow : slR (tInt .i64) w2 (fun _ => True) u (sortZ A.tr.leavesR) := H.rowSlR (k := tInt .i64) 0 rfl (rowsR_ints w2 (fun _ => True) _)
      refine call_yes (by show (!(!((bs []).toList == ({ data := #[] } : ByteArray).toList)) && true) = true; rw [hg0]; rfl) (by kernel_rfl) (view_Row_ok hrow (row_eq _ (by rw [sortZ_len]; omega))) fun v w3 ⟨hv, hb3⟩ => ?_
      subst hv
      replace H := (H.call hb3).tail
      rw [hA]
      refine Eng.nc_cond (b := cond (!((bs []).toList == ({ data := #[] } : ByteArray).toList)) true (!(rowB (sortZ T.leavesR)))) rfl (fun hc => ?_) (fun hc => ?_)
      · refine Eng.nc_seq ?_
        refine nc ?_
        refine nc ?_
        refine ret_inA [.pointer none] ⟨_, rfl, ?_⟩
        rw [hg0] at hc
        simp only
        rw [if_neg (by simpa using hc)]
        exact ⟨rfl, H.less (List.sublist_append_right A.items L)⟩
      · refine nc ?_
        refine Eng.nc_seq ?_
        refine nc ?_
        refine nc ?_
        refine ret_inA [A.ptr] ⟨_, rfl, ?_⟩
        rw [hg0] at hc
        simp only
        rw [if_pos (by simpa using hc)]
        exact ⟨A, hA, rfl, H⟩
/-! What the package tells. -/
set_option maxHeartbeats 2000000 in
theorem treeRight_calls {s : List UInt8} (hs : s.length ≤ 1000000) : Calls Tryz.prog 76 #[.string (bs s)] w fun e w' => ∃ v, e = .returned v ∧ (v = .bool (ofM s).isSome ∧ Bel w.heap.size w w') := by
  have H : Eng.Own (fun _ => False) w w [] := Eng.Own.nil _ w
  refine enterN (args := [.string (bs s)]) Tryz.func76 rfl Tryz.ntmps76 rfl rfl ?_
  refine Eng.nc_seq ?_
  refine nc ?_
  refine Eng.nc_seq ?_
  refine nc ?_
  refine call_rule (by kernel_rfl) (treeOf_own hs H) fun v w1 hR => ?_
  cases ho : ofM s with
  | none =>
    rw [ho] at hR
    obtain ⟨rfl, H⟩ := hR
    refine neqNil_rule (by kernel_rfl) ?_
    refine nc ?_
    exact ret_inA [.bool false] ⟨_, rfl, rfl, H.frame⟩
  | some T =>
    rw [ho] at hR
    obtain ⟨A, hA, rfl, H⟩ := hR
    refine neqNil_rule (p := some ⟨A.root, 0, none⟩) (by kernel_rfl) ?_
    refine nc ?_
    exact ret_inA [.bool true] ⟨_, rfl, rfl, H.frame⟩
/-- The members of a tree, in order; none where it is none. -/
def membersM (s : List UInt8) : List Int := match ofM s with
  | some T => sortZ T.leavesR
  | none => []
set_option maxHeartbeats 2000000 in
theorem treeMembers_calls {s : List UInt8} (hs : s.length ≤ 1000000) : Calls Tryz.prog 14 #[.string (bs s)] w fun e w' => ∃ v, e = .returned v ∧ (slR (tInt .i64) w' (fun b => ok b ∨ w.heap.size ≤ b) v (membersM s) ∧ Bel w.heap.size w w') := by
  have H : Eng.Own ok w w [] := Eng.Own.nil _ w
  refine enterN (args := [.string (bs s)]) Tryz.func14 rfl Tryz.ntmps14 rfl rfl ?_
  refine Eng.nc_seq ?_
  refine nc ?_
  refine Eng.nc_seq ?_
  refine nc ?_
  refine call_rule (by kernel_rfl) (treeOf_own hs H) fun v w1 hR => ?_
  unfold membersM
  cases ho : ofM s with
  | none =>
    rw [ho] at hR
    obtain ⟨rfl, H⟩ := hR
    refine Eng.nc_seq ?_
    refine nc ?_
    refine neqNil_rule (by kernel_rfl) ?_
    refine Eng.nc_cond (b := false) rfl (fun hc => ?_) (fun hc => ?_)
    · cases hc
    · refine nc ?_
      refine Eng.nc_seq ?_
      refine nc ?_
      refine nc ?_
      exact ret_inA [.slice none 0 0] ⟨_, rfl, ⟨none, 0, rfl, Nat.le_refl _, .inl ⟨rfl, fun _ => rfl⟩⟩, H.frame⟩
  | some T =>
    rw [ho] at hR
    obtain ⟨A, hA, rfl, H⟩ := hR
    have hlT := ofM_leaves ho
    have hlA : A.tr.leavesR.length ≤ 1000000 := by rw [hA]; omega
    refine Eng.nc_seq ?_
    refine nc ?_
    refine neqNil_rule (p := some ⟨A.root, 0, none⟩) (by kernel_rfl) ?_
    refine Eng.nc_cond (b := true) rfl (fun hc => ?_) (fun hc => ?_)
    · refine Eng.nc_seq ?_
      refine nc ?_
      refine call_rule (by kernel_rfl) (nodeMembers_own hlA H) fun u w2 H => ?_
      refine nc ?_
      refine ret_inA [u] ⟨_, rfl, ?_, H.frame⟩
      rw [← hA]
      exact H.rowSlRin (k := tInt .i64) (okr := fun _ => False) 0 rfl (rowsR_ints w2 (fun _ => False) _) (fun b h => h.elim) (fun b h => .inr h)
    · cases hc
end Go.Proofs.YtfapphlhkfddoaaGreatDoor.G
/- A tree's two halves. -/
namespace Go.Proofs.YtfapphlhkfddoaaGreatDoor.G
open Go.RowKit Go.Eng Go.Proofs Go.Proofs.YtfapphlhkfddoaaGreatDoor.Cut
set_option linter.unusedVariables false
set_option maxRecDepth 20000
variable {ok : Nat → Prop} {w0 w : World} {L R : List Eng.Item}

def openI (c : UInt8) (o : Int) : Int := if c = 40 then o + 1 else if c = 41 then o - 1 else o
/-- Behind how many bytes the brackets are all shut for the first time. -/
def cutAt : List UInt8 → Int → Nat → Option Nat
  | [], _, _ => none
  | c :: r, o, i => if openI c o = 0 then some (i + 1) else cutAt r (openI c o) (i + 1)
def halvesM (s : List UInt8) : List UInt8 × List UInt8 × Bool :=
  if s.length < 2 then ([], [], false) else
  match cutAt ((s.drop 1).take (s.length - 2)) 0 0 with
  | some k => (((s.drop 1).take (s.length - 2)).take k, ((s.drop 1).take (s.length - 2)).drop k, true)
  | none => ([], [], false)
set_option maxHeartbeats 4000000 in
theorem halves_calls {s : List UInt8} (hs : s.length ≤ 1000000) (ha : ∀ c ∈ s, c.toNat < 128) : Calls Tryz.prog 113 #[.string (bs s)] w fun e w' => ∃ v, e = .returned v ∧ (v = .tuple #[.string (bs (halvesM s).1), .string (bs (halvesM s).2.1), .bool (halvesM s).2.2] ∧ Bel w.heap.size w w') := by
  have H : Eng.Own (fun _ => False) w w [] := Eng.Own.nil _ w
  refine enterN (args := [.string (bs s)]) Tryz.func113 rfl Tryz.ntmps113 rfl rfl ?_
  refine Eng.nc_seq ?_
  refine nc ?_
  refine Eng.nc_seq ?_
  refine Eng.nc_seq ?_
  refine nc ?_
  refine Eng.nc_cond (b := decide (((bs s).size : Int) < 2)) rfl (fun hc => ?_) (fun hc => ?_)
  · refine Eng.nc_seq ?_
    refine nc ?_
    refine nc ?_
    refine ret_inA [.string (bs []), .string (bs []), .bool false] ⟨_, rfl, ?_, H.frame⟩
    have hl : s.length < 2 := by have := of_decide_eq_true hc; rw [bs_size] at this; omega
    unfold halvesM
    rw [if_pos hl]; rfl
  · have hl : ¬ s.length < 2 := by have := of_decide_eq_false hc; rw [bs_size] at this; omega
    have hinner : slcM s (1 : Int) (IntKind.i64.wrap (((bs s).size : Int) - 1)) = some ((s.drop 1).take (s.length - 2)) := by
      rw [bs_size, Eng.i64_id (by omega) (by omega)]
      unfold slcM
      rw [if_pos ⟨by omega, by omega, by omega⟩]
      congr 2
      omega
    generalize hin : (s.drop 1).take (s.length - 2) = inner at hinner
    have hil : inner.length ≤ 1000000 := by rw [← hin, List.length_take]; omega
    have hia : ∀ c ∈ inner, c.toNat < 128 := fun c hc => ha c (List.mem_of_mem_drop (List.mem_of_mem_take (by rw [hin]; exact hc)))
    have hM : halvesM s = match cutAt inner 0 0 with
      | some k => (inner.take k, inner.drop k, true)
      | none => ([], [], false) := by unfold halvesM; rw [if_neg hl, hin]
    rw [hM]
    refine nc ?_
    refine Eng.nc_seq ?_
    refine nc ?_
    refine txtI_rule 1 (IntKind.i64.wrap (((bs s).size : Int) - 1)) (by kernel_rfl) ⟨_, rfl⟩ ⟨_, rfl⟩ hinner ?_
    refine Eng.nc_seq ?_
    refine nc ?_
    refine nc_cut (fun e w' => cutAt inner 0 0 = none ∧ e = [] ∧ Eng.Own (fun _ => False) w w' []) ?_ ?_
    · refine Eng.nc_seq ?_
      refine nc ?_
      refine rangeStr_rule (by kernel_rfl) H fun r w1 H => ?_
      refine Eng.nc_block ?_
      refine nc ?_
      refine loop_ruleA (fun k e w' => ∃ (pos : Nat) (o : Int), pos + k = inner.length + 1 ∧ -1000000 ≤ o + pos ∧ o ≤ pos ∧ -(pos : Int) ≤ o ∧ cutAt inner 0 0 = cutAt (inner.drop pos) o pos ∧ e = [(5, .string (bs inner)), (6, .int .i64 o), (18, .pointer (some ⟨r, 0, none⟩))] ∧ Eng.Own (fun _ => False) w w' [.obj r (· = .stringIter (bs inner) pos)]) (k₀ := inner.length + 1) ⟨0, 0, by omega, by omega, by omega, by omega, rfl, rfl, H⟩ ?_
      rintro k e w2 ⟨pos, o, hk, ho1, ho2, ho3, hcut, rfl, H⟩
      refine Eng.nc_seq ?_
      refine nc ?_
      refine nextStr_rule hia H 0 rfl (fun hend => ?_) (fun c w3 hc H => ?_)
      · refine Eng.nc_seq ?_
        refine Eng.nc_cond (b := false) rfl (fun hc => ?_) (fun hc => ?_)
        · cases hc
        · refine nc ?_
          refine cut_inA ⟨?_, rfl, H.less (List.nil_sublist _)⟩
          rw [hcut, List.drop_of_length_le (by omega)]; rfl
      · have hpl := (List.getElem?_eq_some_iff.1 hc).1
        have hdrop : inner.drop pos = c :: inner.drop (pos + 1) := by
          rw [List.drop_eq_getElem_cons hpl]
          congr 1
          exact (List.getElem?_eq_some_iff.1 hc).2
        have h256 := UInt8.toNat_lt c
        obtain ⟨k, rfl⟩ : ∃ m, k = m + 1 := ⟨k - 1, by omega⟩
        refine Eng.nc_seq ?_
        refine Eng.nc_cond (b := true) rfl (fun hc2 => ?_) (fun hc2 => ?_)
        · refine nc ?_
          refine Eng.nc_block ?_
          refine Eng.nc_seq ?_
          refine nc ?_
          refine nc_cut (fun e w' => ∃ o2, o2 = openI c o ∧ e = [(5, .string (bs inner)), (6, .int .i64 o2), (7, .int .i64 (pos : Int)), (18, .pointer (some ⟨r, 0, none⟩))] ∧ Eng.Own (fun _ => False) w w' [.obj r (· = .stringIter (bs inner) (pos + 1))]) ?_ ?_
          · have hw1 : IntKind.i64.wrap (o + 1) = o + 1 := Eng.i64_id (by omega) (by omega)
            have hw2 : IntKind.i64.wrap (o - 1) = o - 1 := Eng.i64_id (by omega) (by omega)
            refine Eng.nc_seq ?_
            refine nc ?_
            refine Eng.nc_block ?_
            refine Eng.nc_seq ?_
            refine nc ?_
            refine Eng.nc_cond (b := ((c.toNat : Int) == 40)) rfl (fun h1 => ?_) (fun h1 => ?_)
            · have hc40 : c = 40 := UInt8.toNat_inj.1 (by show c.toNat = 40; simp at h1; omega)
              refine nc ?_
              refine cut_inA ⟨_, ?_, rfl, H⟩
              rw [hw1]
              unfold openI
              rw [if_pos hc40]
            · have hc40 : c ≠ 40 := by rintro rfl; cases h1
              refine Eng.nc_seq ?_
              refine nc ?_
              refine Eng.nc_cond (b := ((c.toNat : Int) == 41)) rfl (fun h2 => ?_) (fun h2 => ?_)
              · have hc41 : c = 41 := UInt8.toNat_inj.1 (by show c.toNat = 41; simp at h2; omega)
                refine nc ?_
                refine cut_inA ⟨_, ?_, rfl, H⟩
                rw [hw2]
                unfold openI
                rw [if_neg hc40, if_pos hc41]
              · have hc41 : c ≠ 41 := by rintro rfl; cases h2
                refine nc ?_
                refine cut_inA ⟨_, ?_, rfl, H⟩
                unfold openI
                rw [if_neg hc40, if_neg hc41]
          · rintro _ w4 ⟨_, rfl, rfl, H⟩
            have hstep : cutAt (inner.drop pos) o pos = if openI c o = 0 then some (pos + 1) else cutAt (inner.drop (pos + 1)) (openI c o) (pos + 1) := by rw [hdrop]; rfl
            have hpw : IntKind.i64.wrap ((pos : Int) + 1) = ((pos + 1 : Nat) : Int) := by rw [Eng.i64_id (by omega) (by omega)]; omega
            have hoI : openI c o ≤ ((pos + 1 : Nat) : Int) ∧ -((pos + 1 : Nat) : Int) ≤ openI c o := by
              unfold openI
              split
              · omega
              · split <;> omega
            refine Eng.nc_seq ?_
            refine nc ?_
            refine Eng.nc_cond (b := (openI c o == 0)) rfl (fun h1 => ?_) (fun h1 => ?_)
            · have h0 : openI c o = 0 := by simpa using h1
              rw [if_pos h0] at hstep
              rw [hcut, hstep]
              have s1 : slcM inner (0 : Int) (IntKind.i64.wrap ((pos : Int) + 1)) = some (inner.take (pos + 1)) := by
                rw [hpw]
                unfold slcM
                rw [if_pos ⟨by omega, by omega, by omega⟩]
                simp
              have s2 : slcM inner (IntKind.i64.wrap ((pos : Int) + 1)) (inner.length : Int) = some (inner.drop (pos + 1)) := by
                rw [hpw]
                unfold slcM
                rw [if_pos ⟨by omega, by omega, by omega⟩]
                rw [List.take_of_length_le (by rw [List.length_drop]; omega)]; rfl
              refine Eng.nc_seq ?_
              refine nc ?_
              refine draw_rule [] (by kernel_rfl) (by kernel_rfl) H ?_
              refine c_txtI 0 (IntKind.i64.wrap ((pos : Int) + 1)) (by kernel_rfl) rfl ⟨_, rfl⟩ s1 ?_
              refine c_txtI (IntKind.i64.wrap ((pos : Int) + 1)) (inner.length : Int) (by kernel_rfl) ⟨_, rfl⟩ rfl s2 ?_
              intro w5 H
              refine nc ?_
              exact ret_inA [.string (bs (inner.take (pos + 1))), .string (bs (inner.drop (pos + 1))), .bool true] ⟨_, rfl, rfl, H.frame⟩
            · have h0 : ¬ openI c o = 0 := by simpa using h1
              rw [if_neg h0] at hstep
              refine nc ?_
              exact again_inA ⟨pos + 1, openI c o, by omega, by omega, hoI.1, hoI.2, by rw [hcut, hstep], rfl, H⟩
        · cases hc2
    · rintro _ w2 ⟨hcut, rfl, H⟩
      rw [hcut]
      refine Eng.nc_seq ?_
      refine nc ?_
      refine nc ?_
      exact ret_inA [.string (bs []), .string (bs []), .bool false] ⟨_, rfl, rfl, H.frame⟩
end Go.Proofs.YtfapphlhkfddoaaGreatDoor.G
/- A tree's text, and its halves. -/
namespace Go.Proofs.YtfapphlhkfddoaaGreatDoor.G
open Go.RowKit Go.Eng Go.Proofs Go.Proofs.YtfapphlhkfddoaaGreatDoor.Cut
set_option linter.unusedVariables false
set_option linter.unusedSimpArgs false

def Tr.text : Tr → List UInt8
  | .leaf p => [UInt8.ofNat (p.toNat + 48)]
  | .two l r => 40 :: (l.text ++ (r.text ++ [41]))
def Tr.ok : Tr → Prop
  | .leaf p => 1 ≤ p ∧ p ≤ 8
  | .two l r => l.ok ∧ r.ok
theorem readM_text : ∀ (n : Nat) (s : List UInt8) (T : Tr) (r : List UInt8), readM n s = some (T, r) → s = T.text ++ r ∧ T.ok
  | 0, s, T, r, h => by simp [readM] at h
  | n + 1, [], T, r, h => by simp [readM] at h
  | n + 1, c :: q, T, r, h => by
    unfold readM at h
    split at h
    · rename_i hc
      cases h
      refine ⟨?_, by show 1 ≤ (c.toNat : Int) - 48 ∧ (c.toNat : Int) - 48 ≤ 8; omega⟩
      show c :: q = [UInt8.ofNat (((c.toNat : Int) - 48).toNat + 48)] ++ q
      have e : ((c.toNat : Int) - 48).toNat + 48 = c.toNat := by omega
      rw [e]
      simp
    · split at h
      · cases h
      · rename_i h40
        have hc : c = 40 := by simpa using h40
        subst hc
        cases h1 : readM n q with
        | none => rw [h1] at h; cases h
        | some x =>
          obtain ⟨a, r1⟩ := x
          rw [h1] at h
          simp only at h
          cases h2 : readM n r1 with
          | none => rw [h2] at h; cases h
          | some y =>
            obtain ⟨b, r2⟩ := y
            rw [h2] at h
            simp only at h
            obtain ⟨e1, o1⟩ := readM_text n q a r1 h1
            obtain ⟨e2, o2⟩ := readM_text n r1 b r2 h2
            cases r2 with
            | nil => cases h
            | cons d r3 =>
              simp only at h
              split at h
              · rename_i hd
                cases h
                subst hd
                refine ⟨?_, o1, o2⟩
                rw [e1, e2]
                simp [Tr.text]
              · cases h
theorem text_pos (T : Tr) : 0 < T.text.length := by cases T <;> simp [Tr.text]
theorem digit_toNat {p : Int} (h : 1 ≤ p ∧ p ≤ 8) : (UInt8.ofNat (p.toNat + 48)).toNat = p.toNat + 48 := by
  rw [UInt8.toNat_ofNat']; omega
theorem text_ascii : ∀ (T : Tr), T.ok → ∀ c ∈ T.text, c.toNat < 128
  | .leaf p, h, c, hc => by
    simp only [Tr.text, List.mem_singleton] at hc
    subst hc
    have h' : 1 ≤ p ∧ p ≤ 8 := h
    rw [digit_toNat h']; omega
  | .two l r, h, c, hc => by
    simp only [Tr.text, List.mem_cons, List.mem_append, List.mem_singleton, List.not_mem_nil, or_false] at hc
    rcases hc with rfl | hc | hc | rfl
    · decide
    · exact text_ascii l h.1 c hc
    · exact text_ascii r h.2 c hc
    · decide
theorem openI_digit {p : Int} (h : 1 ≤ p ∧ p ≤ 8) (o : Int) : openI (UInt8.ofNat (p.toNat + 48)) o = o := by
  have hd := digit_toNat h
  unfold openI
  rw [if_neg (by intro e; rw [e] at hd; have : (40 : UInt8).toNat = 40 := rfl; omega), if_neg (by intro e; rw [e] at hd; have : (41 : UInt8).toNat = 41 := rfl; omega)]
theorem cutAt_over : ∀ (T : Tr), T.ok → ∀ (rest : List UInt8) (o : Int) (i : Nat), 0 < o → cutAt (T.text ++ rest) o i = cutAt rest o (i + T.text.length)
  | .leaf p, h, rest, o, i, ho => by
    show (if openI (UInt8.ofNat (p.toNat + 48)) o = 0 then some (i + 1) else cutAt rest (openI (UInt8.ofNat (p.toNat + 48)) o) (i + 1)) = _
    have h' : 1 ≤ p ∧ p ≤ 8 := h
    rw [openI_digit h', if_neg (by omega)]
    rfl
  | .two l r, h, rest, o, i, ho => by
    have e : (Tr.two l r).text ++ rest = 40 :: (l.text ++ (r.text ++ (41 :: rest))) := by simp [Tr.text]
    rw [e]
    show (if openI 40 o = 0 then some (i + 1) else cutAt (l.text ++ (r.text ++ (41 :: rest))) (openI 40 o) (i + 1)) = _
    have e1 : openI 40 o = o + 1 := rfl
    rw [e1, if_neg (by omega), cutAt_over l h.1 _ _ _ (by omega), cutAt_over r h.2 _ _ _ (by omega)]
    show (if openI 41 (o + 1) = 0 then _ else cutAt rest (openI 41 (o + 1)) (i + 1 + l.text.length + r.text.length + 1)) = _
    have e2 : openI 41 (o + 1) = o := by show o + 1 - 1 = o; omega
    rw [e2, if_neg (by omega)]
    congr 1
    simp [Tr.text]; omega
theorem cutAt_first : ∀ (T : Tr), T.ok → ∀ (rest : List UInt8) (i : Nat), cutAt (T.text ++ rest) 0 i = some (i + T.text.length)
  | .leaf p, h, rest, i => by
    show (if openI (UInt8.ofNat (p.toNat + 48)) 0 = 0 then some (i + 1) else _) = _
    have h' : 1 ≤ p ∧ p ≤ 8 := h
    rw [openI_digit h', if_pos rfl]
    rfl
  | .two l r, h, rest, i => by
    have e : (Tr.two l r).text ++ rest = 40 :: (l.text ++ (r.text ++ (41 :: rest))) := by simp [Tr.text]
    rw [e]
    show (if openI 40 0 = 0 then some (i + 1) else cutAt (l.text ++ (r.text ++ (41 :: rest))) (openI 40 0) (i + 1)) = _
    have e1 : openI 40 0 = 1 := rfl
    rw [e1, if_neg (by omega), cutAt_over l h.1 _ _ _ (by omega), cutAt_over r h.2 _ _ _ (by omega)]
    show (if openI 41 1 = 0 then some (i + 1 + l.text.length + r.text.length + 1) else _) = _
    have e2 : openI 41 1 = 0 := rfl
    rw [e2, if_pos rfl]
    congr 1
    simp [Tr.text]; omega
theorem halves_leaf (p : Int) : halvesM (Tr.leaf p).text = ([], [], false) := by
  unfold halvesM; rw [if_pos (by simp [Tr.text])]
theorem halves_two {l r : Tr} (h : (Tr.two l r).ok) : halvesM (Tr.two l r).text = (l.text, r.text, true) := by
  have hl := text_pos l
  have hr := text_pos r
  unfold halvesM
  rw [if_neg (by simp [Tr.text]; omega)]
  have e : ((Tr.two l r).text.drop 1).take ((Tr.two l r).text.length - 2) = l.text ++ r.text := by
    simp only [Tr.text, List.drop_succ_cons, List.drop_zero, List.length_cons, List.length_append, List.length_nil]
    rw [← List.append_assoc, List.take_left' (by simp)]
  rw [e, cutAt_first l h.1]
  simp only [Nat.zero_add]
  rw [List.take_left, List.drop_left]
/-- All nodes, with what stands there: a node ahead of those below it. -/
def nodesT (pre : List UInt8) : Tr → List (List UInt8 × List UInt8)
  | .leaf p => [(pre, (Tr.leaf p).text)]
  | .two l r => (pre, (Tr.two l r).text) :: (nodesT (pre ++ [108]) l ++ nodesT (pre ++ [114]) r)
theorem ofM_text {s : List UInt8} {T : Tr} (h : ofM s = some T) : s = T.text ∧ T.ok := by
  unfold ofM at h
  split at h
  · rename_i T' hr
    split at h
    · cases h
      have := readM_text _ _ _ _ hr
      rw [List.append_nil] at this
      exact this
    · cases h
  · cases h
end Go.Proofs.YtfapphlhkfddoaaGreatDoor.G
/- The nodes of a tree, one behind the other. -/
namespace Go.Proofs.YtfapphlhkfddoaaGreatDoor.G
open Go.RowKit Go.Eng Go.Proofs Go.Proofs.YtfapphlhkfddoaaGreatDoor.Cut
set_option linter.unusedVariables false
set_option maxRecDepth 20000
variable {ok : Nat → Prop} {w0 w : World} {L R : List Eng.Item}

theorem below_own {node t : List UInt8} (H : Eng.Own ok w0 w L) :
    Calls Tryz.prog 77 #[.string (bs node), .string (bs t)] w fun e w' => ∃ v, e = .returned v ∧ ∃ bn bt, v = .func (.func 112) #[] #[.pointer (some ⟨bn, 0, none⟩), .pointer (some ⟨bt, 0, none⟩)] ∧ Eng.Own ok w0 w' ([.blk bn [.string (bs node)] 9, .blk bt [.string (bs t)] 25] ++ L) := by
  refine enterN (args := [.string (bs node), .string (bs t)]) Tryz.func77 rfl Tryz.ntmps77 rfl rfl ?_
  refine Eng.nc_seq ?_
  refine nc ?_
  refine own_box H [.string (bs node)] rfl fun bn w1 H => ?_
  refine own_box H [.string (bs t)] rfl fun bt w2 H => ?_
  refine Eng.nc_seq ?_
  refine nc ?_
  refine nc ?_
  exact ret_inA [_] ⟨_, rfl, bn, bt, rfl, order_own (A := [_, _]) H [1, 0] (by show (List.range 2).Perm _; decide)⟩
abbrev enc2 (x : List UInt8 × List UInt8) : List Value := [.string (bs x.1), .string (bs x.2)]
set_option maxHeartbeats 8000000 in
theorem below_iter : ∀ (T : Tr) (pre : List UInt8) (bn bt : Nat), T.ok → pre.length + T.text.length ≤ 1000000 → ∀ {ok : Nat → Prop} {w0 : World},
    IterAt Tryz.prog ok w0 112 #[.pointer (some ⟨bn, 0, none⟩), .pointer (some ⟨bt, 0, none⟩)] enc2 (fun l => l = nodesT pre T) (fun p => ∃ rest, p ++ rest = nodesT pre T) [.blk bn [.string (bs pre)] 9, .blk bt [.string (bs T.text)] 25] := by
  intro T
  induction T with
  | leaf p =>
    intro pre bn bt hok hlen ok w0 lp I Ix hY W L h0 H
    have ea : (#[Value.func (.yield lp) #[] #[]] ++ #[Value.pointer (some ⟨bn, 0, none⟩), .pointer (some ⟨bt, 0, none⟩)] : Array Value) = [Value.func (.yield lp) #[] #[], .pointer (some ⟨bn, 0, none⟩), .pointer (some ⟨bt, 0, none⟩)].toArray := rfl
    rw [ea]
    refine enterN (args := [.func (.yield lp) #[] #[], .pointer (some ⟨bn, 0, none⟩), .pointer (some ⟨bt, 0, none⟩)]) Tryz.func112 rfl Tryz.ntmps112 rfl rfl ?_
    refine Eng.nc_seq ?_
    refine nc ?_
    refine own_box H [.func (.yield lp) #[] #[]] rfl fun by_ w1 H => ?_
    refine Eng.nc_seq ?_
    refine Eng.nc_seq ?_
    refine nc ?_
    refine own_load H 0 rfl (by kernel_rfl) (j := 0) rfl ?_
    refine own_load H 1 rfl (by kernel_rfl) (j := 0) rfl ?_
    refine own_load H 2 rfl (by kernel_rfl) (j := 0) rfl ?_
    have hnil : nodesT pre (Tr.leaf p) = [(pre, (Tr.leaf p).text)] := rfl
    refine yield_rule (hY [.blk by_ [.func (.yield lp) #[] #[]] 157, .blk bn [.string (bs pre)] 9, .blk bt [.string (bs (Tr.leaf p).text)] 25] [] (pre, (Tr.leaf p).text) L _ ⟨[], rfl⟩ h0 (Eng.Own.swap (A := [_, _, _]) H)) fun v w2 hv => ?_
    rcases hv with ⟨rfl, L2, hI2, H⟩ | ⟨rfl, L2, hI2, H⟩
    · replace H : Eng.Own ok w0 w2 (.blk by_ [.func (.yield lp) #[] #[]] 157 :: .blk bn [.string (bs pre)] 9 :: .blk bt [.string (bs (Tr.leaf p).text)] 25 :: L2) := Eng.Own.swap (B := [_, _, _]) H
      refine Eng.nc_cond (b := false) rfl (fun hc => ?_) (fun hc => ?_)
      · cases hc
      refine nc ?_
      refine Eng.nc_seq ?_
      refine nc ?_
      refine own_load H 2 rfl (by kernel_rfl) (j := 0) rfl ?_
      refine call_rule (by kernel_rfl) (halves_calls (s := (Tr.leaf p).text) (by omega) (text_ascii _ hok)) fun v w3 ⟨hv, hb3⟩ => ?_
      subst hv
      replace H := H.call hb3
      rw [halves_leaf]
      refine Eng.nc_seq ?_
      refine nc ?_
      refine Eng.nc_cond (b := true) rfl (fun hc => ?_) (fun hc => ?_)
      · refine nc ?_
        exact ret_inA [] ⟨_, rfl, .inl ⟨[(pre, (Tr.leaf p).text)], L2, hnil, hI2, H.tail⟩⟩
      · cases hc
    · replace H : Eng.Own ok w0 w2 (.blk by_ [.func (.yield lp) #[] #[]] 157 :: .blk bn [.string (bs pre)] 9 :: .blk bt [.string (bs (Tr.leaf p).text)] 25 :: L2) := Eng.Own.swap (B := [_, _, _]) H
      refine Eng.nc_cond (b := true) rfl (fun hc => ?_) (fun hc => ?_)
      · refine nc ?_
        exact ret_inA [] ⟨_, rfl, .inr ⟨[(pre, (Tr.leaf p).text)], L2, ⟨[], rfl⟩, hI2, H.tail⟩⟩
      · cases hc
  | two l r ihl ihr =>
    intro pre bn bt hok hlen ok w0 lp I Ix hY W L h0 H
    have ea : (#[Value.func (.yield lp) #[] #[]] ++ #[Value.pointer (some ⟨bn, 0, none⟩), .pointer (some ⟨bt, 0, none⟩)] : Array Value) = [Value.func (.yield lp) #[] #[], .pointer (some ⟨bn, 0, none⟩), .pointer (some ⟨bt, 0, none⟩)].toArray := rfl
    rw [ea]
    generalize hX : (pre, (Tr.two l r).text) = x0 at *
    have hx1 : x0.1 = pre := by rw [← hX]
    have hx2 : x0.2 = (Tr.two l r).text := by rw [← hX]
    have hnodes : nodesT pre (Tr.two l r) = x0 :: (nodesT (pre ++ [108]) l ++ nodesT (pre ++ [114]) r) := by rw [← hX]; rfl
    have hlen2 : pre.length + (l.text.length + r.text.length + 2) ≤ 1000000 := by simp only [Tr.text, List.length_cons, List.length_append, List.length_nil] at hlen; omega
    refine enterN (args := [.func (.yield lp) #[] #[], .pointer (some ⟨bn, 0, none⟩), .pointer (some ⟨bt, 0, none⟩)]) Tryz.func112 rfl Tryz.ntmps112 rfl rfl ?_
    refine Eng.nc_seq ?_
    refine nc ?_
    refine own_box H [.func (.yield lp) #[] #[]] rfl fun by_ w1 H => ?_
    refine Eng.nc_seq ?_
    refine Eng.nc_seq ?_
    refine nc ?_
    refine own_load H 0 rfl (by kernel_rfl) (j := 0) rfl ?_
    refine own_load H 1 rfl (by kernel_rfl) (j := 0) rfl ?_
    refine own_load H 2 rfl (by kernel_rfl) (j := 0) rfl ?_
    have hyield : ∀ {K : Value → World → Prop} {W : World} {Lo T' : List Eng.Item} {p : List (List UInt8 × List UInt8)} {x : List UInt8 × List UInt8}, (∃ rest, (p ++ [x]) ++ rest = nodesT pre (Tr.two l r)) → I p Lo → Eng.Own ok w0 W (Lo ++ T') →
        (∀ v w', ((v = .bool true ∧ ∃ L', I (p ++ [x]) L' ∧ Eng.Own ok w0 w' (L' ++ T')) ∨ (v = .bool false ∧ ∃ L', Ix (p ++ [x]) L' ∧ Eng.Own ok w0 w' (L' ++ T'))) → K v w') → nCallV Tryz.prog true (.func (.yield lp) #[] #[]) (enc2 x) W K := fun h1 h2 h3 hk => yield_rule (hY _ _ _ _ _ h1 h2 h3) hk
    have hargs : ([.string (bs pre), .string (bs (Tr.two l r).text)] : List Value) = enc2 x0 := by rw [← hX]
    refine (show ∀ {K : Value → World → Prop}, nCallV Tryz.prog true (.func (.yield lp) #[] #[]) (enc2 x0) w1 K → nCallV Tryz.prog true (.func (.yield lp) #[] #[]) [.string (bs pre), .string (bs (Tr.two l r).text)] w1 K from fun h => by rw [hargs]; exact h) ?_
    refine hyield (p := []) ⟨nodesT (pre ++ [108]) l ++ nodesT (pre ++ [114]) r, hnodes.symm⟩ h0 (Eng.Own.swap (A := [_, _, _]) H) fun v w2 hv => ?_
    rcases hv with ⟨rfl, L2, hI2, H⟩ | ⟨rfl, L2, hI2, H⟩
    · replace H : Eng.Own ok w0 w2 (.blk by_ [.func (.yield lp) #[] #[]] 157 :: .blk bn [.string (bs pre)] 9 :: .blk bt [.string (bs (Tr.two l r).text)] 25 :: L2) := Eng.Own.swap (B := [_, _, _]) H
      refine Eng.nc_cond (b := false) rfl (fun hc => ?_) (fun hc => ?_)
      · cases hc
      refine nc ?_
      refine Eng.nc_seq ?_
      refine nc ?_
      refine own_load H 2 rfl (by kernel_rfl) (j := 0) rfl ?_
      refine call_rule (by kernel_rfl) (halves_calls (s := (Tr.two l r).text) (by omega) (text_ascii _ hok)) fun v w3 ⟨hv, hb3⟩ => ?_
      subst hv
      replace H := H.call hb3
      rw [halves_two hok]
      refine Eng.nc_seq ?_
      refine nc ?_
      refine Eng.nc_cond (b := false) rfl (fun hc => ?_) (fun hc => ?_)
      · cases hc
      refine nc ?_
      refine nc_cutD (fun ds e w' => ∃ D L3, ds = [D] ∧ I (x0 :: nodesT (pre ++ [108]) l) L3 ∧ e = [(1, .pointer (some ⟨bn, 0, none⟩)), (2, .pointer (some ⟨bt, 0, none⟩)), (3, .pointer (some ⟨by_, 0, none⟩)), (5, .string (bs r.text))] ∧ Eng.Own ok w0 w' (.obj D isDef :: .blk by_ [.func (.yield lp) #[] #[]] 157 :: .blk bn [.string (bs pre)] 9 :: .blk bt [.string (bs (Tr.two l r).text)] 25 :: L3)) ?_ ?_
      · refine Eng.nc_seq ?_
        refine nc ?_
        refine own_load H 1 rfl (by kernel_rfl) (j := 0) rfl ?_
        refine catM_rule (a := pre) (b := [108]) (by simp; omega) ?_
        refine call_rule (by kernel_rfl) (below_own H) fun v w4 ⟨bn2, bt2, hv, H⟩ => ?_
        subst hv
        have H0 : Eng.Own ok w0 w4 ([.blk bn2 [.string (bs (pre ++ [108]))] 9, .blk bt2 [.string (bs l.text)] 25] ++ (.blk by_ [.func (.yield lp) #[] #[]] 157 :: .blk bn [.string (bs pre)] 9 :: .blk bt [.string (bs (Tr.two l r).text)] 25 :: L2)) := H
        refine Eng.nc_block ?_
        refine range_rule (I := fun p1 L1 => ∃ Lo, I ([x0] ++ p1) Lo ∧ L1 = .blk by_ [.func (.yield lp) #[] #[]] 157 :: .blk bn [.string (bs pre)] 9 :: .blk bt [.string (bs (Tr.two l r).text)] 25 :: Lo) (Ix := fun c p1 L1 => c = .ret ∧ ∃ Lo, Ix ([x0] ++ p1) Lo ∧ L1 = .blk by_ [.func (.yield lp) #[] #[]] 157 :: .blk bn [.string (bs pre)] 9 :: .blk bt [.string (bs (Tr.two l r).text)] 25 :: Lo) rfl (by kernel_rfl) (fun _ => rfl) rfl (ihl (pre ++ [108]) bn2 bt2 hok.1 (by rw [List.length_append]; simp; omega)) H0 ⟨L2, hI2, rfl⟩ ?_ ?_ ?_
        · rintro l1 φ T1 p1 x L1 W1 hφ ⟨rest, hrest⟩ ⟨Lo, hIo, rfl⟩ H
          refine Eng.nc_seq ?_
          refine nc ?_
          refine nc ?_
          refine rGo_in (.blk by_ [.func (.yield lp) #[] #[]] 157 :: .blk bn [.string (bs pre)] 9 :: .blk bt [.string (bs (Tr.two l r).text)] 25 :: Lo) H fun w5 φ2 hφ2 H => ?_
          refine Eng.nc_block ?_
          refine Eng.nc_seq ?_
          refine nc ?_
          refine own_load H 0 rfl (by kernel_rfl) (j := 0) rfl ?_
          refine hyield (p := [x0] ++ p1) (x := x) (Lo := Lo) (T' := [.blk by_ [.func (.yield lp) #[] #[]] 157, .blk bn [.string (bs pre)] 9, .blk bt [.string (bs (Tr.two l r).text)] 25] ++ .obj l1 φ2 :: T1) ⟨rest ++ nodesT (pre ++ [114]) r, ?_⟩ hIo ?_ fun v w6 hv => ?_
          · rw [hnodes, ← hrest]; simp
          · exact H.perm (List.perm_append_comm_assoc [_, _, _] Lo _)
          have hback : ∀ {Lo' : List Eng.Item} {w' : World}, Eng.Own ok w0 w' (Lo' ++ ([.blk by_ [.func (.yield lp) #[] #[]] 157, .blk bn [.string (bs pre)] 9, .blk bt [.string (bs (Tr.two l r).text)] 25] ++ .obj l1 φ2 :: T1)) → Eng.Own ok w0 w' ((.blk by_ [.func (.yield lp) #[] #[]] 157 :: .blk bn [.string (bs pre)] 9 :: .blk bt [.string (bs (Tr.two l r).text)] 25 :: Lo') ++ .obj l1 φ2 :: T1) := fun h => h.perm (List.perm_append_comm_assoc _ [_, _, _] _)
          rcases hv with ⟨rfl, Lo2, hIo2, H⟩ | ⟨rfl, Lo2, hIo2, H⟩
          · refine Eng.nc_cond (b := false) rfl (fun hc => ?_) (fun hc => ?_)
            · cases hc
            refine nc ?_
            exact rEnd_in _ ⟨Lo2, by rw [← List.append_assoc]; exact hIo2, rfl⟩ (hback H)
          · refine Eng.nc_cond (b := true) rfl (fun hc => ?_) (fun hc => ?_)
            · refine nc ?_
              exact rEnd_in _ ⟨rfl, Lo2, by rw [← List.append_assoc]; exact hIo2, rfl⟩ (hback H)
            · cases hc
        · rintro D W1 L1 xs rfl ⟨Lo, hIo, rfl⟩ H
          refine cutD_in (e' := [(1, .pointer (some ⟨bn, 0, none⟩)), (2, .pointer (some ⟨bt, 0, none⟩)), (3, .pointer (some ⟨by_, 0, none⟩)), (5, .string (bs r.text))]) ⟨rfl, rfl, rfl, rfl, trivial⟩ ⟨D, Lo, rfl, hIo, rfl, H.less (List.Sublist.cons_cons _ (List.Sublist.cons _ (List.Sublist.cons _ (List.Sublist.refl _))))⟩
        · rintro D W1 L1 p1 c ⟨rest, hrest⟩ ⟨rfl, Lo, hIo, rfl⟩ H
          refine nc ?_
          refine ret_own H 0 rfl fun w' H => ?_
          refine ret_inA [] ⟨_, rfl, .inr ⟨[x0] ++ p1, Lo, ⟨rest ++ nodesT (pre ++ [114]) r, ?_⟩, hIo, H.less (List.Sublist.cons _ (List.Sublist.cons _ (List.Sublist.cons _ (List.Sublist.cons _ (List.Sublist.refl _)))))⟩⟩
          rw [hnodes, ← hrest]; simp
      · rintro _ _ w3 ⟨D0, L3, rfl, hI3, rfl, H⟩
        refine Eng.nc_seq ?_
        refine nc ?_
        refine own_load H 2 rfl (by kernel_rfl) (j := 0) rfl ?_
        refine catM_rule (a := pre) (b := [114]) (by simp; omega) ?_
        refine call_rule (by kernel_rfl) (below_own H) fun v w4 ⟨bn2, bt2, hv, H⟩ => ?_
        subst hv
        have H0 : Eng.Own ok w0 w4 ([.blk bn2 [.string (bs (pre ++ [114]))] 9, .blk bt2 [.string (bs r.text)] 25] ++ (.obj D0 isDef :: .blk by_ [.func (.yield lp) #[] #[]] 157 :: .blk bn [.string (bs pre)] 9 :: .blk bt [.string (bs (Tr.two l r).text)] 25 :: L3)) := H
        refine Eng.nc_block ?_
        refine range_rule (I := fun p1 L1 => ∃ Lo, I ((x0 :: nodesT (pre ++ [108]) l) ++ p1) Lo ∧ L1 = .obj D0 isDef :: .blk by_ [.func (.yield lp) #[] #[]] 157 :: .blk bn [.string (bs pre)] 9 :: .blk bt [.string (bs (Tr.two l r).text)] 25 :: Lo) (Ix := fun c p1 L1 => c = .ret ∧ ∃ Lo, Ix ((x0 :: nodesT (pre ++ [108]) l) ++ p1) Lo ∧ L1 = .obj D0 isDef :: .blk by_ [.func (.yield lp) #[] #[]] 157 :: .blk bn [.string (bs pre)] 9 :: .blk bt [.string (bs (Tr.two l r).text)] 25 :: Lo) rfl (by kernel_rfl) (fun _ => rfl) rfl (ihr (pre ++ [114]) bn2 bt2 hok.2 (by rw [List.length_append]; simp; omega)) H0 ⟨L3, (by rw [List.append_nil]; exact hI3), rfl⟩ ?_ ?_ ?_
        · rintro l1 φ T1 p1 x L1 W1 hφ ⟨rest, hrest⟩ ⟨Lo, hIo, rfl⟩ H
          refine Eng.nc_seq ?_
          refine nc ?_
          refine nc ?_
          refine rGo_in (.obj D0 isDef :: .blk by_ [.func (.yield lp) #[] #[]] 157 :: .blk bn [.string (bs pre)] 9 :: .blk bt [.string (bs (Tr.two l r).text)] 25 :: Lo) H fun w5 φ2 hφ2 H => ?_
          refine Eng.nc_block ?_
          refine Eng.nc_seq ?_
          refine nc ?_
          refine own_load H 1 rfl (by kernel_rfl) (j := 0) rfl ?_
          refine hyield (p := (x0 :: nodesT (pre ++ [108]) l) ++ p1) (x := x) (Lo := Lo) (T' := [.obj D0 isDef, .blk by_ [.func (.yield lp) #[] #[]] 157, .blk bn [.string (bs pre)] 9, .blk bt [.string (bs (Tr.two l r).text)] 25] ++ .obj l1 φ2 :: T1) ⟨rest, ?_⟩ hIo ?_ fun v w6 hv => ?_
          · rw [hnodes, ← hrest]; simp
          · exact H.perm (List.perm_append_comm_assoc [_, _, _, _] Lo _)
          have hback : ∀ {Lo' : List Eng.Item} {w' : World}, Eng.Own ok w0 w' (Lo' ++ ([.obj D0 isDef, .blk by_ [.func (.yield lp) #[] #[]] 157, .blk bn [.string (bs pre)] 9, .blk bt [.string (bs (Tr.two l r).text)] 25] ++ .obj l1 φ2 :: T1)) → Eng.Own ok w0 w' ((.obj D0 isDef :: .blk by_ [.func (.yield lp) #[] #[]] 157 :: .blk bn [.string (bs pre)] 9 :: .blk bt [.string (bs (Tr.two l r).text)] 25 :: Lo') ++ .obj l1 φ2 :: T1) := fun h => h.perm (List.perm_append_comm_assoc _ [_, _, _, _] _)
          rcases hv with ⟨rfl, Lo2, hIo2, H⟩ | ⟨rfl, Lo2, hIo2, H⟩
          · refine Eng.nc_cond (b := false) rfl (fun hc => ?_) (fun hc => ?_)
            · cases hc
            refine nc ?_
            exact rEnd_in _ ⟨Lo2, by rw [← List.append_assoc]; exact hIo2, rfl⟩ (hback H)
          · refine Eng.nc_cond (b := true) rfl (fun hc => ?_) (fun hc => ?_)
            · refine nc ?_
              exact rEnd_in _ ⟨rfl, Lo2, by rw [← List.append_assoc]; exact hIo2, rfl⟩ (hback H)
            · cases hc
        · rintro D W1 L1 xs rfl ⟨Lo, hIo, rfl⟩ H
          refine ret_own H 0 rfl fun w' H => ?_
          refine ret_own H 3 rfl fun w' H => ?_
          refine ret_inA [] ⟨_, rfl, .inl ⟨_, Lo, hnodes.symm, hIo, H.less (List.Sublist.cons _ (List.Sublist.cons _ (List.Sublist.cons _ (List.Sublist.cons _ (List.Sublist.cons _ (List.Sublist.refl _))))))⟩⟩
        · rintro D W1 L1 p1 c ⟨rest, hrest⟩ ⟨rfl, Lo, hIo, rfl⟩ H
          refine nc ?_
          refine ret_own H 0 rfl fun w' H => ?_
          refine ret_own H 3 rfl fun w' H => ?_
          refine ret_inA [] ⟨_, rfl, .inr ⟨(x0 :: nodesT (pre ++ [108]) l) ++ p1, Lo, ⟨rest, ?_⟩, hIo, H.less (List.Sublist.cons _ (List.Sublist.cons _ (List.Sublist.cons _ (List.Sublist.cons _ (List.Sublist.cons _ (List.Sublist.refl _))))))⟩⟩
          rw [hnodes, ← hrest]; simp
    · replace H : Eng.Own ok w0 w2 (.blk by_ [.func (.yield lp) #[] #[]] 157 :: .blk bn [.string (bs pre)] 9 :: .blk bt [.string (bs (Tr.two l r).text)] 25 :: L2) := Eng.Own.swap (B := [_, _, _]) H
      refine Eng.nc_cond (b := true) rfl (fun hc => ?_) (fun hc => ?_)
      · refine nc ?_
        exact ret_inA [] ⟨_, rfl, .inr ⟨[x0], L2, ⟨_, hnodes.symm⟩, hI2, H.tail⟩⟩
      · cases hc
end Go.Proofs.YtfapphlhkfddoaaGreatDoor.G
/- What stands at a node. -/
namespace Go.Proofs.YtfapphlhkfddoaaGreatDoor.G
open Go.RowKit Go.Eng Go.Proofs Go.Proofs.YtfapphlhkfddoaaGreatDoor.Cut
set_option linter.unusedVariables false
set_option maxRecDepth 20000
variable {ok : Nat → Prop} {w0 w : World} {L R : List Eng.Item}

def atM (s node : List UInt8) : List UInt8 × Int := match ofM s with
  | none => ([], 1)
  | some T => match (nodesT [] T).find? (fun x => decide (x.1 = node)) with
    | some x => (x.2, 0)
    | none => ([], 8)
set_option maxHeartbeats 4000000 in
theorem placeAt_calls {s node : List UInt8} (hs : s.length ≤ 900000) : Calls Tryz.prog 51 #[.string (bs s), .string (bs node)] w fun e w' => ∃ v, e = .returned v ∧ (v = .tuple #[.string (bs (atM s node).1), .int .i64 (atM s node).2] ∧ Bel w.heap.size w w') := by
  have H : Eng.Own (fun _ => False) w w [] := Eng.Own.nil _ w
  refine enterN (args := [.string (bs s), .string (bs node)]) Tryz.func51 rfl Tryz.ntmps51 rfl rfl ?_
  refine Eng.nc_seq ?_
  refine nc ?_
  refine own_box H [.string (bs node)] rfl fun bn w1 H => ?_
  refine own_alloc (z := .string (bs [])) H (by kernel_rfl) [.string (bs [])] rfl fun c4 w2 H => ?_
  refine own_alloc (z := .int .i64 0) H (by kernel_rfl) [.int .i64 0] rfl fun c5 w3 H => ?_
  refine Eng.nc_seq ?_
  refine Eng.nc_seq ?_
  refine nc ?_
  refine call_rule (by kernel_rfl) (treeRight_calls (s := s) (by omega)) fun v w4 ⟨hv, hb⟩ => ?_
  subst hv
  replace H := H.call hb
  unfold atM
  cases ho : ofM s with
  | none =>
    refine Eng.nc_cond (b := true) rfl (fun hc => ?_) (fun hc => ?_)
    · refine Eng.nc_seq ?_
      refine nc ?_
      refine own_store (t := 25) H 1 rfl (by kernel_rfl) (j := 0) rfl rfl fun w5 H => ?_
      refine own_store (t := 29) H 0 rfl (by kernel_rfl) (j := 0) rfl rfl fun w6 H => ?_
      refine nc ?_
      exact ret_of [.string (bs []), .int .i64 1] ⟨⟨_, rfl, load1_run (by kernel_rfl) (H.cell 1 rfl 0 rfl)⟩, ⟨_, rfl, load1_run (by kernel_rfl) (H.cell 0 rfl 0 rfl)⟩, trivial⟩ ⟨_, rfl, rfl, H.frame⟩
    · cases hc
  | some T =>
    obtain ⟨hT, hok⟩ := ofM_text ho
    refine Eng.nc_cond (b := false) rfl (fun hc => ?_) (fun hc => ?_)
    · cases hc
    refine nc ?_
    have hlenT : T.text.length ≤ 900000 := by rw [← hT]; exact hs
    simp only
    refine nc_cutD (fun ds e w' => ∃ D, ds = [D] ∧ (nodesT [] T).find? (fun x => decide (x.1 = node)) = none ∧ e = [(4, .pointer (some ⟨c4, 0, none⟩)), (5, .pointer (some ⟨c5, 0, none⟩))] ∧ Eng.Own (fun _ => False) w w' [.obj D isDef, .blk c5 [.int .i64 0] 29, .blk c4 [.string (bs [])] 25]) ?_ ?_
    · refine Eng.nc_seq ?_
      refine nc ?_
      refine call_rule (by kernel_rfl) (below_own (node := []) (t := s) H) fun v w5 ⟨bn2, bt2, hv, H⟩ => ?_
      subst hv
      rw [hT] at H
      refine Eng.nc_block ?_
      refine range_rule (I := fun p1 L1 => (∀ x ∈ p1, x.1 ≠ node) ∧ L1 = [.blk c5 [.int .i64 0] 29, .blk c4 [.string (bs [])] 25, .blk bn [.string (bs node)] 9]) (Ix := fun c p1 L1 => c = .ret ∧ ∃ p2 x, p1 = p2 ++ [x] ∧ (∀ x ∈ p2, x.1 ≠ node) ∧ x.1 = node ∧ L1 = [.blk c5 [.int .i64 0] 29, .blk c4 [.string (bs x.2)] 25, .blk bn [.string (bs node)] 9]) rfl (by kernel_rfl) (fun _ => rfl) rfl (below_iter T [] bn2 bt2 hok (by simp; omega)) H ⟨fun x hx => by simp at hx, rfl⟩ ?_ ?_ ?_
      · rintro l1 φ T1 p1 x L1 W1 hφ ⟨rest, hrest⟩ ⟨hne, rfl⟩ H
        refine Eng.nc_seq ?_
        refine nc ?_
        refine nc ?_
        refine rGo_in [.blk c5 [.int .i64 0] 29, .blk c4 [.string (bs [])] 25, .blk bn [.string (bs node)] 9] H fun w5 φ2 hφ2 H => ?_
        refine Eng.nc_block ?_
        refine Eng.nc_seq ?_
        refine nc ?_
        refine own_load H 2 rfl (by kernel_rfl) (j := 0) rfl ?_
        refine Eng.nc_cond (b := ((bs x.1).toList == (bs node).toList)) rfl (fun hc => ?_) (fun hc => ?_)
        · have hx : x.1 = node := by simpa [bs_toList] using hc
          refine Eng.nc_seq ?_
          refine nc ?_
          refine own_store (t := 25) H 1 rfl (by kernel_rfl) (j := 0) rfl rfl fun w6 H => ?_
          refine own_store (t := 29) H 0 rfl (by kernel_rfl) (j := 0) rfl rfl fun w7 H => ?_
          refine nc ?_
          exact rEnd_in [.blk c5 [.int .i64 0] 29, .blk c4 [.string (bs x.2)] 25, .blk bn [.string (bs node)] 9] ⟨rfl, p1, x, rfl, hne, hx, rfl⟩ H
        · have hx : x.1 ≠ node := by simpa [bs_toList] using hc
          refine nc ?_
          refine rEnd_in [.blk c5 [.int .i64 0] 29, .blk c4 [.string (bs [])] 25, .blk bn [.string (bs node)] 9] ⟨?_, rfl⟩ H
          intro y hy
          rcases List.mem_append.1 hy with q | q
          · exact hne y q
          · rw [List.mem_singleton.1 q]; exact hx
      · rintro D W1 L1 xs rfl ⟨hne, rfl⟩ H
        refine cutD_in (e' := [(4, .pointer (some ⟨c4, 0, none⟩)), (5, .pointer (some ⟨c5, 0, none⟩))]) ⟨rfl, rfl, trivial⟩ ⟨D, rfl, ?_, rfl, H.pickL [0, 3, 4] rfl⟩
        exact List.find?_eq_none.2 fun x hx => by simpa using hne x hx
      · rintro D W1 L1 p1 c ⟨rest, hrest⟩ ⟨rfl, p2, x, rfl, hne, hx, rfl⟩ H
        refine nc ?_
        refine ret_own H 0 rfl fun w' H => ?_
        have hf : (nodesT [] T).find? (fun x => decide (x.1 = node)) = some x := by
          rw [← hrest, List.append_assoc, List.find?_append, List.find?_eq_none.2 (fun y hy => by simpa using hne y hy)]
          simp [hx]
        rw [hf]
        exact ret_of [.string (bs x.2), .int .i64 0] ⟨⟨_, rfl, load1_run (by kernel_rfl) (H.cell 4 rfl 0 rfl)⟩, ⟨_, rfl, load1_run (by kernel_rfl) (H.cell 3 rfl 0 rfl)⟩, trivial⟩ ⟨_, rfl, rfl, H.frame⟩
    · rintro _ _ w5 ⟨D, rfl, hf, rfl, H⟩
      rw [hf]
      refine Eng.nc_seq ?_
      refine nc ?_
      refine own_store (t := 25) H 2 rfl (by kernel_rfl) (j := 0) rfl rfl fun w6 H => ?_
      refine own_store (t := 29) H 1 rfl (by kernel_rfl) (j := 0) rfl rfl fun w7 H => ?_
      refine nc ?_
      refine ret_own H 0 rfl fun w' H => ?_
      exact ret_of [.string (bs []), .int .i64 8] ⟨⟨_, rfl, load1_run (by kernel_rfl) (H.cell 2 rfl 0 rfl)⟩, ⟨_, rfl, load1_run (by kernel_rfl) (H.cell 1 rfl 0 rfl)⟩, trivial⟩ ⟨_, rfl, rfl, H.frame⟩
end Go.Proofs.YtfapphlhkfddoaaGreatDoor.G
/- What stands in a right tree is one; where it stands. -/
namespace Go.Proofs.YtfapphlhkfddoaaGreatDoor.G
open Go.RowKit Go.Eng Go.Proofs Go.Proofs.YtfapphlhkfddoaaGreatDoor.Cut
set_option linter.unusedVariables false
set_option linter.unusedSimpArgs false

theorem rowRes_iff : ∀ (xs : List Int) (last : Int), (∃ l, rowRes last xs = .inl l ∧ (l > 0 ↔ (xs ≠ [] ∨ 0 < last)) ∧ (∀ x ∈ xs, last < x ∧ x ≤ 8) ∧ xs.Pairwise (· < ·)) ∨ (rowRes last xs = .inr false ∧ ¬ ((∀ x ∈ xs, last < x ∧ x ≤ 8) ∧ xs.Pairwise (· < ·))) ∨ last < 0
  | [], last => by
    by_cases h : last < 0
    · exact .inr (.inr h)
    · exact .inl ⟨last, rfl, by simp, fun x hx => by simp at hx, List.Pairwise.nil⟩
  | x :: xs, last => by
    by_cases h0 : last < 0
    · exact .inr (.inr h0)
    unfold rowRes
    by_cases hc : x ≤ last ∨ 8 < x
    · rw [if_pos hc]
      refine .inr (.inl ⟨rfl, fun ⟨h1, h2⟩ => ?_⟩)
      have := h1 x List.mem_cons_self
      omega
    · rw [if_neg hc]
      rcases rowRes_iff xs x with ⟨l, h1, h2, h3, h4⟩ | ⟨h1, h2⟩ | h
      · refine .inl ⟨l, h1, ?_, ?_, ?_⟩
        · constructor
          · intro _; exact .inl (by simp)
          · intro _; exact h2.2 (.inr (by omega))
        · intro y hy
          rcases List.mem_cons.1 hy with q | q
          · subst q; omega
          · have := h3 y q; omega
        · exact List.pairwise_cons.2 ⟨fun y hy => (h3 y hy).1, h4⟩
      · refine .inr (.inl ⟨h1, fun ⟨g1, g2⟩ => h2 ⟨?_, (List.pairwise_cons.1 g2).2⟩⟩)
        intro y hy
        exact ⟨(List.pairwise_cons.1 g2).1 y hy, (g1 y (List.mem_cons_of_mem _ hy)).2⟩
      · omega
theorem rowB_iff (xs : List Int) : rowB xs = true ↔ (xs ≠ [] ∧ (∀ x ∈ xs, 0 < x ∧ x ≤ 8) ∧ xs.Pairwise (· < ·)) := by
  unfold rowB
  rcases rowRes_iff xs 0 with ⟨l, h1, h2, h3, h4⟩ | ⟨h1, h2⟩ | h
  · rw [h1]
    simp only [decide_eq_true_eq]
    rw [h2]
    constructor
    · intro h; exact ⟨h.elim id (fun h => absurd h (by omega)), h3, h4⟩
    · intro h; exact .inl h.1
  · rw [h1]
    constructor
    · intro h; cases h
    · intro h; exact absurd ⟨h.2.1, h.2.2⟩ h2
  · omega
theorem sortZ_perm (xs : List Int) : (sortZ xs).Perm xs := List.mergeSort_perm _ _
theorem sortZ_le (xs : List Int) : (sortZ xs).Pairwise (· ≤ ·) := by
  have h := List.pairwise_mergeSort (le := fun x y : Int => decide (x ≤ y)) (by intro a b c h1 h2; simp at *; omega) (by intro a b; simp; omega) xs
  exact h.imp (by intro a b h; simpa using h)
theorem rowB_sort (xs : List Int) : rowB (sortZ xs) = true ↔ (xs ≠ [] ∧ (∀ x ∈ xs, 0 < x ∧ x ≤ 8) ∧ xs.Nodup) := by
  rw [rowB_iff]
  have hp := sortZ_perm xs
  constructor
  · rintro ⟨h1, h2, h3⟩
    refine ⟨fun h => h1 (by rw [h] at hp ⊢; exact hp.eq_nil), fun x hx => h2 x (hp.mem_iff.2 hx), ?_⟩
    exact hp.nodup_iff.1 (h3.imp (fun h => by omega))
  · rintro ⟨h1, h2, h3⟩
    refine ⟨fun h => h1 (by rw [h] at hp; exact hp.symm.eq_nil), fun x hx => h2 x (hp.mem_iff.1 hx), ?_⟩
    have hn : (sortZ xs).Nodup := hp.nodup_iff.2 h3
    exact (sortZ_le xs).imp₂ (fun a b h1 h2 => by omega) hn
theorem readM_full : ∀ (T : Tr) (r : List UInt8) (n : Nat), T.ok → T.text.length ≤ n → readM n (T.text ++ r) = some (T, r)
  | .leaf p, r, n, h, hn => by
    have h' : 1 ≤ p ∧ p ≤ 8 := h
    obtain ⟨m, rfl⟩ : ∃ m, n = m + 1 := ⟨n - 1, by simp [Tr.text] at hn; omega⟩
    show (if 49 ≤ (UInt8.ofNat (p.toNat + 48)).toNat ∧ _ then some (Tr.leaf (((UInt8.ofNat (p.toNat + 48)).toNat : Int) - 48), r) else _) = _
    rw [digit_toNat h', if_pos (by omega)]
    congr 3
    omega
  | .two a b, r, n, h, hn => by
    have e : (Tr.two a b).text ++ r = 40 :: (a.text ++ (b.text ++ (41 :: r))) := by simp [Tr.text]
    simp only [Tr.text, List.length_cons, List.length_append, List.length_nil] at hn
    obtain ⟨m, rfl⟩ : ∃ m, n = m + 1 := ⟨n - 1, by omega⟩
    rw [e]
    unfold readM
    rw [if_neg (by decide), if_neg (by decide), readM_full a _ m h.1 (by omega)]
    simp only
    rw [readM_full b _ m h.2 (by omega)]
    simp
theorem ofM_iff {T : Tr} (hok : T.ok) : ofM T.text = if T.leavesR.Nodup then some T else none := by
  unfold ofM
  have h := readM_full T [] (T.text.length + 1) hok (by omega)
  rw [List.append_nil] at h
  rw [h]
  simp only
  have hl : ∀ (T : Tr), T.ok → ∀ x ∈ T.leavesR, 0 < x ∧ x ≤ 8 := by
    intro T
    induction T with
    | leaf p => intro h x hx; simp [Tr.leavesR] at hx; subst hx; have h' : 1 ≤ x ∧ x ≤ 8 := h; omega
    | two l r ihl ihr => intro h x hx; simp [Tr.leavesR] at hx; exact hx.elim (ihr h.2 x) (ihl h.1 x)
  by_cases hn : T.leavesR.Nodup
  · rw [if_pos hn, if_pos ((rowB_sort _).2 ⟨fun h => by have := leavesR_pos T; rw [h] at this; simp at this, hl T hok, hn⟩)]
  · rw [if_neg hn, if_neg (fun h => hn ((rowB_sort _).1 h).2.2)]
/-- The tree that stands at a node. -/
def subT : Tr → List UInt8 → Option Tr
  | T, [] => some T
  | .leaf _, _ :: _ => none
  | .two l r, c :: p => if c = 108 then subT l p else if c = 114 then subT r p else none
theorem find_other (pre : List UInt8) (c d : UInt8) (h : c ≠ d) (p : List UInt8) : ∀ (T : Tr), (∀ x ∈ nodesT (pre ++ [c]) T, ∃ q, x.1 = pre ++ (c :: q)) → (nodesT (pre ++ [c]) T).find? (fun x => decide (x.1 = pre ++ (d :: p))) = none := by
  intro T hT
  refine List.find?_eq_none.2 fun x hx => ?_
  obtain ⟨q, hq⟩ := hT x hx
  rw [hq]
  simp [h]
theorem nodes_pre : ∀ (T : Tr) (pre : List UInt8), ∀ x ∈ nodesT pre T, ∃ q, x.1 = pre ++ q
  | .leaf p, pre, x, hx => by simp [nodesT] at hx; subst hx; exact ⟨[], by simp⟩
  | .two l r, pre, x, hx => by
    simp only [nodesT, List.mem_cons, List.mem_append] at hx
    rcases hx with rfl | hx | hx
    · exact ⟨[], by simp⟩
    · obtain ⟨q, hq⟩ := nodes_pre l _ x hx; exact ⟨[108] ++ q, by rw [hq]; simp⟩
    · obtain ⟨q, hq⟩ := nodes_pre r _ x hx; exact ⟨[114] ++ q, by rw [hq]; simp⟩
theorem find_sub : ∀ (T : Tr) (pre p : List UInt8), (nodesT pre T).find? (fun x => decide (x.1 = pre ++ p)) = (subT T p).map (fun S => (pre ++ p, S.text))
  | .leaf q, pre, [] => by simp [nodesT, subT]
  | .leaf q, pre, c :: p => by simp [nodesT, subT]
  | .two l r, pre, [] => by simp [nodesT, subT]
  | .two l r, pre, c :: p => by
    have h0 : (nodesT pre (Tr.two l r)).find? (fun x => decide (x.1 = pre ++ (c :: p))) = ((nodesT (pre ++ [108]) l).find? (fun x => decide (x.1 = pre ++ (c :: p)))).or ((nodesT (pre ++ [114]) r).find? (fun x => decide (x.1 = pre ++ (c :: p)))) := by
      simp [nodesT, List.find?_append]
    rw [h0]
    have hpl : ∀ (d : UInt8) (T : Tr), ∀ x ∈ nodesT (pre ++ [d]) T, ∃ q, x.1 = pre ++ (d :: q) := fun d T x hx => by
      obtain ⟨q, hq⟩ := nodes_pre T _ x hx
      exact ⟨q, by rw [hq]; simp⟩
    by_cases h1 : c = 108
    · subst h1
      have := find_sub l (pre ++ [108]) p
      simp only [List.append_assoc, List.singleton_append] at this
      rw [this, find_other pre 114 108 (by decide) p r (hpl 114 r)]
      simp [subT]
    · rw [find_other pre 108 c (fun h => h1 h.symm) p l (hpl 108 l), Option.none_or]
      by_cases h2 : c = 114
      · subst h2
        have := find_sub r (pre ++ [114]) p
        simp only [List.append_assoc, List.singleton_append] at this
        rw [this]
        simp [subT]
      · rw [find_other pre 114 c (fun h => h2 h.symm) p r (hpl 114 r)]
        simp [subT, h1, h2]
theorem at_sub {s : List UInt8} {T : Tr} (h : ofM s = some T) (p : List UInt8) : atM s p = match subT T p with | some S => (S.text, 0) | none => ([], 8) := by
  unfold atM
  rw [h]
  simp only
  have := find_sub T [] p
  simp only [List.nil_append] at this
  rw [this]
  cases subT T p <;> rfl
theorem subT_ok : ∀ (T : Tr) (p : List UInt8) (S : Tr), subT T p = some S → T.ok → S.ok
  | T, [], S, h, hok => by cases T <;> (simp [subT] at h; subst h; exact hok)
  | .leaf _, _ :: _, S, h, hok => by simp [subT] at h
  | .two l r, c :: p, S, h, hok => by
    unfold subT at h
    split at h
    · exact subT_ok l p S h hok.1
    · split at h
      · exact subT_ok r p S h hok.2
      · cases h
theorem subT_nodup : ∀ (T : Tr) (p : List UInt8) (S : Tr), subT T p = some S → T.leavesR.Nodup → S.leavesR.Nodup ∧ ∀ x ∈ S.leavesR, x ∈ T.leavesR
  | T, [], S, h, hn => by cases T <;> (simp [subT] at h; subst h; exact ⟨hn, fun x hx => hx⟩)
  | .leaf _, _ :: _, S, h, hn => by simp [subT] at h
  | .two l r, c :: p, S, h, hn => by
    have hn' := List.nodup_append.1 (show (r.leavesR ++ l.leavesR).Nodup from hn)
    unfold subT at h
    split at h
    · obtain ⟨h1, h2⟩ := subT_nodup l p S h hn'.2.1
      exact ⟨h1, fun x hx => List.mem_append_right _ (h2 x hx)⟩
    · split at h
      · obtain ⟨h1, h2⟩ := subT_nodup r p S h hn'.1
        exact ⟨h1, fun x hx => List.mem_append_left _ (h2 x hx)⟩
      · cases h
theorem subT_len : ∀ (T : Tr) (p : List UInt8) (S : Tr), subT T p = some S → S.text.length ≤ T.text.length
  | T, [], S, h => by cases T <;> (simp [subT] at h; subst h; exact Nat.le_refl _)
  | .leaf _, _ :: _, S, h => by simp [subT] at h
  | .two l r, c :: p, S, h => by
    unfold subT at h
    have e : (Tr.two l r).text.length = l.text.length + r.text.length + 2 := by simp [Tr.text]; omega
    split at h
    · have := subT_len l p S h; omega
    · split at h
      · have := subT_len r p S h; omega
      · cases h
theorem ofM_nodup {s : List UInt8} {T : Tr} (h : ofM s = some T) : T.leavesR.Nodup := by
  obtain ⟨hs, hok⟩ := ofM_text h
  rw [hs, ofM_iff hok] at h
  split at h
  · assumption
  · cases h
end Go.Proofs.YtfapphlhkfddoaaGreatDoor.G
/- The secret of a tree's root. -/
namespace Go.Proofs.YtfapphlhkfddoaaGreatDoor.G
open Go.RowKit Go.Eng Go.Proofs Go.Proofs.YtfapphlhkfddoaaGreatDoor.Cut
set_option linter.unusedVariables false
set_option maxRecDepth 20000
variable {ok : Nat → Prop} {w0 w : World} {L R : List Eng.Item}

theorem index_eq (xs : List Int) (p : Int) (hl : xs.length ≤ 1000000000) (hp : p ∈ xs) : ∃ i : Nat, i < xs.length ∧ xs[i]? = some p ∧ slices_Index_int_int.f xs p = some (i : Int) := by
  have key : ∀ k i, i + k = xs.length → p ∈ xs.drop i → ∃ j : Nat, j < xs.length ∧ xs[j]? = some p ∧ loopM (fun s91 : Int => slices_Index_int_int.b1 xs p s91) (i : Int) = some (.inr (j : Int)) := by
    intro k
    induction k with
    | zero => intro i hi h; rw [List.drop_of_length_le (by omega)] at h; simp at h
    | succ k ih =>
      intro i hi h
      have hil : i < xs.length := by omega
      rw [List.drop_eq_getElem_cons hil] at h
      have hx : idxL xs (i : Int) = some xs[i] := by rw [idxL_nat, List.getElem?_eq_getElem hil]
      have hw : IntKind.i64.wrap ((i : Int) + (1 : Int)) = ((i + 1 : Nat) : Int) := by rw [Eng.i64_id (by omega) (by omega)]; omega
      by_cases he : p = xs[i]
      · refine ⟨i, hil, by rw [List.getElem?_eq_getElem hil, he], loop_end ?_⟩
        unfold slices_Index_int_int.b1
        rw [decide_eq_true (show (i : Int) < (xs.length : Int) by omega), cond_true, hx, Option.bind_some, show (p == xs[i]) = true by simp [he]]; rfl
      · obtain ⟨j, h1, h2, h3⟩ := ih (i + 1) (by omega) (by rcases List.mem_cons.1 h with q | q; exact absurd q he; exact q)
        refine ⟨j, h1, h2, loop_step ?_ h3⟩
        show slices_Index_int_int.b1 xs p (i : Int) = _
        unfold slices_Index_int_int.b1
        rw [decide_eq_true (show (i : Int) < (xs.length : Int) by omega), cond_true, hx, Option.bind_some, show (p == xs[i]) = false by simp [he], hw]; rfl
  obtain ⟨j, h1, h2, h3⟩ := key xs.length 0 (by omega) (by simpa using hp)
  refine ⟨j, h1, h2, ?_⟩
  unfold slices_Index_int_int.f
  rw [show loopM (fun s91 : Int => slices_Index_int_int.b1 xs p s91) (0 : Int) = _ from h3]; rfl
end Go.Proofs.YtfapphlhkfddoaaGreatDoor.G
/- Walks, printed by a program of this proof's own. -/
namespace Go.Proofs.YtfapphlhkfddoaaGreatDoor.G
open Go.RowKit Go.Eng Go.Proofs
set_option linter.unusedVariables false
set_option maxRecDepth 20000
/-! gemot/gemotlaw15.shown -/
end Go.Proofs.YtfapphlhkfddoaaGreatDoor.G
/- A row as a term: list.Put, and what it leans on. -/
namespace Go.Proofs.YtfapphlhkfddoaaGreatDoor.Cut
open Go.RowKit Go.Eng Go.Proofs
set_option linter.unusedVariables false
set_option maxRecDepth 20000

abbrev Tx := List UInt8
def idxOf {α : Type} (t : α → Bool) (l : List α) : Int := match l.findIdx? t with | some i => (i : Int) | none => -1
variable {ok : Nat → Prop} {w0 w : World} {L : List Eng.Item}

set_option maxHeartbeats 1000000 in
theorem IndexTerm_own (H : Eng.Own ok w0 w L) (i : Nat) {v : Value} {ls : List Tx} (hi : L[i]? = some (.dat (dSl tStr v ls))) (hl : ls.length ≤ 140737488355328) {f : FuncId} {cap : Array Value} (t : Tx → Bool) (hb : bodyB Tryz.prog f = true)
    (hf : ∀ (w' : World) (x : Tx), x ∈ ls → Eng.Own ok w0 w' L → Calls Tryz.prog f ((#[] ++ [Value.string (bs x)].toArray) ++ cap) w' fun e w'' => ∃ r, e = .returned r ∧ (r = .bool (t x) ∧ Bel w'.heap.size w' w'')) :
    Calls Tryz.prog 186 #[v, .func (.func f) #[] cap] w fun e w' => ∃ r, e = .returned r ∧ (r = .int .i64 (idxOf t ls) ∧ Eng.Own ok w0 w' L) := by
  obtain ⟨A, c, hA, hc⟩ := H.sl i hi
  subst hA
  refine enter (args := [.slice A ls.length c, .func (.func f) #[] cap]) Tryz.func186 rfl Tryz.ntmps186 rfl rfl ?_
  try refine nc ?_
  try refine nc ?_
  refine loop_rule (fun k e w' => ∃ j : Nat, j + k = ls.length ∧ e = [(0, .slice A ls.length c), (1, .func (.func f) #[] cap), (7, .int .i64 (ls.length : Nat)), (8, .int .i64 (j : Int))] ∧ (∀ q (h : q < ls.length), q < j → t ls[q] = false) ∧ Eng.Own ok w0 w' L) ls.length [(0, .slice A ls.length c), (1, .func (.func f) #[] cap), (7, .int .i64 (ls.length : Nat)), (8, .int .i64 ((0 : Nat) : Int))] ⟨rfl, rfl, rfl, rfl, trivial⟩ ⟨0, by omega, rfl, fun q _ h => by omega, H⟩ ?_
  rintro k e w' ⟨j, hjk, rfl, ht, H⟩
  try refine nc ?_
  try refine nc ?_
  refine cond_of (fun hc => ?_) (fun hc => ?_)
  · have hlt : j < ls.length := by have := of_decide_eq_true hc; omega
    try refine nc ?_
    try refine nc ?_
    obtain ⟨a, c', cs, hA, hR, H'⟩ := H.elem i hi j hlt
    cases hA
    have hR : cs = [.string (bs ls[j])] := hR
    subst hR
    refine indexAddr_rule (e := 28) 1 j (by kernel_rfl) (by kernel_rfl) (fun _ => hlt) ?_
    refine own_loadD H' 0 rfl 0 (by kernel_rfl) rfl ?_
    refine callV_rule hb (hf w' ls[j] (List.getElem_mem hlt) H) fun v w2 ⟨hv, hbel⟩ => ?_
    subst hv
    replace H := H.call hbel
    try refine nc ?_
    try refine nc ?_
    refine cond_of (fun hd => ?_) (fun hd => ?_)
    · try refine nc ?_
      try refine nc ?_
      refine ret_of [.int .i64 (j : Nat)] ⟨rfl, trivial⟩ ⟨_, rfl, ?_, H⟩
      have : ls.findIdx? t = some j := List.findIdx?_eq_some_iff_getElem.2 ⟨hlt, hd, fun q hq => by simpa using ht q (by omega) hq⟩
      unfold idxOf; rw [this]; rfl
    · try refine nc ?_
      try refine nc ?_
      refine again_in (k - 1) (by omega) [(0, .slice (some a) ls.length c), (1, .func (.func f) #[] cap), (7, .int .i64 (ls.length : Nat)), (8, .int .i64 ((j + 1 : Nat) : Int))] ⟨rfl, rfl, rfl, ?_, trivial⟩ ⟨j + 1, by omega, rfl, fun q hq hq2 => ?_, H⟩
      · show some (Value.int .i64 (IntKind.i64.wrap ((j : Int) + 1))) = _
        rw [Eng.i64_id (by omega) (by omega)]; rfl
      · by_cases h : q = j
        · subst h; exact hd
        · exact ht q hq (by omega)
  · have hge : j = ls.length := by have := of_decide_eq_false hc; omega
    try refine nc ?_
    try refine nc ?_
    refine ret_of [.int .i64 (-1)] ⟨rfl, trivial⟩ ⟨_, rfl, ?_, H⟩
    have : ls.findIdx? t = none := List.findIdx?_eq_none_iff.2 fun x hx => by
      obtain ⟨q, hq, rfl⟩ := List.mem_iff_getElem.1 hx
      exact ht q hq (by omega)
    unfold idxOf; rw [this]; rfl
theorem idxOf_any {α : Type} (t : α → Bool) (l : List α) : decide (idxOf t l ≥ 0) = l.any t := by
  unfold idxOf
  cases h : l.findIdx? t with
  | none =>
    have := List.findIdx?_eq_none_iff.1 h
    have e : l.any t = false := by rw [List.any_eq_false]; intro x hx; simpa using this x hx
    rw [e]; rfl
  | some i =>
    obtain ⟨hi, ht, _⟩ := List.findIdx?_eq_some_iff_getElem.1 h
    have e : l.any t = true := List.any_eq_true.2 ⟨_, List.getElem_mem hi, ht⟩
    rw [e]; simp
theorem ContainsTerm_own (H : Eng.Own ok w0 w L) (i : Nat) {v : Value} {ls : List Tx} (hi : L[i]? = some (.dat (dSl tStr v ls))) (hl : ls.length ≤ 140737488355328) {f : FuncId} {cap : Array Value} (t : Tx → Bool) (hb : bodyB Tryz.prog f = true)
    (hf : ∀ (w' : World) (x : Tx), x ∈ ls → Eng.Own ok w0 w' L → Calls Tryz.prog f ((#[] ++ [Value.string (bs x)].toArray) ++ cap) w' fun e w'' => ∃ r, e = .returned r ∧ (r = .bool (t x) ∧ Bel w'.heap.size w' w'')) :
    Calls Tryz.prog 144 #[v, .func (.func f) #[] cap] w fun e w' => ∃ r, e = .returned r ∧ (r = .bool (ls.any t) ∧ Eng.Own ok w0 w' L) := by
  refine enter (args := [v, .func (.func f) #[] cap]) Tryz.func144 rfl Tryz.ntmps144 rfl rfl ?_
  try refine nc ?_
  try refine nc ?_
  refine call_rule (by kernel_rfl) (IndexTerm_own H i hi hl t hb hf) fun r w1 ⟨hr, H⟩ => ?_
  subst hr
  try refine nc ?_
  try refine nc ?_
  refine ret_of [.bool (decide (idxOf t ls ≥ 0))] ⟨rfl, trivial⟩ ⟨_, rfl, by rw [← idxOf_any]; rfl, H⟩

/-! A list from behind. -/
def backS (ls : List Tx) (xs : List (Int × Tx)) : Prop := xs.map (·.2) = ls.reverse
def backSp (ls : List Tx) (pre : List (Int × Tx)) : Prop := ∃ j, pre.map (·.2) = (ls.drop j).reverse
abbrev encB (p : Int × Tx) : List Value := [.int .i64 p.1, .string (bs p.2)]
set_option maxHeartbeats 2000000 in
theorem back_iter {b : Nat} {ls : List Tx} {v : Value} (hl : ls.length ≤ 140737488355328) : IterAt Tryz.prog ok w0 210 #[.pointer (some ⟨b, 0, none⟩)] encB (backS ls) (backSp ls) [.blk b [v] 32, .dat (dSl tStr v ls)] := by
  intro lp I Ix hY W L h0 H
  have ea : (#[Value.func (.yield lp) #[] #[]] ++ #[Value.pointer (some ⟨b, 0, none⟩)] : Array Value) = [Value.func (.yield lp) #[] #[], .pointer (some ⟨b, 0, none⟩)].toArray := rfl
  rw [ea]
  obtain ⟨A, c, hA, hc⟩ := H.sl 1 rfl
  subst hA
  replace H : Eng.Own ok w0 W (.blk b [.slice A ls.length c] 32 :: .dat (dSl tStr (.slice A ls.length c) ls) :: L) := H
  refine enter (args := [.func (.yield lp) #[] #[], .pointer (some ⟨b, 0, none⟩)]) Tryz.func210 rfl Tryz.ntmps210 rfl rfl ?_
  try refine nc ?_
  refine own_load H 0 rfl (by kernel_rfl) (j := 0) rfl ?_
  try refine nc ?_
  refine loop_rule (fun k e w => ∃ pre L', pre.map (·.2) = (ls.drop k).reverse ∧ k ≤ ls.length ∧ I pre L' ∧ e = [(0, .func (.yield lp) #[] #[]), (1, .pointer (some ⟨b, 0, none⟩)), (3, .int .i64 ((k : Int) - 1))] ∧
      Eng.Own ok w0 w (.blk b [.slice A ls.length c] 32 :: .dat (dSl tStr (.slice A ls.length c) ls) :: L')) ls.length [(0, .func (.yield lp) #[] #[]), (1, .pointer (some ⟨b, 0, none⟩)), (3, .int .i64 ((ls.length : Int) - 1))] ⟨rfl, rfl, ?_, trivial⟩
    ⟨[], L, by simp, Nat.le_refl _, h0, rfl, H⟩ ?_
  · show some (Value.int .i64 (IntKind.i64.wrap (((ls.length : Nat) : Int) - 1))) = _
    rw [Eng.i64_id (by omega) (by omega)]
  rintro k e w ⟨pre, L', hpre, hk, hI, rfl, H⟩
  try refine nc ?_
  try refine nc ?_
  refine cond_of (fun hc => ?_) (fun hc => ?_)
  · have hk0 : 0 < k := by have := of_decide_eq_true hc; omega
    obtain ⟨m, rfl⟩ : ∃ m, k = m + 1 := ⟨k - 1, by omega⟩
    have hlt : m < ls.length := by omega
    have em : (((m + 1 : Nat) : Int) - 1) = (m : Int) := by omega
    rw [em]
    try refine nc ?_
    try refine nc ?_
    refine own_load H 0 rfl (by kernel_rfl) (j := 0) rfl ?_
    obtain ⟨a, c', cs, hA, hR, H'⟩ := H.elem 1 rfl m hlt
    cases hA
    have hR : cs = [.string (bs ls[m])] := hR
    subst hR
    refine indexAddr_rule (e := 28) 1 m (by kernel_rfl) (by kernel_rfl) (fun _ => hlt) ?_
    refine own_loadD H' 0 rfl 0 (by kernel_rfl) rfl ?_
    have hsp : backSp ls (pre ++ [((m : Int), ls[m])]) := ⟨m, by rw [List.map_append, hpre, List.drop_eq_getElem_cons hlt, List.reverse_cons]; rfl⟩
    have hpre2 : (pre ++ [((m : Int), ls[m])]).map (·.2) = (ls.drop m).reverse := by rw [List.map_append, hpre, List.drop_eq_getElem_cons hlt, List.reverse_cons]; rfl
    refine yield_rule (hY [.blk b [.slice (some a) ls.length c] 32, .dat (dSl tStr (.slice (some a) ls.length c) ls)] pre ((m : Int), ls[m]) L' _ hsp hI (Eng.Own.swap (A := [_, _]) H)) fun v w5 hv => ?_
    rcases hv with ⟨rfl, L2, hI2, H⟩ | ⟨rfl, L2, hI2, H⟩
    · replace H : Eng.Own ok w0 w5 (.blk b [.slice (some a) ls.length c] 32 :: .dat (dSl tStr (.slice (some a) ls.length c) ls) :: L2) := Eng.Own.swap (B := [_, _]) H
      try refine nc ?_
      try refine nc ?_
      refine cond_no rfl ?_
      try refine nc ?_
      refine again_in m (by omega) [(0, .func (.yield lp) #[] #[]), (1, .pointer (some ⟨b, 0, none⟩)), (3, .int .i64 ((m : Int) - 1))] ⟨rfl, rfl, ?_, trivial⟩ ⟨_, L2, hpre2, by omega, hI2, rfl, H⟩
      show some (Value.int .i64 (IntKind.i64.wrap ((m : Int) - 1))) = _
      rw [Eng.i64_id (by omega) (by omega)]
    · replace H : Eng.Own ok w0 w5 (.blk b [.slice (some a) ls.length c] 32 :: .dat (dSl tStr (.slice (some a) ls.length c) ls) :: L2) := Eng.Own.swap (B := [_, _]) H
      try refine nc ?_
      try refine nc ?_
      refine cond_yes rfl ?_
      try refine nc ?_
      exact ret_of [] trivial ⟨_, rfl, .inr ⟨_, L2, hsp, hI2, H⟩⟩
  · have hk0 : k = 0 := by have := of_decide_eq_false hc; omega
    subst hk0
    try refine nc ?_
    try refine nc ?_
    refine ret_of [] trivial ⟨_, rfl, .inl ⟨pre, L', ?_, hI, H⟩⟩
    simpa [backS] using hpre
theorem Back_own {A : Option Addr} {n c : Nat} (H : Eng.Own ok w0 w L) :
    Calls Tryz.prog 175 #[.slice A n c] w fun e w' => ∃ v, e = .returned v ∧ ∃ b, v = .func (.func 210) #[] #[.pointer (some ⟨b, 0, none⟩)] ∧ Eng.Own ok w0 w' (.blk b [.slice A n c] 32 :: L) := by
  refine enter (args := [.slice A n c]) Tryz.func175 rfl Tryz.ntmps175 rfl rfl ?_
  try refine nc ?_
  refine own_box H [.slice A n c] rfl fun b w1 H => ?_
  try refine nc ?_
  try refine nc ?_
  exact ret_of [_] ⟨rfl, trivial⟩ ⟨_, rfl, b, rfl, H⟩

/-! list.Put. -/
def putStep (out t : Tx) : Tx := ([112] ++ t) ++ out
def putT (ls : List Tx) : Tx := ls.reverse.foldl putStep (countedT 117 0)
theorem putT_drop (ls : List Tx) (j : Nat) : (putT (ls.drop j)).length ≤ (putT ls).length := by
  have key : ∀ (a b : List Tx) (s : Tx), (a.foldl putStep s).length ≤ ((a ++ b).foldl putStep s).length := by
    intro a b s
    rw [List.foldl_append]
    generalize a.foldl putStep s = q
    induction b generalizing q with
    | nil => exact Nat.le_refl _
    | cons x b ih => rw [List.foldl_cons]; refine Nat.le_trans ?_ (ih _); simp [putStep]; omega
  unfold putT
  have : ls.reverse = (ls.drop j).reverse ++ (ls.take j).reverse := by rw [← List.reverse_append, List.take_append_drop]
  rw [this]
  exact key _ _ _
end Go.Proofs.YtfapphlhkfddoaaGreatDoor.Cut
namespace Go.Proofs.YtfapphlhkfddoaaGreatDoor.G
open Go.RowKit Go.Eng Go.Proofs Go.Proofs.YtfapphlhkfddoaaGreatDoor.Cut
set_option linter.unusedVariables false
set_option maxRecDepth 20000
variable {ok : Nat → Prop} {w : World}
noncomputable def rightT (t : List UInt8) : Bool := (term_Right.f t).getD false
noncomputable def list_Put.f (x0 : List (List UInt8)) : Option (List UInt8 × Int) :=
  if x0.length > 150 then some ([], 1) else
  givenM (∀ t ∈ x0, ∃ b, term_Right.f t = some b) (
    if x0.any (fun t => !rightT t) then some ([], 1) else
    givenM ((putT x0).length * 1 ≤ 140737488355328) (
    if (putT x0).length > 20000 then some ([], 3) else
    (term_Right.f (putT x0)).bind fun b => cond b (some (putT x0, 0)) (some ([], 4))))
set_option maxHeartbeats 2000000 in
theorem Put1_calls {t : List UInt8} {b : Bool} (h : term_Right.f t = some b) : Calls Tryz.prog 174 ((#[] ++ [Value.string (bs t)].toArray) ++ #[]) w fun e w' => ∃ v, e = .returned v ∧ (v = .bool (!b) ∧ Bel w.heap.size w w') := by
  have ea : ((#[] ++ [Value.string (bs t)].toArray) ++ #[] : Array Value) = [Value.string (bs t)].toArray := rfl
  rw [ea]
  have H : Eng.Own (fun _ => False) w w [] := Eng.Own.nil _ w
  refine enter (args := [.string (bs t)]) Tryz.func174 rfl Tryz.ntmps174 rfl rfl ?_
  try refine nc ?_
  try refine nc ?_
  refine call_rule (by kernel_rfl) (term_Right_ok (ok := fun _ => False) h) fun r w1 ⟨hr, hbel⟩ => ?_
  subst hr
  replace H := H.call hbel
  try refine nc ?_
  try refine nc ?_
  exact ret_of [.bool (!b)] ⟨rfl, trivial⟩ ⟨_, rfl, rfl, H.frame⟩
set_option maxHeartbeats 4000000 in
theorem list_Put_ok {u : Value} {x0 : List (List UInt8)} {r : List UInt8 × Int} (hu : slR tStr w ok u x0) (h : list_Put.f x0 = some r) :
    Calls Tryz.prog 126 #[u] w fun e w' => ∃ v, e = .returned v ∧ (v = .tuple #[.string (bs r.1), .int .i64 r.2] ∧ Bel w.heap.size w w') := by
  have H : Eng.Own ok w w [] := Eng.Own.nil ok w
  obtain ⟨A, c, rfl, H⟩ := H.arg rfl hu
  unfold list_Put.f at h
  refine enter (args := [.slice A x0.length c]) Tryz.func126 rfl Tryz.ntmps126 rfl rfl ?_
  try refine nc ?_
  try refine nc ?_
  try refine nc ?_
  by_cases hlen : x0.length > 150
  · rw [if_pos hlen] at h
    cases h
    have hg : decide ((x0.length : Int) > 150) = true := decide_eq_true (by omega)
    refine call_skip (.bool false) (gF0 hg) ?_
    try refine nc ?_
    try refine nc ?_
    refine cond_yes (by show cond (decide ((x0.length : Int) > 150)) true false = true; rw [hg]; rfl) ?_
    try refine nc ?_
    try refine nc ?_
    exact ret_of [.string (bs []), .int .i64 1] ⟨rfl, rfl, trivial⟩ ⟨_, rfl, rfl, H.frame⟩
  rw [if_neg hlen] at h
  have hg : decide ((x0.length : Int) > 150) = false := decide_eq_false (by omega)
  obtain ⟨hR, h⟩ := givenS h
  have hrt : ∀ t ∈ x0, term_Right.f t = some (rightT t) := fun t ht => by obtain ⟨b, e⟩ := hR t ht; unfold rightT; rw [e]; rfl
  refine call_yes (gT0 hg rfl) (by kernel_rfl) (ContainsTerm_own H 0 rfl (by omega) (fun t => !rightT t) (by kernel_rfl) (fun w' x hx H' => Put1_calls (hrt x hx))) fun r1 w1 ⟨hr1, H⟩ => ?_
  subst hr1
  try refine nc ?_
  try refine nc ?_
  by_cases ha : x0.any (fun t => !rightT t) = true
  · rw [if_pos ha] at h
    cases h
    refine cond_yes (by show cond (decide ((x0.length : Int) > 150)) true (x0.any fun t => !rightT t) = true; rw [hg, ha]; rfl) ?_
    try refine nc ?_
    try refine nc ?_
    exact ret_of [.string (bs []), .int .i64 1] ⟨rfl, rfl, trivial⟩ ⟨_, rfl, rfl, H.frame⟩
  rw [if_neg ha] at h
  obtain ⟨hb, h⟩ := givenS h
  refine cond_no (by show cond (decide ((x0.length : Int) > 150)) true (x0.any fun t => !rightT t) = false; rw [hg]; simpa using ha) ?_
  try refine nc ?_
  try refine nc ?_
  refine call_rule (by kernel_rfl) (number_calls 0 w1) fun r2 w2 ⟨hr2, hbel2⟩ => ?_
  subst hr2
  replace H := H.call hbel2
  refine own_alloc (z := .string (bs [])) H (by kernel_rfl) [.string (bs [])] rfl fun q w3 H => ?_
  refine own_storeB (m := 1) H 0 rfl (by kernel_rfl) [.string (bs (countedT 117 0))] rfl rfl rfl rfl fun w4 H => ?_
  try refine nc ?_
  try refine nc ?_
  refine call_rule (by kernel_rfl) (Back_own H) fun v w5 ⟨b, hv, H⟩ => ?_
  subst hv
  try refine nc ?_
  have H0 : Eng.Own ok w w5 ([.blk b [.slice A x0.length c] 32, .dat (dSl tStr (.slice A x0.length c) x0)] ++ [.blk q [.string (bs (countedT 117 0))] 28]) := H.pickL [0, 2, 1] rfl
  refine range_rule (I := fun pre L1 => L1 = [.blk q [.string (bs ((pre.map (·.2)).foldl putStep (countedT 117 0)))] 28]) (Ix := fun _ _ _ => False) rfl (by kernel_rfl) (fun _ => rfl) rfl (back_iter (by omega)) H0 rfl ?_ ?_ ?_
  · rintro l φ T pre x L1 W hφ ⟨j, hsp⟩ rfl H
    have hbound : ([112] ++ x.2).length + ((pre.map (·.2)).foldl putStep (countedT 117 0)).length ≤ 140737488355328 := by
      have h1 := putT_drop x0 j
      have h2 : putT (x0.drop j) = putStep ((pre.map (·.2)).foldl putStep (countedT 117 0)) x.2 := by
        unfold putT
        rw [← hsp, List.map_append, List.foldl_append]; rfl
      rw [h2] at h1
      simp only [putStep, List.length_append] at h1 ⊢
      omega
    try refine nc ?_
    refine rGo_in _ H fun w6 φ2 hφ2 H => ?_
    try refine nc ?_
    try refine nc ?_
    refine catM_rule (a := [112]) (b := x.2) (by rw [List.length_append] at hbound; omega) ?_
    refine own_load H 0 rfl (by kernel_rfl) (j := 0) rfl ?_
    refine catM_rule (a := [112] ++ x.2) (b := (pre.map (·.2)).foldl putStep (countedT 117 0)) (by omega) ?_
    refine own_storeB (m := 1) H 0 rfl (by kernel_rfl) [.string (bs (([112] ++ x.2) ++ (pre.map (·.2)).foldl putStep (countedT 117 0)))] rfl rfl rfl rfl fun w7 H => ?_
    try refine nc ?_
    refine rEnd_in [.blk q [.string (bs (([112] ++ x.2) ++ (pre.map (·.2)).foldl putStep (countedT 117 0)))] 28] ?_ H
    rw [List.map_append, List.foldl_append]; rfl
  · rintro D W L1 xs hS rfl H
    have hx : (xs.map (·.2)).foldl putStep (countedT 117 0) = putT x0 := by unfold putT; rw [show xs.map (·.2) = x0.reverse from hS]
    rw [hx] at H
    replace H : Eng.Own ok w W [.obj D isDef, .blk q [.string (bs (putT x0))] 28] := H.pickL [0, 3] rfl
    try refine nc ?_
    try refine nc ?_
    refine own_load H 1 rfl (by kernel_rfl) (j := 0) rfl ?_
    try refine nc ?_
    try refine nc ?_
    by_cases hlong : (putT x0).length > 20000
    · rw [if_pos hlong] at h
      cases h
      refine cond_yes (decide_eq_true (show ((putT x0).length : Int) > 20000 by omega)) ?_
      try refine nc ?_
      try refine nc ?_
      refine ret_own H 0 rfl fun w' H => ?_
      exact ret_of [.string (bs []), .int .i64 3] ⟨rfl, rfl, trivial⟩ ⟨_, rfl, rfl, H.frame⟩
    rw [if_neg hlong] at h
    refine cond_no (decide_eq_false (show ¬ ((putT x0).length : Int) > 20000 by omega)) ?_
    try refine nc ?_
    try refine nc ?_
    refine own_load H 1 rfl (by kernel_rfl) (j := 0) rfl ?_
    obtain ⟨b2, hb2, h⟩ := bindS h
    refine call_rule (by kernel_rfl) (term_Right_ok (ok := fun _ => False) hb2) fun r3 w8 ⟨hr3, hbel3⟩ => ?_
    subst hr3
    replace H := H.call hbel3
    try refine nc ?_
    try refine nc ?_
    cases b2 with
    | false =>
      replace h := Option.some.inj h
      subst h
      refine cond_yes rfl ?_
      try refine nc ?_
      try refine nc ?_
      refine ret_own H 0 rfl fun w' H => ?_
      exact ret_of [.string (bs []), .int .i64 4] ⟨rfl, rfl, trivial⟩ ⟨_, rfl, rfl, H.frame⟩
    | true =>
      replace h := Option.some.inj h
      subst h
      refine cond_no rfl ?_
      try refine nc ?_
      try refine nc ?_
      refine own_load H 1 rfl (by kernel_rfl) (j := 0) rfl ?_
      try refine nc ?_
      try refine nc ?_
      refine ret_own H 0 rfl fun w' H => ?_
      exact ret_of [.string (bs (putT x0)), .int .i64 0] ⟨rfl, rfl, trivial⟩ ⟨_, rfl, rfl, H.frame⟩
  · intro D W L pre c _ h _; exact h.elim
end Go.Proofs.YtfapphlhkfddoaaGreatDoor.G
/- The path of a process. -/
namespace Go.Proofs.YtfapphlhkfddoaaGreatDoor.G
open Go.RowKit Go.Eng Go.Proofs Go.Proofs.YtfapphlhkfddoaaGreatDoor.Cut
set_option linter.unusedVariables false
set_option maxRecDepth 20000
variable {ok : Nat → Prop} {w0 w : World} {L R : List Eng.Item}

/-- A node and all above it. -/
def upT (n : List UInt8) : List (List UInt8) := (List.range (n.length + 1)).map fun j => n.take (n.length - j)
def upJ (n : List UInt8) (j : Nat) : List (List UInt8) := (List.range (j + 1)).map fun j => n.take (n.length - j)
theorem upJ_succ (n : List UInt8) (j : Nat) : upJ n (j + 1) = upJ n j ++ [n.take (n.length - (j + 1))] := by
  unfold upJ
  rw [List.range_succ, List.map_append]; rfl
def pathM (s : List UInt8) (p : Int) : List (List UInt8) := match ofM s with
  | none => []
  | some T => match (nodesT [] T).find? (fun x => decide (membersM x.2 = [p])) with
    | some x => upT x.1
    | none => []
theorem nodes_len : ∀ (T : Tr) (pre : List UInt8), ∀ x ∈ nodesT pre T, x.1.length ≤ pre.length + T.text.length ∧ x.2.length ≤ T.text.length := by
  intro T
  induction T with
  | leaf p =>
    intro pre x hx
    have : x = (pre, (Tr.leaf p).text) := List.mem_singleton.1 hx
    subst this
    simp
  | two l r ihl ihr =>
    intro pre x hx
    have ht : (Tr.two l r).text.length = l.text.length + r.text.length + 2 := by simp only [Tr.text, List.length_cons, List.length_append, List.length_nil]; omega
    rw [show nodesT pre (Tr.two l r) = (pre, (Tr.two l r).text) :: (nodesT (pre ++ [108]) l ++ nodesT (pre ++ [114]) r) from rfl] at hx
    rcases List.mem_cons.1 hx with q | q
    · subst q; simp
    · rcases List.mem_append.1 q with q | q
      · have := ihl _ x q; simp only [List.length_append, List.length_cons, List.length_nil] at this; omega
      · have := ihr _ x q; simp only [List.length_append, List.length_cons, List.length_nil] at this; omega
theorem treeMembers_own {s : List UInt8} (H : Eng.Own ok w0 w L) (hs : s.length ≤ 1000000) : Calls Tryz.prog 14 #[.string (bs s)] w fun e w' => ∃ v, e = .returned v ∧ ∃ A c, v = .slice A (membersM s).length c ∧ Eng.Own ok w0 w' (.dat (dSl (tInt .i64) (.slice A (membersM s).length c) (membersM s)) :: L) :=
  (treeMembers_calls (ok := okOf ok w0 L) hs).mono fun e w' ⟨v, he, hv, hb⟩ => by
    obtain ⟨A, c, hv0, hcm, _⟩ := id hv
    subst hv0
    exact ⟨_, he, A, c, rfl, H.callDat hb (dSl (tInt .i64) (.slice A (membersM s).length c) (membersM s)) hv⟩
set_option maxHeartbeats 4000000 in
theorem path_calls {s : List UInt8} {p : Int} (hs : s.length ≤ 900000) : Calls Tryz.prog 36 #[.string (bs s), .int .i64 p] w fun e w' => ∃ v, e = .returned v ∧ ((slR tStr w' (fun b => ok b ∨ w.heap.size ≤ b) v (pathM s p) ∧ (pathM s p = [] → v = .slice none 0 0)) ∧ Bel w.heap.size w w') := by
  have H : Eng.Own ok w w [] := Eng.Own.nil _ w
  refine enterN (args := [.string (bs s), .int .i64 p]) Tryz.func36 rfl Tryz.ntmps36 rfl rfl ?_
  refine Eng.nc_seq ?_
  refine nc ?_
  refine own_box H [.int .i64 p] rfl fun bp w1 H => ?_
  refine own_alloc (z := .slice none 0 0) H (by kernel_rfl) [.slice none 0 0] rfl fun c4 w2 H => ?_
  refine Eng.nc_seq ?_
  refine Eng.nc_seq ?_
  refine nc ?_
  refine call_rule (by kernel_rfl) (treeRight_calls (s := s) (by omega)) fun v w4 ⟨hv, hb⟩ => ?_
  subst hv
  replace H := H.call hb
  unfold pathM
  cases ho : ofM s with
  | none =>
    refine Eng.nc_cond (b := true) rfl (fun hc => ?_) (fun hc => ?_)
    · refine Eng.nc_seq ?_
      refine nc ?_
      refine own_store (t := 72) H 0 rfl (by kernel_rfl) (j := 0) rfl rfl fun w5 H => ?_
      refine nc ?_
      exact ret_of [.slice none 0 0] ⟨⟨_, rfl, load1_run (by kernel_rfl) (H.cell 0 rfl 0 rfl)⟩, trivial⟩ ⟨_, rfl, ⟨⟨none, 0, rfl, Nat.le_refl _, .inl ⟨rfl, fun _ => rfl⟩⟩, fun _ => rfl⟩, H.frame⟩
    · cases hc
  | some T =>
    obtain ⟨hT, hok⟩ := ofM_text ho
    refine Eng.nc_cond (b := false) rfl (fun hc => ?_) (fun hc => ?_)
    · cases hc
    refine nc ?_
    have hlenT : T.text.length ≤ 900000 := by rw [← hT]; exact hs
    simp only
    refine nc_cutD (fun ds e w' => ∃ D, ds = [D] ∧ (nodesT [] T).find? (fun x => decide (membersM x.2 = [p])) = none ∧ e = [(4, .pointer (some ⟨c4, 0, none⟩))] ∧ Eng.Own ok w w' [.obj D isDef, .blk c4 [.slice none 0 0] 72]) ?_ ?_
    · refine Eng.nc_seq ?_
      refine nc ?_
      refine call_rule (by kernel_rfl) (below_own (node := []) (t := s) H) fun v w5 ⟨bn2, bt2, hv, H⟩ => ?_
      subst hv
      rw [hT] at H
      refine Eng.nc_block ?_
      refine range_rule (I := fun p1 L1 => (∀ x ∈ p1, membersM x.2 ≠ [p]) ∧ L1 = [.blk c4 [.slice none 0 0] 72, .blk bp [.int .i64 p] 3]) (Ix := fun c p1 L1 => c = .ret ∧ ∃ p2 x A m, p1 = p2 ++ [x] ∧ (∀ x ∈ p2, membersM x.2 ≠ [p]) ∧ membersM x.2 = [p] ∧ L1 = [.dat (dSl tStr (.slice A (upT x.1).length m) (upT x.1)), .blk c4 [.slice A (upT x.1).length m] 72, .blk bp [.int .i64 p] 3]) rfl (by kernel_rfl) (fun _ => rfl) rfl (below_iter T [] bn2 bt2 hok (by simp; omega)) H ⟨fun x hx => by simp at hx, rfl⟩ ?_ ?_ ?_
      · rintro l1 φ T1 p1 x L1 W1 hφ ⟨rest, hrest⟩ ⟨hne, rfl⟩ H
        have hxm : x ∈ nodesT [] T := by rw [← hrest]; simp
        have hxl := nodes_len T [] x hxm
        simp only [List.length_nil] at hxl
        refine Eng.nc_seq ?_
        refine nc ?_
        refine nc ?_
        refine rGo_in [.blk c4 [.slice none 0 0] 72, .blk bp [.int .i64 p] 3] H fun w5 φ2 hφ2 H => ?_
        refine Eng.nc_block ?_
        refine Eng.nc_seq ?_
        refine nc ?_
        refine call_rule (by kernel_rfl) (treeMembers_own (s := x.2) H (by omega)) fun v w6 ⟨Am, cm, hv, H⟩ => ?_
        subst hv
        refine Eng.nc_seq ?_
        refine nc ?_
        have hno : ∀ (hm : membersM x.2 ≠ [p]), ∀ y ∈ p1 ++ [x], membersM y.2 ≠ [p] := by
          intro hm y hy
          rcases List.mem_append.1 hy with q | q
          · exact hne y q
          · rw [List.mem_singleton.1 q]; exact hm
        by_cases h1 : (membersM x.2).length = 1
        · obtain ⟨y, hy⟩ := List.length_eq_one_iff.1 h1
          rw [hy] at H ⊢
          obtain ⟨a1, cs1, rfl, hR1, H⟩ := H.elemI (x := 0) (y := y) 0 rfl rfl
          obtain rfl : cs1 = [.int .i64 y] := hR1
          refine draw_rule [] (by kernel_rfl) (by kernel_rfl) H ?_
          refine c_idxA (e := 3) 1 0 (by kernel_rfl) (by kernel_rfl) (by decide) (by simp) ?_
          refine c_loadD 0 rfl 0 (by kernel_rfl) rfl ?_
          refine c_load 3 rfl (by kernel_rfl) (j := 0) rfl ?_
          intro w7 H
          refine Eng.nc_cond (b := (y == p)) rfl (fun hc => ?_) (fun hc => ?_)
          · have hyp : y = p := by simpa using hc
            have hm : membersM x.2 = [p] := by rw [hy, hyp]
            replace H : Eng.Own ok w w7 (.blk c4 [.slice none 0 0] 72 :: .blk bp [.int .i64 p] 3 :: .obj l1 φ2 :: T1) := H.tail.tail
            refine Eng.nc_seq ?_
            refine nc ?_
            refine own_buildSlice (e := 9) (sz := 1) (z := .string (bs [])) (cs := [.string (bs x.1)]) H (by kernel_rfl) (by kernel_rfl) (by kernel_rfl) rfl rfl rfl rfl fun g w8 H => ?_
            replace H := H.blkRow (n := 1) (sz := 1) rfl (by decide)
            have h0 : x.1.take (x.1.length - 0) = x.1 := by simp
            refine Eng.nc_seq ?_
            refine Eng.nc_block ?_
            refine nc ?_
            refine loop_rule (fun k e w' => ∃ (j : Nat) (z : Value), j + k = x.1.length ∧ e = [(4, .pointer (some ⟨c4, 0, none⟩)), (5, .string (bs (x.1.take (x.1.length - j)))), (8, z)] ∧ Eng.Own ok w w' (.row z 9 1 (j + 1) (strs (upJ x.1 j)) :: .blk c4 [.slice none 0 0] 72 :: .blk bp [.int .i64 p] 3 :: .obj l1 φ2 :: T1)) x.1.length
              [(4, .pointer (some ⟨c4, 0, none⟩)), (5, .string (bs x.1)), (8, .slice (some ⟨g, 0, none⟩) 1 1)] ⟨rfl, rfl, rfl, trivial⟩ ⟨0, _, by omega, by rw [h0], by rw [show upJ x.1 0 = [x.1] by unfold upJ; simp]; exact H⟩ ?_
            rintro k e w9 ⟨j, z, hjk, rfl, H⟩
            have hnl : (x.1.take (x.1.length - j)).length = x.1.length - j := by rw [List.length_take]; omega
            have hul : ∀ i, (upJ x.1 i).length = i + 1 := fun i => by unfold upJ; simp
            obtain ⟨A, c, rfl, hA1, hA2⟩ := H.rowSl 0 rfl
            refine Eng.nc_seq ?_
            refine Eng.nc_seq ?_
            refine nc ?_
            refine Eng.nc_cond (b := !((bs (x.1.take (x.1.length - j))).toList == (bs []).toList)) rfl (fun hc2 => ?_) (fun hc2 => ?_)
            · have hne2 : x.1.take (x.1.length - j) ≠ [] := by simpa [bs_toList] using hc2
              have hjl : j < x.1.length := by
                apply Classical.byContradiction
                intro hn
                exact hne2 (by rw [show x.1.length - j = 0 by omega, List.take_zero])
              refine nc ?_
              refine Eng.nc_seq ?_
              refine Eng.nc_block ?_
              refine nc ?_
              have hw : IntKind.i64.wrap (((x.1.take (x.1.length - j)).length : Int) - 1) = ((x.1.length - (j + 1) : Nat) : Int) := by rw [hnl, Eng.i64_id (by omega) (by omega)]; omega
              have hsl : slcM (x.1.take (x.1.length - j)) (0 : Int) (IntKind.i64.wrap (((x.1.take (x.1.length - j)).length : Int) - 1)) = some (x.1.take (x.1.length - (j + 1))) := by
                rw [hw]
                have e : slcM (x.1.take (x.1.length - j)) ((0 : Nat) : Int) ((x.1.length - (j + 1) : Nat) : Int) = some ((x.1.take (x.1.length - j)).take (x.1.length - (j + 1))) := by
                  unfold slcM
                  rw [if_pos ⟨by omega, by omega, by rw [hnl]; omega⟩]
                  simp
                rw [show (0 : Int) = ((0 : Nat) : Int) from rfl, e, List.take_take, Nat.min_eq_left (by omega)]
              refine txtI_rule (0 : Int) (IntKind.i64.wrap (((x.1.take (x.1.length - j)).length : Int) - 1)) (by kernel_rfl) rfl ⟨_, rfl⟩ hsl ?_
              refine nc ?_
              refine own_buildSlice (e := 9) (sz := 1) (z := .string (bs [])) (cs := [.string (bs (x.1.take (x.1.length - (j + 1))))]) H (by kernel_rfl) (by kernel_rfl) (by kernel_rfl) rfl rfl rfl rfl fun g2 w10 H => ?_
              refine own_appendBlk (e := 9) (sz := 1) (z := .string (bs [])) (by_ := 16) (m := 1) H 1 0 rfl rfl (by kernel_rfl) (by kernel_rfl) rfl rfl rfl (by intro v hv; simp at hv; subst hv; rfl) (by omega) (by omega) fun v5 w11 H => ?_
              refine again_in (k - 1) (by omega) [(4, .pointer (some ⟨c4, 0, none⟩)), (5, .string (bs (x.1.take (x.1.length - (j + 1))))), (8, v5)] ⟨rfl, rfl, rfl, trivial⟩ ⟨j + 1, v5, by omega, rfl, ?_⟩
              have e : strs (upJ x.1 (j + 1)) = strs (upJ x.1 j) ++ [.string (bs (x.1.take (x.1.length - (j + 1))))] := by rw [upJ_succ]; simp [strs]
              rw [e]
              exact H.tail
            · have hnil : x.1.take (x.1.length - j) = [] := by simpa [bs_toList] using hc2
              have hj : j = x.1.length := by
                have := congrArg List.length hnil
                rw [hnl] at this
                simp only [List.length_nil] at this
                omega
              subst hj
              refine nc ?_
              refine Eng.nc_seq ?_
              refine nc ?_
              refine own_store (t := 72) H 1 rfl (by kernel_rfl) (j := 0) rfl rfl fun w10 H => ?_
              replace H : Eng.Own ok w w10 (.row (.slice A (upT x.1).length c) 9 1 (upT x.1).length (strs (upT x.1)) :: .blk c4 [.slice A (upT x.1).length c] 72 :: .blk bp [.int .i64 p] 3 :: .obj l1 φ2 :: T1) := by
                have e : (upT x.1).length = x.1.length + 1 := hul _
                rw [e]
                exact H
              replace H := H.freezeS 0 rfl
              refine nc ?_
              exact rEnd_in [.dat (dSl tStr (.slice A (upT x.1).length c) (upT x.1)), .blk c4 [.slice A (upT x.1).length c] 72, .blk bp [.int .i64 p] 3] ⟨rfl, p1, x, A, c, rfl, hne, hm, rfl⟩ H
          · refine nc ?_
            have hm : membersM x.2 ≠ [p] := by
              rw [hy]
              intro e
              rw [(List.cons.inj e).1] at hc
              simp at hc
            exact rEnd_in [.blk c4 [.slice none 0 0] 72, .blk bp [.int .i64 p] 3] ⟨hno hm, rfl⟩ H.tail.tail
        · have hg : (((membersM x.2).length : Int) == 1) = false := beq_eq_false_iff_ne.2 (by omega)
          refine draw_rule [] (by kernel_rfl) (by kernel_rfl) H ?_
          refine c_skipIA (.pointer (some ⟨0, 0, none⟩)) (gF1 hg) ?_
          refine c_skipLD (.int .i64 0) (gF1 hg) ?_
          refine c_load 2 rfl (by kernel_rfl) (j := 0) rfl ?_
          intro w7 H
          refine Eng.nc_cond (b := cond (((membersM x.2).length : Int) == 1) ((0 : Int) == p) false) rfl (fun hc => ?_) (fun hc => ?_)
          · rw [hg] at hc; cases hc
          · refine nc ?_
            exact rEnd_in [.blk c4 [.slice none 0 0] 72, .blk bp [.int .i64 p] 3] ⟨hno (fun e => h1 (by rw [e]; rfl)), rfl⟩ H.tail
      · rintro D W1 L1 xs rfl ⟨hne, rfl⟩ H
        refine cutD_in (e' := [(4, .pointer (some ⟨c4, 0, none⟩))]) ⟨rfl, trivial⟩ ⟨D, rfl, ?_, rfl, H.pickL [0, 3] rfl⟩
        exact List.find?_eq_none.2 fun x hx => by simpa using hne x hx
      · rintro D W1 L1 p1 c ⟨rest, hrest⟩ ⟨rfl, p2, x, A, m, rfl, hne, hx, rfl⟩ H
        refine nc ?_
        refine ret_own H 0 rfl fun w' H => ?_
        have hf : (nodesT [] T).find? (fun x => decide (membersM x.2 = [p])) = some x := by
          rw [← hrest, List.append_assoc, List.find?_append, List.find?_eq_none.2 (fun y hy => by simpa using hne y hy)]
          simp [hx]
        rw [hf]
        have hne0 : upT x.1 ≠ [] := fun e => by have := congrArg List.length e; unfold upT at this; simp at this
        exact ret_of [.slice A (upT x.1).length m] ⟨⟨_, rfl, load1_run (by kernel_rfl) (H.cell 4 rfl 0 rfl)⟩, trivial⟩ ⟨_, rfl, ⟨H.outD 3 rfl, fun e => absurd e hne0⟩, H.frame⟩
    · rintro _ _ w5 ⟨D, rfl, hf, rfl, H⟩
      rw [hf]
      refine Eng.nc_seq ?_
      refine nc ?_
      refine own_store (t := 72) H 1 rfl (by kernel_rfl) (j := 0) rfl rfl fun w6 H => ?_
      refine nc ?_
      refine ret_own H 0 rfl fun w' H => ?_
      exact ret_of [.slice none 0 0] ⟨⟨_, rfl, load1_run (by kernel_rfl) (H.cell 1 rfl 0 rfl)⟩, trivial⟩ ⟨_, rfl, ⟨⟨none, 0, rfl, Nat.le_refl _, .inl ⟨rfl, fun _ => rfl⟩⟩, fun _ => rfl⟩, H.frame⟩
noncomputable def place_Path.f (s : List UInt8) (p : Int) : Option (List (List UInt8)) := givenM (s.length ≤ 900000) (some (pathM s p))
theorem place_Path_ok {x0 : List UInt8} {x1 : Int} {r : List (List UInt8)} (h : place_Path.f x0 x1 = some r) : Calls Tryz.prog 36 #[.string (bs x0), .int .i64 x1] w fun e w' => ∃ u, e = .returned u ∧ (slR tStr w' (fun b => ok b ∨ w.heap.size ≤ b) u r ∧ Bel w.heap.size w w') := by
  obtain ⟨hl, h⟩ := givenS h
  cases h
  exact (path_calls hl).mono fun e w' ⟨v, he, hv, hb⟩ => ⟨v, he, hv.1, hb⟩
end Go.Proofs.YtfapphlhkfddoaaGreatDoor.G
/- The shelf's laying of a generic library function at this program: as the kit's command spells it. -/
namespace Go.Proofs
open Go.Shelf
end Go.Proofs
/- Contracts that were walked by hand, or are the kit's, in the printed texts' words: chapter 14. -/
namespace Go.Proofs.YtfapphlhkfddoaaGreatDoor.G
open Go.RowKit Go.Eng Go.Proofs Go.Proofs.YtfapphlhkfddoaaGreatDoor.Cut
set_option linter.unusedVariables false
variable {ok : Nat → Prop} {w : World}

noncomputable def place_At.f (x0 x1 : List UInt8) : Option (List UInt8 × Int) := givenM (x0.length ≤ 900000) (some (atM x0 x1))
theorem place_At_ok {x0 x1 : List UInt8} {r : List UInt8 × Int} (h : place_At.f x0 x1 = some r) : Calls Tryz.prog 51 #[.string (bs x0), .string (bs x1)] w fun e w' => ∃ v, e = .returned v ∧ (v = .tuple #[.string (bs r.1), .int .i64 r.2] ∧ Bel w.heap.size w w') := by
  obtain ⟨hl, h⟩ := givenS h
  cases h
  exact placeAt_calls hl
noncomputable def tree_Members.f (x0 : List UInt8) : Option (List Int) := givenM (x0.length ≤ 1000000) (some (membersM x0))
theorem tree_Members_ok {x0 : List UInt8} {r : List Int} (h : tree_Members.f x0 = some r) : Calls Tryz.prog 14 #[.string (bs x0)] w fun e w' => ∃ u, e = .returned u ∧ (slR (tInt .i64) w' (fun b => ok b ∨ w.heap.size ≤ b) u r ∧ Bel w.heap.size w w') := by
  obtain ⟨hl, h⟩ := givenS h
  cases h
  exact treeMembers_calls hl
end Go.Proofs.YtfapphlhkfddoaaGreatDoor.G
/- Walks, printed by a program of this proof's own. -/
namespace Go.Proofs.YtfapphlhkfddoaaGreatDoor.G
open Go.RowKit Go.Eng Go.Proofs
set_option linter.unusedVariables false
set_option maxRecDepth 20000
set_option linter.unusedSectionVars false
variable [Inhabited Keep]
/-! cmp.isNaN(int) -/
/-! cmp.Compare(int) -/
/-! cmp.Or(int) -/
/-! gemot/place.shorter -/
end Go.Proofs.YtfapphlhkfddoaaGreatDoor.G
/- The shelf's laying of a generic library function at this program: as the kit's command spells it. -/
namespace Go.Proofs
open Go.Shelf
end Go.Proofs
/- A row of texts is sorted by a comparator. -/
namespace Go.Proofs.YtfapphlhkfddoaaGreatDoor.G
open Go.RowKit Go.Eng Go.Proofs Go.Proofs.YtfapphlhkfddoaaGreatDoor.Cut Go.Sort
set_option linter.unusedVariables false
set_option linter.unusedSimpArgs false
variable {ok : Nat → Prop} {w0 w : World} {A B L R : List Eng.Item}

end Go.Proofs.YtfapphlhkfddoaaGreatDoor.G
/- The nodes of a tree, sorted. -/
namespace Go.Proofs.YtfapphlhkfddoaaGreatDoor.G
open Go.RowKit Go.Eng Go.Proofs Go.Proofs.YtfapphlhkfddoaaGreatDoor.Cut Go.Sort
set_option linter.unusedVariables false
set_option maxRecDepth 20000
variable {ok : Nat → Prop} {w0 w : World} {L R : List Eng.Item}

end Go.Proofs.YtfapphlhkfddoaaGreatDoor.G
/- The shelf's laying of a generic library function at this program: as the kit's command spells it. -/
namespace Go.Proofs
open Go.Shelf
def Tryz.itoaI_ren : Go.Shelf.Ren := ⟨fun | 171 => 84 | 243 => 118 | 246 => 161 | 283 => 203 | 284 => 204 | 285 => 205 | 286 => 206 | 129 => 138 | 317 => 217 | 318 => 218 | 319 => 219 | 320 => 220 | 337 => 223 | 338 => 224 | n => n, fun | 3 => 3 | 9 => 9 | 2 => 2 | 4 => 4 | 171 => 242 | 0 => 0 | 53 => 23 | 37 => 128 | 5 => 5 | 173 => 244 | 212 => 257 | 51 => 189 | 20 => 20 | 213 => 258 | 46 => 152 | 232 => 261 | 233 => 262 | n => n, fun | 17 => 1 | 18 => 2 | 19 => 3 | n => n⟩
theorem Tryz.itoaI : Go.Proofs.Lays.n171 Tryz.prog Tryz.itoaI_ren := {
  mixed := by kernel_rfl,
  f129 := Tryz.func138.trans (congrArg some (by kernel_rfl)),
  f171 := Tryz.func84.trans (congrArg some (by kernel_rfl)),
  f243 := Tryz.func118.trans (congrArg some (by kernel_rfl)),
  f246 := Tryz.func161.trans (congrArg some (by kernel_rfl)),
  f283 := Tryz.func203.trans (congrArg some (by kernel_rfl)),
  f284 := Tryz.func204.trans (congrArg some (by kernel_rfl)),
  f285 := Tryz.func205.trans (congrArg some (by kernel_rfl)),
  f286 := Tryz.func206.trans (congrArg some (by kernel_rfl)),
  f317 := Tryz.func217.trans (congrArg some (by kernel_rfl)),
  f318 := Tryz.func218.trans (congrArg some (by kernel_rfl)),
  f319 := Tryz.func219.trans (congrArg some (by kernel_rfl)),
  f320 := Tryz.func220.trans (congrArg some (by kernel_rfl)),
  f337 := Tryz.func223.trans (congrArg some (by kernel_rfl)),
  f338 := Tryz.func224.trans (congrArg some (by kernel_rfl)),
  t0 := Tryz.underlying0,
  a0 := Tryz.isAgg0,
  z0 := Tryz.sizeOf0,
  v0 := Tryz.zeroValue0,
  t2 := Tryz.underlying2,
  a2 := Tryz.isAgg2,
  z2 := Tryz.sizeOf2,
  v2 := Tryz.zeroValue2,
  t3 := Tryz.underlying3,
  a3 := Tryz.isAgg3,
  z3 := Tryz.sizeOf3,
  v3 := Tryz.zeroValue3,
  t4 := Tryz.underlying4,
  a4 := Tryz.isAgg4,
  z4 := Tryz.sizeOf4,
  v4 := Tryz.zeroValue4,
  t5 := Tryz.underlying5,
  a5 := Tryz.isAgg5,
  z5 := Tryz.sizeOf5,
  v5 := Tryz.zeroValue5,
  t9 := Tryz.underlying9,
  a9 := Tryz.isAgg9,
  z9 := Tryz.sizeOf9,
  v9 := Tryz.zeroValue9,
  t20 := Tryz.underlying20,
  a20 := Tryz.isAgg20,
  z20 := Tryz.sizeOf20,
  v20 := Tryz.zeroValue20,
  t37 := Tryz.underlying128,
  a37 := Tryz.isAgg128,
  z37 := Tryz.sizeOf128,
  v37 := Tryz.zeroValue128,
  t46 := Tryz.underlying152,
  a46 := Tryz.isAgg152,
  z46 := Tryz.sizeOf152,
  v46 := Tryz.zeroValue152,
  t51 := Tryz.underlying189,
  a51 := Tryz.isAgg189,
  z51 := Tryz.sizeOf189,
  v51 := Tryz.zeroValue189,
  t53 := Tryz.underlying23,
  a53 := Tryz.isAgg23,
  z53 := Tryz.sizeOf23,
  v53 := Tryz.zeroValue23,
  t171 := Tryz.underlying242,
  a171 := Tryz.isAgg242,
  z171 := Tryz.sizeOf242,
  v171 := Tryz.zeroValue242,
  t173 := Tryz.underlying244,
  a173 := Tryz.isAgg244,
  z173 := Tryz.sizeOf244,
  v173 := Tryz.zeroValue244,
  t212 := Tryz.underlying257,
  a212 := Tryz.isAgg257,
  z212 := Tryz.sizeOf257,
  v212 := Tryz.zeroValue257,
  t213 := Tryz.underlying258,
  a213 := Tryz.isAgg258,
  z213 := Tryz.sizeOf258,
  t232 := Tryz.underlying261,
  a232 := Tryz.isAgg261,
  z232 := Tryz.sizeOf261,
  v232 := Tryz.zeroValue261,
  t233 := Tryz.underlying262,
  a233 := Tryz.isAgg262,
  z233 := Tryz.sizeOf262,
  v233 := Tryz.zeroValue262,
  g17 := by kernel_rfl,
  g18 := by kernel_rfl,
  g19 := by kernel_rfl }
end Go.Proofs
/- How deep a tree is, whether it is full, and its text. -/
namespace Go.Proofs.YtfapphlhkfddoaaGreatDoor.G
open Go.RowKit Go.Eng Go.Proofs Go.Proofs.YtfapphlhkfddoaaGreatDoor.Cut
set_option linter.unusedVariables false
set_option maxRecDepth 20000
variable {ok : Nat → Prop} {w0 w : World} {L R : List Eng.Item}

def Tr.deep : Tr → Nat
  | .leaf _ => 0
  | .two l r => 1 + max l.deep r.deep
theorem deep_lt : ∀ T : Tr, T.deep < T.leavesR.length
  | .leaf _ => by simp [Tr.deep, Tr.leavesR]
  | .two l r => by
    have h1 := deep_lt l
    have h2 := deep_lt r
    simp only [Tr.deep, Tr.leavesR, List.length_append]
    omega
/-- Are all leaves as deep? -/
def fullT (T : Tr) : Bool := decide (T.leavesR.length = 2 ^ T.deep)
theorem sub_left {b : Nat} {l r : TrA} (h : ∀ it ∈ (TrA.two b l r).items, it ∈ R) : ∀ it ∈ l.items, it ∈ R := fun it q => h it (List.mem_cons_of_mem _ (List.mem_append_left _ q))
theorem sub_right {b : Nat} {l r : TrA} (h : ∀ it ∈ (TrA.two b l r).items, it ∈ R) : ∀ it ∈ r.items, it ∈ R := fun it q => h it (List.mem_cons_of_mem _ (List.mem_append_right _ q))
set_option maxHeartbeats 4000000 in
theorem depth_own : ∀ (A : TrA) {w : World}, (∀ it ∈ A.items, it ∈ R) → A.tr.leavesR.length ≤ 1000000 → Eng.Own ok w0 w R →
    Calls Tryz.prog 88 #[A.ptr] w fun e w' => ∃ u, e = .returned u ∧ ∃ L', (u = .int .i64 (A.tr.deep : Int) ∧ R = L') ∧ Eng.Own ok w0 w' L' := by
  intro A
  induction A with
  | leaf b p =>
    intro w hA hl H
    obtain ⟨i, hi⟩ := at_mem (hA _ (TrA.top_mem (.leaf b p)))
    refine enterN (args := [(TrA.leaf b p).ptr]) Tryz.func88 rfl Tryz.ntmps88 rfl rfl ?_
    refine Eng.nc_seq ?_
    refine nc ?_
    refine Eng.nc_seq ?_
    refine Eng.nc_seq ?_
    refine nc ?_
    refine own_load H i hi (by kernel_rfl) (j := 1) rfl ?_
    refine eqlNil_rule (by kernel_rfl) ?_
    refine Eng.nc_cond (b := true) rfl (fun hc => ?_) (fun hc => ?_)
    · refine Eng.nc_seq ?_
      refine nc ?_
      refine nc ?_
      exact ret_inA [.int .i64 0] ⟨_, rfl, R, ⟨rfl, rfl⟩, H⟩
    · cases hc
  | two b l r ihl ihr =>
    intro w hA hl H
    have hl' : (TrA.two b l r).tr.leavesR.length = r.tr.leavesR.length + l.tr.leavesR.length := by simp [TrA.tr, Tr.leavesR]
    obtain ⟨i, hi⟩ := at_mem (hA _ (TrA.top_mem (.two b l r)))
    refine enterN (args := [(TrA.two b l r).ptr]) Tryz.func88 rfl Tryz.ntmps88 rfl rfl ?_
    refine Eng.nc_seq ?_
    refine nc ?_
    refine Eng.nc_seq ?_
    refine Eng.nc_seq ?_
    refine nc ?_
    refine own_load H i hi (by kernel_rfl) (j := 1) (v := .pointer (some ⟨l.root, 0, none⟩)) rfl ?_
    refine eqlNil_rule (by kernel_rfl) ?_
    refine Eng.nc_cond (b := false) rfl (fun hc => ?_) (fun hc => ?_)
    · cases hc
    refine nc ?_
    refine Eng.nc_seq ?_
    refine nc ?_
    refine draw_rule [] (by kernel_rfl) (by kernel_rfl) H ?_
    refine c_load i hi (by kernel_rfl) (j := 1) (v := l.ptr) rfl ?_
    refine c_callOwn (fun u L' => u = .int .i64 (l.tr.deep : Int) ∧ R = L') rfl (by kernel_rfl) (fun v L' h => by rw [← h.2]; exact List.Sublist.refl _) (fun w H => ihl (sub_left hA) (by omega) H) fun v L' hv => ?_
    obtain ⟨rfl, rfl⟩ := hv
    refine c_load i hi (by kernel_rfl) (j := 2) (v := r.ptr) rfl ?_
    refine c_callOwn (fun u L' => u = .int .i64 (r.tr.deep : Int) ∧ R = L') rfl (by kernel_rfl) (fun v L' h => by rw [← h.2]; exact List.Sublist.refl _) (fun w H => ihr (sub_right hA) (by omega) H) fun v L' hv => ?_
    obtain ⟨rfl, rfl⟩ := hv
    intro w2 H
    refine nc ?_
    refine ret_inA [_] ⟨_, rfl, R, ⟨?_, rfl⟩, H⟩
    have h1 := deep_lt l.tr
    have h2 := deep_lt r.tr
    have e : IntKind.i64.wrap (1 + maxI (l.tr.deep : Int) (r.tr.deep : Int)) = (((TrA.two b l r).tr.deep : Nat) : Int) := by
      have e1 : maxI (l.tr.deep : Int) (r.tr.deep : Int) = ((max l.tr.deep r.tr.deep : Nat) : Int) := by
        unfold maxI
        split <;> omega
      rw [e1, Eng.i64_id (by omega) (by omega)]
      show _ = (((1 + max l.tr.deep r.tr.deep : Nat)) : Int)
      omega
    exact congrArg (Value.int .i64) e
set_option maxHeartbeats 4000000 in
theorem full_own (A : TrA) (hA : ∀ it ∈ A.items, it ∈ R) (hl : A.tr.leavesR.length ≤ 60) (H : Eng.Own ok w0 w R) :
    Calls Tryz.prog 87 #[A.ptr] w fun e w' => ∃ u, e = .returned u ∧ (u = .bool (fullT A.tr) ∧ Eng.Own ok w0 w' R) := by
  refine enterN (args := [A.ptr]) Tryz.func87 rfl Tryz.ntmps87 rfl rfl ?_
  refine Eng.nc_seq ?_
  refine nc ?_
  refine Eng.nc_seq ?_
  refine nc ?_
  refine call_rule (by kernel_rfl) (nodeMembers_in hA (by omega) H) fun u w1 H => ?_
  obtain ⟨a, c, rfl, _, _⟩ := H.rowSl 0 rfl
  refine call_rule (by kernel_rfl) (depth_own A (fun it h => List.mem_cons_of_mem _ (hA it h)) (by omega) H) fun u w2 ⟨L', ⟨hu, hL⟩, H⟩ => ?_
  subst hu hL
  have hd := deep_lt A.tr
  refine shl_rule (fun _ => by omega) ?_
  refine nc ?_
  refine ret_inA [_] ⟨_, rfl, ?_, H.tail⟩
  have e : IntKind.i64.wrap (1 * 2 ^ min ((A.tr.deep : Int)).toNat IntKind.i64.bits) = ((2 ^ A.tr.deep : Nat) : Int) := by
    have e1 : min ((A.tr.deep : Int)).toNat IntKind.i64.bits = A.tr.deep := by
      have : IntKind.i64.bits = 64 := rfl
      omega
    have hp : 2 ^ A.tr.deep ≤ 2 ^ 60 := Nat.pow_le_pow_right (by omega) (by omega)
    have e2 : (1 : Int) * 2 ^ A.tr.deep = ((2 ^ A.tr.deep : Nat) : Int) := by rw [Int.one_mul]; exact (Int.natCast_pow 2 _).symm
    rw [e1, e2]
    generalize 2 ^ A.tr.deep = m at hp
    exact Eng.i64_id (by omega) (by omega)
  show Value.bool ((((sortZ A.tr.leavesR).length : Nat) : Int) == IntKind.i64.wrap (1 * 2 ^ min ((A.tr.deep : Int)).toNat IntKind.i64.bits)) = _
  rw [e, sortZ_len]
  unfold fullT
  congr 1
  rw [Bool.eq_iff_iff, beq_iff_eq, decide_eq_true_iff]
  omega
theorem dec_one {p : Int} (h : 1 ≤ p ∧ p ≤ 8) : (⟨(Lib.decDigits p.toNat).toArray⟩ : ByteArray) = bs (Tr.leaf p).text := by
  rw [Lib.decDigits_one (by omega), Nat.add_comm]
  rfl
theorem itoa_own {p : Int} (h : 1 ≤ p ∧ p ≤ 8) : Calls Tryz.prog 84 #[.int .i64 p] w fun e w' => ∃ u, e = .returned u ∧ (u = .string (bs (Tr.leaf p).text) ∧ w' = w) := by
  have hp : ((p.toNat : Nat) : Int) = p := by omega
  have := Any.strconv_Itoa_small Tryz.itoaI p.toNat (by omega) w
  rw [hp, dec_one h] at this
  exact this.mono fun e w' ⟨he, hw⟩ => ⟨_, he, rfl, hw⟩
set_option maxHeartbeats 4000000 in
theorem text_own : ∀ (A : TrA) {w : World}, (∀ it ∈ A.items, it ∈ R) → A.tr.ok → A.tr.text.length ≤ 1000000 → Eng.Own ok w0 w R →
    Calls Tryz.prog 89 #[A.ptr] w fun e w' => ∃ u, e = .returned u ∧ ∃ L', (u = .string (bs A.tr.text) ∧ R = L') ∧ Eng.Own ok w0 w' L' := by
  intro A
  induction A with
  | leaf b p =>
    intro w hA hk hl H
    obtain ⟨i, hi⟩ := at_mem (hA _ (TrA.top_mem (.leaf b p)))
    refine enterN (args := [(TrA.leaf b p).ptr]) Tryz.func89 rfl Tryz.ntmps89 rfl rfl ?_
    refine Eng.nc_seq ?_
    refine nc ?_
    refine Eng.nc_seq ?_
    refine Eng.nc_seq ?_
    refine nc ?_
    refine own_load H i hi (by kernel_rfl) (j := 1) rfl ?_
    refine eqlNil_rule (by kernel_rfl) ?_
    refine Eng.nc_cond (b := true) rfl (fun hc => ?_) (fun hc => ?_)
    · refine Eng.nc_seq ?_
      refine nc ?_
      refine own_load H i hi (by kernel_rfl) (j := 0) (v := .int .i64 p) rfl ?_
      refine call_rule (by kernel_rfl) (itoa_own hk) fun u w1 ⟨hu, hw⟩ => ?_
      subst hu hw
      refine nc ?_
      exact ret_inA [_] ⟨_, rfl, R, ⟨rfl, rfl⟩, H⟩
    · cases hc
  | two b l r ihl ihr =>
    intro w hA hk hl H
    have hl' : (TrA.two b l r).tr.text.length = l.tr.text.length + r.tr.text.length + 2 := by simp only [TrA.tr, Tr.text, List.length_cons, List.length_append, List.length_nil]; omega
    obtain ⟨i, hi⟩ := at_mem (hA _ (TrA.top_mem (.two b l r)))
    refine enterN (args := [(TrA.two b l r).ptr]) Tryz.func89 rfl Tryz.ntmps89 rfl rfl ?_
    refine Eng.nc_seq ?_
    refine nc ?_
    refine Eng.nc_seq ?_
    refine Eng.nc_seq ?_
    refine nc ?_
    refine own_load H i hi (by kernel_rfl) (j := 1) (v := .pointer (some ⟨l.root, 0, none⟩)) rfl ?_
    refine eqlNil_rule (by kernel_rfl) ?_
    refine Eng.nc_cond (b := false) rfl (fun hc => ?_) (fun hc => ?_)
    · cases hc
    refine nc ?_
    refine Eng.nc_seq ?_
    refine nc ?_
    refine draw_rule [] (by kernel_rfl) (by kernel_rfl) H ?_
    refine c_load i hi (by kernel_rfl) (j := 1) (v := l.ptr) rfl ?_
    refine c_callOwn (fun u L' => u = .string (bs l.tr.text) ∧ R = L') rfl (by kernel_rfl) (fun v L' h => by rw [← h.2]; exact List.Sublist.refl _) (fun w H => ihl (sub_left hA) hk.1 (by omega) H) fun v L' hv => ?_
    obtain ⟨rfl, rfl⟩ := hv
    refine c_catM (a := [40]) (by simp; omega) ?_
    refine c_load i hi (by kernel_rfl) (j := 2) (v := r.ptr) rfl ?_
    refine c_callOwn (fun u L' => u = .string (bs r.tr.text) ∧ R = L') rfl (by kernel_rfl) (fun v L' h => by rw [← h.2]; exact List.Sublist.refl _) (fun w H => ihr (sub_right hA) hk.2 (by omega) H) fun v L' hv => ?_
    obtain ⟨rfl, rfl⟩ := hv
    refine c_catM (by simp; omega) ?_
    refine c_catM (b := [41]) (by simp; omega) ?_
    intro w2 H
    refine nc ?_
    refine ret_inA [_] ⟨_, rfl, R, ⟨?_, rfl⟩, H⟩
    have e : ([40] ++ l.tr.text ++ r.tr.text ++ [41] : List UInt8) = (TrA.two b l r).tr.text := by simp [TrA.tr, Tr.text]
    exact congrArg (fun q => Value.string (bs q)) e
set_option maxHeartbeats 1000000 in
theorem treeLeaf_calls {p : Int} : Calls Tryz.prog 44 #[.int .i64 p] w fun e w' => ∃ v, e = .returned v ∧ (v = .tuple #[.string (bs (if 1 ≤ p ∧ p ≤ 8 then (Tr.leaf p).text else [])), .int .i64 (if 1 ≤ p ∧ p ≤ 8 then 0 else 1)] ∧ Bel w.heap.size w w') := by
  have H : Eng.Own (fun _ => False) w w [] := Eng.Own.nil _ w
  refine enterN (args := [.int .i64 p]) Tryz.func44 rfl Tryz.ntmps44 rfl rfl ?_
  refine Eng.nc_seq ?_
  refine nc ?_
  refine Eng.nc_seq ?_
  refine Eng.nc_seq ?_
  refine nc ?_
  by_cases hp : 1 ≤ p ∧ p ≤ 8
  · rw [if_pos hp, if_pos hp]
    refine Eng.nc_cond (b := false) (by rw [decide_eq_false (show ¬ p < 1 by omega), decide_eq_false (show ¬ p > 8 by omega)]; rfl) (fun hc => ?_) (fun hc => ?_)
    · cases hc
    refine nc ?_
    refine Eng.nc_seq ?_
    refine nc ?_
    refine call_rule (by kernel_rfl) (itoa_own hp) fun u w1 ⟨hu, hw⟩ => ?_
    subst hu hw
    refine nc ?_
    exact ret_inA [_, .int .i64 0] ⟨_, rfl, rfl, H.frame⟩
  · rw [if_neg hp, if_neg hp]
    refine Eng.nc_cond (b := true) (by
      by_cases h1 : p < 1
      · rw [decide_eq_true h1]; rfl
      · rw [decide_eq_false h1, decide_eq_true (show p > 8 by omega)]; rfl) (fun hc => ?_) (fun hc => ?_)
    · refine Eng.nc_seq ?_
      refine nc ?_
      refine nc ?_
      exact ret_inA [.string (bs []), .int .i64 1] ⟨_, rfl, rfl, H.frame⟩
    · cases hc
end Go.Proofs.YtfapphlhkfddoaaGreatDoor.G
/- Small laws of the models. -/
namespace Go.Proofs.YtfapphlhkfddoaaGreatDoor.G
open Go.RowKit Go.Eng Go.Proofs Go.Proofs.YtfapphlhkfddoaaGreatDoor.Cut
set_option linter.unusedVariables false
set_option linter.unusedSimpArgs false
theorem idxL_lt {α : Type} {xs : List α} {i : Nat} (h : i < xs.length) : idxL xs (i : Int) = some xs[i] := by rw [idxL_nat, List.getElem?_eq_getElem h]
theorem wrap1 (i : Nat) (h : i ≤ 4611686018427387904) : IntKind.i64.wrap ((i : Int) + (1 : Int)) = ((i + 1 : Nat) : Int) := by rw [Eng.i64_id (by omega) (by omega)]; omega
theorem room_of {α : Type} {b n : Nat} {x : Option α} (h : n * b ≤ 140737488355328) : roomM b n x = x := by unfold roomM; rw [if_pos h]
theorem cond_t {α : Type} {p : Prop} [Decidable p] {a b : α} (h : p) : cond (decide p) a b = a := by rw [decide_eq_true h]; rfl
theorem cond_f {α : Type} {p : Prop} [Decidable p] {a b : α} (h : ¬ p) : cond (decide p) a b = b := by rw [decide_eq_false h]; rfl
theorem take_snoc {α : Type} {xs : List α} {i : Nat} (h : i < xs.length) : xs.take i ++ [xs[i]] = xs.take (i + 1) := by rw [List.take_add_one, List.getElem?_eq_getElem h]; rfl
theorem int_ne {a b : Nat} : ((a : Int) != (b : Int)) = decide (a ≠ b) := by
  rw [Bool.eq_iff_iff]; simp; omega

theorem slc_lt {α : Type} {xs : List α} {a b : Nat} (h : a ≤ b) (hb : b ≤ xs.length) : slcM xs (a : Int) (b : Int) = some ((xs.drop a).take (b - a)) := by
  unfold slcM
  rw [if_pos ⟨by omega, by omega, by omega⟩]
  simp
theorem slc_to {α : Type} {xs : List α} {a : Nat} (h : a ≤ xs.length) : slcM xs (a : Int) (xs.length : Int) = some (xs.drop a) := by
  rw [slc_lt h (Nat.le_refl _)]
  rw [List.take_of_length_le (by rw [List.length_drop]; omega)]
theorem idxS_at {s : List UInt8} {i : Nat} {b : UInt8} (h : s[i]? = some b) : idxS s (i : Int) = some (b.toNat : Int) := by
  unfold idxS
  rw [idxL_nat, h]; rfl

theorem byte_ne {c k : UInt8} (h : c ≠ k) : ((c.toNat : Int) == (k.toNat : Int)) = false := by
  rw [beq_eq_false_iff_ne]
  intro q
  exact h (UInt8.toNat_inj.1 (by omega))
theorem idxS0 (c : UInt8) (r : List UInt8) : idxS (c :: r) (0 : Int) = some (c.toNat : Int) := rfl
theorem idxS1 (c d : UInt8) (r : List UInt8) : idxS (c :: d :: r) (1 : Int) = some (d.toNat : Int) := rfl
theorem idxS2 (c d e : UInt8) (r : List UInt8) : idxS (c :: d :: e :: r) (2 : Int) = some (e.toNat : Int) := rfl
theorem loop_unroll {S O : Type} (body : S → Option (S ⊕ O)) (s : S) : loopM body s = (body s).bind (Sum.elim (loopM body) some) := by
  have key : ∀ o, loopM body s = some o → (body s).bind (Sum.elim (loopM body) some) = some o := by
    intro o h
    obtain ⟨n, hn⟩ := loopS h
    obtain ⟨k, rfl, q, hq, h2⟩ := iterS hn
    rw [hq, Option.bind_some]
    cases q with
    | inl s' => exact loop_of k h2
    | inr o' => exact congrArg some h2
  cases h : loopM body s with
  | some o => exact (key o h).symm
  | none =>
    cases h2 : (body s).bind (Sum.elim (loopM body) some) with
    | none => rfl
    | some o =>
      exfalso
      obtain ⟨q, hq, h3⟩ := bindS h2
      cases q with
      | inl s' => rw [loop_step hq h3] at h; cases h
      | inr o' => rw [loop_end hq] at h; cases h
end Go.Proofs.YtfapphlhkfddoaaGreatDoor.G
/- Is a number among some? (By the program.) -/
namespace Go.Proofs.YtfapphlhkfddoaaGreatDoor.G
open Go.RowKit Go.Eng Go.Proofs Go.Proofs.YtfapphlhkfddoaaGreatDoor.Cut
set_option linter.unusedVariables false
set_option linter.unusedSimpArgs false
theorem index_has (xs : List Int) (p : Int) (hl : xs.length ≤ 1000000000) : ∃ q, slices_Index_int_int.f xs p = some q ∧ (q ≥ 0 ↔ p ∈ xs) := by
  have go : ∀ k i, i + k = xs.length → ∃ r, loopM (fun s91 : Int => slices_Index_int_int.b1 xs p s91) (i : Int) = some r ∧ ((∃ j : Nat, r = Sum.inr (j : Int)) ∧ p ∈ xs.drop i ∨ r = Sum.inl () ∧ p ∉ xs.drop i) := by
    intro k
    induction k with
    | zero =>
      intro i hi
      refine ⟨.inl (), ?_, .inr ⟨rfl, by rw [List.drop_of_length_le (by omega)]; simp⟩⟩
      refine loop_end ?_
      show slices_Index_int_int.b1 xs p (i : Int) = _
      unfold slices_Index_int_int.b1
      rw [cond_f (by omega)]
    | succ k ih =>
      intro i hi
      have hil : i < xs.length := by omega
      rw [List.drop_eq_getElem_cons hil]
      by_cases he : p = xs[i]
      · refine ⟨.inr (i : Int), ?_, .inl ⟨⟨i, rfl⟩, by rw [← he]; exact List.mem_cons_self⟩⟩
        refine loop_end ?_
        show slices_Index_int_int.b1 xs p (i : Int) = _
        unfold slices_Index_int_int.b1
        rw [cond_t (by omega), idxL_lt hil, Option.bind_some, show (p == xs[i]) = true from beq_iff_eq.2 he, cond_true]
      · obtain ⟨r, h1, h2⟩ := ih (i + 1) (by omega)
        refine ⟨r, loop_step ?_ h1, ?_⟩
        · show slices_Index_int_int.b1 xs p (i : Int) = _
          unfold slices_Index_int_int.b1
          rw [cond_t (by omega), idxL_lt hil, Option.bind_some, show (p == xs[i]) = false from beq_eq_false_iff_ne.2 he, cond_false, wrap1 i (by omega)]
        · rcases h2 with ⟨h3, h4⟩ | ⟨h3, h4⟩
          · exact .inl ⟨h3, List.mem_cons_of_mem _ h4⟩
          · refine .inr ⟨h3, fun q => ?_⟩
            rcases List.mem_cons.1 q with q | q
            · exact he q
            · exact h4 q
  obtain ⟨r, h1, h2⟩ := go xs.length 0 (by omega)
  rw [List.drop_zero] at h2
  unfold slices_Index_int_int.f
  rw [show loopM (fun s91 : Int => slices_Index_int_int.b1 xs p s91) (0 : Int) = _ from h1]
  rcases h2 with ⟨⟨j, rfl⟩, h⟩ | ⟨rfl, h⟩
  · exact ⟨(j : Int), rfl, by constructor <;> intro _ <;> first | exact h | omega⟩
  · exact ⟨-1, rfl, by constructor <;> intro q <;> first | (exfalso; exact h q) | (exfalso; omega)⟩
theorem hasP_eq (xs : List Int) (p : Int) (hl : xs.length ≤ 1000000000) : view_Has.f xs p = some (decide (p ∈ xs)) := by
  obtain ⟨q, h1, h2⟩ := index_has xs p hl
  unfold view_Has.f slices_Contains_int_int.f
  rw [h1, Option.bind_some, Option.bind_some]
  exact congrArg some (by rw [Bool.eq_iff_iff, decide_eq_true_iff, decide_eq_true_iff]; exact h2)
end Go.Proofs.YtfapphlhkfddoaaGreatDoor.G
