/- Elements, and secrets above: what they are of right ones. -/
import Derived.Test.YtfapphlhkfddoaaGreatDoorTermSame
import Derived.Test.YtfapphlhkfddoaaGreatDoorH2
namespace Go.Proofs.YtfapphlhkfddoaaGreatDoor.G
open Go.RowKit Go.Eng Go.Proofs Go.Proofs.YtfapphlhkfddoaaGreatDoor.Cut
set_option linter.unusedVariables false
set_option linter.unusedSimpArgs false

theorem sortB_one (u : List UInt8) : sortB [u] = [u] := List.perm_singleton.1 (sortB_perm [u])
theorem powT_one (u : List UInt8) : powT [u] = 101 :: 1 :: u := by
  unfold powT
  rw [sortB_one]
  show 101 :: UInt8.ofNat 1 :: (u ++ []) = _
  rw [List.append_nil]; rfl
theorem right_gen : rightB [103] = true := full_right (full_mono full_gen (by omega)) (by simp)
theorem full_elem {u : List UInt8} {left : Nat} (hu : full u left) : full (101 :: 1 :: u) (left + 1) := by
  rw [← powT_one]
  exact full_pow (fun x hx => by rw [List.mem_singleton.1 hx]; exact hu) (by simp) (by simp)
theorem elem_eq {u : List UInt8} (hu : full u 399) (hl : u.length + 2 ≤ 20000) : blind_Element.f u = some (101 :: 1 :: u, 0) := by
  have hp : rightB (powT ([] ++ [u])) = true := by
    rw [List.nil_append, powT_one]
    exact full_right (full_elem hu) (by simpa using hl)
  have h := power_eq (c := 103) (r := []) (l := []) right_gen (.inl rfl) (full_right (full_mono hu (by omega)) (by omega)) exponents_gen (by simp) hp
  rw [List.nil_append, powT_one] at h
  unfold blind_Element.f term_Gen.f
  rw [Option.bind_some, h]; rfl
theorem exps_elem {u : List UInt8} (hu : full u 400) (hl : u.length ≤ 20000) : term_exponents.f (101 :: 1 :: u) = some [u] := by
  have h := exponents_pow (l := [u]) (n := 1) (fun x hx => by rw [List.mem_singleton.1 hx]; exact hu) (by simpa using hl)
  simpa using h
theorem full_two {u v : List UInt8} {left : Nat} (hu : full u left) (hv : full v left) : full (powT [u, v]) (left + 1) :=
  full_pow (fun x hx => by
    rcases List.mem_cons.1 hx with h | h
    · rw [h]; exact hu
    · rw [List.mem_singleton.1 h]; exact hv) (by simp) (by simp)
theorem powT_head (l : List (List UInt8)) : ∃ r, powT l = 101 :: r := ⟨_, rfl⟩
theorem full_above {u v : List UInt8} {left : Nat} (hu : full u left) (hv : full v left) : full (107 :: powT [u, v]) (left + 2) :=
  full_key (full_two hu hv) ⟨101, _, rfl, .inr rfl⟩
theorem above_len (u v : List UInt8) : (107 :: powT [u, v]).length = u.length + v.length + 3 := by
  rw [List.length_cons, powT_len]; simp; omega
theorem pow2_eq {u v : List UInt8} (hu : full u 399) (hv : full v 399) (hl : u.length + v.length + 2 ≤ 20000) : term_Power.f (101 :: 1 :: u) v = some (powT [u, v], 0) := by
  have he := full_mono (full_elem hu) (show 400 ≤ 400 by omega)
  exact power_eq (c := 101) (r := 1 :: u) (l := [u]) (full_right he (by simp; omega)) (.inr rfl) (full_right (full_mono hv (by omega)) (by omega)) (exps_elem (full_mono hu (by omega)) (by omega)) (by simp) (full_right (full_two hu hv) (by rw [List.singleton_append, powT_len]; simp; omega))
theorem above_eq {u v : List UInt8} (hu : full u 398) (hv : full v 398) (hl : u.length + v.length + 3 ≤ 20000) : blind_Above.f v (101 :: 1 :: u) = some (107 :: powT [u, v], 0) := by
  have h := pow2_eq (full_mono hu (by omega)) (full_mono hv (by omega)) (show u.length + v.length + 2 ≤ 20000 by omega)
  unfold blind_Above.f
  rw [h, Option.bind_some]
  obtain ⟨r, hr⟩ := powT_head [u, v]
  have h2 : full (powT [u, v]) 400 := full_mono (full_two hu hv) (by omega)
  have h3 := powT_len [u, v]
  have h4 := full_above hu hv
  show (term_Key.f (powT [u, v])).bind _ = _
  rw [hr] at h2 h3 h4 ⊢
  rw [key_eq (full_right h2 (by rw [h3]; simp; omega)) (.inr rfl) (full_right h4 (by rw [List.length_cons, h3]; simp; omega))]
  rfl
/-- Secrets above are the same of the same ones alone. -/
theorem above_perm {a b c d : List UInt8} {left : Nat} (ha : full a left) (hb : full b left) (hc : full c left) (hd : full d left) (h : 107 :: powT [a, b] = 107 :: powT [c, d]) : [a, b].Perm [c, d] :=
  powT_perm (left := left) (fun x hx => by
    rcases List.mem_cons.1 hx with h | h
    · rw [h]; exact ha
    · rw [List.mem_singleton.1 h]; exact hb) (fun x hx => by
    rcases List.mem_cons.1 hx with h | h
    · rw [h]; exact hc
    · rw [List.mem_singleton.1 h]; exact hd) (List.cons.inj h).2
end Go.Proofs.YtfapphlhkfddoaaGreatDoor.G
