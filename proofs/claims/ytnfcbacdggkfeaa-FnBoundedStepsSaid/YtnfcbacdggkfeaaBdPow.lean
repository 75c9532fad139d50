/-
  Powers of numbers that are sixteenths: exact, and what PowersOf tells of a list of them.
-/
import Derived.Test.YtnfcbacdggkfeaaBx1
import Derived.Test.YtnfcbacdggkfeaaBdFine
namespace Go.Proofs.Ytnfcbacdggkfeaa.PlainBd
open Go.RowKit Go.Proofs.YtnfcbacdggkfeaaW.PrintWords Go.Proofs.YtnfcbacdggkfeaaW.PrintLast Go.Proofs.YtnfcbacdggkfeaaW.PrintMore
open Go.Proofs.Ytnfcbacdggkfeaa.B Go.Proofs.Ytnfcbacdggkfeaa.PlainP

theorem pow_cast {a b c : Nat} (h : a + b = c) (n : Int) : n * ((2 ^ a : Nat) : Int) * ((2 ^ b : Nat) : Int) = n * ((2 ^ c : Nat) : Int) := by
  subst h
  rw [Int.mul_assoc, ← Int.natCast_mul, ← Nat.pow_add]
theorem abs_pow (n : Int) (T : Nat) : (n * ((2 ^ T : Nat) : Int)).natAbs = n.natAbs * 2 ^ T := by rw [Int.natAbs_mul, Int.natAbs_natCast]
/-- A sixteenth as a float64. -/
theorem wide_some {w : Nat} {a : Int} (h : IsV .f32 w (a * ((2 ^ 145 : Nat) : Int))) (ha : a.natAbs ≤ 32) : ∃ u, floatToFloatBits .f32 w .f64 = some u ∧ IsV .f64 u (a * ((2 ^ 1070 : Nat) : Int)) := by
  obtain ⟨u, e, i⟩ := widen_V h (by
    rw [abs_pow]
    have h1 : a.natAbs * 2 ^ 145 ≤ 2 ^ 5 * 2 ^ 145 := Nat.mul_le_mul_right _ ha
    rw [← Nat.pow_add] at h1
    exact Nat.lt_of_le_of_lt h1 (Nat.pow_lt_pow_right (by decide) (by decide)))
  exact ⟨u, e, (pow_cast (a := 145) (b := 925) (c := 1070) rfl a) ▸ i⟩
/-- The power of a number of sixteenths, in its 256th parts. -/
def pw (a b : Int) : Int := a * a + b * b
theorem sq_le {a : Int} (h : a.natAbs ≤ 32) : (a * a).natAbs ≤ 1024 ∧ 0 ≤ a * a := by
  refine ⟨?_, ?_⟩
  · rw [Int.natAbs_mul]
    exact Nat.mul_le_mul h h
  · rw [← Int.natAbs_mul_self' a]
    exact Int.mul_nonneg (Int.natCast_nonneg _) (Int.natCast_nonneg _)
theorem pw_le {a b : Int} (ha : a.natAbs ≤ 32) (hb : b.natAbs ≤ 32) : 0 ≤ pw a b ∧ pw a b ≤ 2048 := by
  obtain ⟨h1, h2⟩ := sq_le ha
  obtain ⟨h3, h4⟩ := sq_le hb
  unfold pw
  omega
theorem parts_F {x : C64} {a b : Int} (h : IsF x a b) : ∃ u v, impl_parts.f x = some (u, v) ∧ IsV .f64 u (a * ((2 ^ 1070 : Nat) : Int)) ∧ IsV .f64 v (b * ((2 ^ 1070 : Nat) : Int)) := by
  obtain ⟨h1, h2, h3, h4⟩ := h
  obtain ⟨u, e1, i1⟩ := wide_some h1 h3
  obtain ⟨v, e2, i2⟩ := wide_some h2 h4
  obtain ⟨o1, q1⟩ := fcok_some e1 34 37
  obtain ⟨o2, q2⟩ := fcok_some e2 34 37
  refine ⟨u, v, ?_, i1, i2⟩
  unfold impl_parts.f
  rw [if_pos o1, if_pos o2, q1, q2]
theorem power_F {x : C64} {a b : Int} (h : IsF x a b) : ∃ u, impl_power.f x = some u ∧ IsV .f64 u (pw a b * ((2 ^ 1066 : Nat) : Int)) := by
  obtain ⟨u, v, e, i1, i2⟩ := parts_F h
  obtain ⟨-, -, h3, h4⟩ := h
  obtain ⟨p, e1, j1⟩ := mul_T (S := 1066) rfl (by decide) (by decide) (by decide) i1 i1 (Nat.lt_of_le_of_lt (sq_le h3).1 (by decide))
  obtain ⟨q, e2, j2⟩ := mul_T (S := 1066) rfl (by decide) (by decide) (by decide) i2 i2 (Nat.lt_of_le_of_lt (sq_le h4).1 (by decide))
  obtain ⟨r, e3, j3⟩ := add_T (by decide) (by decide) j1 j2 (Nat.lt_of_le_of_lt (show (a * a + b * b).natAbs ≤ 2048 by have := pw_le h3 h4; unfold pw at this; omega) (by decide))
  obtain ⟨o1, q1⟩ := fok_some e1
  obtain ⟨o2, q2⟩ := fok_some e2
  obtain ⟨o3, q3⟩ := fok_some e3
  refine ⟨r, ?_, j3⟩
  unfold impl_power.f
  rw [e]
  simp only [Option.bind_some]
  rw [if_pos o1, if_pos o2, q1, q2, if_pos o3, q3]
open Classical in
/-- A number's power in 256th parts. -/
noncomputable def pwOf (x : C64) : Int := if h : Fi x then pw h.choose h.choose_spec.choose else 0
theorem pwOf_some {x : C64} (h : Fi x) : (∃ u, impl_power.f x = some u ∧ IsV .f64 u (pwOf x * ((2 ^ 1066 : Nat) : Int))) ∧ 0 ≤ pwOf x ∧ pwOf x ≤ 2048 := by
  unfold pwOf
  rw [dif_pos h]
  have g := h.choose_spec.choose_spec
  exact ⟨power_F g, pw_le g.2.2.1 g.2.2.2⟩
/-- The powers' sum in 256th parts. -/
noncomputable def sumP : List C64 → Int
  | [] => 0
  | x :: l => pwOf x + sumP l
theorem sumP_snoc (l : List C64) (x : C64) : sumP (l ++ [x]) = sumP l + pwOf x := by
  induction l with
  | nil => simp [sumP]
  | cons y l ih => rw [List.cons_append]; simp only [sumP]; rw [ih]; omega
theorem sumP_le : ∀ (l : List C64), (∀ x ∈ l, Fi x) → 0 ≤ sumP l ∧ sumP l ≤ 2048 * l.length := by
  intro l
  induction l with
  | nil => intro _; simp [sumP]
  | cons x l ih =>
    intro h
    have h1 := (pwOf_some (h x (by simp))).2
    have h2 := ih (fun y hy => h y (by simp [hy]))
    simp only [sumP, List.length_cons]
    omega
theorem take_snoc (l : List C64) (i : Nat) (h : i < l.length) : l.take (i + 1) = l.take i ++ [rdOf c64z l (i : Int)] := by
  rw [rdOf_nat, List.take_add_one]
  simp [List.getD_eq_getElem?_getD, List.getElem?_eq_getElem h]
theorem powers_loop (l : List C64) (hl : ∀ x ∈ l, Fi x) (hn : l.length ≤ 16) : ∀ (d i s : Nat), i + d = l.length → IsV .f64 s (sumP (l.take i) * ((2 ^ 1066 : Nat) : Int)) →
    Ends (fun k => impl_PowersOf.l0 k s l (l.length : Int) (i : Int)) (fun r => r.2 = true ∧ IsV .f32 r.1 (sumP l * ((2 ^ 141 : Nat) : Int))) := by
  intro d
  induction d with
  | zero =>
    intro i s hi hs
    rw [List.take_of_length_le (by omega)] at hs
    have hb := sumP_le l hl
    obtain ⟨w, e, iw⟩ := narrow_T (T := 141) (S := 1066) rfl (by decide) (by decide) hs (Nat.lt_of_le_of_lt (show (sumP l).natAbs ≤ 32768 by omega) (by decide))
    obtain ⟨o, q⟩ := fcok_some e 37 34
    refine Ends.step (h := fun _ => some (w, true)) (fun k => ?_) (Ends.now ⟨rfl, iw⟩)
    show impl_PowersOf.l0 (k + 1) _ _ _ _ = _
    rw [impl_PowersOf.l0, if_neg (by omega), if_pos o, q]
  | succ d ih =>
    intro i s hi hs
    have hx := hl _ (rdOf_mem l i (by omega))
    obtain ⟨⟨u, e, iu⟩, b0, b1⟩ := pwOf_some hx
    have hb := sumP_le (l.take i) (fun x hx => hl x (List.mem_of_mem_take hx))
    have hlen : (l.take i).length ≤ 16 := by simp; omega
    obtain ⟨r, e3, j3⟩ := add_T (by decide) (by decide) hs iu (Nat.lt_of_le_of_lt (show (sumP (l.take i) + pwOf (rdOf c64z l (i : Int))).natAbs ≤ 65536 by omega) (by decide))
    obtain ⟨o3, q3⟩ := fok_some e3
    refine Ends.step (fun k => ?_) (ih (i + 1) r (by omega) (by rw [take_snoc l i (by omega), sumP_snoc]; exact j3))
    show impl_PowersOf.l0 (k + 1) _ _ _ _ = impl_PowersOf.l0 k _ _ _ _
    rw [impl_PowersOf.l0, if_pos (by omega), if_pos (by omega), if_pos (by omega), e]
    simp only [Option.bind_some]
    rw [if_pos o3, q3, w64 (by omega) (by omega), Int.natCast_add i 1]
    rfl
theorem nought64 (X : Int) : IsV .f64 0 (0 * X) := by
  rw [Int.zero_mul]
  exact ⟨false, 0, 0, by decide +kernel, by decide +kernel, by decide⟩
theorem powers_some (l : List C64) (hl : ∀ x ∈ l, Fi x) (hn : l.length ≤ 16) : Ends (fun k => impl_PowersOf.f k l) (fun r => r.2 = true ∧ IsV .f32 r.1 (sumP l * ((2 ^ 141 : Nat) : Int))) := by
  refine Ends.congr (fun k => ?_) (powers_loop l hl hn l.length 0 0 (by omega) (by rw [List.take_zero]; exact nought64 _))
  unfold impl_PowersOf.f
  rw [if_neg (by omega)]
  rfl
end Go.Proofs.Ytnfcbacdggkfeaa.PlainBd
