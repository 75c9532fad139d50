/-
  A sixteenth times a number: off by a small part.
-/
import Derived.Test.YtnfcbacdggkfeaaBdBy
namespace Go.Proofs.Ytnfcbacdggkfeaa.PlainBd
open Go.RowKit Go.Proofs.YtnfcbacdggkfeaaW.PrintWords Go.Proofs.YtnfcbacdggkfeaaW.PrintLast Go.Proofs.YtnfcbacdggkfeaaW.PrintMore
open Go.Proofs.Ytnfcbacdggkfeaa.B Go.Proofs.Ytnfcbacdggkfeaa.PlainP

theorem mul_room {x y X Y Z W : Nat} (hx : x ≤ X) (hy : y ≤ Y) (h : X * Y = Z) (hlt : Z < W) : x * y < W := by
  have := Nat.mul_le_mul hx hy
  omega
theorem scale_part {w b B : Nat} {a : Int} (h : IsV .f32 w (a * ((2 ^ 145 : Nat) : Int))) (ha : a.natAbs ≤ 2 ^ 5) (hB : IsV .f32 b (B : Int)) (hB1 : 2 ^ 145 ≤ B) (hB2 : B ≤ 2 ^ 154) :
    ∃ (v : Nat) (c : Int), floatBits .mul .f32 w b = some v ∧ IsV .f32 v c ∧ RelE (2 ^ 20) 1 (c.natAbs * 2 ^ KK .f32) (a.natAbs * 2 ^ 145 * B) := by
  have e : (a * ((2 ^ 145 : Nat) : Int) * (B : Int)).natAbs = a.natAbs * 2 ^ 145 * B := by rw [Int.natAbs_mul, abs_pow, Int.natAbs_natCast]
  obtain ⟨v, c, ev, iv, ho⟩ := mul_V 200 145 145 (by decide) (by decide) h hB (by
    by_cases h0 : a = 0
    · exact .inl (by rw [h0, Int.zero_mul])
    · refine .inr ?_
      rw [abs_pow]
      exact Nat.le_mul_of_pos_left _ (by omega)) (.inr (by rw [Int.natAbs_natCast]; exact hB1)) (by
    rw [e]
    exact mul_room (pow_bd 5 145 150 a.natAbs rfl ha) hB2 (pow_mm 150 154 304 rfl) (pow_lt' 304 _ (by decide)))
  refine ⟨v, c, ev, iv, ?_⟩
  have r := off_rel (by decide) ho
  rw [e, Int.natAbs_mul, Int.natAbs_natCast] at r
  exact r
/-- A float32's square in float64. -/
theorem square_near {v : Nat} {c : Int} (h : IsV .f32 v c) (hc : c.natAbs ≤ 2 ^ 160) : ∃ u d : Nat, ∃ z : Int, floatToFloatBits .f32 v .f64 = some u ∧ floatBits .mul .f64 u u = some d ∧ IsV .f64 d z ∧ RelE (2 ^ 20) 1 (z.natAbs * 2 ^ KK .f64) (c.natAbs * 2 ^ 925 * (c.natAbs * 2 ^ 925)) := by
  obtain ⟨u, eu, iu⟩ := widen_V h (Nat.lt_of_le_of_lt hc (pow_lt' 160 200 (by decide)))
  have ec : (c * ((2 ^ 925 : Nat) : Int)).natAbs = c.natAbs * 2 ^ 925 := abs_pow c 925
  have hA : c * ((2 ^ 925 : Nat) : Int) = 0 ∨ 2 ^ 925 ≤ (c * ((2 ^ 925 : Nat) : Int)).natAbs := by
    by_cases h0 : c = 0
    · exact .inl (by rw [h0]; exact Int.zero_mul _)
    · refine .inr ?_
      rw [ec]
      exact Nat.le_mul_of_pos_left _ (by omega)
  obtain ⟨d, z, ed, iz, ho⟩ := mul_V 1100 925 925 (by decide) (by decide) iu iu hA hA (by
    rw [Int.natAbs_mul, ec]
    exact mul_room (pow_bd 160 925 1085 c.natAbs rfl hc) (pow_bd 160 925 1085 c.natAbs rfl hc) (pow_mm 1085 1085 2170 rfl) (pow_lt' 2170 _ (by decide)))
  refine ⟨u, d, z, eu, ed, iz, ?_⟩
  have r := off_rel (by decide) ho
  rw [Int.natAbs_mul, Int.natAbs_mul, ec, Int.natAbs_natCast] at r
  exact r
end Go.Proofs.Ytnfcbacdggkfeaa.PlainBd
