/-
  Normed weights: what NormWeights makes of sixteenths, and the power of what it makes.
-/
import Derived.Test.YtnfcbacdggkfeaaBdScale
namespace Go.Proofs.Ytnfcbacdggkfeaa.PlainBd
open Ieee Go.RowKit Go.Proofs.YtnfcbacdggkfeaaW.PrintWords Go.Proofs.YtnfcbacdggkfeaaW.PrintLast Go.Proofs.YtnfcbacdggkfeaaW.PrintMore
open Go.Proofs.Ytnfcbacdggkfeaa.B Go.Proofs.Ytnfcbacdggkfeaa.PlainP

/-! The power above nought. -/
theorem off_nonneg {F : Nat} {v x : Int} (h : Off F v x) (hx : 0 ≤ x) : 0 ≤ v := by
  unfold Off at h
  rcases Int.lt_or_le v 0 with hv | hv
  · exfalso
    have h1 : (v - x).natAbs * 1 ≤ (v - x).natAbs * 2 ^ F := Nat.mul_le_mul_left _ (Nat.two_pow_pos F)
    omega
  · exact hv
theorem sq_nn (a : Int) : 0 ≤ a * a := by
  rw [← Int.natAbs_mul_self' a]
  exact Int.mul_nonneg (Int.natCast_nonneg _) (Int.natCast_nonneg _)
theorem square_nat {v : Nat} {c : Int} (h : IsV .f32 v c) (hc : c.natAbs ≤ 2 ^ 160) : ∃ u d z : Nat, floatToFloatBits .f32 v .f64 = some u ∧ floatBits .mul .f64 u u = some d ∧ IsV .f64 d (z : Int) ∧ RelE (2 ^ 20) 1 (z * 2 ^ KK .f64) (c.natAbs * 2 ^ 925 * (c.natAbs * 2 ^ 925)) := by
  obtain ⟨u, eu, iu⟩ := widen_V h (Nat.lt_of_le_of_lt hc (pow_lt' 160 200 (by decide)))
  have ec : (c * ((2 ^ 925 : Nat) : Int)).natAbs = c.natAbs * 2 ^ 925 := abs_pow c 925
  have hA : c * ((2 ^ 925 : Nat) : Int) = 0 ∨ 2 ^ 925 ≤ (c * ((2 ^ 925 : Nat) : Int)).natAbs := by
    by_cases h0 : c = 0
    · exact .inl (by rw [h0]; exact Int.zero_mul _)
    · refine .inr ?_
      rw [ec]
      exact Nat.le_mul_of_pos_left _ (by omega)
  obtain ⟨d, z, ed, iz, ho⟩ := mul_V 1100 925 925 (by decide) (by decide) iu iu hA hA (by
    rw [Int.natAbs_mul, ec]
    exact mul_room (pow_bd 160 925 1085 c.natAbs rfl hc) (pow_bd 160 925 1085 c.natAbs rfl hc) (pow_mm 1085 1085 2170 rfl) (pow_lt' 2170 _ (by decide)))
  have hz : 0 ≤ z := by
    exact scale_pos (Nat.two_pow_pos (KK .f64)) (off_nonneg ho (sq_nn _))
  obtain ⟨y, rfl⟩ := Int.eq_ofNat_of_zero_le hz
  refine ⟨u, d, y, eu, ed, iz, ?_⟩
  have r := off_rel (by decide) ho
  rw [Int.natAbs_mul, Int.natAbs_mul, ec, Int.natAbs_natCast, Int.natAbs_natCast] at r
  exact r
/-- A scaled number: its parts' squares. -/
def Sc (B p : Nat) (y : C64) : Prop := ∃ c d : Int, IsV .f32 y.re c ∧ IsV .f32 y.im d ∧ c.natAbs ≤ 2 ^ 160 ∧ d.natAbs ≤ 2 ^ 160 ∧ RelE (2 ^ 20) 3 ((c.natAbs * c.natAbs + d.natAbs * d.natAbs) * 2 ^ 298) (p * 2 ^ 290 * (B * B))
theorem pwOf_fi {x : C64} (h : Fi x) : ∃ a b, IsF x a b ∧ pwOf x = pw a b := ⟨h.choose, h.choose_spec.choose, h.choose_spec.choose_spec, by unfold pwOf; rw [dif_pos h]⟩
theorem part_room {A B c R S T U : Nat} (h : c * R ≤ 2 * (A * S * B)) (h1 : A * S * B ≤ T) (h2 : 2 * T = U * R) (hR : 0 < R) : c ≤ U := by
  refine Nat.le_of_mul_le_mul_right (c := R) ?_ hR
  omega
theorem scaled_room {c A B : Nat} (r : RelE (2 ^ 20) 1 (c * 2 ^ KK .f32) (A * 2 ^ 145 * B)) (ha : A ≤ 2 ^ 5) (hB : B ≤ 2 ^ 154) : c ≤ 2 ^ 160 := by
  obtain ⟨-, g⟩ := rel_half (by decide) r
  have h1 : A * 2 ^ 145 * B ≤ 2 ^ 304 := Nat.le_trans (Nat.mul_le_mul (pow_bd 5 145 150 A rfl ha) hB) (Nat.le_of_eq (pow_mm 150 154 304 rfl))
  have h2 : 2 * 2 ^ 304 = 2 ^ 305 := pow_dbl 304 305 rfl
  have h3 : 2 ^ 156 * 2 ^ KK .f32 = 2 ^ 305 := pow_mm 156 (KK .f32) 305 rfl
  have h4 : 2 ^ 156 ≤ 2 ^ 160 := Nat.pow_le_pow_right (by decide) (by decide)
  exact Nat.le_trans (part_room g h1 (h2.trans h3.symm) (Nat.two_pow_pos _)) h4
theorem sq_parts {c d A D B p X Y Z W : Nat} (r1 : RelE (2 ^ 20) 1 (c * X) (A * Y * B)) (r2 : RelE (2 ^ 20) 1 (d * X) (D * Y * B)) (hX : X * X = Z) (hY : Y * Y = W) (hp : A * A + D * D = p) : RelE (2 ^ 20) 3 ((c * c + d * d) * Z) (p * W * (B * B)) := by
  have a := RelE.add (RelE.sq E20 r1 (by decide)) (RelE.sq E20 r2 (by decide))
  rw [← hX, ← hY, ← hp]
  rw [show (c * c + d * d) * (X * X) = c * X * (c * X) + d * X * (d * X) by grind, show (A * A + D * D) * (Y * Y) * (B * B) = A * Y * B * (A * Y * B) + D * Y * B * (D * Y * B) by grind]
  exact a
theorem sq_abs (a : Int) : ((a.natAbs * a.natAbs : Nat) : Int) = a * a := by rw [Int.natCast_mul, Int.natAbs_mul_self']
theorem scale_fi {x : C64} {b B : Nat} (h : Fi x) (hB : IsV .f32 b (B : Int)) (hB1 : 2 ^ 145 ≤ B) (hB2 : B ≤ 2 ^ 154) : ∃ y, impl_ScaleComplex.f x b = some y ∧ Sc B (pwOf x).toNat y := by
  obtain ⟨m, n, ⟨i1, i2, a1, a2⟩, hp⟩ := pwOf_fi h
  obtain ⟨v, c, ev, iv, rv⟩ := scale_part i1 a1 hB hB1 hB2
  obtain ⟨w, d, ew, iw, rw_⟩ := scale_part i2 a2 hB hB1 hB2
  obtain ⟨o1, q1⟩ := fok_some ev
  obtain ⟨o2, q2⟩ := fok_some ew
  refine ⟨⟨v, w⟩, ?_, c, d, iv, iw, scaled_room rv a1 hB2, scaled_room rw_ a2 hB2, ?_⟩
  · unfold impl_ScaleComplex.f
    rw [if_pos o1, if_pos o2, q1, q2]
  · refine sq_parts rv rw_ (pow_mm _ _ 298 rfl) (pow_mm _ _ 290 rfl) ?_
    rw [hp]
    unfold pw
    rw [← sq_abs, ← sq_abs, ← Int.natCast_add, Int.toNat_natCast]
theorem power_rel {z y D c d p B X Y Z W V : Nat} (r1 : RelE (2 ^ 20) 1 (z * X) (c * Y * (c * Y))) (r2 : RelE (2 ^ 20) 1 (y * X) (d * Y * (d * Y))) (r3 : RelE (2 ^ 20) 1 D (z + y)) (r4 : RelE (2 ^ 20) 3 ((c * c + d * d) * Z) (p * W * (B * B))) (hp : X * Z * V = W * (Y * Y)) (h0 : 0 < X * Z) : RelE (2 ^ 20) 7 D (p * V * (B * B)) := by
  have a1 := RelE.scale Z (RelE.add r1 r2)
  rw [show c * Y * (c * Y) + d * Y * (d * Y) = (c * c + d * d) * (Y * Y) by grind, ← Nat.add_mul] at a1
  have a2 := RelE.scale (Y * Y) r4
  rw [show (c * c + d * d) * Z * (Y * Y) = (c * c + d * d) * (Y * Y) * Z by grind] at a2
  have a3 := RelE.trans E20 a1 a2 (by decide) (by decide)
  rw [show p * W * (B * B) * (Y * Y) = p * V * (B * B) * (X * Z) by rw [show p * W * (B * B) * (Y * Y) = p * (B * B) * (W * (Y * Y)) by grind, ← hp]; grind, Nat.mul_assoc] at a3
  exact (RelE.trans E20 r3 (RelE.cancel h0 a3) (by decide) (by decide)).mono (by decide)
theorem le_of_rel {D X Y : Nat} {t : Nat} (r : RelE (2 ^ 20) t D X) (ht : t ≤ 1000) (h : 2 * X ≤ Y) : D ≤ Y := by
  have := (rel_half ht r).2
  omega
theorem add_nat {k : FloatKind} {x y a b : Nat} (G : Nat) (hG : G + 2 ≤ RR k) (hF : 20 ≤ FF k) (hx : IsV k x (a : Int)) (hy : IsV k y (b : Int)) (h : a + b < 2 ^ (FF k + G)) : ∃ w c : Nat, floatBits .add k x y = some w ∧ IsV k w (c : Int) ∧ RelE (2 ^ 20) 1 c (a + b) := by
  obtain ⟨w, c, e, i, ho⟩ := add_V G hG hx hy (by rw [← Int.natCast_add, Int.natAbs_natCast]; exact h)
  have hc := off_nonneg ho (by omega)
  obtain ⟨c, rfl⟩ := Int.eq_ofNat_of_zero_le hc
  refine ⟨w, c, e, i, ?_⟩
  have r := off_rel hF ho
  rw [← Int.natCast_add, Int.natAbs_natCast, Int.natAbs_natCast] at r
  exact r
theorem square_room {c z X Y Z W : Nat} (r : RelE (2 ^ 20) 1 (z * X) (c * Y * (c * Y))) (h1 : c * Y * (c * Y) ≤ Z) (h2 : 2 * Z = W * X) (hX : 0 < X) : z ≤ W := by
  refine Nat.le_of_mul_le_mul_right (c := X) ?_ hX
  have := (rel_half (by decide) r).2
  omega
theorem sq_room {c z : Nat} (hc : c ≤ 2 ^ 160) (r : RelE (2 ^ 20) 1 (z * 2 ^ KK .f64) (c * 2 ^ 925 * (c * 2 ^ 925))) : z ≤ 2 ^ 1097 := by
  have h1 : c * 2 ^ 925 ≤ 2 ^ 1085 := pow_bd 160 925 1085 c rfl hc
  have h2 : c * 2 ^ 925 * (c * 2 ^ 925) ≤ 2 ^ 2170 := Nat.le_trans (Nat.mul_le_mul h1 h1) (Nat.le_of_eq (pow_mm 1085 1085 2170 rfl))
  have h3 : 2 * 2 ^ 2170 = 2 ^ 2171 := pow_dbl 2170 2171 rfl
  have h4 : 2 ^ 1097 * 2 ^ KK .f64 = 2 ^ 2171 := pow_mm 1097 (KK .f64) 2171 rfl
  exact square_room r h2 (h3.trans h4.symm) (Nat.two_pow_pos _)
theorem two_room {z y Z W V : Nat} (h1 : z ≤ Z) (h2 : y ≤ Z) (h3 : 2 * Z = W) (h4 : W < V) : z + y < V := by omega
theorem pos2 (a b : Nat) : 0 < 2 ^ a * 2 ^ b := Nat.mul_pos (Nat.two_pow_pos _) (Nat.two_pow_pos _)
theorem pow_eq3 (a b c d e : Nat) (h : a + b + c = d + (e + e)) : 2 ^ a * 2 ^ b * 2 ^ c = 2 ^ d * (2 ^ e * 2 ^ e) := by rw [← Nat.pow_add, ← Nat.pow_add, ← Nat.pow_add, ← Nat.pow_add, h]
theorem power_sc {B p : Nat} {y : C64} (h : Sc B p y) : ∃ u D : Nat, impl_power.f y = some u ∧ IsV .f64 u (D : Int) ∧ RelE (2 ^ 20) 7 D (p * 2 ^ 768 * (B * B)) := by
  obtain ⟨c, d, i1, i2, b1, b2, r⟩ := h
  obtain ⟨u1, d1, z1, e1, m1, j1, s1⟩ := square_nat i1 b1
  obtain ⟨u2, d2, z2, e2, m2, j2, s2⟩ := square_nat i2 b2
  obtain ⟨w, D, ea, ia, ra⟩ := add_nat 1100 (by decide) (by decide) j1 j2 (two_room (sq_room b1 s1) (sq_room b2 s2) (pow_dbl 1097 1098 rfl) (pow_lt' 1098 _ (by decide)))
  obtain ⟨o1, q1⟩ := fcok_some e1 34 37
  obtain ⟨o2, q2⟩ := fcok_some e2 34 37
  obtain ⟨o3, q3⟩ := fok_some m1
  obtain ⟨o4, q4⟩ := fok_some m2
  obtain ⟨o5, q5⟩ := fok_some ea
  have hp := pow_eq3 (KK .f64) 298 768 290 925 (by decide)
  have h0 := pos2 (KK .f64) 298
  refine ⟨w, D, ?_, ia, ?_⟩
  case refine_2 =>
    generalize 2 ^ 290 = W at hp r
    generalize 2 ^ 925 = Y at hp s1 s2
    generalize 2 ^ 768 = V at hp ⊢
    generalize 2 ^ KK .f64 = X at hp s1 s2 h0
    generalize 2 ^ 298 = Z at hp r h0
    exact power_rel s1 s2 ra r hp h0
  unfold impl_power.f impl_parts.f
  rw [if_pos o1, if_pos o2, q1, q2]
  simp only [Option.bind_some]
  rw [if_pos o3, if_pos o4, q3, q4, if_pos o5, q5]
end Go.Proofs.Ytnfcbacdggkfeaa.PlainBd
