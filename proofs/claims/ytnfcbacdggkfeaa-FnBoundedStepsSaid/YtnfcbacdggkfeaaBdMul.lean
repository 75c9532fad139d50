/-
  Complex products in single precision: exact for sixteenths, and off by a small part for others. Signs turned.
-/
import Derived.Test.YtnfcbacdggkfeaaBx2
import Derived.Test.YtnfcbacdggkfeaaBdNorm
import Derived.Test.YtnfcbacdggkfeaaPlainLow
namespace Go.Proofs.Ytnfcbacdggkfeaa.PlainBd
open Ieee Go.RowKit Go.Proofs.YtnfcbacdggkfeaaW.PrintWords Go.Proofs.YtnfcbacdggkfeaaW.PrintLast Go.Proofs.YtnfcbacdggkfeaaW.PrintMore
open Go.Proofs.Ytnfcbacdggkfeaa.B Go.Proofs.Ytnfcbacdggkfeaa.PlainP

/-- A float32 whose sign is turned. -/
theorem neg_read (w : Nat) (s : Bool) (m : Nat) (e : Int) (h : Ieee.single.read w = .number s m e) : Ieee.single.read (w ^^^ 2 ^ 31) = .number (!s) m e := by
  have hs : Ieee.single.signWeight = 2 ^ 31 := by decide +kernel
  have h1 : (w ^^^ 2 ^ 31) % 2 ^ 31 = w % 2 ^ 31 := by
    rw [Nat.xor_mod_two_pow, Nat.mod_self, Nat.xor_zero]
  have h2 : ((w ^^^ 2 ^ 31) / 2 ^ 31 % 2 == 1) = !(w / 2 ^ 31 % 2 == 1) := by
    rw [Nat.xor_div_two_pow, Nat.div_self (by decide)]
    have hx : ∀ a : Nat, (a ^^^ 1) % 2 = a % 2 ^^^ 1 := fun a => Nat.xor_mod_two_pow (a := a) (b := 1) (n := 1)
    rw [hx]
    have := Nat.mod_two_eq_zero_or_one (w / 2 ^ 31)
    rcases this with h | h
    · rw [h]; rfl
    · rw [h]; rfl
  unfold Format.read at h ⊢
  rw [hs] at h ⊢
  simp only [h1, h2]
  simp only at h
  split at h
  · rename_i c
    rw [if_pos c]
    injection h with q1 q2 q3
    rw [q1, q2, q3]
  · rename_i c
    rw [if_neg c]
    split at h
    · rename_i c2
      rw [if_pos c2]
      injection h with q1 q2 q3
      rw [q1, q2, q3]
    · split at h <;> cases h
theorem neg_V {w : Nat} {v : Int} (h : IsV .f32 w v) : IsV .f32 (Go.Op.negFloat .f32 w) (-v) := by
  obtain ⟨s, m, j, d, e, hm⟩ := h
  exact ⟨!s, m, j, neg_read w s m _ d, by rw [sg_not, e], hm⟩
theorem sub_T {k : FloatKind} {x y T : Nat} {a b : Int} (hT : T ≤ KK k) (hFT : FF k ≤ T) (hx : IsV k x (a * ((2 ^ T : Nat) : Int))) (hy : IsV k y (b * ((2 ^ T : Nat) : Int))) (h : (a - b).natAbs < 2 ^ (FF k + 1)) :
    ∃ w, floatBits .sub k x y = some w ∧ IsV k w ((a - b) * ((2 ^ T : Nat) : Int)) := by
  obtain ⟨s, m, i, d1, v1, -⟩ := hx
  obtain ⟨t, n, j, d2, v2, -⟩ := hy
  have v2' : sg (!t) (n * 2 ^ j) = -(b * ((2 ^ T : Nat) : Int)) := by rw [sg_not, v2]
  obtain ⟨neg, mag, p, e1, e2⟩ := sum_V (K := KK k) v1 v2'
  rw [← Int.sub_eq_add_neg, ← Int.sub_mul] at e2
  refine ⟨_, ?_, write_T hT hFT e2 h⟩
  show (Datum.sum (k.decode x) (k.decode y).opposite).map k.format.write = _
  rw [d1, d2]
  show (Datum.sum (.number s m (-(KK k : Int) + (i : Int))) (.number (!t) n (-(KK k : Int) + (j : Int)))).map k.format.write = _
  rw [e1]
  rfl
theorem sq_b {a b : Int} {M : Nat} (ha : a.natAbs ≤ 32) (hb : b.natAbs ≤ M) : (a * b).natAbs ≤ 32 * M := by rw [Int.natAbs_mul]; exact Nat.mul_le_mul ha hb
/-- The product of two numbers of sixteenths: exact. -/
theorem mulC_T {x y : C64} {a b c d : Int} (h1 : IsV .f32 x.re (a * ((2 ^ 145 : Nat) : Int))) (h2 : IsV .f32 x.im (b * ((2 ^ 145 : Nat) : Int))) (h3 : IsV .f32 y.re (c * ((2 ^ 145 : Nat) : Int))) (h4 : IsV .f32 y.im (d * ((2 ^ 145 : Nat) : Int)))
    (ha : a.natAbs ≤ 32) (hb : b.natAbs ≤ 32) (hc : c.natAbs ≤ 32) (hd : d.natAbs ≤ 32) :
    ∃ z, impl_MulComplex.f x y = some z ∧ IsV .f32 z.re ((a * c - b * d) * ((2 ^ 141 : Nat) : Int)) ∧ IsV .f32 z.im ((a * d + b * c) * ((2 ^ 141 : Nat) : Int)) := by
  obtain ⟨u1, e1, i1⟩ := wide_some h1 ha
  obtain ⟨u2, e2, i2⟩ := wide_some h2 hb
  obtain ⟨u3, e3, i3⟩ := wide_some h3 hc
  obtain ⟨u4, e4, i4⟩ := wide_some h4 hd
  have p1 := sq_b ha hc
  have p2 := sq_b hb hd
  have p3 := sq_b ha hd
  have p4 := sq_b hb hc
  have lt : ∀ {n : Nat}, n ≤ 4096 → n < 2 ^ (FF .f64 + 1) := fun h => Nat.lt_of_le_of_lt h (by decide)
  obtain ⟨m1, f1, j1⟩ := mul_T (S := 1066) rfl (by decide) (by decide) (by decide) i1 i3 (lt (by omega))
  obtain ⟨m2, f2, j2⟩ := mul_T (S := 1066) rfl (by decide) (by decide) (by decide) i2 i4 (lt (by omega))
  obtain ⟨m3, f3, j3⟩ := mul_T (S := 1066) rfl (by decide) (by decide) (by decide) i1 i4 (lt (by omega))
  obtain ⟨m4, f4, j4⟩ := mul_T (S := 1066) rfl (by decide) (by decide) (by decide) i2 i3 (lt (by omega))
  obtain ⟨s1, g1, k1⟩ := sub_T (by decide) (by decide) j1 j2 (lt (by omega))
  obtain ⟨s2, g2, k2⟩ := add_T (by decide) (by decide) j3 j4 (lt (by omega))
  have lt2 : ∀ {n : Nat}, n ≤ 4096 → n < 2 ^ 24 := fun h => Nat.lt_of_le_of_lt h (by decide)
  obtain ⟨w1, o1, q1⟩ := narrow_T (T := 141) (S := 1066) rfl (by decide) (by decide) k1 (lt2 (by omega))
  obtain ⟨w2, o2, q2⟩ := narrow_T (T := 141) (S := 1066) rfl (by decide) (by decide) k2 (lt2 (by omega))
  obtain ⟨A1, B1⟩ := fcok_some e1 34 37
  obtain ⟨A2, B2⟩ := fcok_some e2 34 37
  obtain ⟨A3, B3⟩ := fcok_some e3 34 37
  obtain ⟨A4, B4⟩ := fcok_some e4 34 37
  obtain ⟨C1, D1⟩ := fok_some f1
  obtain ⟨C2, D2⟩ := fok_some f2
  obtain ⟨C3, D3⟩ := fok_some f3
  obtain ⟨C4, D4⟩ := fok_some f4
  obtain ⟨E1, F1⟩ := fok_some g1
  obtain ⟨E2, F2⟩ := fok_some g2
  obtain ⟨G1, H1⟩ := fcok_some o1 37 34
  obtain ⟨G2, H2⟩ := fcok_some o2 37 34
  refine ⟨⟨w1, w2⟩, ?_, q1, q2⟩
  unfold impl_MulComplex.f impl_parts.f
  rw [if_pos A1, if_pos A2, if_pos A3, if_pos A4, B1, B2, B3, B4]
  simp only [Option.bind_some]
  unfold impl_times.f
  rw [if_pos C1, if_pos C2, D1, D2, if_pos E1, if_pos C3, if_pos C4, D3, D4, if_pos E2, F1, F2]
  simp only [Option.bind_some]
  rw [if_pos G1, if_pos G2, H1, H2]
theorem combo {α β ζ1 ζ2 υ μ : Int} {T V : Nat} (h1 : (ζ1 - α).natAbs * 2 ^ 52 ≤ α.natAbs + 2 ^ 52 * T) (h2 : (ζ2 - β).natAbs * 2 ^ 52 ≤ β.natAbs + 2 ^ 52 * T) (h3 : (υ - (ζ1 - ζ2)).natAbs * 2 ^ 52 ≤ (ζ1 - ζ2).natAbs)
    (h4 : (μ - υ).natAbs * 2 ^ 23 ≤ υ.natAbs + 2 ^ 23 * V) (hV : 2 ^ 10 * T ≤ V) : 32 * ((μ - (α - β)).natAbs * 2 ^ 23) ≤ 33 * (α.natAbs + β.natAbs) + 2 ^ 30 * V := by
  have t1 : (μ - (α - β)).natAbs ≤ (μ - υ).natAbs + (υ - (ζ1 - ζ2)).natAbs + (ζ1 - α).natAbs + (ζ2 - β).natAbs := by omega
  have t2 : υ.natAbs ≤ (υ - (ζ1 - ζ2)).natAbs + (ζ1 - ζ2).natAbs := by omega
  have t3 : (ζ1 - ζ2).natAbs ≤ (ζ1 - α).natAbs + α.natAbs + (ζ2 - β).natAbs + β.natAbs := by omega
  generalize (μ - (α - β)).natAbs = a at *
  generalize (μ - υ).natAbs = b at *
  generalize (υ - (ζ1 - ζ2)).natAbs = c at *
  generalize (ζ1 - α).natAbs = d at *
  generalize (ζ2 - β).natAbs = e at *
  generalize (ζ1 - ζ2).natAbs = g at *
  generalize υ.natAbs = i at *
  generalize α.natAbs = j at *
  generalize β.natAbs = k at *
  omega
theorem times_T {a : Int} {b F T : Nat} (h : a.natAbs * F ≤ b) : (a * (T : Int)).natAbs * F ≤ b * T := by
  rw [Int.natAbs_mul, Int.natAbs_natCast, Nat.mul_right_comm]
  exact Nat.mul_le_mul_right _ h
theorem comp_fin {W T H : Nat} (hW : 0 < W) (hWT : W * T = W * W * H) (hV : 2 ^ 10 * T ≤ W * T) {A X B Y M z1 z2 u : Int} (h1 : (z1 * (T : Int) - A * (W : Int) * (X * (W : Int))).natAbs * 2 ^ 52 ≤ (A * (W : Int) * (X * (W : Int))).natAbs + 2 ^ 52 * T)
    (h2 : (z2 * (T : Int) - B * (W : Int) * (Y * (W : Int))).natAbs * 2 ^ 52 ≤ (B * (W : Int) * (Y * (W : Int))).natAbs + 2 ^ 52 * T) (h3 : (u - (z1 - z2)).natAbs * 2 ^ 52 ≤ (z1 - z2).natAbs) (h4 : (M * (W : Int) - u).natAbs * 2 ^ 23 ≤ u.natAbs + 2 ^ 23 * W) :
    32 * ((M * (H : Int) - (A * X - B * Y)).natAbs * 2 ^ 23) ≤ 33 * ((A * X).natAbs + (B * Y).natAbs) + 2 ^ 30 * H := by
  have g3 := times_T (T := T) h3
  have g4 := times_T (T := T) h4
  rw [Int.sub_mul, Int.sub_mul] at g3
  rw [Int.sub_mul] at g4
  have e3 : (z1 - z2).natAbs * T = (z1 * (T : Int) - z2 * (T : Int)).natAbs := by rw [← Int.sub_mul, Int.natAbs_mul, Int.natAbs_natCast]
  have e4 : (u.natAbs + 2 ^ 23 * W) * T = (u * (T : Int)).natAbs + 2 ^ 23 * (W * T) := by rw [Nat.add_mul, Int.natAbs_mul, Int.natAbs_natCast, Nat.mul_assoc]
  rw [e3] at g3
  rw [e4] at g4
  have key := combo h1 h2 g3 g4 hV
  have ww : ∀ P Q : Int, P * (W : Int) * (Q * (W : Int)) = P * Q * ((W * W : Nat) : Int) := fun P Q => by rw [Int.natCast_mul]; simp only [Int.mul_assoc, Int.mul_left_comm]
  have mm : M * (W : Int) * (T : Int) = M * (H : Int) * ((W * W : Nat) : Int) := by
    rw [Int.mul_assoc, ← Int.natCast_mul, hWT, Int.natCast_mul, Int.mul_assoc, Int.mul_comm (H : Int)]
  rw [ww, ww, mm, ← Int.sub_mul, ← Int.sub_mul, Int.natAbs_mul, Int.natAbs_mul (A * X), Int.natAbs_mul (B * Y), Int.natAbs_natCast, hWT] at key
  refine Nat.le_of_mul_le_mul_right (c := W * W) ?_ (Nat.mul_pos hW hW)
  generalize (M * (H : Int) - (A * X - B * Y)).natAbs = a at key ⊢
  generalize (A * X).natAbs = b at key ⊢
  generalize (B * Y).natAbs = c at key ⊢
  generalize W * W = R at key ⊢
  have r1 : 32 * (a * 2 ^ 23) * R = 32 * (a * R * 2 ^ 23) := by rw [Nat.mul_assoc 32, Nat.mul_right_comm]
  have r2 : (33 * (b + c) + 2 ^ 30 * H) * R = 33 * (b * R + c * R) + 2 ^ 30 * (R * H) := by rw [Nat.add_mul, Nat.mul_assoc, Nat.add_mul, Nat.mul_assoc, Nat.mul_comm H]
  rw [r1, r2]
  exact key
/-- How near a single precision part of a product is to the exact one. -/
def NearP (M P : Int) (p : Nat) : Prop := 32 * ((M * ((2 ^ 149 : Nat) : Int) - P).natAbs * 2 ^ 23) ≤ 33 * p + 2 ^ 30 * 2 ^ 149
theorem abs_le3 {z a : Int} {T F : Nat} (hF : 1 ≤ F) (h : (z - a).natAbs * F ≤ a.natAbs + F * T) : z.natAbs ≤ 2 * a.natAbs + T := by
  have h1 : (z - a).natAbs ≤ a.natAbs + T := by
    refine Nat.le_of_mul_le_mul_right (c := F) (Nat.le_trans h ?_) hF
    rw [Nat.add_mul, Nat.mul_comm F]
    exact Nat.add_le_add_right (Nat.le_mul_of_pos_right _ hF) _
  omega
theorem prod_room {A X : Int} (hA : A.natAbs ≤ 2 ^ 160) (hX : X.natAbs ≤ 2 ^ 160) : (A * ((2 ^ 925 : Nat) : Int) * (X * ((2 ^ 925 : Nat) : Int))).natAbs ≤ 2 ^ 2170 := by
  have h1 := pow_bd 160 925 1085 A.natAbs rfl hA
  have h2 := pow_bd 160 925 1085 X.natAbs rfl hX
  have h3 := pow_mm 1085 1085 2170 rfl
  generalize 2 ^ 925 = W at *
  generalize 2 ^ 1085 = V at *
  generalize 2 ^ 2170 = R at *
  rw [Int.natAbs_mul, Int.natAbs_mul A, Int.natAbs_mul X, Int.natAbs_natCast]
  exact Nat.le_trans (Nat.mul_le_mul h1 h2) (Nat.le_of_eq h3)
theorem z_room {z a T P Q R S : Nat} (h : z * T ≤ 2 * a + T) (h1 : a ≤ P) (h2 : 2 * P = Q) (h3 : T ≤ Q) (h4 : 2 * Q = R) (h5 : S * T = R) (hT : 0 < T) : z ≤ S := by
  refine Nat.le_of_mul_le_mul_right (c := T) ?_ hT
  omega
theorem off_two {F : Nat} {e x : Int} (hF : 20 ≤ F) (h : Off F e x) : e.natAbs ≤ 2 * x.natAbs := (rel_half (by decide) (off_rel hF h)).2
theorem zero_prod {A X : Int} (W : Int) (h : A * X = 0) : A * W * (X * W) = 0 := by
  rw [show A * W * (X * W) = A * X * (W * W) by simp only [Int.mul_assoc, Int.mul_left_comm], h, Int.zero_mul]
/-- One product in float64. -/
theorem prod_A {u v : Nat} {A X : Int} (i1 : IsV .f64 u (A * ((2 ^ 925 : Nat) : Int))) (i2 : IsV .f64 v (X * ((2 ^ 925 : Nat) : Int))) (hA : A.natAbs ≤ 2 ^ 160) (hX : X.natAbs ≤ 2 ^ 160) :
    ∃ (w : Nat) (z : Int), floatBits .mul .f64 u v = some w ∧ IsV .f64 w z ∧ z.natAbs ≤ 2 ^ 1098 ∧ (z * ((2 ^ 1074 : Nat) : Int) - A * ((2 ^ 925 : Nat) : Int) * (X * ((2 ^ 925 : Nat) : Int))).natAbs * 2 ^ 52 ≤ (A * ((2 ^ 925 : Nat) : Int) * (X * ((2 ^ 925 : Nat) : Int))).natAbs + 2 ^ 52 * 2 ^ 1074 ∧ (A * X = 0 → z = 0) := by
  have hr := prod_room hA hX
  have hl := pow_lt' 2170 (FF .f64 + 1100 + KK .f64) (by decide)
  obtain ⟨w, z, e, i, ho, hz⟩ := mul_A 1100 (by decide) (by decide) i1 i2 (Nat.lt_of_le_of_lt hr hl)
  have ho' : (z * ((2 ^ 1074 : Nat) : Int) - A * ((2 ^ 925 : Nat) : Int) * (X * ((2 ^ 925 : Nat) : Int))).natAbs * 2 ^ 52 ≤ (A * ((2 ^ 925 : Nat) : Int) * (X * ((2 ^ 925 : Nat) : Int))).natAbs + 2 ^ 52 * 2 ^ 1074 := by
    have hk : KK .f64 = 1074 := rfl
    have hf : FF .f64 = 52 := rfl
    simp only [hk, hf] at ho
    rw [Nat.pow_add 2 52 1074] at ho
    exact ho
  refine ⟨w, z, e, i, ?_, ho', fun h => hz ?_⟩
  · have h1 := abs_le3 (by decide) ho'
    have p1 := pow_dbl 2170 2171 rfl
    have p2 := Nat.le_of_lt (pow_lt' 1074 2171 (by decide))
    have p3 := pow_dbl 2171 2172 rfl
    have p4 := pow_mm 1098 1074 2172 rfl
    have p5 := Nat.two_pow_pos 1074
    clear ho ho' hz hl e i i1 i2
    generalize A * ((2 ^ 925 : Nat) : Int) * (X * ((2 ^ 925 : Nat) : Int)) = Z at *
    generalize 2 ^ 1074 = T at *
    generalize 2 ^ 2170 = P at *
    generalize 2 ^ 2171 = Q at *
    generalize 2 ^ 2172 = R at *
    generalize 2 ^ 1098 = S at *
    rw [Int.natAbs_mul, Int.natAbs_natCast] at h1
    exact z_room h1 hr p1 p2 p3 p4 p5
  · exact zero_prod _ h
theorem lt_room {z1 z2 : Int} {S B : Nat} (h1 : z1.natAbs ≤ S) (h2 : z2.natAbs ≤ S) (h : 4 * S < B) : (z1 - z2).natAbs < B ∧ (z1 + z2).natAbs < B ∧ 2 * (z1 - z2).natAbs < B ∧ 2 * (z1 + z2).natAbs < B := by omega
theorem narrow_fit {u : Nat} {v : Int} (h : IsV .f64 u v) (hb : v.natAbs < 2 ^ (FF .f32 + 200 + 925)) : ∃ w M, floatToFloatBits .f64 u .f32 = some w ∧ IsV .f32 w M ∧ (M * ((2 ^ 925 : Nat) : Int) - v).natAbs * 2 ^ 23 ≤ v.natAbs + 2 ^ 23 * 2 ^ 925 ∧ (v = 0 → M = 0) := by
  obtain ⟨w, c, e, i, ho, hz⟩ := narrow_A h hb
  refine ⟨w, c, e, i, ?_, hz⟩
  have hf : FF .f32 = 23 := rfl
  simp only [hf] at ho
  rw [Nat.pow_add 2 23 925] at ho
  exact ho
theorem pow_le_mul (a b c : Nat) (h : a ≤ b) : 2 ^ a * 2 ^ c ≤ 2 ^ b * 2 ^ c := Nat.mul_le_mul_right _ (Nat.pow_le_pow_right (by decide) h)
theorem pow_eq5 (a b c : Nat) (h : a + b = a + a + c) : 2 ^ a * 2 ^ b = 2 ^ a * 2 ^ a * 2 ^ c := by rw [← Nat.pow_add, ← Nat.pow_add, ← Nat.pow_add, h]
theorem comp_ok {A X B Y M z1 z2 u : Int} (h1 : (z1 * ((2 ^ 1074 : Nat) : Int) - A * ((2 ^ 925 : Nat) : Int) * (X * ((2 ^ 925 : Nat) : Int))).natAbs * 2 ^ 52 ≤ (A * ((2 ^ 925 : Nat) : Int) * (X * ((2 ^ 925 : Nat) : Int))).natAbs + 2 ^ 52 * 2 ^ 1074)
    (h2 : (z2 * ((2 ^ 1074 : Nat) : Int) - B * ((2 ^ 925 : Nat) : Int) * (Y * ((2 ^ 925 : Nat) : Int))).natAbs * 2 ^ 52 ≤ (B * ((2 ^ 925 : Nat) : Int) * (Y * ((2 ^ 925 : Nat) : Int))).natAbs + 2 ^ 52 * 2 ^ 1074) (h3 : (u - (z1 - z2)).natAbs * 2 ^ 52 ≤ (z1 - z2).natAbs) (h4 : (M * ((2 ^ 925 : Nat) : Int) - u).natAbs * 2 ^ 23 ≤ u.natAbs + 2 ^ 23 * 2 ^ 925) :
    NearP M (A * X - B * Y) ((A * X).natAbs + (B * Y).natAbs) := by
  have k1 := Nat.two_pow_pos 925
  have k2 := pow_eq5 925 1074 149 (by decide)
  have k3 := pow_le_mul 10 925 1074 (by decide)
  unfold NearP
  generalize 2 ^ 925 = W at *
  generalize 2 ^ 1074 = T at *
  generalize 2 ^ 149 = H at *
  exact comp_fin k1 k2 k3 h1 h2 h3 h4
theorem comp_ok2 {A X B Y M z1 z2 u : Int} (h1 : (z1 * ((2 ^ 1074 : Nat) : Int) - A * ((2 ^ 925 : Nat) : Int) * (X * ((2 ^ 925 : Nat) : Int))).natAbs * 2 ^ 52 ≤ (A * ((2 ^ 925 : Nat) : Int) * (X * ((2 ^ 925 : Nat) : Int))).natAbs + 2 ^ 52 * 2 ^ 1074)
    (h2 : (z2 * ((2 ^ 1074 : Nat) : Int) - B * ((2 ^ 925 : Nat) : Int) * (Y * ((2 ^ 925 : Nat) : Int))).natAbs * 2 ^ 52 ≤ (B * ((2 ^ 925 : Nat) : Int) * (Y * ((2 ^ 925 : Nat) : Int))).natAbs + 2 ^ 52 * 2 ^ 1074) (h3 : (u - (z1 + z2)).natAbs * 2 ^ 52 ≤ (z1 + z2).natAbs) (h4 : (M * ((2 ^ 925 : Nat) : Int) - u).natAbs * 2 ^ 23 ≤ u.natAbs + 2 ^ 23 * 2 ^ 925) :
    NearP M (A * X + B * Y) ((A * X).natAbs + (B * Y).natAbs) := by
  have h2' : (-z2 * ((2 ^ 1074 : Nat) : Int) - -B * ((2 ^ 925 : Nat) : Int) * (Y * ((2 ^ 925 : Nat) : Int))).natAbs * 2 ^ 52 ≤ (-B * ((2 ^ 925 : Nat) : Int) * (Y * ((2 ^ 925 : Nat) : Int))).natAbs + 2 ^ 52 * 2 ^ 1074 := by
    generalize 2 ^ 1074 = T at *
    generalize 2 ^ 925 = W at *
    rw [Int.neg_mul, Int.neg_mul, Int.neg_mul, Int.natAbs_neg, show -(z2 * (T : Int)) - -(B * (W : Int) * (Y * (W : Int))) = -(z2 * (T : Int) - B * (W : Int) * (Y * (W : Int))) by omega, Int.natAbs_neg]
    exact h2
  have h3' : (u - (z1 - -z2)).natAbs * 2 ^ 52 ≤ (z1 - -z2).natAbs := by
    rw [Int.sub_neg]
    exact h3
  have key := comp_ok (A := A) (X := X) (B := -B) (Y := Y) (M := M) (z1 := z1) (z2 := -z2) (u := u) h1 h2' h3' h4
  unfold NearP at key ⊢
  generalize 2 ^ 149 = H at *
  rw [Int.neg_mul, Int.sub_neg, Int.natAbs_neg] at key
  exact key
/-- The product of two complex numbers in single precision, part by part. -/
theorem mulC_A {x y : C64} {A B X Y : Int} (h1 : IsV .f32 x.re A) (h2 : IsV .f32 x.im B) (h3 : IsV .f32 y.re X) (h4 : IsV .f32 y.im Y) (hA : A.natAbs ≤ 2 ^ 160) (hB : B.natAbs ≤ 2 ^ 160) (hX : X.natAbs ≤ 2 ^ 160) (hY : Y.natAbs ≤ 2 ^ 160) :
    ∃ (z : C64) (M N : Int), impl_MulComplex.f x y = some z ∧ IsV .f32 z.re M ∧ IsV .f32 z.im N ∧ NearP M (A * X - B * Y) ((A * X).natAbs + (B * Y).natAbs) ∧ NearP N (A * Y + B * X) ((A * Y).natAbs + (B * X).natAbs) ∧ (A * X = 0 → B * Y = 0 → M = 0) ∧ (A * Y = 0 → B * X = 0 → N = 0) := by
  have l160 := pow_lt' 160 200 (by decide)
  obtain ⟨u1, e1, i1⟩ := widen_V h1 (Nat.lt_of_le_of_lt hA l160)
  obtain ⟨u2, e2, i2⟩ := widen_V h2 (Nat.lt_of_le_of_lt hB l160)
  obtain ⟨u3, e3, i3⟩ := widen_V h3 (Nat.lt_of_le_of_lt hX l160)
  obtain ⟨u4, e4, i4⟩ := widen_V h4 (Nat.lt_of_le_of_lt hY l160)
  obtain ⟨w1, z1, f1, j1, b1, n1, y1⟩ := prod_A i1 i3 hA hX
  obtain ⟨w2, z2, f2, j2, b2, n2, y2⟩ := prod_A i2 i4 hB hY
  obtain ⟨w3, z3, f3, j3, b3, n3, y3⟩ := prod_A i1 i4 hA hY
  obtain ⟨w4, z4, f4, j4, b4, n4, y4⟩ := prod_A i2 i3 hB hX
  have r4 : 4 * 2 ^ 1098 < 2 ^ 1148 := by
    have d1 := pow_dbl 1098 1099 rfl
    have d2 := pow_dbl 1099 1100 rfl
    have d3 := pow_lt' 1100 1148 (by decide)
    generalize 2 ^ 1098 = a at *
    generalize 2 ^ 1099 = b at *
    generalize 2 ^ 1100 = c at *
    generalize 2 ^ 1148 = d at *
    omega
  have r5 := pow_lt' 1148 (FF .f64 + 1100) (by decide)
  have hN : FF .f32 + 200 + 925 = 1148 := rfl
  obtain ⟨c1, -, c2, -⟩ := lt_room b1 b2 r4
  obtain ⟨-, c3, -, c4⟩ := lt_room b3 b4 r4
  obtain ⟨s1, v1, g1, k1, o1⟩ := sub_V 1100 (by decide) j1 j2 (Nat.lt_trans c1 r5)
  obtain ⟨s2, v2, g2, k2, o2⟩ := add_V 1100 (by decide) j3 j4 (Nat.lt_trans c3 r5)
  obtain ⟨t1, M, p1, q1, m1, x1⟩ := narrow_fit k1 (by rw [hN]; exact Nat.lt_of_le_of_lt (off_two (by decide) o1) c2)
  obtain ⟨t2, N, p2, q2, m2, x2⟩ := narrow_fit k2 (by rw [hN]; exact Nat.lt_of_le_of_lt (off_two (by decide) o2) c4)
  obtain ⟨A1, B1⟩ := fcok_some e1 34 37
  obtain ⟨A2, B2⟩ := fcok_some e2 34 37
  obtain ⟨A3, B3⟩ := fcok_some e3 34 37
  obtain ⟨A4, B4⟩ := fcok_some e4 34 37
  obtain ⟨C1, D1⟩ := fok_some f1
  obtain ⟨C2, D2⟩ := fok_some f2
  obtain ⟨C3, D3⟩ := fok_some f3
  obtain ⟨C4, D4⟩ := fok_some f4
  obtain ⟨E1, F1⟩ := fok_some g1
  obtain ⟨E2, F2⟩ := fok_some g2
  obtain ⟨G1, H1⟩ := fcok_some p1 37 34
  obtain ⟨G2, H2⟩ := fcok_some p2 37 34
  refine ⟨⟨t1, t2⟩, M, N, ?_, q1, q2, ?_, ?_, fun z z' => ?_, fun z z' => ?_⟩
  · unfold impl_MulComplex.f impl_parts.f
    rw [if_pos A1, if_pos A2, if_pos A3, if_pos A4, B1, B2, B3, B4]
    simp only [Option.bind_some]
    unfold impl_times.f
    rw [if_pos C1, if_pos C2, D1, D2, if_pos E1, if_pos C3, if_pos C4, D3, D4, if_pos E2, F1, F2]
    simp only [Option.bind_some]
    rw [if_pos G1, if_pos G2, H1, H2]
  · exact comp_ok n1 n2 o1 m1
  · exact comp_ok2 n3 n4 o2 m2
  · rw [y1 z, y2 z'] at o1
    exact x1 (off_zero o1)
  · rw [y3 z, y4 z'] at o2
    exact x2 (off_zero o2)
end Go.Proofs.Ytnfcbacdggkfeaa.PlainBd
