/-
  The power of any weights: near to the exact one.
-/
import Derived.Test.YtnfcbacdggkfeaaBdHead
namespace Go.Proofs.Ytnfcbacdggkfeaa.PlainBd
open Ieee Go.RowKit Go.Proofs.YtnfcbacdggkfeaaW.PrintWords Go.Proofs.YtnfcbacdggkfeaaW.PrintLast Go.Proofs.YtnfcbacdggkfeaaW.PrintMore
open Go.Proofs.Ytnfcbacdggkfeaa.B Go.Proofs.Ytnfcbacdggkfeaa.PlainP

def sumN (f : Nat → Nat) : Nat → Nat
  | 0 => 0
  | n + 1 => sumN f n + f n
theorem sumN_le (f : Nat → Nat) (M : Nat) : ∀ n, (∀ j, j < n → f j ≤ M) → sumN f n ≤ n * M
  | 0, _ => by simp [sumN]
  | n + 1, h => by
    have h1 := sumN_le f M n (fun j hj => h j (by omega))
    have h2 := h n (by omega)
    rw [sumN, Nat.add_mul, Nat.one_mul]
    omega
/-- The exact power of numbers with the parts P and Q. -/
def pq (P Q : Nat → Int) (j : Nat) : Nat := (P j).natAbs * (P j).natAbs + (Q j).natAbs * (Q j).natAbs
theorem pow_any_rel {z y D c d X Y : Nat} (r1 : RelE (2 ^ 20) 1 (z * X) (c * Y * (c * Y))) (r2 : RelE (2 ^ 20) 1 (y * X) (d * Y * (d * Y))) (r3 : RelE (2 ^ 20) 1 D (z + y)) : RelE (2 ^ 20) 3 (D * X) ((c * c + d * d) * (Y * Y)) := by
  have a1 := RelE.add r1 r2
  rw [show c * Y * (c * Y) + d * Y * (d * Y) = (c * c + d * d) * (Y * Y) by grind, ← Nat.add_mul] at a1
  exact RelE.trans E20 (RelE.scale X r3) a1 (by decide) (by decide)
theorem power_any {y : C64} {c d : Int} (i1 : IsV .f32 y.re c) (i2 : IsV .f32 y.im d) (b1 : c.natAbs ≤ 2 ^ 160) (b2 : d.natAbs ≤ 2 ^ 160) :
    ∃ u D : Nat, impl_power.f y = some u ∧ IsV .f64 u (D : Int) ∧ RelE (2 ^ 20) 3 (D * 2 ^ KK .f64) ((c.natAbs * c.natAbs + d.natAbs * d.natAbs) * (2 ^ 925 * 2 ^ 925)) := by
  obtain ⟨u1, d1, z1, e1, m1, j1, s1⟩ := square_nat i1 b1
  obtain ⟨u2, d2, z2, e2, m2, j2, s2⟩ := square_nat i2 b2
  obtain ⟨w, D, ea, ia, ra⟩ := add_nat 1100 (by decide) (by decide) j1 j2 (two_room (sq_room b1 s1) (sq_room b2 s2) (pow_dbl 1097 1098 rfl) (pow_lt' 1098 _ (by decide)))
  obtain ⟨o1, q1⟩ := fcok_some e1 34 37
  obtain ⟨o2, q2⟩ := fcok_some e2 34 37
  obtain ⟨o3, q3⟩ := fok_some m1
  obtain ⟨o4, q4⟩ := fok_some m2
  obtain ⟨o5, q5⟩ := fok_some ea
  refine ⟨w, D, ?_, ia, ?_⟩
  case refine_2 =>
    generalize 2 ^ 925 = Y at s1 s2 ⊢
    generalize 2 ^ KK .f64 = X at s1 s2 ⊢
    exact pow_any_rel s1 s2 ra
  unfold impl_power.f impl_parts.f
  rw [if_pos o1, if_pos o2, q1, q2]
  simp only [Option.bind_some]
  rw [if_pos o3, if_pos o4, q3, q4, if_pos o5, q5]
theorem sum_rel {S D S' W w X R t : Nat} (r : RelE (2 ^ 20) (3 + t) (S * X) (W * R)) (r1 : RelE (2 ^ 20) 3 (D * X) (w * R)) (r2 : RelE (2 ^ 20) 1 S' (S + D)) (ht : t ≤ 100) : RelE (2 ^ 20) (3 + (t + 2)) (S' * X) ((W + w) * R) := by
  have a := RelE.add r (r1.mono (s := 3 + t) (by omega))
  rw [← Nat.add_mul, ← Nat.add_mul] at a
  exact (RelE.trans E20 (RelE.scale X r2) a (by decide) (by omega)).mono (by omega)
theorem sum_room {S D W w X R M B : Nat} {t : Nat} (r : RelE (2 ^ 20) (3 + t) (S * X) (W * R)) (r1 : RelE (2 ^ 20) 3 (D * X) (w * R)) (ht : t ≤ 100) (hW : W * R ≤ M) (hw : w * R ≤ M) (hM : 4 * M < B * X) : S + D < B := by
  have a := (rel_half (by omega) r).2
  have b := (rel_half (by omega) r1).2
  refine Nat.lt_of_mul_lt_mul_right (a := X) ?_
  rw [Nat.add_mul]
  omega
theorem any_loop (o : List C64) (hn : o.length ≤ 5) (P Q : Nat → Int) (hP : ∀ j : Nat, j < o.length → IsV .f32 (rdOf c64z o (j : Int)).re (P j) ∧ IsV .f32 (rdOf c64z o (j : Int)).im (Q j) ∧ (P j).natAbs ≤ 2 ^ 160 ∧ (Q j).natAbs ≤ 2 ^ 160)
    (M : Nat) (hM : ∀ j, j ≤ o.length → sumN (pq P Q) j * (2 ^ 925 * 2 ^ 925) ≤ M) (hM1 : ∀ j, j < o.length → pq P Q j * (2 ^ 925 * 2 ^ 925) ≤ M) (hM2 : 4 * M < 2 ^ (FF .f64 + 1100) * 2 ^ KK .f64) (T : Nat × Bool → Prop)
    (hT : ∀ s S : Nat, IsV .f64 s (S : Int) → RelE (2 ^ 20) 13 (S * 2 ^ KK .f64) (sumN (pq P Q) o.length * (2 ^ 925 * 2 ^ 925)) → ∃ w, floatToFloatBits .f64 s .f32 = some w ∧ T (w, true)) : ∀ (d i s S : Nat), i + d = o.length → IsV .f64 s (S : Int) → RelE (2 ^ 20) (3 + 2 * i) (S * 2 ^ KK .f64) (sumN (pq P Q) i * (2 ^ 925 * 2 ^ 925)) →
    Ends (fun k => impl_PowersOf.l0 k s o (o.length : Int) (i : Int)) T := by
  intro d
  induction d with
  | zero =>
    intro i s S hi hv hrel
    obtain rfl : i = o.length := by omega
    obtain ⟨w, e, q⟩ := hT s S hv (hrel.mono (by omega))
    obtain ⟨o1, qe⟩ := fcok_some e 37 34
    refine Ends.step (h := fun _ => some (w, true)) (fun k => ?_) (Ends.now q)
    show impl_PowersOf.l0 (k + 1) _ _ _ _ = _
    rw [impl_PowersOf.l0, if_neg (by omega), if_pos o1, qe]
  | succ d ih =>
    intro i s S hi hv hrel
    obtain ⟨p1, p2, p3, p4⟩ := hP i (by omega)
    obtain ⟨u, D, e, iu, ru⟩ := power_any p1 p2 p3 p4
    have m1 := hM i (by omega)
    have m2 := hM1 i (by omega)
    obtain ⟨v, S', e3, j3, r3⟩ := add_nat 1100 (by decide) (by decide) hv iu (sum_room (t := 2 * i) hrel ru (by omega) m1 m2 hM2)
    obtain ⟨o3, q3⟩ := fok_some e3
    refine Ends.step (fun k => ?_) (ih (i + 1) v S' (by omega) j3 (sum_rel (t := 2 * i) hrel ru r3 (by omega)))
    show impl_PowersOf.l0 (k + 1) _ _ _ _ = impl_PowersOf.l0 k _ _ _ _
    rw [impl_PowersOf.l0, if_pos (by omega), if_pos (by omega), if_pos (by omega), e]
    simp only [Option.bind_some]
    rw [if_pos o3, q3, w64 (by omega) (by omega), Int.natCast_add i 1]
    rfl
theorem ex_eq (a : Nat) : ∃ X, a = X := ⟨a, rfl⟩
/-- How near a power in single precision is to the exact one. -/
def PwI (H : Nat) (q : Int) (W : Nat) : Prop := 1048576 * (q * (H : Int)) ≤ 1048590 * (W : Int) + 1048576 * (H : Int) ∧ 1048562 * (W : Int) ≤ 1048576 * ((q + 1) * (H : Int))
theorem rel_lit {t X Y : Nat} (h : RelE (2 ^ 20) t X Y) : 1048576 * X ≤ (1048576 + t) * Y ∧ (1048576 - t) * Y ≤ 1048576 * X := by
  obtain ⟨a, b⟩ := h
  refine ⟨?_, ?_⟩
  · rw [Nat.mul_comm, Nat.mul_comm _ Y]; exact a
  · rw [Nat.mul_comm, Nat.mul_comm 1048576]; exact b
theorem pw_fin {S T W R Y H : Nat} {q : Int} (hR : 0 < R) (hYT : Y * T = R * H) (r : RelE (2 ^ 20) 13 (S * T) (W * R)) (n : (q * (Y : Int) - (S : Int)).natAbs * 2 ^ 23 ≤ S + 2 ^ 23 * Y) : PwI H q W := by
  obtain ⟨r1, r2⟩ := rel_lit r
  have n1 := times_T (T := T) n
  have e1 : q * (Y : Int) * (T : Int) = q * (H : Int) * (R : Int) := by
    rw [Int.mul_assoc, ← Int.natCast_mul, hYT, Int.natCast_mul, Int.mul_comm (R : Int), Int.mul_assoc]
  rw [Int.sub_mul, e1, ← Int.natCast_mul, Nat.add_mul, Nat.mul_assoc, hYT] at n1
  have hR' : (0 : Int) < (R : Int) := by omega
  clear n e1 r hYT
  have key : 1048576 * (q * (H : Int) * (R : Int)) ≤ 1048590 * ((W * R : Nat) : Int) + 1048576 * ((R * H : Nat) : Int) ∧ 1048562 * ((W * R : Nat) : Int) ≤ 1048576 * (q * (H : Int) * (R : Int) + ((R * H : Nat) : Int)) := by
    generalize q * (H : Int) * (R : Int) = a at *
    generalize S * T = b at *
    generalize W * R = c at *
    generalize R * H = V at *
    omega
  obtain ⟨k1, k2⟩ := key
  have eR : ((R * H : Nat) : Int) = (H : Int) * (R : Int) := by rw [Int.natCast_mul, Int.mul_comm]
  rw [eR, Int.natCast_mul] at k1 k2
  refine ⟨Int.le_of_mul_le_mul_right (a := (R : Int)) ?_ hR', Int.le_of_mul_le_mul_right (a := (R : Int)) ?_ hR'⟩
  · rw [Int.add_mul, Int.mul_assoc 1048576 (q * (H : Int)), Int.mul_assoc 1048590, Int.mul_assoc 1048576 (H : Int)]
    exact k1
  · rw [Int.mul_assoc 1048562, Int.mul_assoc 1048576, Int.add_mul q, Int.one_mul, Int.add_mul (q * (H : Int))]
    exact k2
theorem pow_eq6 (a b c : Nat) (h : a + b = a + a + c) : 2 ^ a * 2 ^ b = 2 ^ a * 2 ^ a * 2 ^ c := pow_eq5 a b c h
theorem pow_eq7 (a b c d : Nat) (h : a + b = c + d) : 2 ^ a * 2 ^ b = 2 ^ c * 2 ^ d := by rw [← Nat.pow_add, ← Nat.pow_add, h]
theorem m_room (a b c : Nat) (x : Nat) (h : a + b + b = c) (hx : x ≤ 2 ^ a) : x * (2 ^ b * 2 ^ b) ≤ 2 ^ c := by
  subst h
  rw [Nat.pow_add, Nat.pow_add, Nat.mul_assoc]
  exact Nat.mul_le_mul_right _ hx
theorem pq_le {P Q : Nat → Int} {j : Nat} (h1 : (P j).natAbs ≤ 2 ^ 160) (h2 : (Q j).natAbs ≤ 2 ^ 160) : pq P Q j ≤ 2 ^ 321 := by
  unfold pq
  have a := Nat.mul_le_mul h1 h1
  have b := Nat.mul_le_mul h2 h2
  have c := pow_mm 160 160 320 rfl
  have d := pow_dbl 320 321 rfl
  rw [c] at a b
  generalize 2 ^ 320 = x at *
  generalize 2 ^ 321 = y at *
  omega
theorem sum_324 {f : Nat → Nat} {n : Nat} (h : ∀ j, j < n → f j ≤ 2 ^ 321) (hn : n ≤ 5) : sumN f n ≤ 2 ^ 324 := by
  have a := pow_bd 3 321 324 n rfl (show n ≤ 8 by omega)
  generalize 2 ^ 321 = X at *
  generalize 2 ^ 324 = Y at *
  exact Nat.le_trans (sumN_le f X n h) a
theorem rel_zero (f : Nat → Nat) (t X R : Nat) : RelE (2 ^ 20) t (0 * X) (sumN f 0 * R) := by
  rw [show sumN f 0 = 0 from rfl, Nat.zero_mul, Nat.zero_mul]
  exact ⟨by simp, by simp⟩
/-- The power of any numbers that are not too great. -/
theorem any_powers (o : List C64) (hn : o.length ≤ 5) (P Q : Nat → Int) (hP : ∀ j : Nat, j < o.length → IsV .f32 (rdOf c64z o (j : Int)).re (P j) ∧ IsV .f32 (rdOf c64z o (j : Int)).im (Q j) ∧ (P j).natAbs ≤ 2 ^ 160 ∧ (Q j).natAbs ≤ 2 ^ 160) :
    Ends (fun k => impl_PowersOf.f k o) (fun r => r.2 = true ∧ ∃ q : Int, IsV .f32 r.1 q ∧ PwI (2 ^ 149) q (sumN (pq P Q) o.length)) := by
  have h321 : ∀ j, j < o.length → pq P Q j ≤ 2 ^ 321 := fun j hj => pq_le (hP j hj).2.2.1 (hP j hj).2.2.2
  have h324 := fun (j : Nat) (hj : j ≤ o.length) => sum_324 (f := pq P Q) (n := j) (fun i hi => h321 i (by omega)) (by omega)
  have hM := fun (j : Nat) (hj : j ≤ o.length) => m_room 324 925 2174 (sumN (pq P Q) j) rfl (h324 j hj)
  have p21 := Nat.le_of_lt (pow_lt' 321 324 (by decide))
  have hM1 := fun (j : Nat) (hj : j < o.length) => m_room 324 925 2174 (pq P Q j) rfl (Nat.le_trans (h321 j hj) p21)
  have hM2 := four_fin (Nat.le_refl (2 ^ 2174)) (pow_dbl 2174 2175 rfl) (pow_dbl 2175 2176 rfl) (pow_lt' 2176 2226 (by decide)) (Nat.le_of_eq (pow_mm (FF .f64 + 1100) (KK .f64) 2226 rfl).symm)
  have hz : IsV .f64 0 ((0 : Nat) : Int) := ⟨false, 0, 0, by decide +kernel, by decide +kernel, by decide⟩
  have c5 := pow_eq6 925 (KK .f64) 149 (by decide)
  have c6 := pos2 925 925
  refine Ends.congr (fun k => ?_) (any_loop o hn P Q hP (2 ^ 2174) hM hM1 hM2 (fun r => r.2 = true ∧ ∃ q : Int, IsV .f32 r.1 q ∧ PwI (2 ^ 149) q (sumN (pq P Q) o.length)) (fun s S hv hr => ?_) o.length 0 0 0 (by omega) hz (rel_zero (pq P Q) _ _ _))
  · unfold impl_PowersOf.f
    rw [if_neg (by omega)]
    rfl
  · have hS : S < 2 ^ 1148 := by
      have d1 := (rel_half (by decide) hr).2
      have d2 := hM o.length (Nat.le_refl _)
      have d3 := pow_dbl 2174 2175 rfl
      have d4 := pow_mm 1148 (KK .f64) 2222 rfl
      have d5 := pow_lt' 2175 2222 (by decide)
      refine Nat.lt_of_mul_lt_mul_right (a := 2 ^ KK .f64) ?_
      rw [d4]
      refine Nat.lt_of_le_of_lt (Nat.le_trans d1 (Nat.mul_le_mul_left 2 d2)) ?_
      rw [d3]
      exact d5
    obtain ⟨w, q, e, i, n, -⟩ := narrow_fit hv (by
      have hN : FF .f32 + 200 + 925 = 1148 := rfl
      rw [hN, Int.natAbs_natCast]
      exact hS)
    refine ⟨w, e, rfl, q, i, ?_⟩
    obtain ⟨Y, hY⟩ := ex_eq (2 ^ 925)
    obtain ⟨T, hT⟩ := ex_eq (2 ^ KK .f64)
    obtain ⟨H, hH⟩ := ex_eq (2 ^ 149)
    rw [hY, hT] at hr
    rw [hY, hT, hH] at c5
    rw [hY] at c6 n
    rw [Int.natAbs_natCast S] at n
    rw [hH]
    exact pw_fin c6 c5 hr n
end Go.Proofs.Ytnfcbacdggkfeaa.PlainBd
