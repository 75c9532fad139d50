/-
  The program's sine and the reference's come to the series' word, from 0 to a quarter of a turn.
-/
import Derived.Test.YtncckihaacceaaaPhD
namespace Go.Proofs.Ytncckihaacceaaa.PlainP
open Ieee Go.Proofs.YtncckihaacceaaaW.PrintWords
open Go.Proofs.Ytncckihaacceaaa.S Go.RowKit

theorem impl_round {k : Nat} {x4 : Bool} {z u p p' x8 W nx : Nat} (a0 : (FloatKind.f64.format.order x8 4607182418800017408 == some .gt || FloatKind.f64.format.order x8 4607182418800017408 == some .eq) = true) (a1 : FOk .mul .f64 4611686018427387904 x8 = true) (a2 : FOk .add .f64 (fq .mul .f64 4611686018427387904 x8) 4607182418800017408 = true)
    (a3 : FOk .mul .f64 (fq .mul .f64 4611686018427387904 x8) (fq .add .f64 (fq .mul .f64 4611686018427387904 x8) 4607182418800017408) = true) (a4 : fq .mul .f64 (fq .mul .f64 4611686018427387904 x8) (fq .add .f64 (fq .mul .f64 4611686018427387904 x8) 4607182418800017408) = W) (a5 : FOk .sub .f64 x8 4607182418800017408 = true) (a6 : fq .sub .f64 x8 4607182418800017408 = nx)
    (hs : Step u p W p') : impl_sine.l0 (k + 1) x4 z u p x8 = impl_sine.l0 k x4 z u p' nx := by
  obtain ⟨s1, s2, s3, s4⟩ := hs
  rw [← a4] at s2 s3 s4
  simp only [impl_sine.l0]
  rw [if_pos a0, if_pos s1, if_pos a1, if_pos a2, if_pos a3, if_pos s2, if_pos s3, if_pos a5, s4, a6]
theorem impl_end {k : Nat} {z u p s : Nat} (h : FOk .mul .f64 z p = true) (hs : fq .mul .f64 z p = s) : impl_sine.l0 (k + 1) false z u p 0 = some s := by
  have a0 : (FloatKind.f64.format.order 0 4607182418800017408 == some .gt || FloatKind.f64.format.order 0 4607182418800017408 == some .eq) = false := by decide +kernel
  simp only [impl_sine.l0]
  rw [if_neg (by rw [a0]; decide), if_neg (by decide), if_pos h, hs]
theorem impl_j1 {g s : Nat} (h : Sine g s) (k : Nat) : impl_sine.j1 (k + 10) g false = some s := by
  obtain ⟨z, u, p1, p2, p3, p4, p5, p6, p7, p8, f1, rfl, f3, rfl, s1, s2, s3, s4, s5, s6, s7, s8, f5, f6⟩ := h
  show (if FOk .mul .f64 g 4618760256179416344 = true then _ else none) = _
  rw [if_pos f1, if_pos f3,
    impl_round (W := 4643492690795692032) (nx := 4619567317775286272) (by decide +kernel) (by decide +kernel) (by decide +kernel) (by decide +kernel) (by decide +kernel) (by decide +kernel) (by decide +kernel) s1,
    impl_round (W := 4641592734702895104) (nx := 4618441417868443648) (by decide +kernel) (by decide +kernel) (by decide +kernel) (by decide +kernel) (by decide +kernel) (by decide +kernel) (by decide +kernel) s2,
    impl_round (W := 4639692778610098176) (nx := 4617315517961601024) (by decide +kernel) (by decide +kernel) (by decide +kernel) (by decide +kernel) (by decide +kernel) (by decide +kernel) (by decide +kernel) s3,
    impl_round (W := 4637440978796412928) (nx := 4616189618054758400) (by decide +kernel) (by decide +kernel) (by decide +kernel) (by decide +kernel) (by decide +kernel) (by decide +kernel) (by decide +kernel) s4,
    impl_round (W := 4634766966517661696) (nx := 4613937818241073152) (by decide +kernel) (by decide +kernel) (by decide +kernel) (by decide +kernel) (by decide +kernel) (by decide +kernel) (by decide +kernel) s5,
    impl_round (W := 4631107791820423168) (nx := 4611686018427387904) (by decide +kernel) (by decide +kernel) (by decide +kernel) (by decide +kernel) (by decide +kernel) (by decide +kernel) (by decide +kernel) s6,
    impl_round (W := 4626322717216342016) (nx := 4607182418800017408) (by decide +kernel) (by decide +kernel) (by decide +kernel) (by decide +kernel) (by decide +kernel) (by decide +kernel) (by decide +kernel) s7,
    impl_round (W := 4618441417868443648) (nx := 0) (by decide +kernel) (by decide +kernel) (by decide +kernel) (by decide +kernel) (by decide +kernel) (by decide +kernel) (by decide +kernel) s8]
  exact impl_end f5 f6
theorem spec_round {k : Nat} {x4 : Bool} {z u p p' W : Nat} {x8 : Int} (a0 : x8 ≥ 1) (a1 : floatOfInt .f64 (wrap64 ((wrap64 (2 * x8)) * (wrap64 ((wrap64 (2 * x8)) + 1)))) = W) (a2 : wrap64 (x8 - 1) = x8 - 1) (hs : Step u p W p') :
    spec_l01SineWide.l0 (k + 1) x4 z u p x8 = spec_l01SineWide.l0 k x4 z u p' (x8 - 1) := by
  obtain ⟨s1, s2, s3, s4⟩ := hs
  rw [← a1] at s2 s3 s4
  simp only [spec_l01SineWide.l0]
  rw [if_pos a0, if_pos s1, if_pos s2, if_pos s3, s4, a2]
theorem spec_j3 {g s : Nat} (h : Sine g s) (k : Nat) : spec_l01SineWide.j3 (k + 10) g false = some s := by
  obtain ⟨z, u, p1, p2, p3, p4, p5, p6, p7, p8, f1, rfl, f3, rfl, s1, s2, s3, s4, s5, s6, s7, s8, f5, f6⟩ := h
  show (if FOk .mul .f64 g 4618760256179416344 = true then _ else none) = _
  rw [if_pos f1, if_pos f3,
    spec_round (W := 4643492690795692032) (by decide) (by decide +kernel) (by decide +kernel) s1,
    spec_round (W := 4641592734702895104) (by decide) (by decide +kernel) (by decide +kernel) s2,
    spec_round (W := 4639692778610098176) (by decide) (by decide +kernel) (by decide +kernel) s3,
    spec_round (W := 4637440978796412928) (by decide) (by decide +kernel) (by decide +kernel) s4,
    spec_round (W := 4634766966517661696) (by decide) (by decide +kernel) (by decide +kernel) s5,
    spec_round (W := 4631107791820423168) (by decide) (by decide +kernel) (by decide +kernel) s6,
    spec_round (W := 4626322717216342016) (by decide) (by decide +kernel) (by decide +kernel) s7,
    spec_round (W := 4618441417868443648) (by decide) (by decide +kernel) (by decide +kernel) s8]
  simp only [spec_l01SineWide.l0]
  rw [if_neg (by decide), if_neg (by decide), if_pos f5, f6]
/-- A number without its whole part, as both programs take it. -/
def Frac (x f : Nat) : Prop := FI 65 2 .f64 x = true ∧ FOk .sub .f64 x (floatOfInt .f64 (fi .f64 x)) = true ∧
  (((FloatKind.f64.format.order (fq .sub .f64 x (floatOfInt .f64 (fi .f64 x))) 0 == some .lt) = true ∧ FOk .add .f64 (fq .sub .f64 x (floatOfInt .f64 (fi .f64 x))) 4607182418800017408 = true ∧ f = fq .add .f64 (fq .sub .f64 x (floatOfInt .f64 (fi .f64 x))) 4607182418800017408) ∨
   ((FloatKind.f64.format.order (fq .sub .f64 x (floatOfInt .f64 (fi .f64 x))) 0 == some .lt) = false ∧ f = fq .sub .f64 x (floatOfInt .f64 (fi .f64 x))))
theorem int_pow (K : Nat) : (2 : Int) ^ K = ((2 ^ K : Nat) : Int) := by push_cast; rfl
theorem whole_V {n T : Nat} {a : Int} (hT : T = 1062) (ha : a.natAbs < 9007199254740992) (hn : floatOfInt .f64 a = n) : IsV .f64 n ((a * 4096) * ((2 ^ T : Nat) : Int)) := by
  have h := isI_V (word_I a n ha hn)
  have hK : KK .f64 = T + 12 := by rw [hT]; rfl
  have e : a * 2 ^ KK .f64 = (a * 4096) * ((2 ^ T : Nat) : Int) := by
    have e1 : (2 : Int) ^ KK .f64 = ((2 ^ T : Nat) : Int) * 4096 := by
      rw [int_pow, hK, pow_add_int]; rfl
    rw [e1, Int.mul_assoc, Int.mul_comm 4096]
  rw [e] at h
  exact h
theorem frac_of {T x : Nat} {n : Int} (hT : T = 1062) (hx : IsV .f64 x (n * ((2 ^ T : Nat) : Int))) (hn : n.natAbs ≤ 1048576) : ∃ f, Frac x f ∧ IsV .f64 f ((n % 4096) * ((2 ^ T : Nat) : Int)) := by
  have hp := Nat.two_pow_pos T
  have hw := whole_T (T := T) (by rw [hT]; rfl) hx (by omega)
  have hfi : fi .f64 x = Int.tdiv n 4096 := by unfold fi; rw [hw]; rfl
  have hFI : FI 65 2 .f64 x = true := by unfold FI; rw [hw]; rfl
  have hm : n - Int.tdiv n 4096 * 4096 = Int.tmod n 4096 := by
    have := Int.mul_tdiv_add_tmod n 4096
    omega
  have hlt := Int.tmod_lt_of_pos n (show (0 : Int) < 4096 by decide)
  have hgt : -4096 < Int.tmod n 4096 := by
    have := Int.lt_tmod_of_pos n (show (0 : Int) < 4096 by decide)
    omega
  obtain ⟨y, hy1, hy2⟩ := sub_T (T := T) (by rw [hT]; decide) (by rw [hT]; decide) hx (whole_V hT (a := Int.tdiv n 4096) (by have := Int.natAbs_tdiv_le_natAbs n 4096; omega) rfl) (by simp only [FF]; omega)
  rw [hm] at hy2
  obtain ⟨g1, g2⟩ := fok_some hy1
  have ho := order_V hy2 (zero_T T)
  rw [Int.zero_mul] at ho
  unfold Frac
  rw [hfi, g2, g1]
  by_cases hneg : Int.tmod n 4096 < 0
  · obtain ⟨f, hf1, hf2⟩ := add_T (T := T) (by rw [hT]; decide) (by rw [hT]; decide) hy2 (one_V hT) (by simp only [FF]; omega)
    obtain ⟨e1, e2⟩ := fok_some hf1
    refine ⟨f, ⟨hFI, rfl, .inl ⟨?_, e1, e2.symm⟩⟩, ?_⟩
    · rw [ho]
      have hl : Int.tmod n 4096 * ((2 ^ T : Nat) : Int) < 0 := Int.mul_neg_of_neg_of_pos hneg (by omega)
      have : compare (Int.tmod n 4096 * ((2 ^ T : Nat) : Int)) 0 = .lt := by rw [Int.compare_eq_lt]; exact hl
      rw [this]; rfl
    · have : n % 4096 = Int.tmod n 4096 + 4096 := by
        have h1 := Int.mul_tdiv_add_tmod n 4096
        omega
      rw [this]; exact hf2
  · refine ⟨y, ⟨hFI, rfl, .inr ⟨?_, rfl⟩⟩, ?_⟩
    · rw [ho]
      have hl : 0 ≤ Int.tmod n 4096 * ((2 ^ T : Nat) : Int) := Int.mul_nonneg (by omega) (by omega)
      have : compare (Int.tmod n 4096 * ((2 ^ T : Nat) : Int)) 0 ≠ .lt := by rw [Ne, Int.compare_eq_lt]; omega
      cases hc : compare (Int.tmod n 4096 * ((2 ^ T : Nat) : Int)) 0 with
      | lt => exact absurd hc this
      | eq => rfl
      | gt => rfl
    · have : n % 4096 = Int.tmod n 4096 := by
        have h1 := Int.mul_tdiv_add_tmod n 4096
        omega
      rw [this]; exact hy2
end Go.Proofs.Ytncckihaacceaaa.PlainP
