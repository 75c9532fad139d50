/-
  Floats in boxes: numbers in 4096ths are exact, and sums, products and quotients of numbers between bounds lie between bounds.
-/
import Derived.Test.YtncckihaacceaaaPlainExact
import Derived.Test.YtncckihaacceaaaPlainQuo
namespace Go.Proofs.Ytncckihaacceaaa.PlainP
open Ieee Go.Proofs.YtncckihaacceaaaW.PrintWords

theorem sub_T {k : FloatKind} {x y T : Nat} {a b : Int} (hT : T ≤ KK k) (hFT : FF k ≤ T) (hx : IsV k x (a * ((2 ^ T : Nat) : Int))) (hy : IsV k y (b * ((2 ^ T : Nat) : Int))) (h : (a - b).natAbs < 2 ^ (FF k + 1)) :
    ∃ w, floatBits .sub k x y = some w ∧ IsV k w ((a - b) * ((2 ^ T : Nat) : Int)) := by
  obtain ⟨s, m, i, d1, v1, -⟩ := hx
  obtain ⟨t, n, j, d2, v2, -⟩ := hy
  have v3 : sg (!t) (n * 2 ^ j) = (-b) * ((2 ^ T : Nat) : Int) := by rw [sg_not, v2, Int.neg_mul]
  obtain ⟨neg, mag, p, e1, e2⟩ := sum_V (K := KK k) v1 v3
  rw [← Int.add_mul, ← Int.sub_eq_add_neg] at e2
  refine ⟨_, ?_, write_T hT hFT e2 h⟩
  show (Datum.sum (k.decode x) (k.decode y).opposite).map k.format.write = _
  rw [d1, d2]
  show (Datum.sum _ (.number (!t) n _)).map k.format.write = _
  rw [e1]
  rfl
theorem cutz (neg : Bool) (n d : Nat) : Toward.zero.cut neg n d = n / 2 ^ d := by
  have e : Toward.zero.cut neg n d = n / (1 <<< min d (n.log2 + 2)) := by unfold Toward.cut; simp
  rw [e, Nat.one_shiftLeft]
  rcases Nat.le_total d (n.log2 + 2) with h | h
  · rw [Nat.min_eq_left h]
  · rw [Nat.min_eq_right h]
    have hn : n < 2 ^ (n.log2 + 2) := Nat.lt_of_lt_of_le Nat.lt_log2_self (Nat.pow_le_pow_right (by decide) (by omega))
    rw [Nat.div_eq_of_lt hn, Nat.div_eq_of_lt (Nat.lt_of_lt_of_le hn (Nat.pow_le_pow_right (by decide) h))]
/-- The whole part of a number in 4096ths. -/
theorem whole_T {x T : Nat} {a : Int} (hT : T + 12 = KK .f64) (hx : IsV .f64 x (a * ((2 ^ T : Nat) : Int))) (ha : a.natAbs < 1099511627776) : floatToIntVal .f64 x .i64 = some (Int.tdiv a 4096) := by
  obtain ⟨s, m, j, d1, v1, -⟩ := hx
  have hm := sg_absT v1
  have hq : ∀ q : Nat, q = a.natAbs / 4096 → sg s q = Int.tdiv a 4096 := by
    intro q hq
    rcases Int.le_total 0 a with h0 | h0
    · rw [Int.tdiv_eq_ediv_of_nonneg h0]
      by_cases hz : a = 0
      · subst hz; rw [hq]; cases s <;> rfl
      · cases s
        · unfold sg; simp; omega
        · exfalso
          unfold sg at v1; simp at v1
          have hp := Nat.two_pow_pos T
          have : 0 < a * ((2 ^ T : Nat) : Int) := Int.mul_pos (by omega) (by omega)
          have h2 : 0 ≤ ((m * 2 ^ j : Nat) : Int) := Int.natCast_nonneg _
          push_cast at this h2
          omega
    · have e : Int.tdiv a 4096 = -((-a) / 4096) := by
        have := Int.neg_tdiv (-a) 4096
        rw [Int.neg_neg, Int.tdiv_eq_ediv_of_nonneg (by omega : 0 ≤ -a)] at this
        exact this
      rw [e]
      by_cases hz : a = 0
      · subst hz; rw [hq]; cases s <;> rfl
      · cases s
        · exfalso
          unfold sg at v1; simp at v1
          have hp := Nat.two_pow_pos T
          have : 0 < (-a) * ((2 ^ T : Nat) : Int) := Int.mul_pos (by omega) (by omega)
          rw [Int.neg_mul] at this
          have h2 : 0 ≤ ((m * 2 ^ j : Nat) : Int) := Int.natCast_nonneg _
          push_cast at this h2
          omega
        · unfold sg; simp; omega
  have hi : (FloatKind.f64.decode x).toInt .zero = some (Int.tdiv a 4096) := by
    rw [d1]
    show some (signed s (Toward.zero.cut s (m <<< (-(KK .f64 : Int) + (j : Int)).toNat) (-(-(KK .f64 : Int) + (j : Int))).toNat) 0) = _
    rw [signed_sg, cutz, Nat.pow_zero, Nat.mul_one, Nat.shiftLeft_eq]
    congr 1
    apply hq
    have e0 : a.natAbs * 2 ^ T / 2 ^ KK .f64 = a.natAbs / 4096 := by
      rw [← hT, Nat.pow_add, Nat.mul_comm (2 ^ T) (2 ^ 12), Nat.mul_div_mul_right _ _ (Nat.two_pow_pos T)]
    rw [← e0, ← hm]
    rcases Nat.le_total (KK .f64) j with h | h
    · rw [show (-(KK .f64 : Int) + (j : Int)).toNat = j - KK .f64 by omega, show (-(-(KK .f64 : Int) + (j : Int))).toNat = 0 by omega, Nat.pow_zero, Nat.div_one]
      rw [show m * 2 ^ j = m * 2 ^ (j - KK .f64) * 2 ^ KK .f64 by rw [Nat.mul_assoc, ← Nat.pow_add, Nat.sub_add_cancel h], Nat.mul_div_cancel _ (Nat.two_pow_pos _)]
    · rw [show (-(KK .f64 : Int) + (j : Int)).toNat = 0 by omega, show (-(-(KK .f64 : Int) + (j : Int))).toNat = KK .f64 - j by omega, Nat.pow_zero, Nat.mul_one]
      rw [show 2 ^ KK .f64 = 2 ^ (KK .f64 - j) * 2 ^ j by rw [← Nat.pow_add, Nat.sub_add_cancel h], Nat.mul_div_mul_right _ _ (Nat.two_pow_pos j)]
  unfold floatToIntVal
  rw [hi]
  have hb : IntKind.i64.min ≤ Int.tdiv a 4096 ∧ Int.tdiv a 4096 ≤ IntKind.i64.max := by
    have h1 : (Int.tdiv a 4096).natAbs ≤ a.natAbs := Int.natAbs_tdiv_le_natAbs a 4096
    show (-9223372036854775808 : Int) ≤ _ ∧ _ ≤ (9223372036854775807 : Int)
    omega
  simp only [hb, and_self, if_true]
/-- A whole number divided by 4096. -/
theorem quo_4096 {x T : Nat} {a : Int} (hT : T + 12 = KK .f64) (hx : IsI .f64 x a) (ha : a.natAbs < 1099511627776) : ∃ w, floatBits .quo .f64 x 4661225614328463360 = some w ∧ IsV .f64 w (a * ((2 ^ T : Nat) : Int)) := by
  have hx0 := hx
  obtain ⟨s, m, i, d1, v1, m1⟩ := hx
  have d2 : FloatKind.f64.decode 4661225614328463360 = .number false 4503599627370496 (-40) := by decide +kernel
  have hl : Nat.log2 4503599627370496 = 52 := by decide +kernel
  have hf : floatBits .quo .f64 x 4661225614328463360 = (Datum.quotient 54 (.number s m (-(KK .f64 : Int) + (i : Int))) (.number false 4503599627370496 (-40))).map FloatKind.f64.format.write := by
    show (Datum.quotient (FloatKind.f64.format.fractionBits + 2) (FloatKind.f64.decode x) (FloatKind.f64.decode 4661225614328463360)).map _ = _
    rw [d1, d2]
    rfl
  rw [hf]
  simp only [Datum.quotient, hl]
  rw [if_neg (by decide)]
  by_cases hm : m = 0
  · subst hm
    have ha0 : a = 0 := by
      have hp := Nat.two_pow_pos (KK .f64)
      rw [Nat.zero_mul] at v1
      have e : sg s 0 = 0 := by cases s <;> rfl
      rw [e] at v1
      rcases Int.mul_eq_zero.1 v1.symm with h | h
      · exact h
      · exfalso
        have : ((2 ^ KK .f64 : Nat) : Int) = 0 := by push_cast; exact h
        omega
    subst ha0
    refine ⟨_, rfl, ?_⟩
    simp only [Nat.zero_shiftLeft, Nat.zero_div, Nat.mul_zero, Nat.zero_mod, Int.zero_mul]
    exact zero_V .f64 _ _
  · have hmn : 0 < m := Nat.pos_of_ne_zero hm
    have hlm : m.log2 ≤ 52 := by
      have := (Nat.log2_lt hm).2 m1
      simp only [FF] at this
      omega
    obtain ⟨M, hM⟩ : ∃ M, 54 + 52 - m.log2 = 52 + M := ⟨54 - m.log2, by omega⟩
    rw [hM, Nat.shiftLeft_eq, show m * 2 ^ (52 + M) = m * 2 ^ M * 4503599627370496 by rw [Nat.pow_add, Nat.mul_comm (2 ^ 52), ← Nat.mul_assoc], Nat.mul_div_cancel _ (by decide), Nat.mul_mod_left]
    have ha0 : a ≠ 0 := fun hz => by
      subst hz
      rw [Int.zero_mul] at v1
      have e := sg_zero v1
      rcases Nat.mul_eq_zero.1 e with h | h
      · exact hm h
      · have := Nat.two_pow_pos i
        omega
    have hi : KK .f64 ≤ i + FF .f64 := place_ge v1 m1 ha0
    have hKK : KK .f64 = 1074 := rfl
    have hFF : FF .f64 = 52 := rfl
    have hM54 : M ≤ 54 := by omega
    obtain ⟨p, hp⟩ : ∃ p : Nat, p + (52 + M) = i + 39 := ⟨i + 39 - (52 + M), by omega⟩
    refine ⟨_, rfl, ?_⟩
    have hpl : (-(KK .f64 : Int) + (i : Int) - (-40) - ((52 + M : Nat) : Int) - 1) = -(KK .f64 : Int) + (p : Int) := by omega
    rw [hpl]
    have hr : (2 * (m * 2 ^ M) + ((0 : Nat) != 0).toNat) = 2 * (m * 2 ^ M) := rfl
    rw [hr]
    refine write_T (by omega) (by omega) ?_ (by simp only [FF]; omega)
    have hs : (s ^^ false) = s := by cases s <;> rfl
    rw [hs]
    have e1 : 2 * (m * 2 ^ M) * 2 ^ p * 2 ^ 12 = m * 2 ^ i := by
      rw [show 2 * (m * 2 ^ M) = m * (2 ^ M * 2) by simp only [Nat.mul_left_comm, Nat.mul_comm], ← Nat.pow_succ, Nat.mul_assoc m, Nat.mul_assoc m, ← Nat.pow_add, ← Nat.pow_add]
      congr 2
      omega
    have e2 : sg s (2 * (m * 2 ^ M) * 2 ^ p) * ((2 ^ 12 : Nat) : Int) = a * ((2 ^ T : Nat) : Int) * ((2 ^ 12 : Nat) : Int) := by
      rw [← sg_mul, e1, v1, Int.mul_assoc, ← Int.natCast_mul, ← Nat.pow_add, hT]
      push_cast
      rfl
    exact Int.eq_of_mul_eq_mul_right (by decide) e2
end Go.Proofs.Ytncckihaacceaaa.PlainP
