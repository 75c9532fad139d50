/-
  Exact numbers: whole multiples of a power of two that need few digits are written, added and multiplied as they are.
-/
import Derived.Test.YtncckihaacceaaaPlainVal
namespace Go.Proofs.Ytncckihaacceaaa.PlainP
open Ieee Go.Proofs.YtncckihaacceaaaW.PrintWords

/-- A number of few digits is written as it is: n times 2^T times the least one. -/
theorem exact_wordT {f : Format} {F K R : Nat} (hf : FmtOk f F K R) (neg : Bool) (mag p n T : Nat) (hT : T ≤ K) (hFT : F ≤ T) (h : mag * 2 ^ p = n * 2 ^ T) (hn : n < 2 ^ (F + 1)) :
    ∃ m j : Nat, f.read (f.nearest neg mag (-(K : Int) + (p : Int))) = .number neg m (-(K : Int) + (j : Int)) ∧ m * 2 ^ j = n * 2 ^ T ∧ m < 2 ^ (F + 1) := by
  obtain ⟨e1, e4, e2, e3, e5, hFK, hKR⟩ := hf
  have hBp := Nat.two_pow_pos F
  have hKp := Nat.two_pow_pos T
  have hpp := Nat.two_pow_pos p
  have hS : 0 < (R + 1) * 2 ^ F := Nat.mul_pos (by omega) hBp
  have hword : ∀ rung, rung < (R + 1) * 2 ^ F → ((f.word neg rung) / f.signWeight % 2 == 1) = neg ∧ (f.word neg rung) % f.signWeight = rung := by
    intro rung hr
    unfold Format.word
    rw [e5]
    cases neg
    · simp [Nat.div_eq_of_lt hr, Nat.mod_eq_of_lt hr]
    · simp only [if_true]
      rw [Nat.add_mod_left, Nat.mod_eq_of_lt hr, Nat.add_div_left _ hS, Nat.div_eq_of_lt hr]
      exact ⟨rfl, rfl⟩
  by_cases h0 : n = 0
  · subst h0
    have hm : mag = 0 := by
      rcases Nat.mul_eq_zero.1 (show mag * 2 ^ p = 0 by rw [h, Nat.zero_mul]) with h | h
      · exact h
      · omega
    subst hm
    unfold Format.nearest
    rw [if_pos rfl]
    obtain ⟨w1, w2⟩ := hword 0 hS
    refine ⟨0, 0, ?_, by simp, Nat.two_pow_pos _⟩
    unfold Format.read
    simp only [w1, w2, e2]
    rw [if_pos hBp, e4]
    simp
  · have hm : mag ≠ 0 := fun hz => by
      subst hz
      rw [Nat.zero_mul] at h
      rcases Nat.mul_eq_zero.1 h.symm with h | h <;> omega
    have l1 := Nat.log2_self_le hm
    have l2 := @Nat.lt_log2_self mag
    have g1 := Nat.log2_self_le h0
    have g2 := @Nat.lt_log2_self n
    have hLp : mag.log2 + p = n.log2 + T := by
      refine log_one (X := mag * 2 ^ p) ?_ ?_ ?_ ?_
      · rw [Nat.pow_add]; exact Nat.mul_le_mul_right _ l1
      · rw [show mag.log2 + p + 1 = mag.log2 + 1 + p by omega, Nat.pow_add]; exact Nat.mul_lt_mul_of_pos_right l2 hpp
      · rw [h, Nat.pow_add]; exact Nat.mul_le_mul_right _ g1
      · rw [h, show n.log2 + T + 1 = n.log2 + 1 + T by omega, Nat.pow_add]; exact Nat.mul_lt_mul_of_pos_right g2 hKp
    have hnF : n.log2 ≤ F := by
      rcases Nat.lt_or_ge F n.log2 with h' | h'
      · have := Nat.pow_le_pow_right (n := 2) (by decide) (show F + 1 ≤ n.log2 from h')
        omega
      · exact h'
    obtain ⟨E, hE⟩ : ∃ E, E + F = n.log2 + T := ⟨n.log2 + T - F, by omega⟩
    have hEK : E ≤ T := by omega
    generalize hln : n.log2 = ln at *
    generalize hlm : mag.log2 = lm at *
    have kge : 2 ^ F ≤ n * 2 ^ (T - E) := by
      have := Nat.mul_le_mul_right (2 ^ (T - E)) g1
      rw [← Nat.pow_add, show ln + (T - E) = F by omega] at this
      exact this
    have klt : n * 2 ^ (T - E) < 2 ^ (F + 1) := by
      have := Nat.mul_lt_mul_of_pos_right g2 (Nat.two_pow_pos (T - E))
      rw [← Nat.pow_add, show ln + 1 + (T - E) = F + 1 by omega] at this
      exact this
    have kE : n * 2 ^ (T - E) * 2 ^ E = n * 2 ^ T := by rw [Nat.mul_assoc, ← Nat.pow_add]; congr 2; omega
    have hlast : max (-(K : Int) + (p : Int) + (lm : Int) - (F : Int)) (-(K : Int)) = -(K : Int) + (E : Int) := by omega
    have hkept : Toward.even.cut neg (mag <<< (-(K : Int) + (p : Int) - (-(K : Int) + (E : Int))).toNat) (-(K : Int) + (E : Int) - (-(K : Int) + (p : Int))).toNat = n * 2 ^ (T - E) := by
      rw [Nat.shiftLeft_eq]
      rcases Nat.lt_or_ge p E with hpe | hpe
      · rw [show (-(K : Int) + (p : Int) - (-(K : Int) + (E : Int))).toNat = 0 by omega, show (-(K : Int) + (E : Int) - (-(K : Int) + (p : Int))).toNat = E - p by omega, Nat.pow_zero, Nat.mul_one]
        have : mag = n * 2 ^ (T - E) * 2 ^ (E - p) := by
          refine Nat.eq_of_mul_eq_mul_right hpp ?_
          rw [h, Nat.mul_assoc (n * 2 ^ (T - E)), ← Nat.pow_add, show E - p + p = E by omega, kE]
        rw [this, cut_exact _ _ _ (by omega)]
      · rw [show (-(K : Int) + (p : Int) - (-(K : Int) + (E : Int))).toNat = p - E by omega, show (-(K : Int) + (E : Int) - (-(K : Int) + (p : Int))).toNat = 0 by omega, cut_zero]
        refine Nat.eq_of_mul_eq_mul_right (Nat.two_pow_pos E) ?_
        rw [kE, Nat.mul_assoc, ← Nat.pow_add, show p - E + E = p by omega, h]
    unfold Format.nearest
    rw [if_neg hm]
    simp only [e1, e4, hlm, hlast, hkept]
    rw [show (-(K : Int) + (E : Int) - -(K : Int)).toNat = E by omega, e2, e3]
    generalize hkk : n * 2 ^ (T - E) = kept at *
    obtain ⟨r, hr⟩ : ∃ r, kept = 2 ^ F + r := ⟨kept - 2 ^ F, by omega⟩
    have hrB : r < 2 ^ F := by rw [Nat.pow_succ] at klt; omega
    have hER : E * 2 ^ F + kept < R * 2 ^ F := by
      have : (E + 2) * 2 ^ F ≤ R * 2 ^ F := Nat.mul_le_mul_right _ (by omega)
      rw [Nat.add_mul] at this
      omega
    have hRS : R * 2 ^ F < (R + 1) * 2 ^ F := by rw [Nat.add_mul, Nat.one_mul]; omega
    rw [Nat.min_eq_left (by omega)]
    obtain ⟨w1, w2⟩ := hword (E * 2 ^ F + kept) (by omega)
    refine ⟨kept, E, ?_, kE, klt⟩
    unfold Format.read
    simp only [w1, w2, e2, e3, e4]
    subst hr
    obtain ⟨q1, q2⟩ := divmod (E := E) hrB
    rw [if_neg (by omega), if_pos hER, q1, q2, show E + 1 - 1 = E by omega]

theorem sg_absT {s : Bool} {x T : Nat} {n : Int} (h : sg s x = n * ((2 ^ T : Nat) : Int)) : x = n.natAbs * 2 ^ T := sg_abs h
theorem write_T {k : FloatKind} {neg : Bool} {mag p T : Nat} {n : Int} (hT : T ≤ KK k) (hFT : FF k ≤ T) (h : sg neg (mag * 2 ^ p) = n * ((2 ^ T : Nat) : Int)) (hn : n.natAbs < 2 ^ (FF k + 1)) :
    IsV k (k.encode (.number neg mag (-(KK k : Int) + (p : Int)))) (n * ((2 ^ T : Nat) : Int)) := by
  obtain ⟨m, j, e, e2, e3⟩ := exact_wordT (okF k) neg mag p n.natAbs T hT hFT (sg_absT h) hn
  refine ⟨neg, m, j, e, ?_, e3⟩
  rw [e2, ← sg_absT h, h]
theorem add_T {k : FloatKind} {x y T : Nat} {a b : Int} (hT : T ≤ KK k) (hFT : FF k ≤ T) (hx : IsV k x (a * ((2 ^ T : Nat) : Int))) (hy : IsV k y (b * ((2 ^ T : Nat) : Int))) (h : (a + b).natAbs < 2 ^ (FF k + 1)) :
    ∃ w, floatBits .add k x y = some w ∧ IsV k w ((a + b) * ((2 ^ T : Nat) : Int)) := by
  obtain ⟨s, m, i, d1, v1, -⟩ := hx
  obtain ⟨t, n, j, d2, v2, -⟩ := hy
  obtain ⟨neg, mag, p, e1, e2⟩ := sum_V (K := KK k) v1 v2
  rw [← Int.add_mul] at e2
  refine ⟨_, ?_, write_T hT hFT e2 h⟩
  show (Datum.sum (k.decode x) (k.decode y)).map k.format.write = _
  rw [d1, d2, e1]
  rfl
/-- A product of numbers at the power T stands at the power T + T - K. -/
theorem mul_T {k : FloatKind} {x y T S : Nat} {a b : Int} (hS : T + T = KK k + S) (hT : S ≤ KK k) (hFT : FF k ≤ S) (hTF : KK k + 2 * FF k ≤ T + T) (hx : IsV k x (a * ((2 ^ T : Nat) : Int))) (hy : IsV k y (b * ((2 ^ T : Nat) : Int))) (h : (a * b).natAbs < 2 ^ (FF k + 1)) :
    ∃ w, floatBits .mul k x y = some w ∧ IsV k w (a * b * ((2 ^ S : Nat) : Int)) := by
  obtain ⟨s, m, i, d1, v1, m1⟩ := hx
  obtain ⟨t, n, j, d2, v2, n1⟩ := hy
  have hf : floatBits .mul k x y = some (k.encode (.number (s ^^ t) (m * n) (-(KK k : Int) + (i : Int) + (-(KK k : Int) + (j : Int))))) := by
    show (Datum.product (k.decode x) (k.decode y)).map k.format.write = _
    rw [d1, d2]
    rfl
  have hp := Nat.two_pow_pos T
  by_cases hz : a = 0 ∨ b = 0
  · have hmn : m * n = 0 := by
      rcases hz with hz | hz
      · subst hz
        rw [Int.zero_mul] at v1
        rcases Nat.mul_eq_zero.1 (sg_zero v1) with h | h
        · rw [h, Nat.zero_mul]
        · have := Nat.two_pow_pos i; omega
      · subst hz
        rw [Int.zero_mul] at v2
        rcases Nat.mul_eq_zero.1 (sg_zero v2) with h | h
        · rw [h, Nat.mul_zero]
        · have := Nat.two_pow_pos j; omega
    have hab : a * b = 0 := by rcases hz with hz | hz <;> simp [hz]
    rw [hmn] at hf
    rw [hab, Int.zero_mul]
    exact ⟨_, hf, zero_V k _ _⟩
  · have ge : ∀ {c : Int}, c ≠ 0 → 2 ^ T ≤ (c * ((2 ^ T : Nat) : Int)).natAbs := fun {c} hc => by
      rw [Int.natAbs_mul, Int.natAbs_natCast]
      exact Nat.le_mul_of_pos_left _ (by omega)
    have g1 := place_V v1 m1 (ge (fun h => hz (.inl h)))
    have g2 := place_V v2 n1 (ge (fun h => hz (.inr h)))
    obtain ⟨p, hp⟩ : ∃ p, i + j = KK k + p := ⟨i + j - KK k, by omega⟩
    rw [show -(KK k : Int) + (i : Int) + (-(KK k : Int) + (j : Int)) = -(KK k : Int) + (p : Int) by omega] at hf
    have e1 : sg (s ^^ t) (m * 2 ^ i * (n * 2 ^ j)) = a * ((2 ^ T : Nat) : Int) * (b * ((2 ^ T : Nat) : Int)) := by rw [sg_prod, v1, v2]
    have e2 : m * 2 ^ i * (n * 2 ^ j) = m * n * 2 ^ p * 2 ^ KK k := by
      have : m * 2 ^ i * (n * 2 ^ j) = m * n * (2 ^ i * 2 ^ j) := by simp only [Nat.mul_assoc, Nat.mul_left_comm]
      rw [this, ← Nat.pow_add, hp, Nat.add_comm, Nat.pow_add]
      simp only [Nat.mul_assoc]
    have e3 : a * ((2 ^ T : Nat) : Int) * (b * ((2 ^ T : Nat) : Int)) = a * b * ((2 ^ S : Nat) : Int) * ((2 ^ KK k : Nat) : Int) := by
      have q : 2 ^ T * 2 ^ T = 2 ^ S * 2 ^ KK k := by rw [← Nat.pow_add, ← Nat.pow_add, hS, Nat.add_comm]
      have q2 : ((2 ^ T : Nat) : Int) * ((2 ^ T : Nat) : Int) = ((2 ^ S : Nat) : Int) * ((2 ^ KK k : Nat) : Int) := by rw [← Int.natCast_mul, ← Int.natCast_mul, q]
      have q3 : a * ((2 ^ T : Nat) : Int) * (b * ((2 ^ T : Nat) : Int)) = a * b * (((2 ^ T : Nat) : Int) * ((2 ^ T : Nat) : Int)) := by
        simp only [Int.mul_assoc, Int.mul_left_comm]
      rw [q3, q2, Int.mul_assoc (a * b)]
    rw [e2, sg_mul, e3] at e1
    have hK := Nat.two_pow_pos (KK k)
    exact ⟨_, hf, write_T hT hFT (Int.eq_of_mul_eq_mul_right (by omega) e1) h⟩
/-- A float64 of few digits as a float32: the same number. -/
theorem narrow_T {x T S : Nat} {a : Int} (hS : T + 925 = S) (hT : T ≤ 149) (hFT : 52 ≤ T) (hx : IsV .f64 x (a * ((2 ^ S : Nat) : Int))) (h : a.natAbs < 2 ^ 24) : ∃ w, floatToFloatBits .f64 x .f32 = some w ∧ IsV .f32 w (a * ((2 ^ T : Nat) : Int)) := by
  subst hS
  obtain ⟨s, m, j, d, v, hm⟩ := hx
  obtain ⟨D, hD⟩ : ∃ D, D = 925 := ⟨_, rfl⟩
  rw [← hD] at v
  have hK : (KK .f64 : Int) = (KK .f32 : Int) + (D : Int) := by rw [hD]; rfl
  have hF : FF .f64 = 52 := rfl
  have hw : IsV .f32 (FloatKind.f32.encode (.number s m (-(KK .f64 : Int) + (j : Int)))) (a * ((2 ^ T : Nat) : Int)) := by
    by_cases ha : a = 0
    · subst ha
      rw [Int.zero_mul] at v
      have : m = 0 := by
        rcases Nat.mul_eq_zero.1 (sg_zero v) with h | h
        · exact h
        · have := Nat.two_pow_pos j; omega
      rw [this, Int.zero_mul]
      exact zero_V _ _ _
    · have g := place_V (A := T + D) v hm (by
        rw [Int.natAbs_mul, Int.natAbs_natCast]
        exact Nat.le_mul_of_pos_left _ (by omega))
      obtain ⟨p, hp⟩ : ∃ p, j = p + D := ⟨j - D, by omega⟩
      rw [show -(KK .f64 : Int) + (j : Int) = -(KK .f32 : Int) + (p : Int) by omega]
      refine write_T (by exact hT) (by show 23 ≤ T; omega) ?_ h
      rw [hp, Nat.pow_add, ← Nat.mul_assoc, sg_mul, Nat.pow_add, Int.natCast_mul, ← Int.mul_assoc] at v
      refine Int.eq_of_mul_eq_mul_right ?_ v
      have := Nat.two_pow_pos D
      omega
  refine ⟨_, ?_, hw⟩
  unfold floatToFloatBits
  rw [if_neg (by decide), d]
  simp only
  rw [if_neg (by rw [noinfV hw]; decide)]
end Go.Proofs.Ytncckihaacceaaa.PlainP
