/-
  Numbers in boxes: bounds in 4096ths of products, of quotients by whole numbers, and of 1 less a number.
-/
import Derived.Test.YtncckihaacceaaaPhA
namespace Go.Proofs.Ytncckihaacceaaa.PlainP
open Ieee Go.Proofs.YtncckihaacceaaaW.PrintWords

/-- The word stands for a number from lo to hi 4096ths (T: the place of a 4096th), and if it isn't 0 it is at least 2^L least numbers. -/
def Box (T : Nat) (w : Nat) (lo hi : Int) (L : Nat) : Prop := ∃ v : Int, IsV .f64 w v ∧ lo * ((2 ^ T : Nat) : Int) ≤ v ∧ v ≤ hi * ((2 ^ T : Nat) : Int) ∧ 0 ≤ v ∧ (v = 0 ∨ ((2 ^ L : Nat) : Int) ≤ v)
theorem box_exact {T w : Nat} {a : Int} (h : IsV .f64 w (a * ((2 ^ T : Nat) : Int))) (h0 : 0 ≤ a) : Box T w a a T := by
  have hp := Nat.two_pow_pos T
  refine ⟨_, h, Int.le_refl _, Int.le_refl _, Int.mul_nonneg h0 (by omega), ?_⟩
  rcases Int.lt_or_le 0 a with h1 | h1
  · right
    have := Int.mul_le_mul_of_nonneg_right (show (1 : Int) ≤ a by omega) (show (0 : Int) ≤ ((2 ^ T : Nat) : Int) by omega)
    omega
  · left
    have : a = 0 := by omega
    rw [this, Int.zero_mul]
theorem box_wide {T w : Nat} {lo hi lo' hi' : Int} {L L' : Nat} (h : Box T w lo hi L) (h1 : lo' ≤ lo) (h2 : hi ≤ hi') (h3 : L' ≤ L) : Box T w lo' hi' L' := by
  obtain ⟨v, hv, a, b, c, d⟩ := h
  have hp : (0 : Int) ≤ ((2 ^ T : Nat) : Int) := Int.natCast_nonneg _
  refine ⟨v, hv, Int.le_trans (Int.mul_le_mul_of_nonneg_right h1 hp) a, Int.le_trans b (Int.mul_le_mul_of_nonneg_right h2 hp), c, d.imp id fun d => Int.le_trans ?_ d⟩
  exact Int.ofNat_le.2 (Nat.pow_le_pow_right (by decide) h3)
theorem off_up {c x : Int} (h : Off 52 c x) (hx : 0 ≤ x) : c * 4503599627370496 ≤ x * 4503599627370497 ∧ x * 4503599627370495 ≤ c * 4503599627370496 := by
  unfold Off at h
  rw [show (2 : Nat) ^ 52 = 4503599627370496 from rfl] at h
  omega
theorem pow_le_int {a b : Nat} (h : a ≤ b) : ((2 ^ a : Nat) : Int) ≤ ((2 ^ b : Nat) : Int) := Int.ofNat_le.2 (Nat.pow_le_pow_right (by decide) h)
theorem pow_add_int (a b : Nat) : ((2 ^ (a + b) : Nat) : Int) = ((2 ^ a : Nat) : Int) * ((2 ^ b : Nat) : Int) := by rw [Nat.pow_add]; push_cast; rfl
/-- A product. -/
theorem box_mul {T x y : Nat} {a b c d lo hi : Int} {A B : Nat} (hT : T = 1062) (hx : Box T x a b A) (hy : Box T y c d B) (hc : 0 ≤ c) (hb : b ≤ 65536) (hd : d ≤ 65536) (hAB : 1178 ≤ A + B)
    (hlo : (lo + 1) * 4096 ≤ a * c) (hhi : b * d ≤ (hi - 1) * 4096) : ∃ w, floatBits .mul .f64 x y = some w ∧ Box T w lo hi (A + B - 1075) := by
  obtain ⟨v, hv, v1, v2, v3, v4⟩ := hx
  obtain ⟨u, hu, u1, u2, u3, u4⟩ := hy
  have hKK : KK .f64 = T + 12 := by rw [hT]; rfl
  have hFF : FF .f64 = 52 := rfl
  have hRR : RR .f64 = 2047 := rfl
  have hp : (0 : Int) < ((2 ^ T : Nat) : Int) := by have := Nat.two_pow_pos T; omega
  have hb0 : 0 ≤ b := by
    rcases Int.le_total 0 b with h | h
    · exact h
    · have := Int.mul_le_mul_of_nonneg_right h (Int.le_of_lt hp)
      rcases Int.lt_or_eq_of_le h with h | h
      · have := Int.mul_lt_mul_of_pos_right h hp
        omega
      · omega
  have hd0 : 0 ≤ d := by
    rcases Int.le_total 0 d with h | h
    · exact h
    · rcases Int.lt_or_eq_of_le h with h | h
      · have := Int.mul_lt_mul_of_pos_right h hp
        omega
      · omega
  obtain ⟨R, hR⟩ : ∃ R, R = ((2 ^ T : Nat) : Int) := ⟨_, rfl⟩
  have hX0 : 0 ≤ v * u := Int.mul_nonneg v3 u3
  have e1 : v * u ≤ (b * R) * (d * R) := by
    rw [hR]
    exact Int.le_trans (Int.mul_le_mul_of_nonneg_right v2 u3) (Int.mul_le_mul_of_nonneg_left u2 (Int.mul_nonneg hb0 (by omega)))
  have e2 : (a * R) * (c * R) ≤ v * u := by
    rw [hR]
    exact Int.le_trans (Int.mul_le_mul_of_nonneg_right v1 (Int.mul_nonneg hc (by omega))) (Int.mul_le_mul_of_nonneg_left u1 v3)
  have f1 : (b * R) * (d * R) = (b * d) * (R * R) := by simp only [Int.mul_assoc, Int.mul_left_comm]
  have f2 : (a * R) * (c * R) = (a * c) * (R * R) := by simp only [Int.mul_assoc, Int.mul_left_comm]
  rw [f1] at e1
  rw [f2] at e2
  have hRR0 : 0 < R * R := by rw [hR]; exact Int.mul_pos hp hp
  have hbd : b * d ≤ 4294967296 := by
    have h1 := Int.mul_le_mul_of_nonneg_right hb hd0
    have h2 := Int.mul_le_mul_of_nonneg_left hd (show (0 : Int) ≤ 65536 by decide)
    omega
  have hbig : (v * u).natAbs < 2 ^ (FF .f64 + 1040 + KK .f64) := by
    have h1 : v * u ≤ 4294967296 * (R * R) := Int.le_trans e1 (Int.mul_le_mul_of_nonneg_right hbd (Int.le_of_lt hRR0))
    have h2 : (4294967296 : Int) * (R * R) = ((2 ^ (32 + (T + T)) : Nat) : Int) := by
      rw [pow_add_int, pow_add_int, ← hR]; rfl
    have h3 : 2 ^ (32 + (T + T)) < 2 ^ (FF .f64 + 1040 + KK .f64) := Nat.pow_lt_pow_right (by decide) (by omega)
    omega
  obtain ⟨w, z, hw, hz, ho⟩ := mul_V (k := .f64) 1040 A B (by omega) (by omega) hv hu (by rcases v4 with h | h; exact .inl h; right; omega) (by rcases u4 with h | h; exact .inl h; right; omega) hbig
  refine ⟨w, hw, z, hz, ?_⟩
  rw [hFF, hKK] at ho
  obtain ⟨g1, g2⟩ := off_up ho hX0
  have hU : ((2 ^ (T + 12) : Nat) : Int) = R * 4096 := by rw [pow_add_int, ← hR]; rfl
  rw [hU] at g1 g2
  obtain ⟨Z, hZ⟩ : ∃ Z, Z = z * (R * 4096) := ⟨_, rfl⟩
  obtain ⟨X, hX⟩ : ∃ X, X = v * u := ⟨_, rfl⟩
  obtain ⟨S, hS⟩ : ∃ S, S = R * R := ⟨_, rfl⟩
  rw [← hZ, ← hX] at g1 g2
  rw [← hX, ← hS] at e1 e2
  rw [← hX] at hX0
  rw [← hS] at hRR0
  -- bounds by S
  have k1 : (b * d) * S ≤ ((hi - 1) * 4096) * S := Int.mul_le_mul_of_nonneg_right hhi (Int.le_of_lt hRR0)
  have k2 : ((lo + 1) * 4096) * S ≤ (a * c) * S := Int.mul_le_mul_of_nonneg_right hlo (Int.le_of_lt hRR0)
  have k3 : (b * d) * S ≤ 4294967296 * S := Int.mul_le_mul_of_nonneg_right hbd (Int.le_of_lt hRR0)
  have n1 : ((hi - 1) * 4096) * S = 4096 * (hi * S) - 4096 * S := by rw [Int.sub_mul, Int.sub_mul, Int.mul_comm hi 4096, Int.mul_assoc]; omega
  have n2 : ((lo + 1) * 4096) * S = 4096 * (lo * S) + 4096 * S := by rw [Int.add_mul, Int.add_mul, Int.mul_comm lo 4096, Int.mul_assoc]; omega
  have zl : lo * S * 4096 ≤ Z := by omega
  have zh : Z ≤ hi * S * 4096 := by omega
  have hRp : 0 < R * 4096 := by rw [hR]; omega
  refine ⟨?_, ?_, ?_, ?_⟩
  · rw [← hR]
    refine Int.le_of_mul_le_mul_right (a := R * 4096) ?_ hRp
    rw [← hZ]
    have : lo * R * (R * 4096) = lo * S * 4096 := by rw [hS]; simp only [Int.mul_assoc]
    omega
  · rw [← hR]
    refine Int.le_of_mul_le_mul_right (a := R * 4096) ?_ hRp
    rw [← hZ]
    have : hi * R * (R * 4096) = hi * S * 4096 := by rw [hS]; simp only [Int.mul_assoc]
    omega
  · have : 0 * (R * 4096) ≤ z * (R * 4096) := by rw [← hZ, Int.zero_mul]; omega
    exact Int.le_of_mul_le_mul_right this hRp
  · by_cases h0 : X = 0
    · left
      have : Z = 0 := by omega
      rw [hZ] at this
      rcases Int.mul_eq_zero.1 this with h | h
      · exact h
      · omega
    · right
      have w1 : ((2 ^ A : Nat) : Int) ≤ v := v4.resolve_left (fun h => h0 (by rw [hX, h, Int.zero_mul]))
      have w2 : ((2 ^ B : Nat) : Int) ≤ u := u4.resolve_left (fun h => h0 (by rw [hX, h, Int.mul_zero]))
      have w3 : ((2 ^ (A + B) : Nat) : Int) ≤ X := by
        rw [pow_add_int, hX]
        exact Int.le_trans (Int.mul_le_mul_of_nonneg_right w1 (Int.natCast_nonneg _)) (Int.mul_le_mul_of_nonneg_left w2 v3)
      refine Int.le_of_mul_le_mul_right (a := R * 4096) ?_ hRp
      rw [← hZ]
      have w4 : ((2 ^ (A + B - 1075) : Nat) : Int) * (R * 4096) * 2 = ((2 ^ (A + B) : Nat) : Int) := by
        rw [← hU, ← pow_add_int, show A + B - 1075 + (T + 12) = A + B - 1 by omega]
        have : ((2 ^ (A + B - 1 + 1) : Nat) : Int) = ((2 ^ (A + B - 1) : Nat) : Int) * 2 := by rw [Nat.pow_succ]; push_cast; rfl
        rw [← this, show A + B - 1 + 1 = A + B by omega]
      omega
theorem quo_zero {x y : Nat} {n : Int} (hx : IsV .f64 x 0) (hy : IsI .f64 y n) (hn : n ≠ 0) : ∃ w, floatBits .quo .f64 x y = some w ∧ IsV .f64 w 0 := by
  obtain ⟨s, m, i, d1, v1, -⟩ := hx
  obtain ⟨t, q, j, d2, v2, -⟩ := hy
  have hm : m = 0 := by
    rcases Nat.mul_eq_zero.1 (sg_zero v1) with h | h
    · exact h
    · have := Nat.two_pow_pos i; omega
  have hq : q ≠ 0 := fun hz => by
    rw [hz, Nat.zero_mul] at v2
    have e : sg t 0 = 0 := by cases t <;> rfl
    rw [e] at v2
    rcases Int.mul_eq_zero.1 v2.symm with h | h
    · exact hn h
    · have h2 : ((2 ^ KK .f64 : Nat) : Int) = 0 := by push_cast; exact h
      have := Nat.two_pow_pos (KK .f64)
      omega
  subst hm
  refine ⟨_, ?_, zero_V .f64 (s ^^ t) (-(KK .f64 : Int) + (i : Int) - (-(KK .f64 : Int) + (j : Int)) - ((54 + q.log2 - Nat.log2 0 : Nat) : Int) - 1)⟩
  show (Datum.quotient (FloatKind.f64.format.fractionBits + 2) (FloatKind.f64.decode x) (FloatKind.f64.decode y)).map _ = _
  rw [d1, d2]
  simp only [Datum.quotient]
  rw [if_neg hq]
  simp only [Nat.zero_shiftLeft, Nat.zero_div, Nat.mul_zero, Nat.zero_mod]
  rfl
/-- A quotient by a whole number. -/
theorem box_quo {T x y : Nat} {a b lo hi n : Int} {A : Nat} (hT : T = 1062) (hx : Box T x a b A) (hy : IsI .f64 y n) (hn0 : 1 ≤ n) (hn1 : n ≤ 400) (hb : b ≤ 65536) (hA : 200 ≤ A)
    (hlo : lo * n + 1 ≤ a ∨ lo ≤ 0) (hhi : b + 1 ≤ hi * n) : ∃ w, floatBits .quo .f64 x y = some w ∧ Box T w lo hi (A - 10) := by
  obtain ⟨v, hv, v1, v2, v3, v4⟩ := hx
  have hKK : KK .f64 = T + 12 := by rw [hT]; rfl
  have hFF : FF .f64 = 52 := rfl
  have hRR : RR .f64 = 2047 := rfl
  have hp : (0 : Int) < ((2 ^ T : Nat) : Int) := by have := Nat.two_pow_pos T; omega
  obtain ⟨R, hR⟩ : ∃ R, R = ((2 ^ T : Nat) : Int) := ⟨_, rfl⟩
  rw [← hR] at v1 v2 hp
  have hb0 : 0 ≤ b := by
    rcases Int.le_total 0 b with h | h
    · exact h
    · rcases Int.lt_or_eq_of_le h with h | h
      · have := Int.mul_lt_mul_of_pos_right h hp
        omega
      · omega
  have hhi0 : 0 ≤ hi := by
    rcases Int.le_total 0 hi with h | h
    · exact h
    · have := Int.mul_le_mul_of_nonneg_right h (show (0 : Int) ≤ n by omega)
      omega
  by_cases h0 : v = 0
  · subst h0
    obtain ⟨w, hw, hz⟩ := quo_zero hv hy (by omega)
    refine ⟨w, hw, 0, hz, ?_, ?_, Int.le_refl _, .inl rfl⟩
    · rcases hlo with h | h
      · have ha : a ≤ 0 := by
          rcases Int.le_total a 0 with h2 | h2
          · exact h2
          · rcases Int.lt_or_eq_of_le h2 with h3 | h3
            · have := Int.mul_lt_mul_of_pos_right h3 hp
              omega
            · omega
        have hl : lo ≤ 0 := by
          rcases Int.le_total lo 0 with h2 | h2
          · exact h2
          · have := Int.mul_le_mul_of_nonneg_right h2 (show (0 : Int) ≤ n by omega)
            omega
        rw [← hR]
        have := Int.mul_le_mul_of_nonneg_right hl (Int.le_of_lt hp)
        omega
      · rw [← hR]
        have := Int.mul_le_mul_of_nonneg_right h (Int.le_of_lt hp)
        omega
    · rw [← hR]
      have := Int.mul_nonneg hhi0 (Int.le_of_lt hp)
      omega
  · have hL : ((2 ^ A : Nat) : Int) ≤ v := v4.resolve_left h0
    have hyv := isI_V hy
    obtain ⟨U, hU⟩ : ∃ U, U = ((2 ^ KK .f64 : Nat) : Int) := ⟨_, rfl⟩
    have hUp : 0 < U := by rw [hU]; have := Nat.two_pow_pos (KK .f64); omega
    have hyv' : IsV .f64 y (n * U) := by rw [hU]; push_cast; exact hyv
    have hUR : U = R * 4096 := by rw [hU, hKK, pow_add_int, ← hR]; rfl
    have hnU0 : 0 < n * U := Int.mul_pos (by omega) hUp
    have hnU : n * U ≤ 400 * U := Int.mul_le_mul_of_nonneg_right hn1 (Int.le_of_lt hUp)
    have hUle : U ≤ n * U := by
      have := Int.mul_le_mul_of_nonneg_right hn0 (Int.le_of_lt hUp)
      omega
    have hB : (n * U).natAbs < 2 ^ (KK .f64 + 9) := by
      have h1 : ((2 ^ (KK .f64 + 9) : Nat) : Int) = U * 512 := by rw [pow_add_int, ← hU]; rfl
      omega
    have hvb : v ≤ 65536 * R := by
      have := Int.mul_le_mul_of_nonneg_right hb (Int.le_of_lt hp)
      omega
    have hbig : 4 * (v.natAbs * 2 ^ KK .f64) < (n * U).natAbs * 2 ^ (FF .f64 + 1040) := by
      have hTT : FF .f64 + 1040 = T + 30 := by rw [hT]; rfl
      have h1 : 2 ^ (FF .f64 + 1040) = 2 ^ T * 2 ^ 30 := by rw [hTT, Nat.pow_add]
      have h2 : (2 ^ T : Nat) = R.toNat := by rw [hR, Int.toNat_natCast]
      have h3 : (2 ^ KK .f64 : Nat) = U.toNat := by rw [hU, Int.toNat_natCast]
      rw [h1, h2, h3]
      have e1 : v.natAbs * U.toNat ≤ (65536 * R.toNat) * U.toNat := Nat.mul_le_mul_right _ (by omega)
      have e2 : U.toNat * (R.toNat * 2 ^ 30) ≤ (n * U).natAbs * (R.toNat * 2 ^ 30) := Nat.mul_le_mul_right _ (by omega)
      have e3 : U.toNat * (R.toNat * 2 ^ 30) = 1073741824 * (R.toNat * U.toNat) := by
        rw [show (2 : Nat) ^ 30 = 1073741824 from rfl]; simp only [Nat.mul_assoc, Nat.mul_left_comm, Nat.mul_comm]
      have e4 : 65536 * R.toNat * U.toNat = 65536 * (R.toNat * U.toNat) := Nat.mul_assoc ..
      have e5 : 0 < R.toNat * U.toNat := Nat.mul_pos (by omega) (by omega)
      omega
    obtain ⟨w, c, hw, hc, ho⟩ := quo_V (k := .f64) 1040 A (KK .f64 + 9) (by omega) (by omega) hv hyv' (by omega) (by omega) hB hbig
    refine ⟨w, hw, c, hc, ?_⟩
    have ho' : (c * n - v).natAbs * 2 ^ 52 ≤ 3 * v.natAbs := by
      have e : c * (n * U) - v * ((2 ^ KK .f64 : Nat) : Int) = (c * n - v) * U := by rw [← hU, Int.sub_mul, Int.mul_assoc]
      rw [e, Int.natAbs_mul, hFF] at ho
      have h3 : (2 ^ KK .f64 : Nat) = U.natAbs := by rw [hU, Int.natAbs_natCast]
      rw [h3] at ho
      have e6 : (c * n - v).natAbs * U.natAbs * 2 ^ 52 = ((c * n - v).natAbs * 2 ^ 52) * U.natAbs := by rw [Nat.mul_assoc, Nat.mul_assoc, Nat.mul_comm U.natAbs]
      have e7 : 3 * (v.natAbs * U.natAbs) = (3 * v.natAbs) * U.natAbs := by rw [Nat.mul_assoc]
      rw [e6, e7] at ho
      exact Nat.le_of_mul_le_mul_right ho (by omega)
    rw [show (2 : Nat) ^ 52 = 4503599627370496 from rfl] at ho'
    obtain ⟨N, hN⟩ : ∃ N, N = c * n := ⟨_, rfl⟩
    rw [← hN] at ho'
    have hN1 : N * 4503599627370496 ≤ v * 4503599627370499 := by omega
    have hN2 : v * 4503599627370493 ≤ N * 4503599627370496 := by omega
    have hvR : v ≤ b * R := v2
    have hbR : b * R ≤ 65536 * R := Int.mul_le_mul_of_nonneg_right hb (Int.le_of_lt hp)
    have hnp : 0 < n := by omega
    refine ⟨?_, ?_, ?_, ?_⟩
    · rw [← hR]
      refine Int.le_of_mul_le_mul_right (a := n) ?_ hnp
      rw [← hN]
      rcases hlo with h | h
      · have h1 := Int.mul_le_mul_of_nonneg_right h (Int.le_of_lt hp)
        rw [Int.add_mul, Int.one_mul] at h1
        have h2 : lo * R * n = lo * n * R := by rw [Int.mul_assoc, Int.mul_assoc, Int.mul_comm R n]
        omega
      · have h1 := Int.mul_le_mul_of_nonneg_right h (Int.le_of_lt hp)
        have h2 := Int.mul_le_mul_of_nonneg_right (show lo * R ≤ 0 by omega) (show (0 : Int) ≤ n by omega)
        omega
    · rw [← hR]
      refine Int.le_of_mul_le_mul_right (a := n) ?_ hnp
      rw [← hN]
      have h1 := Int.mul_le_mul_of_nonneg_right hhi (Int.le_of_lt hp)
      rw [Int.add_mul, Int.one_mul] at h1
      have h2 : hi * R * n = hi * n * R := by rw [Int.mul_assoc, Int.mul_assoc, Int.mul_comm R n]
      omega
    · refine Int.le_of_mul_le_mul_right (a := n) ?_ hnp
      rw [← hN]
      omega
    · right
      have h1 : ((2 ^ (A - 10) : Nat) : Int) * 1024 = ((2 ^ A : Nat) : Int) := by
        have := pow_add_int (A - 10) 10
        rw [show A - 10 + 10 = A by omega] at this
        rw [this]; rfl
      have h2 : 0 ≤ c := by
        refine Int.le_of_mul_le_mul_right (a := n) ?_ hnp
        rw [← hN]
        omega
      have h3 : c * n ≤ c * 400 := Int.mul_le_mul_of_nonneg_left hn1 h2
      rw [← hN] at h3
      omega
/-- 1 less a number. -/
theorem box_sub {T x y : Nat} {a b lo hi : Int} {A : Nat} (hT : T = 1062) (hy : IsV .f64 y (4096 * ((2 ^ T : Nat) : Int))) (hx : Box T x a b A) (hb : b ≤ 4096) (ha : 0 ≤ a)
    (hlo : lo + 1 ≤ 4096 - b) (hlo1 : 1 ≤ lo) (hhi : 4096 - a ≤ hi - 1) : ∃ w, floatBits .sub .f64 y x = some w ∧ Box T w lo hi T := by
  obtain ⟨v, hv, v1, v2, v3, v4⟩ := hx
  have hFF : FF .f64 = 52 := rfl
  have hRR : RR .f64 = 2047 := rfl
  have hp : (0 : Int) < ((2 ^ T : Nat) : Int) := by have := Nat.two_pow_pos T; omega
  obtain ⟨R, hR⟩ : ∃ R, R = ((2 ^ T : Nat) : Int) := ⟨_, rfl⟩
  rw [← hR] at v1 v2 hp hy
  have b1 := Int.mul_le_mul_of_nonneg_right hb (Int.le_of_lt hp)
  have hbig : (4096 * R - v).natAbs < 2 ^ (FF .f64 + 1040) := by
    have h1 : ((2 ^ (T + 13) : Nat) : Int) = R * 8192 := by rw [pow_add_int, ← hR]; rfl
    have h2 : 2 ^ (T + 13) < 2 ^ (FF .f64 + 1040) := Nat.pow_lt_pow_right (by decide) (by omega)
    omega
  obtain ⟨w, c, hw, hc, ho⟩ := sub_V (k := .f64) 1040 (by omega) hy hv hbig
  rw [hFF] at ho
  have l1 := Int.mul_le_mul_of_nonneg_right hlo (Int.le_of_lt hp)
  have l2 := Int.mul_le_mul_of_nonneg_right hhi (Int.le_of_lt hp)
  have l3 := Int.mul_le_mul_of_nonneg_right hlo1 (Int.le_of_lt hp)
  have l4 := Int.mul_nonneg ha (Int.le_of_lt hp)
  rw [Int.add_mul, Int.sub_mul, Int.one_mul] at l1
  rw [Int.sub_mul, Int.sub_mul, Int.one_mul] at l2
  rw [Int.one_mul] at l3
  obtain ⟨g1, g2⟩ := off_up ho (by omega)
  refine ⟨w, hw, c, hc, by rw [← hR]; omega, by rw [← hR]; omega, by omega, .inr (by rw [← hR]; omega)⟩
end Go.Proofs.Ytncckihaacceaaa.PlainP
