/-
  The phasor of a whole number of 4096ths of a turn: both programs come to the same complex number, and its parts are bounded.
-/
import Derived.Test.YtncckihaacceaaaPhF
namespace Go.Proofs.Ytncckihaacceaaa.PlainP
open Ieee Go.Proofs.YtncckihaacceaaaW.PrintWords
open Go.Proofs.Ytncckihaacceaaa.S Go.RowKit

/-- A float32 as a float64: the same number (great ones too). -/
theorem widen_W {x B : Nat} {a : Int} (hB : B ≤ 300) (hx : IsV .f32 x a) (ha : a.natAbs < 2 ^ B) : ∃ w, floatToFloatBits .f32 x .f64 = some w ∧ IsV .f64 w (a * ((2 ^ 925 : Nat) : Int)) := by
  obtain ⟨s, m, j, d, v, hm⟩ := hx
  obtain ⟨D, hD⟩ : ∃ D, D = 925 := ⟨_, rfl⟩
  have hK : (KK .f64 : Int) = (KK .f32 : Int) + (D : Int) := by rw [hD]; rfl
  rw [← hD]
  have hn : m * 2 ^ (j + D) = m * 2 ^ j * 2 ^ D := by rw [Nat.pow_add, Nat.mul_assoc]
  have hs : sg s (m * 2 ^ (j + D)) = a * ((2 ^ D : Nat) : Int) := by rw [hn, sg_mul, v]
  have hj : j ≤ B ∨ m = 0 := by
    rcases Nat.eq_zero_or_pos m with h | h
    · exact .inr h
    · refine .inl ?_
      rcases Nat.lt_or_ge B j with h1 | h1
      · exfalso
        have h2 := sg_natAbs s (m * 2 ^ j)
        rw [v] at h2
        have h3 : 2 ^ B ≤ 2 ^ j := Nat.pow_le_pow_right (by decide) (Nat.le_of_lt h1)
        have h4 : 1 * 2 ^ j ≤ m * 2 ^ j := Nat.mul_le_mul_right _ h
        omega
      · exact h1
  have hw : ∃ m' j' : Nat, FloatKind.f64.decode (FloatKind.f64.encode (.number s m (-(KK .f32 : Int) + (j : Int)))) = .number s m' (-(KK .f64 : Int) + (j' : Int)) ∧ m' * 2 ^ j' = m * 2 ^ (j + D) ∧ m' < 2 ^ (FF .f64 + 1) := by
    rw [show -(KK .f32 : Int) + (j : Int) = -(KK .f64 : Int) + ((j + D : Nat) : Int) by omega]
    rcases hj with hj | hj
    · have hlt : m * 2 ^ (j + D) < 2 ^ (FF .f64 + 1300) := by
        have h1 : m * 2 ^ (j + D) < 2 ^ (FF .f32 + 1) * 2 ^ (j + D) := Nat.mul_lt_mul_of_pos_right hm (Nat.two_pow_pos _)
        rw [← Nat.pow_add] at h1
        have hF1 : FF .f32 = 23 := rfl
        have hF2 : FF .f64 = 52 := rfl
        exact Nat.lt_of_lt_of_le h1 (Nat.pow_le_pow_right (by decide) (by omega))
      obtain ⟨m', j', q1, -, q3, q4⟩ := near_word (okF .f64) s m (j + D) 1300 (by decide) hlt
      exact ⟨m', j', q1, q4 (Nat.lt_of_lt_of_le hm (by decide)), q3⟩
    · subst hj
      obtain ⟨m', j', q1, -, q3, q4⟩ := near_word (okF .f64) s 0 (j + D) 1300 (by decide) (by rw [Nat.zero_mul]; exact Nat.two_pow_pos _)
      exact ⟨m', j', q1, q4 (Nat.two_pow_pos _), q3⟩
  obtain ⟨m', j', e1, e2, e3⟩ := hw
  have hV : IsV .f64 (FloatKind.f64.encode (.number s m (-(KK .f32 : Int) + (j : Int)))) (a * ((2 ^ D : Nat) : Int)) := ⟨s, m', j', e1, by rw [e2, hs], e3⟩
  refine ⟨_, ?_, hV⟩
  unfold floatToFloatBits
  rw [if_neg (by decide), d]
  simp only
  rw [if_neg (by rw [noinfV hV]; decide)]
theorem pow_trans {A L x : Nat} (h : A ≤ L) (d : 2 ^ L ≤ x) : 2 ^ A ≤ x := Nat.le_trans (Nat.pow_le_pow_right (by decide) h) d
/-- A number of at most h 4096ths, either way; 0 or not small. -/
def SB (T w : Nat) (h : Int) (L : Nat) : Prop := ∃ v : Int, IsV .f64 w v ∧ (v.natAbs : Int) ≤ h * ((2 ^ T : Nat) : Int) ∧ (v = 0 ∨ 2 ^ L ≤ v.natAbs)
/-- The same of a float32, told in double precision's least numbers. -/
def FB (T q : Nat) (h : Int) (L : Nat) : Prop := ∃ c : Int, IsV .f32 q c ∧ ((c * ((2 ^ 925 : Nat) : Int)).natAbs : Int) ≤ h * ((2 ^ T : Nat) : Int) ∧ (c = 0 ∨ 2 ^ L ≤ (c * ((2 ^ 925 : Nat) : Int)).natAbs)
theorem sb_box {T w : Nat} {lo hi : Int} {L : Nat} (h : Box T w lo hi L) : SB T w hi L := by
  obtain ⟨v, hv, -, b, c, d⟩ := h
  refine ⟨v, hv, by omega, d.imp id fun d => ?_⟩
  omega
theorem sb_neg {T w : Nat} {lo hi : Int} {L : Nat} (hT : T = 1062) (h : Box T w lo hi L) (hL : L ≤ 1060) (h1 : 1 ≤ L) (hh : hi ≤ 8192) : FOk .sub .f64 0 w = true ∧ SB T (fq .sub .f64 0 w) (hi + 1) (L - 1) := by
  obtain ⟨v, hv, -, b, c, d⟩ := h
  have hFF : FF .f64 = 52 := rfl
  have hRR : RR .f64 = 2047 := rfl
  have hp := Nat.two_pow_pos T
  have hz := zero_T T
  rw [Int.zero_mul] at hz
  obtain ⟨R, hR⟩ : ∃ R, R = ((2 ^ T : Nat) : Int) := ⟨_, rfl⟩
  rw [← hR] at b
  have hp' : 0 < R := by omega
  have hb := Int.mul_le_mul_of_nonneg_right hh (Int.le_of_lt hp')
  have hbig : (0 - v).natAbs < 2 ^ (FF .f64 + 1040) := by
    have h1 : ((2 ^ (T + 14) : Nat) : Int) = R * 16384 := by rw [pow_add_int, ← hR]; rfl
    have h2 : 2 ^ (T + 14) < 2 ^ (FF .f64 + 1040) := Nat.pow_lt_pow_right (by decide) (by omega)
    omega
  obtain ⟨y, z, hy, hzv, ho⟩ := sub_V (k := .f64) 1040 (by omega) hz hv hbig
  rw [hFF] at ho
  unfold Off at ho
  rw [show (2 : Nat) ^ 52 = 4503599627370496 from rfl] at ho
  obtain ⟨g1, g2⟩ := fok_some hy
  refine ⟨g1, z, by rw [g2]; exact hzv, ?_, ?_⟩
  · rw [← hR, Int.add_mul]
    omega
  · rcases d with d | d
    · left; omega
    · right
      have e : ((2 ^ L : Nat) : Int) = ((2 ^ (L - 1) : Nat) : Int) * 2 := by
        have := pow_add_int (L - 1) 1
        rw [show L - 1 + 1 = L by omega] at this
        exact this
      omega
theorem fb_narrow {T w : Nat} {h : Int} {L : Nat} (hT : T = 1062) (hw : SB T w h L) (hL : 978 ≤ L) (hh : h ≤ 8192) : FC 65 23 .f64 .f32 w = true ∧ FB T (fc .f64 .f32 w) (h + 1) (L - 1) := by
  obtain ⟨v, hv, b, d⟩ := hw
  have hF : FF .f32 = 23 := rfl
  have hp := Nat.two_pow_pos T
  obtain ⟨R, hR⟩ : ∃ R, R = ((2 ^ T : Nat) : Int) := ⟨_, rfl⟩
  rw [← hR] at b
  have hp' : 0 < R := by omega
  have hb := Int.mul_le_mul_of_nonneg_right hh (Int.le_of_lt hp')
  have hlt : v.natAbs < 2 ^ (FF .f32 + 250 + 925) := by
    have h1 : ((2 ^ (T + 14) : Nat) : Int) = R * 16384 := by rw [pow_add_int, ← hR]; rfl
    have h2 : 2 ^ (T + 14) < 2 ^ (FF .f32 + 250 + 925) := Nat.pow_lt_pow_right (by decide) (by omega)
    omega
  obtain ⟨q, c, hq, hc, ho⟩ := narrow_V 250 (by decide) hv (d.imp id fun d => pow_trans (A := 977) (by omega) d) hlt
  obtain ⟨g1, g2⟩ := fcok_some hq 65 23
  obtain ⟨D, hD⟩ : ∃ D, D = 925 := ⟨_, rfl⟩
  unfold FB
  rw [← hD] at ho ⊢
  obtain ⟨Z, hZ⟩ : ∃ Z, Z = c * ((2 ^ D : Nat) : Int) := ⟨_, rfl⟩
  rw [hF, ← hZ] at ho
  unfold Off at ho
  rw [show (2 : Nat) ^ 23 = 8388608 from rfl] at ho
  refine ⟨g1, c, by rw [g2]; exact hc, ?_, ?_⟩
  · rw [← hR, ← hZ, Int.add_mul]
    omega
  · rw [← hZ]
    rcases d with d | d
    · left
      have hz : Z = 0 := by omega
      rw [hZ] at hz
      rcases Int.mul_eq_zero.1 hz with h | h
      · exact h
      · have := Nat.two_pow_pos D; omega
    · right
      have e : 2 ^ L = 2 ^ (L - 1) * 2 := by rw [← Nat.pow_succ]; congr 1; omega
      omega
/-- A phasor: the parts are finite, and together not great. -/
def PhB (T : Nat) (y : C64) : Prop := ∃ h1 h2 : Int, h1 + h2 ≤ 8150 ∧ FB T y.re h1 1000 ∧ FB T y.im h2 1000
theorem fb_wide {T q : Nat} {h h' : Int} {L L' : Nat} (hf : FB T q h L) (h1 : h ≤ h') (h2 : L' ≤ L) : FB T q h' L' := by
  obtain ⟨c, hc, b, d⟩ := hf
  exact ⟨c, hc, Int.le_trans b (Int.mul_le_mul_of_nonneg_right h1 (Int.natCast_nonneg _)), d.imp id fun d => Nat.le_trans (Nat.pow_le_pow_right (by decide) h2) d⟩
/-- The number without its sign. -/
theorem abs_V {x : Nat} {v : Int} (h : IsV .f64 x v) : IsV .f64 (x % 9223372036854775808) (v.natAbs : Int) := by
  obtain ⟨s, m, j, d, e, hm⟩ := h
  refine ⟨false, m, j, ?_, ?_, hm⟩
  · have hs : Ieee.double.signWeight = 9223372036854775808 := by decide +kernel
    replace d : Ieee.double.read x = .number s m (-(KK .f64 : Int) + (j : Int)) := d
    show Ieee.double.read (x % 9223372036854775808) = _
    unfold Format.read at d ⊢
    simp only [hs, Nat.mod_mod] at d ⊢
    have h0 : x % 9223372036854775808 / 9223372036854775808 % 2 = 0 := by omega
    rw [h0]
    by_cases h1 : x % 9223372036854775808 < Ieee.double.binade
    · rw [if_pos h1] at d ⊢
      injection d with _ d2 d3
      rw [d2, d3]; rfl
    · rw [if_neg h1] at d ⊢
      by_cases h2 : x % 9223372036854775808 < Ieee.double.infRung
      · rw [if_pos h2] at d ⊢
        injection d with _ d2 d3
        rw [d2, d3]; rfl
      · rw [if_neg h2] at d
        split at d <;> cases d
  · rw [← e, sg_natAbs]; rfl
end Go.Proofs.Ytncckihaacceaaa.PlainP
