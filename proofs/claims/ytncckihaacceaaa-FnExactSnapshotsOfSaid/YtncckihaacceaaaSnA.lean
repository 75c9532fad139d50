/-
  Draws, symbols and noise: the program's are the reference's.
-/
import Derived.Test.YtncckihaacceaaaSx3
import Derived.Test.YtncckihaacceaaaSx4
import Derived.Test.YtncckihaacceaaaSx2
import Derived.Test.YtncckihaacceaaaPhJ
namespace Go.Proofs.Ytncckihaacceaaa.SnP
open Ieee Go.Proofs.YtncckihaacceaaaW.PrintWords Go.Proofs.Ytncckihaacceaaa.PlainP
open Go.Proofs.Ytncckihaacceaaa.S Go.RowKit

theorem draw_eq (a b : Int) : impl_draw.f a b = spec_l06Draw.f a b := rfl
theorem next_ok {s : Int} (h0 : 0 ≤ s) (h1 : s ≤ 2147483647) : ∃ t, spec_l06Next.f s = some t ∧ 0 ≤ t ∧ t ≤ 2147483647 := by
  have e : wrap64 (wrap64 (1103515245 * s) + 12345) = 1103515245 * s + 12345 := by unfold wrap64; omega
  refine ⟨_, rfl, ?_, ?_⟩ <;> rw [e, Int.tmod_eq_emod_of_nonneg (by omega)] <;> omega
theorem draw_ok {s n : Int} (h0 : 0 ≤ s) (h1 : s ≤ 2147483647) (n0 : 0 ≤ n) (n1 : n ≤ 1099511627776) : ∃ d, spec_l06Draw.f s n = some d ∧ 0 ≤ d ∧ d ≤ 32767 := by
  have e : wrap64 (s + wrap64 (40503 * n)) = s + 40503 * n := by unfold wrap64; omega
  have hm : 0 ≤ Int.tmod (s + 40503 * n) 2147483648 ∧ Int.tmod (s + 40503 * n) 2147483648 ≤ 2147483647 := by
    rw [Int.tmod_eq_emod_of_nonneg (by omega)]
    omega
  obtain ⟨t, e1, t0, t1⟩ := next_ok hm.1 hm.2
  obtain ⟨u, e2, u0, u1⟩ := next_ok t0 t1
  refine ⟨wrap64 (Int.tdiv u 65536), ?_, ?_⟩
  · unfold spec_l06Draw.f
    rw [e, e1]
    simp only [Option.bind_some]
    rw [e2]
    rfl
  · rw [Int.tdiv_eq_ediv_of_nonneg u0]
    unfold wrap64
    omega
/-- Half, either way. -/
def halfW (b : Bool) : Nat := if b then 3204448256 else 1056964608
theorem halfW_num (b : Bool) : ∃ s, FloatKind.f32.decode (halfW b) = .number s 8388608 (-24) := by
  cases b
  · exact ⟨false, by decide +kernel⟩
  · exact ⟨true, by decide +kernel⟩
theorem symbol_ok {s i : Int} (h0 : 0 ≤ s) (h1 : s ≤ 2147483647) (i0 : 0 ≤ i) (i1 : i ≤ 1000064) : ∃ a b, spec_l06Symbol.f s i = some ⟨halfW a, halfW b⟩ ∧ impl_symbol.f s i = some ⟨halfW a, halfW b⟩ := by
  have e : wrap64 (2 * i) = 2 * i := by unfold wrap64; omega
  obtain ⟨d, hd, -⟩ := draw_ok h0 h1 (show 0 ≤ 2 * i by omega) (by omega)
  unfold spec_l06Symbol.f impl_symbol.f
  rw [e, draw_eq, hd]
  simp only [Option.bind_some]
  unfold impl_half.f
  by_cases c1 : Int.tmod (wrap64 (Int.tdiv d 16384)) 2 = 1
  · rw [if_pos c1, if_pos c1]
    by_cases c2 : Int.tmod (wrap64 (Int.tdiv d 8192)) 2 = 1
    · rw [if_pos c2, if_pos c2]; exact ⟨true, true, rfl, rfl⟩
    · rw [if_neg c2, if_neg c2]; exact ⟨true, false, rfl, rfl⟩
  · rw [if_neg c1, if_neg c1]
    by_cases c2 : Int.tmod (wrap64 (Int.tdiv d 8192)) 2 = 1
    · rw [if_pos c2, if_pos c2]; exact ⟨false, true, rfl, rfl⟩
    · rw [if_neg c2, if_neg c2]; exact ⟨false, false, rfl, rfl⟩
theorem scaled_half (a b : Bool) (g : Nat) : HalfP (scaleC ⟨halfW a, halfW b⟩ g).re ∧ HalfP (scaleC ⟨halfW a, halfW b⟩ g).im := by
  obtain ⟨S, hS⟩ : ∃ S : Nat, S = 252 := ⟨_, rfl⟩
  exact ⟨(half_mul hS (halfW_num a)).imp id fun h => ⟨S, hS, h⟩, (half_mul hS (halfW_num b)).imp id fun h => ⟨S, hS, h⟩⟩
/-- The nearest word of an exact number does not hang on how the number is told. -/
theorem nearest_shift {s : Bool} {m u : Nat} {p : Int} (hm : 0 < m) (hl : max (p + (u : Int) + (m.log2 : Int) - 23) (-149) ≤ p + (u : Int)) : Ieee.single.nearest s (m * 2 ^ u) p = Ieee.single.nearest s m (p + (u : Int)) := by
  have hL : Ieee.single.leastPlace = -149 := by decide +kernel
  have hF : Ieee.single.fractionBits = 23 := rfl
  have hlog : (m * 2 ^ u).log2 = m.log2 + u := by
    have h1 := Nat.log2_self_le (Nat.ne_of_gt hm)
    have h2 := @Nat.lt_log2_self m
    refine log_one (X := m * 2 ^ u) (Nat.log2_self_le (Nat.ne_of_gt (Nat.mul_pos hm (Nat.two_pow_pos u)))) Nat.lt_log2_self ?_ ?_
    · rw [Nat.pow_add]; exact Nat.mul_le_mul_right _ h1
    · rw [show m.log2 + u + 1 = m.log2 + 1 + u by omega, Nat.pow_add]; exact Nat.mul_lt_mul_of_pos_right h2 (Nat.two_pow_pos u)
  unfold Format.nearest
  rw [if_neg (Nat.ne_of_gt (Nat.mul_pos hm (Nat.two_pow_pos u))), if_neg (Nat.ne_of_gt hm), hlog]
  simp only [hL, hF]
  have e0 : p + ((m.log2 + u : Nat) : Int) - ((23 : Nat) : Int) = p + (u : Int) + (m.log2 : Int) - ((23 : Nat) : Int) := by omega
  rw [e0]
  obtain ⟨last, hlast⟩ : ∃ last : Int, last = max (p + (u : Int) + (m.log2 : Int) - ((23 : Nat) : Int)) (-149) := ⟨_, rfl⟩
  rw [← hlast]
  have l1 : last ≤ p + (u : Int) := by omega
  have key : Toward.even.cut s ((m * 2 ^ u) <<< (p - last).toNat) (last - p).toNat = Toward.even.cut s (m <<< (p + (u : Int) - last).toNat) (last - (p + (u : Int))).toNat := by
    rw [show (last - (p + (u : Int))).toNat = 0 by omega, cut_zero, Nat.shiftLeft_eq, Nat.shiftLeft_eq]
    rcases Int.le_total last p with h | h
    · rw [show (last - p).toNat = 0 by omega, cut_zero, Nat.mul_assoc, ← Nat.pow_add]
      congr 2
      omega
    · rw [show (p - last).toNat = 0 by omega, Nat.pow_zero, Nat.mul_one]
      have e : m * 2 ^ u = m * 2 ^ (p + (u : Int) - last).toNat * 2 ^ (last - p).toNat := by
        rw [Nat.mul_assoc, ← Nat.pow_add]
        congr 2
        omega
      rw [e]
      exact cut_exact s _ _ (Nat.ne_of_gt (Nat.mul_pos hm (Nat.two_pow_pos _)))
  rw [key]
theorem int_word (n : Int) : floatOfInt .f32 n = Ieee.single.nearest (decide (n < 0)) n.natAbs 0 := rfl
/-- 16384 taken from a draw, as floats and as whole numbers. -/
theorem less_half {d : Int} (h0 : 0 ≤ d) (h1 : d ≤ 32767) : floatBits .sub .f32 (floatOfInt .f32 d) 1182793728 = some (floatOfInt .f32 (d - 16384)) := by
  by_cases hz : d = 16384
  · subst hz
    decide +kernel
  · have hi := int_I (k := .f32) (n := d) (by simp only [FF]; omega)
    obtain ⟨s, m, j, d1, v1, -⟩ := hi
    have d2 : FloatKind.f32.decode 1182793728 = .number false 8388608 (-((149 : Nat) : Int) + ((140 : Nat) : Int)) := by decide +kernel
    obtain ⟨K, hK⟩ : ∃ K : Nat, K = 149 := ⟨_, rfl⟩
    have hKK : KK .f32 = K := by rw [hK]; rfl
    rw [hKK] at d1 v1
    rw [← hK] at d2
    have v2 : sg true (8388608 * 2 ^ 140) = -16384 * ((2 ^ K : Nat) : Int) := by
      have e : 8388608 * 2 ^ 140 = 16384 * 2 ^ K := by rw [show K = 9 + 140 by omega, Nat.pow_add, ← Nat.mul_assoc]
      rw [e]
      unfold sg
      rw [if_pos rfl, Int.natCast_mul, Int.neg_mul]
      rfl
    have v1' : sg s (m * 2 ^ j) = d * ((2 ^ K : Nat) : Int) := by rw [v1, int_pow]
    have hf : floatBits .sub .f32 (floatOfInt .f32 d) 1182793728 = (Datum.sum (.number s m (-(K : Int) + (j : Int))) (.number true 8388608 (-(K : Int) + ((140 : Nat) : Int)))).map FloatKind.f32.format.write := by
      show (Datum.sum (FloatKind.f32.decode (floatOfInt .f32 d)) (FloatKind.f32.decode 1182793728).opposite).map _ = _
      rw [d1, d2]
      rfl
    rw [hf]
    simp only [Datum.sum, base_min, up_a, up_b, signed_sg, Option.map_some]
    obtain ⟨b, hb⟩ : ∃ b, b = min j 140 := ⟨_, rfl⟩
    rw [← hb]
    obtain ⟨tot, ht⟩ : ∃ tot, tot = sg s (m * 2 ^ (j - b)) + sg true (8388608 * 2 ^ (140 - b)) := ⟨_, rfl⟩
    rw [← ht]
    have htot : tot * ((2 ^ b : Nat) : Int) = (d - 16384) * ((2 ^ K : Nat) : Int) := by
      have c1 : sg s (m * 2 ^ j) = sg s (m * 2 ^ (j - b)) * ((2 ^ b : Nat) : Int) := by
        rw [← sg_mul, Nat.mul_assoc, ← Nat.pow_add]; congr 3; omega
      have c2 : sg true (8388608 * 2 ^ 140) = sg true (8388608 * 2 ^ (140 - b)) * ((2 ^ b : Nat) : Int) := by
        rw [← sg_mul, Nat.mul_assoc, ← Nat.pow_add]; congr 3; omega
      rw [ht, Int.add_mul, ← c1, ← c2, v1', v2, Int.sub_mul]
      omega
    have htot2 : tot = (d - 16384) * ((2 ^ (K - b) : Nat) : Int) := by
      have e : ((2 ^ K : Nat) : Int) = ((2 ^ (K - b) : Nat) : Int) * ((2 ^ b : Nat) : Int) := by rw [← pow_add_int]; congr 2; omega
      rw [e, ← Int.mul_assoc] at htot
      exact Int.eq_of_mul_eq_mul_right (by have := Nat.two_pow_pos b; omega) htot
    have hp := Nat.two_pow_pos (K - b)
    have hne : tot ≠ 0 := by
      rw [htot2]
      intro h
      rcases Int.mul_eq_zero.1 h with h | h <;> omega
    rw [if_neg hne, int_word]
    have hneg : decide (tot < 0) = decide (d - 16384 < 0) := by
      rcases Int.lt_or_le (d - 16384) 0 with h | h
      · have : tot < 0 := by rw [htot2]; exact Int.mul_neg_of_neg_of_pos h (by omega)
        rw [decide_eq_true h, decide_eq_true this]
      · have : 0 ≤ tot := by rw [htot2]; exact Int.mul_nonneg h (by omega)
        rw [decide_eq_false (by omega), decide_eq_false (by omega)]
    rw [hneg]
    have hna : tot.natAbs = (d - 16384).natAbs * 2 ^ (K - b) := by rw [htot2, Int.natAbs_mul, Int.natAbs_natCast]
    rw [hna]
    have hlg : (d - 16384).natAbs.log2 < 24 := (Nat.log2_lt (by omega)).2 (by omega)
    have := nearest_shift (s := decide (d - 16384 < 0)) (m := (d - 16384).natAbs) (u := K - b) (p := -(K : Int) + (b : Int)) (by omega) (by omega)
    rw [show -(K : Int) + (b : Int) + ((K - b : Nat) : Int) = 0 by omega] at this
    exact congrArg some this
/-- A quotient of numbers is there. -/
theorem quo_there {x : Nat} (h : ∃ s m e, FloatKind.f32.decode x = .number s m e) : FOk .quo .f32 x 1182793728 = true := by
  obtain ⟨s, m, e, hx⟩ := h
  have d2 : FloatKind.f32.decode 1182793728 = .number false 8388608 (-9) := by decide +kernel
  unfold FOk
  have hf : floatBits .quo .f32 x 1182793728 = (Datum.quotient 25 (.number s m e) (.number false 8388608 (-9))).map FloatKind.f32.format.write := by
    show (Datum.quotient (FloatKind.f32.format.fractionBits + 2) (FloatKind.f32.decode x) (FloatKind.f32.decode 1182793728)).map _ = _
    rw [hx, d2]
    rfl
  rw [hf]
  simp only [Datum.quotient]
  rw [if_neg (by decide)]
  rfl
/-- The word of a part of the noise. -/
def noiseW (d : Int) : Nat := fq .quo .f32 (floatOfInt .f32 (d - 16384)) 1182793728
theorem quo_int (n : Int) (h : n.natAbs < 16777216) : FOk .quo .f32 (floatOfInt .f32 n) 1182793728 = true := by
  obtain ⟨s, m, j, d, -⟩ := int_I (k := .f32) (n := n) h
  exact quo_there ⟨s, m, _, d⟩
theorem part_ok {a b d : Int} (hd : spec_l06Draw.f a b = some d) (h0 : 0 ≤ d) (h1 : d ≤ 32767) : partF a b = some (noiseW d) := by
  unfold partF
  rw [draw_eq, hd]
  simp only [Option.bind_some]
  obtain ⟨g1, g2⟩ := fok_some (less_half h0 h1)
  rw [if_pos g1, g2, if_pos (quo_int _ (by omega))]
  rfl
/-- The noise of an element, both programs'. -/
theorem noise_ok {s i e : Int} (l : Nat) (s0 : 0 ≤ s) (s1 : s ≤ 2147483647) (i0 : 0 ≤ i) (i1 : i ≤ 1000064) (e0 : 0 ≤ e) (e1 : e ≤ 64) : ∃ c, spec_l06Noise.f s i e l = some c ∧ impl_noise.f s i e l = some c := by
  have w1 : wrap64 (wrap64 (wrap64 (16 * i) + e) + 1000000) = 16 * i + e + 1000000 := by unfold wrap64; omega
  have w2 : wrap64 (2 * (16 * i + e + 1000000)) = 2 * (16 * i + e + 1000000) := by unfold wrap64; omega
  have w3 : wrap64 (2 * (16 * i + e + 1000000) + 1) = 2 * (16 * i + e + 1000000) + 1 := by unfold wrap64; omega
  obtain ⟨d, hd, d0, d1⟩ := draw_ok s0 s1 (show 0 ≤ 2 * (16 * i + e + 1000000) by omega) (by omega)
  obtain ⟨d', hd', d0', d1'⟩ := draw_ok s0 s1 (show 0 ≤ 2 * (16 * i + e + 1000000) + 1 by omega) (by omega)
  refine ⟨scaleC ⟨noiseW d, noiseW d'⟩ l, ?_, ?_⟩
  · unfold spec_l06Noise.f
    rw [w1, w2, w3, hd]
    simp only [Option.bind_some]
    rw [show wrap64 (d - 16384) = d - 16384 by unfold wrap64; omega, if_pos (quo_int _ (by omega)), hd']
    simp only [Option.bind_some]
    rw [show wrap64 (d' - 16384) = d' - 16384 by unfold wrap64; omega, if_pos (quo_int _ (by omega))]
    rfl
  · unfold impl_noise.f
    rw [w1, w2, w3, part_ok hd d0 d1, part_ok hd' d0' d1']
    rfl
end Go.Proofs.Ytncckihaacceaaa.SnP
