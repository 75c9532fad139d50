/-
  The sine of at most a quarter of a turn is there, and at most 1.2; of at most an eighth, at most 0.79.
-/
import Derived.Test.YtncckihaacceaaaPhC
namespace Go.Proofs.Ytncckihaacceaaa.PlainP
open Ieee Go.Proofs.YtncckihaacceaaaW.PrintWords

theorem box_lo {T w : Nat} {lo hi lo' : Int} {L : Nat} (h : Box T w lo hi L) (h1 : lo' ≤ lo ∨ lo' ≤ 0) : Box T w lo' hi L := by
  obtain ⟨v, hv, a, b, c, d⟩ := h
  have hp : (0 : Int) ≤ ((2 ^ T : Nat) : Int) := Int.natCast_nonneg _
  refine ⟨v, hv, ?_, b, c, d⟩
  rcases h1 with h | h
  · exact Int.le_trans (Int.mul_le_mul_of_nonneg_right h hp) a
  · have := Int.mul_le_mul_of_nonneg_right h hp
    omega
theorem sine_range {T g : Nat} {j : Int} (hT : T = 1062) (h0 : 0 ≤ j) (h1 : j ≤ 1024) (hg : IsV .f64 g (j * ((2 ^ T : Nat) : Int))) (zl zh ul upl ql ph sh : Int)
    (c1 : (zl + 1) * 4096 ≤ j * 25735 ∨ zl ≤ 0) (c2 : j * 25736 ≤ (zh - 1) * 4096) (c3 : 0 ≤ zl) (c4 : zh ≤ 6436) (c5 : (ul + 1) * 4096 ≤ zl * zl ∨ ul ≤ 0) (c6 : zh * zh ≤ 10114 * 4096) (c7 : (upl + 1) * 4096 ≤ ul * 3589) (c8 : ql * 6 + 1 ≤ upl ∨ ql ≤ 0) (c9 : 0 ≤ ql) (c10 : 4096 - ql ≤ ph - 1) (c11 : ph ≤ 4097) (c12 : zh * ph ≤ (sh - 1) * 4096) :
    ∃ s, Sine g s ∧ Box T s 0 sh 1030 := by
  obtain ⟨z, hz, bz⟩ := box_mul (lo := j * 25735 / 4096 - 1) (hi := zh) hT (box_exact hg h0) (turn_B hT) (by decide) (by omega) (by decide) (by omega) (by omega) c2
  have bz' : Box T z zl zh (T + T - 1075) := box_lo bz (by rcases c1 with h | h; left; omega; exact .inr h)
  obtain ⟨u, hu, bu⟩ := box_mul (lo := zl * zl / 4096 - 1) (hi := 10115) hT bz' bz' c3 (by omega) (by omega) (by omega) (by omega) (by omega)
  have bu' : Box T u ul 10115 (T + T - 1075 + (T + T - 1075) - 1075) := box_lo bu (by rcases c5 with h | h; left; omega; exact .inr h)
  have bu0 : Box T u 0 10115 (T + T - 1075 + (T + T - 1075) - 1075) := box_lo bu (.inr (by decide))
  have b1 : Box T 4607182418800017408 3589 4097 T := box_wide (box_exact (one_V hT) (by decide)) (by decide) (by decide) (Nat.le_refl _)
  obtain ⟨p1, s1, q1⟩ := step_ok (W := 4643492690795692032) hT bu0 b1 (word_I 272 _ (by decide) (by decide +kernel)) (by decide) (by decide) (by omega)
  obtain ⟨p2, s2, q2⟩ := step_ok (W := 4641592734702895104) hT bu0 q1 (word_I 210 _ (by decide) (by decide +kernel)) (by decide) (by decide) (by omega)
  obtain ⟨p3, s3, q3⟩ := step_ok (W := 4639692778610098176) hT bu0 q2 (word_I 156 _ (by decide) (by decide +kernel)) (by decide) (by decide) (by omega)
  obtain ⟨p4, s4, q4⟩ := step_ok (W := 4637440978796412928) hT bu0 q3 (word_I 110 _ (by decide) (by decide +kernel)) (by decide) (by decide) (by omega)
  obtain ⟨p5, s5, q5⟩ := step_ok (W := 4634766966517661696) hT bu0 q4 (word_I 72 _ (by decide) (by decide +kernel)) (by decide) (by decide) (by omega)
  obtain ⟨p6, s6, q6⟩ := step_ok (W := 4631107791820423168) hT bu0 q5 (word_I 42 _ (by decide) (by decide +kernel)) (by decide) (by decide) (by omega)
  obtain ⟨p7, s7, q7⟩ := step_ok (W := 4626322717216342016) hT bu0 q6 (word_I 20 _ (by decide) (by decide +kernel)) (by decide) (by decide) (by omega)
  obtain ⟨p8, s8, q8⟩ := step_of (W := 4618441417868443648) (upl := upl) (uph := 10119) (ql := ql) (qh := 1687) (ph := ph) (pl' := 2408) hT bu' q7 (word_I 6 _ (by decide) (by decide +kernel)) (by decide) (by decide) (by omega) (by decide) c7 (by decide) (by decide) c8 (by decide) (by decide) c9 (by decide) (by decide) c10
  obtain ⟨s, hs, bs⟩ := box_mul (lo := -1) (hi := sh) hT (box_lo bz' (.inr (Int.le_refl 0))) q8 (by decide) (by omega) (by omega) (by omega) (by decide) c12
  obtain ⟨f1, f2⟩ := fok_some hz
  obtain ⟨f3, f4⟩ := fok_some hu
  obtain ⟨f5, f6⟩ := fok_some hs
  exact ⟨s, ⟨z, u, p1, p2, p3, p4, p5, p6, p7, p8, f1, f2, f3, f4, s1, s2, s3, s4, s5, s6, s7, s8, f5, f6⟩, box_wide (box_lo bs (.inr (Int.le_refl 0))) (Int.le_refl 0) (Int.le_refl _) (by omega)⟩
theorem sine_ok {T g : Nat} {j : Int} (hT : T = 1062) (h0 : 0 ≤ j) (h1 : j ≤ 1024) (hg : IsV .f64 g (j * ((2 ^ T : Nat) : Int))) : ∃ s, Sine g s ∧ Box T s 0 (if j ≤ 512 then 3222 else 4905) 1030 := by
  by_cases hA : j ≤ 512
  · rw [if_pos hA]
    exact sine_range hT h0 h1 hg 0 3219 0 (-1) 0 4097 3222 (.inr (by decide)) (by omega) (by decide) (by decide) (.inr (by decide)) (by decide) (by decide) (.inr (by decide)) (by decide) (by decide) (by decide) (by decide)
  · rw [if_neg hA]
    by_cases hB : j ≤ 780
    · exact sine_range hT h0 h1 hg 0 4902 0 (-1) 0 4097 4905 (.inr (by decide)) (by omega) (by decide) (by decide) (.inr (by decide)) (by decide) (by decide) (.inr (by decide)) (by decide) (by decide) (by decide) (by decide)
    · by_cases hC : j ≤ 905
      · exact sine_range hT h0 h1 hg 4905 5688 5872 5144 857 3240 4905 (.inl (by omega)) (by omega) (by decide) (by decide) (.inl (by decide)) (by decide) (by decide) (.inl (by decide)) (by decide) (by decide) (by decide) (by decide)
      · exact sine_range hT h0 h1 hg 5691 6436 7906 6926 1154 2943 4905 (.inl (by omega)) (by omega) (by decide) (by decide) (.inl (by decide)) (by decide) (by decide) (.inl (by decide)) (by decide) (by decide) (by decide) (by decide)
end Go.Proofs.Ytncckihaacceaaa.PlainP
