/-
  Rounding: what a number's nearest word stands for is off from it by at most its 2^-F-th part (F digits behind the first one).
-/
import Derived.Test.YtncckihaacceaaaPlainInt
namespace Go.Proofs.Ytncckihaacceaaa.PlainP
open Ieee Go.Proofs.YtncckihaacceaaaW.PrintWords

/-- A number cut to a whole one is off by at most one. -/
theorem cut_off (neg : Bool) (n d : Nat) : Toward.even.cut neg n d * 2 ^ d ≤ n + 2 ^ d ∧ n ≤ Toward.even.cut neg n d * 2 ^ d + 2 ^ d := by
  unfold Toward.cut
  simp only [Nat.shiftLeft_eq, Nat.one_mul]
  rcases Nat.lt_or_ge (n.log2 + 2) d with h | h
  · rw [Nat.min_eq_right (by omega)]
    have hn : n < 2 ^ (n.log2 + 1) := Nat.lt_log2_self
    have hp : 2 ^ (n.log2 + 2) = 2 * 2 ^ (n.log2 + 1) := by rw [Nat.pow_succ 2 (n.log2 + 1)]; omega
    have h2 : 2 ^ (n.log2 + 2) ≤ 2 ^ d := Nat.pow_le_pow_right (by decide) (by omega)
    have hlow : n / 2 ^ (n.log2 + 2) = 0 := Nat.div_eq_of_lt (by omega)
    have hrest : n % 2 ^ (n.log2 + 2) = n := Nat.mod_eq_of_lt (by omega)
    have hb1 : decide (2 ^ (n.log2 + 2) < 2 * n) = false := decide_eq_false (by omega)
    have hb2 : (2 ^ (n.log2 + 2) == 2 * n) = false := by simp; omega
    rw [hlow, hrest, hb1, hb2]
    simp
    omega
  · rw [Nat.min_eq_left h]
    have hpos : 0 < 2 ^ d := Nat.two_pow_pos d
    have hdm := Nat.div_add_mod n (2 ^ d)
    have hm := Nat.mod_lt n hpos
    generalize (decide (2 ^ d < 2 * (n % 2 ^ d)) || 2 ^ d == 2 * (n % 2 ^ d) && n / 2 ^ d % 2 == 1) = b
    rw [Nat.mul_comm] at hdm
    generalize hq : n / 2 ^ d * 2 ^ d = q at hdm
    cases b
    · simp only [Bool.toNat_false, Nat.add_zero, hq]; omega
    · simp only [Bool.toNat_true, Nat.add_mul, Nat.one_mul, hq]; omega
/-- V is off from X by at most the 2^-F-th part of X. -/
def NearR (F V X : Nat) : Prop := V * 2 ^ F ≤ X * 2 ^ F + X ∧ X * 2 ^ F ≤ V * 2 ^ F + X
theorem NearR.self (F X : Nat) : NearR F X X := ⟨Nat.le_add_right _ _, Nat.le_add_right _ _⟩
theorem near_word {f : Format} {F K R : Nat} (hf : FmtOk f F K R) (neg : Bool) (mag p G : Nat) (hG : G + 2 ≤ R) (h : mag * 2 ^ p < 2 ^ (F + G)) :
    ∃ m j : Nat, f.read (f.nearest neg mag (-(K : Int) + (p : Int))) = .number neg m (-(K : Int) + (j : Int)) ∧ NearR F (m * 2 ^ j) (mag * 2 ^ p) ∧ m < 2 ^ (F + 1) ∧ (mag < 2 ^ (F + 1) → m * 2 ^ j = mag * 2 ^ p) := by
  obtain ⟨e1, e4, e2, e3, e5, hFK, hKR⟩ := hf
  have hBp := Nat.two_pow_pos F
  have hpp := Nat.two_pow_pos p
  have hS : 0 < (R + 1) * 2 ^ F := Nat.mul_pos (by omega) hBp
  have hword : ∀ rung, rung < (R + 1) * 2 ^ F → ((f.word neg rung) / f.signWeight % 2 == 1) = neg ∧ (f.word neg rung) % f.signWeight = rung := by
    intro rung hr
    unfold Format.word
    rw [e5]
    cases neg
    · simp [Nat.div_eq_of_lt hr, Nat.mod_eq_of_lt hr]
    · simp only [if_true]
      rw [Nat.add_mod_left, Nat.mod_eq_of_lt hr, Nat.add_div_left _ hS, Nat.div_eq_of_lt hr]
      exact ⟨rfl, rfl⟩
  have hRS : R * 2 ^ F < (R + 1) * 2 ^ F := by rw [Nat.add_mul, Nat.one_mul]; omega
  -- what stands at a rung: E binades and kept
  have hrung : ∀ E kept : Nat, (E = 0 ∨ 2 ^ F ≤ kept) → kept ≤ 2 ^ (F + 1) → E + 1 ≤ G ∨ (E = 0 ∧ kept < 2 ^ F) → ∃ m j : Nat, f.read (f.word neg (min (E * 2 ^ F + kept) (R * 2 ^ F))) = .number neg m (-(K : Int) + (j : Int)) ∧ m * 2 ^ j = kept * 2 ^ E ∧ m < 2 ^ (F + 1) := by
    intro E kept hE hk hEG
    have hk2 : 2 ^ (F + 1) = 2 * 2 ^ F := by rw [Nat.pow_succ]; omega
    have hle : E * 2 ^ F + kept < R * 2 ^ F := by
      rcases hEG with hEG | ⟨rfl, hk3⟩
      · have : (E + 3) * 2 ^ F ≤ R * 2 ^ F := Nat.mul_le_mul_right _ (by omega)
        rw [Nat.add_mul] at this
        omega
      · have : 1 * 2 ^ F ≤ R * 2 ^ F := Nat.mul_le_mul_right _ (by omega)
        omega
    rw [Nat.min_eq_left (by omega)]
    obtain ⟨w1, w2⟩ := hword (E * 2 ^ F + kept) (by omega)
    unfold Format.read
    simp only [w1, w2, e2, e3, e4]
    by_cases h1 : E * 2 ^ F + kept < 2 ^ F
    · have h0 : E = 0 := by
        rcases hE with h | h
        · exact h
        · omega
      subst h0
      rw [if_pos h1]
      exact ⟨kept, 0, by simp, rfl, by omega⟩
    · rw [if_neg h1, if_pos hle]
      rcases Nat.lt_or_ge kept (2 ^ (F + 1)) with hk1 | hk1
      · have hk0 : 2 ^ F ≤ kept := by
          rcases hE with h | h
          · subst h; omega
          · exact h
        obtain ⟨r, hr⟩ : ∃ r, kept = 2 ^ F + r := ⟨kept - 2 ^ F, by omega⟩
        subst hr
        obtain ⟨q1, q2⟩ := divmod (E := E) (B := 2 ^ F) (r := r) (by omega)
        refine ⟨2 ^ F + r, E, ?_, rfl, hk1⟩
        rw [q1, q2, show E + 1 - 1 = E by omega]
      · obtain rfl : kept = 2 ^ (F + 1) := by omega
        obtain ⟨q1, q2⟩ := divmod (E := E + 1) (B := 2 ^ F) (r := 0) hBp
        have e : E * 2 ^ F + 2 ^ (F + 1) = (E + 1) * 2 ^ F + (2 ^ F + 0) := by rw [Nat.add_mul, Nat.one_mul]; omega
        refine ⟨2 ^ F, E + 1, ?_, ?_, by omega⟩
        · rw [e, q1, q2, show E + 1 + 1 - 1 = E + 1 by omega, Nat.add_zero]
        · rw [← Nat.pow_add, ← Nat.pow_add]; congr 1; omega
  by_cases h0 : mag = 0
  · subst h0
    unfold Format.nearest
    rw [if_pos rfl]
    obtain ⟨w1, w2⟩ := hword 0 hS
    refine ⟨0, 0, ?_, by rw [Nat.zero_mul, Nat.zero_mul]; exact NearR.self F 0, Nat.two_pow_pos _, fun _ => by rw [Nat.zero_mul, Nat.zero_mul]⟩
    unfold Format.read
    simp only [w1, w2, e2]
    rw [if_pos hBp, e4]
    simp
  · have l1 := Nat.log2_self_le h0
    have l2 := @Nat.lt_log2_self mag
    unfold Format.nearest
    rw [if_neg h0]
    generalize hl : mag.log2 = L at *
    have x1 : 2 ^ (L + p) ≤ mag * 2 ^ p := by rw [Nat.pow_add]; exact Nat.mul_le_mul_right _ l1
    have x2 : mag * 2 ^ p < 2 ^ (L + 1 + p) := by rw [Nat.pow_add]; exact Nat.mul_lt_mul_of_pos_right l2 hpp
    have hLp : L + p < F + G := by
      rcases Nat.lt_or_ge (L + p) (F + G) with h' | h'
      · exact h'
      · have := Nat.pow_le_pow_right (n := 2) (by decide) h'
        omega
    simp only [e1, e3, e4, e2]
    rcases Nat.lt_or_ge (L + p) F with hs | hs
    · have hlast : max (-(K : Int) + (p : Int) + (L : Int) - (F : Int)) (-(K : Int)) = -(K : Int) := by omega
      rw [hlast, show (-(K : Int) + (p : Int) - -(K : Int)).toNat = p by omega, show (-(K : Int) - (-(K : Int) + (p : Int))).toNat = 0 by omega, cut_zero, show (-(K : Int) - -(K : Int)).toNat = 0 by omega, Nat.shiftLeft_eq]
      have hlt : mag * 2 ^ p < 2 ^ F := Nat.lt_of_lt_of_le x2 (Nat.pow_le_pow_right (by decide) (by omega))
      obtain ⟨m, j, h1, h2, h3⟩ := hrung 0 (mag * 2 ^ p) (.inl rfl) (by rw [Nat.pow_succ]; omega) (.inr ⟨rfl, hlt⟩)
      have h2' : m * 2 ^ j = mag * 2 ^ p := by rw [h2, Nat.pow_zero, Nat.mul_one]
      exact ⟨m, j, h1, h2' ▸ NearR.self _ _, h3, fun _ => h2'⟩
    · obtain ⟨E, hE⟩ : ∃ E, L + p = F + E := ⟨L + p - F, by omega⟩
      have hlast : max (-(K : Int) + (p : Int) + (L : Int) - (F : Int)) (-(K : Int)) = -(K : Int) + (E : Int) := by omega
      rw [hlast, show (-(K : Int) + (E : Int) - -(K : Int)).toNat = E by omega, Nat.shiftLeft_eq]
      rcases Nat.lt_or_ge p E with hpe | hpe
      · rw [show (-(K : Int) + (p : Int) - (-(K : Int) + (E : Int))).toNat = 0 by omega, show (-(K : Int) + (E : Int) - (-(K : Int) + (p : Int))).toNat = E - p by omega, Nat.pow_zero, Nat.mul_one]
        obtain ⟨k1, k2⟩ := cut_off neg mag (E - p)
        have hLe : L = F + (E - p) := by omega
        have kge : 2 ^ F ≤ Toward.even.cut neg mag (E - p) := by
          have hdv : 2 ^ F ≤ mag / 2 ^ (E - p) := by
            rw [Nat.le_div_iff_mul_le (Nat.two_pow_pos _), ← Nat.pow_add, ← hLe]; exact l1
          unfold Toward.cut
          simp only [Nat.shiftLeft_eq, Nat.one_mul]
          rw [Nat.min_eq_left (by omega)]
          exact Nat.le_trans hdv (Nat.le_add_right _ _)
        generalize Toward.even.cut neg mag (E - p) = k at *
        have kle : k ≤ 2 ^ (F + 1) := by
          have hlt : mag < 2 ^ (F + 1) * 2 ^ (E - p) := by rw [← Nat.pow_add]; rw [show F + 1 + (E - p) = L + 1 by omega]; exact l2
          have hpos := Nat.two_pow_pos (E - p)
          rcases Nat.lt_or_ge (2 ^ (F + 1)) k with hc | hc
          · exfalso
            have a1 : (2 ^ (F + 1) + 1) * 2 ^ (E - p) ≤ k * 2 ^ (E - p) := Nat.mul_le_mul_right _ hc
            rw [Nat.add_mul, Nat.one_mul] at a1
            omega
          · exact hc
        obtain ⟨m, j, h1, h2, h3⟩ := hrung E k (.inr kge) kle (.inl (by omega))
        refine ⟨m, j, h1, ?_, h3, fun hs => ?_⟩
        rotate_left
        · exfalso
          have := Nat.pow_le_pow_right (n := 2) (by decide) (show F + 1 ≤ L by omega)
          omega
        rw [h2]
        have a1 : k * 2 ^ E = k * 2 ^ (E - p) * 2 ^ p := by rw [Nat.mul_assoc, ← Nat.pow_add]; congr 2; omega
        have a2 : 2 ^ E = 2 ^ (E - p) * 2 ^ p := by rw [← Nat.pow_add]; congr 1; omega
        have a3 : k * 2 ^ (E - p) * 2 ^ p ≤ (mag + 2 ^ (E - p)) * 2 ^ p := Nat.mul_le_mul_right _ k1
        have a4 : mag * 2 ^ p ≤ (k * 2 ^ (E - p) + 2 ^ (E - p)) * 2 ^ p := Nat.mul_le_mul_right _ k2
        rw [Nat.add_mul, ← a2] at a3 a4
        rw [← a1] at a3 a4
        have a5 : 2 ^ E * 2 ^ F ≤ mag * 2 ^ p := by rw [← Nat.pow_add, show E + F = L + p by omega]; exact x1
        have a6 := Nat.mul_le_mul_right (2 ^ F) a3
        have a7 := Nat.mul_le_mul_right (2 ^ F) a4
        rw [Nat.add_mul] at a6 a7
        exact ⟨Nat.le_trans a6 (Nat.add_le_add_left a5 _), Nat.le_trans a7 (Nat.add_le_add_left a5 _)⟩
      · rw [show (-(K : Int) + (p : Int) - (-(K : Int) + (E : Int))).toNat = p - E by omega, show (-(K : Int) + (E : Int) - (-(K : Int) + (p : Int))).toNat = 0 by omega, cut_zero]
        have kge : 2 ^ F ≤ mag * 2 ^ (p - E) := by
          have a1 : 2 ^ L * 2 ^ (p - E) ≤ mag * 2 ^ (p - E) := Nat.mul_le_mul_right _ l1
          rw [← Nat.pow_add, show L + (p - E) = F by omega] at a1
          exact a1
        have kle : mag * 2 ^ (p - E) < 2 ^ (F + 1) := by
          have a1 : mag * 2 ^ (p - E) < 2 ^ (L + 1) * 2 ^ (p - E) := Nat.mul_lt_mul_of_pos_right l2 (Nat.two_pow_pos _)
          rw [← Nat.pow_add, show L + 1 + (p - E) = F + 1 by omega] at a1
          exact a1
        obtain ⟨m, j, h1, h2, h3⟩ := hrung E (mag * 2 ^ (p - E)) (.inr kge) (Nat.le_of_lt kle) (.inl (by omega))
        have h2' : m * 2 ^ j = mag * 2 ^ p := by rw [h2, Nat.mul_assoc, ← Nat.pow_add, show p - E + E = p by omega]
        exact ⟨m, j, h1, h2' ▸ NearR.self _ _, h3, fun _ => h2'⟩
end Go.Proofs.Ytncckihaacceaaa.PlainP
