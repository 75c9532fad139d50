/-
  Whole numbers in floats: sums, differences, products and conversions of small ones are exact.
-/
import Derived.Test.YtncckihaacceaaaFloatKs
namespace Go.Proofs.Ytncckihaacceaaa.PlainP
open Ieee Go.Proofs.YtncckihaacceaaaW.PrintWords

structure FmtOk (f : Format) (F K R : Nat) : Prop where
  frac : f.fractionBits = F
  least : f.leastPlace = -(K : Int)
  bin : f.binade = 2 ^ F
  inf : f.infRung = R * 2 ^ F
  sign : f.signWeight = (R + 1) * 2 ^ F
  fk : F ≤ K
  kr : K + 2 ≤ R
theorem ok32 : FmtOk Ieee.single 23 149 255 := ⟨rfl, rfl, rfl, rfl, rfl, by decide, by decide⟩
theorem ok64 : FmtOk Ieee.double 52 1074 2047 := ⟨rfl, rfl, rfl, rfl, rfl, by decide, by decide⟩
theorem log_one {X a b : Nat} (a1 : 2 ^ a ≤ X) (a2 : X < 2 ^ (a + 1)) (b1 : 2 ^ b ≤ X) (b2 : X < 2 ^ (b + 1)) : a = b := by
  rcases Nat.lt_trichotomy a b with h | h | h
  · have := Nat.pow_le_pow_right (n := 2) (by decide) (show a + 1 ≤ b from h)
    omega
  · exact h
  · have := Nat.pow_le_pow_right (n := 2) (by decide) (show b + 1 ≤ a from h)
    omega
theorem divmod {B E r : Nat} (hr : r < B) : (E * B + (B + r)) / B = E + 1 ∧ (E * B + (B + r)) % B = r := by
  have hB : 0 < B := Nat.lt_of_le_of_lt (Nat.zero_le _) hr
  have e : E * B + (B + r) = r + (E + 1) * B := by rw [Nat.add_mul, Nat.one_mul]; omega
  rw [e, Nat.add_mul_div_right _ _ hB, Nat.div_eq_of_lt hr, Nat.add_mul_mod_self_right, Nat.mod_eq_of_lt hr]
  omega
theorem cut_zero (neg : Bool) (n : Nat) : Toward.even.cut neg n 0 = n := by
  unfold Toward.cut
  simp [Nat.mod_one]
theorem cut_exact (neg : Bool) (q d : Nat) (hq : q ≠ 0) : Toward.even.cut neg (q * 2 ^ d) d = q := by
  have hp := Nat.two_pow_pos d
  have hn : q * 2 ^ d ≠ 0 := fun h => by rcases Nat.mul_eq_zero.1 h with h | h <;> omega
  have hl : d ≤ (q * 2 ^ d).log2 := (Nat.le_log2 hn).2 (Nat.le_mul_of_pos_left _ (Nat.pos_of_ne_zero hq))
  unfold Toward.cut
  simp only [Nat.shiftLeft_eq, Nat.one_mul]
  rw [Nat.min_eq_left (by omega), Nat.mul_div_cancel _ hp, Nat.mul_mod_left]
  have h1 : decide (2 ^ d < 2 * 0) = false := decide_eq_false (by omega)
  have h2 : (2 ^ d == 2 * 0) = false := by simp
  rw [h1, h2]
  rfl
/-- A whole number of few digits is written as it is. -/
theorem exact_word {f : Format} {F K R : Nat} (hf : FmtOk f F K R) (neg : Bool) (mag p n : Nat) (h : mag * 2 ^ p = n * 2 ^ K) (hn : n < 2 ^ (F + 1)) :
    ∃ m j : Nat, f.read (f.nearest neg mag (-(K : Int) + (p : Int))) = .number neg m (-(K : Int) + (j : Int)) ∧ m * 2 ^ j = n * 2 ^ K ∧ m < 2 ^ (F + 1) := by
  obtain ⟨e1, e4, e2, e3, e5, hFK, hKR⟩ := hf
  have hBp := Nat.two_pow_pos F
  have hKp := Nat.two_pow_pos K
  have hpp := Nat.two_pow_pos p
  have hS : 0 < (R + 1) * 2 ^ F := Nat.mul_pos (by omega) hBp
  have hword : ∀ rung, rung < (R + 1) * 2 ^ F → ((f.word neg rung) / f.signWeight % 2 == 1) = neg ∧ (f.word neg rung) % f.signWeight = rung := by
    intro rung hr
    unfold Format.word
    rw [e5]
    cases neg
    · simp [Nat.div_eq_of_lt hr, Nat.mod_eq_of_lt hr]
    · simp only [if_true]
      rw [Nat.add_mod_left, Nat.mod_eq_of_lt hr, Nat.add_div_left _ hS, Nat.div_eq_of_lt hr]
      exact ⟨rfl, rfl⟩
  by_cases h0 : n = 0
  · subst h0
    have hm : mag = 0 := by
      rcases Nat.mul_eq_zero.1 (show mag * 2 ^ p = 0 by rw [h, Nat.zero_mul]) with h | h
      · exact h
      · omega
    subst hm
    unfold Format.nearest
    rw [if_pos rfl]
    obtain ⟨w1, w2⟩ := hword 0 hS
    refine ⟨0, 0, ?_, by simp, Nat.two_pow_pos _⟩
    unfold Format.read
    simp only [w1, w2, e2]
    rw [if_pos hBp, e4]
    simp
  · have hm : mag ≠ 0 := fun hz => by
      subst hz
      rw [Nat.zero_mul] at h
      rcases Nat.mul_eq_zero.1 h.symm with h | h <;> omega
    have l1 := Nat.log2_self_le hm
    have l2 := @Nat.lt_log2_self mag
    have g1 := Nat.log2_self_le h0
    have g2 := @Nat.lt_log2_self n
    have hLp : mag.log2 + p = n.log2 + K := by
      refine log_one (X := mag * 2 ^ p) ?_ ?_ ?_ ?_
      · rw [Nat.pow_add]; exact Nat.mul_le_mul_right _ l1
      · rw [show mag.log2 + p + 1 = mag.log2 + 1 + p by omega, Nat.pow_add]; exact Nat.mul_lt_mul_of_pos_right l2 hpp
      · rw [h, Nat.pow_add]; exact Nat.mul_le_mul_right _ g1
      · rw [h, show n.log2 + K + 1 = n.log2 + 1 + K by omega, Nat.pow_add]; exact Nat.mul_lt_mul_of_pos_right g2 hKp
    have hnF : n.log2 ≤ F := by
      rcases Nat.lt_or_ge F n.log2 with h' | h'
      · have := Nat.pow_le_pow_right (n := 2) (by decide) (show F + 1 ≤ n.log2 from h')
        omega
      · exact h'
    obtain ⟨E, hE⟩ : ∃ E, E + F = n.log2 + K := ⟨n.log2 + K - F, by omega⟩
    have hEK : E ≤ K := by omega
    generalize hln : n.log2 = ln at *
    generalize hlm : mag.log2 = lm at *
    have kge : 2 ^ F ≤ n * 2 ^ (K - E) := by
      have := Nat.mul_le_mul_right (2 ^ (K - E)) g1
      rw [← Nat.pow_add, show ln + (K - E) = F by omega] at this
      exact this
    have klt : n * 2 ^ (K - E) < 2 ^ (F + 1) := by
      have := Nat.mul_lt_mul_of_pos_right g2 (Nat.two_pow_pos (K - E))
      rw [← Nat.pow_add, show ln + 1 + (K - E) = F + 1 by omega] at this
      exact this
    have kE : n * 2 ^ (K - E) * 2 ^ E = n * 2 ^ K := by rw [Nat.mul_assoc, ← Nat.pow_add]; congr 2; omega
    have hlast : max (-(K : Int) + (p : Int) + (lm : Int) - (F : Int)) (-(K : Int)) = -(K : Int) + (E : Int) := by omega
    have hkept : Toward.even.cut neg (mag <<< (-(K : Int) + (p : Int) - (-(K : Int) + (E : Int))).toNat) (-(K : Int) + (E : Int) - (-(K : Int) + (p : Int))).toNat = n * 2 ^ (K - E) := by
      rw [Nat.shiftLeft_eq]
      rcases Nat.lt_or_ge p E with hpe | hpe
      · rw [show (-(K : Int) + (p : Int) - (-(K : Int) + (E : Int))).toNat = 0 by omega, show (-(K : Int) + (E : Int) - (-(K : Int) + (p : Int))).toNat = E - p by omega, Nat.pow_zero, Nat.mul_one]
        have : mag = n * 2 ^ (K - E) * 2 ^ (E - p) := by
          refine Nat.eq_of_mul_eq_mul_right hpp ?_
          rw [h, Nat.mul_assoc (n * 2 ^ (K - E)), ← Nat.pow_add, show E - p + p = E by omega, kE]
        rw [this, cut_exact _ _ _ (by omega)]
      · rw [show (-(K : Int) + (p : Int) - (-(K : Int) + (E : Int))).toNat = p - E by omega, show (-(K : Int) + (E : Int) - (-(K : Int) + (p : Int))).toNat = 0 by omega, cut_zero]
        refine Nat.eq_of_mul_eq_mul_right (Nat.two_pow_pos E) ?_
        rw [kE, Nat.mul_assoc, ← Nat.pow_add, show p - E + E = p by omega, h]
    unfold Format.nearest
    rw [if_neg hm]
    simp only [e1, e4, hlm, hlast, hkept]
    rw [show (-(K : Int) + (E : Int) - -(K : Int)).toNat = E by omega, e2, e3]
    generalize hkk : n * 2 ^ (K - E) = kept at *
    obtain ⟨r, hr⟩ : ∃ r, kept = 2 ^ F + r := ⟨kept - 2 ^ F, by omega⟩
    have hrB : r < 2 ^ F := by rw [Nat.pow_succ] at klt; omega
    have hER : E * 2 ^ F + kept < R * 2 ^ F := by
      have : (E + 2) * 2 ^ F ≤ R * 2 ^ F := Nat.mul_le_mul_right _ (by omega)
      rw [Nat.add_mul] at this
      omega
    have hRS : R * 2 ^ F < (R + 1) * 2 ^ F := by rw [Nat.add_mul, Nat.one_mul]; omega
    rw [Nat.min_eq_left (by omega)]
    obtain ⟨w1, w2⟩ := hword (E * 2 ^ F + kept) (by omega)
    refine ⟨kept, E, ?_, kE, klt⟩
    unfold Format.read
    simp only [w1, w2, e2, e3, e4]
    subst hr
    obtain ⟨q1, q2⟩ := divmod (E := E) hrB
    rw [if_neg (by omega), if_pos hER, q1, q2, show E + 1 - 1 = E by omega]
def sg (s : Bool) (x : Nat) : Int := if s then -(x : Int) else (x : Int)
/-- The digits of a fraction and the scale of a kind of floats. -/
def FF : FloatKind → Nat
  | .f32 => 23
  | .f64 => 52
def KK : FloatKind → Nat
  | .f32 => 149
  | .f64 => 1074
def RR : FloatKind → Nat
  | .f32 => 255
  | .f64 => 2047
theorem okF (k : FloatKind) : FmtOk k.format (FF k) (KK k) (RR k) := by
  cases k
  · exact ok32
  · exact ok64
/-- The word stands for a whole number. -/
def IsI (k : FloatKind) (w : Nat) (n : Int) : Prop := ∃ (s : Bool) (m j : Nat), k.decode w = .number s m (-(KK k : Int) + (j : Int)) ∧ sg s (m * 2 ^ j) = n * 2 ^ KK k ∧ m < 2 ^ (FF k + 1)
theorem sg_abs {s : Bool} {x : Nat} {n : Int} {P : Nat} (h : sg s x = n * (P : Int)) : x = n.natAbs * P := by
  have := congrArg Int.natAbs h
  rw [Int.natAbs_mul, Int.natAbs_natCast] at this
  rw [← this]
  unfold sg
  cases s <;> simp
theorem write_I {k : FloatKind} {neg : Bool} {mag p : Nat} {n : Int} (h : sg neg (mag * 2 ^ p) = n * 2 ^ KK k) (hn : n.natAbs < 2 ^ (FF k + 1)) : IsI k (k.encode (.number neg mag (-(KK k : Int) + (p : Int)))) n := by
  have h' : sg neg (mag * 2 ^ p) = n * ((2 ^ KK k : Nat) : Int) := by rw [h]; congr 1
  obtain ⟨m, j, e, e2, e3⟩ := exact_word (okF k) neg mag p n.natAbs (sg_abs h') hn
  refine ⟨neg, m, j, e, ?_, e3⟩
  rw [e2, ← sg_abs h', h]
theorem int_I {k : FloatKind} {n : Int} (hn : n.natAbs < 2 ^ (FF k + 1)) : IsI k (floatOfInt k n) n := by
  have e : floatOfInt k n = k.encode (.number (decide (n < 0)) n.natAbs (-(KK k : Int) + ((KK k : Nat) : Int))) := by
    rw [Int.add_left_neg]; rfl
  rw [e]
  refine write_I ?_ hn
  have hp : ((n.natAbs * 2 ^ KK k : Nat) : Int) = (n.natAbs : Int) * 2 ^ KK k := by rw [Int.natCast_mul]; congr 1
  unfold sg
  by_cases h : n < 0
  · rw [decide_eq_true h, if_pos rfl, hp, ← Int.neg_mul]
    congr 1
    omega
  · rw [decide_eq_false h, if_neg (by decide), hp]
    congr 1
    omega
theorem base_min (K : Nat) (a b : Nat) : min (-(K : Int) + (a : Int)) (-(K : Int) + (b : Int)) = -(K : Int) + ((min a b : Nat) : Int) := by omega
theorem up_a (K a b : Nat) : (-(K : Int) + (a : Int) - (-(K : Int) + ((min a b : Nat) : Int))).toNat = a - min a b := by omega
theorem up_b (K a b : Nat) : (-(K : Int) + (b : Int) - (-(K : Int) + ((min a b : Nat) : Int))).toNat = b - min a b := by omega
theorem signed_sg (s : Bool) (m u : Nat) : Ieee.signed s m u = sg s (m * 2 ^ u) := by
  unfold Ieee.signed sg
  simp only [Nat.shiftLeft_eq]
theorem sg_mul (s : Bool) (x y : Nat) : sg s (x * y) = sg s x * (y : Int) := by
  unfold sg
  cases s <;> simp [Int.natCast_mul, Int.neg_mul]
theorem sg_not (s : Bool) (x : Nat) : sg (!s) x = - sg s x := by
  unfold sg
  cases s <;> simp
/-- The sum of two data of one scale, as a datum of that scale. -/
theorem sum_I {K : Nat} {s t : Bool} {m n a b : Nat} {x y : Int} (hx : sg s (m * 2 ^ a) = x * 2 ^ K) (hy : sg t (n * 2 ^ b) = y * 2 ^ K) :
    ∃ (neg : Bool) (mag p : Nat), Datum.sum (.number s m (-(K : Int) + (a : Int))) (.number t n (-(K : Int) + (b : Int))) = some (.number neg mag (-(K : Int) + (p : Int))) ∧ sg neg (mag * 2 ^ p) = (x + y) * 2 ^ K := by
  simp only [Datum.sum, base_min, up_a, up_b, signed_sg]
  refine ⟨_, _, min a b, rfl, ?_⟩
  have c1 : sg s (m * 2 ^ a) = sg s (m * 2 ^ (a - min a b)) * ((2 ^ min a b : Nat) : Int) := by
    rw [← sg_mul, Nat.mul_assoc, ← Nat.pow_add]; congr 3; omega
  have c2 : sg t (n * 2 ^ b) = sg t (n * 2 ^ (b - min a b)) * ((2 ^ min a b : Nat) : Int) := by
    rw [← sg_mul, Nat.mul_assoc, ← Nat.pow_add]; congr 3; omega
  rw [Int.add_mul, ← hx, ← hy, c1, c2, ← Int.add_mul, sg_mul]
  congr 1
  generalize sg s (m * 2 ^ (a - min a b)) + sg t (n * 2 ^ (b - min a b)) = v
  unfold sg
  by_cases h : v = 0
  · subst h; simp
  · rw [if_neg h]
    by_cases h2 : v < 0
    · rw [decide_eq_true h2, if_pos rfl]; omega
    · rw [decide_eq_false h2, if_neg (by decide)]; omega
theorem add_I {k : FloatKind} {x y : Nat} {a b : Int} (hx : IsI k x a) (hy : IsI k y b) (h : (a + b).natAbs < 2 ^ (FF k + 1)) : ∃ w, floatBits .add k x y = some w ∧ IsI k w (a + b) := by
  obtain ⟨s, m, i, d1, v1, -⟩ := hx
  obtain ⟨t, n, j, d2, v2, -⟩ := hy
  obtain ⟨neg, mag, p, e1, e2⟩ := sum_I v1 v2
  refine ⟨_, ?_, write_I e2 h⟩
  show (Datum.sum (k.decode x) (k.decode y)).map k.format.write = _
  rw [d1, d2, e1]
  rfl
theorem sub_I {k : FloatKind} {x y : Nat} {a b : Int} (hx : IsI k x a) (hy : IsI k y b) (h : (a - b).natAbs < 2 ^ (FF k + 1)) : ∃ w, floatBits .sub k x y = some w ∧ IsI k w (a - b) := by
  obtain ⟨s, m, i, d1, v1, -⟩ := hx
  obtain ⟨t, n, j, d2, v2, -⟩ := hy
  have v3 : sg (!t) (n * 2 ^ j) = (-b) * 2 ^ KK k := by rw [sg_not, v2, Int.neg_mul]
  obtain ⟨neg, mag, p, e1, e2⟩ := sum_I v1 v3
  rw [← Int.sub_eq_add_neg] at e2
  refine ⟨_, ?_, write_I e2 h⟩
  show (Datum.sum (k.decode x) (k.decode y).opposite).map k.format.write = _
  rw [d1, d2]
  show (Datum.sum _ (.number (!t) n _)).map k.format.write = _
  rw [e1]
  rfl
/-- A number's place is not far below the least digit of whole numbers. -/
theorem place_ge {k : FloatKind} {s : Bool} {m j : Nat} {n : Int} (h : sg s (m * 2 ^ j) = n * 2 ^ KK k) (hm : m < 2 ^ (FF k + 1)) (hn : n ≠ 0) : KK k ≤ j + FF k := by
  have h' : sg s (m * 2 ^ j) = n * ((2 ^ KK k : Nat) : Int) := by rw [h]; congr 1
  have e := sg_abs h'
  rcases Nat.lt_or_ge (j + FF k) (KK k) with hl | hl
  · exfalso
    have h1 : 2 ^ (j + FF k + 1) ≤ 2 ^ KK k := Nat.pow_le_pow_right (by decide) hl
    have h2 : 1 * 2 ^ KK k ≤ n.natAbs * 2 ^ KK k := Nat.mul_le_mul_right _ (by omega)
    have h3 : m * 2 ^ j < 2 ^ (FF k + 1) * 2 ^ j := Nat.mul_lt_mul_of_pos_right hm (Nat.two_pow_pos j)
    rw [← Nat.pow_add, show FF k + 1 + j = j + FF k + 1 by omega] at h3
    omega
  · exact hl
theorem sg_prod (s t : Bool) (x y : Nat) : sg (s ^^ t) (x * y) = sg s x * sg t y := by
  unfold sg
  cases s <;> cases t <;> simp [Int.natCast_mul, Int.neg_mul, Int.mul_neg]
theorem kf (k : FloatKind) : 2 * FF k ≤ KK k := by cases k <;> decide
theorem sg_zero {s : Bool} {x : Nat} (h : sg s x = 0) : x = 0 := by
  unfold sg at h
  cases s <;> simp at h <;> omega
theorem zero_I (k : FloatKind) (neg : Bool) (place : Int) : IsI k (k.encode (.number neg 0 place)) 0 := by
  have e : k.encode (.number neg 0 place) = k.encode (.number neg 0 (-(KK k : Int) + ((0 : Nat) : Int))) := by
    show k.format.nearest neg 0 place = k.format.nearest neg 0 (-(KK k : Int) + ((0 : Nat) : Int))
    unfold Format.nearest
    rw [if_pos rfl, if_pos rfl]
  rw [e]
  exact write_I (by simp [sg]) (Nat.two_pow_pos _)
theorem mul_I {k : FloatKind} {x y : Nat} {a b : Int} (hx : IsI k x a) (hy : IsI k y b) (h : (a * b).natAbs < 2 ^ (FF k + 1)) : ∃ w, floatBits .mul k x y = some w ∧ IsI k w (a * b) := by
  obtain ⟨s, m, i, d1, v1, m1⟩ := hx
  obtain ⟨t, n, j, d2, v2, n1⟩ := hy
  have hK : ((2 : Int) ^ KK k) ≠ 0 := by
    have := Nat.two_pow_pos (KK k)
    have e : ((2 : Int) ^ KK k) = ((2 ^ KK k : Nat) : Int) := by simp
    rw [e]; omega
  refine ⟨k.encode (.number (s ^^ t) (m * n) (-(KK k : Int) + (i : Int) + (-(KK k : Int) + (j : Int)))), ?_, ?_⟩
  · show (Datum.product (k.decode x) (k.decode y)).map k.format.write = _
    rw [d1, d2]
    rfl
  · by_cases hz : a = 0 ∨ b = 0
    · have hmn : m * n = 0 := by
        rcases hz with hz | hz
        · subst hz
          rw [Int.zero_mul] at v1
          rcases Nat.mul_eq_zero.1 (sg_zero v1) with h | h
          · rw [h, Nat.zero_mul]
          · have := Nat.two_pow_pos i; omega
        · subst hz
          rw [Int.zero_mul] at v2
          rcases Nat.mul_eq_zero.1 (sg_zero v2) with h | h
          · rw [h, Nat.mul_zero]
          · have := Nat.two_pow_pos j; omega
      have hab : a * b = 0 := by rcases hz with hz | hz <;> simp [hz]
      rw [hmn, hab]
      exact zero_I k _ _
    · have ha : a ≠ 0 := fun h => hz (.inl h)
      have hb : b ≠ 0 := fun h => hz (.inr h)
      have g1 := place_ge v1 m1 ha
      have g2 := place_ge v2 n1 hb
      have g3 := kf k
      obtain ⟨p, hp⟩ : ∃ p, i + j = KK k + p := ⟨i + j - KK k, by omega⟩
      rw [show -(KK k : Int) + (i : Int) + (-(KK k : Int) + (j : Int)) = -(KK k : Int) + (p : Int) by omega]
      refine write_I ?_ h
      have e1 : sg (s ^^ t) (m * 2 ^ i * (n * 2 ^ j)) = a * 2 ^ KK k * (b * 2 ^ KK k) := by rw [sg_prod, v1, v2]
      have e2 : m * 2 ^ i * (n * 2 ^ j) = m * n * 2 ^ p * 2 ^ KK k := by
        have : m * 2 ^ i * (n * 2 ^ j) = m * n * (2 ^ i * 2 ^ j) := by simp only [Nat.mul_assoc, Nat.mul_left_comm]
        rw [this, ← Nat.pow_add, hp, Nat.add_comm, Nat.pow_add]
        simp only [Nat.mul_assoc]
      rw [e2, sg_mul] at e1
      have e3 : ((2 ^ KK k : Nat) : Int) = (2 : Int) ^ KK k := by simp
      rw [e3] at e1
      have e4 : a * 2 ^ KK k * (b * 2 ^ KK k) = a * b * 2 ^ KK k * 2 ^ KK k := by simp only [Int.mul_assoc, Int.mul_left_comm]
      rw [e4] at e1
      exact Int.eq_of_mul_eq_mul_right hK e1
theorem eq_I {k : FloatKind} {x y : Nat} {a : Int} (hx : IsI k x a) (hy : IsI k y a) : (k.format.order x y == some .eq) = true := by
  obtain ⟨s, m, i, d1, v1, -⟩ := hx
  obtain ⟨t, n, j, d2, v2, -⟩ := hy
  have c1 : sg s (m * 2 ^ i) = sg s (m * 2 ^ (i - min i j)) * ((2 ^ min i j : Nat) : Int) := by
    rw [← sg_mul, Nat.mul_assoc, ← Nat.pow_add]; congr 3; omega
  have c2 : sg t (n * 2 ^ j) = sg t (n * 2 ^ (j - min i j)) * ((2 ^ min i j : Nat) : Int) := by
    rw [← sg_mul, Nat.mul_assoc, ← Nat.pow_add]; congr 3; omega
  have hp : ((2 ^ min i j : Nat) : Int) ≠ 0 := by have := Nat.two_pow_pos (min i j); omega
  have e : sg s (m * 2 ^ (i - min i j)) = sg t (n * 2 ^ (j - min i j)) := by
    refine Int.eq_of_mul_eq_mul_right hp ?_
    rw [← c1, ← c2, v1, v2]
  have ho : k.format.order x y = some (compare (sg s (m * 2 ^ (i - min i j))) (sg t (n * 2 ^ (j - min i j)))) := by
    show Datum.order (k.decode x) (k.decode y) = _
    rw [d1, d2]
    simp only [Datum.order, base_min, up_a, up_b, signed_sg]
  rw [ho, e]
  have : compare (sg t (n * 2 ^ (j - min i j))) (sg t (n * 2 ^ (j - min i j))) = .eq := by simp
  rw [this]
  rfl
theorem noinf {k : FloatKind} {w : Nat} {n : Int} (h : IsI k w n) : (k.decode w).isInfinity = false := by
  obtain ⟨s, m, j, d, -⟩ := h
  rw [d]
  rfl
theorem kk_diff : ∃ D, KK .f64 = KK .f32 + D ∧ D + FF .f64 ≤ KK .f64 := ⟨925, rfl, by decide⟩
theorem widen_I {x : Nat} {a : Int} (hx : IsI .f32 x a) (h : a.natAbs < 2 ^ 24) : ∃ w, floatToFloatBits .f32 x .f64 = some w ∧ IsI .f64 w a := by
  obtain ⟨s, m, j, d, v, -⟩ := hx
  obtain ⟨D, hk, -⟩ := kk_diff
  have hw : IsI .f64 (FloatKind.f64.encode (.number s m (-(KK .f32 : Int) + (j : Int)))) a := by
    rw [show -(KK .f32 : Int) + (j : Int) = -(KK .f64 : Int) + ((j + D : Nat) : Int) by omega]
    refine write_I ?_ (Nat.lt_of_lt_of_le h (by decide))
    rw [hk, Nat.pow_add, ← Nat.mul_assoc, sg_mul, v, Int.pow_add, Int.mul_assoc, Int.natCast_pow]
    rfl
  refine ⟨_, ?_, hw⟩
  unfold floatToFloatBits
  rw [if_neg (by decide), d]
  simp only
  rw [if_neg (by rw [noinf hw]; decide)]
theorem narrow_I {x : Nat} {a : Int} (hx : IsI .f64 x a) (h : a.natAbs < 2 ^ 24) : ∃ w, floatToFloatBits .f64 x .f32 = some w ∧ IsI .f32 w a := by
  obtain ⟨s, m, j, d, v, hm⟩ := hx
  obtain ⟨D, hk, hD⟩ := kk_diff
  have hw : IsI .f32 (FloatKind.f32.encode (.number s m (-(KK .f64 : Int) + (j : Int)))) a := by
    by_cases ha : a = 0
    · subst ha
      rw [Int.zero_mul] at v
      have : m = 0 := by
        rcases Nat.mul_eq_zero.1 (sg_zero v) with h | h
        · exact h
        · have := Nat.two_pow_pos j; omega
      rw [this]
      exact zero_I _ _ _
    · have g := place_ge v hm ha
      obtain ⟨p, hp⟩ : ∃ p, j = p + D := ⟨j - D, by omega⟩
      rw [show -(KK .f64 : Int) + (j : Int) = -(KK .f32 : Int) + (p : Int) by omega]
      refine write_I ?_ h
      rw [hp, hk, Nat.pow_add, ← Nat.mul_assoc, sg_mul, Int.pow_add, ← Int.mul_assoc] at v
      have e3 : ((2 ^ D : Nat) : Int) = (2 : Int) ^ D := Int.natCast_pow 2 D
      rw [← e3] at v
      refine Int.eq_of_mul_eq_mul_right ?_ v
      have := Nat.two_pow_pos D
      omega
  refine ⟨_, ?_, hw⟩
  unfold floatToFloatBits
  rw [if_neg (by decide), d]
  simp only
  rw [if_neg (by rw [noinf hw]; decide)]
end Go.Proofs.Ytncckihaacceaaa.PlainP
