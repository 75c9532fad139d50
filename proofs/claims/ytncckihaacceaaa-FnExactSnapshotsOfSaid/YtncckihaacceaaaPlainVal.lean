/-
  Floats as whole multiples of the least one: sums, products and conversions are off from the exact ones by a small part.
-/
import Derived.Test.YtncckihaacceaaaPlainNear
namespace Go.Proofs.Ytncckihaacceaaa.PlainP
open Ieee Go.Proofs.YtncckihaacceaaaW.PrintWords

/-- The word stands for v times the least number above 0. -/
def IsV (k : FloatKind) (w : Nat) (v : Int) : Prop := ∃ (s : Bool) (m j : Nat), k.decode w = .number s m (-(KK k : Int) + (j : Int)) ∧ sg s (m * 2 ^ j) = v ∧ m < 2 ^ (FF k + 1)
/-- v is off from x by at most the 2^-F-th part of x. -/
def Off (F : Nat) (v x : Int) : Prop := (v - x).natAbs * 2 ^ F ≤ x.natAbs
theorem off_sg {F V X : Nat} (s : Bool) (h : NearR F V X) : Off F (sg s V) (sg s X) := by
  obtain ⟨h1, h2⟩ := h
  unfold Off
  have e1 : (sg s X).natAbs = X := by unfold sg; cases s <;> simp
  rw [e1]
  rcases Nat.le_total X V with hv | hv
  · obtain ⟨d, rfl⟩ : ∃ d, V = X + d := ⟨V - X, by omega⟩
    have : (sg s (X + d) - sg s X).natAbs = d := by unfold sg; cases s <;> simp <;> omega
    rw [this]
    rw [Nat.add_mul] at h1
    omega
  · obtain ⟨d, rfl⟩ : ∃ d, X = V + d := ⟨X - V, by omega⟩
    have : (sg s V - sg s (V + d)).natAbs = d := by unfold sg; cases s <;> simp <;> omega
    rw [this]
    rw [Nat.add_mul] at h2
    omega
theorem isI_V {k : FloatKind} {w : Nat} {n : Int} (h : IsI k w n) : IsV k w (n * 2 ^ KK k) := h
theorem write_V {k : FloatKind} {neg : Bool} {mag p : Nat} {x : Int} (G : Nat) (hG : G + 2 ≤ RR k) (h : sg neg (mag * 2 ^ p) = x) (hn : mag * 2 ^ p < 2 ^ (FF k + G)) :
    ∃ v, IsV k (k.encode (.number neg mag (-(KK k : Int) + (p : Int)))) v ∧ Off (FF k) v x := by
  obtain ⟨m, j, e, e2, e3, -⟩ := near_word (okF k) neg mag p G hG hn
  exact ⟨_, ⟨neg, m, j, e, rfl, e3⟩, h ▸ off_sg neg e2⟩
theorem sg_natAbs (s : Bool) (x : Nat) : (sg s x).natAbs = x := by unfold sg; cases s <;> simp
theorem sum_V {K : Nat} {s t : Bool} {m n a b : Nat} {x y : Int} (hx : sg s (m * 2 ^ a) = x) (hy : sg t (n * 2 ^ b) = y) :
    ∃ (neg : Bool) (mag p : Nat), Datum.sum (.number s m (-(K : Int) + (a : Int))) (.number t n (-(K : Int) + (b : Int))) = some (.number neg mag (-(K : Int) + (p : Int))) ∧ sg neg (mag * 2 ^ p) = x + y := by
  simp only [Datum.sum, base_min, up_a, up_b, signed_sg]
  refine ⟨_, _, min a b, rfl, ?_⟩
  have c1 : sg s (m * 2 ^ a) = sg s (m * 2 ^ (a - min a b)) * ((2 ^ min a b : Nat) : Int) := by
    rw [← sg_mul, Nat.mul_assoc, ← Nat.pow_add]; congr 3; omega
  have c2 : sg t (n * 2 ^ b) = sg t (n * 2 ^ (b - min a b)) * ((2 ^ min a b : Nat) : Int) := by
    rw [← sg_mul, Nat.mul_assoc, ← Nat.pow_add]; congr 3; omega
  rw [← hx, ← hy, c1, c2, ← Int.add_mul, sg_mul]
  congr 1
  generalize sg s (m * 2 ^ (a - min a b)) + sg t (n * 2 ^ (b - min a b)) = v
  unfold sg
  by_cases h : v = 0
  · subst h; simp
  · rw [if_neg h]
    by_cases h2 : v < 0
    · rw [decide_eq_true h2, if_pos rfl]; omega
    · rw [decide_eq_false h2, if_neg (by decide)]; omega
theorem add_V {k : FloatKind} {x y : Nat} {a b : Int} (G : Nat) (hG : G + 2 ≤ RR k) (hx : IsV k x a) (hy : IsV k y b) (h : (a + b).natAbs < 2 ^ (FF k + G)) : ∃ w c, floatBits .add k x y = some w ∧ IsV k w c ∧ Off (FF k) c (a + b) := by
  obtain ⟨s, m, i, d1, v1, -⟩ := hx
  obtain ⟨t, n, j, d2, v2, -⟩ := hy
  obtain ⟨neg, mag, p, e1, e2⟩ := sum_V (K := KK k) v1 v2
  obtain ⟨c, hc, ho⟩ := write_V G hG e2 (by rw [← sg_natAbs neg (mag * 2 ^ p), e2]; exact h)
  refine ⟨_, c, ?_, hc, ho⟩
  show (Datum.sum (k.decode x) (k.decode y)).map k.format.write = _
  rw [d1, d2, e1]
  rfl
theorem sub_V {k : FloatKind} {x y : Nat} {a b : Int} (G : Nat) (hG : G + 2 ≤ RR k) (hx : IsV k x a) (hy : IsV k y b) (h : (a - b).natAbs < 2 ^ (FF k + G)) : ∃ w c, floatBits .sub k x y = some w ∧ IsV k w c ∧ Off (FF k) c (a - b) := by
  obtain ⟨s, m, i, d1, v1, -⟩ := hx
  obtain ⟨t, n, j, d2, v2, -⟩ := hy
  have v3 : sg (!t) (n * 2 ^ j) = -b := by rw [sg_not, v2]
  obtain ⟨neg, mag, p, e1, e2⟩ := sum_V (K := KK k) v1 v3
  rw [← Int.sub_eq_add_neg] at e2
  obtain ⟨c, hc, ho⟩ := write_V G hG e2 (by rw [← sg_natAbs neg (mag * 2 ^ p), e2]; exact h)
  refine ⟨_, c, ?_, hc, ho⟩
  show (Datum.sum (k.decode x) (k.decode y).opposite).map k.format.write = _
  rw [d1, d2]
  show (Datum.sum _ (.number (!t) n _)).map k.format.write = _
  rw [e1]
  rfl
/-- A number that is not small does not begin far down. -/
theorem place_V {k : FloatKind} {s : Bool} {m j A : Nat} {a : Int} (h : sg s (m * 2 ^ j) = a) (hm : m < 2 ^ (FF k + 1)) (hA : 2 ^ A ≤ a.natAbs) : A ≤ j + FF k := by
  rcases Nat.lt_or_ge (j + FF k) A with hl | hl
  · exfalso
    have h1 : 2 ^ (j + FF k + 1) ≤ 2 ^ A := Nat.pow_le_pow_right (by decide) hl
    have h3 : m * 2 ^ j < 2 ^ (FF k + 1) * 2 ^ j := Nat.mul_lt_mul_of_pos_right hm (Nat.two_pow_pos j)
    rw [← Nat.pow_add, show FF k + 1 + j = j + FF k + 1 by omega] at h3
    have h4 := sg_natAbs s (m * 2 ^ j)
    rw [h] at h4
    omega
  · exact hl
theorem zero_V (k : FloatKind) (neg : Bool) (place : Int) : IsV k (k.encode (.number neg 0 place)) 0 := by
  have := isI_V (zero_I k neg place)
  rwa [Int.zero_mul] at this
/-- A product: c times the scale is off from a times b by a small part. -/
theorem mul_V {k : FloatKind} {x y : Nat} {a b : Int} (G A B : Nat) (hG : G + 2 ≤ RR k) (hAB : KK k + 2 * FF k ≤ A + B) (hx : IsV k x a) (hy : IsV k y b) (hA : a = 0 ∨ 2 ^ A ≤ a.natAbs) (hB : b = 0 ∨ 2 ^ B ≤ b.natAbs) (h : (a * b).natAbs < 2 ^ (FF k + G + KK k)) :
    ∃ w c, floatBits .mul k x y = some w ∧ IsV k w c ∧ Off (FF k) (c * ((2 ^ KK k : Nat) : Int)) (a * b) := by
  obtain ⟨s, m, i, d1, v1, m1⟩ := hx
  obtain ⟨t, n, j, d2, v2, n1⟩ := hy
  have hf : floatBits .mul k x y = some (k.encode (.number (s ^^ t) (m * n) (-(KK k : Int) + (i : Int) + (-(KK k : Int) + (j : Int))))) := by
    show (Datum.product (k.decode x) (k.decode y)).map k.format.write = _
    rw [d1, d2]
    rfl
  by_cases hz : a = 0 ∨ b = 0
  · have hmn : m * n = 0 := by
      rcases hz with hz | hz
      · subst hz
        rcases Nat.mul_eq_zero.1 (sg_zero v1) with h | h
        · rw [h, Nat.zero_mul]
        · have := Nat.two_pow_pos i; omega
      · subst hz
        rcases Nat.mul_eq_zero.1 (sg_zero v2) with h | h
        · rw [h, Nat.mul_zero]
        · have := Nat.two_pow_pos j; omega
    have hab : a * b = 0 := by rcases hz with hz | hz <;> simp [hz]
    rw [hmn] at hf
    refine ⟨_, 0, hf, zero_V k _ _, ?_⟩
    rw [hab, Int.zero_mul]
    exact Nat.le_of_eq (by simp)
  · have g1 := place_V v1 m1 (hA.resolve_left (fun h => hz (.inl h)))
    have g2 := place_V v2 n1 (hB.resolve_left (fun h => hz (.inr h)))
    obtain ⟨p, hp⟩ : ∃ p, i + j = KK k + p := ⟨i + j - KK k, by omega⟩
    rw [show -(KK k : Int) + (i : Int) + (-(KK k : Int) + (j : Int)) = -(KK k : Int) + (p : Int) by omega] at hf
    have e1 : sg (s ^^ t) (m * 2 ^ i * (n * 2 ^ j)) = a * b := by rw [sg_prod, v1, v2]
    have e2 : m * 2 ^ i * (n * 2 ^ j) = m * n * 2 ^ p * 2 ^ KK k := by
      have : m * 2 ^ i * (n * 2 ^ j) = m * n * (2 ^ i * 2 ^ j) := by simp only [Nat.mul_assoc, Nat.mul_left_comm]
      rw [this, ← Nat.pow_add, hp, Nat.add_comm, Nat.pow_add]
      simp only [Nat.mul_assoc]
    rw [e2, sg_mul] at e1
    have hlt : m * n * 2 ^ p < 2 ^ (FF k + G) := by
      have := congrArg Int.natAbs e1
      rw [Int.natAbs_mul, sg_natAbs, Int.natAbs_natCast] at this
      rw [← this, Nat.pow_add] at h
      exact Nat.lt_of_mul_lt_mul_right h
    obtain ⟨c, hc, ho⟩ := write_V (k := k) (neg := s ^^ t) G hG rfl hlt
    refine ⟨_, c, hf, hc, ?_⟩
    unfold Off at ho ⊢
    rw [← e1, ← Int.sub_mul, Int.natAbs_mul, Int.natAbs_mul, Int.natAbs_natCast, Nat.mul_assoc, Nat.mul_comm (2 ^ KK k), ← Nat.mul_assoc]
    exact Nat.mul_le_mul_right _ ho
theorem noinfV {k : FloatKind} {w : Nat} {n : Int} (h : IsV k w n) : (k.decode w).isInfinity = false := by
  obtain ⟨s, m, j, d, -⟩ := h
  rw [d]
  rfl
/-- A float32 as a float64: the same number. -/
theorem widen_V {x : Nat} {a : Int} (hx : IsV .f32 x a) (ha : a.natAbs < 2 ^ 200) : ∃ w, floatToFloatBits .f32 x .f64 = some w ∧ IsV .f64 w (a * ((2 ^ 925 : Nat) : Int)) := by
  obtain ⟨s, m, j, d, v, hm⟩ := hx
  obtain ⟨D, hD⟩ : ∃ D, D = 925 := ⟨_, rfl⟩
  have hK : (KK .f64 : Int) = (KK .f32 : Int) + (D : Int) := by rw [hD]; rfl
  rw [← hD]
  have hn : m * 2 ^ (j + D) = m * 2 ^ j * 2 ^ D := by rw [Nat.pow_add, Nat.mul_assoc]
  have hs : sg s (m * 2 ^ (j + D)) = a * ((2 ^ D : Nat) : Int) := by rw [hn, sg_mul, v]
  have hj : j ≤ 200 ∨ m = 0 := by
    rcases Nat.eq_zero_or_pos m with h | h
    · exact .inr h
    · refine .inl ?_
      rcases Nat.lt_or_ge 200 j with h1 | h1
      · exfalso
        have h2 := sg_natAbs s (m * 2 ^ j)
        rw [v] at h2
        have h3 : 2 ^ 200 ≤ 2 ^ j := Nat.pow_le_pow_right (by decide) (Nat.le_of_lt h1)
        have h4 : 1 * 2 ^ j ≤ m * 2 ^ j := Nat.mul_le_mul_right _ h
        omega
      · exact h1
  have hw : ∃ m' j' : Nat, FloatKind.f64.decode (FloatKind.f64.encode (.number s m (-(KK .f32 : Int) + (j : Int)))) = .number s m' (-(KK .f64 : Int) + (j' : Int)) ∧ m' * 2 ^ j' = m * 2 ^ (j + D) ∧ m' < 2 ^ (FF .f64 + 1) := by
    rw [show -(KK .f32 : Int) + (j : Int) = -(KK .f64 : Int) + ((j + D : Nat) : Int) by omega]
    rcases hj with hj | hj
    · have hlt : m * 2 ^ (j + D) < 2 ^ (FF .f64 + 1100) := by
        have h1 : m * 2 ^ (j + D) < 2 ^ (FF .f32 + 1) * 2 ^ (j + D) := Nat.mul_lt_mul_of_pos_right hm (Nat.two_pow_pos _)
        rw [← Nat.pow_add] at h1
        have hF1 : FF .f32 = 23 := rfl
        have hF2 : FF .f64 = 52 := rfl
        exact Nat.lt_of_lt_of_le h1 (Nat.pow_le_pow_right (by decide) (by omega))
      obtain ⟨m', j', q1, -, q3, q4⟩ := near_word (okF .f64) s m (j + D) 1100 (by decide) hlt
      exact ⟨m', j', q1, q4 (Nat.lt_of_lt_of_le hm (by decide)), q3⟩
    · subst hj
      obtain ⟨m', j', q1, -, q3, q4⟩ := near_word (okF .f64) s 0 (j + D) 1100 (by decide) (by rw [Nat.zero_mul]; exact Nat.two_pow_pos _)
      exact ⟨m', j', q1, q4 (Nat.two_pow_pos _), q3⟩
  obtain ⟨m', j', e1, e2, e3⟩ := hw
  have hV : IsV .f64 (FloatKind.f64.encode (.number s m (-(KK .f32 : Int) + (j : Int)))) (a * ((2 ^ D : Nat) : Int)) := ⟨s, m', j', e1, by rw [e2, hs], e3⟩
  refine ⟨_, ?_, hV⟩
  unfold floatToFloatBits
  rw [if_neg (by decide), d]
  simp only
  rw [if_neg (by rw [noinfV hV]; decide)]
/-- A float64 that is not small, as a float32: off by a small part. -/
theorem narrow_V {x : Nat} {a : Int} (G : Nat) (hG : G + 2 ≤ RR .f32) (hx : IsV .f64 x a) (hA : a = 0 ∨ 2 ^ 977 ≤ a.natAbs) (h : a.natAbs < 2 ^ (FF .f32 + G + 925)) :
    ∃ w c, floatToFloatBits .f64 x .f32 = some w ∧ IsV .f32 w c ∧ Off (FF .f32) (c * ((2 ^ 925 : Nat) : Int)) a := by
  obtain ⟨s, m, j, d, v, hm⟩ := hx
  obtain ⟨D, hD⟩ : ∃ D, D = 925 := ⟨_, rfl⟩
  obtain ⟨B, hB⟩ : ∃ B, B = 977 := ⟨_, rfl⟩
  rw [← hD] at h ⊢
  rw [← hB] at hA
  have hK : (KK .f64 : Int) = (KK .f32 : Int) + (D : Int) := by rw [hD]; rfl
  have hF : B = D + FF .f64 := by rw [hB, hD]; rfl
  have key : ∃ c, IsV .f32 (FloatKind.f32.encode (.number s m (-(KK .f64 : Int) + (j : Int)))) c ∧ Off (FF .f32) (c * ((2 ^ D : Nat) : Int)) a := by
    rcases hA with hA | hA
    · subst hA
      have hm0 : m = 0 := by
        rcases Nat.mul_eq_zero.1 (sg_zero v) with h | h
        · exact h
        · have := Nat.two_pow_pos j; omega
      rw [hm0]
      refine ⟨0, zero_V _ _ _, ?_⟩
      rw [Int.zero_mul]
      exact Nat.le_of_eq (by simp)
    · have g := place_V v hm hA
      obtain ⟨p, hp⟩ : ∃ p, j = p + D := ⟨j - D, by omega⟩
      rw [show -(KK .f64 : Int) + (j : Int) = -(KK .f32 : Int) + (p : Int) by omega]
      rw [hp, Nat.pow_add, ← Nat.mul_assoc, sg_mul] at v
      have hlt : m * 2 ^ p < 2 ^ (FF .f32 + G) := by
        have := congrArg Int.natAbs v
        rw [Int.natAbs_mul, sg_natAbs, Int.natAbs_natCast] at this
        rw [← this, Nat.pow_add] at h
        exact Nat.lt_of_mul_lt_mul_right h
      obtain ⟨c, hc, ho⟩ := write_V (k := .f32) (neg := s) G hG rfl hlt
      refine ⟨c, hc, ?_⟩
      unfold Off at ho ⊢
      rw [← v, ← Int.sub_mul, Int.natAbs_mul, Int.natAbs_mul, Int.natAbs_natCast, Nat.mul_assoc, Nat.mul_comm (2 ^ D), ← Nat.mul_assoc]
      exact Nat.mul_le_mul_right _ ho
  obtain ⟨c, hc, ho⟩ := key
  refine ⟨_, c, ?_, hc, ho⟩
  unfold floatToFloatBits
  rw [if_neg (by decide), d]
  simp only
  rw [if_neg (by rw [noinfV hc]; decide)]
/-- How two floats stand to each other. -/
theorem order_V {k : FloatKind} {x y : Nat} {a b : Int} (hx : IsV k x a) (hy : IsV k y b) : k.format.order x y = some (compare a b) := by
  obtain ⟨s, m, i, d1, v1, -⟩ := hx
  obtain ⟨t, n, j, d2, v2, -⟩ := hy
  have c1 : sg s (m * 2 ^ i) = sg s (m * 2 ^ (i - min i j)) * ((2 ^ min i j : Nat) : Int) := by
    rw [← sg_mul, Nat.mul_assoc, ← Nat.pow_add]; congr 3; omega
  have c2 : sg t (n * 2 ^ j) = sg t (n * 2 ^ (j - min i j)) * ((2 ^ min i j : Nat) : Int) := by
    rw [← sg_mul, Nat.mul_assoc, ← Nat.pow_add]; congr 3; omega
  have hp : 0 < ((2 ^ min i j : Nat) : Int) := by have := Nat.two_pow_pos (min i j); omega
  have ho : k.format.order x y = some (compare (sg s (m * 2 ^ (i - min i j))) (sg t (n * 2 ^ (j - min i j)))) := by
    show Datum.order (k.decode x) (k.decode y) = _
    rw [d1, d2]
    simp only [Datum.order, base_min, up_a, up_b, signed_sg]
  rw [ho, ← v1, ← v2, c1, c2]
  generalize sg s (m * 2 ^ (i - min i j)) = u
  generalize sg t (n * 2 ^ (j - min i j)) = w
  generalize ((2 ^ min i j : Nat) : Int) = P at hp
  congr 1
  rcases Int.lt_trichotomy u w with h | h | h
  · have h2 : u * P < w * P := Int.mul_lt_mul_of_pos_right h hp
    rw [Int.compare_eq_lt.2 h, Int.compare_eq_lt.2 h2]
  · rw [h]; simp
  · have h2 : w * P < u * P := Int.mul_lt_mul_of_pos_right h hp
    rw [Int.compare_eq_gt.2 h, Int.compare_eq_gt.2 h2]
end Go.Proofs.Ytncckihaacceaaa.PlainP
