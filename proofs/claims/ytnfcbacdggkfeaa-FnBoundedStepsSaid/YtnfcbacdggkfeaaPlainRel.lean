/-
  Numbers that differ by a small part, counted in 2^-20-th parts: products, sums, squares, chains.
-/
import Derived.Test.YtnfcbacdggkfeaaPlainQuo
namespace Go.Proofs.Ytnfcbacdggkfeaa.PlainP

/-- X differs from Y by at most t of Y's E-th parts. -/
def RelE (E t X Y : Nat) : Prop := X * E ≤ Y * (E + t) ∧ Y * (E - t) ≤ X * E
theorem RelE.self {E : Nat} (X : Nat) : RelE E 0 X X := ⟨Nat.le_refl _, Nat.le_refl _⟩
theorem RelE.mono {E t s X Y : Nat} (h : RelE E t X Y) (hs : t ≤ s) : RelE E s X Y :=
  ⟨Nat.le_trans h.1 (Nat.mul_le_mul_left _ (by omega)), Nat.le_trans (Nat.mul_le_mul_left _ (by omega)) h.2⟩
theorem RelE.add {E t X Y X' Y' : Nat} (h : RelE E t X Y) (h' : RelE E t X' Y') : RelE E t (X + X') (Y + Y') := by
  obtain ⟨a, b⟩ := h
  obtain ⟨c, d⟩ := h'
  unfold RelE
  simp only [Nat.add_mul]
  omega
theorem RelE.mul {E t s X Y X' Y' : Nat} (hE : 1010000 ≤ E) (h : RelE E t X Y) (h' : RelE E s X' Y') (ht : t ≤ 1000) (hs : s ≤ 1000) : RelE E (t + s + 1) (X * X') (Y * Y') := by
  obtain ⟨a, b⟩ := h
  obtain ⟨c, d⟩ := h'
  have m1 := Nat.mul_le_mul a c
  have m2 := Nat.mul_le_mul b d
  have e1 : X * E * (X' * E) = X * X' * E * E := by grind
  have e2 : Y * (E + t) * (Y' * (E + s)) = Y * Y' * ((E + t) * (E + s)) := by grind
  have e3 : Y * (E - t) * (Y' * (E - s)) = Y * Y' * ((E - t) * (E - s)) := by simp only [Nat.mul_assoc, Nat.mul_left_comm]
  rw [e1, e2] at m1
  rw [e1, e3] at m2
  have hts : t * s ≤ 1000 * 1000 := Nat.mul_le_mul ht hs
  constructor
  · refine Nat.le_of_mul_le_mul_right (c := E) ?_ (by omega)
    refine Nat.le_trans m1 ?_
    rw [Nat.mul_assoc (Y * Y')]
    refine Nat.mul_le_mul_left _ ?_
    have e4 : (E + t) * (E + s) = E * E + (t + s) * E + t * s := by grind
    have e5 : (E + (t + s + 1)) * E = E * E + (t + s) * E + E := by grind
    omega
  · refine Nat.le_of_mul_le_mul_right (c := E) ?_ (by omega)
    refine Nat.le_trans ?_ m2
    rw [Nat.mul_assoc (Y * Y')]
    refine Nat.mul_le_mul_left _ ?_
    obtain ⟨u, hu⟩ : ∃ u, E = t + u := ⟨E - t, by omega⟩
    obtain ⟨v, hv⟩ : ∃ v, E = s + v := ⟨E - s, by omega⟩
    rw [show E - t = u by omega, show E - s = v by omega]
    have h1 : u * v + s * u + t * E = E * E := by
      have : (t + u) * (s + v) = E * E := by rw [← hu, ← hv]
      have h2 : t * (s + v) = t * E := by rw [← hv]
      have h3 : (t + u) * (s + v) = t * (s + v) + u * v + s * u := by grind
      omega
    have h4 : s * u ≤ s * E := Nat.mul_le_mul_left _ (by omega)
    have h5 : (E - (t + s + 1)) * E = E * E - (t * E + s * E + E) := by rw [Nat.sub_mul]; congr 1; grind
    omega
theorem RelE.sq {E t X Y : Nat} (hE : 1010000 ≤ E) (h : RelE E t X Y) (ht : t ≤ 1000) : RelE E (t + t + 1) (X * X) (Y * Y) := h.mul hE h ht ht
theorem RelE.trans {E t s X Y Z : Nat} (hE : 1010000 ≤ E) (h : RelE E t X Y) (h' : RelE E s Y Z) (ht : t ≤ 1000) (hs : s ≤ 1000) : RelE E (t + s + 1) X Z := by
  rcases Nat.eq_zero_or_pos Y with hY | hY
  · subst hY
    obtain ⟨a, b⟩ := h
    obtain ⟨c, d⟩ := h'
    have hX : X = 0 := by
      rw [Nat.zero_mul] at a
      rcases Nat.mul_eq_zero.1 (Nat.le_zero.1 a) with h | h
      · exact h
      · omega
    have hZ : Z = 0 := by
      rw [Nat.zero_mul] at d
      rcases Nat.mul_eq_zero.1 (Nat.le_zero.1 d) with h | h
      · exact h
      · omega
    subst hX
    subst hZ
    exact ⟨by simp, by simp⟩
  · have h1 := h.mul hE h' ht hs
    have key : ∀ {A B : Nat}, A * Y ≤ B * Y → A ≤ B := fun h => Nat.le_of_mul_le_mul_right h hY
    obtain ⟨a, b⟩ := h1
    refine ⟨key ?_, key ?_⟩
    · have e1 : X * E * Y = X * Y * E := by grind
      have e2 : Z * (E + (t + s + 1)) * Y = Y * Z * (E + (t + s + 1)) := by grind
      rw [e1, e2]
      exact a
    · have e1 : X * E * Y = X * Y * E := by grind
      have e2 : Z * (E - (t + s + 1)) * Y = Y * Z * (E - (t + s + 1)) := by generalize E - (t + s + 1) = q; grind
      rw [e1, e2]
      exact b
theorem RelE.symm {E t X Y : Nat} (hE : 1010000 ≤ E) (h : RelE E t X Y) (ht : t ≤ 1000) : RelE E (t + 1) Y X := by
  obtain ⟨a, b⟩ := h
  obtain ⟨u, hu⟩ : ∃ u, E = t + u := ⟨E - t, by omega⟩
  have htt : t * t ≤ 1000 * 1000 := Nat.mul_le_mul ht ht
  constructor
  · refine Nat.le_of_mul_le_mul_right (c := E - t) ?_ (by omega)
    have m1 := Nat.mul_le_mul_right E b
    have e1 : Y * E * (E - t) = Y * (E - t) * E := by generalize E - t = q; grind
    rw [e1]
    refine Nat.le_trans m1 ?_
    rw [Nat.mul_assoc, Nat.mul_assoc]
    refine Nat.mul_le_mul_left _ ?_
    rw [show E - t = u by omega]
    have h1 : (E + (t + 1)) * u = E * u + t * u + u := by grind
    have h2 : t * u + t * t = t * E := by rw [← Nat.mul_add, Nat.add_comm u t, ← hu]
    have h3 : E * E = E * u + t * E := by
      have : E * E = E * (t + u) := by rw [← hu]
      rw [this]
      grind
    omega
  · refine Nat.le_of_mul_le_mul_right (c := E + t) ?_ (by omega)
    have m1 := Nat.mul_le_mul_right E a
    have e1 : Y * E * (E + t) = Y * (E + t) * E := by grind
    rw [e1]
    refine Nat.le_trans ?_ m1
    rw [Nat.mul_assoc, Nat.mul_assoc]
    refine Nat.mul_le_mul_left _ ?_
    obtain ⟨v, hv⟩ : ∃ v, E = t + 1 + v := ⟨E - (t + 1), by omega⟩
    rw [show E - (t + 1) = v by omega]
    have h1 : v * (E + t) = v * E + t * v := by grind
    have h2 : t * v ≤ t * E := Nat.mul_le_mul_left _ (by omega)
    have h3 : E * E = v * E + t * E + E := by
      have : E * E = (t + 1 + v) * E := by rw [← hv]
      rw [this]
      grind
    omega
theorem RelE.cancel {E t X Y c : Nat} (hc : 0 < c) (h : RelE E t (X * c) (Y * c)) : RelE E t X Y := by
  obtain ⟨a, b⟩ := h
  rw [Nat.mul_right_comm X, Nat.mul_right_comm Y] at a
  rw [Nat.mul_right_comm X, Nat.mul_right_comm Y] at b
  exact ⟨Nat.le_of_mul_le_mul_right a hc, Nat.le_of_mul_le_mul_right b hc⟩
theorem RelE.scale {E t X Y : Nat} (c : Nat) (h : RelE E t X Y) : RelE E t (X * c) (Y * c) := by
  obtain ⟨a, b⟩ := h
  have m1 := Nat.mul_le_mul_right c a
  have m2 := Nat.mul_le_mul_right c b
  rw [Nat.mul_right_comm X, Nat.mul_right_comm Y] at m1
  rw [Nat.mul_right_comm X, Nat.mul_right_comm Y] at m2
  exact ⟨m1, m2⟩
/-- What is off by the 2^-F-th part differs by one 2^-20-th part at most, if F is at least 20. -/
theorem off_rel {F : Nat} {v x : Int} (hF : 20 ≤ F) (h : Off F v x) : RelE (2 ^ 20) 1 v.natAbs x.natAbs := by
  unfold Off at h
  obtain ⟨E, hE⟩ : ∃ E, E = 2 ^ 20 := ⟨_, rfl⟩
  have hEp : 0 < E := by rw [hE]; exact Nat.two_pow_pos _
  obtain ⟨P, hP⟩ : ∃ P, 2 ^ F = E * P := ⟨2 ^ (F - 20), by rw [hE, ← Nat.pow_add]; congr 1; omega⟩
  have hPp : 0 < P := by
    have := Nat.two_pow_pos F
    rw [hP] at this
    exact Nat.pos_of_mul_pos_left this
  rw [← hE]
  have h1 : (v - x).natAbs * E ≤ x.natAbs := by
    have : (v - x).natAbs * E * 1 ≤ (v - x).natAbs * E * P := Nat.mul_le_mul_left _ hPp
    rw [hP, ← Nat.mul_assoc] at h
    omega
  have a1 : v.natAbs ≤ x.natAbs + (v - x).natAbs := by omega
  have a2 : x.natAbs ≤ v.natAbs + (v - x).natAbs := by omega
  have b1 := Nat.mul_le_mul_right E a1
  have b2 := Nat.mul_le_mul_right E a2
  rw [Nat.add_mul] at b1 b2
  constructor
  · rw [Nat.mul_add]; omega
  · rw [Nat.mul_sub]; omega
end Go.Proofs.Ytnfcbacdggkfeaa.PlainP
