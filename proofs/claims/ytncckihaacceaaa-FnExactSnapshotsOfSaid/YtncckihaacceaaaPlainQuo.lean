/-
  Quotients and square roots of floats: off from the exact ones by a small part.
-/
import Derived.Test.YtncckihaacceaaaPlainVal
namespace Go.Proofs.Ytncckihaacceaaa.PlainP
open Ieee Go.Proofs.YtncckihaacceaaaW.PrintWords

theorem rootFrom_spec (n : Nat) : ∀ (todo r : Nat), r * r ≤ n → n < (r + 2 ^ todo) * (r + 2 ^ todo) → ∃ w, Datum.rootFrom n todo r = w ∧ w * w ≤ n ∧ n < (w + 1) * (w + 1) := by
  intro todo
  induction todo with
  | zero =>
    intro r h1 h2
    exact ⟨r, rfl, h1, h2⟩
  | succ todo ih =>
    intro r h1 h2
    simp only [Datum.rootFrom, Nat.shiftLeft_eq, Nat.one_mul]
    by_cases h : (r + 2 ^ todo) * (r + 2 ^ todo) ≤ n
    · rw [if_pos h]
      refine ih (r + 2 ^ todo) h ?_
      rw [Nat.pow_succ] at h2
      rw [show r + 2 ^ todo + 2 ^ todo = r + 2 ^ todo * 2 by omega]
      exact h2
    · rw [if_neg h]
      exact ih r h1 (by omega)
/-- The digits of a quotient: 2q and 1 where something is left over. -/
theorem quot_mul (D n : Nat) (h : 0 < n) : (2 * (D / n) + (D % n != 0).toNat) * n ≤ 2 * D + n ∧ 2 * D ≤ (2 * (D / n) + (D % n != 0).toNat) * n + n := by
  have hdm := Nat.div_add_mod D n
  have hm := Nat.mod_lt D h
  rw [Nat.mul_comm] at hdm
  by_cases h0 : D % n = 0
  · have : (D % n != 0) = false := by simp [h0]
    rw [this]
    simp only [Bool.toNat_false, Nat.add_zero, Nat.mul_assoc]
    omega
  · have : (D % n != 0) = true := by simp [h0]
    rw [this]
    simp only [Bool.toNat_true, Nat.add_mul, Nat.one_mul, Nat.mul_assoc]
    omega
/-- A quotient: c times b is off from a times the scale by a small part. -/
theorem quo_V {k : FloatKind} {x y : Nat} {a b : Int} (G A B : Nat) (hG : G + 2 ≤ RR k) (hAB : B + 3 * FF k + 3 ≤ A + KK k) (hx : IsV k x a) (hy : IsV k y b) (hA : 2 ^ A ≤ a.natAbs) (hb : b ≠ 0) (hB : b.natAbs < 2 ^ B) (h : 4 * (a.natAbs * 2 ^ KK k) < b.natAbs * 2 ^ (FF k + G)) :
    ∃ w c, floatBits .quo k x y = some w ∧ IsV k w c ∧ (c * b - a * ((2 ^ KK k : Nat) : Int)).natAbs * 2 ^ FF k ≤ 3 * (a.natAbs * 2 ^ KK k) := by
  obtain ⟨s, m, i, d1, v1, m1⟩ := hx
  obtain ⟨t, n, j, d2, v2, n1⟩ := hy
  have ea : a.natAbs = m * 2 ^ i := by rw [← v1, sg_natAbs]
  have eb : b.natAbs = n * 2 ^ j := by rw [← v2, sg_natAbs]
  have hn : n ≠ 0 := fun hz => hb (by rw [← v2, hz]; simp [sg])
  have hm : m ≠ 0 := fun hz => by
    rw [ea, hz, Nat.zero_mul] at hA
    have := Nat.two_pow_pos A
    omega
  have g1 := place_V v1 m1 hA
  have g2 : j < B := by
    rcases Nat.lt_or_ge j B with hl | hl
    · exact hl
    · exfalso
      have h1 : 2 ^ B ≤ 2 ^ j := Nat.pow_le_pow_right (by decide) hl
      have h2 : 1 * 2 ^ j ≤ n * 2 ^ j := Nat.mul_le_mul_right _ (by omega)
      omega
  have ln : n.log2 ≤ FF k := by
    have := (Nat.log2_lt hn).2 n1
    omega
  have hf : floatBits .quo k x y = some (k.encode (.number (s ^^ t) (2 * ((m <<< (FF k + 2 + n.log2 - m.log2)) / n) + ((m <<< (FF k + 2 + n.log2 - m.log2)) % n != 0).toNat) (-(KK k : Int) + (i : Int) - (-(KK k : Int) + (j : Int)) - ((FF k + 2 + n.log2 - m.log2 : Nat) : Int) - 1))) := by
    show (Datum.quotient (k.format.fractionBits + 2) (k.decode x) (k.decode y)).map k.format.write = _
    rw [d1, d2, (okF k).frac]
    simp only [Datum.quotient]
    rw [if_neg hn]
    rfl
  obtain ⟨M, hM⟩ : ∃ M, M = FF k + 2 + n.log2 - m.log2 := ⟨_, rfl⟩
  rw [← hM] at hf
  obtain ⟨p, hp⟩ : ∃ p, KK k + i = p + j + M + 1 := ⟨KK k + i - (j + M + 1), by omega⟩
  rw [show -(KK k : Int) + (i : Int) - (-(KK k : Int) + (j : Int)) - (M : Int) - 1 = -(KK k : Int) + (p : Int) by omega, Nat.shiftLeft_eq] at hf
  have hq := quot_mul (m * 2 ^ M) n (Nat.pos_of_ne_zero hn)
  generalize 2 * (m * 2 ^ M / n) + (m * 2 ^ M % n != 0).toNat = Q at hf hq
  obtain ⟨q1, q2⟩ := hq
  -- the digits: n is small beside the dividend
  have hbig : n * 2 ^ FF k ≤ m * 2 ^ M := by
    have l1 := Nat.log2_self_le hm
    have l2 := @Nat.lt_log2_self n
    have s1 : n * 2 ^ FF k ≤ 2 ^ (n.log2 + 1) * 2 ^ FF k := Nat.mul_le_mul_right _ (Nat.le_of_lt l2)
    have s2 : 2 ^ m.log2 * 2 ^ M ≤ m * 2 ^ M := Nat.mul_le_mul_right _ l1
    rw [← Nat.pow_add] at s1 s2
    exact Nat.le_trans s1 (Nat.le_trans (Nat.pow_le_pow_right (by decide) (by omega)) s2)
  -- in units of the least number
  have u1 : m * 2 ^ i * 2 ^ KK k = 2 * (m * 2 ^ M) * (2 ^ p * 2 ^ j) := by
    have e : 2 ^ i * 2 ^ KK k = 2 * 2 ^ M * (2 ^ p * 2 ^ j) := by
      rw [← Nat.pow_add, ← Nat.pow_add, show (2 : Nat) * 2 ^ M = 2 ^ (M + 1) by rw [Nat.pow_succ]; omega, ← Nat.pow_add]
      congr 1
      omega
    rw [Nat.mul_assoc, e]
    simp only [Nat.mul_assoc, Nat.mul_left_comm]
  have u2 : Q * 2 ^ p * (n * 2 ^ j) = Q * n * (2 ^ p * 2 ^ j) := by simp only [Nat.mul_assoc, Nat.mul_left_comm]
  obtain ⟨U, hU⟩ : ∃ U, U = 2 ^ p * 2 ^ j := ⟨_, rfl⟩
  rw [← hU] at u1 u2
  have hUp : 0 < U := by rw [hU]; exact Nat.mul_pos (Nat.two_pow_pos _) (Nat.two_pow_pos _)
  obtain ⟨X, hX⟩ : ∃ X, X = m * 2 ^ i * 2 ^ KK k := ⟨_, rfl⟩
  have r1 : Q * n * U ≤ X + n * U := by rw [hX, u1, ← Nat.add_mul]; exact Nat.mul_le_mul_right _ q1
  have r2 : X ≤ Q * n * U + n * U := by rw [hX, u1, ← Nat.add_mul]; exact Nat.mul_le_mul_right _ q2
  have r3 : 2 * (n * U * 2 ^ FF k) ≤ X := by
    rw [hX, u1, Nat.mul_assoc 2]
    have := Nat.mul_le_mul_right U hbig
    rw [Nat.mul_right_comm] at this
    omega
  have hlt : Q * 2 ^ p < 2 ^ (FF k + G) := by
    have hnU : n * U ≤ X := by
      have : n * U * 1 ≤ n * U * 2 ^ FF k := Nat.mul_le_mul_left _ (Nat.two_pow_pos _)
      omega
    have h1 : Q * 2 ^ p * (n * 2 ^ j) ≤ 2 * X := by rw [u2]; omega
    rw [ea, eb, ← hX] at h
    have hnj : 0 < n * 2 ^ j := Nat.mul_pos (Nat.pos_of_ne_zero hn) (Nat.two_pow_pos _)
    have h2 : Q * 2 ^ p * (n * 2 ^ j) < 2 ^ (FF k + G) * (n * 2 ^ j) := by
      rw [Nat.mul_comm (2 ^ (FF k + G))]
      have := Nat.mul_pos hnj (Nat.two_pow_pos (FF k + G))
      omega
    exact Nat.lt_of_mul_lt_mul_right h2
  obtain ⟨V, J, w1, w2, w3, -⟩ := near_word (okF k) (s ^^ t) Q p G hG hlt
  refine ⟨_, sg (s ^^ t) (V * 2 ^ J), hf, ⟨s ^^ t, V, J, w1, rfl, w3⟩, ?_⟩
  rw [ea, ← hX]
  have eS : sg (s ^^ t) (V * 2 ^ J) * b - a * ((2 ^ KK k : Nat) : Int) = sg s (V * 2 ^ J * (n * 2 ^ j)) - sg s X := by
    rw [← v2, ← sg_prod, ← v1, hX, sg_mul s (m * 2 ^ i)]
    congr 2
    cases s <;> cases t <;> rfl
  rw [eS]
  obtain ⟨z1, z2⟩ := w2
  generalize V * 2 ^ J = v at z1 z2
  have y1 := Nat.mul_le_mul_right (n * 2 ^ j) z1
  have y2 := Nat.mul_le_mul_right (n * 2 ^ j) z2
  rw [Nat.add_mul, Nat.mul_right_comm v, Nat.mul_right_comm (Q * 2 ^ p), u2] at y1 y2
  have t1 := Nat.mul_le_mul_right (2 ^ FF k) r1
  have t2 := Nat.mul_le_mul_right (2 ^ FF k) r2
  rw [Nat.add_mul] at t1 t2
  have hnU : 2 * (n * U) ≤ X := by
    have : n * U * 1 ≤ n * U * 2 ^ FF k := Nat.mul_le_mul_left _ (Nat.two_pow_pos _)
    omega
  generalize v * (n * 2 ^ j) = v' at *
  have k1 : v' * 2 ^ FF k ≤ X * 2 ^ FF k + 3 * X := by omega
  have k2 : X * 2 ^ FF k ≤ v' * 2 ^ FF k + 3 * X := by omega
  have hd : (sg s v' - sg s X).natAbs = (v' - X) + (X - v') := by unfold sg; cases s <;> simp <;> omega
  rw [hd, Nat.add_mul, Nat.sub_mul, Nat.sub_mul]
  omega
/-- Squares of what is near are near. -/
theorem sq_near {F V X : Nat} (h : NearR F V X) : V * V * 2 ^ F ≤ X * X * 2 ^ F + 3 * (X * X) ∧ X * X * 2 ^ F ≤ V * V * 2 ^ F + 3 * (X * X) := by
  obtain ⟨h1, h2⟩ := h
  obtain ⟨Q, hQ⟩ : ∃ Q, 2 ^ F = Q + 1 := ⟨2 ^ F - 1, by have := Nat.two_pow_pos F; omega⟩
  rw [hQ] at h1 h2 ⊢
  have g1 : V * (Q + 1) ≤ X * (Q + 2) := by
    have : X * (Q + 2) = X * (Q + 1) + X := by rw [show Q + 2 = Q + 1 + 1 by omega, Nat.mul_add X (Q + 1) 1, Nat.mul_one]
    omega
  have g2 : X * Q ≤ V * (Q + 1) := by
    have : X * (Q + 1) = X * Q + X := by rw [Nat.mul_add, Nat.mul_one]
    omega
  have s1 := Nat.mul_le_mul g1 g1
  have s2 := Nat.mul_le_mul g2 g2
  have e1 : V * (Q + 1) * (V * (Q + 1)) = V * V * (Q + 1) * (Q + 1) := by grind
  have e2 : X * (Q + 2) * (X * (Q + 2)) = X * X * (Q + 2) * (Q + 2) := by grind
  have e3 : X * Q * (X * Q) = X * X * Q * Q := by grind
  rw [e1, e2] at s1
  rw [e1, e3] at s2
  constructor
  · refine Nat.le_of_mul_le_mul_right (c := Q + 1) ?_ (by omega)
    refine Nat.le_trans s1 ?_
    have : (X * X * (Q + 1) + 3 * (X * X)) * (Q + 1) = X * X * (Q + 2) * (Q + 2) + X * X * Q := by grind
    rw [this]
    exact Nat.le_add_right _ _
  · refine Nat.le_of_mul_le_mul_right (c := Q + 1) ?_ (by omega)
    have : (V * V * (Q + 1) + 3 * (X * X)) * (Q + 1) = V * V * (Q + 1) * (Q + 1) + 3 * (X * X) * (Q + 1) := by grind
    rw [this]
    have e4 : X * X * (Q + 1) * (Q + 1) + (X * X * Q + 2 * (X * X)) = X * X * Q * Q + 3 * (X * X) * (Q + 1) := by grind
    omega
/-- A square root: its square is off from a times the scale by a small part. -/
theorem sqrt_V {k : FloatKind} {x : Nat} {a : Int} (G : Nat) (hG : G + 2 ≤ RR k) (hx : IsV k x a) (ha : 0 < a) (h : 2 * (a.natAbs * 2 ^ KK k) < 2 ^ (FF k + G) * 2 ^ (FF k + G)) :
    ∃ (w V : Nat), k.format.sqrt x = some w ∧ IsV k w (V : Int) ∧ V * V * 2 ^ FF k ≤ a.natAbs * 2 ^ KK k * 2 ^ FF k + 4 * (a.natAbs * 2 ^ KK k) ∧ a.natAbs * 2 ^ KK k * 2 ^ FF k ≤ V * V * 2 ^ FF k + 4 * (a.natAbs * 2 ^ KK k) := by
  obtain ⟨s, m, i, d1, v1, m1⟩ := hx
  have ea : a.natAbs = m * 2 ^ i := by rw [← v1, sg_natAbs]
  have hm : m ≠ 0 := fun hz => by rw [hz, Nat.zero_mul] at ea; omega
  have hs : s = false := by
    cases s
    · rfl
    · exfalso
      unfold sg at v1
      rw [if_pos rfl] at v1
      omega
  subst hs
  have hKF : 2 * FF k + 8 ≤ KK k := by cases k <;> decide
  obtain ⟨M0, hM0⟩ : ∃ M0, M0 = 2 * (FF k + 2) - m.log2 := ⟨_, rfl⟩
  obtain ⟨q, hq⟩ : ∃ q : Nat, q = ((-(KK k : Int) + (i : Int) - (M0 : Int)) % 2).toNat := ⟨_, rfl⟩
  obtain ⟨M, hM⟩ : ∃ M, M = M0 + q := ⟨_, rfl⟩
  obtain ⟨p, hp⟩ : ∃ p : Nat, KK k + i = M + 2 + (p + p) := ⟨(KK k + i - M - 2) / 2, by omega⟩
  obtain ⟨n, hn⟩ : ∃ n, n = m * 2 ^ M := ⟨_, rfl⟩
  have hn0 : n ≠ 0 := by rw [hn]; exact Nat.mul_ne_zero hm (by have := Nat.two_pow_pos M; omega)
  obtain ⟨W, hW, W1, W2⟩ := rootFrom_spec n (n.log2 / 2 + 1) 0 (by omega) (by
    have := @Nat.lt_log2_self n
    rw [Nat.zero_add, ← Nat.pow_add]
    exact Nat.lt_of_lt_of_le this (Nat.pow_le_pow_right (by decide) (by omega)))
  have hf : k.format.sqrt x = some (k.encode (.number false (2 * W + (W * W != n).toNat) (-(KK k : Int) + (p : Int)))) := by
    show (Datum.root (k.format.fractionBits + 2) (k.decode x)).map k.format.write = _
    rw [d1, (okF k).frac]
    simp only [Datum.root]
    rw [if_neg hm, if_neg (by decide), ← hM0, ← hq, ← hM, Nat.shiftLeft_eq, ← hn, hW]
    show some (k.format.write _) = _
    congr 3
    omega
  obtain ⟨Q, hQ⟩ : ∃ Q, Q = 2 * W + (W * W != n).toNat := ⟨_, rfl⟩
  rw [← hQ] at hf
  -- the root's digits
  have hWbig : 2 ^ (FF k + 2) ≤ W := by
    rcases Nat.lt_or_ge W (2 ^ (FF k + 2)) with hl | hl
    · exfalso
      have h1 : (W + 1) * (W + 1) ≤ 2 ^ (FF k + 2) * 2 ^ (FF k + 2) := Nat.mul_le_mul hl hl
      have h2 : 2 ^ m.log2 * 2 ^ M ≤ n := by rw [hn]; exact Nat.mul_le_mul_right _ (Nat.log2_self_le hm)
      rw [← Nat.pow_add] at h1 h2
      have h3 : 2 ^ (FF k + 2 + (FF k + 2)) ≤ 2 ^ (m.log2 + M) := Nat.pow_le_pow_right (by decide) (by omega)
      omega
    · exact hl
  have hWF : 4 * 2 ^ FF k ≤ W := by rw [Nat.pow_add] at hWbig; omega
  have hQ2 : Q * Q ≤ 4 * n + 4 * W ∧ 4 * n ≤ Q * Q + 4 * W := by
    by_cases he : W * W = n
    · have : (W * W != n) = false := by simp [he]
      rw [this] at hQ
      have : Q * Q = 4 * (W * W) := by rw [hQ]; simp only [Bool.toNat_false, Nat.add_zero]; grind
      omega
    · have : (W * W != n) = true := by simp [he]
      rw [this] at hQ
      have e1 : Q * Q = 4 * (W * W) + 4 * W + 1 := by rw [hQ]; simp only [Bool.toNat_true]; grind
      have e2 : (W + 1) * (W + 1) = W * W + 2 * W + 1 := by grind
      omega
  have hT : m * 2 ^ i * 2 ^ KK k = 4 * n * (2 ^ p * 2 ^ p) := by
    have e : 2 ^ i * 2 ^ KK k = 4 * (2 ^ M * (2 ^ p * 2 ^ p)) := by
      rw [← Nat.pow_add, ← Nat.pow_add, ← Nat.pow_add, show (4 : Nat) * 2 ^ (M + (p + p)) = 2 ^ (M + (p + p) + 2) by rw [Nat.pow_add 2 (M + (p + p)) 2]; omega]
      congr 1
      omega
    rw [Nat.mul_assoc, e, hn]
    simp only [Nat.mul_assoc, Nat.mul_left_comm]
  rw [ea] at h ⊢
  obtain ⟨U, hU⟩ : ∃ U, U = 2 ^ p * 2 ^ p := ⟨_, rfl⟩
  rw [← hU] at hT
  rw [hT] at h ⊢
  have hX : Q * 2 ^ p * (Q * 2 ^ p) = Q * Q * U := by rw [hU]; simp only [Nat.mul_assoc, Nat.mul_left_comm]
  have hWn : W * 2 ^ FF k * 4 ≤ n := by
    have : W * (4 * 2 ^ FF k) ≤ W * W := Nat.mul_le_mul_left _ hWF
    have e : W * (4 * 2 ^ FF k) = W * 2 ^ FF k * 4 := by simp only [Nat.mul_left_comm, Nat.mul_comm]
    omega
  have r1 : Q * Q * U ≤ 4 * n * U + 4 * W * U := by rw [← Nat.add_mul]; exact Nat.mul_le_mul_right _ hQ2.1
  have r2 : 4 * n * U ≤ Q * Q * U + 4 * W * U := by rw [← Nat.add_mul]; exact Nat.mul_le_mul_right _ hQ2.2
  have r3 : 4 * W * U * 2 ^ FF k ≤ n * U := by
    have := Nat.mul_le_mul_right U hWn
    have e : W * 2 ^ FF k * 4 * U = 4 * W * U * 2 ^ FF k := by simp only [Nat.mul_assoc, Nat.mul_left_comm, Nat.mul_comm]
    omega
  have r4 : 4 * W * U ≤ n * U := by
    have : 4 * W * U * 1 ≤ 4 * W * U * 2 ^ FF k := Nat.mul_le_mul_left _ (Nat.two_pow_pos _)
    omega
  have e4n : 4 * n * U = 4 * (n * U) := Nat.mul_assoc 4 n U
  have hlt : Q * 2 ^ p < 2 ^ (FF k + G) := by
    rcases Nat.lt_or_ge (Q * 2 ^ p) (2 ^ (FF k + G)) with hl | hl
    · exact hl
    · exfalso
      have := Nat.mul_le_mul hl hl
      rw [hX] at this
      omega
  obtain ⟨V, J, w1, w2, w3, -⟩ := near_word (okF k) false Q p G hG hlt
  refine ⟨_, V * 2 ^ J, hf, ⟨false, V, J, w1, rfl, w3⟩, ?_⟩
  obtain ⟨z1, z2⟩ := sq_near w2
  rw [hX] at z1 z2
  have t1 := Nat.mul_le_mul_right (2 ^ FF k) r1
  have t2 := Nat.mul_le_mul_right (2 ^ FF k) r2
  rw [Nat.add_mul] at t1 t2
  have hFp : 4 ≤ 2 ^ FF k := by cases k <;> decide
  have r5 : 4 * W * U * 16 ≤ n * U := by
    have : 4 * W * U * 16 ≤ 4 * W * U * 2 ^ FF k := Nat.mul_le_mul_left _ (by cases k <;> decide)
    omega
  constructor <;> omega
end Go.Proofs.Ytncckihaacceaaa.PlainP
