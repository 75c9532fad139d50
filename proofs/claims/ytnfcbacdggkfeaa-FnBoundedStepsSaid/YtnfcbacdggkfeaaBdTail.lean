/-
  What a step does with its new weights: the root, the scaled weights, and their power.
-/
import Derived.Test.YtnfcbacdggkfeaaBdPows
namespace Go.Proofs.Ytnfcbacdggkfeaa.PlainBd
open Ieee Go.RowKit Go.Proofs.YtnfcbacdggkfeaaW.PrintWords Go.Proofs.YtnfcbacdggkfeaaW.PrintLast Go.Proofs.YtnfcbacdggkfeaaW.PrintMore
open Go.Proofs.Ytnfcbacdggkfeaa.B Go.Proofs.Ytnfcbacdggkfeaa.PlainP

theorem pow_ge (a b c x : Nat) (h : a + b = c) (hx : 2 ^ a ≤ x) : 2 ^ c ≤ x * 2 ^ b := by
  subst h
  rw [Nat.pow_add]
  exact Nat.mul_le_mul_right _ hx
/-- The root of a number that is neither small nor great. -/
theorem root_gen {w x : Nat} (h : IsV .f32 w (x : Int)) (h0 : 2 ^ 100 ≤ x) (h1 : x ≤ 2 ^ 160) :
    ∃ q Q : Nat, impl_RootNumber.f w = some q ∧ IsV .f32 q (Q : Int) ∧ RelE (2 ^ 20) 8 (Q * Q) (x * 2 ^ 149) := by
  obtain ⟨y, ey, iy⟩ := widen_V h (by
    rw [Int.natAbs_natCast]
    exact Nat.lt_of_le_of_lt h1 (pow_lt' 160 200 (by decide)))
  have hT : ((x : Int) * ((2 ^ 925 : Nat) : Int)).natAbs * 2 ^ KK .f64 = x * 2 ^ 1999 := by
    have e : ∀ (a b c m : Nat), a + b = c → ((m : Int) * ((2 ^ a : Nat) : Int)).natAbs * 2 ^ b = m * 2 ^ c := fun a b c m hc => by
      subst hc
      rw [abs_pow, Int.natAbs_natCast, Nat.mul_assoc, ← Nat.pow_add]
    exact e 925 (KK .f64) 1999 x rfl
  have hTn := pow_ge 100 1999 2099 x rfl h0
  have hTx : x * 2 ^ 1999 ≤ 2 ^ 2159 := pow_bd 160 1999 2159 x rfl h1
  have d1 := pow_dbl 2159 2160 rfl
  have d2 := pow_mm (FF .f64 + 1100) (FF .f64 + 1100) 2304 (by decide)
  have d3 := pow_lt' 2160 2304 (by decide)
  have d4 := pow_mm 977 977 1954 rfl
  have d5 := pow_dbl 1954 1955 rfl
  have d6 := pow_lt' 1955 2099 (by decide)
  have d7 := pow_mm (FF .f32 + 200 + 925) (FF .f32 + 200 + 925) 2296 (by decide)
  have d8 := pow_lt' 2160 2296 (by decide)
  have hpos := Nat.two_pow_pos 925
  have hx0 : 0 < x := Nat.lt_of_lt_of_le (Nat.two_pow_pos 100) h0
  have ha : ∀ X : Nat, 0 < X → 0 < (x : Int) * (X : Int) := fun X hX => Int.mul_pos (by omega) (by omega)
  obtain ⟨r, V, er, iV, s1, s2⟩ := sqrt_V 1100 (by decide) iy (ha _ hpos) (by rw [hT, d2]; exact room_of hTx d1 d3)
  rw [hT] at s1 s2
  have r1 := near_rel (F := FF .f64) (t := 4) (by decide) s1 s2
  obtain ⟨b1, b2⟩ := rel_half (by decide) r1
  have hV1 : 2 ^ 977 ≤ V := low_of b1 hTn d4 d5 d6
  have hV2 : V < 2 ^ (FF .f32 + 200 + 925) := high_of b2 hTx d1 d7 d8
  obtain ⟨q, c, eq, iq, ho⟩ := narrow_V 200 (by decide) iV (.inr (by rw [Int.natAbs_natCast]; exact hV1)) (by rw [Int.natAbs_natCast]; exact hV2)
  have hVp : 0 < V := Nat.lt_of_lt_of_le (Nat.two_pow_pos 977) hV1
  have hc := scale_pos (Nat.two_pow_pos 925) (off_pos ho (by omega))
  obtain ⟨Q, rfl⟩ := Int.eq_ofNat_of_zero_le hc
  have r2 := off_rel (by decide) ho
  have ec : ∀ X : Nat, ((Q : Int) * (X : Int)).natAbs = Q * X := fun X => by rw [Int.natAbs_mul, Int.natAbs_natCast, Int.natAbs_natCast]
  rw [ec, Int.natAbs_natCast] at r2
  have r3 := RelE.trans E20 (RelE.sq E20 r2 (by decide)) r1 (by decide) (by decide)
  obtain ⟨o1, q1⟩ := fcok_some ey 34 37
  obtain ⟨o2, q2⟩ := fcok_some eq 37 34
  refine ⟨q, Q, ?_, iq, cancel_pow (a := 925) (b := 1850) (c := 149) (d := 1999) rfl rfl r3⟩
  unfold impl_RootNumber.f
  rw [if_pos o1, q1, show math_Sqrt.f y = some r from er]
  simp only [Option.bind_some]
  rw [if_pos o2, q2]
/-- A scaled part: off by a small part, or by one of the least place. -/
theorem part_scaled {v r : Nat} {P : Int} {R : Nat} (h : IsV .f32 v P) (hP : P.natAbs ≤ 2 ^ 158) (hr : IsV .f32 r (R : Int)) (hR : R ≤ 2 ^ 150) :
    ∃ (w : Nat) (O : Int), floatBits .mul .f32 v r = some w ∧ IsV .f32 w O ∧ 2 ^ 23 * (O.natAbs * 2 ^ 149) ≤ (2 ^ 23 + 1) * (P.natAbs * R) + 2 ^ 23 * 2 ^ 149 := by
  have hb : (P * (R : Int)).natAbs < 2 ^ (FF .f32 + 200 + KK .f32) := by
    rw [Int.natAbs_mul, Int.natAbs_natCast]
    exact mul_room hP hR (pow_mm 158 150 308 rfl) (pow_lt' 308 _ (by decide))
  obtain ⟨w, O, e, i, ho, -⟩ := mul_A 200 (by decide) (by decide) h hr hb
  refine ⟨w, O, e, i, ?_⟩
  have hF : FF .f32 = 23 := rfl
  have hKK : KK .f32 = 149 := rfl
  rw [hKK, hF, Nat.pow_add 2 23 149] at ho
  have e1 : (P * (R : Int)).natAbs = P.natAbs * R := by rw [Int.natAbs_mul, Int.natAbs_natCast]
  have e2 : (O * ((2 ^ 149 : Nat) : Int)).natAbs = O.natAbs * 2 ^ 149 := abs_pow O 149
  obtain ⟨H, hH⟩ := ex_eq (2 ^ 149)
  rw [hH] at ho e2 ⊢
  have t1 : (O * (H : Int)).natAbs ≤ (O * (H : Int) - P * (R : Int)).natAbs + (P * (R : Int)).natAbs := by omega
  rw [e2, e1] at t1
  rw [e1] at ho
  rw [Nat.add_mul, Nat.one_mul]
  generalize (O * (H : Int) - P * (R : Int)).natAbs = a at *
  generalize O.natAbs * H = b at *
  generalize P.natAbs * R = c at *
  omega
theorem scaled_size {O PR H : Nat} (h : 2 ^ 23 * (O * H) ≤ (2 ^ 23 + 1) * PR + 2 ^ 23 * H) (hPR : PR ≤ 2 ^ 159 * H) (hH : 0 < H) : O ≤ 2 ^ 160 := by
  have h3 := pow_dbl 159 160 rfl
  have h4 := pow_lt' 30 159 (by decide)
  refine Nat.le_of_mul_le_mul_right (c := H) ?_ hH
  rw [← h3]
  rw [Nat.add_mul, Nat.one_mul] at h
  have h5 : 2 ^ 30 * H ≤ 2 ^ 159 * H := Nat.mul_le_mul_right _ (Nat.le_of_lt h4)
  rw [Nat.mul_assoc]
  generalize O * H = a at *
  generalize 2 ^ 159 * H = b at *
  omega
/-! The scaled weights' power. -/
theorem t1 {z y1 y2 y3 : Nat} (h1 : 1048562 * z ≤ 1048584 * y1) (h2 : 1048576 * y1 ≤ 1048577 * y2) (h3 : 1048576 * y2 ≤ 1048579 * y3) : 1048576 * z ≤ 1048610 * y3 := by omega
theorem t2 {W z y3 c : Nat} (h1 : 1048576 * W ≤ 1048577 * z + c) (h2 : 1048576 * z ≤ 1048610 * y3) : 1048576 * W ≤ 1048612 * y3 + c := by omega
theorem t3 {p W B H c : Nat} (h1 : 1048576 * p ≤ 1048590 * W + 1048576 * H) (h2 : 1048576 * W ≤ 1048612 * B + c) (h3 : 2 ^ 60 * H ≤ B) (h4 : 2 ^ 10 * c ≤ B) : 16384 * p ≤ 16385 * B := by omega
theorem lits {a b c d x y u v : Nat} (h1 : a * x ≤ b * y) (h2 : c * u ≤ d * v) : a * c * (x * u) ≤ b * d * (y * v) := by
  have := Nat.mul_le_mul h1 h2
  have e : ∀ a x c u : Nat, a * x * (c * u) = a * c * (x * u) := fun a x c u => by simp only [Nat.mul_assoc, Nat.mul_left_comm]
  rw [e a x c u, e b y d v] at this
  exact this
theorem drop_lit {a b c x y : Nat} (hc : 0 < c) (h : a * c * x ≤ c * b * y) : a * x ≤ b * y := by
  refine Nat.le_of_mul_le_mul_left (c := c) ?_ hc
  rw [← Nat.mul_assoc, ← Nat.mul_assoc, Nat.mul_comm c a]
  exact h
/-- The power of scaled weights. -/
theorem pow_bound {p W' W RR h q Bv H : Nat} (hH : 0 < H) (a1 : 1048576 * (p * H) ≤ 1048590 * W' + 1048576 * H) (a2 : 1048576 * (W' * (H * H)) ≤ 1048577 * (W * RR) + 2 ^ 72 * (H * H)) (a3 : 1048576 * RR ≤ 1048584 * (h * H)) (a4 : 1048562 * W ≤ 1048576 * ((q + 1) * H))
    (a5 : 1048576 * (h * q) ≤ 1048579 * (Bv * H)) (a6 : 1048576 * (q + 1) ≤ 1048577 * q) (a7 : 2 ^ 60 ≤ Bv) (a8 : 2 ^ 10 * 2 ^ 72 ≤ Bv) : 16384 * p ≤ 16385 * Bv := by
  have m1 := drop_lit (c := 1048576) (by decide) (lits a4 a3)
  have y1 : (q + 1) * H * (h * H) = (q + 1) * (h * (H * H)) := by simp only [Nat.mul_assoc, Nat.mul_left_comm]
  rw [y1] at m1
  have m2 : 1048576 * ((q + 1) * (h * (H * H))) ≤ 1048577 * (h * q * (H * H)) := by
    have := Nat.mul_le_mul_right (h * (H * H)) a6
    rw [Nat.mul_assoc, Nat.mul_assoc] at this
    rw [show h * q * (H * H) = q * (h * (H * H)) by simp only [Nat.mul_assoc, Nat.mul_left_comm]]
    exact this
  have m3 : 1048576 * (h * q * (H * H)) ≤ 1048579 * (Bv * H * (H * H)) := by
    have := Nat.mul_le_mul_right (H * H) a5
    rw [Nat.mul_assoc 1048576, Nat.mul_assoc 1048579] at this
    exact this
  have m4 := t1 m1 m2 m3
  have m5 := t2 a2 m4
  have hHH : 0 < H * H := Nat.mul_pos hH hH
  have m6 : 1048576 * W' ≤ 1048612 * (Bv * H) + 2 ^ 72 := by
    refine Nat.le_of_mul_le_mul_right (c := H * H) ?_ hHH
    rw [Nat.add_mul, Nat.mul_assoc, Nat.mul_assoc 1048612]
    exact m5
  have m7 := t3 a1 m6 (Nat.mul_le_mul_right H a7) (Nat.le_trans a8 (Nat.le_mul_of_pos_right _ hH))
  refine Nat.le_of_mul_le_mul_right (c := H) ?_ hH
  rw [Nat.mul_assoc, Nat.mul_assoc]
  exact m7
theorem sq_lit {a b x y : Nat} (h : a * x ≤ b * y) : a * a * (x * x) ≤ b * b * (y * y) := lits h h
theorem sq_scaled {y x H : Nat} (h : 2 ^ 23 * y ≤ (2 ^ 23 + 1) * x + 2 ^ 23 * H) : 1048576 * (y * y) ≤ 1048577 * (x * x) + 2 ^ 68 * (H * H) := by
  rw [Nat.add_mul, Nat.one_mul] at h
  rcases Nat.lt_or_ge x (2 ^ 23 * H) with hx | hx
  · have h1 : 1 * y ≤ 2 ^ 24 * H := by omega
    have h2 := sq_lit h1
    generalize y * y = a at *
    generalize x * x = b at *
    generalize H * H = c at *
    omega
  · have h1 : 4194304 * y ≤ 4194305 * x := by omega
    have h2 := sq_lit h1
    clear h h1 hx
    generalize y * y = a at *
    generalize x * x = b at *
    generalize H * H = c at *
    omega
theorem sum_scaled {f g : Nat → Nat} {HH RR : Nat} (n : Nat) : (∀ j, j < n → 1048576 * (f j * HH) ≤ 1048577 * (g j * RR) + 2 ^ 69 * HH) → 1048576 * (sumN f n * HH) ≤ 1048577 * (sumN g n * RR) + n * (2 ^ 69 * HH) := by
  induction n with
  | zero => intro _; simp [sumN]
  | succ n ih =>
    intro h
    have h1 := ih (fun j hj => h j (by omega))
    have h2 := h n (by omega)
    rw [sumN, sumN, Nat.add_mul, Nat.add_mul, Nat.add_mul n]
    generalize sumN f n * HH = a at *
    generalize sumN g n * RR = b at *
    generalize f n * HH = c at *
    generalize g n * RR = d at *
    generalize 2 ^ 69 * HH = e at *
    generalize n * e = k at *
    omega
theorem pq_scaled {O O' P P' : Nat → Int} {j H R : Nat} (h1 : 2 ^ 23 * ((O j).natAbs * H) ≤ (2 ^ 23 + 1) * ((P j).natAbs * R) + 2 ^ 23 * H) (h2 : 2 ^ 23 * ((O' j).natAbs * H) ≤ (2 ^ 23 + 1) * ((P' j).natAbs * R) + 2 ^ 23 * H) :
    1048576 * (pq O O' j * (H * H)) ≤ 1048577 * (pq P P' j * (R * R)) + 2 ^ 69 * (H * H) := by
  have a := sq_scaled h1
  have b := sq_scaled h2
  have e : ∀ x y : Nat, x * y * (x * y) = x * x * (y * y) := fun x y => by simp only [Nat.mul_assoc, Nat.mul_left_comm]
  rw [e, e] at a b
  unfold pq
  rw [Nat.add_mul, Nat.add_mul]
  generalize (O j).natAbs * (O j).natAbs * (H * H) = c at *
  generalize (O' j).natAbs * (O' j).natAbs * (H * H) = d at *
  generalize (P j).natAbs * (P j).natAbs * (R * R) = f at *
  generalize (P' j).natAbs * (P' j).natAbs * (R * R) = g at *
  generalize H * H = k at *
  omega
/-- Weights that are scaled. -/
theorem scaled_any (o : List C64) (hn : o.length ≤ 5) (P Q : Nat → Int) {r R : Nat} (hP : ∀ j : Nat, j < o.length → IsV .f32 (rdOf c64z o (j : Int)).re (P j) ∧ IsV .f32 (rdOf c64z o (j : Int)).im (Q j) ∧ (P j).natAbs ≤ 2 ^ 158 ∧ (Q j).natAbs ≤ 2 ^ 158) (hr : IsV .f32 r (R : Int)) (hR : R ≤ 2 ^ 150) :
    Ends (fun k => impl_scaled.f k o r) (fun u => u.length = o.length ∧ ∀ j : Nat, j < o.length → ∃ O O' : Int, IsV .f32 (rdOf c64z u (j : Int)).re O ∧ IsV .f32 (rdOf c64z u (j : Int)).im O' ∧ 2 ^ 23 * (O.natAbs * 2 ^ 149) ≤ (2 ^ 23 + 1) * ((P j).natAbs * R) + 2 ^ 23 * 2 ^ 149 ∧ 2 ^ 23 * (O'.natAbs * 2 ^ 149) ≤ (2 ^ 23 + 1) * ((Q j).natAbs * R) + 2 ^ 23 * 2 ^ 149) := by
  have step : ∀ j : Nat, j < o.length → ∃ y, impl_ScaleComplex.f (rdOf c64z o (j : Int)) r = some y ∧ ∃ O O' : Int, IsV .f32 y.re O ∧ IsV .f32 y.im O' ∧ 2 ^ 23 * (O.natAbs * 2 ^ 149) ≤ (2 ^ 23 + 1) * ((P j).natAbs * R) + 2 ^ 23 * 2 ^ 149 ∧ 2 ^ 23 * (O'.natAbs * 2 ^ 149) ≤ (2 ^ 23 + 1) * ((Q j).natAbs * R) + 2 ^ 23 * 2 ^ 149 := by
    intro j hj
    obtain ⟨p1, p2, p3, p4⟩ := hP j hj
    obtain ⟨w, O, e1, i1, n1⟩ := part_scaled p1 p3 hr hR
    obtain ⟨v, O', e2, i2, n2⟩ := part_scaled p2 p4 hr hR
    obtain ⟨o1, q1⟩ := fok_some e1
    obtain ⟨o2, q2⟩ := fok_some e2
    refine ⟨⟨w, v⟩, ?_, O, O', i1, i2, n1, n2⟩
    unfold impl_ScaleComplex.f
    rw [if_pos o1, if_pos o2, q1, q2]
  generalize 2 ^ 23 + 1 = k1 at *
  obtain ⟨H, hH⟩ := ex_eq (2 ^ 149)
  rw [hH] at step ⊢
  have loop : ∀ (d : Nat) (u : List C64), u.length + d = o.length → (∀ j : Nat, j < u.length → ∃ O O' : Int, IsV .f32 (rdOf c64z u (j : Int)).re O ∧ IsV .f32 (rdOf c64z u (j : Int)).im O' ∧ 2 ^ 23 * (O.natAbs * H) ≤ k1 * ((P j).natAbs * R) + 2 ^ 23 * H ∧ 2 ^ 23 * (O'.natAbs * H) ≤ k1 * ((Q j).natAbs * R) + 2 ^ 23 * H) →
      Ends (fun k => impl_scaled.l0 k r u o (o.length : Int) (u.length : Int)) (fun u => u.length = o.length ∧ ∀ j : Nat, j < o.length → ∃ O O' : Int, IsV .f32 (rdOf c64z u (j : Int)).re O ∧ IsV .f32 (rdOf c64z u (j : Int)).im O' ∧ 2 ^ 23 * (O.natAbs * H) ≤ k1 * ((P j).natAbs * R) + 2 ^ 23 * H ∧ 2 ^ 23 * (O'.natAbs * H) ≤ k1 * ((Q j).natAbs * R) + 2 ^ 23 * H) := by
    intro d
    induction d with
    | zero =>
      intro u hu h
      refine Ends.step (h := fun _ => some u) (fun k => ?_) (Ends.now ⟨by omega, fun j hj => h j (by omega)⟩)
      show impl_scaled.l0 (k + 1) _ _ _ _ _ = _
      rw [impl_scaled.l0, if_neg (by omega)]
    | succ d ih =>
      intro u hu h
      obtain ⟨y, e, hy⟩ := step u.length (by omega)
      refine Ends.step (fun k => ?_) (ih (u ++ [y]) (by simp; omega) (fun j hj => ?_))
      · show impl_scaled.l0 (k + 1) _ _ _ _ _ = impl_scaled.l0 k _ _ _ _ _
        rw [impl_scaled.l0, if_pos (by omega), if_pos (by omega), if_pos (by omega), e]
        simp only [Option.bind_some]
        rw [if_pos (by omega), w64 (by omega) (by omega), List.length_append, List.length_singleton, Int.natCast_add]
        rfl
      · rw [List.length_append, List.length_singleton] at hj
        rw [rdOf_snoc]
        by_cases c : j < u.length
        · rw [if_pos c]; exact h j c
        · obtain rfl : j = u.length := by omega
          rw [if_neg c, if_pos rfl]; exact hy
  exact Ends.congr (fun k => rfl) (loop o.length [] (by simp) (fun j hj => by simp at hj))
end Go.Proofs.Ytnfcbacdggkfeaa.PlainBd
