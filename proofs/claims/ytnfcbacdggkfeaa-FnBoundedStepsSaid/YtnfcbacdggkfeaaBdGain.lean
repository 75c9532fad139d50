/-
  The gain of a step, and the error's share that it gives to the weights.
-/
import Derived.Test.YtnfcbacdggkfeaaBx2
import Derived.Test.YtnfcbacdggkfeaaBdStep
namespace Go.Proofs.Ytnfcbacdggkfeaa.PlainBd
open Ieee Go.RowKit Go.Proofs.YtnfcbacdggkfeaaW.PrintWords Go.Proofs.YtnfcbacdggkfeaaW.PrintLast Go.Proofs.YtnfcbacdggkfeaaW.PrintMore
open Go.Proofs.Ytnfcbacdggkfeaa.B Go.Proofs.Ytnfcbacdggkfeaa.PlainP

theorem zero_mag {k : FloatKind} {w : Nat} (h : IsV k w 0) : ∃ s e, k.decode w = .number s 0 e := by
  obtain ⟨s, m, j, d, v, -⟩ := h
  rcases Nat.mul_eq_zero.1 (sg_zero v) with h | h
  · subst h; exact ⟨s, _, d⟩
  · have := Nat.two_pow_pos j; omega
theorem zero_by {k : FloatKind} {x y : Nat} {b : Int} (hx : IsV k x 0) (hy : IsV k y b) (hb : b ≠ 0) : ∃ w, floatBits .quo k x y = some w ∧ IsV k w 0 := by
  obtain ⟨s, e, d1⟩ := zero_mag hx
  obtain ⟨t, n, j, d2, v2, -⟩ := hy
  have hn : n ≠ 0 := fun h => hb (by rw [← v2, h, Nat.zero_mul]; cases t <;> rfl)
  refine ⟨k.encode (.number (s ^^ t) 0 (e - (-(KK k : Int) + (j : Int)) - ((k.format.fractionBits + 2 + n.log2 - Nat.log2 0 : Nat) : Int) - 1)), ?_, zero_V _ _ _⟩
  show (Datum.quotient (k.format.fractionBits + 2) (k.decode x) (k.decode y)).map k.format.write = _
  rw [d1, d2]
  simp only [Datum.quotient, if_neg hn, Nat.zero_shiftLeft, Nat.zero_div, Nat.zero_mod, Nat.mul_zero]
  rfl
theorem room_GN {G N V : Nat} (hG : 1048576 * (G * (256 + N)) ≤ 1048577 * V) (hN : N ≤ 10240) : 1048578 * (G * N) ≤ 1048576 * V := by
  have a1 : 10496 * (G * N) ≤ 10240 * (G * (256 + N)) := by
    have h1 : G * (10496 * N) ≤ G * (10240 * (256 + N)) := Nat.mul_le_mul_left _ (by rw [Nat.mul_add]; omega)
    rw [Nat.mul_left_comm, Nat.mul_left_comm G 10240] at h1
    exact h1
  generalize G * N = x at *
  generalize G * (256 + N) = y at *
  omega
theorem contract {er C : Int} {G N V : Nat} (h : (C * 2 ^ 8 - er * (G : Int)).natAbs * 2 ^ 23 ≤ (er * (G : Int)).natAbs + 2 ^ 31) (hG : 1048576 * (G * (256 + N)) ≤ 1048577 * V) (hN : N ≤ 10240) :
    (er * (V : Int) - C * 2 ^ 8 * (N : Int)).natAbs ≤ er.natAbs * V + 2 ^ 8 * N := by
  have hGN := room_GN hG hN
  obtain ⟨n, hn⟩ : ∃ n, n = er.natAbs := ⟨_, rfl⟩
  have hz : 1048578 * (n * (G * N)) ≤ 1048576 * (n * V) := by
    have := Nat.mul_le_mul_left n hGN
    rw [Nat.mul_left_comm n 1048578, Nat.mul_left_comm n 1048576] at this
    exact this
  have h1 := times_T (T := N) h
  have e1 : ((er * (G : Int)).natAbs + 2 ^ 31) * N = n * (G * N) + 2 ^ 31 * N := by rw [Nat.add_mul, Int.natAbs_mul, Int.natAbs_natCast, hn, Nat.mul_assoc]
  rw [Int.sub_mul, e1] at h1
  rw [← hn]
  clear h hG hGN e1
  rcases Int.le_total 0 er with hs | hs
  · obtain rfl : er = (n : Int) := by omega
    have e2 : (n : Int) * (G : Int) * (N : Int) = ((n * (G * N) : Nat) : Int) := by rw [Int.natCast_mul, Int.natCast_mul, Int.mul_assoc]
    have e3 : (n : Int) * (V : Int) = ((n * V : Nat) : Int) := (Int.natCast_mul _ _).symm
    rw [e2] at h1
    rw [e3]
    clear e2 e3 hn hs
    generalize n * (G * N) = Z at *
    generalize n * V = Y at *
    generalize C * 2 ^ 8 * (N : Int) = c at *
    omega
  · obtain rfl : er = -(n : Int) := by omega
    have e2 : -(n : Int) * (G : Int) * (N : Int) = -((n * (G * N) : Nat) : Int) := by rw [Int.neg_mul, Int.neg_mul, Int.natCast_mul, Int.natCast_mul, Int.mul_assoc]
    have e3 : -(n : Int) * (V : Int) = -((n * V : Nat) : Int) := by rw [Int.neg_mul, Int.natCast_mul]
    rw [e2] at h1
    rw [e3]
    clear e2 e3 hn hs
    generalize n * (G * N) = Z at *
    generalize n * V = Y at *
    generalize C * 2 ^ 8 * (N : Int) = c at *
    omega
theorem share_le {er C : Int} {G N H : Nat} (h : (C * 2 ^ 8 - er * (G : Int)).natAbs * 2 ^ 23 ≤ (er * (G : Int)).natAbs + 2 ^ 31) (hG : 1048576 * (G * (256 + N)) ≤ 1048577 * (256 * H)) :
    1024 * (256 * C.natAbs) ≤ 1025 * (er.natAbs * H) + 2 ^ 28 := by
  have a1 : 1048576 * G ≤ 1048577 * H := by
    clear h
    have : 256 * G ≤ G * (256 + N) := by rw [Nat.mul_add, Nat.mul_comm]; omega
    generalize G * (256 + N) = y at *
    omega
  have a2 : 1048576 * (er.natAbs * G) ≤ 1048577 * (er.natAbs * H) := by
    have := Nat.mul_le_mul_left er.natAbs a1
    rw [Nat.mul_left_comm, Nat.mul_left_comm _ 1048577] at this
    exact this
  have e1 : (er * (G : Int)).natAbs = er.natAbs * G := by rw [Int.natAbs_mul, Int.natAbs_natCast]
  have t1 : 256 * C.natAbs ≤ (C * 2 ^ 8 - er * (G : Int)).natAbs + (er * (G : Int)).natAbs := by clear h hG a1 a2 e1; omega
  rw [e1] at h t1
  clear hG a1 e1
  generalize (C * 2 ^ 8 - er * (G : Int)).natAbs = x at *
  generalize er.natAbs * G = Z at *
  generalize er.natAbs * H = Y at *
  omega
theorem one_256 : IsV .f32 1065353216 ((256 : Int) * ((2 ^ 141 : Nat) : Int)) := ⟨false, 8388608, 126, by decide +kernel, by decide +kernel, by decide⟩
theorem quo_fin {G N t K A B V : Nat} {c : Int} (hK : 0 < K) (hc : c = (G : Int)) (h : (c * (((256 : Int) + (N : Int)) * (K : Int)) - (t : Int) * (A : Int) * (B : Int)).natAbs * 2 ^ 23 ≤ 3 * (t * A * B)) (ht : t * A * B ≤ V * K) : 1048576 * (G * (256 + N)) ≤ 1048577 * V := by
  subst hc
  have e : (G : Int) * (((256 : Int) + (N : Int)) * (K : Int)) = ((G * (256 + N) * K : Nat) : Int) := by
    rw [Nat.mul_assoc, Int.natCast_mul, Int.natCast_mul, Int.natCast_add]
    rfl
  rw [e, ← Int.natCast_mul, ← Int.natCast_mul] at h
  refine Nat.le_of_mul_le_mul_right (c := K) ?_ hK
  rw [Nat.mul_assoc, Nat.mul_assoc 1048577]
  clear e
  generalize G * (256 + N) * K = y at *
  generalize t * A * B = x at *
  generalize V * K = z at *
  omega
theorem tP (a b c d t : Nat) (ht : t ≤ 8) (h : a + b + 3 = c + d) : t * 2 ^ a * 2 ^ b ≤ 2 ^ c * 2 ^ d := by
  rw [Nat.mul_assoc, ← Nat.pow_add, ← Nat.pow_add, ← h, Nat.pow_add 2 (a + b) 3, Nat.mul_comm]
  exact Nat.mul_le_mul_left _ ht
theorem four_fin {x y p q r s : Nat} (h1 : x ≤ p) (h2 : 2 * p = q) (h3 : 2 * q = r) (h4 : r < s) (h5 : s ≤ y) : 4 * x < y := by omega
theorem abs_mul2 (t A B : Nat) (c : Int) : (c * (B : Int) - (t : Int) * (A : Int) * (B : Int)) = (c * (B : Int) - ((t * A * B : Nat) : Int)) := by rw [Int.natCast_mul, Int.natCast_mul]
theorem c_nonneg {c b : Int} {t A B : Nat} (hb : 0 < b) (hx : 0 < t * A * B) (h : (c * b - (t : Int) * (A : Int) * (B : Int)).natAbs * 2 ^ 23 ≤ 3 * (t * A * B)) : 0 ≤ c := by
  rw [← Int.natCast_mul, ← Int.natCast_mul] at h
  generalize t * A * B = x at *
  rcases Int.lt_or_le c 0 with hc | hc
  · exfalso
    have := Int.mul_neg_of_neg_of_pos hc hb
    generalize c * b = y at *
    omega
  · exact hc
/-- The gain of a step: at most one by one and the power. -/
theorem gain_some {st al t N : Nat} (hst : IsV .f32 st ((t : Int) * ((2 ^ 146 : Nat) : Int))) (ht : t ≤ 8) (hal : IsV .f32 al ((N : Int) * ((2 ^ 141 : Nat) : Int))) (hN : N ≤ 10240) :
    ∃ G : Nat, FOk .add .f32 1065353216 al = true ∧ FOk .quo .f32 st (fq .add .f32 1065353216 al) = true ∧ IsV .f32 (fq .quo .f32 st (fq .add .f32 1065353216 al)) (G : Int) ∧ 1048576 * (G * (256 + N)) ≤ 1048577 * 2 ^ 157 := by
  obtain ⟨s, es, is⟩ := add_T (by decide) (by decide) one_256 hal (Nat.lt_of_le_of_lt (show (256 + (N : Int)).natAbs ≤ 10496 by omega) (by decide))
  obtain ⟨o1, q1⟩ := fok_some es
  rw [q1]
  have hK := Nat.two_pow_pos 141
  have hb : 0 < (256 + (N : Int)) * ((2 ^ 141 : Nat) : Int) := Int.mul_pos (by omega) (by omega)
  rcases Nat.eq_zero_or_pos t with h0 | h0
  · subst h0
    rw [show ((0 : Nat) : Int) * ((2 ^ 146 : Nat) : Int) = 0 from Int.zero_mul _] at hst
    obtain ⟨w, ew, iw⟩ := zero_by hst is (by omega)
    obtain ⟨o2, q2⟩ := fok_some ew
    rw [q2]
    exact ⟨0, o1, o2, iw, by simp⟩
  · have ea : ((t : Int) * ((2 ^ 146 : Nat) : Int)).natAbs = t * 2 ^ 146 := by rw [abs_pow, Int.natAbs_natCast]
    have eb : ((256 + (N : Int)) * ((2 ^ 141 : Nat) : Int)).natAbs = (256 + N) * 2 ^ 141 := by
      rw [abs_pow]
      congr 1
    have r1 : 2 ^ 146 ≤ t * 2 ^ 146 := Nat.le_mul_of_pos_left _ h0
    have r2 : (256 + N) * 2 ^ 141 < 2 ^ 155 := Nat.lt_of_lt_of_le (Nat.mul_lt_mul_of_pos_right (show 256 + N < 2 ^ 14 by show 256 + N < 16384; omega) hK) (Nat.le_of_eq (pow16 14 141 155 rfl))
    have r3 : 4 * (t * 2 ^ 146 * 2 ^ KK .f32) < (256 + N) * 2 ^ 141 * 2 ^ (FF .f32 + 250) := by
      have a1 := pow_bd 4 146 150 t rfl (show t ≤ 16 by omega)
      have a2 := pow16 150 (KK .f32) 299 rfl
      have a3 := pow_dbl 299 300 rfl
      have a3' := pow_dbl 300 301 rfl
      have a4 : 2 ^ 149 ≤ (256 + N) * 2 ^ 141 := by
        have := pow16 8 141 149 rfl
        rw [← this]
        exact Nat.mul_le_mul_right _ (show 256 ≤ 256 + N by omega)
      have a5 := pow16 149 (FF .f32 + 250) 422 rfl
      have a6 := pow_lt' 301 422 (by decide)
      have a7 := Nat.mul_le_mul_right (2 ^ KK .f32) a1
      have a8 := Nat.mul_le_mul_right (2 ^ (FF .f32 + 250)) a4
      rw [a2] at a7
      rw [a5] at a8
      exact four_fin a7 a3 a3' a6 a8
    obtain ⟨w, c, ew, iw, ho⟩ := quo_V 250 146 155 (by decide) (by decide) hst is (by rw [ea]; exact r1) (by omega) (by rw [eb]; exact r2) (by rw [ea, eb]; exact r3)
    obtain ⟨o2, q2⟩ := fok_some ew
    rw [q2]
    have hF : FF .f32 = 23 := rfl
    have hKK : KK .f32 = 149 := rfl
    rw [ea, hF, hKK] at ho
    have hc : 0 ≤ c := by
      exact c_nonneg hb (Nat.mul_pos (Nat.mul_pos h0 (Nat.two_pow_pos _)) (Nat.two_pow_pos _)) ho
    obtain ⟨G, rfl⟩ := Int.eq_ofNat_of_zero_le hc
    refine ⟨G, o1, o2, iw, ?_⟩
    have b1 := tP 146 149 157 141 t ht (by decide)
    exact quo_fin hK rfl ho b1
theorem share_fin {C er : Int} {G K : Nat} (hK : 0 < K) (h : (C * ((256 * K : Nat) : Int) - er * (K : Int) * (G : Int)).natAbs * 2 ^ 23 ≤ (er * (K : Int) * (G : Int)).natAbs + 2 ^ 23 * (256 * K)) : (C * 2 ^ 8 - er * (G : Int)).natAbs * 2 ^ 23 ≤ (er * (G : Int)).natAbs + 2 ^ 31 := by
  have e1 : C * ((256 * K : Nat) : Int) - er * (K : Int) * (G : Int) = (C * 2 ^ 8 - er * (G : Int)) * (K : Int) := by
    rw [Int.sub_mul, Int.natCast_mul, Int.mul_right_comm er, ← Int.mul_assoc]
    rfl
  rw [e1, Int.mul_right_comm er, Int.natAbs_mul, Int.natAbs_mul (er * (G : Int)), Int.natAbs_natCast, Nat.mul_right_comm, show 2 ^ 23 * (256 * K) = 2 ^ 31 * K by rw [← Nat.mul_assoc], ← Nat.add_mul] at h
  exact Nat.le_of_mul_le_mul_right h hK
theorem part_share {v g : Nat} {er : Int} {G : Nat} (h : IsV .f32 v (er * ((2 ^ 141 : Nat) : Int))) (he : er.natAbs ≤ 2 ^ 14) (hg : IsV .f32 g (G : Int)) (hG : G ≤ 2 ^ 150) :
    ∃ (w : Nat) (C : Int), floatBits .mul .f32 v g = some w ∧ IsV .f32 w C ∧ (C * 2 ^ 8 - er * (G : Int)).natAbs * 2 ^ 23 ≤ (er * (G : Int)).natAbs + 2 ^ 31 ∧ (er = 0 → C = 0) := by
  have hr : (er * ((2 ^ 141 : Nat) : Int) * (G : Int)).natAbs < 2 ^ (FF .f32 + 200 + KK .f32) := by
    have a1 := pow_bd 14 141 155 er.natAbs rfl he
    have a2 := pow_mm 155 150 305 rfl
    have a3 := pow_lt' 305 (FF .f32 + 200 + KK .f32) (by decide)
    rw [Int.natAbs_mul, abs_pow, Int.natAbs_natCast]
    exact mul_room a1 hG a2 a3
  obtain ⟨w, C, e, i, ho, hz⟩ := mul_A 200 (by decide) (by decide) h hg hr
  refine ⟨w, C, e, i, ?_, fun h0 => hz (by rw [h0, Int.zero_mul, Int.zero_mul])⟩
  have hF : FF .f32 = 23 := rfl
  have hKK : KK .f32 = 149 := rfl
  rw [hKK, hF] at ho
  rw [Nat.pow_add 2 23 149] at ho
  have h8 := pow16 8 141 149 rfl
  have hK := Nat.two_pow_pos 141
  rw [← h8] at ho
  generalize 2 ^ 141 = K at *
  exact share_fin hK ho
/-- The error's share for the weights. -/
theorem share_some {e : C64} {g G : Nat} {er ei : Int} (h1 : IsV .f32 e.re (er * ((2 ^ 141 : Nat) : Int))) (h2 : IsV .f32 e.im (ei * ((2 ^ 141 : Nat) : Int))) (b1 : er.natAbs ≤ 2 ^ 14) (b2 : ei.natAbs ≤ 2 ^ 14) (hg : IsV .f32 g (G : Int)) (hG : G ≤ 2 ^ 150) :
    ∃ (c : C64) (C D : Int), impl_ScaleComplex.f ⟨e.re, Go.Op.negFloat .f32 e.im⟩ g = some c ∧ IsV .f32 c.re C ∧ IsV .f32 c.im D ∧ (C * 2 ^ 8 - er * (G : Int)).natAbs * 2 ^ 23 ≤ (er * (G : Int)).natAbs + 2 ^ 31 ∧ (D * 2 ^ 8 - -ei * (G : Int)).natAbs * 2 ^ 23 ≤ (-ei * (G : Int)).natAbs + 2 ^ 31 ∧ (er = 0 → ei = 0 → C = 0 ∧ D = 0) := by
  have h2' := neg_V h2
  rw [← Int.neg_mul] at h2'
  obtain ⟨w, C, e1, i1, n1, z1⟩ := part_share h1 b1 hg hG
  obtain ⟨v, D, e2, i2, n2, z2⟩ := part_share h2' (by rw [Int.natAbs_neg]; exact b2) hg hG
  obtain ⟨o1, q1⟩ := fok_some e1
  obtain ⟨o2, q2⟩ := fok_some e2
  refine ⟨⟨w, v⟩, C, D, ?_, i1, i2, n1, n2, fun h h' => ⟨z1 h, z2 (by rw [h']; rfl)⟩⟩
  unfold impl_ScaleComplex.f
  rw [if_pos o1, if_pos o2, q1, q2]
theorem gain_le {G N : Nat} (h : 1048576 * (G * (256 + N)) ≤ 1048577 * 2 ^ 157) : G ≤ 2 ^ 150 := by
  have h1 : 256 * G ≤ G * (256 + N) := by rw [Nat.mul_add, Nat.mul_comm]; omega
  have h2 := pow16 8 149 157 rfl
  have h3 := pow_dbl 149 150 rfl
  generalize 2 ^ 157 = V at *
  generalize 2 ^ 150 = W at *
  generalize 2 ^ 149 = H at *
  generalize G * (256 + N) = y at *
  omega
end Go.Proofs.Ytnfcbacdggkfeaa.PlainBd
