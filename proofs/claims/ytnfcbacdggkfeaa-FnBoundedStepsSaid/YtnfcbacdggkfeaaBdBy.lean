/-
  One by the root of a power: its square times the power is near one.
-/
import Derived.Test.YtnfcbacdggkfeaaBx2
import Derived.Test.YtnfcbacdggkfeaaBdPow
import Derived.Test.YtnfcbacdggkfeaaPlainRel
namespace Go.Proofs.Ytnfcbacdggkfeaa.PlainBd
open Go.RowKit Go.Proofs.YtnfcbacdggkfeaaW.PrintWords Go.Proofs.YtnfcbacdggkfeaaW.PrintLast Go.Proofs.YtnfcbacdggkfeaaW.PrintMore
open Go.Proofs.Ytnfcbacdggkfeaa.B Go.Proofs.Ytnfcbacdggkfeaa.PlainP

theorem E20 : 1010000 ≤ 2 ^ 20 := by decide
/-- What is off by so many 2^-F-th parts differs by as many 2^-20-th parts at most. -/
theorem near_rel {F t V X : Nat} (hF : 20 ≤ F) (h1 : V * 2 ^ F ≤ X * 2 ^ F + t * X) (h2 : X * 2 ^ F ≤ V * 2 ^ F + t * X) : RelE (2 ^ 20) t V X := by
  obtain ⟨E, hE⟩ : ∃ E, E = 2 ^ 20 := ⟨_, rfl⟩
  have hEp : 0 < E := by rw [hE]; exact Nat.two_pow_pos _
  obtain ⟨P, hP⟩ : ∃ P, 2 ^ F = E * P := ⟨2 ^ (F - 20), by rw [hE, ← Nat.pow_add]; congr 1; omega⟩
  have hPp : 0 < P := by
    have := Nat.two_pow_pos F
    rw [hP] at this
    exact Nat.pos_of_mul_pos_left this
  rw [← hE]
  rw [hP] at h1 h2
  have hP1 : t * X ≤ t * X * P := Nat.le_mul_of_pos_right _ hPp
  constructor
  · refine Nat.le_of_mul_le_mul_right (c := P) ?_ hPp
    have e1 : X * (E + t) * P = X * (E * P) + t * X * P := by grind
    have e2 : V * E * P = V * (E * P) := by grind
    omega
  · rcases Nat.le_total E t with h | h
    · rw [Nat.sub_eq_zero_of_le h]
      omega
    · obtain ⟨u, hu⟩ : ∃ u, E = t + u := ⟨E - t, by omega⟩
      rw [show E - t = u by omega]
      refine Nat.le_of_mul_le_mul_right (c := P) ?_ hPp
      have e1 : X * u * P + t * X * P = X * (E * P) := by rw [hu]; grind
      have e2 : V * E * P = V * (E * P) := by grind
      omega
theorem rel_half {t X Y : Nat} (ht : t ≤ 1000) (h : RelE (2 ^ 20) t X Y) : Y ≤ 2 * X ∧ X ≤ 2 * Y := by
  obtain ⟨a, b⟩ := h
  obtain ⟨E, hE⟩ : ∃ E, E = 2 ^ 20 := ⟨_, rfl⟩
  have hEp : 1010000 ≤ E := by rw [hE]; exact E20
  rw [← hE] at a b
  constructor
  · refine Nat.le_of_mul_le_mul_right (c := E) ?_ (by omega)
    have : Y * E ≤ Y * (2 * (E - t)) := Nat.mul_le_mul_left _ (by omega)
    have e : Y * (2 * (E - t)) = 2 * (Y * (E - t)) := by simp only [Nat.mul_left_comm]
    have e2 : 2 * X * E = 2 * (X * E) := Nat.mul_assoc _ _ _
    omega
  · refine Nat.le_of_mul_le_mul_right (c := E) ?_ (by omega)
    have : Y * (E + t) ≤ Y * (2 * E) := Nat.mul_le_mul_left _ (by omega)
    have e : Y * (2 * E) = 2 * Y * E := by simp only [Nat.mul_left_comm, Nat.mul_assoc]
    omega
theorem pow_bd (a b c n : Nat) (h : a + b = c) (hn : n ≤ 2 ^ a) : n * 2 ^ b ≤ 2 ^ c := by subst h; rw [Nat.pow_add]; exact Nat.mul_le_mul_right _ hn
theorem pow_dbl (a b : Nat) (h : a + 1 = b) : 2 * 2 ^ a = 2 ^ b := by subst h; rw [Nat.pow_succ]; omega
theorem pow_mm (a b c : Nat) (h : a + b = c) : 2 ^ a * 2 ^ b = 2 ^ c := by subst h; rw [Nat.pow_add]
theorem pow_lt' (a b : Nat) (h : a < b) : 2 ^ a < 2 ^ b := Nat.pow_lt_pow_right (by decide) h
theorem low_of {V T X Y Z A : Nat} (b1 : T ≤ 2 * (V * V)) (hA : A ≤ T) (hX : X * X = Y) (h2 : 2 * Y = Z) (hlt : Z < A) : X ≤ V := by
  rcases Nat.lt_or_ge V X with hl | hl
  · exfalso
    have := Nat.mul_le_mul (Nat.le_of_lt hl) (Nat.le_of_lt hl)
    omega
  · exact hl
theorem high_of {V T B C Y Z : Nat} (b2 : V * V ≤ 2 * T) (hB : T ≤ B) (h2 : 2 * B = C) (hY : Y * Y = Z) (hlt : C < Z) : V < Y := by
  rcases Nat.lt_or_ge V Y with hl | hl
  · exact hl
  · exfalso
    have := Nat.mul_le_mul hl hl
    omega
theorem off_pos {F : Nat} {v x : Int} (h : Off F v x) (hx : 0 < x) : 0 ≤ v := by
  unfold Off at h
  rcases Int.lt_or_le v 0 with hv | hv
  · exfalso
    have h1 : (v - x).natAbs * 1 ≤ (v - x).natAbs * 2 ^ F := Nat.mul_le_mul_left _ (Nat.two_pow_pos F)
    omega
  · exact hv
theorem scale_pos {c : Int} {X : Nat} (hX : 0 < X) (h : 0 ≤ c * (X : Int)) : 0 ≤ c := by
  rcases Int.lt_or_le c 0 with hc | hc
  · exfalso
    have := Int.mul_neg_of_neg_of_pos hc (show (0 : Int) < (X : Int) by omega)
    omega
  · exact hc
theorem room_of {T B C Z : Nat} (hB : T ≤ B) (h2 : 2 * B = C) (hlt : C < Z) : 2 * T < Z := by omega
/-- The root of a power of at least one 256th part. -/
theorem root_some {w n : Nat} (h : IsV .f32 w ((n : Int) * ((2 ^ 141 : Nat) : Int))) (h0 : 1 ≤ n) (h1 : n ≤ 2 ^ 14) :
    ∃ q Q : Nat, impl_RootNumber.f w = some q ∧ IsV .f32 q (Q : Int) ∧ RelE (2 ^ 20) 8 (Q * 2 ^ 925 * (Q * 2 ^ 925)) (n * 2 ^ 2140) := by
  obtain ⟨y, ey, iy⟩ := widen_V h (by
    rw [abs_pow, Int.natAbs_natCast]
    have g1 : n * 2 ^ 141 ≤ 2 ^ 14 * 2 ^ 141 := Nat.mul_le_mul_right _ h1
    rw [← Nat.pow_add] at g1
    exact Nat.lt_of_le_of_lt g1 (Nat.pow_lt_pow_right (by decide) (by decide)))
  have iy' : IsV .f64 y ((n : Int) * ((2 ^ 1066 : Nat) : Int)) := (pow_cast (a := 141) (b := 925) (c := 1066) rfl (n : Int)) ▸ iy
  have hT : ((n : Int) * ((2 ^ 1066 : Nat) : Int)).natAbs * 2 ^ KK .f64 = n * 2 ^ 2140 := by
    have e : ∀ (a b c m : Nat), a + b = c → ((m : Int) * ((2 ^ a : Nat) : Int)).natAbs * 2 ^ b = m * 2 ^ c := fun a b c m hc => by
      subst hc
      rw [abs_pow, Int.natAbs_natCast, Nat.mul_assoc, ← Nat.pow_add]
    exact e 1066 (KK .f64) 2140 n rfl
  have hTn : 2 ^ 2140 ≤ n * 2 ^ 2140 := Nat.le_mul_of_pos_left _ h0
  have hTx : n * 2 ^ 2140 ≤ 2 ^ 2154 := pow_bd 14 2140 2154 n rfl h1
  have d1 : 2 * 2 ^ 2154 = 2 ^ 2155 := pow_dbl 2154 2155 rfl
  have d2 : 2 ^ (FF .f64 + 1100) * 2 ^ (FF .f64 + 1100) = 2 ^ 2304 := pow_mm _ _ 2304 rfl
  have d3 : 2 ^ 2155 < 2 ^ 2304 := pow_lt' 2155 2304 (by decide)
  have d4 : 2 ^ 977 * 2 ^ 977 = 2 ^ 1954 := pow_mm 977 977 1954 rfl
  have d5 : 2 * 2 ^ 1954 = 2 ^ 1955 := pow_dbl 1954 1955 rfl
  have d6 : 2 ^ 1955 < 2 ^ 2140 := pow_lt' 1955 2140 (by decide)
  have d7 : 2 ^ (FF .f32 + 200 + 925) * 2 ^ (FF .f32 + 200 + 925) = 2 ^ 2296 := pow_mm _ _ 2296 rfl
  have d8 : 2 ^ 2155 < 2 ^ 2296 := pow_lt' 2155 2296 (by decide)
  have hpos := Nat.two_pow_pos 1066
  have ha : ∀ X : Nat, 0 < X → 0 < (n : Int) * (X : Int) := fun X hX => Int.mul_pos (by omega) (by omega)
  obtain ⟨r, V, er, iV, s1, s2⟩ := sqrt_V 1100 (by decide) iy' (ha _ hpos) (by rw [hT, d2]; exact room_of hTx d1 d3)
  rw [hT] at s1 s2
  have r1 := near_rel (F := FF .f64) (t := 4) (by decide) s1 s2
  obtain ⟨b1, b2⟩ := rel_half (by decide) r1
  have hV1 : 2 ^ 977 ≤ V := low_of b1 hTn d4 d5 d6
  have hV2 : V < 2 ^ (FF .f32 + 200 + 925) := high_of b2 hTx d1 d7 d8
  obtain ⟨q, c, eq, iq, ho⟩ := narrow_V 200 (by decide) iV (.inr (by rw [Int.natAbs_natCast]; exact hV1)) (by rw [Int.natAbs_natCast]; exact hV2)
  have hVp : 0 < V := Nat.lt_of_lt_of_le (Nat.two_pow_pos 977) hV1
  have hc := scale_pos (Nat.two_pow_pos 925) (off_pos ho (by omega))
  obtain ⟨Q, rfl⟩ := Int.eq_ofNat_of_zero_le hc
  have r2 := off_rel (by decide) ho
  have ec : ∀ X : Nat, ((Q : Int) * (X : Int)).natAbs = Q * X := fun X => by rw [Int.natAbs_mul, Int.natAbs_natCast, Int.natAbs_natCast]
  rw [ec, Int.natAbs_natCast] at r2
  have r3 := RelE.trans E20 (RelE.sq E20 r2 (by decide)) r1 (by decide) (by decide)
  obtain ⟨o1, q1⟩ := fcok_some ey 34 37
  obtain ⟨o2, q2⟩ := fcok_some eq 37 34
  refine ⟨q, Q, ?_, iq, r3⟩
  unfold impl_RootNumber.f
  rw [if_pos o1, q1, show math_Sqrt.f y = some r from er]
  simp only [Option.bind_some]
  rw [if_pos o2, q2]
theorem one_V : IsV .f32 1065353216 ((2 ^ 149 : Nat) : Int) := ⟨false, 8388608, 126, by decide +kernel, by decide +kernel, by decide⟩
theorem abs_rel {F t v x : Nat} (hF : 20 ≤ F) (h : ((v : Int) - (x : Int)).natAbs * 2 ^ F ≤ t * x) : RelE (2 ^ 20) t v x := by
  have a1 : v ≤ x + ((v : Int) - (x : Int)).natAbs := by omega
  have a2 : x ≤ v + ((v : Int) - (x : Int)).natAbs := by omega
  have b1 := Nat.mul_le_mul_right (2 ^ F) a1
  have b2 := Nat.mul_le_mul_right (2 ^ F) a2
  rw [Nat.add_mul] at b1 b2
  exact near_rel hF (by omega) (by omega)
theorem lt_four {X Y Z W R L : Nat} (g4 : 2 * X = Y) (g5 : 2 * Y = Z) (g6 : Z < W) (g3 : W ≤ R) (g1 : L = X) : 4 * L < R := by omega
theorem cancel_pow {t Q n a b c d : Nat} (h1 : a + a = b) (h2 : c + b = d) (h : RelE (2 ^ 20) t (Q * 2 ^ a * (Q * 2 ^ a)) (n * 2 ^ d)) : RelE (2 ^ 20) t (Q * Q) (n * 2 ^ c) := by
  subst h2
  subst h1
  rw [Nat.pow_add 2 c, ← Nat.mul_assoc n, show Q * 2 ^ a * (Q * 2 ^ a) = Q * Q * (2 ^ a * 2 ^ a) by simp only [Nat.mul_assoc, Nat.mul_left_comm], ← Nat.pow_add] at h
  exact RelE.cancel (Nat.two_pow_pos _) h
/-- One by the root of n 256th parts. -/
theorem by_some {w n : Nat} (h : IsV .f32 w ((n : Int) * ((2 ^ 141 : Nat) : Int))) (h0 : 1 ≤ n) (h1 : n ≤ 2 ^ 14) :
    ∃ q Q B : Nat, impl_RootNumber.f w = some q ∧ FOk .quo .f32 1065353216 q = true ∧ IsV .f32 (fq .quo .f32 1065353216 q) (B : Int) ∧ RelE (2 ^ 20) 8 (Q * Q) (n * 2 ^ 290) ∧ RelE (2 ^ 20) 3 (B * Q) (2 ^ 149 * 2 ^ 149) := by
  obtain ⟨q, Q, e, iq, r⟩ := root_some h h0 h1
  have r1 := cancel_pow (a := 925) (b := 1850) (c := 290) (d := 2140) rfl rfl r
  obtain ⟨b1, b2⟩ := rel_half (by decide) r1
  have t1 : n * 2 ^ 290 ≤ 2 ^ 304 := pow_bd 14 290 304 n rfl h1
  have t2 : 2 ^ 290 ≤ n * 2 ^ 290 := Nat.le_mul_of_pos_left _ h0
  have hQ1 : 2 ^ 144 ≤ Q := low_of b1 t2 (pow_mm 144 144 288 rfl) (pow_dbl 288 289 rfl) (pow_lt' 289 290 (by decide))
  have hQ2 : Q < 2 ^ 153 := high_of b2 t1 (pow_dbl 304 305 rfl) (pow_mm 153 153 306 rfl) (pow_lt' 305 306 (by decide))
  obtain ⟨b, c, eb, ib, ho⟩ := quo_V 250 149 153 (by decide) (by decide) one_V iq (by rw [Int.natAbs_natCast]; exact Nat.le_refl _) (by have := Nat.two_pow_pos 144; omega) (by rw [Int.natAbs_natCast]; exact hQ2) (by
    rw [Int.natAbs_natCast, Int.natAbs_natCast]
    have g1 : 2 ^ 149 * 2 ^ KK .f32 = 2 ^ 298 := pow_mm 149 (KK .f32) 298 rfl
    have g2 : 2 ^ 144 * 2 ^ (FF .f32 + 250) = 2 ^ 417 := pow_mm 144 (FF .f32 + 250) 417 rfl
    have g3 : 2 ^ 144 * 2 ^ (FF .f32 + 250) ≤ Q * 2 ^ (FF .f32 + 250) := Nat.mul_le_mul_right _ hQ1
    have g4 : 2 * 2 ^ 298 = 2 ^ 299 := pow_dbl 298 299 rfl
    have g5 : 2 * 2 ^ 299 = 2 ^ 300 := pow_dbl 299 300 rfl
    have g6 := pow_lt' 300 417 (by decide)
    exact lt_four g4 g5 g6 (Nat.le_trans (Nat.le_of_eq g2.symm) g3) g1)
  have hX : 2 ^ 149 * 2 ^ KK .f32 = 2 ^ 149 * 2 ^ 149 := rfl
  rw [Int.natAbs_natCast, hX, show ((2 ^ 149 : Nat) : Int) * ((2 ^ KK .f32 : Nat) : Int) = ((2 ^ 149 * 2 ^ 149 : Nat) : Int) from (Int.natCast_mul _ _).symm] at ho
  have hXp : 0 < 2 ^ 149 * 2 ^ 149 := Nat.mul_pos (Nat.two_pow_pos 149) (Nat.two_pow_pos 149)
  have hQp : 0 < Q := Nat.lt_of_lt_of_le (Nat.two_pow_pos 144) hQ1
  have hR : ∀ v x : Nat, ((v : Int) - (x : Int)).natAbs * 2 ^ FF .f32 ≤ 3 * x → RelE (2 ^ 20) 3 v x := fun v x hh => abs_rel (by decide) hh
  generalize 2 ^ 149 * 2 ^ 149 = X at ho hXp ⊢
  have hc : 0 ≤ c := by
    refine scale_pos hQp ?_
    rcases Int.lt_or_le (c * (Q : Int)) 0 with hv | hv
    · exfalso
      have h8 : (c * (Q : Int) - (X : Int)).natAbs * 8 ≤ (c * (Q : Int) - (X : Int)).natAbs * 2 ^ FF .f32 := Nat.mul_le_mul_left _ (by decide)
      omega
    · exact hv
  obtain ⟨B, rfl⟩ := Int.eq_ofNat_of_zero_le hc
  rw [← Int.natCast_mul] at ho
  obtain ⟨o, qe⟩ := fok_some eb
  exact ⟨q, Q, B, e, o, by rw [qe]; exact ib, r1, hR _ _ ho⟩
theorem sq_lt {X Y Z A B : Nat} (h : X * X ≤ A) (hA : A ≤ B) (hY : Y * Y = Z) (hlt : B < Z) : X < Y := by
  rcases Nat.lt_or_ge X Y with hl | hl
  · exact hl
  · exfalso
    have := Nat.mul_le_mul hl hl
    omega
/-- The square of one by the root, times the power, is near one. -/
theorem by_near {B Q n X Y Z : Nat} (r1 : RelE (2 ^ 20) 8 (Q * Q) (n * X)) (r2 : RelE (2 ^ 20) 3 (B * Q) Y) (hZ : Y * Y = Z * X) (hX : 0 < X) : RelE (2 ^ 20) 17 (B * B * n) Z := by
  have a1 := RelE.sq E20 r2 (by decide)
  have a2 := RelE.symm E20 (RelE.scale (B * B) r1) (by decide)
  rw [show B * Q * (B * Q) = Q * Q * (B * B) by grind, hZ] at a1
  have a3 := RelE.trans E20 a2 a1 (by decide) (by decide)
  rw [show n * X * (B * B) = B * B * n * X by grind] at a3
  exact RelE.cancel hX a3
end Go.Proofs.Ytnfcbacdggkfeaa.PlainBd
