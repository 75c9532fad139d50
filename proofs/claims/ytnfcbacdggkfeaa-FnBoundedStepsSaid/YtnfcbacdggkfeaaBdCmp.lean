/-
  Comparisons of the law in double precision.
-/
import Derived.Test.YtnfcbacdggkfeaaBdFin
namespace Go.Proofs.Ytnfcbacdggkfeaa.PlainBd
open Ieee Go.RowKit Go.Proofs.YtnfcbacdggkfeaaW.PrintWords Go.Proofs.YtnfcbacdggkfeaaW.PrintLast Go.Proofs.YtnfcbacdggkfeaaW.PrintMore
open Go.Proofs.Ytnfcbacdggkfeaa.B Go.Proofs.Ytnfcbacdggkfeaa.PlainP

theorem two_xy (x y : Nat) : 2 * (x * y) ≤ x * x + y * y := by
  rcases Nat.le_total x y with h | h
  · obtain ⟨d, rfl⟩ : ∃ d, y = x + d := ⟨y - x, by omega⟩
    have e : x * x + (x + d) * (x + d) = 2 * (x * (x + d)) + d * d := by grind
    omega
  · obtain ⟨d, rfl⟩ : ∃ d, x = y + d := ⟨x - y, by omega⟩
    have e : (y + d) * (y + d) + y * y = 2 * ((y + d) * y) + d * d := by grind
    omega
theorem sq_part {z x L : Nat} (h : z * 2 ^ 14 ≤ x * 2 ^ 14 + L) : 268435456 * (z * z) ≤ 268435456 * (x * x) + 32768 * (x * L) + L * L := by
  have h1 := Nat.mul_le_mul h h
  have e1 : z * 2 ^ 14 * (z * 2 ^ 14) = 268435456 * (z * z) := by rw [show (268435456 : Nat) = 2 ^ 14 * 2 ^ 14 from rfl]; grind
  have e2 : (x * 2 ^ 14 + L) * (x * 2 ^ 14 + L) = 268435456 * (x * x) + 32768 * (x * L) + L * L := by
    rw [show (268435456 : Nat) = 2 ^ 14 * 2 ^ 14 from rfl, show (32768 : Nat) = 2 * 2 ^ 14 from rfl]
    grind
  rw [e1, e2] at h1
  exact h1
theorem sq_sum {zr zi x y H L : Nat} (h1 : zr * 2 ^ 14 ≤ x * 2 ^ 14 + L) (h2 : zi * 2 ^ 14 ≤ y * 2 ^ 14 + L) (hL : L = H + (x + y)) : 268435456 * (zr * zr + zi * zi) ≤ 268533768 * (x * x + y * y) + 16388 * (H * H) := by
  have a1 := sq_part h1
  have a2 := sq_part h2
  have b1 := two_xy x y
  have b2 := two_xy (x + y) H
  have e1 : (x + y) * (x + y) = x * x + y * y + 2 * (x * y) := by grind
  have e2 : x * L + y * L = (x + y) * H + (x + y) * (x + y) := by rw [hL]; grind
  have e3 : L * L = H * H + 2 * ((x + y) * H) + (x + y) * (x + y) := by rw [hL]; grind
  clear h1 h2 hL
  generalize (x + y) * (x + y) = ww at *
  generalize (x + y) * H = wH at *
  generalize L * L = LL at *
  generalize x * L = xL at *
  generalize y * L = yL at *
  generalize zr * zr = z1 at *
  generalize zi * zi = z2 at *
  generalize x * x = x2 at *
  generalize y * y = y2 at *
  generalize x * y = xy at *
  generalize H * H = HH at *
  omega
theorem pow_cmp {t te : Int} {Wz We H : Nat} (hH : 2 ^ 30 ≤ H) (h1 : PwI H t Wz) (h2 : PwI H te We) (h3 : 268435456 * Wz ≤ 268533768 * We + 16388 * (H * H)) : 8192 * t ≤ 8196 * te + 2 * (H : Int) := by
  obtain ⟨a1, -⟩ := h1
  obtain ⟨-, a2⟩ := h2
  have hHH : 2 ^ 30 * (H : Int) ≤ (H : Int) * (H : Int) := Int.mul_le_mul_of_nonneg_right (by omega) (by omega)
  have e1 : ((H * H : Nat) : Int) = (H : Int) * (H : Int) := Int.natCast_mul _ _
  rw [Int.add_mul, Int.one_mul] at a2
  have h3' : 268435456 * (Wz : Int) ≤ 268533768 * (We : Int) + 16388 * ((H : Int) * (H : Int)) := by
    rw [← e1]
    omega
  clear h3 e1
  have hHp : (0 : Int) < (H : Int) := by omega
  refine Int.le_of_mul_le_mul_right (a := (H : Int)) ?_ hHp
  rw [Int.add_mul, Int.mul_assoc, Int.mul_assoc, Int.mul_assoc]
  generalize t * (H : Int) = T at *
  generalize te * (H : Int) = E at *
  generalize (H : Int) * (H : Int) = HH at *
  have hW : 0 ≤ (We : Int) := by omega
  omega
theorem off_div {F T : Nat} {X Z : Int} (hT : 0 < T) (h : Off F (X * (T : Int)) (Z * (T : Int))) : Off F X Z := by
  unfold Off at h ⊢
  rw [← Int.sub_mul, Int.natAbs_mul, Int.natAbs_mul, Int.natAbs_natCast, Nat.mul_right_comm] at h
  exact Nat.le_of_mul_le_mul_right h hT
theorem isV_cast {k : FloatKind} {w : Nat} (m K : Nat) (h : IsV k w ((m * K : Nat) : Int)) : IsV k w ((m : Int) * (K : Int)) := by
  rw [Int.natCast_mul] at h
  exact h
theorem m1_w : IsV .f64 4607186922399644778 ((4508103226997866 * 2 ^ 1022 : Nat) : Int) := ⟨false, 4508103226997866, 1022, by decide +kernel, by decide +kernel, by decide⟩
theorem m0_w : IsV .f64 4562254508917369340 ((4611686018427388 * 2 ^ 1012 : Nat) : Int) := ⟨false, 4611686018427388, 1012, by decide +kernel, by decide +kernel, by decide⟩
theorem milli_id {m v : Int} {K W Y T : Nat} (h : K * W = Y * T) : m * (K : Int) * (v * (W : Int)) = m * v * (Y : Int) * (T : Int) := by
  have e : (K : Int) * (W : Int) = (Y : Int) * (T : Int) := by rw [← Int.natCast_mul, h, Int.natCast_mul]
  have e2 : m * (K : Int) * (v * (W : Int)) = m * v * ((K : Int) * (W : Int)) := by simp only [Int.mul_assoc, Int.mul_left_comm]
  rw [e2, e, ← Int.mul_assoc]
theorem abs_nat (m T : Nat) : ((m : Int) * ((2 ^ T : Nat) : Int)).natAbs = m * 2 ^ T := by rw [abs_pow, Int.natAbs_natCast]
theorem mul_m {c m x : Nat} {v : Int} (hm' : IsV .f64 c ((m * 2 ^ 1022 : Nat) : Int)) (hm1 : 2 ^ 52 ≤ m) (hm2 : m ≤ 2 ^ 53) (hx : IsV .f64 x (v * ((2 ^ 925 : Nat) : Int))) (hv : v.natAbs ≤ 2 ^ 180) : ∃ (w : Nat) (X : Int), floatBits .mul .f64 c x = some w ∧ IsV .f64 w X ∧ Off 52 X ((m : Int) * v * ((2 ^ 873 : Nat) : Int)) := by
  have hm := isV_cast m (2 ^ 1022) hm'
  have ea := abs_nat m 1022
  have ec := abs_pow v 925
  have g1 := pow_ge 52 1022 1074 m rfl hm1
  have g2 := pow_bd 53 1022 1075 m rfl hm2
  have g3 := pow_bd 180 925 1105 v.natAbs rfl hv
  have g4 := pow_mm 1075 1105 2180 rfl
  have g5 := pow_lt' 2180 (FF .f64 + 1100 + KK .f64) (by decide)
  obtain ⟨w, X, e, i, ho⟩ := mul_V 1100 1074 925 (by decide) (by decide) hm hx (.inr (by rw [ea]; exact g1)) (by
    by_cases h0 : v = 0
    · exact .inl (by rw [h0]; exact Int.zero_mul _)
    · refine .inr ?_
      rw [ec]
      exact Nat.le_mul_of_pos_left _ (by omega)) (by
    rw [Int.natAbs_mul, ea, ec]
    exact mul_room g2 g3 g4 g5)
  refine ⟨w, X, e, i, ?_⟩
  have hid := milli_id (m := (m : Int)) (v := v) (pow_eq7 1022 925 873 1074 (by decide))
  have hKK : KK .f64 = 1074 := rfl
  have hFF : FF .f64 = 52 := rfl
  rw [hKK, hFF] at ho
  obtain ⟨T, hT⟩ := ex_eq (2 ^ 1074)
  have hTp := Nat.two_pow_pos 1074
  rw [hT] at ho hid hTp
  rw [hid] at ho
  exact off_div hTp ho
theorem cast_m1 : ((4508103226997866 : Nat) : Int) = 4508103226997866 := rfl
theorem cast_m0 : ((4611686018427388 : Nat) : Int) = 4611686018427388 := rfl
/-- 1.001 times a number, in double precision. -/
theorem mul_milli {x : Nat} {v : Int} (hx : IsV .f64 x (v * ((2 ^ 925 : Nat) : Int))) (hv : v.natAbs ≤ 2 ^ 180) : ∃ (w : Nat) (X : Int), floatBits .mul .f64 4607186922399644778 x = some w ∧ IsV .f64 w X ∧ Off 52 X (4508103226997866 * v * ((2 ^ 873 : Nat) : Int)) := by
  have := mul_m (m := 4508103226997866) m1_w (by decide) (by decide) hx hv
  rw [cast_m1] at this
  exact this
theorem off_low {X Z : Int} (h : Off 52 X Z) : Z.natAbs ≥ 4503599627370496 * (X - Z).natAbs := by
  unfold Off at h
  rw [Nat.mul_comm]
  exact h
theorem off_size {X Z : Int} (h : Off 52 X Z) : X.natAbs ≤ 2 * Z.natAbs := off_two (by decide) h
theorem le_of_off {p X : Int} {Y B : Nat} (h : Off 52 X (4508103226997866 * (B : Int) * (Y : Int))) (hp : 16384 * p ≤ 16385 * (B : Int)) : 4503599627370496 * (p * (Y : Int)) ≤ X := by
  have h1 := off_low h
  rw [Int.mul_assoc] at h1
  have e : (B : Int) * (Y : Int) = ((B * Y : Nat) : Int) := (Int.natCast_mul _ _).symm
  have hp2 : 16384 * (p * (Y : Int)) ≤ 16385 * ((B : Int) * (Y : Int)) := by
    have := Int.mul_le_mul_of_nonneg_right hp (show (0 : Int) ≤ (Y : Int) by omega)
    rw [Int.mul_assoc, Int.mul_assoc] at this
    exact this
  rw [e] at h1 hp2
  clear h hp e
  generalize p * (Y : Int) = a at *
  generalize B * Y = b at *
  omega
theorem last_lin {a b X1 X2 : Int} {c : Nat} (h1 : 4503599627370496 * (X1 - 4508103226997866 * a).natAbs ≤ (4508103226997866 * a).natAbs) (h2 : 4503599627370496 * (X2 - (X1 + 4611686018427388 * (c : Int))).natAbs ≤ (X1 + 4611686018427388 * (c : Int)).natAbs)
    (h3 : 8192 * b ≤ 8196 * a + 2048 * (c : Int)) (h4 : -(c : Int) ≤ 1048576 * a) : 4503599627370496 * b ≤ X2 := by
  have a1 : 4508103226997864 * a - 2 * (c : Int) ≤ X1 := by clear h2 h3; omega
  have a2 : 0 ≤ X1 + 4611686018427388 * (c : Int) := by clear h2 h3 h1; omega
  have a3 : 4503599627370495 * (X1 + 4611686018427388 * (c : Int)) ≤ 4503599627370496 * X2 := by clear h1 h3 h4 a1; omega
  omega
theorem small_200 {v : Int} (h : v.natAbs ≤ 2 ^ 180) : v.natAbs < 2 ^ 200 := Nat.lt_of_le_of_lt h (pow_lt' 180 200 (by decide))
theorem w_split (v : Int) : v * ((2 ^ 925 : Nat) : Int) = 4503599627370496 * (v * ((2 ^ 873 : Nat) : Int)) := by
  have h := pow_mm 52 873 925 rfl
  rw [← h]
  obtain ⟨Y, hY⟩ := ex_eq (2 ^ 873)
  rw [hY, Int.natCast_mul]
  have : ((2 ^ 52 : Nat) : Int) = 4503599627370496 := rfl
  rw [this]
  simp only [Int.mul_left_comm]
theorem not_gt_of {x y : Nat} {a b : Int} (hx : IsV .f64 x a) (hy : IsV .f64 y b) (h : a ≤ b) : (FloatKind.f64.format.order x y == some .gt) = false ∧ (FloatKind.f64.format.order x y == some .lt || FloatKind.f64.format.order x y == some .eq) = true := by
  rw [order_V hx hy]
  rcases Int.lt_or_eq_of_le h with hlt | heq
  · rw [Int.compare_eq_lt.2 hlt]; exact ⟨rfl, rfl⟩
  · rw [Int.compare_eq_eq.2 heq]; exact ⟨rfl, rfl⟩
/-- The power of the new weights against 1.001 times the bound. -/
theorem bound_cmp {pw Bw Bv : Nat} {p : Int} (ip : IsV .f32 pw p) (hp1 : -1 ≤ p) (hp : 16384 * p ≤ 16385 * (Bv : Int)) (iB : IsV .f32 Bw (Bv : Int)) (hB : Bv ≤ 2 ^ 160) :
    FC 34 37 .f32 .f64 pw = true ∧ FC 34 37 .f32 .f64 Bw = true ∧ FOk .mul .f64 4607186922399644778 (fc .f32 .f64 Bw) = true ∧ (FloatKind.f64.format.order (fc .f32 .f64 pw) (fq .mul .f64 4607186922399644778 (fc .f32 .f64 Bw)) == some .gt) = false := by
  have hB2 : (Bv : Int).natAbs ≤ 2 ^ 180 := by
    rw [Int.natAbs_natCast]
    exact Nat.le_trans hB (Nat.pow_le_pow_right (by decide) (by decide))
  have hp2 : p.natAbs ≤ 2 ^ 180 := by
    have h1 : 2 * 2 ^ 160 ≤ 2 ^ 180 := by
      rw [pow_dbl 160 161 rfl]
      exact Nat.pow_le_pow_right (by decide) (by decide)
    have h2 : 1 ≤ 2 ^ 160 := Nat.two_pow_pos _
    generalize 2 ^ 160 = x at *
    generalize 2 ^ 180 = y at *
    omega
  obtain ⟨u, eu, iu⟩ := widen_V ip (small_200 hp2)
  obtain ⟨v, ev, iv⟩ := widen_V iB (small_200 hB2)
  obtain ⟨w, X, ew, iw, ho⟩ := mul_milli iv hB2
  obtain ⟨o1, q1⟩ := fcok_some eu 34 37
  obtain ⟨o2, q2⟩ := fcok_some ev 34 37
  obtain ⟨o3, q3⟩ := fok_some ew
  refine ⟨o1, o2, by rw [q2]; exact o3, ?_⟩
  rw [q1, q2, q3]
  refine (not_gt_of iu iw ?_).1
  rw [w_split]
  exact le_of_off ho hp
theorem c_of_y {te : Int} {Y c : Nat} (h : -1 ≤ te) (hc : 2 ^ 30 * Y ≤ c) : -(c : Int) ≤ 1048576 * (te * (Y : Int)) := by
  have h1 : (-1 : Int) * (Y : Int) ≤ te * (Y : Int) := Int.mul_le_mul_of_nonneg_right h (by omega)
  rw [Int.neg_mul, Int.one_mul] at h1
  generalize te * (Y : Int) = a at *
  omega
theorem y_of_h {t te : Int} {Y H c : Nat} (h : 8192 * t ≤ 8196 * te + 2 * (H : Int)) (hc : H * Y = 2 ^ 10 * c) : 8192 * (t * (Y : Int)) ≤ 8196 * (te * (Y : Int)) + 2048 * (c : Int) := by
  have h1 := Int.mul_le_mul_of_nonneg_right h (show (0 : Int) ≤ (Y : Int) by omega)
  rw [Int.add_mul, Int.mul_assoc, Int.mul_assoc, Int.mul_assoc, ← Int.natCast_mul, hc] at h1
  generalize t * (Y : Int) = a at *
  generalize te * (Y : Int) = b at *
  omega
theorem m0_id (m Y c d : Nat) (h : d * Y = c) : ((m * c : Nat) : Int) = (m : Int) * (c : Int) ∧ d * Y = c := ⟨Int.natCast_mul _ _, h⟩
/-- The power of what is missing behind a step against the one before. -/
theorem last_cmp {tw ew : Nat} {t te : Int} (it : IsV .f32 tw t) (ie : IsV .f32 ew te) (ht : t.natAbs ≤ 2 ^ 180) (he : te.natAbs ≤ 2 ^ 180) (h1 : -1 ≤ te) (h : 8192 * t ≤ 8196 * te + 2 * ((2 ^ 149 : Nat) : Int)) :
    FC 34 37 .f32 .f64 tw = true ∧ FC 34 37 .f32 .f64 ew = true ∧ FOk .mul .f64 4607186922399644778 (fc .f32 .f64 ew) = true ∧ FOk .add .f64 (fq .mul .f64 4607186922399644778 (fc .f32 .f64 ew)) 4562254508917369340 = true ∧
      (FloatKind.f64.format.order (fc .f32 .f64 tw) (fq .add .f64 (fq .mul .f64 4607186922399644778 (fc .f32 .f64 ew)) 4562254508917369340) == some .lt || FloatKind.f64.format.order (fc .f32 .f64 tw) (fq .add .f64 (fq .mul .f64 4607186922399644778 (fc .f32 .f64 ew)) 4562254508917369340) == some .eq) = true := by
  obtain ⟨u, eu, iu⟩ := widen_V it (small_200 ht)
  obtain ⟨v, ev, iv⟩ := widen_V ie (small_200 he)
  obtain ⟨w, X, ewm, iw, ho⟩ := mul_milli iv he
  have hroom : (X + ((4611686018427388 * 2 ^ 1012 : Nat) : Int)).natAbs < 2 ^ (FF .f64 + 1100) := by
    have a1 := off_size ho
    have a2 : (4508103226997866 * te * ((2 ^ 873 : Nat) : Int)).natAbs = 4508103226997866 * te.natAbs * 2 ^ 873 := by
      have hn : (4508103226997866 : Int).natAbs = 4508103226997866 := rfl
      have ec := abs_pow (4508103226997866 * te) 873
      have em : (4508103226997866 * te).natAbs = 4508103226997866 * te.natAbs := by rw [Int.natAbs_mul, hn]
      rw [em] at ec
      exact ec
    have a3 := pow_bd 233 873 1106 (4508103226997866 * te.natAbs) rfl (Nat.le_trans (Nat.mul_le_mul (show 4508103226997866 ≤ 2 ^ 53 by decide) he) (Nat.le_of_eq (pow16 53 180 233 rfl)))
    have a4 := pow_bd 53 1012 1065 4611686018427388 rfl (by decide)
    have a5 := pow_lt' 1065 1106 (by decide)
    have a6 := pow_dbl 1106 1107 rfl
    have a7 := pow_dbl 1107 1108 rfl
    have a8 := pow_lt' 1108 (FF .f64 + 1100) (by decide)
    rw [a2] at a1
    obtain ⟨c, hc⟩ := ex_eq (4611686018427388 * 2 ^ 1012)
    rw [hc] at a4 ⊢
    obtain ⟨d, hd⟩ := ex_eq (4508103226997866 * te.natAbs * 2 ^ 873)
    rw [hd] at a1 a3
    obtain ⟨p, hp⟩ := ex_eq (2 ^ 1065)
    obtain ⟨q, hq⟩ := ex_eq (2 ^ 1106)
    obtain ⟨r, hr⟩ := ex_eq (2 ^ 1107)
    obtain ⟨s, hs⟩ := ex_eq (2 ^ 1108)
    obtain ⟨z, hz⟩ := ex_eq (2 ^ (FF .f64 + 1100))
    rw [hp] at a4 a5
    rw [hq] at a3 a5 a6
    rw [hr] at a6 a7
    rw [hs] at a7 a8
    rw [hz] at a8 ⊢
    clear hc hd hp hq hr hs hz a2 ho iw iv iu it ie h he ht
    omega
  obtain ⟨x, X2, ex, ix, ho2⟩ := add_V 1100 (by decide) iw m0_w hroom
  obtain ⟨o1, q1⟩ := fcok_some eu 34 37
  obtain ⟨o2, q2⟩ := fcok_some ev 34 37
  obtain ⟨o3, q3⟩ := fok_some ewm
  obtain ⟨o4, q4⟩ := fok_some ex
  refine ⟨o1, o2, by rw [q2]; exact o3, by rw [q2, q3]; exact o4, ?_⟩
  rw [q1, q2, q3, q4]
  refine (not_gt_of iu ix ?_).2
  rw [w_split]
  have g1 := off_low ho
  have g2 := off_low (X := X2) ho2
  have c1 := pow_eq7 149 873 10 1012 (by decide)
  have c2 := pow_le_mul 30 139 873 (by decide)
  have c3 := pow_mm 139 873 1012 rfl
  rw [c3] at c2
  obtain ⟨Y, hY⟩ := ex_eq (2 ^ 873)
  obtain ⟨c, hc⟩ := ex_eq (2 ^ 1012)
  obtain ⟨H, hH⟩ := ex_eq (2 ^ 149)
  rw [hY] at g1 c1 c2 ⊢
  rw [hc] at g2 c1 c2
  rw [Int.natCast_mul 4611686018427388 c, cast_m0] at g2
  rw [hH] at h c1
  rw [Int.mul_assoc] at g1
  exact last_lin g1 g2 (y_of_h h c1) (c_of_y h1 c2)
end Go.Proofs.Ytnfcbacdggkfeaa.PlainBd
