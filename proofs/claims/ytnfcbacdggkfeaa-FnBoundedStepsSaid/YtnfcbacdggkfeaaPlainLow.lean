/-
  Numbers with digits below the least place: written they are off by a small part, or by one of the least place. Narrowing, products.
-/
import Derived.Test.YtnfcbacdggkfeaaPlainRel
namespace Go.Proofs.Ytnfcbacdggkfeaa.PlainP
open Ieee Go.Proofs.YtnfcbacdggkfeaaW.PrintWords

/-- The word of a number that has its few digits at or above the least place. -/
theorem second_pass {f : Format} {F K R : Nat} (hf : FmtOk f F K R) (neg : Bool) (kept p : Nat) (hk : kept < 2 ^ (F + 1)) (hp : p = 0 ∨ 2 ^ F ≤ kept) :
    f.nearest neg kept (-(K : Int) + (p : Int)) = f.word neg (min (p * 2 ^ F + kept) (R * 2 ^ F)) := by
  obtain ⟨e1, e4, e2, e3, e5, hFK, hKR⟩ := hf
  have hBp := Nat.two_pow_pos F
  unfold Format.nearest
  by_cases h0 : kept = 0
  · subst h0
    obtain rfl : p = 0 := by omega
    rw [if_pos rfl]
    simp
  · rw [if_neg h0]
    simp only [e1, e3, e4, e2]
    have l1 := Nat.log2_self_le h0
    have hlog : kept.log2 < F + 1 := (Nat.log2_lt h0).2 hk
    have hlast : max (-(K : Int) + (p : Int) + (kept.log2 : Int) - (F : Int)) (-(K : Int)) = -(K : Int) + (p : Int) := by
      rcases hp with hp | hp
      · omega
      · have h2 : F ≤ kept.log2 := (Nat.le_log2 h0).2 hp
        omega
    rw [hlast, show (-(K : Int) + (p : Int) - (-(K : Int) + (p : Int))).toNat = 0 by omega, cut_zero, show (-(K : Int) + (p : Int) - -(K : Int)).toNat = p by omega]
    simp
theorem cut_le {neg : Bool} {n d M : Nat} (h : n < M * 2 ^ d) : Toward.even.cut neg n d ≤ M := by
  rcases Nat.lt_or_ge M (Toward.even.cut neg n d) with h1 | h1
  · exfalso
    have h2 : (M + 1) * 2 ^ d ≤ Toward.even.cut neg n d * 2 ^ d := Nat.mul_le_mul_right _ h1
    have h3 := (cut_off neg n d).1
    rw [Nat.add_mul, Nat.one_mul] at h2
    omega
  · exact h1
theorem cut_ge {neg : Bool} {n d M : Nat} (hd : d ≤ n.log2 + 2) (h : M * 2 ^ d ≤ n) : M ≤ Toward.even.cut neg n d := by
  unfold Toward.cut
  simp only [Nat.shiftLeft_eq, Nat.one_mul]
  rw [Nat.min_eq_left hd]
  have : M ≤ n / 2 ^ d := (Nat.le_div_iff_mul_le (Nat.two_pow_pos d)).2 h
  exact Nat.le_trans this (Nat.le_add_right _ _)
/-- A number with digits below the least place is written as one that has none. -/
theorem nearest_again {f : Format} {F K R : Nat} (hf : FmtOk f F K R) (neg : Bool) (m d : Nat) :
    ∃ kept p : Nat, f.nearest neg m (-(K : Int) - (d : Int)) = f.nearest neg kept (-(K : Int) + (p : Int)) ∧ kept < 2 ^ (F + 1) ∧ ((kept * 2 ^ p * 2 ^ d : Nat) - (m : Int)).natAbs * 2 ^ F ≤ m + 2 ^ (F + d) ∧ (m = 0 → kept = 0) := by
  have hBp := Nat.two_pow_pos F
  by_cases h0 : m = 0
  · subst h0
    refine ⟨0, 0, ?_, Nat.two_pow_pos _, by simp, fun _ => rfl⟩
    unfold Format.nearest
    rw [if_pos rfl, if_pos rfl]
  · have l1 := Nat.log2_self_le h0
    have l2 := @Nat.lt_log2_self m
    obtain ⟨p, hp⟩ : ∃ p, p = m.log2 - (F + d) := ⟨_, rfl⟩
    obtain ⟨kept, hkept⟩ : ∃ kept, kept = Toward.even.cut neg m (p + d) := ⟨_, rfl⟩
    have hw : f.nearest neg m (-(K : Int) - (d : Int)) = f.word neg (min (p * 2 ^ F + kept) (R * 2 ^ F)) := by
      obtain ⟨e1, e4, e2, e3, e5, hFK, hKR⟩ := hf
      unfold Format.nearest
      rw [if_neg h0]
      simp only [e1, e3, e4, e2]
      have hlast : max (-(K : Int) - (d : Int) + (m.log2 : Int) - (F : Int)) (-(K : Int)) = -(K : Int) + (p : Int) := by omega
      rw [hlast, show (-(K : Int) - (d : Int) - (-(K : Int) + (p : Int))).toNat = 0 by omega, show (-(K : Int) + (p : Int) - (-(K : Int) - (d : Int))).toNat = p + d by omega, show (-(K : Int) + (p : Int) - -(K : Int)).toNat = p by omega, Nat.shiftLeft_eq, Nat.pow_zero, Nat.mul_one, ← hkept]
    have hle : kept ≤ 2 ^ (F + 1) := by
      rw [hkept]
      refine cut_le (Nat.lt_of_lt_of_le l2 ?_)
      rw [← Nat.pow_add]
      exact Nat.pow_le_pow_right (by decide) (by omega)
    have hge : p = 0 ∨ 2 ^ F ≤ kept := by
      rcases Nat.eq_zero_or_pos p with h | h
      · exact .inl h
      · refine .inr ?_
        rw [hkept]
        refine cut_ge (by omega) (Nat.le_trans ?_ l1)
        rw [← Nat.pow_add]
        exact Nat.pow_le_pow_right (by decide) (by omega)
    have herr : ((kept * 2 ^ (p + d) : Nat) - (m : Int)).natAbs ≤ 2 ^ (p + d) := by
      obtain ⟨k1, k2⟩ := cut_off neg m (p + d)
      rw [← hkept] at k1 k2
      omega
    have hbound : 2 ^ (p + d) * 2 ^ F ≤ m + 2 ^ (F + d) := by
      rw [← Nat.pow_add]
      rcases Nat.eq_zero_or_pos p with h | h
      · rw [h, show 0 + d + F = F + d by omega]; omega
      · have : 2 ^ (p + d + F) ≤ 2 ^ m.log2 := Nat.pow_le_pow_right (by decide) (by omega)
        exact Nat.le_trans this (Nat.le_trans l1 (Nat.le_add_right _ _))
    have hfin := Nat.le_trans (Nat.mul_le_mul_right (2 ^ F) herr) hbound
    rcases Nat.lt_or_ge kept (2 ^ (F + 1)) with hk | hk
    · refine ⟨kept, p, by rw [hw, second_pass hf neg kept p hk hge], hk, ?_, fun h => absurd h h0⟩
      rw [Nat.mul_assoc, ← Nat.pow_add]
      exact hfin
    · obtain rfl : kept = 2 ^ (F + 1) := by omega
      have h2 : 2 ^ (F + 1) = 2 ^ F + 2 ^ F := by rw [Nat.pow_succ]; omega
      refine ⟨2 ^ F, p + 1, ?_, by omega, ?_, fun h => absurd h h0⟩
      · rw [hw, second_pass hf neg (2 ^ F) (p + 1) (by omega) (.inr (Nat.le_refl _))]
        congr 2
        rw [Nat.add_mul, Nat.one_mul, h2]
        omega
      · have e : 2 ^ F * 2 ^ (p + 1) * 2 ^ d = 2 ^ (F + 1) * 2 ^ (p + d) := by simp only [← Nat.pow_add]; congr 1; omega
        rw [e]
        exact hfin
theorem sg_sub (s : Bool) (a b : Nat) : (sg s a - sg s b).natAbs = ((a : Int) - (b : Int)).natAbs := by
  unfold sg
  cases s <;> simp <;> omega
/-- A number at any place: what it's written as. -/
theorem write_A {k : FloatKind} {neg : Bool} {m d : Nat} (G : Nat) (hG : G + 3 ≤ RR k) (h : 2 * m + 1 < 2 ^ (FF k + (G + 1))) :
    ∃ c, IsV k (k.encode (.number neg m (-(KK k : Int) - (d : Int)))) c ∧ (c * ((2 ^ d : Nat) : Int) - sg neg m).natAbs * 2 ^ FF k ≤ m + 2 ^ (FF k + d) ∧ (m = 0 → c = 0) := by
  obtain ⟨kept, p, e, hk, herr, hz⟩ := nearest_again (okF k) neg m d
  have hD := Nat.two_pow_pos d
  have hlt : kept * 2 ^ p < 2 ^ (FF k + (G + 1)) := by
    have hB := Nat.two_pow_pos (FF k)
    have h4 : ((kept * 2 ^ p * 2 ^ d : Nat) - (m : Int)).natAbs ≤ m + 2 ^ d := by
      refine Nat.le_of_mul_le_mul_right (c := 2 ^ FF k) (Nat.le_trans herr ?_) hB
      rw [Nat.add_mul, Nat.pow_add, Nat.mul_comm (2 ^ d)]
      exact Nat.add_le_add_right (Nat.le_mul_of_pos_right _ hB) _
    have h5 : kept * 2 ^ p ≤ 2 * m + 1 := by
      refine Nat.le_of_mul_le_mul_right (c := 2 ^ d) ?_ hD
      rw [Nat.add_mul, Nat.one_mul]
      have h6 : 2 * m * 1 ≤ 2 * m * 2 ^ d := Nat.mul_le_mul_left _ hD
      generalize kept * 2 ^ p * 2 ^ d = X at h4 ⊢
      generalize 2 * m * 2 ^ d = Y at h6 ⊢
      generalize 2 ^ d = D at h4 ⊢
      omega
    omega
  obtain ⟨m', j, q1, -, q3, q4⟩ := near_word (okF k) neg kept p (G + 1) (by omega) hlt
  have q5 := q4 hk
  refine ⟨sg neg (kept * 2 ^ p), ⟨neg, m', j, ?_, by rw [q5], q3⟩, ?_, fun hm => ?_⟩
  · rw [show k.encode (.number neg m (-(KK k : Int) - (d : Int))) = k.format.nearest neg m (-(KK k : Int) - (d : Int)) from rfl, e]
    exact q1
  · rw [← sg_mul, sg_sub]
    exact herr
  · rw [hz hm, Nat.zero_mul]
    cases neg <;> rfl
theorem off_zero {F : Nat} {c : Int} (h : Off F c 0) : c = 0 := by
  unfold Off at h
  rw [Int.sub_zero, Int.natAbs_zero] at h
  have hp := Nat.two_pow_pos F
  rcases Nat.mul_eq_zero.1 (Nat.le_zero.1 h) with h | h
  · omega
  · omega
theorem cast_mul (c a : Int) (X : Nat) : (c * (X : Int) - a * (X : Int)).natAbs = (c - a).natAbs * X := by rw [← Int.sub_mul, Int.natAbs_mul, Int.natAbs_natCast]
/-- A number counted in the 2^-D-th parts of the least one, as it is written. -/
theorem enc_A {k : FloatKind} {s : Bool} {m q D : Nat} {a : Int} (G : Nat) (hG : G + 3 ≤ RR k) (v : sg s (m * 2 ^ q) = a) (h : a.natAbs < 2 ^ (FF k + G + D)) (hm2 : 2 * m + 1 < 2 ^ (FF k + (G + 1))) :
    ∃ c, IsV k (k.encode (.number s m (-(KK k : Int) - (D : Int) + (q : Int)))) c ∧ (c * ((2 ^ D : Nat) : Int) - a).natAbs * 2 ^ FF k ≤ a.natAbs + 2 ^ (FF k + D) ∧ (a = 0 → c = 0) := by
  rcases Nat.lt_or_ge q D with hj | hj
  · obtain ⟨e, he⟩ : ∃ e, D = q + e := ⟨D - q, by omega⟩
    rw [show -(KK k : Int) - (D : Int) + (q : Int) = -(KK k : Int) - (e : Int) by omega]
    obtain ⟨c, hc, ho, hz⟩ := write_A (k := k) (neg := s) (m := m) (d := e) G hG hm2
    have hjp := Nat.two_pow_pos q
    refine ⟨c, hc, ?_, fun ha => hz ?_⟩
    · have h3 := Nat.mul_le_mul_right (2 ^ q) ho
      have ea : a.natAbs = m * 2 ^ q := by rw [← v, sg_natAbs]
      have e1 : (c * ((2 ^ D : Nat) : Int) - a).natAbs = (c * ((2 ^ e : Nat) : Int) - sg s m).natAbs * 2 ^ q := by
        rw [← cast_mul, ← sg_mul, v, he, Nat.add_comm q e, Nat.pow_add, Int.natCast_mul, Int.mul_assoc]
      rw [e1, ea, he, show FF k + (q + e) = FF k + e + q by omega, Nat.pow_add 2 (FF k + e) q, ← Nat.add_mul, Nat.mul_right_comm]
      exact h3
    · rw [ha] at v
      rcases Nat.mul_eq_zero.1 (sg_zero v) with h | h
      · exact h
      · omega
  · obtain ⟨p, hp⟩ : ∃ p, q = p + D := ⟨q - D, by omega⟩
    rw [show -(KK k : Int) - (D : Int) + (q : Int) = -(KK k : Int) + (p : Int) by omega]
    rw [hp, Nat.pow_add, ← Nat.mul_assoc, sg_mul] at v
    have hlt : m * 2 ^ p < 2 ^ (FF k + G) := by
      have := congrArg Int.natAbs v
      rw [Int.natAbs_mul, sg_natAbs, Int.natAbs_natCast] at this
      rw [← this, Nat.pow_add] at h
      exact Nat.lt_of_mul_lt_mul_right h
    obtain ⟨c, hc, ho⟩ := write_V (k := k) (neg := s) G (by omega) rfl hlt
    refine ⟨c, hc, ?_, fun ha => ?_⟩
    · unfold Off at ho
      rw [← v, cast_mul, Int.natAbs_mul, Int.natAbs_natCast, Nat.mul_right_comm]
      exact Nat.le_trans (Nat.mul_le_mul_right _ ho) (Nat.le_add_right _ _)
    · have hs : sg s (m * 2 ^ p) = 0 := by
        rw [ha] at v
        rcases Int.mul_eq_zero.1 v with h | h
        · exact h
        · have := Nat.two_pow_pos D; omega
      rw [hs] at ho
      exact off_zero ho
/-- A float64 as a float32: off by a small part, or by one of the least place. -/
theorem narrow_A {x : Nat} {a : Int} (hx : IsV .f64 x a) (h : a.natAbs < 2 ^ (FF .f32 + 200 + 925)) :
    ∃ w c, floatToFloatBits .f64 x .f32 = some w ∧ IsV .f32 w c ∧ (c * ((2 ^ 925 : Nat) : Int) - a).natAbs * 2 ^ FF .f32 ≤ a.natAbs + 2 ^ (FF .f32 + 925) ∧ (a = 0 → c = 0) := by
  obtain ⟨s, m, j, d, v, hm⟩ := hx
  have hm2 : 2 * m + 1 < 2 ^ (FF .f32 + (200 + 1)) := by
    have h1 : m < 2 ^ 53 := hm
    have h2 : 2 ^ 53 * 4 ≤ 2 ^ (FF .f32 + (200 + 1)) := by
      rw [show (4 : Nat) = 2 ^ 2 from rfl, ← Nat.pow_add]
      exact Nat.pow_le_pow_right (by decide) (by decide)
    omega
  have key := enc_A (k := .f32) (D := 925) 200 (by decide) v h hm2
  rw [show -(KK .f32 : Int) - ((925 : Nat) : Int) + (j : Int) = -(KK .f64 : Int) + (j : Int) from rfl] at key
  obtain ⟨c, hc, ho, hz⟩ := key
  refine ⟨_, c, ?_, hc, ho, hz⟩
  unfold floatToFloatBits
  rw [if_neg (by decide), d]
  simp only
  rw [if_neg (by rw [noinfV hc]; decide)]
/-- A product: off by a small part, or by one of the least place. -/
theorem mul_A {k : FloatKind} {x y : Nat} {a b : Int} (G : Nat) (hG : G + 3 ≤ RR k) (hF : FF k + 4 ≤ G) (hx : IsV k x a) (hy : IsV k y b) (h : (a * b).natAbs < 2 ^ (FF k + G + KK k)) :
    ∃ w c, floatBits .mul k x y = some w ∧ IsV k w c ∧ (c * ((2 ^ KK k : Nat) : Int) - a * b).natAbs * 2 ^ FF k ≤ (a * b).natAbs + 2 ^ (FF k + KK k) ∧ (a * b = 0 → c = 0) := by
  obtain ⟨s, m, i, d1, v1, m1⟩ := hx
  obtain ⟨t, n, j, d2, v2, n1⟩ := hy
  have hf : floatBits .mul k x y = some (k.encode (.number (s ^^ t) (m * n) (-(KK k : Int) + (i : Int) + (-(KK k : Int) + (j : Int))))) := by
    show (Datum.product (k.decode x) (k.decode y)).map k.format.write = _
    rw [d1, d2]
    rfl
  have e1 : sg (s ^^ t) (m * n * 2 ^ (i + j)) = a * b := by
    rw [show m * n * 2 ^ (i + j) = m * 2 ^ i * (n * 2 ^ j) by rw [Nat.pow_add]; simp only [Nat.mul_assoc, Nat.mul_left_comm], sg_prod, v1, v2]
  rw [show -(KK k : Int) + (i : Int) + (-(KK k : Int) + (j : Int)) = -(KK k : Int) - (KK k : Int) + ((i + j : Nat) : Int) by omega] at hf
  have hm2 : 2 * (m * n) + 1 < 2 ^ (FF k + (G + 1)) := by
    have h1 : m * n ≤ 2 ^ (FF k + 1) * 2 ^ (FF k + 1) := Nat.mul_le_mul (Nat.le_of_lt m1) (Nat.le_of_lt n1)
    rw [← Nat.pow_add] at h1
    have h2 : 2 ^ (FF k + 1 + (FF k + 1)) * 4 ≤ 2 ^ (FF k + (G + 1)) := by
      rw [show (4 : Nat) = 2 ^ 2 from rfl, ← Nat.pow_add]
      exact Nat.pow_le_pow_right (by decide) (by omega)
    have h3 := Nat.two_pow_pos (FF k + 1 + (FF k + 1))
    omega
  obtain ⟨c, hc, ho, hz⟩ := enc_A (k := k) (D := KK k) G hG e1 h hm2
  exact ⟨_, c, hf, hc, ho, hz⟩
end Go.Proofs.Ytnfcbacdggkfeaa.PlainP
