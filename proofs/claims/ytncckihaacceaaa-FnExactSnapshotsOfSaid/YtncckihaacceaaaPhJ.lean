/-
  The product of a scaled symbol and a phasor is narrowed without an overflow, whatever the gain is.
-/
import Derived.Test.YtncckihaacceaaaPhI
namespace Go.Proofs.Ytncckihaacceaaa.PlainP
open Ieee Go.Proofs.YtncckihaacceaaaW.PrintWords

theorem small_word {s : Bool} {rung G : Nat} (hG : G ≤ 200) (h : rung < G * 8388608) : ∃ a : Int, IsV .f32 (Ieee.single.word s rung) a ∧ a.natAbs < 2 ^ (24 + G) := by
  have hs : Ieee.single.signWeight = 2147483648 := by decide +kernel
  have hb : Ieee.single.binade = 8388608 := by decide +kernel
  have hi : Ieee.single.infRung = 2139095040 := by decide +kernel
  have hl : Ieee.single.leastPlace = -149 := by decide +kernel
  have hw : (Ieee.single.word s rung) % 2147483648 = rung := by
    unfold Format.word
    rw [hs]
    cases s
    · show rung % 2147483648 = rung
      omega
    · show (2147483648 + rung) % 2147483648 = rung
      omega
  have hr : ∃ (t : Bool) (m j : Nat), Ieee.single.read (Ieee.single.word s rung) = .number t m (-(149 : Int) + (j : Int)) ∧ m < 16777216 ∧ j ≤ G := by
    unfold Format.read
    simp only [hs, hb, hi, hl, hw]
    by_cases h1 : rung < 8388608
    · rw [if_pos h1]
      exact ⟨_, rung, 0, rfl, by omega, by omega⟩
    · rw [if_neg h1, if_pos (by omega)]
      exact ⟨_, 8388608 + rung % 8388608, rung / 8388608 - 1, rfl, by omega, by omega⟩
  obtain ⟨t, m, j, e, hm, hj⟩ := hr
  refine ⟨_, ⟨t, m, j, e, rfl, hm⟩, ?_⟩
  rw [sg_natAbs, Nat.pow_add]
  have h1 : m * 2 ^ j < 16777216 * 2 ^ j := Nat.mul_lt_mul_of_pos_right hm (Nat.two_pow_pos j)
  have h2 : 2 ^ j ≤ 2 ^ G := Nat.pow_le_pow_right (by decide) hj
  have e : (2 : Nat) ^ 24 = 16777216 := rfl
  rw [e]
  omega
/-- Half a number, either way: no number, or at most half of the greatest one (nearly). -/
theorem half_mul {h g S : Nat} (hS : S = 252) (hh : ∃ s, FloatKind.f32.decode h = .number s 8388608 (-24)) : Odd .f32 (nq .mul .f32 h g) ∨ ∃ a : Int, IsV .f32 (nq .mul .f32 h g) a ∧ a.natAbs < 16777218 * 2 ^ S := by
  obtain ⟨s, hs⟩ := hh
  by_cases ho : Odd .f32 g
  · exact .inl (odd_mul (.inr ho))
  · right
    obtain ⟨t, n, e, hg⟩ : ∃ t n e, FloatKind.f32.decode g = .number t n e := by
      cases hd : FloatKind.f32.decode g with
      | number t n e => exact ⟨t, n, e, rfl⟩
      | infinity t => exact absurd (fun a b c he => by rw [hd] at he; cases he) ho
      | nan t f => exact absurd (fun a b c he => by rw [hd] at he; cases he) ho
    obtain ⟨n1, e1, e2⟩ := Go.Proofs.Ytncckihaacceaaa.FloatFacts.read_single g t n e hg
    have hf : floatBits .mul .f32 h g = some (FloatKind.f32.encode (.number (s ^^ t) (8388608 * n) (-24 + e))) := by
      show (Datum.product (FloatKind.f32.decode h) (FloatKind.f32.decode g)).map FloatKind.f32.format.write = _
      rw [hs, hg]
      rfl
    have hq : nq .mul .f32 h g = Ieee.single.nearest (s ^^ t) (8388608 * n) (-24 + e) := by
      unfold nq
      rw [hf]
      rfl
    rw [hq]
    rcases Int.lt_or_le e (-125) with he | he
    · -- a tiny one
      have hb : Ieee.single.binade = 8388608 := by decide +kernel
      have hi : Ieee.single.infRung = 2139095040 := by decide +kernel
      have hl : Ieee.single.leastPlace = -149 := by decide +kernel
      have hF : Ieee.single.fractionBits = 23 := rfl
      have hpw : 2 ^ (24 + 100) < 16777218 * 2 ^ S := by
        have h1 : 2 ^ (24 + 100) ≤ 2 ^ S := Nat.pow_le_pow_right (by decide) (by omega)
        have := Nat.two_pow_pos S
        omega
      have hr : ∃ rung, rung < 100 * 8388608 ∧ Ieee.single.nearest (s ^^ t) (8388608 * n) (-24 + e) = Ieee.single.word (s ^^ t) rung := by
        unfold Format.nearest
        by_cases hm : 8388608 * n = 0
        · rw [if_pos hm]; exact ⟨0, by decide, rfl⟩
        · rw [if_neg hm]
          simp only [hl, hF, hb, hi]
          obtain ⟨m, hm'⟩ : ∃ m, m = 8388608 * n := ⟨_, rfl⟩
          rw [← hm'] at hm ⊢
          have hlg : m.log2 < 47 := (Nat.log2_lt hm).2 (by omega)
          have g2 : m < 2 ^ (m.log2 + 1) := Nat.lt_log2_self
          generalize m.log2 = g at hlg g2 ⊢
          obtain ⟨last, hlast⟩ : ∃ last : Int, last = max (-24 + e + (g : Int) - ((23 : Nat) : Int)) (-149) := ⟨_, rfl⟩
          rw [← hlast]
          have l1 : -24 + e + (g : Int) - 23 ≤ last := by omega
          have l2 : last ≤ -100 := by omega
          have l3 : -149 ≤ last := by omega
          have l4 : -24 + e < last := by omega
          rw [show (-24 + e - last).toNat = 0 by omega, Nat.shiftLeft_zero]
          obtain ⟨d, hd⟩ : ∃ d : Nat, (last - (-24 + e)).toNat = d := ⟨_, rfl⟩
          rw [hd]
          obtain ⟨c1, -⟩ := cut_off (s ^^ t) m d
          obtain ⟨K, hK⟩ : ∃ K, K = Toward.even.cut (s ^^ t) m d := ⟨_, rfl⟩
          rw [← hK] at c1 ⊢
          have hdp := Nat.two_pow_pos d
          have h1 : m < 16777216 * 2 ^ d := by
            have h2 : 2 ^ (g + 1) ≤ 2 ^ (24 + d) := Nat.pow_le_pow_right (by decide) (by omega)
            rw [Nat.pow_add 2 24 d] at h2
            omega
          have h3 : K * 2 ^ d < 16777217 * 2 ^ d := by omega
          have h4 := Nat.lt_of_mul_lt_mul_right h3
          refine ⟨_, ?_, rfl⟩
          refine Nat.lt_of_le_of_lt (Nat.min_le_left _ _) ?_
          have : (last - -149).toNat ≤ 49 := by omega
          omega
      obtain ⟨rung, hr1, hr2⟩ := hr
      rw [hr2]
      obtain ⟨a, ha, hb'⟩ := small_word (s := s ^^ t) (G := 100) (by decide) hr1
      exact ⟨a, ha, Nat.lt_trans hb' hpw⟩
    · obtain ⟨p, hp⟩ : ∃ p : Nat, -24 + e = -((149 : Nat) : Int) + (p : Int) := ⟨(e + 125).toNat, by omega⟩
      have hpS : 23 + p ≤ S := by omega
      have hX : 8388608 * n * 2 ^ p ≤ 16777215 * 2 ^ S := by
        have h1 : 2 ^ (23 + p) ≤ 2 ^ S := Nat.pow_le_pow_right (by decide) hpS
        rw [Nat.pow_add] at h1
        have h2 : n * (2 ^ 23 * 2 ^ p) ≤ 16777215 * 2 ^ S := Nat.mul_le_mul (by omega) h1
        have e3 : n * (2 ^ 23 * 2 ^ p) = 8388608 * n * 2 ^ p := by
          rw [show (2 : Nat) ^ 23 = 8388608 from rfl, ← Nat.mul_assoc, Nat.mul_comm n 8388608]
        omega
      have hlt : 8388608 * n * 2 ^ p < 2 ^ (FF .f32 + 253) := by
        have hFS : FF .f32 + 253 = S + 24 := by rw [hS]; rfl
        have h1 : 2 ^ (FF .f32 + 253) = 2 ^ S * 16777216 := by rw [hFS, Nat.pow_add]
        have := Nat.two_pow_pos S
        omega
      obtain ⟨m, j, q1, q2, q3, -⟩ := near_word (okF .f32) (s ^^ t) (8388608 * n) p 253 (by decide) hlt
      rw [hp]
      refine ⟨_, ⟨s ^^ t, m, j, q1, rfl, q3⟩, ?_⟩
      rw [sg_natAbs]
      have q4 := q2.1
      rw [show (2 : Nat) ^ FF .f32 = 8388608 from rfl] at q4
      have := Nat.two_pow_pos S
      omega
/-- A part of a scaled symbol. -/
def HalfP (x : Nat) : Prop := Odd .f32 x ∨ ∃ S : Nat, S = 252 ∧ ∃ a : Int, IsV .f32 x a ∧ a.natAbs < 16777218 * 2 ^ S
/-- Half a number times a part of a phasor, in double precision. -/
theorem part_mul {T x y S Z : Nat} {a : Int} {h : Int} (hT : T = 1062) (hS : S = 252) (hZ : Z = 1165) (hx : IsV .f32 x a) (ha : a.natAbs < 16777218 * 2 ^ S) (hy : FB T y h 1000) (hh : h ≤ 8150) :
    ∃ w p, floatBits .mul .f64 (nc .f32 .f64 x) (nc .f32 .f64 y) = some w ∧ IsV .f64 w p ∧ (p.natAbs : Int) ≤ (16777218 * h + 1) * ((2 ^ Z : Nat) : Int) ∧ 0 ≤ h := by
  obtain ⟨c, hc, c1, c2⟩ := hy
  have hFF : FF .f64 = 52 := rfl
  have hRR : RR .f64 = 2047 := rfl
  have hKK : KK .f64 = 1074 := rfl
  obtain ⟨D, hD⟩ : ∃ D, D = 925 := ⟨_, rfl⟩
  rw [← hD] at c1 c2
  have hDp := Nat.two_pow_pos D
  have hTp := Nat.two_pow_pos T
  have hSp := Nat.two_pow_pos S
  have hZp := Nat.two_pow_pos Z
  have h0 : 0 ≤ h := by
    rcases Int.le_total 0 h with h1 | h1
    · exact h1
    · rcases Int.lt_or_eq_of_le h1 with h2 | h2
      · have := Int.mul_neg_of_neg_of_pos h2 (show (0 : Int) < ((2 ^ T : Nat) : Int) by omega)
        omega
      · omega
  obtain ⟨H, hH⟩ : ∃ H : Nat, (H : Int) = h := ⟨h.toNat, by omega⟩
  have c1' : (c * ((2 ^ D : Nat) : Int)).natAbs ≤ H * 2 ^ T := by
    rw [← hH] at c1
    have e : ((H * 2 ^ T : Nat) : Int) = (H : Int) * ((2 ^ T : Nat) : Int) := by push_cast; rfl
    rw [← e] at c1
    exact Int.ofNat_le.1 c1
  have hH2 : H ≤ 8150 := by omega
  -- both as doubles
  obtain ⟨B, hB⟩ : ∃ B : Nat, B = 300 := ⟨_, rfl⟩
  obtain ⟨x', ex, vx⟩ := widen_W (B := B) (by omega) hx (by
    have h1 : 2 ^ (25 + S) ≤ 2 ^ B := Nat.pow_le_pow_right (by decide) (by omega)
    rw [Nat.pow_add] at h1
    exact Nat.lt_of_lt_of_le (Nat.lt_of_lt_of_le ha (Nat.mul_le_mul_right _ (by decide))) h1)
  obtain ⟨y', ey, vy⟩ := widen_W (B := B) (by omega) hc (by
    rw [Int.natAbs_mul, Int.natAbs_natCast] at c1'
    have h1 : c.natAbs * 2 ^ D ≤ 2 ^ (13 + T) := by
      rw [Nat.pow_add]
      exact Nat.le_trans c1' (Nat.mul_le_mul_right _ (by omega))
    have h2 : 2 ^ (13 + T) < 2 ^ B * 2 ^ D := by
      rw [← Nat.pow_add]
      exact Nat.pow_lt_pow_right (by decide) (by omega)
    exact Nat.lt_of_mul_lt_mul_right (Nat.lt_of_le_of_lt h1 h2))
  rw [← hD] at vx vy
  have nx : nc .f32 .f64 x = x' := by unfold nc; rw [ex]; rfl
  have ny : nc .f32 .f64 y = y' := by unfold nc; rw [ey]; rfl
  rw [nx, ny]
  obtain ⟨A, hA⟩ : ∃ A, A = (a * ((2 ^ D : Nat) : Int)).natAbs := ⟨_, rfl⟩
  obtain ⟨C, hC⟩ : ∃ C, C = (c * ((2 ^ D : Nat) : Int)).natAbs := ⟨_, rfl⟩
  have hA1 : A ≤ 16777218 * (2 ^ S * 2 ^ D) := by
    rw [hA, Int.natAbs_mul, Int.natAbs_natCast, ← Nat.mul_assoc]
    exact Nat.mul_le_mul_right _ (Nat.le_of_lt ha)
  rw [← hC] at c1' c2
  have hAC : A * C ≤ 16777218 * H * (2 ^ S * 2 ^ D * 2 ^ T) := by
    have := Nat.mul_le_mul hA1 c1'
    have e : 16777218 * (2 ^ S * 2 ^ D) * (H * 2 ^ T) = 16777218 * H * (2 ^ S * 2 ^ D * 2 ^ T) := by simp only [Nat.mul_assoc, Nat.mul_left_comm]
    omega
  have hU : 2 ^ S * 2 ^ D * 2 ^ T = 2 ^ Z * 2 ^ KK .f64 := by rw [← Nat.pow_add, ← Nat.pow_add, ← Nat.pow_add]; congr 1; omega
  rw [hU] at hAC
  obtain ⟨U, hUe⟩ : ∃ U, U = 2 ^ KK .f64 := ⟨_, rfl⟩
  have hUp : 0 < U := by rw [hUe]; exact Nat.two_pow_pos _
  have hprod : ((a * ((2 ^ D : Nat) : Int)) * (c * ((2 ^ D : Nat) : Int))).natAbs = A * C := by rw [Int.natAbs_mul, ← hA, ← hC]
  have hbig : ((a * ((2 ^ D : Nat) : Int)) * (c * ((2 ^ D : Nat) : Int))).natAbs < 2 ^ (FF .f64 + 1300 + KK .f64) := by
    rw [hprod]
    have h1 : 16777218 * H * (2 ^ Z * 2 ^ KK .f64) < 2 ^ 38 * (2 ^ Z * 2 ^ KK .f64) := Nat.mul_lt_mul_of_pos_right (by omega) (Nat.mul_pos hZp (Nat.two_pow_pos _))
    have h2 : 2 ^ 38 * (2 ^ Z * 2 ^ KK .f64) ≤ 2 ^ (FF .f64 + 1300 + KK .f64) := by
      rw [← Nat.pow_add, ← Nat.pow_add]
      exact Nat.pow_le_pow_right (by decide) (by omega)
    omega
  have hal : a * ((2 ^ D : Nat) : Int) = 0 ∨ 2 ^ D ≤ (a * ((2 ^ D : Nat) : Int)).natAbs := by
    by_cases hz : a = 0
    · left; rw [hz, Int.zero_mul]
    · right
      rw [Int.natAbs_mul, Int.natAbs_natCast]
      have := Nat.mul_le_mul_right (2 ^ D) (show 1 ≤ a.natAbs by omega)
      omega
  have hcl : c * ((2 ^ D : Nat) : Int) = 0 ∨ 2 ^ 1000 ≤ (c * ((2 ^ D : Nat) : Int)).natAbs := by
    rcases c2 with h | h
    · left; rw [h, Int.zero_mul]
    · right; rw [← hC]; exact h
  obtain ⟨w, p, hw, hp, ho⟩ := mul_V (k := .f64) 1300 D 1000 (by omega) (by omega) vx vy hal hcl hbig
  refine ⟨w, p, hw, hp, ?_, h0⟩
  unfold Off at ho
  rw [hprod, hFF, ← hUe] at ho
  rw [← hUe] at hAC
  rw [show (2 : Nat) ^ 52 = 4503599627370496 from rfl] at ho
  have ho2 := ho
  rw [Nat.mul_comm] at ho2
  clear ho
  have hpu : 4503599627370496 * (p.natAbs * U) ≤ 4503599627370497 * (A * C) := by
    have e1 : (p * ((U : Nat) : Int)).natAbs = p.natAbs * U := by rw [Int.natAbs_mul, Int.natAbs_natCast]
    have e2 : (p * ((U : Nat) : Int)).natAbs ≤ (p * ((U : Nat) : Int) - a * ((2 ^ D : Nat) : Int) * (c * ((2 ^ D : Nat) : Int))).natAbs + A * C := by omega
    omega
  -- at most (16777218 h + 1) 2^Z
  have hAC2 : A * C ≤ 16777218 * H * (2 ^ Z * U) := hAC
  obtain ⟨Q, hQ⟩ : ∃ Q, Q = 2 ^ Z * U := ⟨_, rfl⟩
  rw [← hQ] at hAC2
  have hQp : 0 < Q := by rw [hQ]; exact Nat.mul_pos hZp hUp
  have hHQ : H * Q ≤ 8150 * Q := Nat.mul_le_mul_right _ hH2
  have e3 : 16777218 * H * Q = 16777218 * (H * Q) := Nat.mul_assoc ..
  have hfin : p.natAbs * U ≤ (16777218 * H + 1) * Q := by
    rw [Nat.add_mul, Nat.one_mul, e3]
    omega
  have hfin2 : p.natAbs ≤ (16777218 * H + 1) * 2 ^ Z := by
    rw [hQ, ← Nat.mul_assoc] at hfin
    exact Nat.le_of_mul_le_mul_right hfin hUp
  rw [← hH]
  have e4 : (((16777218 * H + 1) * 2 ^ Z : Nat) : Int) = (16777218 * (H : Int) + 1) * ((2 ^ Z : Nat) : Int) := by rw [Int.natCast_mul, Int.natCast_add, Int.natCast_mul]; rfl
  rw [← e4]
  exact Int.ofNat_le.2 hfin2
/-- A sum or difference of two such products is narrowed without an overflow. -/
theorem parts_ok {x1 x2 y1 y2 : Nat} {T : Nat} {h1 h2 : Int} (op : BinOp) (hop : op = .add ∨ op = .sub) (hT : T = 1062) (hx1 : HalfP x1) (hx2 : HalfP x2) (hy1 : FB T y1 h1 1000) (hy2 : FB T y2 h2 1000) (hh : h1 + h2 ≤ 8150) :
    NarOk (nq op .f64 (nq .mul .f64 (nc .f32 .f64 x1) (nc .f32 .f64 y1)) (nq .mul .f64 (nc .f32 .f64 x2) (nc .f32 .f64 y2))) = true := by
  rcases hx1 with o1 | ⟨S, hS, a1, v1, b1⟩
  · exact odd_ok (odd_sum op hop (.inl (odd_mul (.inl (odd_wide o1)))))
  · rcases hx2 with o2 | ⟨S', hS', a2, v2, b2⟩
    · exact odd_ok (odd_sum op hop (.inr (odd_mul (.inl (odd_wide o2)))))
    · obtain ⟨Z, hZ⟩ : ∃ Z : Nat, Z = 1165 := ⟨_, rfl⟩
      have k1 : 0 ≤ h1 := by
        obtain ⟨c, -, c1, -⟩ := hy1
        have := Nat.two_pow_pos T
        rcases Int.lt_or_le h1 0 with h | h
        · have := Int.mul_neg_of_neg_of_pos h (show (0 : Int) < ((2 ^ T : Nat) : Int) by omega)
          omega
        · exact h
      have k2 : 0 ≤ h2 := by
        obtain ⟨c, -, c1, -⟩ := hy2
        have := Nat.two_pow_pos T
        rcases Int.lt_or_le h2 0 with h | h
        · have := Int.mul_neg_of_neg_of_pos h (show (0 : Int) < ((2 ^ T : Nat) : Int) by omega)
          omega
        · exact h
      obtain ⟨w1, p1, e1, i1, l1, -⟩ := part_mul hT hS hZ v1 b1 hy1 (by omega)
      obtain ⟨w2, p2, e2, i2, l2, -⟩ := part_mul hT hS' hZ v2 b2 hy2 (by omega)
      have n1 : nq .mul .f64 (nc .f32 .f64 x1) (nc .f32 .f64 y1) = w1 := by unfold nq; rw [e1]; rfl
      have n2 : nq .mul .f64 (nc .f32 .f64 x2) (nc .f32 .f64 y2) = w2 := by unfold nq; rw [e2]; rfl
      rw [n1, n2]
      have hZp := Nat.two_pow_pos Z
      obtain ⟨Q, hQ⟩ : ∃ Q, Q = ((2 ^ Z : Nat) : Int) := ⟨_, rfl⟩
      rw [← hQ] at l1 l2
      have hQp : 0 < Q := by omega
      have hsum : (p1.natAbs : Int) + (p2.natAbs : Int) ≤ (16777218 * 8150 + 2) * Q := by
        have h3 : (16777218 * h1 + 1) * Q + (16777218 * h2 + 1) * Q = (16777218 * (h1 + h2) + 2) * Q := by rw [← Int.add_mul]; congr 1; omega
        have h4 : (16777218 * (h1 + h2) + 2) * Q ≤ (16777218 * 8150 + 2) * Q := Int.mul_le_mul_of_nonneg_right (by omega) (Int.le_of_lt hQp)
        omega
      have hFF : FF .f64 = 52 := rfl
      have hRR : RR .f64 = 2047 := rfl
      have hlim : ((2 ^ (FF .f64 + 1300) : Nat) : Int) ≥ Q * 1099511627776 := by
        have h3 : ((2 ^ (Z + 40) : Nat) : Int) = Q * 1099511627776 := by rw [pow_add_int, ← hQ]; rfl
        rw [← h3]
        exact pow_le_int (by omega)
      have key : ∃ w c, floatBits op .f64 w1 w2 = some w ∧ IsV .f64 w c ∧ (c.natAbs : Int) ≤ (16777218 * 8150 + 3) * Q := by
        rcases hop with rfl | rfl
        · obtain ⟨w, c, hw, hc, ho⟩ := add_V (k := .f64) 1300 (by omega) i1 i2 (by omega)
          refine ⟨w, c, hw, hc, ?_⟩
          unfold Off at ho
          rw [hFF, show (2 : Nat) ^ 52 = 4503599627370496 from rfl] at ho
          omega
        · obtain ⟨w, c, hw, hc, ho⟩ := sub_V (k := .f64) 1300 (by omega) i1 i2 (by omega)
          refine ⟨w, c, hw, hc, ?_⟩
          unfold Off at ho
          rw [hFF, show (2 : Nat) ^ 52 = 4503599627370496 from rfl] at ho
          omega
      obtain ⟨w, c, hw, hc, hl⟩ := key
      have nw : nq op .f64 w1 w2 = w := by unfold nq; rw [hw]; rfl
      rw [nw]
      obtain ⟨S2, hS2⟩ : ∃ S2 : Nat, S2 = 1178 := ⟨_, rfl⟩
      refine narrow_ok hS2 hc ?_
      have h3 : ((2 ^ S2 : Nat) : Int) = Q * 8192 := by rw [show S2 = Z + 13 by omega, pow_add_int, ← hQ]; rfl
      omega
/-- The product of a scaled symbol and a phasor. -/
theorem mulC_ok {T : Nat} {x y : C64} (hT : T = 1062) (h1 : HalfP x.re) (h2 : HalfP x.im) (hy : PhB T y) : ∃ r, mulC x y = some r := by
  obtain ⟨k1, k2, hs, f1, f2⟩ := hy
  unfold mulC
  rw [if_pos ⟨parts_ok .sub (.inr rfl) hT h1 h2 f1 f2 hs, parts_ok .add (.inl rfl) hT h1 h2 f2 f1 (by omega)⟩]
  exact ⟨_, rfl⟩
end Go.Proofs.Ytncckihaacceaaa.PlainP
