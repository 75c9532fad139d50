/-
  Narrowing of what isn't too great, and of what is no number at all: it gives no word that hangs on the world. A product of a symbol and a phasor is such.
-/
import Derived.Test.YtncckihaacceaaaPhH
import Derived.Test.YtncckihaacceaaaNans
namespace Go.Proofs.Ytncckihaacceaaa.PlainP
open Ieee Go.Proofs.YtncckihaacceaaaW.PrintWords

theorem read_fin32 (s : Bool) (rung : Nat) (h : rung < 2139095040) : (Ieee.single.read (Ieee.single.word s rung)).isInfinity = false := by
  have hs : Ieee.single.signWeight = 2147483648 := by decide +kernel
  have hb : Ieee.single.binade = 8388608 := by decide +kernel
  have hi : Ieee.single.infRung = 2139095040 := by decide +kernel
  have hw : (Ieee.single.word s rung) % 2147483648 = rung := by
    unfold Format.word
    rw [hs]
    cases s
    · show rung % 2147483648 = rung
      omega
    · show (2147483648 + rung) % 2147483648 = rung
      omega
  unfold Format.read
  simp only [hs, hb, hi, hw]
  by_cases h1 : rung < 8388608
  · rw [if_pos h1]; rfl
  · rw [if_neg h1, if_pos h]; rfl
theorem narrow_fin {s : Bool} {m j S : Nat} (hS : S = 1178) (h : m * 2 ^ j < 16777215 * 2 ^ S) : (Ieee.single.read (Ieee.single.nearest s m (-(1074 : Int) + (j : Int)))).isInfinity = false := by
  have hb : Ieee.single.binade = 8388608 := by decide +kernel
  have hi : Ieee.single.infRung = 2139095040 := by decide +kernel
  have hl : Ieee.single.leastPlace = -149 := by decide +kernel
  have hf : Ieee.single.fractionBits = 23 := rfl
  unfold Format.nearest
  by_cases hm : m = 0
  · rw [if_pos hm]; exact read_fin32 s 0 (by decide)
  · rw [if_neg hm]
    simp only [hl, hf, hb, hi]
    obtain ⟨g, hg⟩ : ∃ g, g = m.log2 := ⟨_, rfl⟩
    have g1 : 2 ^ g ≤ m := by rw [hg]; exact Nat.log2_self_le hm
    have g2 : m < 2 ^ (g + 1) := by rw [hg]; exact Nat.lt_log2_self
    rw [← hg]
    have g3 : g + j < S + 24 := by
      rcases Nat.lt_or_ge (g + j) (S + 24) with h1 | h1
      · exact h1
      · exfalso
        have h2 : 2 ^ (S + 24) ≤ 2 ^ (g + j) := Nat.pow_le_pow_right (by decide) h1
        have h3 : 2 ^ g * 2 ^ j ≤ m * 2 ^ j := Nat.mul_le_mul_right _ g1
        rw [← Nat.pow_add] at h3
        have h4 : 2 ^ (S + 24) = 2 ^ S * 16777216 := by rw [Nat.pow_add]
        omega
    obtain ⟨last, hlast⟩ : ∃ last : Int, last = max (-1074 + (j : Int) + (g : Int) - ((23 : Nat) : Int)) (-149) := ⟨_, rfl⟩
    rw [← hlast]
    have l1 : -1074 + (j : Int) + (g : Int) - 23 ≤ last := by omega
    have l2 : last ≤ 104 := by omega
    have l3 : -149 ≤ last := by omega
    apply read_fin32
    refine Nat.lt_of_le_of_lt (Nat.min_le_left _ _) ?_
    obtain ⟨t, ht⟩ : ∃ t : Nat, (t : Int) = last - -149 := ⟨(last - -149).toNat, by omega⟩
    rw [show (last - -149).toNat = t by omega]
    have ht2 : t ≤ 253 := by omega
    rcases Int.le_total last (-1074 + (j : Int)) with hc | hc
    · rw [show (last - (-1074 + (j : Int))).toNat = 0 by omega, cut_zero, Nat.shiftLeft_eq]
      obtain ⟨u, hu⟩ : ∃ u : Nat, (-1074 + (j : Int) - last).toNat = u := ⟨_, rfl⟩
      rw [hu]
      have hk : m * 2 ^ u < 16777216 := by
        have h1 : m * 2 ^ u < 2 ^ (g + 1) * 2 ^ u := Nat.mul_lt_mul_of_pos_right g2 (Nat.two_pow_pos _)
        rw [← Nat.pow_add] at h1
        have h2 : 2 ^ (g + 1 + u) ≤ 2 ^ 24 := Nat.pow_le_pow_right (by decide) (by omega)
        omega
      omega
    · rw [show (-1074 + (j : Int) - last).toNat = 0 by omega, Nat.shiftLeft_zero]
      obtain ⟨d, hd⟩ : ∃ d : Nat, (last - (-1074 + (j : Int))).toNat = d := ⟨_, rfl⟩
      rw [hd]
      obtain ⟨c1, -⟩ := cut_off s m d
      obtain ⟨K, hK⟩ : ∃ K, K = Toward.even.cut s m d := ⟨_, rfl⟩
      rw [← hK] at c1 ⊢
      have hdp := Nat.two_pow_pos d
      rcases Int.lt_or_le last 104 with hl4 | hl4
      · have h1 : m < 16777216 * 2 ^ d := by
          have h2 : 2 ^ (g + 1) ≤ 2 ^ (24 + d) := Nat.pow_le_pow_right (by decide) (by omega)
          rw [Nat.pow_add 2 24 d] at h2
          omega
        have h3 : K * 2 ^ d < 16777217 * 2 ^ d := by omega
        have h4 := Nat.lt_of_mul_lt_mul_right h3
        have : t ≤ 252 := by omega
        omega
      · have h1 : m < 16777215 * 2 ^ d := by
          have e : 2 ^ S = 2 ^ d * 2 ^ j := by rw [← Nat.pow_add]; congr 1; omega
          rw [e, ← Nat.mul_assoc] at h
          exact Nat.lt_of_mul_lt_mul_right h
        have h3 : K * 2 ^ d < 16777216 * 2 ^ d := by omega
        have h4 := Nat.lt_of_mul_lt_mul_right h3
        omega
theorem narrow_ok {x S : Nat} {v : Int} (hS : S = 1178) (hx : IsV .f64 x v) (h : v.natAbs < 16777215 * 2 ^ S) : NarOk x = true := by
  obtain ⟨s, m, j, d, e, -⟩ := hx
  rw [← e, sg_natAbs] at h
  unfold NarOk floatToFloatBits
  rw [if_neg (by decide), d]
  simp only
  have := narrow_fin (s := s) hS h
  rw [if_neg (by
    have e2 : (FloatKind.f32.decode (FloatKind.f32.encode (.number s m (-((KK .f64 : Nat) : Int) + (j : Int))))).isInfinity = false := this
    rw [e2]; decide)]
  rfl
/-- No number: an infinity or a NaN. -/
def Odd (k : FloatKind) (x : Nat) : Prop := ∀ s m e, k.decode x ≠ .number s m e
theorem odd_ok {x : Nat} (h : Odd .f64 x) : NarOk x = true := by
  unfold NarOk floatToFloatBits
  rw [if_neg (by decide)]
  cases hd : FloatKind.f64.decode x with
  | number s m e => exact absurd hd (h s m e)
  | infinity s => rfl
  | nan s t => rfl
theorem odd_nan (k : FloatKind) (x : Nat) (h : (k.decode x).isNaN = true) : Odd k x := fun s m e he => by rw [he] at h; cases h
theorem odd_inf (k : FloatKind) (s : Bool) : Odd k (k.encode (.infinity s)) := by
  intro t m e
  cases k <;> cases s <;> (intro h; revert h) <;> first | (have : FloatKind.f32.decode (FloatKind.f32.encode (.infinity false)) = .infinity false := by decide +kernel); (rw [this]; exact fun h => by cases h) | (have : FloatKind.f32.decode (FloatKind.f32.encode (.infinity true)) = .infinity true := by decide +kernel); (rw [this]; exact fun h => by cases h) | (have : FloatKind.f64.decode (FloatKind.f64.encode (.infinity false)) = .infinity false := by decide +kernel); (rw [this]; exact fun h => by cases h) | (have : FloatKind.f64.decode (FloatKind.f64.encode (.infinity true)) = .infinity true := by decide +kernel); (rw [this]; exact fun h => by cases h)
theorem odd_cases {k : FloatKind} {x : Nat} (h : Odd k x) : (∃ s, k.decode x = .infinity s) ∨ (k.decode x).isNaN = true := by
  cases hd : k.decode x with
  | number s m e => exact absurd hd (h s m e)
  | infinity s => exact .inl ⟨s, rfl⟩
  | nan s t => exact .inr rfl
theorem odd_mul {k : FloatKind} {x y : Nat} (h : Odd k x ∨ Odd k y) : Odd k (nq .mul k x y) := by
  unfold nq
  cases hb : floatBits .mul k x y with
  | none => exact odd_nan k _ (qn_nan k)
  | some r =>
    have hb' : (Datum.product (k.decode x) (k.decode y)).map k.format.write = some r := hb
    cases hx : k.decode x with
    | nan s t => rw [hx] at hb'; cases hb'
    | infinity s =>
      cases hy : k.decode y with
      | nan s t => rw [hx, hy] at hb'; cases hb'
      | infinity t =>
        rw [hx, hy] at hb'
        simp only [Datum.product, Option.map_some, Option.some.injEq] at hb'
        rw [← hb']; exact odd_inf k _
      | number t n e =>
        rw [hx, hy] at hb'
        simp only [Datum.product] at hb'
        split at hb'
        · cases hb'
        · simp only [Option.map_some, Option.some.injEq] at hb'
          rw [← hb']; exact odd_inf k _
    | number s m e =>
      cases hy : k.decode y with
      | nan s t => rw [hx, hy] at hb'; cases hb'
      | infinity t =>
        rw [hx, hy] at hb'
        simp only [Datum.product] at hb'
        split at hb'
        · cases hb'
        · simp only [Option.map_some, Option.some.injEq] at hb'
          rw [← hb']; exact odd_inf k _
      | number t n e' =>
        rcases h with h | h
        · exact absurd hx (h s m e)
        · exact absurd hy (h t n e')
theorem odd_sum {k : FloatKind} {x y : Nat} (op : BinOp) (ho : op = .add ∨ op = .sub) (h : Odd k x ∨ Odd k y) : Odd k (nq op k x y) := by
  unfold nq
  cases hb : floatBits op k x y with
  | none => exact odd_nan k _ (qn_nan k)
  | some r =>
    have hb' : ∃ D, ((D = k.decode y) ∨ D = (k.decode y).opposite) ∧ (Datum.sum (k.decode x) D).map k.format.write = some r := by
      rcases ho with rfl | rfl
      · exact ⟨_, .inl rfl, hb⟩
      · exact ⟨_, .inr rfl, hb⟩
    obtain ⟨D, hD, hb'⟩ := hb'
    have hDo : Odd k y → ∀ s m e, D ≠ .number s m e := by
      intro hy s m e he
      rcases hD with rfl | hD
      · exact hy s m e he
      · cases hyy : k.decode y with
        | number s' m' e' => exact hy s' m' e' hyy
        | infinity t => rw [hD, hyy] at he; cases he
        | nan t f => rw [hD, hyy] at he; cases he
    cases hx : k.decode x with
    | nan s t => rw [hx] at hb'; cases hb'
    | infinity s =>
      cases D with
      | nan s t => rw [hx] at hb'; cases hb'
      | infinity t =>
        rw [hx] at hb'
        simp only [Datum.sum] at hb'
        split at hb'
        · simp only [Option.map_some, Option.some.injEq] at hb'
          rw [← hb']; exact odd_inf k _
        · cases hb'
      | number t n e =>
        rw [hx] at hb'
        simp only [Datum.sum, Option.map_some, Option.some.injEq] at hb'
        rw [← hb']; exact odd_inf k _
    | number s m e =>
      cases D with
      | nan s t => rw [hx] at hb'; cases hb'
      | infinity t =>
        rw [hx] at hb'
        simp only [Datum.sum, Option.map_some, Option.some.injEq] at hb'
        rw [← hb']; exact odd_inf k _
      | number t n e' =>
        rcases h with h | h
        · exact absurd hx (h s m e)
        · exact absurd rfl (hDo h t n e')
theorem odd_wide {x : Nat} (h : Odd .f32 x) : Odd .f64 (nc .f32 .f64 x) := by
  unfold nc
  rcases odd_cases h with ⟨s, hs⟩ | hn
  · have e : floatToFloatBits .f32 x .f64 = some (FloatKind.f64.encode (.infinity s)) := by
      unfold floatToFloatBits
      rw [if_neg (by decide), hs]
    rw [e]
    exact odd_inf .f64 s
  · rw [conv_nan .f32 .f64 (by decide) x hn]
    exact odd_nan .f64 _ (qn_nan .f64)
end Go.Proofs.Ytncckihaacceaaa.PlainP
