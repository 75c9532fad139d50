/-
  The phasor of a whole number of 4096ths of a turn: both programs come to the same complex number, and its parts are bounded.
-/
import Derived.Test.YtncckihaacceaaaSx3
import Derived.Test.YtncckihaacceaaaSx4
import Derived.Test.YtncckihaacceaaaPhE
namespace Go.Proofs.Ytncckihaacceaaa.PlainP
open Ieee Go.Proofs.YtncckihaacceaaaW.PrintWords
open Go.Proofs.Ytncckihaacceaaa.S Go.RowKit

theorem cmp_mul {a b P : Int} (hP : 0 < P) : compare (a * P) (b * P) = compare a b := by
  rcases Int.lt_trichotomy a b with h | h | h
  · have := Int.mul_lt_mul_of_pos_right h hP
    rw [Int.compare_eq_lt.2 h, Int.compare_eq_lt.2 this]
  · subst h; rw [Int.compare_eq_eq.2 rfl, Int.compare_eq_eq.2 rfl]
  · have := Int.mul_lt_mul_of_pos_right h hP
    rw [Int.compare_eq_gt.2 h, Int.compare_eq_gt.2 this]
theorem ord_T {T x y : Nat} {a b : Int} (hx : IsV .f64 x (a * ((2 ^ T : Nat) : Int))) (hy : IsV .f64 y (b * ((2 ^ T : Nat) : Int))) : FloatKind.f64.format.order x y = some (compare a b) := by
  rw [order_V hx hy, cmp_mul (by have := Nat.two_pow_pos T; omega)]
theorem lt_T {T x y : Nat} {a b : Int} (hx : IsV .f64 x (a * ((2 ^ T : Nat) : Int))) (hy : IsV .f64 y (b * ((2 ^ T : Nat) : Int))) (h : a < b) : FloatKind.f64.format.order x y = some .lt := by rw [ord_T hx hy, Int.compare_eq_lt.2 h]
theorem eq_T {T x y : Nat} {a b : Int} (hx : IsV .f64 x (a * ((2 ^ T : Nat) : Int))) (hy : IsV .f64 y (b * ((2 ^ T : Nat) : Int))) (h : a = b) : FloatKind.f64.format.order x y = some .eq := by rw [ord_T hx hy, Int.compare_eq_eq.2 h]
theorem gt_T {T x y : Nat} {a b : Int} (hx : IsV .f64 x (a * ((2 ^ T : Nat) : Int))) (hy : IsV .f64 y (b * ((2 ^ T : Nat) : Int))) (h : b < a) : FloatKind.f64.format.order x y = some .gt := by rw [ord_T hx hy, Int.compare_eq_gt.2 h]
theorem impl_frac {x f : Nat} (h : Frac x f) : impl_fraction.f x = some f := by
  obtain ⟨h1, h2, h3⟩ := h
  unfold impl_fraction.f
  rw [if_pos h1, if_pos h2]
  rcases h3 with ⟨h3, h4, rfl⟩ | ⟨h3, rfl⟩
  · rw [if_pos h3, if_pos h4]
  · rw [if_neg (by rw [h3]; decide)]
theorem spec_sine_frac {x f : Nat} (h : Frac x f) (k : Nat) : spec_l01SineWide.j0 (k + 1) x false = spec_l01SineWide.j1 k f := by
  obtain ⟨h1, h2, h3⟩ := h
  simp only [spec_l01SineWide.j0]
  rw [if_neg (by decide), if_pos h1, if_pos h2]
  rcases h3 with ⟨h3, h4, rfl⟩ | ⟨h3, rfl⟩
  · rw [if_pos h3, if_pos h4]
  · rw [if_neg (by rw [h3]; decide)]
theorem spec_ph_frac {x f : Nat} (h : Frac x f) (k : Nat) : spec_l01Phasor.j0 (k + 1) x false = spec_l01Phasor.j1 k f := by
  obtain ⟨h1, h2, h3⟩ := h
  simp only [spec_l01Phasor.j0]
  rw [if_neg (by decide), if_pos h1, if_pos h2]
  rcases h3 with ⟨h3, h4, rfl⟩ | ⟨h3, rfl⟩
  · rw [if_pos h3, if_pos h4]
  · rw [if_neg (by rw [h3]; decide)]
theorem big_T {T : Nat} (hT : T = 1062) : IsV .f64 4841369599423283200 (18446744073709551616 * ((2 ^ T : Nat) : Int)) := whole_V hT (a := 4503599627370496) (by decide) (by decide +kernel)
theorem nbig_T {T : Nat} (hT : T = 1062) : IsV .f64 14064741636278059008 (-18446744073709551616 * ((2 ^ T : Nat) : Int)) := whole_V hT (a := -4503599627370496) (by decide) (by decide +kernel)
/-- Finite and not great. -/
theorem tests {T x : Nat} {n : Int} (hT : T = 1062) (hx : IsV .f64 x (n * ((2 ^ T : Nat) : Int))) (hn : n.natAbs ≤ 1048576) :
    FOk .sub .f64 x x = true ∧ FloatKind.f64.format.order (fq .sub .f64 x x) 0 = some .eq ∧ FloatKind.f64.format.order x 4841369599423283200 = some .lt ∧ FloatKind.f64.format.order x 14064741636278059008 = some .gt := by
  obtain ⟨y, hy1, hy2⟩ := sub_T (T := T) (by rw [hT]; decide) (by rw [hT]; decide) hx hx (by rw [Int.sub_self]; decide)
  obtain ⟨g1, g2⟩ := fok_some hy1
  rw [Int.sub_self] at hy2
  exact ⟨g1, by rw [g2]; exact eq_T hy2 (zero_T T) rfl, lt_T hx (big_T hT) (by omega), gt_T hx (nbig_T hT) (by omega)⟩
theorem sines {T g : Nat} {j : Int} (hT : T = 1062) (h0 : 0 ≤ j) (h1 : j ≤ 1024) (hg : IsV .f64 g (j * ((2 ^ T : Nat) : Int))) :
    ∃ s, (∀ k, impl_sine.f (k + 20) g = some s) ∧ (∀ k, spec_l01SineWide.f (k + 20) g = some s) ∧ Box T s 0 (if j ≤ 512 then 3222 else 4905) 1030 := by
  obtain ⟨f, hf, hv⟩ := frac_of hT hg (by omega)
  rw [Int.emod_eq_of_lt h0 (by omega)] at hv
  obtain ⟨s, hs, hb⟩ := sine_ok hT h0 h1 hv
  obtain ⟨t1, t2, t3, t4⟩ := tests hT hg (by omega)
  have o1 := lt_T hv (half_V hT) (by omega : j < 2048)
  have o2 : (FloatKind.f64.format.order f 4598175219545276416 == some .gt) = false := by
    rcases Int.lt_or_eq_of_le h1 with h | h
    · rw [lt_T hv (quarter_V hT) h]; rfl
    · rw [eq_T hv (quarter_V hT) h]; rfl
  refine ⟨s, fun k => ?_, fun k => ?_, hb⟩
  · show (impl_fraction.f g).bind _ = _
    rw [impl_frac hf]
    simp only [Option.bind_some, o1]
    rw [if_neg (by decide)]
    show impl_sine.j0 (k + 19 + 1) f false = _
    simp only [impl_sine.j0]
    rw [if_neg (by rw [o2]; decide)]
    exact impl_j1 hs (k + 9)
  · unfold spec_l01SineWide.f
    rw [if_pos t1, t2, t3, t4, if_neg (by decide), if_neg (by decide)]
    show spec_l01SineWide.j0 (k + 19 + 1) g false = _
    rw [spec_sine_frac hf]
    show spec_l01SineWide.j1 (k + 18 + 1) f = _
    simp only [spec_l01SineWide.j1, o1]
    rw [if_neg (by decide)]
    show spec_l01SineWide.j2 (k + 17 + 1) f false = _
    simp only [spec_l01SineWide.j2]
    rw [if_neg (by rw [o2]; decide)]
    exact spec_j3 hs (k + 7)
end Go.Proofs.Ytncckihaacceaaa.PlainP
