/-
  The sine of at most a quarter of a turn: both programs come to the same word, and it is bounded.
-/
import Derived.Test.YtncckihaacceaaaSx3
import Derived.Test.YtncckihaacceaaaSx4
import Derived.Test.YtncckihaacceaaaPhB
namespace Go.Proofs.Ytncckihaacceaaa.PlainP
open Ieee Go.Proofs.YtncckihaacceaaaW.PrintWords
open Go.Proofs.Ytncckihaacceaaa.S

theorem const_T {w m n j d T : Nat} (hd : FloatKind.f64.decode w = .number false m (-((KK .f64 : Nat) : Int) + (j : Int))) (hm : m = n * 2 ^ d) (hl : m < 9007199254740992) (hT : d + j = T) : IsV .f64 w ((n : Int) * ((2 ^ T : Nat) : Int)) := by
  refine ⟨false, m, j, hd, ?_, hl⟩
  show ((m * 2 ^ j : Nat) : Int) = _
  rw [hm, Nat.mul_assoc, ← Nat.pow_add, hT]
  push_cast
  rfl
theorem one_V {T : Nat} (hT : T = 1062) : IsV .f64 4607182418800017408 (4096 * ((2 ^ T : Nat) : Int)) := const_T (n := 4096) (m := 4503599627370496) (j := 1022) (d := 40) (by decide +kernel) (by decide) (by decide) (by omega)
theorem quarter_V {T : Nat} (hT : T = 1062) : IsV .f64 4598175219545276416 (1024 * ((2 ^ T : Nat) : Int)) := const_T (n := 1024) (m := 4503599627370496) (j := 1020) (d := 42) (by decide +kernel) (by decide) (by decide) (by omega)
theorem half_V {T : Nat} (hT : T = 1062) : IsV .f64 4602678819172646912 (2048 * ((2 ^ T : Nat) : Int)) := const_T (n := 2048) (m := 4503599627370496) (j := 1021) (d := 41) (by decide +kernel) (by decide) (by decide) (by omega)
theorem zero_word : IsI .f64 0 0 := by
  have h := int_I (k := .f64) (n := 0) (by decide)
  have e : floatOfInt .f64 0 = 0 := by decide +kernel
  rwa [e] at h
theorem zero_T (T : Nat) : IsV .f64 0 (0 * ((2 ^ T : Nat) : Int)) := by
  have h := isI_V zero_word
  rw [Int.zero_mul] at h ⊢
  exact h
theorem turn_B {T : Nat} (hT : T = 1062) : Box T 4618760256179416344 25735 25736 T := by
  obtain ⟨J, hJ⟩ : ∃ J, J + 38 = T := ⟨1024, by omega⟩
  have hJ' : J = 1024 := by omega
  have hp := Nat.two_pow_pos J
  have e : ((2 ^ T : Nat) : Int) = ((2 ^ J : Nat) : Int) * 274877906944 := by rw [← hJ, pow_add_int]; rfl
  have hv := const_T (w := 4618760256179416344) (n := 7074237752028440) (m := 7074237752028440) (j := J) (d := 0) (T := J) (by rw [hJ']; decide +kernel) (by decide) (by decide) (by omega)
  obtain ⟨Q, hQ⟩ : ∃ Q, Q = ((2 ^ J : Nat) : Int) := ⟨_, rfl⟩
  rw [← hQ] at e hv
  have hp' : 0 < Q := by omega
  refine ⟨_, hv, ?_, ?_, ?_, .inr ?_⟩
  · rw [e]; omega
  · rw [e]; omega
  · omega
  · rw [e]; omega
/-- One round of the series. -/
def Step (u p W p' : Nat) : Prop := FOk .mul .f64 u p = true ∧ FOk .quo .f64 (fq .mul .f64 u p) W = true ∧ FOk .sub .f64 4607182418800017408 (fq .quo .f64 (fq .mul .f64 u p) W) = true ∧ fq .sub .f64 4607182418800017408 (fq .quo .f64 (fq .mul .f64 u p) W) = p'
theorem step_of {T u p W : Nat} {ul pl uph upl qh ql ph pl' n : Int} {Lu : Nat} (hT : T = 1062) (hu : Box T u ul 10115 Lu) (hp : Box T p pl 4097 T) (hW : IsI .f64 W n) (hn0 : 1 ≤ n) (hn1 : n ≤ 400) (hL : 400 ≤ Lu) (hpl : 0 ≤ pl)
    (h1 : (upl + 1) * 4096 ≤ ul * pl) (h2 : (10115 : Int) * 4097 ≤ (uph - 1) * 4096) (h2' : uph ≤ 65536) (h3 : ql * n + 1 ≤ upl ∨ ql ≤ 0) (h4 : uph + 1 ≤ qh * n) (h5 : qh ≤ 4096) (h5' : 0 ≤ ql) (h6 : pl' + 1 ≤ 4096 - qh) (h7 : 1 ≤ pl') (h8 : 4096 - ql ≤ ph - 1) :
    ∃ p', Step u p W p' ∧ Box T p' pl' ph T := by
  obtain ⟨a, ha, ba⟩ := box_mul hT hu hp hpl (by decide) (by decide) (by omega) h1 h2
  obtain ⟨b, hb, bb⟩ := box_quo (lo := ql) (hi := qh) hT ba hW hn0 hn1 h2' (by omega) h3 h4
  obtain ⟨c, hc, bc⟩ := box_sub (lo := pl') (hi := ph) hT (one_V hT) bb h5 h5' h6 h7 h8
  obtain ⟨a1, a2⟩ := fok_some ha
  obtain ⟨b1, b2⟩ := fok_some hb
  obtain ⟨c1, c2⟩ := fok_some hc
  subst a2; subst b2; subst c2
  exact ⟨_, ⟨a1, b1, c1, rfl⟩, bc⟩
theorem step_ok {T u p W : Nat} {n : Int} {Lu : Nat} (hT : T = 1062) (hu : Box T u 0 10115 Lu) (hp : Box T p 3589 4097 T) (hW : IsI .f64 W n) (hn0 : 20 ≤ n) (hn1 : n ≤ 400) (hL : 400 ≤ Lu) : ∃ p', Step u p W p' ∧ Box T p' 3589 4097 T :=
  step_of (upl := -1) (uph := 10119) (ql := 0) (qh := 506) hT hu hp hW (by omega) hn1 hL (by decide) (by decide) (by decide) (by decide) (.inr (by decide)) (by omega) (by decide) (by decide) (by decide) (by decide) (by decide)
theorem word_I (n : Int) (w : Nat) (h : n.natAbs < 9007199254740992) (e : floatOfInt .f64 n = w) : IsI .f64 w n := by
  have := int_I (k := .f64) (n := n) h
  rwa [e] at this
/-- A sine by the series. -/
def Sine (g s : Nat) : Prop := ∃ z u p1 p2 p3 p4 p5 p6 p7 p8, FOk .mul .f64 g 4618760256179416344 = true ∧ fq .mul .f64 g 4618760256179416344 = z ∧ FOk .mul .f64 z z = true ∧ fq .mul .f64 z z = u ∧
  Step u 4607182418800017408 4643492690795692032 p1 ∧ Step u p1 4641592734702895104 p2 ∧ Step u p2 4639692778610098176 p3 ∧ Step u p3 4637440978796412928 p4 ∧ Step u p4 4634766966517661696 p5 ∧ Step u p5 4631107791820423168 p6 ∧ Step u p6 4626322717216342016 p7 ∧ Step u p7 4618441417868443648 p8 ∧
  FOk .mul .f64 z p8 = true ∧ fq .mul .f64 z p8 = s
end Go.Proofs.Ytncckihaacceaaa.PlainP
