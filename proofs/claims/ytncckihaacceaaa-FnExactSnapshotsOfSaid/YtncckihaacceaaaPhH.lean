/-
  Both programs' phasors of whole numbers of 4096ths of a turn are one, and bounded.
-/
import Derived.Test.YtncckihaacceaaaPhG
namespace Go.Proofs.Ytncckihaacceaaa.PlainP
open Ieee Go.Proofs.YtncckihaacceaaaW.PrintWords
open Go.Proofs.Ytncckihaacceaaa.S Go.RowKit

theorem geq_of {o : Option Ordering} (h : o = some .gt ∨ o = some .eq) : (o == some .gt || o == some .eq) = true := by rcases h with rfl | rfl <;> rfl
theorem lss_of {o : Option Ordering} (h : o = some .lt) : (o == some .gt || o == some .eq) = false := by subst h; rfl
theorem quarters {T : Nat} (hT : T = 1062) : ∀ (q : Nat) (f : Nat) (r : Int), q ≤ 3 → 0 ≤ r - 1024 * q → r - 1024 * q < 1024 → IsV .f64 f (r * ((2 ^ T : Nat) : Int)) →
    ∃ f', IsV .f64 f' ((r - 1024 * q) * ((2 ^ T : Nat) : Int)) ∧ (∀ (k : Nat) (i : Int), 0 ≤ i → i + q ≤ 100 → impl_PhasorOf.l0 (k + q) f i = impl_PhasorOf.l0 k f' (i + q)) ∧ (∀ (k : Nat) (i : Int), 0 ≤ i → i + q ≤ 100 → spec_l01Phasor.l0 (k + q) f i = spec_l01Phasor.l0 k f' (i + q))
  | 0, f, r, _, _, _, hf => ⟨f, by simpa using hf, fun k i _ _ => by simp, fun k i _ _ => by simp⟩
  | q + 1, f, r, hq, h0, h1, hf => by
    have hr : 1024 ≤ r := by omega
    have ho : (FloatKind.f64.format.order f 4598175219545276416 == some .gt || FloatKind.f64.format.order f 4598175219545276416 == some .eq) = true := by
      apply geq_of
      rcases Int.lt_or_eq_of_le hr with h | h
      · exact .inl (gt_T hf (quarter_V hT) h)
      · exact .inr (eq_T hf (quarter_V hT) h.symm)
    obtain ⟨y, hy1, hy2⟩ := sub_T (T := T) (by rw [hT]; decide) (by rw [hT]; decide) hf (quarter_V hT) (by simp only [FF]; omega)
    obtain ⟨g1, g2⟩ := fok_some hy1
    obtain ⟨f', v1, v2, v3⟩ := quarters hT q y (r - 1024) (by omega) (by omega) (by omega) hy2
    refine ⟨f', by rw [show r - 1024 * ((q + 1 : Nat) : Int) = r - 1024 - 1024 * (q : Int) by omega]; exact v1, fun k i i0 i1 => ?_, fun k i i0 i1 => ?_⟩
    · have hw : wrap64 (i + 1) = i + 1 := by unfold wrap64; omega
      show impl_PhasorOf.l0 (k + q + 1) f i = _
      simp only [impl_PhasorOf.l0]
      rw [if_pos ho, if_pos g1, g2, hw, v2 k (i + 1) (by omega) (by omega)]
      congr 1; omega
    · have hw : wrap64 (i + 1) = i + 1 := by unfold wrap64; omega
      show spec_l01Phasor.l0 (k + q + 1) f i = _
      simp only [spec_l01Phasor.l0]
      rw [if_pos ho, if_pos g1, g2, hw, v3 k (i + 1) (by omega) (by omega)]
      congr 1; omega
theorem narrow_f {w : Nat} (h : FC 65 23 .f64 .f32 w = true) : spec_l01Narrow.f w = some (fc .f64 .f32 w) := by
  unfold spec_l01Narrow.f
  rw [if_pos h]
/-- At the last quarter: the parts are two sines, turned. -/
theorem phase_end {T f : Nat} {j : Int} (hT : T = 1062) (h0 : 0 ≤ j) (h1 : j < 1024) (hf : IsV .f64 f (j * ((2 ^ T : Nat) : Int))) (q : Nat) (hq : q ≤ 3) :
    ∃ y, (∀ k, impl_PhasorOf.l0 (k + 21) f (q : Int) = some y) ∧ (∀ k, spec_l01Phasor.l0 (k + 21) f (q : Int) = some y) ∧ PhB T y := by
  have ho : (FloatKind.f64.format.order f 4598175219545276416 == some .gt || FloatKind.f64.format.order f 4598175219545276416 == some .eq) = false := lss_of (lt_T hf (quarter_V hT) h1)
  obtain ⟨e, he1, he2⟩ := sub_T (T := T) (by rw [hT]; decide) (by rw [hT]; decide) (quarter_V hT) hf (by simp only [FF]; omega)
  obtain ⟨g1, g2⟩ := fok_some he1
  obtain ⟨c, ic, sc, bc⟩ := sines hT (by omega) (by omega) he2
  obtain ⟨s, is_, ss, bs⟩ := sines hT h0 (by omega) hf
  obtain ⟨hc, ehc⟩ : ∃ hc : Int, (if 1024 - j ≤ 512 then (3222 : Int) else 4905) = hc := ⟨_, rfl⟩
  obtain ⟨hs, ehs⟩ : ∃ hs : Int, (if j ≤ 512 then (3222 : Int) else 4905) = hs := ⟨_, rfl⟩
  rw [ehc] at bc
  rw [ehs] at bs
  have hsum : hc + hs ≤ 8127 ∧ hc ≤ 4905 ∧ hs ≤ 4905 := by
    rw [← ehc, ← ehs]
    split <;> split <;> omega
  obtain ⟨nc1, nc2⟩ := fb_narrow hT (sb_box bc) (by decide) (by omega)
  obtain ⟨ns1, ns2⟩ := fb_narrow hT (sb_box bs) (by decide) (by omega)
  obtain ⟨mc, mc'⟩ := sb_neg hT bc (by decide) (by decide) (by omega)
  obtain ⟨ms, ms'⟩ := sb_neg hT bs (by decide) (by decide) (by omega)
  obtain ⟨oc1, oc2⟩ := fb_narrow hT mc' (by decide) (by omega)
  obtain ⟨os1, os2⟩ := fb_narrow hT ms' (by decide) (by omega)
  have hq' : q = 0 ∨ q = 1 ∨ q = 2 ∨ q = 3 := by omega
  rcases hq' with rfl | rfl | rfl | rfl
  · refine ⟨⟨fc .f64 .f32 c, fc .f64 .f32 s⟩, fun k => ?_, fun k => ?_, hc + 1, hs + 1, by omega, fb_wide nc2 (Int.le_refl _) (by decide), fb_wide ns2 (Int.le_refl _) (by decide)⟩
    · show impl_PhasorOf.l0 (k + 20 + 1) f _ = _
      simp only [impl_PhasorOf.l0]
      rw [if_neg (by rw [ho]; decide), if_pos g1, g2, ic, is_]
      simp only [Option.bind_some]
      rw [if_neg (by decide), if_neg (by decide), if_neg (by decide), if_pos nc1, if_pos ns1]
    · show spec_l01Phasor.l0 (k + 20 + 1) f _ = _
      simp only [spec_l01Phasor.l0]
      rw [if_neg (by rw [ho]; decide), if_pos g1, g2, sc, ss]
      simp only [Option.bind_some]
      rw [if_neg (by decide), if_neg (by decide), if_neg (by decide), narrow_f nc1, narrow_f ns1]
      rfl
  · refine ⟨⟨fc .f64 .f32 (fq .sub .f64 0 s), fc .f64 .f32 c⟩, fun k => ?_, fun k => ?_, hs + 1 + 1, hc + 1, by omega, fb_wide os2 (Int.le_refl _) (by decide), fb_wide nc2 (Int.le_refl _) (by decide)⟩
    · show impl_PhasorOf.l0 (k + 20 + 1) f _ = _
      simp only [impl_PhasorOf.l0]
      rw [if_neg (by rw [ho]; decide), if_pos g1, g2, ic, is_]
      simp only [Option.bind_some]
      rw [if_pos (by decide), if_pos ms, if_pos os1, if_pos nc1]
    · show spec_l01Phasor.l0 (k + 20 + 1) f _ = _
      simp only [spec_l01Phasor.l0]
      rw [if_neg (by rw [ho]; decide), if_pos g1, g2, sc, ss]
      simp only [Option.bind_some]
      rw [if_pos (by decide), if_pos ms, narrow_f os1, narrow_f nc1]
      rfl
  · refine ⟨⟨fc .f64 .f32 (fq .sub .f64 0 c), fc .f64 .f32 (fq .sub .f64 0 s)⟩, fun k => ?_, fun k => ?_, hc + 1 + 1, hs + 1 + 1, by omega, fb_wide oc2 (Int.le_refl _) (by decide), fb_wide os2 (Int.le_refl _) (by decide)⟩
    · show impl_PhasorOf.l0 (k + 20 + 1) f _ = _
      simp only [impl_PhasorOf.l0]
      rw [if_neg (by rw [ho]; decide), if_pos g1, g2, ic, is_]
      simp only [Option.bind_some]
      rw [if_neg (by decide), if_pos (by decide), if_pos mc, if_pos ms, if_pos oc1, if_pos os1]
    · show spec_l01Phasor.l0 (k + 20 + 1) f _ = _
      simp only [spec_l01Phasor.l0]
      rw [if_neg (by rw [ho]; decide), if_pos g1, g2, sc, ss]
      simp only [Option.bind_some]
      rw [if_neg (by decide), if_pos (by decide), if_pos mc, narrow_f oc1]
      simp only [Option.bind_some]
      rw [if_pos ms, narrow_f os1]
      rfl
  · refine ⟨⟨fc .f64 .f32 s, fc .f64 .f32 (fq .sub .f64 0 c)⟩, fun k => ?_, fun k => ?_, hs + 1, hc + 1 + 1, by omega, fb_wide ns2 (Int.le_refl _) (by decide), fb_wide oc2 (Int.le_refl _) (by decide)⟩
    · show impl_PhasorOf.l0 (k + 20 + 1) f _ = _
      simp only [impl_PhasorOf.l0]
      rw [if_neg (by rw [ho]; decide), if_pos g1, g2, ic, is_]
      simp only [Option.bind_some]
      rw [if_neg (by decide), if_neg (by decide), if_pos (by decide), if_pos mc, if_pos ns1, if_pos oc1]
    · show spec_l01Phasor.l0 (k + 20 + 1) f _ = _
      simp only [spec_l01Phasor.l0]
      rw [if_neg (by rw [ho]; decide), if_pos g1, g2, sc, ss]
      simp only [Option.bind_some]
      rw [if_neg (by decide), if_neg (by decide), if_pos (by decide), narrow_f ns1]
      simp only [Option.bind_some]
      rw [if_pos mc, narrow_f oc1]
      rfl
theorem quot_of {n : Int} (hn : n.natAbs ≤ 524288) : FOk .quo .f64 (floatOfInt .f64 n) 4661225614328463360 = true ∧ ∃ T : Nat, T = 1062 ∧ IsV .f64 (fq .quo .f64 (floatOfInt .f64 n) 4661225614328463360) (n * ((2 ^ T : Nat) : Int)) ∧ fq .quo .f64 (floatOfInt .f64 n) 4661225614328463360 < 18446744073709551616 := by
  obtain ⟨T, hT⟩ : ∃ T : Nat, T = 1062 := ⟨_, rfl⟩
  obtain ⟨w, h1, h2⟩ := quo_4096 (T := T) (by rw [hT]; rfl) (int_I (k := .f64) (n := n) (by simp only [FF]; omega)) (by omega)
  obtain ⟨g1, g2⟩ := fok_some h1
  refine ⟨g1, T, hT, by rw [g2]; exact h2, ?_⟩
  rw [g2]
  have h3 := floatBits_wf h1
  simpa [Lit.wf] using h3
/-- The phasor of n 4096ths of a turn. -/
theorem phasor {n : Int} (hn : n.natAbs ≤ 524288) : FOk .quo .f64 (floatOfInt .f64 n) 4661225614328463360 = true ∧ ∃ y, (∀ k, impl_PhasorOf.f (k + 30) (fq .quo .f64 (floatOfInt .f64 n) 4661225614328463360) = some y) ∧ (∀ k, spec_l01Phasor.f (k + 30) (fq .quo .f64 (floatOfInt .f64 n) 4661225614328463360) = some y) ∧ ∃ T : Nat, T = 1062 ∧ PhB T y := by
  obtain ⟨g1, T, hT, hx, hlt⟩ := quot_of hn
  refine ⟨g1, ?_⟩
  obtain ⟨x, ex⟩ : ∃ x, x = fq .quo .f64 (floatOfInt .f64 n) 4661225614328463360 := ⟨_, rfl⟩
  rw [← ex] at hx hlt ⊢
  obtain ⟨t1, t2, t3, t4⟩ := tests hT hx (by omega)
  obtain ⟨f, hf, hv⟩ := frac_of hT hx (by omega)
  have r0 := Int.emod_nonneg n (show (4096 : Int) ≠ 0 by decide)
  have r1 := Int.emod_lt_of_pos n (show (0 : Int) < 4096 by decide)
  obtain ⟨r, er⟩ : ∃ r, r = n % 4096 := ⟨_, rfl⟩
  rw [← er] at hv r0 r1
  obtain ⟨q, hq, hq0, hq1⟩ : ∃ q : Nat, q ≤ 3 ∧ 0 ≤ r - 1024 * (q : Int) ∧ r - 1024 * (q : Int) < 1024 := ⟨(r / 1024).toNat, by omega, by omega, by omega⟩
  obtain ⟨f', v1, v2, v3⟩ := quarters hT q f r hq hq0 hq1 hv
  obtain ⟨y, i1, s1, b1⟩ := phase_end hT hq0 hq1 v1 q hq
  have ha := abs_V hx
  rw [Int.natAbs_mul, Int.natAbs_natCast] at ha
  have ha' : IsV .f64 (x % 9223372036854775808) ((n.natAbs : Int) * ((2 ^ T : Nat) : Int)) := by
    have e : ((n.natAbs * 2 ^ T : Nat) : Int) = (n.natAbs : Int) * ((2 ^ T : Nat) : Int) := by push_cast; rfl
    rw [← e]; exact ha
  have hab := lss_of (lt_T ha' (big_T hT) (by omega))
  refine ⟨y, fun k => ?_, fun k => ?_, T, hT, b1⟩
  · unfold impl_PhasorOf.f impl_isFinite64.f
    rw [if_pos t1, t2]
    simp only [Option.bind_some]
    rw [if_pos (by decide)]
    unfold math_Abs.f
    rw [if_pos hlt]
    simp only [Option.bind_some]
    rw [if_neg (by rw [hab]; decide), impl_frac hf]
    simp only [Option.bind_some]
    have := v2 (k + 30 - q) 0 (Int.le_refl _) (by omega)
    rw [show k + 30 - q + q = k + 30 by omega, Int.zero_add] at this
    rw [this, show k + 30 - q = (k + 9 - q) + 21 by omega]
    exact i1 _
  · unfold spec_l01Phasor.f
    rw [if_pos t1, t2, t3, t4, if_neg (by decide), if_neg (by decide)]
    show spec_l01Phasor.j0 (k + 29 + 1) x false = _
    rw [spec_ph_frac hf]
    show spec_l01Phasor.l0 (k + 28) f 0 = _
    have := v3 (k + 28 - q) 0 (Int.le_refl _) (by omega)
    rw [show k + 28 - q + q = k + 28 by omega, Int.zero_add] at this
    rw [this, show k + 28 - q = (k + 7 - q) + 21 by omega]
    exact s1 _
end Go.Proofs.Ytncckihaacceaaa.PlainP
