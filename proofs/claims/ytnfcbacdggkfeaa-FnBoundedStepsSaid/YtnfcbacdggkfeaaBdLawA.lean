/-
  The law of bounded steps: adapters, what is drawn, and the step with a wide bound.
-/
import Derived.Test.YtnfcbacdggkfeaaBx3
import Derived.Test.YtnfcbacdggkfeaaBx4
import Derived.Test.YtnfcbacdggkfeaaBdCmp
namespace Go.Proofs.Ytnfcbacdggkfeaa.PlainBd
open Ieee Go.RowKit Go.Proofs.YtnfcbacdggkfeaaW.PrintWords Go.Proofs.YtnfcbacdggkfeaaW.PrintLast Go.Proofs.YtnfcbacdggkfeaaW.PrintMore
open Go.Proofs.Ytnfcbacdggkfeaa.B Go.Proofs.Ytnfcbacdggkfeaa.PlainP

theorem powerOf_any {y : C64} {c d : Int} (i1 : IsV .f32 y.re c) (i2 : IsV .f32 y.im d) (b1 : c.natAbs ≤ 2 ^ 160) (b2 : d.natAbs ≤ 2 ^ 160) :
    ∃ (w : Nat) (q : Int), impl_PowerOf.f y = some w ∧ IsV .f32 w q ∧ PwI (2 ^ 149) q (c.natAbs * c.natAbs + d.natAbs * d.natAbs) := by
  obtain ⟨u, D, e, iu, r⟩ := power_any i1 i2 b1 b2
  have hD : D < 2 ^ 1148 := by
    have d1 := (rel_half (by decide) r).2
    have d2 := pq_le (P := fun _ => c) (Q := fun _ => d) (j := 0) b1 b2
    unfold pq at d2
    have d3 := m_room 321 925 2171 _ rfl d2
    have d4 := pow_dbl 2171 2172 rfl
    have d5 := pow_mm 1148 (KK .f64) 2222 rfl
    have d6 := pow_lt' 2172 2222 (by decide)
    refine Nat.lt_of_mul_lt_mul_right (a := 2 ^ KK .f64) ?_
    rw [d5]
    refine Nat.lt_of_le_of_lt (Nat.le_trans d1 (Nat.mul_le_mul_left 2 d3)) ?_
    rw [d4]
    exact d6
  obtain ⟨w, q, en, i, n, -⟩ := narrow_fit iu (by
    have hN : FF .f32 + 200 + 925 = 1148 := rfl
    rw [hN, Int.natAbs_natCast]
    exact hD)
  obtain ⟨o1, q1⟩ := fcok_some en 37 34
  refine ⟨w, q, ?_, i, ?_⟩
  · unfold impl_PowerOf.f
    rw [e]
    simp only [Option.bind_some]
    rw [if_pos o1, q1]
  · have c5 := pow_eq6 925 (KK .f64) 149 (by decide)
    have c6 := pos2 925 925
    obtain ⟨Y, hY⟩ := ex_eq (2 ^ 925)
    obtain ⟨T, hT⟩ := ex_eq (2 ^ KK .f64)
    obtain ⟨H, hH⟩ := ex_eq (2 ^ 149)
    rw [hY, hT] at r
    rw [hY, hT, hH] at c5
    rw [hY] at c6 n
    rw [Int.natAbs_natCast D] at n
    rw [hH]
    exact pw_fin c6 c5 (r.mono (by decide)) n
theorem finB_V {w : Nat} {c : Int} (h : IsV .f32 w c) : FloatFacts.finB w = true := by
  obtain ⟨s, m, j, d, -⟩ := h
  unfold FloatFacts.finB
  rw [d]
theorem nought_32 : IsV .f32 0 0 := ⟨false, 0, 0, by decide +kernel, by decide +kernel, by decide⟩
theorem valid_some (l : List C64) (h1 : 1 ≤ l.length) (h2 : l.length ≤ 16) (st : Nat) {B Bv : Nat} (hB : IsV .f32 B (Bv : Int)) (hB1 : 0 < Bv) : impl_ValidAdapter.f l st B = some true := by
  unfold impl_ValidAdapter.f impl_areWeights.f impl_isCount.f impl_within.f impl_IsFinite.f
  rw [if_pos (show (l.length : Int) ≥ 1 by omega), decide_eq_true (show (l.length : Int) ≤ 16 by omega)]
  simp only [Option.bind_some]
  rw [if_pos trivial, finB_V hB]
  simp only
  rw [if_pos trivial, order_V hB nought_32, Int.compare_eq_gt.2 (show (0 : Int) < (Bv : Int) by omega)]
  rfl
theorem order_same {k : FloatKind} {w v : Nat} {a : Int} (h : IsV k w a) (h' : IsV k v a) : (k.format.order w v == some .eq) = true ∧ (k.format.order w v != some .eq) = false := by
  rw [order_V h h', Int.compare_eq_eq.2 rfl]
  exact ⟨rfl, rfl⟩
theorem adapter_step (l s : List C64) (hls : l.length = s.length) (h1 : 1 ≤ l.length) (h2 : l.length ≤ 16) (st : Nat) {B Bv : Nat} (hB : IsV .f32 B (Bv : Int)) (hB1 : 0 < Bv) (w : C64) {Post : List C64 × Nat × Nat × C64 → Prop} (h : Ends (fun k => impl_stepped.f k l st B s w) Post) :
    Ends (fun k => impl_StepAdapter.f k l st B s w) (fun r => Post (r.1, r.2.1, r.2.2.1, r.2.2.2.1) ∧ r.2.2.2.2 = true) := by
  refine Ends.congr (h := fun k => (impl_stepped.f k l st B s w).bind fun bt188 => (some (bt188.1, bt188.2.1, bt188.2.2.1, bt188.2.2.2, true))) (fun k => ?_) (Ends.bind (f := fun _ (bt188 : List C64 × Nat × Nat × C64) => (some (bt188.1, bt188.2.1, bt188.2.2.1, bt188.2.2.2, true))) h (fun r hr => Ends.now ⟨hr, rfl⟩))
  unfold impl_StepAdapter.f
  rw [valid_some l h1 h2 st hB hB1]
  simp only [Option.bind_some]
  rw [if_pos trivial, if_pos (by rw [hls])]
theorem adapter_out (l s : List C64) (hls : l.length = s.length) (h1 : 1 ≤ l.length) (h2 : l.length ≤ 16) (st : Nat) {B Bv : Nat} (hB : IsV .f32 B (Bv : Int)) (hB1 : 0 < Bv) {Post : C64 → Prop} (h : Ends (fun k => impl_outputOf.f k l st B s) Post) :
    Ends (fun k => impl_OutputOf.f k l st B s) (fun r => Post r.1 ∧ r.2 = true) := by
  refine Ends.congr (h := fun k => (impl_outputOf.f k l st B s).bind fun t197 => (some (t197, true))) (fun k => ?_) (Ends.bind (f := fun _ (t197 : C64) => (some (t197, true))) h (fun r hr => Ends.now ⟨hr, rfl⟩))
  unfold impl_OutputOf.f
  rw [valid_some l h1 h2 st hB hB1]
  simp only [Option.bind_some]
  rw [if_pos trivial, if_pos (by rw [hls])]
theorem p_158 {P : Int} {L : Nat} (h : 16 * P.natAbs ≤ 34 * L) (hL : L ≤ 2 ^ 156) : P.natAbs ≤ 2 ^ 158 := by
  have h1 := pow_dbl 156 157 rfl
  have h2 := pow_dbl 157 158 rfl
  generalize 2 ^ 156 = x at *
  generalize 2 ^ 157 = y at *
  generalize 2 ^ 158 = z at *
  omega
theorem long_le {er ei : Int} (h1 : er.natAbs ≤ 10752) (h2 : ei.natAbs ≤ 10752) : 2 ^ 149 + (er.natAbs + ei.natAbs) * 2 ^ 141 ≤ 85 * 2 ^ 149 ∧ 2 ^ 149 + (er.natAbs + ei.natAbs) * 2 ^ 141 ≤ 2 ^ 156 := by
  have h3 := pow16 8 141 149 rfl
  have h4 := pow16 15 141 156 rfl
  have h5 : (er.natAbs + ei.natAbs) * 2 ^ 141 ≤ 21504 * 2 ^ 141 := Nat.mul_le_mul_right _ (by omega)
  rw [← h3, ← h4]
  obtain ⟨J, hJ⟩ := ex_eq (2 ^ 141)
  rw [hJ] at h5 ⊢
  generalize (er.natAbs + ei.natAbs) * J = x at *
  clear h3 h4 hJ
  omega
end Go.Proofs.Ytnfcbacdggkfeaa.PlainBd
