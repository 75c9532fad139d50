/-
  Normed weights: the loops of NormWeights, and of PowersOf over what it makes.
-/
import Derived.Test.YtnfcbacdggkfeaaPlainNorm
namespace Go.Proofs.Ytnfcbacdggkfeaa.PlainN
open Ieee Go.RowKit Go.Proofs.YtnfcbacdggkfeaaW.PrintWords Go.Proofs.YtnfcbacdggkfeaaW.PrintLast Go.Proofs.YtnfcbacdggkfeaaW.PrintMore
open Go.Proofs.Ytnfcbacdggkfeaa.N Go.Proofs.Ytnfcbacdggkfeaa.PlainP

theorem scaled_loop (l : List C64) (hl : ∀ x ∈ l, Fi x) (hn : l.length ≤ 16) {b B : Nat} (hB : IsV .f32 b (B : Int)) (hB1 : 2 ^ 145 ≤ B) (hB2 : B ≤ 2 ^ 154) : ∀ (d : Nat) (o : List C64), o.length + d = l.length → (∀ j : Nat, j < o.length → Sc B (pwOf (rdOf c64z l (j : Int))).toNat (rdOf c64z o (j : Int))) →
    Ends (fun k => impl_scaled.l0 k b o l (l.length : Int) (o.length : Int)) (fun r => r.length = l.length ∧ ∀ j : Nat, j < l.length → Sc B (pwOf (rdOf c64z l (j : Int))).toNat (rdOf c64z r (j : Int))) := by
  intro d
  induction d with
  | zero =>
    intro o ho h
    refine Ends.step (h := fun _ => some o) (fun k => ?_) (Ends.now ⟨by omega, fun j hj => h j (by omega)⟩)
    show impl_scaled.l0 (k + 1) _ _ _ _ _ = _
    rw [impl_scaled.l0, if_neg (by omega)]
  | succ d ih =>
    intro o ho h
    obtain ⟨y, e, hy⟩ := scale_fi (hl _ (rdOf_mem l o.length (by omega))) hB hB1 hB2
    refine Ends.step (fun k => ?_) (ih (o ++ [y]) (by simp; omega) (fun j hj => ?_))
    · show impl_scaled.l0 (k + 1) _ _ _ _ _ = impl_scaled.l0 k _ _ _ _ _
      rw [impl_scaled.l0, if_pos (by omega), if_pos (by omega), if_pos (by omega), e]
      simp only [Option.bind_some]
      rw [if_pos (by omega), w64 (by omega) (by omega), List.length_append, List.length_singleton, Int.natCast_add]
      rfl
    · rw [List.length_append, List.length_singleton] at hj
      rw [rdOf_snoc]
      by_cases c : j < o.length
      · rw [if_pos c]; exact h j c
      · obtain rfl : j = o.length := by omega
        rw [if_neg c, if_pos rfl]; exact hy
theorem scaled_some (l : List C64) (hl : ∀ x ∈ l, Fi x) (hn : l.length ≤ 16) {b B : Nat} (hB : IsV .f32 b (B : Int)) (hB1 : 2 ^ 145 ≤ B) (hB2 : B ≤ 2 ^ 154) :
    Ends (fun k => impl_scaled.f k l b) (fun r => r.length = l.length ∧ ∀ j : Nat, j < l.length → Sc B (pwOf (rdOf c64z l (j : Int))).toNat (rdOf c64z r (j : Int))) :=
  Ends.congr (fun k => rfl) (scaled_loop l hl hn hB hB1 hB2 l.length [] (by simp) (fun j hj => by simp at hj))
theorem finB_V {w : Nat} {c : Int} (h : IsV .f32 w c) : FloatFacts.finB w = true := by
  obtain ⟨s, m, j, d, -⟩ := h
  unfold FloatFacts.finB
  rw [d]
theorem pow_eq4 (a b c : Nat) (h : a + a + (a + a) = b + c) : 2 ^ a * 2 ^ a * (2 ^ a * 2 ^ a) = 2 ^ b * 2 ^ c := by rw [← Nat.pow_add, ← Nat.pow_add, ← Nat.pow_add, h]
theorem by_low {B n Z A M : Nat} (r : RelE (2 ^ 20) 17 (B * B * n) Z) (hn : n ≤ M) (hZ : 2 * (A * A * M) < Z) : A ≤ B := by
  rcases Nat.lt_or_ge B A with h | h
  · exfalso
    have h1 := Nat.mul_le_mul (Nat.mul_le_mul (Nat.le_of_lt h) (Nat.le_of_lt h)) hn
    have := (rel_half (by decide) r).1
    omega
  · exact h
theorem by_high {B n Z A : Nat} (r : RelE (2 ^ 20) 17 (B * B * n) Z) (hn : 1 ≤ n) (hZ : 2 * Z < A * A) : B ≤ A := by
  rcases Nat.lt_or_ge A B with h | h
  · exfalso
    have h1 := Nat.mul_le_mul (Nat.mul_le_mul (Nat.le_of_lt h) (Nat.le_of_lt h)) hn
    have := (rel_half (by decide) r).2
    omega
  · exact h
theorem pow_low (a m z : Nat) (h : a + a + m + 1 < z) : 2 * (2 ^ a * 2 ^ a * 2 ^ m) < 2 ^ z := by
  rw [← Nat.pow_add, ← Nat.pow_add, Nat.mul_comm, ← Nat.pow_succ]
  exact pow_lt' _ _ h
theorem pow_high (a z : Nat) (h : z + 1 < a + a) : 2 * 2 ^ z < 2 ^ a * 2 ^ a := by
  rw [← Nat.pow_add, Nat.mul_comm, ← Nat.pow_succ]
  exact pow_lt' _ _ h
/-- What normed weights are: scaled by B, where B's square times the power is near one. -/
def Nrm (l : List C64) (n : Nat) (r : List C64) : Prop := ∃ B : Nat, B ≤ 2 ^ 154 ∧ RelE (2 ^ 20) 17 (B * B * n) (2 ^ 306) ∧ r.length = l.length ∧ ∀ j : Nat, j < l.length → Sc B (pwOf (rdOf c64z l (j : Int))).toNat (rdOf c64z r (j : Int))
theorem by_all {w n : Nat} (h : IsV .f32 w ((n : Int) * ((2 ^ 141 : Nat) : Int))) (h0 : 1 ≤ n) (h1 : n ≤ 2 ^ 14) :
    ∃ q B : Nat, impl_RootNumber.f w = some q ∧ FOk .quo .f32 1065353216 q = true ∧ IsV .f32 (fq .quo .f32 1065353216 q) (B : Int) ∧ 2 ^ 145 ≤ B ∧ B ≤ 2 ^ 154 ∧ RelE (2 ^ 20) 17 (B * B * n) (2 ^ 306) := by
  obtain ⟨q, Q, B, e, o, i, r1, r2⟩ := by_some h h0 h1
  have hZ := pow_eq4 149 306 290 (by decide)
  have hX := Nat.two_pow_pos 290
  have r : RelE (2 ^ 20) 17 (B * B * n) (2 ^ 306) := by
    generalize 2 ^ 149 = U at r2 hZ
    generalize 2 ^ 290 = X at r1 hZ hX
    generalize 2 ^ 306 = Z at hZ ⊢
    exact by_near r1 r2 hZ hX
  exact ⟨q, B, e, o, i, by_low r h1 (pow_low 145 14 306 (by decide)), by_high r h0 (pow_high 154 306 (by decide)), r⟩
theorem norm_some (l : List C64) (hl : ∀ x ∈ l, Fi x) (h1 : 1 ≤ l.length) (hn : l.length ≤ 8) {n : Nat} (h0 : sumP l = (n : Int)) (hn1 : 1 ≤ n) : Ends (fun k => impl_NormWeights.f k l) (fun r => r.2 = true ∧ Nrm l n r.1) := by
  have hb := sumP_le l hl
  have hn2 : n ≤ 2 ^ 14 := by
    show n ≤ 16384
    omega
  refine Ends.bind (f := fun k bt144 => ((impl_RootNumber.f bt144.1).bind fun t146 => (if FOk .quo .f32 1065353216 t146 = true then (if bt144.2 = true then ((impl_areWeights.f l).bind fun t147 => (if t147 = true then ((impl_IsFinite.f (fq .quo .f32 1065353216 t146)).bind fun t148 => (if t148 = true then ((impl_scaled.f k l (fq .quo .f32 1065353216 t146)).bind fun t149 => (some (t149, true))) else (some (([] : List C64), false)))) else (some (([] : List C64), false)))) else (some (([] : List C64), false))) else (none)))) (powers_some l hl (by omega)) (fun r hr => ?_)
  obtain ⟨r1, r2⟩ := hr
  rw [h0] at r2
  obtain ⟨q, B, e, o, i, b1, b2, rr⟩ := by_all r2 hn1 hn2
  refine Ends.congr (h := fun k => (impl_scaled.f k l (fq .quo .f32 1065353216 q)).bind fun t149 => (some (t149, true))) (fun k => ?_) ?_
  · rw [e]
    simp only [Option.bind_some]
    rw [if_pos o, if_pos r1, are_some l h1 (by omega)]
    simp only [Option.bind_some]
    rw [if_pos trivial]
    show (some (FloatFacts.finB _)).bind _ = _
    rw [finB_V i]
    rfl
  · exact Ends.bind (f := fun _ t149 => (some (t149, true))) (scaled_some l hl (by omega) i b1 b2) (fun s hs => Ends.now ⟨rfl, B, b2, rr, hs⟩)
end Go.Proofs.Ytnfcbacdggkfeaa.PlainN
