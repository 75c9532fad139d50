/-
  Normed weights: the power of what NormWeights makes is near one, and the law.
-/
import Derived.Test.YtnfcbacdggkfeaaPlainNormB
import Derived.Test.YtnfcbacdggkfeaaPlainTail
namespace Go.Proofs.Ytnfcbacdggkfeaa.PlainN
open Ieee Go.RowKit Go.Proofs.YtnfcbacdggkfeaaW.PrintWords Go.Proofs.YtnfcbacdggkfeaaW.PrintLast Go.Proofs.YtnfcbacdggkfeaaW.PrintMore
open Go.Proofs.Ytnfcbacdggkfeaa.N Go.Proofs.Ytnfcbacdggkfeaa.PlainP

theorem sum_rel {S D S' P p X t : Nat} (r : RelE (2 ^ 20) (7 + t) S (P * X)) (r1 : RelE (2 ^ 20) 7 D (p * X)) (r2 : RelE (2 ^ 20) 1 S' (S + D)) (ht : t ≤ 100) : RelE (2 ^ 20) (7 + (t + 2)) S' ((P + p) * X) := by
  have a := RelE.add r (r1.mono (s := 7 + t) (by omega))
  rw [← Nat.add_mul] at a
  exact (RelE.trans E20 r2 a (by decide) (by omega)).mono (by omega)
theorem sum_room {S D P p X M : Nat} {t : Nat} (r : RelE (2 ^ 20) (7 + t) S (P * X)) (r1 : RelE (2 ^ 20) 7 D (p * X)) (ht : t ≤ 100) (hM : ∀ P, P ≤ 2 ^ 15 → P * X ≤ M) (hP : P ≤ 2 ^ 15) (hp : p ≤ 2 ^ 15) : S + D ≤ 4 * M := by
  have a := (rel_half (by omega) r).2
  have b := (rel_half (by omega) r1).2
  have c := hM P hP
  have d := hM p hp
  omega
theorem normed_loop (l r : List C64) (hl : ∀ x ∈ l, Fi x) (hn : l.length ≤ 8) (B : Nat) (hr : r.length = l.length) (hs : ∀ j : Nat, j < l.length → Sc B (pwOf (rdOf c64z l (j : Int))).toNat (rdOf c64z r (j : Int)))
    (X M : Nat) (hX : 2 ^ 768 * (B * B) = X) (hM : ∀ P, P ≤ 2 ^ 15 → P * X ≤ M) (hM2 : 4 * M < 2 ^ (FF .f64 + 1100)) (Q : Nat × Bool → Prop)
    (hQ : ∀ s S : Nat, IsV .f64 s (S : Int) → RelE (2 ^ 20) 39 S ((sumP l).toNat * X) → ∃ w, floatToFloatBits .f64 s .f32 = some w ∧ Q (w, true)) : ∀ (d i s S : Nat), i + d = l.length → IsV .f64 s (S : Int) → RelE (2 ^ 20) (7 + 2 * i) S ((sumP (l.take i)).toNat * X) →
    Ends (fun k => impl_PowersOf.l0 k s r (r.length : Int) (i : Int)) Q := by
  intro d
  induction d with
  | zero =>
    intro i s S hi hv hrel
    rw [List.take_of_length_le (by omega)] at hrel
    obtain ⟨w, e, q⟩ := hQ s S hv (hrel.mono (by omega))
    obtain ⟨o, qe⟩ := fcok_some e 37 34
    refine Ends.step (h := fun _ => some (w, true)) (fun k => ?_) (Ends.now q)
    show impl_PowersOf.l0 (k + 1) _ _ _ _ = _
    rw [impl_PowersOf.l0, if_neg (by omega), if_pos o, qe]
  | succ d ih =>
    intro i s S hi hv hrel
    obtain ⟨u, D, e, iu, ru⟩ := power_sc (hs i (by omega))
    rw [Nat.mul_assoc, hX] at ru
    obtain ⟨-, p0, p1⟩ := pwOf_some (hl _ (rdOf_mem l i (by omega)))
    have hb := sumP_le (l.take i) (fun x hx => hl x (List.mem_of_mem_take hx))
    have hlen : (l.take i).length ≤ 8 := by simp; omega
    obtain ⟨v, S', e3, j3, r3⟩ := add_nat 1100 (by decide) (by decide) hv iu (Nat.lt_of_le_of_lt (sum_room hrel ru (by omega) hM (show _ ≤ 32768 by omega) (show _ ≤ 32768 by omega)) hM2)
    obtain ⟨o3, q3⟩ := fok_some e3
    have hsum : (sumP (l.take (i + 1))).toNat = (sumP (l.take i)).toNat + (pwOf (rdOf c64z l (i : Int))).toNat := by
      rw [take_snoc l i (by omega), sumP_snoc]
      omega
    refine Ends.step (fun k => ?_) (ih (i + 1) v S' (by omega) j3 (by
      rw [hsum]
      exact sum_rel (t := 2 * i) hrel ru r3 (by omega)))
    show impl_PowersOf.l0 (k + 1) _ _ _ _ = impl_PowersOf.l0 k _ _ _ _
    rw [impl_PowersOf.l0, if_pos (by omega), if_pos (by omega), if_pos (by omega), e]
    simp only [Option.bind_some]
    rw [if_pos o3, q3, w64 (by omega) (by omega), Int.natCast_add i 1]
    rfl
theorem ex_eq (a : Nat) : ∃ X, a = X := ⟨a, rfl⟩
theorem room_X {B P : Nat} (hB : B ≤ 2 ^ 154) (hP : P ≤ 2 ^ 15) : P * (2 ^ 768 * (B * B)) ≤ 2 ^ 1091 := by
  have h1 : B * B ≤ 2 ^ 308 := Nat.le_trans (Nat.mul_le_mul hB hB) (Nat.le_of_eq (pow_mm 154 154 308 rfl))
  have h2 := Nat.mul_le_mul (pow_bd 15 768 783 P rfl hP) h1
  rw [Nat.mul_assoc] at h2
  exact Nat.le_trans h2 (Nat.le_of_eq (pow_mm 783 308 1091 rfl))
theorem four_lt {A B C D : Nat} (h1 : 2 * A = B) (h2 : 2 * B = C) (h3 : C < D) : 4 * A < D := by omega
theorem one_rel {B n S Z W V : Nat} (r : RelE (2 ^ 20) 39 S (n * (W * (B * B)))) (r1 : RelE (2 ^ 20) 17 (B * B * n) Z) (h : W * Z = V) : RelE (2 ^ 20) 57 S V := by
  have a := RelE.scale W r1
  rw [show n * (W * (B * B)) = B * B * n * W by grind] at r
  rw [Nat.mul_comm Z, h] at a
  exact RelE.trans E20 r a (by decide) (by decide)
theorem near_low {S V A : Nat} (r : RelE (2 ^ 20) 57 S V) (h : 2 * A < V) : A ≤ S := by
  have := (rel_half (by decide) r).1
  omega
theorem near_high {S V A : Nat} (r : RelE (2 ^ 20) 57 S V) (h : 2 * V < A) : S < A := by
  have := (rel_half (by decide) r).2
  omega
theorem pow_low1 (a z : Nat) (h : a + 1 < z) : 2 * 2 ^ a < 2 ^ z := by
  rw [Nat.mul_comm, ← Nat.pow_succ]
  exact pow_lt' _ _ h
/-- The power of normed weights, as a float32: near one. -/
def One (r : Nat × Bool) : Prop := r.2 = true ∧ ∃ C : Nat, IsV .f32 r.1 (C : Int) ∧ RelE (2 ^ 20) 60 (C * 2 ^ 925) (2 ^ 1074)
theorem narrow_one {s S : Nat} (h : IsV .f64 s (S : Int)) (r : RelE (2 ^ 20) 57 S (2 ^ 1074)) : ∃ w, floatToFloatBits .f64 s .f32 = some w ∧ One (w, true) := by
  obtain ⟨w, c, e, i, ho⟩ := narrow_V 200 (by decide) h (.inr (by rw [Int.natAbs_natCast]; exact near_low r (pow_low1 977 1074 (by decide)))) (by rw [Int.natAbs_natCast]; exact near_high r (pow_low1 1074 _ (by decide)))
  have hc := scale_pos (Nat.two_pow_pos 925) (off_nonneg ho (by omega))
  obtain ⟨C, rfl⟩ := Int.eq_ofNat_of_zero_le hc
  have r2 := off_rel (by decide) ho
  rw [Int.natAbs_mul, Int.natAbs_natCast, Int.natAbs_natCast, Int.natAbs_natCast] at r2
  exact ⟨w, e, rfl, C, i, (RelE.trans E20 r2 r (by decide) (by decide)).mono (by decide)⟩
theorem normed_some (l r : List C64) (hl : ∀ x ∈ l, Fi x) (hn : l.length ≤ 8) {n : Nat} (h0 : sumP l = (n : Int)) (hN : Nrm l n r) : Ends (fun k => impl_PowersOf.f k r) One := by
  obtain ⟨B, hB, hrel, hlen, hs⟩ := hN
  have hM := fun (P : Nat) (hP : P ≤ 2 ^ 15) => room_X hB hP
  have hM2 := four_lt (pow_dbl 1091 1092 rfl) (pow_dbl 1092 1093 rfl) (pow_lt' 1093 (FF .f64 + 1100) (by decide))
  have hW := pow_mm 768 306 1074 rfl
  have hz : IsV .f64 0 ((0 : Nat) : Int) := ⟨false, 0, 0, by decide +kernel, by decide +kernel, by decide⟩
  obtain ⟨X, hX⟩ := ex_eq (2 ^ 768 * (B * B))
  have hQ : ∀ s S : Nat, IsV .f64 s (S : Int) → RelE (2 ^ 20) 39 S ((sumP l).toNat * X) → ∃ w, floatToFloatBits .f64 s .f32 = some w ∧ One (w, true) := by
    intro s S hv hr
    refine narrow_one hv ?_
    rw [h0, Int.toNat_natCast, ← hX] at hr
    generalize 2 ^ 768 = W at hr hW
    generalize 2 ^ 306 = Z at hrel hW
    generalize 2 ^ 1074 = V at hW ⊢
    exact one_rel hr hrel hW
  rw [hX] at hM
  refine Ends.congr (fun k => ?_) (normed_loop l r hl hn B hlen hs X _ hX hM hM2 One hQ l.length 0 0 0 (by omega) hz (by rw [List.take_zero]; exact ⟨by simp [sumP], by simp [sumP]⟩))
  unfold impl_PowersOf.f
  rw [if_neg (by omega)]
  rfl
end Go.Proofs.Ytnfcbacdggkfeaa.PlainN
