/-
  The output of any weights for a shot of sixteenths is near to the exact one.
-/
import Derived.Test.YtnfcbacdggkfeaaBdDot
namespace Go.Proofs.Ytnfcbacdggkfeaa.PlainBd
open Ieee Go.RowKit Go.Proofs.YtnfcbacdggkfeaaW.PrintWords Go.Proofs.YtnfcbacdggkfeaaW.PrintLast Go.Proofs.YtnfcbacdggkfeaaW.PrintMore
open Go.Proofs.Ytnfcbacdggkfeaa.B Go.Proofs.Ytnfcbacdggkfeaa.PlainP

def eN : Nat → Nat
  | 0 => 0
  | i + 1 => eN i + 2245 + 2178 * (i + 1)
theorem eN_le {n : Nat} (h : n ≤ 5) : eN n ≤ 43895 := by
  rcases (by omega : n = 0 ∨ n = 1 ∨ n = 2 ∨ n = 3 ∨ n = 4 ∨ n = 5) with rfl | rfl | rfl | rfl | rfl | rfl <;> decide
/-- The exact output's parts, in 256th parts over 16. -/
noncomputable def yr (P Q : Nat → Int) (s : List C64) (n : Nat) : Int := sumTo (fun j => P j * fr (rdOf c64z s (j : Int)) + Q j * fi (rdOf c64z s (j : Int))) n
noncomputable def yi (P Q : Nat → Int) (s : List C64) (n : Nat) : Int := sumTo (fun j => P j * fi (rdOf c64z s (j : Int)) - Q j * fr (rdOf c64z s (j : Int))) n
theorem small_of16 {P : Int} {L : Nat} (h : 16 * P.natAbs ≤ 34 * L) (hL : L ≤ 2 ^ 157) : P.natAbs ≤ 2 ^ 160 := by
  have h1 : 2 ^ 160 = 8 * 2 ^ 157 := by rw [show (8 : Nat) = 2 ^ 3 from rfl, ← Nat.pow_add]
  rw [h1]
  generalize 2 ^ 157 = X at *
  omega
theorem acc_room {S M : Int} {L i : Nat} (h1 : 256 * S.natAbs ≤ 2178 * i * L) (h2 : 256 * M.natAbs ≤ 2177 * L) (hi : i ≤ 4) (hL : L ≤ 2 ^ 157) : (S + M).natAbs < 2 ^ (FF .f32 + 200) := by
  have m3 : 2178 * i * L ≤ 8712 * L := Nat.mul_le_mul_right _ (by omega)
  have h3 := pow_lt' 164 (FF .f32 + 200) (by decide)
  have h4 : 2 ^ 164 = 128 * 2 ^ 157 := by rw [show (128 : Nat) = 2 ^ 7 from rfl, ← Nat.pow_add]
  generalize 2 ^ (FF .f32 + 200) = Y at *
  rw [h4] at h3
  generalize 2 ^ 157 = X at *
  omega
/-- The output of any weights for a shot in sixteenths. -/
theorem out_near (l s : List C64) (hs : ∀ x ∈ s, Fi x) (hls : l.length = s.length) (hn : l.length ≤ 5) (a b : Nat) (P Q : Nat → Int) (L : Nat) (hL1 : 2 ^ 34 ≤ L) (hL2 : L ≤ 2 ^ 157)
    (hP : ∀ j : Nat, j < l.length → IsV .f32 (rdOf c64z l (j : Int)).re (P j) ∧ IsV .f32 (rdOf c64z l (j : Int)).im (Q j) ∧ 16 * (P j).natAbs ≤ 34 * L ∧ 16 * (Q j).natAbs ≤ 34 * L) :
    Ends (fun k => impl_outputOf.f k l a b s) (fun z => ∃ S T : Int, IsV .f32 z.re S ∧ IsV .f32 z.im T ∧ 256 * S.natAbs ≤ 10890 * L ∧ 256 * T.natAbs ≤ 10890 * L ∧ (256 * S - 16 * yr P Q s l.length).natAbs * 2 ^ 23 ≤ 43895 * L ∧ (256 * T - 16 * yi P Q s l.length).natAbs * 2 ^ 23 ≤ 43895 * L) := by
  have key : Ends (fun k => impl_outputOf.f k l a b s) (fun z => ∃ S T : Int, IsV .f32 z.re S ∧ IsV .f32 z.im T ∧ 256 * S.natAbs ≤ 2178 * l.length * L ∧ 256 * T.natAbs ≤ 2178 * l.length * L ∧ (256 * S - 16 * yr P Q s l.length).natAbs * 2 ^ 23 ≤ eN l.length * L ∧ (256 * T - 16 * yi P Q s l.length).natAbs * 2 ^ 23 ≤ eN l.length * L) := by
    refine dot_loop l s hls (by omega) a b (fun i z => ∃ S T : Int, IsV .f32 z.re S ∧ IsV .f32 z.im T ∧ 256 * S.natAbs ≤ 2178 * i * L ∧ 256 * T.natAbs ≤ 2178 * i * L ∧ (256 * S - 16 * yr P Q s i).natAbs * 2 ^ 23 ≤ eN i * L ∧ (256 * T - 16 * yi P Q s i).natAbs * 2 ^ 23 ≤ eN i * L) (fun i acc hi h => ?_) ?_
    · obtain ⟨S, T, v1, v2, b1, b2, n1, n2⟩ := h
      obtain ⟨p1, p2, p3, p4⟩ := hP i hi
      obtain ⟨k1, k2, k3, k4⟩ := fri (hs _ (rdOf_mem s i (by omega)))
      have q2 := neg_V p2
      have p4' : 16 * (-Q i).natAbs ≤ 34 * L := by rw [Int.natAbs_neg]; exact p4
      obtain ⟨z, M, N, e, i1, i2, m1, m2, -⟩ := mulC_16 (x := ⟨(rdOf c64z l (i : Int)).re, Go.Op.negFloat .f32 (rdOf c64z l (i : Int)).im⟩) p1 q2 k1 k2 (small_of16 p3 hL2) (small_of16 p4' hL2) k3 k4
      have hy : yr P Q s (i + 1) = yr P Q s i + (P i * fr (rdOf c64z s (i : Int)) - -Q i * fi (rdOf c64z s (i : Int))) := by rw [Int.neg_mul, Int.sub_neg]; rfl
      have hy2 : yi P Q s (i + 1) = yi P Q s i + (P i * fi (rdOf c64z s (i : Int)) + -Q i * fr (rdOf c64z s (i : Int))) := by rw [Int.neg_mul, ← Int.sub_eq_add_neg]; rfl
      generalize fr (rdOf c64z s (i : Int)) = c at *
      generalize fi (rdOf c64z s (i : Int)) = d at *
      have x1 := b32 p3 k3
      have x2 := b32 p4' k4
      have x3 := b32 p3 k4
      have x4 := b32 p4' k3
      obtain ⟨r1, r2⟩ := part_near (L := L) m1 (by omega) (by omega) hL1
      obtain ⟨r3, r4⟩ := part_near (L := L) m2 (by omega) (by omega) hL1
      obtain ⟨t1, S', e1, j1, o1⟩ := add_V 200 (by decide) v1 i1 (acc_room b1 r2 (by omega) hL2)
      obtain ⟨t2, T', e2, j2, o2⟩ := add_V 200 (by decide) v2 i2 (acc_room b2 r4 (by omega) hL2)
      obtain ⟨g1, g2⟩ := acc_near b1 n1 r1 r2 o1 (by omega)
      obtain ⟨g3, g4⟩ := acc_near b2 n2 r3 r4 o2 (by omega)
      refine ⟨_, z, ⟨t1, t2⟩, rfl, e, add_ok e1 e2, S', T', j1, j2, g1, g3, ?_, ?_⟩
      · rw [hy, Int.mul_add]
        exact g2
      · rw [hy2, Int.mul_add]
        exact g4
    · refine ⟨0, 0, ?_, ?_, by simp, by simp, by simp [yr, sumTo], by simp [yi, sumTo]⟩
      · have := nought32 0
        rwa [Int.zero_mul] at this
      · have := nought32 0
        rwa [Int.zero_mul] at this
  refine key.imp (fun z hz => ?_)
  obtain ⟨S, T, v1, v2, b1, b2, n1, n2⟩ := hz
  have h1 : 2178 * l.length * L ≤ 10890 * L := Nat.mul_le_mul_right _ (by omega)
  have h2 : eN l.length * L ≤ 43895 * L := Nat.mul_le_mul_right _ (eN_le hn)
  exact ⟨S, T, v1, v2, Nat.le_trans b1 h1, Nat.le_trans b2 h1, Nat.le_trans n1 h2, Nat.le_trans n2 h2⟩
end Go.Proofs.Ytnfcbacdggkfeaa.PlainBd
