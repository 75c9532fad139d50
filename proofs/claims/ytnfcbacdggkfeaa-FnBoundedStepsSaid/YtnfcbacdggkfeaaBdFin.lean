/-
  Behind a step the error is no greater than before, but for a little.
-/
import Derived.Test.YtnfcbacdggkfeaaBx3
import Derived.Test.YtnfcbacdggkfeaaBdTail3
namespace Go.Proofs.Ytnfcbacdggkfeaa.PlainBd
open Ieee Go.RowKit Go.Proofs.YtnfcbacdggkfeaaW.PrintWords Go.Proofs.YtnfcbacdggkfeaaW.PrintLast Go.Proofs.YtnfcbacdggkfeaaW.PrintMore
open Go.Proofs.Ytnfcbacdggkfeaa.B Go.Proofs.Ytnfcbacdggkfeaa.PlainP

theorem sumTo_near {f g : Nat → Int} {F M : Nat} : ∀ n, (∀ j, j < n → (f j - g j).natAbs * F ≤ M) → (sumTo f n - sumTo g n).natAbs * F ≤ n * M
  | 0, _ => by simp [sumTo]
  | n + 1, h => by
    have h1 := sumTo_near n (fun j hj => h j (by omega))
    have h2 := h n (by omega)
    have t : (sumTo f (n + 1) - sumTo g (n + 1)).natAbs ≤ (sumTo f n - sumTo g n).natAbs + (f n - g n).natAbs := by
      rw [sumTo, sumTo]
      omega
    have t2 := Nat.mul_le_mul_right F t
    rw [Nat.add_mul] at t2
    rw [Nat.add_mul, Nat.one_mul]
    omega
theorem sumTo_lin {f u v : Nat → Int} {α β : Int} : ∀ n, (∀ j, j < n → f j = α * u j + β * v j) → sumTo f n = α * sumTo u n + β * sumTo v n
  | 0, _ => by simp [sumTo]
  | n + 1, h => by
    rw [sumTo, sumTo, sumTo, sumTo_lin n (fun j hj => h j (by omega)), h n (by omega), Int.mul_add, Int.mul_add]
    omega
theorem sumTo_mul (f : Nat → Int) (k : Int) : ∀ n, k * sumTo f n = sumTo (fun j => k * f j) n
  | 0 => by simp [sumTo]
  | n + 1 => by rw [sumTo, sumTo, Int.mul_add, sumTo_mul f k n]
theorem sumP_to (s : List C64) (hs : ∀ x ∈ s, Fi x) : ∀ n, n ≤ s.length → sumP (s.take n) = sumTo (fun j => pw (fr (rdOf c64z s (j : Int))) (fi (rdOf c64z s (j : Int)))) n
  | 0, _ => by simp [sumP, sumTo]
  | n + 1, h => by
    rw [take_snoc s n (by omega), sumP_snoc, sumP_to s hs n (by omega), sumTo, pwOf_fri (hs _ (rdOf_mem s n (by omega)))]
theorem sumP_all (s : List C64) (hs : ∀ x ∈ s, Fi x) : sumP s = sumTo (fun j => pw (fr (rdOf c64z s (j : Int))) (fi (rdOf c64z s (j : Int)))) s.length := by
  rw [← sumP_to s hs s.length (Nat.le_refl _), List.take_length]
theorem id_re (a b c d C D K : Int) : c * (16 * (a * K) + (C * c - D * d)) + d * (16 * (b * K) + (D * c + C * d)) = 16 * K * (a * c + b * d) + C * (c * c + d * d) := by grind
theorem id_im (a b c d C D K : Int) : d * (16 * (a * K) + (C * c - D * d)) - c * (16 * (b * K) + (D * c + C * d)) = 16 * K * (a * d - b * c) + -D * (c * c + d * d) := by grind
theorem near_mul {c x y : Int} {L : Nat} (hc : c.natAbs ≤ 32) (h : (x - y).natAbs * 2 ^ 23 ≤ 67 * L) : (c * x - c * y).natAbs * 2 ^ 23 ≤ 2144 * L := by
  rw [← Int.mul_sub, Int.natAbs_mul]
  have h1 := Nat.mul_le_mul hc h
  rw [← Nat.mul_assoc, ← Nat.mul_assoc] at h1
  exact h1
theorem two_abs {a b c F M : Nat} (h : a ≤ b + c) (h1 : b * F ≤ M) (h2 : c * F ≤ M) : a * F ≤ 2 * M := by
  have := Nat.mul_le_mul_right F h
  rw [Nat.add_mul] at this
  omega
theorem two_near {x1 x2 x3 x4 : Int} {L : Nat} (h1 : (x1 - x3).natAbs * 2 ^ 23 ≤ 2144 * L) (h2 : (x2 - x4).natAbs * 2 ^ 23 ≤ 2144 * L) : (x1 + x2 - (x3 + x4)).natAbs * 2 ^ 23 ≤ 4288 * L := by
  have t : (x1 + x2 - (x3 + x4)).natAbs ≤ (x1 - x3).natAbs + (x2 - x4).natAbs := by clear h1 h2; omega
  have := two_abs t h1 h2
  rw [← Nat.mul_assoc] at this
  exact this
theorem two_near' {x1 x2 x3 x4 : Int} {L : Nat} (h1 : (x1 - x3).natAbs * 2 ^ 23 ≤ 2144 * L) (h2 : (x2 - x4).natAbs * 2 ^ 23 ≤ 2144 * L) : (x1 - x2 - (x3 - x4)).natAbs * 2 ^ 23 ≤ 4288 * L := by
  have t : (x1 - x2 - (x3 - x4)).natAbs ≤ (x1 - x3).natAbs + (x2 - x4).natAbs := by clear h1 h2; omega
  have := two_abs t h1 h2
  rw [← Nat.mul_assoc] at this
  exact this
/-- What weights with the parts P and Q give for a shot, against what the old ones and the error's share give. -/
theorem sums_near (l s : List C64) (hs : ∀ x ∈ s, Fi x) (hls : l.length = s.length) (hn : l.length ≤ 5) (o : List C64) (P Q : Nat → Int) {C D : Int} {L : Nat} (hP : ∀ j : Nat, j < l.length → Nw C D L (rdOf c64z l (j : Int)) (rdOf c64z s (j : Int)) (rdOf c64z o (j : Int)) (P j) (Q j)) :
    (16 * yr P Q s l.length - (16 * ((2 ^ 145 : Nat) : Int) * xr l s l.length + C * sumP s)).natAbs * 2 ^ 23 ≤ 21440 * L ∧ (16 * yi P Q s l.length - (16 * ((2 ^ 145 : Nat) : Int) * xi l s l.length + -D * sumP s)).natAbs * 2 ^ 23 ≤ 21440 * L := by
  have hlin1 : 16 * ((2 ^ 145 : Nat) : Int) * xr l s l.length + C * sumP s = sumTo (fun j => fr (rdOf c64z s (j : Int)) * (16 * (fr (rdOf c64z l (j : Int)) * ((2 ^ 145 : Nat) : Int)) + (C * fr (rdOf c64z s (j : Int)) - D * fi (rdOf c64z s (j : Int)))) + fi (rdOf c64z s (j : Int)) * (16 * (fi (rdOf c64z l (j : Int)) * ((2 ^ 145 : Nat) : Int)) + (D * fr (rdOf c64z s (j : Int)) + C * fi (rdOf c64z s (j : Int))))) l.length := by
    rw [sumP_all s hs, ← hls]
    unfold xr
    exact (sumTo_lin _ (fun j _ => id_re _ _ _ _ _ _ _)).symm
  have hlin2 : 16 * ((2 ^ 145 : Nat) : Int) * xi l s l.length + -D * sumP s = sumTo (fun j => fi (rdOf c64z s (j : Int)) * (16 * (fr (rdOf c64z l (j : Int)) * ((2 ^ 145 : Nat) : Int)) + (C * fr (rdOf c64z s (j : Int)) - D * fi (rdOf c64z s (j : Int)))) - fr (rdOf c64z s (j : Int)) * (16 * (fi (rdOf c64z l (j : Int)) * ((2 ^ 145 : Nat) : Int)) + (D * fr (rdOf c64z s (j : Int)) + C * fi (rdOf c64z s (j : Int))))) l.length := by
    rw [sumP_all s hs, ← hls]
    unfold xi
    exact (sumTo_lin _ (fun j _ => id_im _ _ _ _ _ _ _)).symm
  have l5 : l.length * (4288 * L) ≤ 21440 * L := by
    have := Nat.mul_le_mul_right (4288 * L) hn
    omega
  rw [hlin1, hlin2]
  unfold yr yi
  rw [sumTo_mul, sumTo_mul]
  refine ⟨Nat.le_trans (sumTo_near (M := 4288 * L) _ (fun j hj => ?_)) l5, Nat.le_trans (sumTo_near (M := 4288 * L) _ (fun j hj => ?_)) l5⟩
  · obtain ⟨-, -, -, -, n1, n2, -⟩ := hP j hj
    obtain ⟨-, -, k3, k4⟩ := fri (hs _ (rdOf_mem s j (by omega)))
    have m1 := near_mul k3 n1
    have m2 := near_mul k4 n2
    generalize 16 * (fr (rdOf c64z l (j : Int)) * ((2 ^ 145 : Nat) : Int)) + (C * fr (rdOf c64z s (j : Int)) - D * fi (rdOf c64z s (j : Int))) = u at *
    generalize 16 * (fi (rdOf c64z l (j : Int)) * ((2 ^ 145 : Nat) : Int)) + (D * fr (rdOf c64z s (j : Int)) + C * fi (rdOf c64z s (j : Int))) = v at *
    generalize fr (rdOf c64z s (j : Int)) = c at *
    generalize fi (rdOf c64z s (j : Int)) = d at *
    have e : 16 * (P j * c + Q j * d) = c * (16 * P j) + d * (16 * Q j) := by grind
    rw [e]
    clear n1 n2 e
    exact two_near m1 m2
  · obtain ⟨-, -, -, -, n1, n2, -⟩ := hP j hj
    obtain ⟨-, -, k3, k4⟩ := fri (hs _ (rdOf_mem s j (by omega)))
    have m1 := near_mul k4 n1
    have m2 := near_mul k3 n2
    generalize 16 * (fr (rdOf c64z l (j : Int)) * ((2 ^ 145 : Nat) : Int)) + (C * fr (rdOf c64z s (j : Int)) - D * fi (rdOf c64z s (j : Int))) = u at *
    generalize 16 * (fi (rdOf c64z l (j : Int)) * ((2 ^ 145 : Nat) : Int)) + (D * fr (rdOf c64z s (j : Int)) + C * fi (rdOf c64z s (j : Int))) = v at *
    generalize fr (rdOf c64z s (j : Int)) = c at *
    generalize fi (rdOf c64z s (j : Int)) = d at *
    have e : 16 * (P j * d - Q j * c) = d * (16 * P j) - c * (16 * Q j) := by grind
    rw [e]
    clear n1 n2 e
    exact two_near' m1 m2
theorem fin_nat1 {a b c d e N L : Nat} (t1 : 256 * a ≤ b + c + d) (h1 : 8388608 * c ≤ 43895 * L) (h2 : 8388608 * d ≤ 21440 * L) (h3 : b ≤ 256 * e + N) (hN : 8388608 * N ≤ L) : 8388608 * a ≤ 8388608 * e + 256 * L := by omega
theorem fin_nat2 {a e w z L : Nat} (h : 8388608 * a ≤ 8388608 * e + 256 * L) (hX : e ≤ L) (t2 : z ≤ w + a) (hz : 8388608 * w ≤ a) : 16384 * z ≤ 16384 * e + L := by
  have h0 : a ≤ 2 * L := by omega
  have h1 : 8388608 * z ≤ 8388608 * e + 258 * L := by omega
  omega
theorem fin_nat {a b c d w e N L z : Nat} (t1 : 256 * a ≤ b + c + d) (h1 : c * 2 ^ 23 ≤ 43895 * L) (h2 : d * 2 ^ 23 ≤ 21440 * L) (h3 : b ≤ 256 * e + N) (hN : N ≤ 10240) (hL : 2 ^ 40 ≤ L) (hX : e ≤ L) (t2 : z ≤ w + a) (hz : w * 2 ^ 23 ≤ a) : z * 2 ^ 14 ≤ e * 2 ^ 14 + L := by
  have hN' : 8388608 * N ≤ L := Nat.le_trans (Nat.mul_le_mul_left _ hN) (Nat.le_trans (by decide) hL)
  rw [Nat.mul_comm] at h1 h2 hz
  have a1 := fin_nat1 t1 h1 h2 h3 hN'
  have a2 := fin_nat2 a1 hX t2 hz
  rw [Nat.mul_comm, Nat.mul_comm e]
  exact a2
theorem fin_lin {S y x e c z : Int} {N L : Nat} (h1 : (256 * S - 16 * y).natAbs * 2 ^ 23 ≤ 43895 * L) (h2 : (16 * y - (256 * x + c)).natAbs * 2 ^ 23 ≤ 21440 * L) (h3 : (256 * e - c).natAbs ≤ 256 * e.natAbs + N) (hN : N ≤ 10240) (hL : 2 ^ 40 ≤ L) (hX : e.natAbs ≤ L) (hz : Off 23 z (e + x - S)) :
    z.natAbs * 2 ^ 14 ≤ e.natAbs * 2 ^ 14 + L := by
  unfold Off at hz
  have t1 : 256 * (e + x - S).natAbs ≤ (256 * e - c).natAbs + (256 * S - 16 * y).natAbs + (16 * y - (256 * x + c)).natAbs := by clear h1 h2 h3 hz; omega
  have t2 : z.natAbs ≤ (z - (e + x - S)).natAbs + (e + x - S).natAbs := by clear h1 h2 h3 hz t1; omega
  exact fin_nat t1 h1 h2 h3 hN hL hX t2 hz
theorem contract_lin {er C : Int} {N J : Nat} (h : (er * ((2 ^ 8 * (256 * J) : Nat) : Int) - C * 2 ^ 8 * (N : Int)).natAbs ≤ er.natAbs * (2 ^ 8 * (256 * J)) + 2 ^ 8 * N) : (256 * (er * (J : Int)) - C * (N : Int)).natAbs ≤ 256 * (er * (J : Int)).natAbs + N := by
  have e1 : er * ((2 ^ 8 * (256 * J) : Nat) : Int) - C * 2 ^ 8 * (N : Int) = 256 * (256 * (er * (J : Int)) - C * (N : Int)) := by
    rw [Int.natCast_mul, Int.natCast_mul]
    have : ((2 ^ 8 : Nat) : Int) = 256 := rfl
    rw [this]
    grind
  rw [e1, Int.natAbs_mul] at h
  have e2 : er.natAbs * (2 ^ 8 * (256 * J)) = 256 * (256 * (er * (J : Int)).natAbs) := by
    rw [Int.natAbs_mul, Int.natAbs_natCast]
    grind
  rw [e2] at h
  have e3 : (256 : Int).natAbs = 256 := rfl
  rw [e3] at h
  generalize (256 * (er * (J : Int)) - C * (N : Int)).natAbs = a at *
  generalize (er * (J : Int)).natAbs = b at *
  omega
/-- One part of what is missing behind a step. -/
theorem miss_part {S y xx er C z : Int} {N G L : Nat} (h1 : (256 * S - 16 * y).natAbs * 2 ^ 23 ≤ 43895 * L) (h2 : (16 * y - (16 * ((2 ^ 145 : Nat) : Int) * xx + C * (N : Int))).natAbs * 2 ^ 23 ≤ 21440 * L) (h3 : (C * 2 ^ 8 - er * (G : Int)).natAbs * 2 ^ 23 ≤ (er * (G : Int)).natAbs + 2 ^ 31) (hG : 1048576 * (G * (256 + N)) ≤ 1048577 * 2 ^ 157)
    (hN : N ≤ 10240) (hL : L = 2 ^ 149 + (er.natAbs + 0) * 2 ^ 141 ∨ 2 ^ 149 + er.natAbs * 2 ^ 141 ≤ L) (hz : Off 23 z ((er + xx) * ((2 ^ 141 : Nat) : Int) - S)) : z.natAbs * 2 ^ 14 ≤ er.natAbs * 2 ^ 141 * 2 ^ 14 + L := by
  have hc := contract h3 hG hN
  have p1 : 2 ^ 157 = 2 ^ 8 * (256 * 2 ^ 141) := by
    rw [show (256 : Nat) = 2 ^ 8 from rfl, ← Nat.pow_add, ← Nat.pow_add]
  have p2 : 2 ^ 145 = 16 * 2 ^ 141 := by rw [show (16 : Nat) = 2 ^ 4 from rfl, ← Nat.pow_add]
  have hL' : 2 ^ 149 + er.natAbs * 2 ^ 141 ≤ L := by
    rcases hL with h | h
    · rw [h]; simp
    · exact h
  have hL4 : 2 ^ 40 ≤ L := Nat.le_trans (Nat.pow_le_pow_right (by decide) (by decide)) (Nat.le_trans (Nat.le_add_right (2 ^ 149) _) hL')
  have hX : er.natAbs * 2 ^ 141 ≤ L := Nat.le_trans (Nat.le_add_left _ _) hL'
  rw [p1] at hc
  rw [p2] at h2
  clear hL hL' p1 p2 hG h3
  obtain ⟨J, hJ⟩ := ex_eq (2 ^ 141)
  rw [hJ] at hc h2 hz hX ⊢
  have hc' := contract_lin hc
  have e1 : 16 * ((16 * J : Nat) : Int) * xx = 256 * (xx * (J : Int)) := by
    rw [Int.natCast_mul]
    have : ((16 : Nat) : Int) = 16 := rfl
    rw [this]
    grind
  rw [e1] at h2
  have e2 : (er + xx) * (J : Int) - S = er * (J : Int) + xx * (J : Int) - S := by rw [Int.add_mul]
  rw [e2] at hz
  have e3 : er.natAbs * J = (er * (J : Int)).natAbs := by rw [Int.natAbs_mul, Int.natAbs_natCast]
  rw [e3] at hX ⊢
  exact fin_lin h1 h2 hc' hN hL4 hX hz
end Go.Proofs.Ytnfcbacdggkfeaa.PlainBd
