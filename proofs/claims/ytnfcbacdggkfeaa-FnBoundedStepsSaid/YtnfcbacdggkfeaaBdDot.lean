/-
  The output of weights for a shot: exact for sixteenths, and near to the exact one for others.
-/
import Derived.Test.YtnfcbacdggkfeaaBx2
import Derived.Test.YtnfcbacdggkfeaaBdMul
namespace Go.Proofs.Ytnfcbacdggkfeaa.PlainBd
open Ieee Go.RowKit Go.Proofs.YtnfcbacdggkfeaaW.PrintWords Go.Proofs.YtnfcbacdggkfeaaW.PrintLast Go.Proofs.YtnfcbacdggkfeaaW.PrintMore
open Go.Proofs.Ytnfcbacdggkfeaa.B Go.Proofs.Ytnfcbacdggkfeaa.PlainP

open Classical in
/-- A number's parts in sixteenths. -/
noncomputable def fr (x : C64) : Int := if h : Fi x then h.choose else 0
open Classical in
noncomputable def fi (x : C64) : Int := if h : Fi x then h.choose_spec.choose else 0
theorem fri {x : C64} (h : Fi x) : IsF x (fr x) (fi x) := by
  unfold fr fi
  rw [dif_pos h, dif_pos h]
  exact h.choose_spec.choose_spec
theorem pwOf_fri {x : C64} (h : Fi x) : pwOf x = pw (fr x) (fi x) := by
  unfold pwOf fr fi
  rw [dif_pos h, dif_pos h, dif_pos h]
def sumTo (f : Nat → Int) : Nat → Int
  | 0 => 0
  | n + 1 => sumTo f n + f n
theorem sumTo_le (f : Nat → Int) (M : Nat) (h : ∀ j, (f j).natAbs ≤ M) : ∀ n, (sumTo f n).natAbs ≤ n * M
  | 0 => by simp [sumTo]
  | n + 1 => by
    have h1 := sumTo_le f M h n
    have h2 := h n
    rw [sumTo, Nat.add_mul, Nat.one_mul]
    omega
theorem sumTo_le' (f : Nat → Int) (M : Nat) : ∀ n, (∀ j, j < n → (f j).natAbs ≤ M) → (sumTo f n).natAbs ≤ n * M
  | 0, _ => by simp [sumTo]
  | n + 1, h => by
    have h1 := sumTo_le' f M n (fun j hj => h j (by omega))
    have h2 := h n (by omega)
    rw [sumTo, Nat.add_mul, Nat.one_mul]
    omega
theorem dot_loop (l s : List C64) (hls : l.length = s.length) (hn : l.length ≤ 16) (a b : Nat) (Inv : Nat → C64 → Prop)
    (step : ∀ (i : Nat) (acc : C64), i < l.length → Inv i acc → ∃ c z t, impl_ConjugateOf.f (rdOf c64z l (i : Int)) = some c ∧ impl_MulComplex.f c (rdOf c64z s (i : Int)) = some z ∧ impl_add.f acc z = some t ∧ Inv (i + 1) t) (h0 : Inv 0 ⟨0, 0⟩) :
    Ends (fun k => impl_outputOf.f k l a b s) (Inv l.length) := by
  have loop : ∀ (d i : Nat) (acc : C64), i + d = l.length → Inv i acc → Ends (fun k => impl_dotWith.l0 k l s acc (l.length : Int) (i : Int)) (fun r => r.2 = true ∧ Inv l.length r.1) := by
    intro d
    induction d with
    | zero =>
      intro i acc hi h
      obtain rfl : i = l.length := by omega
      refine Ends.step (h := fun _ => some (acc, true)) (fun k => ?_) (Ends.now ⟨rfl, h⟩)
      show impl_dotWith.l0 (k + 1) _ _ _ _ _ = _
      rw [impl_dotWith.l0, if_neg (by omega)]
    | succ d ih =>
      intro i acc hi h
      obtain ⟨c, z, t, e1, e2, e3, h'⟩ := step i acc (by omega) h
      refine Ends.step (fun k => ?_) (ih (i + 1) t (by omega) h')
      show impl_dotWith.l0 (k + 1) _ _ _ _ _ = impl_dotWith.l0 k _ _ _ _ _
      rw [impl_dotWith.l0, if_pos (by omega), if_pos (by omega), if_pos (by omega), e1]
      simp only [Option.bind_some]
      rw [if_pos (by omega), e2]
      simp only [Option.bind_some]
      rw [e3]
      simp only [Option.bind_some]
      rw [w64 (by omega) (by omega), Int.natCast_add i 1]
      rfl
  have hd : Ends (fun k => impl_dotWith.f k l s) (fun r => r.2 = true ∧ Inv l.length r.1) := by
    refine Ends.congr (fun k => ?_) (Ends.step (g := fun k => impl_dotWith.j0 k l s false) (fun k => ?_) (loop l.length 0 ⟨0, 0⟩ (by omega) h0))
    · unfold impl_dotWith.f
      rw [if_neg (by omega), hls]
      simp
    · show impl_dotWith.j0 (k + 1) _ _ _ = _
      rw [impl_dotWith.j0, if_neg (by decide)]
      rfl
  have hc : Ends (fun k => impl_DotConjugate.f k l s) (fun r => r.2 = true ∧ Inv l.length r.1) :=
    Ends.bind (f := fun _ (bt158 : C64 × Bool) => some (bt158.1, bt158.2)) hd (fun r hr => Ends.now (r := (r.1, r.2)) (P := fun r => r.2 = true ∧ Inv l.length r.1) hr)
  exact Ends.bind (f := fun _ (bt161 : C64 × Bool) => some bt161.1) hc (fun r hr => Ends.now (r := r.1) hr.2)
theorem nought32 (X : Int) : IsV .f32 0 (0 * X) := by
  rw [Int.zero_mul]
  exact ⟨false, 0, 0, by decide +kernel, by decide +kernel, by decide⟩
theorem conj_F {x : C64} {a b : Int} (h : IsF x a b) : IsF ⟨x.re, Go.Op.negFloat .f32 x.im⟩ a (-b) := by
  obtain ⟨h1, h2, h3, h4⟩ := h
  refine ⟨h1, ?_, h3, by omega⟩
  rw [Int.neg_mul]
  exact neg_V h2
theorem add_ok {x y : C64} {u v : Nat} (h1 : floatBits .add .f32 x.re y.re = some u) (h2 : floatBits .add .f32 x.im y.im = some v) : impl_add.f x y = some ⟨u, v⟩ := by
  obtain ⟨o1, q1⟩ := fok_some h1
  obtain ⟨o2, q2⟩ := fok_some h2
  unfold impl_add.f
  rw [if_pos o1, if_pos o2, q1, q2]
theorem less_ok {x y : C64} {u v : Nat} (h1 : floatBits .sub .f32 x.re y.re = some u) (h2 : floatBits .sub .f32 x.im y.im = some v) : impl_less.f x y = some ⟨u, v⟩ := by
  obtain ⟨o1, q1⟩ := fok_some h1
  obtain ⟨o2, q2⟩ := fok_some h2
  unfold impl_less.f
  rw [if_pos o1, if_pos o2, q1, q2]
/-- The real and the imaginary part of the exact output, in 256th parts. -/
noncomputable def xr (l s : List C64) (n : Nat) : Int := sumTo (fun j => fr (rdOf c64z l (j : Int)) * fr (rdOf c64z s (j : Int)) + fi (rdOf c64z l (j : Int)) * fi (rdOf c64z s (j : Int))) n
noncomputable def xi (l s : List C64) (n : Nat) : Int := sumTo (fun j => fr (rdOf c64z l (j : Int)) * fi (rdOf c64z s (j : Int)) - fi (rdOf c64z l (j : Int)) * fr (rdOf c64z s (j : Int))) n
theorem four_le {a b c d : Int} (ha : a.natAbs ≤ 32) (hb : b.natAbs ≤ 32) (hc : c.natAbs ≤ 32) (hd : d.natAbs ≤ 32) : (a * c + b * d).natAbs ≤ 2048 ∧ (a * d - b * c).natAbs ≤ 2048 := by
  have p1 := sq_b ha hc
  have p2 := sq_b hb hd
  have p3 := sq_b ha hd
  have p4 := sq_b hb hc
  omega
theorem x_le (l s : List C64) (hl : ∀ x ∈ l, Fi x) (hs : ∀ x ∈ s, Fi x) (hls : l.length = s.length) (i : Nat) (hi : i ≤ l.length) : (xr l s i).natAbs ≤ i * 2048 ∧ (xi l s i).natAbs ≤ i * 2048 := by
  have h : ∀ j, j < i → _ := fun j hj => four_le (fri (hl _ (rdOf_mem l j (by omega)))).2.2.1 (fri (hl _ (rdOf_mem l j (by omega)))).2.2.2 (fri (hs _ (rdOf_mem s j (by omega)))).2.2.1 (fri (hs _ (rdOf_mem s j (by omega)))).2.2.2
  exact ⟨sumTo_le' _ _ i (fun j hj => (h j hj).1), sumTo_le' _ _ i (fun j hj => (h j hj).2)⟩
/-- The output of weights in sixteenths for a shot in sixteenths. -/
theorem out_exact (l s : List C64) (hl : ∀ x ∈ l, Fi x) (hs : ∀ x ∈ s, Fi x) (hls : l.length = s.length) (hn : l.length ≤ 16) (a b : Nat) :
    Ends (fun k => impl_outputOf.f k l a b s) (fun z => IsV .f32 z.re (xr l s l.length * ((2 ^ 141 : Nat) : Int)) ∧ IsV .f32 z.im (xi l s l.length * ((2 ^ 141 : Nat) : Int))) := by
  refine dot_loop l s hls hn a b (fun i z => IsV .f32 z.re (xr l s i * ((2 ^ 141 : Nat) : Int)) ∧ IsV .f32 z.im (xi l s i * ((2 ^ 141 : Nat) : Int))) (fun i acc hi h => ?_) ⟨nought32 _, nought32 _⟩
  obtain ⟨h1, h2⟩ := h
  have f1 := fri (hl _ (rdOf_mem l i hi))
  have f2 := fri (hs _ (rdOf_mem s i (by omega)))
  obtain ⟨g1, g2, g3, g4⟩ := conj_F f1
  obtain ⟨k1, k2, k3, k4⟩ := f2
  obtain ⟨z, ez, z1, z2⟩ := mulC_T g1 g2 k1 k2 g3 g4 k3 k4
  have b1 := x_le l s hl hs hls (i + 1) (by omega)
  have hx1 : xr l s (i + 1) = xr l s i + (fr (rdOf c64z l (i : Int)) * fr (rdOf c64z s (i : Int)) - -fi (rdOf c64z l (i : Int)) * fi (rdOf c64z s (i : Int))) := by
    rw [Int.neg_mul, Int.sub_neg]; rfl
  have hx2 : xi l s (i + 1) = xi l s i + (fr (rdOf c64z l (i : Int)) * fi (rdOf c64z s (i : Int)) + -fi (rdOf c64z l (i : Int)) * fr (rdOf c64z s (i : Int))) := by
    rw [Int.neg_mul, ← Int.sub_eq_add_neg]; rfl
  have lt : ∀ {n : Nat}, n ≤ (i + 1) * 2048 → n < 2 ^ (FF .f32 + 1) := fun h => Nat.lt_of_le_of_lt h (Nat.lt_of_le_of_lt (show _ ≤ 17 * 2048 by omega) (by decide))
  obtain ⟨t1, e1, j1⟩ := add_T (by decide) (by decide) h1 z1 (lt (by rw [← hx1]; exact b1.1))
  obtain ⟨t2, e2, j2⟩ := add_T (by decide) (by decide) h2 z2 (lt (by rw [← hx2]; exact b1.2))
  rw [← hx1] at j1
  rw [← hx2] at j2
  exact ⟨_, z, ⟨t1, t2⟩, rfl, ez, add_ok e1 e2, j1, j2⟩
theorem pow16 (a b c : Nat) (h : a + b = c) : 2 ^ a * 2 ^ b = 2 ^ c := by rw [← Nat.pow_add, h]
theorem scaleP {M p : Int} {q : Nat} (h : NearP M (p * ((2 ^ 145 : Nat) : Int)) (q * 2 ^ 145)) : 32 * ((16 * M - p).natAbs * 2 ^ 23) ≤ 33 * q + 2 ^ 34 := by
  unfold NearP at h
  have hK := Nat.two_pow_pos 145
  have hH := pow16 4 145 149 rfl
  generalize 2 ^ 149 = H at *
  generalize 2 ^ 145 = K at *
  subst hH
  have e : M * ((2 ^ 4 * K : Nat) : Int) - p * (K : Int) = (16 * M - p) * (K : Int) := by
    rw [Int.sub_mul, Int.natCast_mul, ← Int.mul_assoc, Int.mul_comm M]
    rfl
  rw [e, Int.natAbs_mul, Int.natAbs_natCast] at h
  refine Nat.le_of_mul_le_mul_right (c := K) ?_ hK
  generalize (16 * M - p).natAbs = a at h ⊢
  have r1 : 32 * (a * 2 ^ 23) * K = 32 * (a * K * 2 ^ 23) := by rw [Nat.mul_assoc 32, Nat.mul_right_comm]
  have r2 : (33 * q + 2 ^ 34) * K = 33 * (q * K) + 2 ^ 30 * (2 ^ 4 * K) := by rw [Nat.add_mul, Nat.mul_assoc, ← Nat.mul_assoc (2 ^ 30)]
  rw [r1, r2]
  exact h
theorem lift145 (P c : Int) : P * (c * ((2 ^ 145 : Nat) : Int)) = P * c * ((2 ^ 145 : Nat) : Int) := (Int.mul_assoc _ _ _).symm
theorem abs145 (P : Int) : (P * ((2 ^ 145 : Nat) : Int)).natAbs = P.natAbs * 2 ^ 145 := abs_pow P 145
/-- The product of any number and one of sixteenths. -/
theorem mulC_16 {x y : C64} {P Q c d : Int} (h1 : IsV .f32 x.re P) (h2 : IsV .f32 x.im Q) (h3 : IsV .f32 y.re (c * ((2 ^ 145 : Nat) : Int))) (h4 : IsV .f32 y.im (d * ((2 ^ 145 : Nat) : Int))) (hP : P.natAbs ≤ 2 ^ 160) (hQ : Q.natAbs ≤ 2 ^ 160) (hc : c.natAbs ≤ 32) (hd : d.natAbs ≤ 32) :
    ∃ (z : C64) (M N : Int), impl_MulComplex.f x y = some z ∧ IsV .f32 z.re M ∧ IsV .f32 z.im N ∧ 32 * ((16 * M - (P * c - Q * d)).natAbs * 2 ^ 23) ≤ 33 * ((P * c).natAbs + (Q * d).natAbs) + 2 ^ 34 ∧ 32 * ((16 * N - (P * d + Q * c)).natAbs * 2 ^ 23) ≤ 33 * ((P * d).natAbs + (Q * c).natAbs) + 2 ^ 34 ∧ (P = 0 → Q = 0 → M = 0 ∧ N = 0) := by
  have big : ∀ {c : Int}, c.natAbs ≤ 32 → (c * ((2 ^ 145 : Nat) : Int)).natAbs ≤ 2 ^ 160 := fun h => by
    rw [abs145]
    exact Nat.le_trans (pow_bd 5 145 150 _ rfl h) (Nat.pow_le_pow_right (by decide) (by decide))
  obtain ⟨z, M, N, e, i1, i2, n1, n2, z1, z2⟩ := mulC_A h1 h2 h3 h4 hP hQ (big hc) (big hd)
  refine ⟨z, M, N, e, i1, i2, ?_, ?_, fun hp hq => ⟨z1 (by rw [hp, Int.zero_mul]) (by rw [hq, Int.zero_mul]), z2 (by rw [hp, Int.zero_mul]) (by rw [hq, Int.zero_mul])⟩⟩
  · rw [lift145, lift145, ← Int.sub_mul, abs145, abs145, ← Nat.add_mul] at n1
    exact scaleP n1
  · rw [lift145, lift145, ← Int.add_mul, abs145, abs145, ← Nat.add_mul] at n2
    exact scaleP n2
theorem b32 {P c : Int} {L : Nat} (hP : 16 * P.natAbs ≤ 34 * L) (hc : c.natAbs ≤ 32) : (P * c).natAbs ≤ 68 * L := by
  rw [Int.natAbs_mul]
  have := Nat.mul_le_mul_left P.natAbs hc
  omega
theorem part_near {M p : Int} {q L : Nat} (h : 32 * ((16 * M - p).natAbs * 2 ^ 23) ≤ 33 * q + 2 ^ 34) (hp : p.natAbs ≤ q) (hq : q ≤ 136 * L) (hL : 2 ^ 34 ≤ L) : (256 * M - 16 * p).natAbs * 2 ^ 23 ≤ 2245 * L ∧ 256 * M.natAbs ≤ 2177 * L := by
  have e : (256 * M - 16 * p).natAbs = 16 * (16 * M - p).natAbs := by omega
  have e2 : 16 * M.natAbs ≤ (16 * M - p).natAbs + p.natAbs := by omega
  rw [e]
  generalize (16 * M - p).natAbs = a at *
  generalize M.natAbs = b at *
  generalize p.natAbs = c at *
  omega
theorem acc_near {S M p X S' : Int} {L a e : Nat} (h1 : 256 * S.natAbs ≤ 2178 * a * L) (h2 : (256 * S - X).natAbs * 2 ^ 23 ≤ e * L) (h3 : (256 * M - 16 * p).natAbs * 2 ^ 23 ≤ 2245 * L) (h4 : 256 * M.natAbs ≤ 2177 * L) (ho : Off 23 S' (S + M)) (ha : a ≤ 4) :
    256 * S'.natAbs ≤ 2178 * (a + 1) * L ∧ (256 * S' - (X + 16 * p)).natAbs * 2 ^ 23 ≤ (e + 2245 + 2178 * (a + 1)) * L := by
  unfold Off at ho
  have t1 : (256 * S' - (X + 16 * p)).natAbs ≤ 256 * (S' - (S + M)).natAbs + (256 * S - X).natAbs + (256 * M - 16 * p).natAbs := by omega
  have t2 : S'.natAbs ≤ (S' - (S + M)).natAbs + (S + M).natAbs := by omega
  have t3 : (S + M).natAbs ≤ S.natAbs + M.natAbs := by omega
  have m1 : 2178 * (a + 1) * L = 2178 * a * L + 2178 * L := by rw [Nat.mul_add, Nat.add_mul]
  have m2 : (e + 2245 + 2178 * (a + 1)) * L = e * L + 2245 * L + 2178 * (a + 1) * L := by rw [Nat.add_mul, Nat.add_mul]
  have m3 : 2178 * a * L ≤ 8712 * L := Nat.mul_le_mul_right _ (by omega)
  rw [m1, m2, m1]
  generalize 2178 * a * L = A at *
  generalize e * L = E at *
  generalize (256 * S' - (X + 16 * p)).natAbs = x1 at *
  generalize (S' - (S + M)).natAbs = x2 at *
  generalize (256 * S - X).natAbs = x3 at *
  generalize (256 * M - 16 * p).natAbs = x4 at *
  generalize (S + M).natAbs = x5 at *
  generalize S'.natAbs = x6 at *
  generalize S.natAbs = x7 at *
  generalize M.natAbs = x8 at *
  omega
end Go.Proofs.Ytnfcbacdggkfeaa.PlainBd
