/-
  A step's weights: each is the old one and its share of the error, nearly.
-/
import Derived.Test.YtnfcbacdggkfeaaBx3
import Derived.Test.YtnfcbacdggkfeaaBdNear
namespace Go.Proofs.Ytnfcbacdggkfeaa.PlainBd
open Ieee Go.RowKit Go.Proofs.YtnfcbacdggkfeaaW.PrintWords Go.Proofs.YtnfcbacdggkfeaaW.PrintLast Go.Proofs.YtnfcbacdggkfeaaW.PrintMore
open Go.Proofs.Ytnfcbacdggkfeaa.B Go.Proofs.Ytnfcbacdggkfeaa.PlainP

/-- What a step does with its new weights. -/
def tailF (k : Nat) (o : List C64) (st B : Nat) (e : C64) : Option (List C64 × Nat × Nat × C64) := (impl_PowersOf.f k o).bind fun bt179 => (if (FloatKind.f32.format.order bt179.1 B == some .gt) = true then (if FOk .quo .f32 B bt179.1 = true then ((impl_RootNumber.f (fq .quo .f32 B bt179.1)).bind fun t181 => ((impl_scaled.f k o t181).bind fun t182 => (some (t182, st, B, e)))) else (none)) else (some (o, st, B, e)))
theorem step_loop (l s : List C64) (hls : l.length = s.length) (hn : l.length ≤ 16) (st B : Nat) (e c : C64) (R : Nat → C64 → Prop) (Post : List C64 × Nat × Nat × C64 → Prop)
    (step : ∀ i : Nat, i < l.length → ∃ z t, impl_MulComplex.f (rdOf c64z s (i : Int)) c = some z ∧ impl_add.f (rdOf c64z l (i : Int)) z = some t ∧ R i t)
    (tail : ∀ o : List C64, o.length = l.length → (∀ j : Nat, j < l.length → R j (rdOf c64z o (j : Int))) → Ends (fun k => tailF k o st B e) Post) :
    Ends (fun k => impl_stepped.l0 k s e c l (l.length : Int) 0 l st B ([] : List C64) st B) Post := by
  have loop : ∀ (d : Nat) (o : List C64), o.length + d = l.length → (∀ j : Nat, j < o.length → R j (rdOf c64z o (j : Int))) → Ends (fun k => impl_stepped.l0 k s e c l (l.length : Int) (o.length : Int) l st B o st B) Post := by
    intro d
    induction d with
    | zero =>
      intro o ho h
      refine Ends.step (fun k => ?_) (tail o (by omega) (fun j hj => h j (by omega)))
      show impl_stepped.l0 (k + 1) _ _ _ _ _ _ _ _ _ _ _ _ = _
      rw [impl_stepped.l0, if_neg (by omega)]
      rfl
    | succ d ih =>
      intro o ho h
      obtain ⟨z, t, e1, e2, hR⟩ := step o.length (by omega)
      refine Ends.step (fun k => ?_) (ih (o ++ [t]) (by simp; omega) (fun j hj => ?_))
      · show impl_stepped.l0 (k + 1) _ _ _ _ _ _ _ _ _ _ _ _ = impl_stepped.l0 k _ _ _ _ _ _ _ _ _ _ _ _
        rw [impl_stepped.l0, if_pos (by omega), if_pos (by omega), if_pos (by omega), if_pos (by omega), e1]
        simp only [Option.bind_some]
        rw [e2]
        simp only [Option.bind_some]
        rw [if_pos (by omega), w64 (by omega) (by omega), List.length_append, List.length_singleton, Int.natCast_add]
        rfl
      · rw [List.length_append, List.length_singleton] at hj
        rw [rdOf_snoc]
        by_cases cc : j < o.length
        · rw [if_pos cc]; exact h j cc
        · obtain rfl : j = o.length := by omega
          rw [if_neg cc, if_pos rfl]; exact hR
  exact loop l.length [] (by simp) (fun j hj => by simp at hj)
/-- The product of a number of sixteenths and any one. -/
theorem mulC_61 {x y : C64} {C D c d : Int} (h1 : IsV .f32 x.re (c * ((2 ^ 145 : Nat) : Int))) (h2 : IsV .f32 x.im (d * ((2 ^ 145 : Nat) : Int))) (h3 : IsV .f32 y.re C) (h4 : IsV .f32 y.im D) (hC : C.natAbs ≤ 2 ^ 160) (hD : D.natAbs ≤ 2 ^ 160) (hc : c.natAbs ≤ 32) (hd : d.natAbs ≤ 32) :
    ∃ (z : C64) (M N : Int), impl_MulComplex.f x y = some z ∧ IsV .f32 z.re M ∧ IsV .f32 z.im N ∧ 32 * ((16 * M - (C * c - D * d)).natAbs * 2 ^ 23) ≤ 33 * ((C * c).natAbs + (D * d).natAbs) + 2 ^ 34 ∧ 32 * ((16 * N - (D * c + C * d)).natAbs * 2 ^ 23) ≤ 33 * ((D * c).natAbs + (C * d).natAbs) + 2 ^ 34 ∧ (C = 0 → D = 0 → M = 0 ∧ N = 0) := by
  have big : ∀ {c : Int}, c.natAbs ≤ 32 → (c * ((2 ^ 145 : Nat) : Int)).natAbs ≤ 2 ^ 160 := fun h => by
    rw [abs145]
    exact Nat.le_trans (pow_bd 5 145 150 _ rfl h) (Nat.pow_le_pow_right (by decide) (by decide))
  obtain ⟨z, M, N, e, i1, i2, n1, n2, z1, z2⟩ := mulC_A h1 h2 h3 h4 (big hc) (big hd) hC hD
  have sw : ∀ p q : Int, p * ((2 ^ 145 : Nat) : Int) * q = q * p * ((2 ^ 145 : Nat) : Int) := fun p q => by rw [Int.mul_comm, lift145]
  refine ⟨z, M, N, e, i1, i2, ?_, ?_, fun hp hq => ⟨z1 (by rw [hp, Int.mul_zero]) (by rw [hq, Int.mul_zero]), z2 (by rw [hq, Int.mul_zero]) (by rw [hp, Int.mul_zero])⟩⟩
  · rw [sw, sw, ← Int.sub_mul, abs145, abs145, ← Nat.add_mul] at n1
    exact scaleP n1
  · rw [sw, sw, ← Int.add_mul, abs145, abs145, ← Nat.add_mul] at n2
    exact scaleP n2
/-- One new weight. -/
theorem new_near {A M P p : Int} {C D E L : Nat} (h : 32 * ((16 * M - p).natAbs * 2 ^ 23) ≤ 33 * (32 * C + 32 * D) + 2 ^ 34) (hp : p.natAbs ≤ 32 * C + 32 * D) (hC : 1024 * (C + D) ≤ 1025 * E + 2 ^ 30) (hA : 16 * A.natAbs ≤ 32 * 2 ^ 149) (hL : L = 2 ^ 149 + E) (ho : Off 23 P (A + M)) :
    16 * P.natAbs ≤ 34 * L ∧ (16 * P - (16 * A + p)).natAbs * 2 ^ 23 ≤ 67 * L := by
  unfold Off at ho
  have hU : 2 ^ 60 ≤ 2 ^ 149 := Nat.pow_le_pow_right (by decide) (by decide)
  generalize 2 ^ 149 = U at *
  have t1 : 16 * M.natAbs ≤ (16 * M - p).natAbs + p.natAbs := by omega
  have t2 : (16 * P - (16 * A + p)).natAbs ≤ 16 * (P - (A + M)).natAbs + (16 * M - p).natAbs := by omega
  have t3 : (A + M).natAbs ≤ A.natAbs + M.natAbs := by omega
  have t4 : P.natAbs ≤ (P - (A + M)).natAbs + (A + M).natAbs := by omega
  generalize (16 * M - p).natAbs = x1 at *
  generalize (16 * P - (16 * A + p)).natAbs = x2 at *
  generalize (P - (A + M)).natAbs = x3 at *
  generalize (A + M).natAbs = x4 at *
  generalize P.natAbs = x5 at *
  generalize A.natAbs = x6 at *
  generalize M.natAbs = x7 at *
  generalize p.natAbs = x8 at *
  omega
theorem mul32 {C c : Int} (hc : c.natAbs ≤ 32) : (C * c).natAbs ≤ 32 * C.natAbs := by
  rw [Int.natAbs_mul, Nat.mul_comm]
  exact Nat.mul_le_mul_right _ hc
theorem new_room {A M p : Int} {C D E L : Nat} (h : 32 * ((16 * M - p).natAbs * 2 ^ 23) ≤ 33 * (32 * C + 32 * D) + 2 ^ 34) (hp : p.natAbs ≤ 32 * C + 32 * D) (hC : 1024 * (C + D) ≤ 1025 * E + 2 ^ 30) (hA : 16 * A.natAbs ≤ 32 * 2 ^ 149) (hL : L = 2 ^ 149 + E) (hL2 : L ≤ 2 ^ 157) :
    (A + M).natAbs < 2 ^ (FF .f32 + 200) := by
  have hU : 2 ^ 60 ≤ 2 ^ 149 := Nat.pow_le_pow_right (by decide) (by decide)
  have h3 := pow_lt' 164 (FF .f32 + 200) (by decide)
  have h4 : 2 ^ 164 = 128 * 2 ^ 157 := by rw [show (128 : Nat) = 2 ^ 7 from rfl, ← Nat.pow_add]
  generalize 2 ^ (FF .f32 + 200) = Y at *
  rw [h4] at h3
  generalize 2 ^ 157 = X at *
  generalize 2 ^ 149 = U at *
  omega
/-- A new weight (t) out of an old one (x), a number of the shot (s) and the error's share. -/
def Nw (C D : Int) (L : Nat) (x s t : C64) (P Q : Int) : Prop := IsV .f32 t.re P ∧ IsV .f32 t.im Q ∧ 16 * P.natAbs ≤ 34 * L ∧ 16 * Q.natAbs ≤ 34 * L ∧ (16 * P - (16 * (fr x * ((2 ^ 145 : Nat) : Int)) + (C * fr s - D * fi s))).natAbs * 2 ^ 23 ≤ 67 * L ∧
  (16 * Q - (16 * (fi x * ((2 ^ 145 : Nat) : Int)) + (D * fr s + C * fi s))).natAbs * 2 ^ 23 ≤ 67 * L ∧ (C = 0 → D = 0 → P = fr x * ((2 ^ 145 : Nat) : Int) ∧ Q = fi x * ((2 ^ 145 : Nat) : Int))
theorem lift16 {a : Int} (h : a.natAbs ≤ 32) : 16 * (a * ((2 ^ 145 : Nat) : Int)).natAbs ≤ 32 * 2 ^ 149 := by
  rw [abs145]
  have h1 := pow16 4 145 149 rfl
  have h2 := Nat.mul_le_mul_right (2 ^ 145) h
  generalize 2 ^ 149 = U at *
  generalize 2 ^ 145 = K at *
  omega
theorem new_elem {x s c : C64} {C D : Int} {E L : Nat} (hx : Fi x) (hs : Fi s) (h3 : IsV .f32 c.re C) (h4 : IsV .f32 c.im D) (hC : C.natAbs ≤ 2 ^ 160) (hD : D.natAbs ≤ 2 ^ 160) (hCD : 1024 * (C.natAbs + D.natAbs) ≤ 1025 * E + 2 ^ 30) (hL : L = 2 ^ 149 + E) (hL2 : L ≤ 2 ^ 157) :
    ∃ z t, impl_MulComplex.f s c = some z ∧ impl_add.f x z = some t ∧ ∃ P Q : Int, Nw C D L x s t P Q := by
  obtain ⟨x1, x2, x3, x4⟩ := fri hx
  obtain ⟨s1, s2, s3, s4⟩ := fri hs
  obtain ⟨z, M, N, e, i1, i2, n1, n2, hz⟩ := mulC_61 s1 s2 h3 h4 hC hD s3 s4
  unfold Nw
  generalize fr s = a at *
  generalize fi s = b at *
  generalize fr x = u at *
  generalize fi x = v at *
  have g1 := mul32 (C := C) s3
  have g2 := mul32 (C := D) s4
  have g3 := mul32 (C := D) s3
  have g4 := mul32 (C := C) s4
  have m1 : 32 * ((16 * M - (C * a - D * b)).natAbs * 2 ^ 23) ≤ 33 * (32 * C.natAbs + 32 * D.natAbs) + 2 ^ 34 := Nat.le_trans n1 (Nat.add_le_add_right (Nat.mul_le_mul_left _ (Nat.add_le_add g1 g2)) _)
  have m2 : 32 * ((16 * N - (D * a + C * b)).natAbs * 2 ^ 23) ≤ 33 * (32 * C.natAbs + 32 * D.natAbs) + 2 ^ 34 := Nat.le_trans n2 (Nat.add_le_add_right (Nat.mul_le_mul_left _ (by omega)) _)
  have b1 : (C * a - D * b).natAbs ≤ 32 * C.natAbs + 32 * D.natAbs := by omega
  have b2 : (D * a + C * b).natAbs ≤ 32 * C.natAbs + 32 * D.natAbs := by omega
  by_cases h0 : C = 0 ∧ D = 0
  · obtain ⟨q1, q2⟩ := hz h0.1 h0.2
    have lt : ∀ {n : Int}, n.natAbs ≤ 32 → (n + 0).natAbs < 2 ^ (FF .f32 + 1) := fun h => by
      rw [Int.add_zero]
      exact Nat.lt_of_le_of_lt h (by decide)
    rw [q1, ← Int.zero_mul ((2 ^ 145 : Nat) : Int)] at i1
    rw [q2, ← Int.zero_mul ((2 ^ 145 : Nat) : Int)] at i2
    obtain ⟨t1, e1, j1⟩ := add_T (by decide) (by decide) x1 i1 (lt x3)
    obtain ⟨t2, e2, j2⟩ := add_T (by decide) (by decide) x2 i2 (lt x4)
    rw [Int.add_zero] at j1 j2
    have r1 := lift16 x3
    have r2 := lift16 x4
    have self : ∀ p : Int, (16 * p - (16 * p + (C * a - D * b))).natAbs = 0 ∧ (16 * p - (16 * p + (D * a + C * b))).natAbs = 0 := fun p => by
      rw [h0.1, h0.2]
      simp
    have hUL : 32 * 2 ^ 149 ≤ 34 * L := by rw [hL]; omega
    refine ⟨z, ⟨t1, t2⟩, e, add_ok e1 e2, _, _, j1, j2, Nat.le_trans r1 hUL, Nat.le_trans r2 hUL, ?_, ?_, fun _ _ => ⟨rfl, rfl⟩⟩
    · rw [(self _).1, Nat.zero_mul]; exact Nat.zero_le _
    · rw [(self _).2, Nat.zero_mul]; exact Nat.zero_le _
  · have r1 := lift16 x3
    have r2 := lift16 x4
    obtain ⟨t1, P, e1, j1, o1⟩ := add_V 200 (by decide) x1 i1 (new_room m1 b1 hCD r1 hL hL2)
    obtain ⟨t2, Q, e2, j2, o2⟩ := add_V 200 (by decide) x2 i2 (new_room m2 b2 hCD r2 hL hL2)
    obtain ⟨p1, p2⟩ := new_near m1 b1 hCD r1 hL o1
    obtain ⟨p3, p4⟩ := new_near m2 b2 hCD r2 hL o2
    exact ⟨z, ⟨t1, t2⟩, e, add_ok e1 e2, P, Q, j1, j2, p1, p3, p2, p4, fun h h' => absurd ⟨h, h'⟩ h0⟩
end Go.Proofs.Ytnfcbacdggkfeaa.PlainBd
