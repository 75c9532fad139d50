/-
  The law of bounded steps.
-/
import Derived.Test.YtnfcbacdggkfeaaBdLawA
namespace Go.Proofs.Ytnfcbacdggkfeaa.PlainBd
open Ieee Go.RowKit Go.Proofs.YtnfcbacdggkfeaaW.PrintWords Go.Proofs.YtnfcbacdggkfeaaW.PrintLast Go.Proofs.YtnfcbacdggkfeaaW.PrintMore
open Go.Proofs.Ytnfcbacdggkfeaa.B Go.Proofs.Ytnfcbacdggkfeaa.PlainP

abbrev T1 : Bool → Prop := fun r => r = true
theorem mil_32 : IsV .f32 1232348160 ((1000000 * 2 ^ 149 : Nat) : Int) := ⟨false, 16000000, 145, by decide +kernel, by decide +kernel, by decide⟩
theorem wide_pow {n L H : Nat} {P Q : Nat → Int} (hn : n ≤ 5) (hL : L ≤ 85 * H) (h : ∀ j, j < n → 16 * (P j).natAbs ≤ 34 * L ∧ 16 * (Q j).natAbs ≤ 34 * L) : sumN (pq P Q) n ≤ 5 * (65252 * (H * H)) := by
  refine Nat.le_trans (sumN_le _ (65252 * (H * H)) n (fun j hj => ?_)) (Nat.mul_le_mul_right _ hn)
  obtain ⟨h1, h2⟩ := h j hj
  have sq : ∀ a : Nat, 16 * a ≤ 34 * L → a * a ≤ 32626 * (H * H) := fun a ha => by
    have b1 : 16 * a ≤ 2890 * H := by omega
    have b2 := Nat.mul_le_mul b1 b1
    have e1 : 16 * a * (16 * a) = 256 * (a * a) := by grind
    have e2 : 2890 * H * (2890 * H) = 8352100 * (H * H) := by grind
    rw [e1, e2] at b2
    omega
  have c1 := sq _ h1
  have c2 := sq _ h2
  unfold pq
  omega
theorem wide_q {q : Int} {W H : Nat} (hH : 0 < H) (h : PwI H q W) (hW : W ≤ 5 * (65252 * (H * H))) : q ≤ ((1000000 * H : Nat) : Int) := by
  obtain ⟨a, -⟩ := h
  have hHH : H * 1 ≤ H * H := Nat.mul_le_mul_left _ hH
  refine Int.le_of_mul_le_mul_right (a := (H : Int)) ?_ (by omega)
  have e : ((1000000 * H : Nat) : Int) * (H : Int) = 1000000 * ((H * H : Nat) : Int) := by
    rw [Int.natCast_mul, Int.natCast_mul, Int.mul_assoc]
    rfl
  rw [e]
  generalize q * (H : Int) = x at *
  generalize H * H = y at *
  omega
theorem pw_size {q : Int} {W : Nat} (h : PwI (2 ^ 149) q W) (hW : W ≤ 2 ^ 171 * 2 ^ 149) : q.natAbs ≤ 2 ^ 180 := by
  have hH := Nat.two_pow_pos 149
  have h1 := pw_ge hH h
  have h2 := pow_lt' 174 180 (by decide)
  rcases Int.lt_or_le q 0 with h0 | h0
  · have : q.natAbs ≤ 1 := by omega
    exact Nat.le_trans this (Nat.two_pow_pos 180)
  · obtain ⟨n, rfl⟩ := Int.eq_ofNat_of_zero_le h0
    rw [Int.natAbs_natCast]
    exact Nat.le_trans (q_room (pw_nat h).1 hW hH) (Nat.le_of_lt h2)
theorem two_sq {a b : Nat} (h1 : a ≤ 2 ^ 158) (h2 : b ≤ 2 ^ 158) : a * a + b * b ≤ 2 ^ 171 * 2 ^ 149 := by
  have x1 := Nat.mul_le_mul h1 h1
  have x2 := Nat.mul_le_mul h2 h2
  have x3 := pow_mm 158 158 316 rfl
  have x4 := pow_dbl 316 317 rfl
  have x5 := pow_mm 171 149 320 rfl
  have x6 := pow_lt' 317 320 (by decide)
  rw [x3] at x1 x2
  rw [x5]
  omega
theorem z_size {z x L : Nat} (h : z * 2 ^ 14 ≤ x * 2 ^ 14 + L) (hx : x ≤ L) (hL : L ≤ 2 ^ 156) : z ≤ 2 ^ 158 := by
  have h1 := pow_dbl 156 157 rfl
  have h2 := pow_dbl 157 158 rfl
  omega
/-- The error before a step, in 256th parts. -/
noncomputable def eR (l s : List C64) (d : C64) : Int := 16 * fr d - xr l s l.length
noncomputable def eI (l s : List C64) (d : C64) : Int := 16 * fi d - xi l s l.length
theorem e_le (l s : List C64) (hl : ∀ x ∈ l, Fi x) (hs : ∀ x ∈ s, Fi x) (hls : l.length = s.length) (hn : l.length ≤ 5) {d : C64} (hd : Fi d) : (eR l s d).natAbs ≤ 10752 ∧ (eI l s d).natAbs ≤ 10752 := by
  obtain ⟨-, -, d3, d4⟩ := fri hd
  obtain ⟨b1, b2⟩ := x_le l s hl hs hls l.length (Nat.le_refl _)
  unfold eR eI
  omega
theorem d_256 {d : C64} (hd : Fi d) : IsV .f32 d.re (16 * fr d * ((2 ^ 141 : Nat) : Int)) ∧ IsV .f32 d.im (16 * fi d * ((2 ^ 141 : Nat) : Int)) := by
  obtain ⟨d1, d2, -, -⟩ := fri hd
  have h := pow16 4 141 145 rfl
  have e : ∀ a : Int, a * ((2 ^ 145 : Nat) : Int) = 16 * a * ((2 ^ 141 : Nat) : Int) := fun a => by
    rw [← h]
    obtain ⟨J, hJ⟩ := ex_eq (2 ^ 141)
    rw [hJ, Int.natCast_mul, ← Int.mul_assoc, Int.mul_comm a]
    rfl
  rw [e] at d1 d2
  exact ⟨d1, d2⟩
/-- What the step with a wide bound leaves. -/
def Wide (l s : List C64) (d : C64) (st : Nat) (r : List C64 × Nat × Nat × C64) : Prop := r.1.length = l.length ∧ r.2.1 = st ∧ r.2.2.1 = 1232348160 ∧ ∃ (C D : Int) (G N L : Nat) (P Q : Nat → Int), Sh s (eR l s d) (eI l s d) C D G N L ∧ ∀ j : Nat, j < l.length → Nw C D L (rdOf c64z l (j : Int)) (rdOf c64z s (j : Int)) (rdOf c64z r.1 (j : Int)) (P j) (Q j)
theorem widestep (l s : List C64) (hl : ∀ x ∈ l, Fi x) (hs : ∀ x ∈ s, Fi x) (hls : l.length = s.length) (hn : l.length ≤ 5) {st t : Nat} (hst : IsV .f32 st ((t : Int) * ((2 ^ 146 : Nat) : Int))) (ht : t ≤ 8) {d : C64} (hd : Fi d) : Ends (fun k => impl_stepped.f k l st 1232348160 s d) (Wide l s d st) := by
  obtain ⟨w1, w2⟩ := d_256 hd
  obtain ⟨b1, b2⟩ := e_le l s hl hs hls hn hd
  have big : ∀ {n : Nat}, n ≤ 10752 → n ≤ 2 ^ 14 := fun h => Nat.le_trans h (by decide)
  obtain ⟨l1, l2⟩ := long_le b1 b2
  refine step_some l s hl hs hls hn hst ht 1232348160 d w1 w2 (big b1) (big b2) _ (fun e o C D G N L hSh _ _ ho hR => ?_)
  obtain ⟨P, Q, hPQ⟩ := pick2 hR
  have hLe : L = 2 ^ 149 + ((eR l s d).natAbs + (eI l s d).natAbs) * 2 ^ 141 := hSh.long
  rw [← hLe] at l1 l2
  have hany := any_powers o (by omega) P Q (fun j hj => by
    obtain ⟨n1, n2, n3, n4, -⟩ := hPQ j (by omega)
    have l158 : 2 ^ 158 ≤ 2 ^ 160 := Nat.pow_le_pow_right (by decide) (by decide)
    exact ⟨n1, n2, Nat.le_trans (p_158 n3 l2) l158, Nat.le_trans (p_158 n4 l2) l158⟩)
  refine (tail_same o st 1232348160 mil_32 e (hany.imp (fun r hr => ?_))).imp (fun r hr => ?_)
  · obtain ⟨r1, q, iq, pw⟩ := hr
    refine ⟨r1, q, iq, wide_q (Nat.two_pow_pos 149) pw ?_⟩
    rw [ho]
    exact wide_pow hn l1 (fun j hj => by
      obtain ⟨-, -, n3, n4, -⟩ := hPQ j hj
      exact ⟨n3, n4⟩)
  · subst hr
    exact ⟨ho, rfl, rfl, C, D, G, N, L, P, Q, hSh, hPQ⟩
theorem isV_unique {k : FloatKind} {w : Nat} {a b : Int} (h : IsV k w a) (h' : IsV k w b) : a = b := by
  obtain ⟨s, m, j, d, v, -⟩ := h
  obtain ⟨s', m', j', d', v', -⟩ := h'
  rw [d] at d'
  injection d' with q1 q2 q3
  obtain rfl : j = j' := by omega
  subst q1
  subst q2
  rw [← v, ← v']
theorem fri_unique {x : C64} {a b : Int} (h : IsF x a b) : fr x = a ∧ fi x = b := by
  obtain ⟨g1, g2, -, -⟩ := fri ⟨a, b, h⟩
  obtain ⟨h1, h2, -, -⟩ := h
  have e1 := isV_unique g1 h1
  have e2 := isV_unique g2 h2
  have hp : ((2 ^ 145 : Nat) : Int) ≠ 0 := by
    have := Nat.two_pow_pos 145
    omega
  exact ⟨Int.eq_of_mul_eq_mul_right hp e1, Int.eq_of_mul_eq_mul_right hp e2⟩
theorem neg_share {D ei : Int} {G : Nat} (h : (D * 2 ^ 8 - -ei * (G : Int)).natAbs * 2 ^ 23 ≤ (-ei * (G : Int)).natAbs + 2 ^ 31) : (-D * 2 ^ 8 - ei * (G : Int)).natAbs * 2 ^ 23 ≤ (ei * (G : Int)).natAbs + 2 ^ 31 := by
  rw [Int.neg_mul] at h
  rw [Int.neg_mul]
  have e1 : (-(D * 2 ^ 8) - ei * (G : Int)).natAbs = (D * 2 ^ 8 - -(ei * (G : Int))).natAbs := by
    generalize ei * (G : Int) = x
    generalize D * 2 ^ 8 = y
    omega
  rw [e1]
  rw [Int.natAbs_neg] at h
  exact h
theorem s_room {a S : Int} {L : Nat} (ha : a.natAbs ≤ 32) (hS : 256 * S.natAbs ≤ 10890 * L) (hL : L ≤ 2 ^ 156) : (16 * a * ((2 ^ 141 : Nat) : Int) - S).natAbs < 2 ^ (FF .f32 + 200) := by
  have h1 : (16 * a * ((2 ^ 141 : Nat) : Int)).natAbs ≤ 2 ^ 150 := by
    rw [abs_pow]
    have e : (16 * a).natAbs = 16 * a.natAbs := by rw [Int.natAbs_mul]; rfl
    rw [e]
    exact pow_bd 9 141 150 _ rfl (show 16 * a.natAbs ≤ 512 by omega)
  have h2 := pow_lt' 150 156 (by decide)
  have h3 := pow_mm 6 156 162 rfl
  have h4 := pow_lt' 163 (FF .f32 + 200) (by decide)
  have h5 := pow_dbl 162 163 rfl
  obtain ⟨x, hx⟩ := ex_eq (2 ^ 150)
  obtain ⟨y, hy⟩ := ex_eq (2 ^ 156)
  obtain ⟨z, hz⟩ := ex_eq (2 ^ 162)
  obtain ⟨u, hu⟩ := ex_eq (2 ^ 163)
  obtain ⟨v, hv⟩ := ex_eq (2 ^ (FF .f32 + 200))
  rw [hx] at h1 h2
  rw [hy] at h2 h3 hL
  rw [hz] at h3 h5
  rw [hu] at h4 h5
  rw [hv] at h4 ⊢
  generalize 16 * a * ((2 ^ 141 : Nat) : Int) = w at *
  clear hx hy hz hu hv ha
  omega
theorem j3_some (l s : List C64) (hl : ∀ x ∈ l, Fi x) (hs : ∀ x ∈ s, Fi x) (hls : l.length = s.length) (h1 : 1 ≤ l.length) (hn : l.length ≤ 5) {st t : Nat} (hst : IsV .f32 st ((t : Int) * ((2 ^ 146 : Nat) : Int))) (ht : t ≤ 8) {d e : C64} (hd : Fi d) (B : Nat)
    (he1 : IsV .f32 e.re (eR l s d * ((2 ^ 141 : Nat) : Int))) (he2 : IsV .f32 e.im (eI l s d * ((2 ^ 141 : Nat) : Int))) : Ends (fun k => laws_FnBoundedSteps.j3 k l s d e l st B) T1 := by
  have hM : 0 < 1000000 * 2 ^ 149 := Nat.mul_pos (by decide) (Nat.two_pow_pos _)
  refine Ends.step (h := fun k => (impl_StepAdapter.f k l st 1232348160 s d).bind fun bt244 => ((impl_OutputOf.f k bt244.1 bt244.2.1 bt244.2.2.1 s).bind fun bt252 => (if bt244.2.2.2.2 = true then (if bt252.2 = true then (if FOk .sub .f32 d.re bt252.1.re = true then (if FOk .sub .f32 d.im bt252.1.im = true then ((impl_PowerOf.f (⟨fq .sub .f32 d.re bt252.1.re, fq .sub .f32 d.im bt252.1.im⟩ : C64)).bind fun t254 => (if FC 34 37 .f32 .f64 t254 = true then ((impl_PowerOf.f e).bind fun t255 => (if FC 34 37 .f32 .f64 t255 = true then (if FOk .mul .f64 4607186922399644778 (fc .f32 .f64 t255) = true then (if FOk .add .f64 (fq .mul .f64 4607186922399644778 (fc .f32 .f64 t255)) 4562254508917369340 = true then (some (FloatKind.f64.format.order (fc .f32 .f64 t254) (fq .add .f64 (fq .mul .f64 4607186922399644778 (fc .f32 .f64 t255)) 4562254508917369340) == some .lt || FloatKind.f64.format.order (fc .f32 .f64 t254) (fq .add .f64 (fq .mul .f64 4607186922399644778 (fc .f32 .f64 t255)) 4562254508917369340) == some .eq)) else (none)) else (none)) else (none))) else (none))) else (none)) else (none)) else (none)) else (none)))) (fun k => ?_) ?_
  · show laws_FnBoundedSteps.j3 (k + 1) _ _ _ _ _ _ _ = _
    rw [laws_FnBoundedSteps.j3]
  refine Ends.bind (f := fun k (bt244 : List C64 × Nat × Nat × C64 × Bool) => ((impl_OutputOf.f k bt244.1 bt244.2.1 bt244.2.2.1 s).bind fun bt252 => (if bt244.2.2.2.2 = true then (if bt252.2 = true then (if FOk .sub .f32 d.re bt252.1.re = true then (if FOk .sub .f32 d.im bt252.1.im = true then ((impl_PowerOf.f (⟨fq .sub .f32 d.re bt252.1.re, fq .sub .f32 d.im bt252.1.im⟩ : C64)).bind fun t254 => (if FC 34 37 .f32 .f64 t254 = true then ((impl_PowerOf.f e).bind fun t255 => (if FC 34 37 .f32 .f64 t255 = true then (if FOk .mul .f64 4607186922399644778 (fc .f32 .f64 t255) = true then (if FOk .add .f64 (fq .mul .f64 4607186922399644778 (fc .f32 .f64 t255)) 4562254508917369340 = true then (some (FloatKind.f64.format.order (fc .f32 .f64 t254) (fq .add .f64 (fq .mul .f64 4607186922399644778 (fc .f32 .f64 t255)) 4562254508917369340) == some .lt || FloatKind.f64.format.order (fc .f32 .f64 t254) (fq .add .f64 (fq .mul .f64 4607186922399644778 (fc .f32 .f64 t255)) 4562254508917369340) == some .eq)) else (none)) else (none)) else (none))) else (none))) else (none)) else (none)) else (none)) else (none)))) (adapter_step l s hls h1 (by omega) st mil_32 hM d (widestep l s hl hs hls hn hst ht hd)) (fun r hr => ?_)
  obtain ⟨⟨g1, g2, g3, C, D, G, N, L, P, Q, hSh, hPQ⟩, g4⟩ := hr
  obtain ⟨b1, b2⟩ := e_le l s hl hs hls hn hd
  obtain ⟨l1, l2⟩ := long_le b1 b2
  have hLe : L = 2 ^ 149 + ((eR l s d).natAbs + (eI l s d).natAbs) * 2 ^ 141 := hSh.long
  rw [← hLe] at l1 l2
  have g1' : r.1.length = l.length := g1
  have hL34 : 2 ^ 34 ≤ L := by
    rw [hLe]
    exact Nat.le_trans (Nat.pow_le_pow_right (by decide) (by decide)) (Nat.le_add_right (2 ^ 149) _)
  have hB' : IsV .f32 r.2.2.1 ((1000000 * 2 ^ 149 : Nat) : Int) := by
    rw [show r.2.2.1 = 1232348160 from g3]
    exact mil_32
  have l157 : 2 ^ 156 ≤ 2 ^ 157 := Nat.pow_le_pow_right (by decide) (by decide)
  refine Ends.bind (f := fun k (bt252 : C64 × Bool) => (if r.2.2.2.2 = true then (if bt252.2 = true then (if FOk .sub .f32 d.re bt252.1.re = true then (if FOk .sub .f32 d.im bt252.1.im = true then ((impl_PowerOf.f (⟨fq .sub .f32 d.re bt252.1.re, fq .sub .f32 d.im bt252.1.im⟩ : C64)).bind fun t254 => (if FC 34 37 .f32 .f64 t254 = true then ((impl_PowerOf.f e).bind fun t255 => (if FC 34 37 .f32 .f64 t255 = true then (if FOk .mul .f64 4607186922399644778 (fc .f32 .f64 t255) = true then (if FOk .add .f64 (fq .mul .f64 4607186922399644778 (fc .f32 .f64 t255)) 4562254508917369340 = true then (some (FloatKind.f64.format.order (fc .f32 .f64 t254) (fq .add .f64 (fq .mul .f64 4607186922399644778 (fc .f32 .f64 t255)) 4562254508917369340) == some .lt || FloatKind.f64.format.order (fc .f32 .f64 t254) (fq .add .f64 (fq .mul .f64 4607186922399644778 (fc .f32 .f64 t255)) 4562254508917369340) == some .eq)) else (none)) else (none)) else (none))) else (none))) else (none)) else (none)) else (none)) else (none))) (adapter_out r.1 s (by omega) (by omega) (by omega) r.2.1 hB' hM (out_near r.1 s hs (by omega) (by omega) r.2.1 r.2.2.1 P Q L hL34 (Nat.le_trans l2 l157) (fun j hj => by
    obtain ⟨n1, n2, n3, n4, -⟩ := hPQ j (by omega)
    exact ⟨n1, n2, n3, n4⟩))) (fun z hz => ?_)
  obtain ⟨⟨S, T, i1, i2, s1, s2, n1, n2⟩, z2⟩ := hz
  rw [g1'] at n1 n2
  obtain ⟨m1, m2⟩ := sums_near l s hs hls hn r.1 P Q hPQ
  rw [hSh.power] at m1 m2
  obtain ⟨w1, w2⟩ := d_256 hd
  obtain ⟨-, -, d3, d4⟩ := fri hd
  obtain ⟨u, zr, eu, iu, ou⟩ := sub_V 200 (by decide) w1 i1 (s_room d3 s1 l2)
  obtain ⟨v, zi, ev, iv, ov⟩ := sub_V 200 (by decide) w2 i2 (s_room d4 s2 l2)
  have hxr : eR l s d + xr l s l.length = 16 * fr d := by unfold eR; omega
  have hxi : eI l s d + xi l s l.length = 16 * fi d := by unfold eI; omega
  rw [← hxr] at ou
  rw [← hxi] at ov
  have hLx : L = 2 ^ 149 + ((eR l s d).natAbs * 2 ^ 141 + (eI l s d).natAbs * 2 ^ 141) := by rw [hLe, Nat.add_mul]
  have x1 : 2 ^ 149 + (eR l s d).natAbs * 2 ^ 141 ≤ L := by rw [hLx]; exact Nat.add_le_add_left (Nat.le_add_right _ _) _
  have x2 : 2 ^ 149 + (eI l s d).natAbs * 2 ^ 141 ≤ L := by rw [hLx]; exact Nat.add_le_add_left (Nat.le_add_left _ _) _
  have q1 := miss_part n1 m1 hSh.re hSh.gain hSh.most (.inr x1) ou
  have q2 := miss_part n2 m2 (neg_share hSh.im) hSh.gain hSh.most (.inr x2) ov
  have y1 := z_size q1 (Nat.le_trans (Nat.le_add_left _ _) x1) l2
  have y2 := z_size q2 (Nat.le_trans (Nat.le_add_left _ _) x2) l2
  have l160 : 2 ^ 158 ≤ 2 ^ 160 := Nat.pow_le_pow_right (by decide) (by decide)
  have l155 : 2 ^ 155 ≤ 2 ^ 158 := Nat.pow_le_pow_right (by decide) (by decide)
  have a1 := abs_pow (eR l s d) 141
  have a2 := abs_pow (eI l s d) 141
  have k1 : (eR l s d * ((2 ^ 141 : Nat) : Int)).natAbs ≤ 2 ^ 158 := by
    rw [a1]
    exact Nat.le_trans (pow_bd 14 141 155 _ rfl (Nat.le_trans b1 (by decide))) l155
  have k2 : (eI l s d * ((2 ^ 141 : Nat) : Int)).natAbs ≤ 2 ^ 158 := by
    rw [a2]
    exact Nat.le_trans (pow_bd 14 141 155 _ rfl (Nat.le_trans b2 (by decide))) l155
  obtain ⟨tw, tq, et, it, pt⟩ := powerOf_any (y := ⟨u, v⟩) iu iv (Nat.le_trans y1 l160) (Nat.le_trans y2 l160)
  obtain ⟨ew, te, ee, ie, pe⟩ := powerOf_any he1 he2 (Nat.le_trans k1 l160) (Nat.le_trans k2 l160)
  have hH := Nat.two_pow_pos 149
  have z1' := pw_size pt (two_sq y1 y2)
  have z2' := pw_size pe (two_sq k1 k2)
  have z3 := pw_ge hH pe
  rw [a1, a2] at pe
  have hc := pow_cmp (Nat.pow_le_pow_right (by decide) (by decide)) pt pe (sq_sum q1 q2 hLx)
  obtain ⟨c1, c2, c3, c4, c5⟩ := last_cmp it ie z1' z2' z3 hc
  obtain ⟨o1, f1⟩ := fok_some eu
  obtain ⟨o2, f2⟩ := fok_some ev
  refine Ends.congr (fun k => ?_) (Ends.now (r := true) rfl)
  rw [if_pos g4, if_pos z2, if_pos o1, if_pos o2, f1, f2, et]
  simp only [Option.bind_some]
  rw [if_pos c1, ee]
  simp only [Option.bind_some]
  rw [if_pos c2, if_pos c3, if_pos c4, c5]
/-- Weights that are as they were. -/
def Same (l o : List C64) : Prop := ∀ j : Nat, j < l.length → IsV .f32 (rdOf c64z o (j : Int)).re (fr (rdOf c64z l (j : Int)) * ((2 ^ 145 : Nat) : Int)) ∧ IsV .f32 (rdOf c64z o (j : Int)).im (fi (rdOf c64z l (j : Int)) * ((2 ^ 145 : Nat) : Int))
theorem mem_rd {o : List C64} {x : C64} (h : x ∈ o) : ∃ j : Nat, j < o.length ∧ rdOf c64z o (j : Int) = x := by
  obtain ⟨j, hj, e⟩ := List.mem_iff_getElem.1 h
  refine ⟨j, hj, ?_⟩
  rw [rdOf_nat, List.getD_eq_getElem?_getD, List.getElem?_eq_getElem hj]
  exact e
theorem same_pow (l o : List C64) (hl : ∀ x ∈ l, Fi x) (ho : o.length = l.length) (h : Same l o) : (∀ x ∈ o, Fi x) ∧ sumP o = sumP l := by
  have hF : ∀ j : Nat, j < l.length → IsF (rdOf c64z o (j : Int)) (fr (rdOf c64z l (j : Int))) (fi (rdOf c64z l (j : Int))) := fun j hj => by
    obtain ⟨-, -, a3, a4⟩ := fri (hl _ (rdOf_mem l j hj))
    exact ⟨(h j hj).1, (h j hj).2, a3, a4⟩
  have hFi : ∀ x ∈ o, Fi x := fun x hx => by
    obtain ⟨j, hj, rfl⟩ := mem_rd hx
    exact ⟨_, _, hF j (by omega)⟩
  refine ⟨hFi, ?_⟩
  rw [sumP_all o hFi, sumP_all l hl, ho]
  have congr : ∀ (f g : Nat → Int) (n : Nat), (∀ j, j < n → f j = g j) → sumTo f n = sumTo g n := fun f g n => by
    induction n with
    | zero => intro _; rfl
    | succ n ih =>
      intro hh
      rw [sumTo, sumTo, ih (fun j hj => hh j (by omega)), hh n (by omega)]
  refine congr _ _ _ (fun j hj => ?_)
  obtain ⟨e1, e2⟩ := fri_unique (hF j hj)
  rw [e1, e2]
section
variable (l s : List C64) (hl : ∀ x ∈ l, Fi x) (hs : ∀ x ∈ s, Fi x) (hls : l.length = s.length) (h1 : 1 ≤ l.length) (hn : l.length ≤ 5) {st t : Nat} (hst : IsV .f32 st ((t : Int) * ((2 ^ 146 : Nat) : Int))) (ht : t ≤ 8) {d e : C64} (hd : Fi d)
  (he1 : IsV .f32 e.re (eR l s d * ((2 ^ 141 : Nat) : Int))) (he2 : IsV .f32 e.im (eI l s d * ((2 ^ 141 : Nat) : Int))) {B Bv : Nat} (hB : IsV .f32 B (Bv : Int))
include hl hs hls h1 hn hst ht hd he1 he2
theorem l0_some (o : List C64) (t2 t3 : Nat) (ho : o.length = l.length) (h : Same l o) : ∀ (m i : Nat), i + m = l.length → Ends (fun k => laws_FnBoundedSteps.l0 k l s d e (i : Int) l st B o t2 t3) T1 := by
  intro m
  induction m with
  | zero =>
    intro i hi
    refine Ends.step (fun k => ?_) (j3_some l s hl hs hls h1 hn hst ht hd B he1 he2)
    show laws_FnBoundedSteps.l0 (k + 1) _ _ _ _ _ _ _ _ _ _ _ = _
    rw [laws_FnBoundedSteps.l0, if_neg (by omega)]
  | succ m ih =>
    intro i hi
    obtain ⟨g1, g2⟩ := h i (by omega)
    obtain ⟨f1, f2, -, -⟩ := fri (hl _ (rdOf_mem l i (by omega)))
    refine Ends.step (fun k => ?_) (ih (i + 1) (by omega))
    show laws_FnBoundedSteps.l0 (k + 1) _ _ _ _ _ _ _ _ _ _ _ = laws_FnBoundedSteps.l0 k _ _ _ _ _ _ _ _ _ _ _
    rw [laws_FnBoundedSteps.l0, if_pos (by omega), if_pos (by omega), if_pos (by omega), if_pos (by rw [(order_same g1 f1).1, (order_same g2 f2).1]; rfl), w64 (by omega) (by omega), Int.natCast_add i 1]
    rfl
include hB in
theorem j1_some (o : List C64) (t2 t3 be : Nat) {bv : Int} (hbe : IsV .f32 be bv) (ho : o.length = l.length) (h : bv ≤ (Bv : Int) → Same l o) : Ends (fun k => laws_FnBoundedSteps.j1 k l s d e be false l st B o t2 t3) T1 := by
  by_cases hc : bv ≤ (Bv : Int)
  · refine Ends.step (fun k => ?_) (l0_some (B := B) l s hl hs hls h1 hn hst ht hd he1 he2 o t2 t3 ho (h hc) l.length 0 (by omega))
    show laws_FnBoundedSteps.j1 (k + 1) _ _ _ _ _ _ _ _ _ _ _ _ = _
    have hle : (FloatKind.f32.format.order be B == some .lt || FloatKind.f32.format.order be B == some .eq) = true := by
      rw [order_V hbe hB]
      rcases Int.lt_or_eq_of_le hc with hlt | heq
      · rw [Int.compare_eq_lt.2 hlt]; rfl
      · rw [Int.compare_eq_eq.2 heq]; rfl
    rw [laws_FnBoundedSteps.j1, if_neg (by decide), if_pos hle]
    rfl
  · refine Ends.step (fun k => ?_) (j3_some l s hl hs hls h1 hn hst ht hd B he1 he2)
    show laws_FnBoundedSteps.j1 (k + 1) _ _ _ _ _ _ _ _ _ _ _ _ = _
    have hle : (FloatKind.f32.format.order be B == some .lt || FloatKind.f32.format.order be B == some .eq) = false := by
      rw [order_V hbe hB, Int.compare_eq_gt.2 (by omega)]
      rfl
    rw [laws_FnBoundedSteps.j1, if_neg (by decide), if_neg (by rw [hle]; decide)]
end
/-- What a step towards its own output leaves. -/
def Still (l : List C64) (bv : Int) (Bv : Nat) (r : List C64 × Nat × Nat × C64) : Prop := r.1.length = l.length ∧ IsV .f32 r.2.2.2.re 0 ∧ IsV .f32 r.2.2.2.im 0 ∧ (bv ≤ (Bv : Int) → Same l r.1)
theorem still_some (l s : List C64) (hl : ∀ x ∈ l, Fi x) (hs : ∀ x ∈ s, Fi x) (hls : l.length = s.length) (hn : l.length ≤ 5) {st t : Nat} (hst : IsV .f32 st ((t : Int) * ((2 ^ 146 : Nat) : Int))) (ht : t ≤ 8) {x : C64} (hx1 : IsV .f32 x.re (xr l s l.length * ((2 ^ 141 : Nat) : Int))) (hx2 : IsV .f32 x.im (xi l s l.length * ((2 ^ 141 : Nat) : Int)))
    {B Bv : Nat} (hB : IsV .f32 B (Bv : Int)) (hB1 : 2 ^ 148 ≤ Bv) : Ends (fun k => impl_stepped.f k l st B s x) (Still l (sumP l * ((2 ^ 141 : Nat) : Int)) Bv) := by
  have z1 : xr l s l.length - xr l s l.length = 0 := by omega
  have z2 : xi l s l.length - xi l s l.length = 0 := by omega
  refine step_some l s hl hs hls hn hst ht B x hx1 hx2 (by rw [z1]; exact Nat.zero_le _) (by rw [z2]; exact Nat.zero_le _) _ (fun e o C D G N L hSh ie1 ie2 ho hR => ?_)
  obtain ⟨c0, d0⟩ := hSh.none z1 z2
  rw [z1, Int.zero_mul] at ie1
  rw [z2, Int.zero_mul] at ie2
  obtain ⟨P, Q, hPQ⟩ := pick2 hR
  have hsame : Same l o := fun j hj => by
    obtain ⟨n1, n2, -, -, -, -, n7⟩ := hPQ j hj
    obtain ⟨p1, p2⟩ := n7 c0 d0
    rw [p1] at n1
    rw [p2] at n2
    exact ⟨n1, n2⟩
  by_cases hc : sumP l * ((2 ^ 141 : Nat) : Int) ≤ (Bv : Int)
  · obtain ⟨hF, hsum⟩ := same_pow l o hl ho hsame
    refine (tail_same o st B hB e ((powers_some o hF (by omega)).imp (fun r hr => ⟨hr.1, _, hr.2, by rw [hsum]; exact hc⟩))).imp (fun r hr => ?_)
    subst hr
    exact ⟨ho, ie1, ie2, fun _ => hsame⟩
  · have hL : L ≤ 2 ^ 156 := by
      have := hSh.long
      rw [this, z1, z2]
      exact Nat.le_trans (by rw [show (0 : Int).natAbs + (0 : Int).natAbs = 0 from rfl, Nat.zero_mul, Nat.add_zero]; exact Nat.le_refl (2 ^ 149)) (Nat.pow_le_pow_right (by decide) (by decide))
    refine (tail_some o (by omega) P Q (fun j hj => by
      obtain ⟨n1, n2, n3, n4, -⟩ := hPQ j (by omega)
      exact ⟨n1, n2, p_158 n3 hL, p_158 n4 hL⟩) st B Bv hB hB1 e).imp (fun r hr => ?_)
    obtain ⟨r1, r2, -⟩ := hr
    refine ⟨r2.trans ho, ?_, ?_, fun h => absurd h hc⟩
    · rw [r1]; exact ie1
    · rw [r1]; exact ie2
theorem j0_some (l s : List C64) (hl : ∀ x ∈ l, Fi x) (hs : ∀ x ∈ s, Fi x) (hls : l.length = s.length) (h1 : 1 ≤ l.length) (hn : l.length ≤ 5) {st t : Nat} (hst : IsV .f32 st ((t : Int) * ((2 ^ 146 : Nat) : Int))) (ht : t ≤ 8) {d e : C64} (hd : Fi d)
    (he1 : IsV .f32 e.re (eR l s d * ((2 ^ 141 : Nat) : Int))) (he2 : IsV .f32 e.im (eI l s d * ((2 ^ 141 : Nat) : Int))) {B Bv : Nat} (hB : IsV .f32 B (Bv : Int)) (hB1 : 2 ^ 148 ≤ Bv) {x : C64} (hx1 : IsV .f32 x.re (xr l s l.length * ((2 ^ 141 : Nat) : Int))) (hx2 : IsV .f32 x.im (xi l s l.length * ((2 ^ 141 : Nat) : Int))) :
    Ends (fun k => laws_FnBoundedSteps.j0 k l s d e x false l st B) T1 := by
  have hB0 : 0 < Bv := Nat.lt_of_lt_of_le (Nat.two_pow_pos 148) hB1
  refine Ends.step (h := fun k => (impl_PowersOf.f k l).bind fun bt231 => ((impl_StepAdapter.f k l st B s x).bind fun bt233 => (if bt231.2 = true then (if bt233.2.2.2.2 = true then (if ((FloatKind.f32.format.order bt233.2.2.2.1.re 0 == some .eq) && (FloatKind.f32.format.order bt233.2.2.2.1.im 0 == some .eq)) = true then (laws_FnBoundedSteps.j1 k l s d e bt231.1 ((bt233.1.length : Int) != (l.length : Int)) l st B bt233.1 bt233.2.1 bt233.2.2.1) else (none)) else (none)) else (none)))) (fun k => ?_) ?_
  · show laws_FnBoundedSteps.j0 (k + 1) _ _ _ _ _ _ _ _ _ = _
    rw [laws_FnBoundedSteps.j0, if_neg (by decide)]
  refine Ends.bind (f := fun k (bt231 : Nat × Bool) => ((impl_StepAdapter.f k l st B s x).bind fun bt233 => (if bt231.2 = true then (if bt233.2.2.2.2 = true then (if ((FloatKind.f32.format.order bt233.2.2.2.1.re 0 == some .eq) && (FloatKind.f32.format.order bt233.2.2.2.1.im 0 == some .eq)) = true then (laws_FnBoundedSteps.j1 k l s d e bt231.1 ((bt233.1.length : Int) != (l.length : Int)) l st B bt233.1 bt233.2.1 bt233.2.2.1) else (none)) else (none)) else (none)))) (powers_some l hl (by omega)) (fun b hb => ?_)
  obtain ⟨b1, b2⟩ := hb
  refine Ends.bind (f := fun k (bt233 : List C64 × Nat × Nat × C64 × Bool) => (if b.2 = true then (if bt233.2.2.2.2 = true then (if ((FloatKind.f32.format.order bt233.2.2.2.1.re 0 == some .eq) && (FloatKind.f32.format.order bt233.2.2.2.1.im 0 == some .eq)) = true then (laws_FnBoundedSteps.j1 k l s d e b.1 ((bt233.1.length : Int) != (l.length : Int)) l st B bt233.1 bt233.2.1 bt233.2.2.1) else (none)) else (none)) else (none))) (adapter_step l s hls h1 (by omega) st hB hB0 x (still_some l s hl hs hls hn hst ht hx1 hx2 hB hB1)) (fun r hr => ?_)
  obtain ⟨⟨r1, r2, r3, r4⟩, r5⟩ := hr
  have r1' : r.1.length = l.length := r1
  refine Ends.congr (fun k => ?_) (j1_some l s hl hs hls h1 hn hst ht hd he1 he2 hB r.1 r.2.1 r.2.2.1 b.1 b2 r1 r4)
  rw [if_pos b1, if_pos r5, if_pos (by rw [(order_same r2 nought_32).1, (order_same r3 nought_32).1]; rfl), r1']
  simp
/-- What the first step leaves. -/
def First (l s : List C64) (d : C64) (st B Bv : Nat) (r : List C64 × Nat × Nat × C64) : Prop := r.1.length = l.length ∧ r.2.1 = st ∧ r.2.2.1 = B ∧ IsV .f32 r.2.2.2.re (eR l s d * ((2 ^ 141 : Nat) : Int)) ∧ IsV .f32 r.2.2.2.im (eI l s d * ((2 ^ 141 : Nat) : Int)) ∧
  Ends (fun k => impl_PowersOf.f k r.1) (fun z => z.2 = true ∧ ∃ p : Int, IsV .f32 z.1 p ∧ -1 ≤ p ∧ 16384 * p ≤ 16385 * (Bv : Int))
theorem first_some (l s : List C64) (hl : ∀ x ∈ l, Fi x) (hs : ∀ x ∈ s, Fi x) (hls : l.length = s.length) (hn : l.length ≤ 5) {st t : Nat} (hst : IsV .f32 st ((t : Int) * ((2 ^ 146 : Nat) : Int))) (ht : t ≤ 8) {d : C64} (hd : Fi d)
    {B Bv : Nat} (hB : IsV .f32 B (Bv : Int)) (hB1 : 2 ^ 148 ≤ Bv) : Ends (fun k => impl_stepped.f k l st B s d) (First l s d st B Bv) := by
  obtain ⟨w1, w2⟩ := d_256 hd
  obtain ⟨b1, b2⟩ := e_le l s hl hs hls hn hd
  have big : ∀ {n : Nat}, n ≤ 10752 → n ≤ 2 ^ 14 := fun h => Nat.le_trans h (by decide)
  obtain ⟨-, l2⟩ := long_le b1 b2
  refine step_some l s hl hs hls hn hst ht B d w1 w2 (big b1) (big b2) _ (fun e o C D G N L hSh ie1 ie2 ho hR => ?_)
  obtain ⟨P, Q, hPQ⟩ := pick2 hR
  have hLe : L = 2 ^ 149 + ((eR l s d).natAbs + (eI l s d).natAbs) * 2 ^ 141 := hSh.long
  rw [← hLe] at l2
  refine (tail_some o (by omega) P Q (fun j hj => by
    obtain ⟨n1, n2, n3, n4, -⟩ := hPQ j (by omega)
    exact ⟨n1, n2, p_158 n3 l2, p_158 n4 l2⟩) st B Bv hB hB1 e).imp (fun r hr => ?_)
  obtain ⟨r1, r2, r3⟩ := hr
  refine ⟨r2.trans ho, by rw [r1], by rw [r1], ?_, ?_, r3⟩
  · rw [r1]; exact ie1
  · rw [r1]; exact ie2
theorem core_some (l s : List C64) (hl : ∀ x ∈ l, Fi x) (hs : ∀ x ∈ s, Fi x) (hls : l.length = s.length) (h1 : 1 ≤ l.length) (hn : l.length ≤ 5) {st t : Nat} (hst : IsV .f32 st ((t : Int) * ((2 ^ 146 : Nat) : Int))) (ht : t ≤ 8) {d : C64} (hd : Fi d)
    {B Bv : Nat} (hB : IsV .f32 B (Bv : Int)) (hB1 : 2 ^ 148 ≤ Bv) (hB2 : Bv ≤ 2 ^ 160) : Ends (fun k => (impl_StepAdapter.f k l st B s d).bind fun bt217 => ((impl_OutputOf.f k l st B s).bind fun bt225 => ((impl_PowersOf.f k bt217.1).bind fun bt227 => (if bt217.2.2.2.2 = true then (if bt225.2 = true then (if bt227.2 = true then ((impl_ValidAdapter.f l st B).bind fun t229 => (if t229 = true then ((impl_ValidAdapter.f bt217.1 bt217.2.1 bt217.2.2.1).bind fun t230 => (if t230 = true then (if FOk .sub .f32 (d.re) bt225.1.re = true then (if FOk .sub .f32 (d.im) bt225.1.im = true then (if ((FloatKind.f32.format.order bt217.2.2.2.1.re (fq .sub .f32 (d.re) bt225.1.re) == some .eq) && (FloatKind.f32.format.order bt217.2.2.2.1.im (fq .sub .f32 (d.im) bt225.1.im) == some .eq)) = true then (if FC 34 37 .f32 .f64 bt227.1 = true then (if FC 34 37 .f32 .f64 B = true then (if FOk .mul .f64 4607186922399644778 (fc .f32 .f64 B) = true then (if (FloatKind.f64.format.order (fc .f32 .f64 bt227.1) (fq .mul .f64 4607186922399644778 (fc .f32 .f64 B)) == some .gt) = true then (none) else (if (FloatKind.f32.format.order bt217.2.1 st != some .eq) = true then (none) else (laws_FnBoundedSteps.j0 k l s d bt217.2.2.2.1 bt225.1 (FloatKind.f32.format.order bt217.2.2.1 B != some .eq) l st B))) else (none)) else (none)) else (none)) else (none)) else (none)) else (none)) else (none))) else (none))) else (none)) else (none)) else (none))))) T1 := by
  have hB0 : 0 < Bv := Nat.lt_of_lt_of_le (Nat.two_pow_pos 148) hB1
  refine Ends.bind (f := fun k (bt217 : List C64 × Nat × Nat × C64 × Bool) => ((impl_OutputOf.f k l st B s).bind fun bt225 => ((impl_PowersOf.f k bt217.1).bind fun bt227 => (if bt217.2.2.2.2 = true then (if bt225.2 = true then (if bt227.2 = true then ((impl_ValidAdapter.f l st B).bind fun t229 => (if t229 = true then ((impl_ValidAdapter.f bt217.1 bt217.2.1 bt217.2.2.1).bind fun t230 => (if t230 = true then (if FOk .sub .f32 (d.re) bt225.1.re = true then (if FOk .sub .f32 (d.im) bt225.1.im = true then (if ((FloatKind.f32.format.order bt217.2.2.2.1.re (fq .sub .f32 (d.re) bt225.1.re) == some .eq) && (FloatKind.f32.format.order bt217.2.2.2.1.im (fq .sub .f32 (d.im) bt225.1.im) == some .eq)) = true then (if FC 34 37 .f32 .f64 bt227.1 = true then (if FC 34 37 .f32 .f64 B = true then (if FOk .mul .f64 4607186922399644778 (fc .f32 .f64 B) = true then (if (FloatKind.f64.format.order (fc .f32 .f64 bt227.1) (fq .mul .f64 4607186922399644778 (fc .f32 .f64 B)) == some .gt) = true then (none) else (if (FloatKind.f32.format.order bt217.2.1 st != some .eq) = true then (none) else (laws_FnBoundedSteps.j0 k l s d bt217.2.2.2.1 bt225.1 (FloatKind.f32.format.order bt217.2.2.1 B != some .eq) l st B))) else (none)) else (none)) else (none)) else (none)) else (none)) else (none)) else (none))) else (none))) else (none)) else (none)) else (none))))) (adapter_step l s hls h1 (by omega) st hB hB0 d (first_some l s hl hs hls hn hst ht hd hB hB1)) (fun r hr => ?_)
  obtain ⟨⟨r1, r2, r3, r4, r5, r6⟩, r7⟩ := hr
  have r1' : r.1.length = l.length := r1
  have r2' : r.2.1 = st := r2
  have r3' : r.2.2.1 = B := r3
  refine Ends.bind (f := fun k (bt225 : C64 × Bool) => ((impl_PowersOf.f k r.1).bind fun bt227 => (if r.2.2.2.2 = true then (if bt225.2 = true then (if bt227.2 = true then ((impl_ValidAdapter.f l st B).bind fun t229 => (if t229 = true then ((impl_ValidAdapter.f r.1 r.2.1 r.2.2.1).bind fun t230 => (if t230 = true then (if FOk .sub .f32 (d.re) bt225.1.re = true then (if FOk .sub .f32 (d.im) bt225.1.im = true then (if ((FloatKind.f32.format.order r.2.2.2.1.re (fq .sub .f32 (d.re) bt225.1.re) == some .eq) && (FloatKind.f32.format.order r.2.2.2.1.im (fq .sub .f32 (d.im) bt225.1.im) == some .eq)) = true then (if FC 34 37 .f32 .f64 bt227.1 = true then (if FC 34 37 .f32 .f64 B = true then (if FOk .mul .f64 4607186922399644778 (fc .f32 .f64 B) = true then (if (FloatKind.f64.format.order (fc .f32 .f64 bt227.1) (fq .mul .f64 4607186922399644778 (fc .f32 .f64 B)) == some .gt) = true then (none) else (if (FloatKind.f32.format.order r.2.1 st != some .eq) = true then (none) else (laws_FnBoundedSteps.j0 k l s d r.2.2.2.1 bt225.1 (FloatKind.f32.format.order r.2.2.1 B != some .eq) l st B))) else (none)) else (none)) else (none)) else (none)) else (none)) else (none)) else (none))) else (none))) else (none)) else (none)) else (none)))) (adapter_out l s hls h1 (by omega) st hB hB0 (out_exact l s hl hs hls (by omega) st B)) (fun x hx => ?_)
  obtain ⟨⟨x1, x2⟩, x3⟩ := hx
  refine Ends.bind (f := fun k (bt227 : Nat × Bool) => (if r.2.2.2.2 = true then (if x.2 = true then (if bt227.2 = true then ((impl_ValidAdapter.f l st B).bind fun t229 => (if t229 = true then ((impl_ValidAdapter.f r.1 r.2.1 r.2.2.1).bind fun t230 => (if t230 = true then (if FOk .sub .f32 (d.re) x.1.re = true then (if FOk .sub .f32 (d.im) x.1.im = true then (if ((FloatKind.f32.format.order r.2.2.2.1.re (fq .sub .f32 (d.re) x.1.re) == some .eq) && (FloatKind.f32.format.order r.2.2.2.1.im (fq .sub .f32 (d.im) x.1.im) == some .eq)) = true then (if FC 34 37 .f32 .f64 bt227.1 = true then (if FC 34 37 .f32 .f64 B = true then (if FOk .mul .f64 4607186922399644778 (fc .f32 .f64 B) = true then (if (FloatKind.f64.format.order (fc .f32 .f64 bt227.1) (fq .mul .f64 4607186922399644778 (fc .f32 .f64 B)) == some .gt) = true then (none) else (if (FloatKind.f32.format.order r.2.1 st != some .eq) = true then (none) else (laws_FnBoundedSteps.j0 k l s d r.2.2.2.1 x.1 (FloatKind.f32.format.order r.2.2.1 B != some .eq) l st B))) else (none)) else (none)) else (none)) else (none)) else (none)) else (none)) else (none))) else (none))) else (none)) else (none)) else (none))) r6 (fun p hp => ?_)
  obtain ⟨p1, q, p2, p3, p4⟩ := hp
  obtain ⟨w1, w2⟩ := d_256 hd
  obtain ⟨b1, b2⟩ := e_le l s hl hs hls hn hd
  have lt : ∀ {n : Nat}, n ≤ 10752 → n < 2 ^ (FF .f32 + 1) := fun h => Nat.lt_of_le_of_lt h (by decide)
  obtain ⟨u, eu, iu⟩ := sub_T (by decide) (by decide) w1 x1 (lt b1)
  obtain ⟨v, ev, iv⟩ := sub_T (by decide) (by decide) w2 x2 (lt b2)
  obtain ⟨o1, f1⟩ := fok_some eu
  obtain ⟨o2, f2⟩ := fok_some ev
  obtain ⟨c1, c2, c3, c4⟩ := bound_cmp p2 p3 p4 hB hB2
  have v1 := valid_some l h1 (by omega) st hB hB0
  have v2 := valid_some r.1 (by omega) (by omega) r.2.1 (B := r.2.2.1) (by rw [r3']; exact hB) hB0
  refine Ends.congr (fun k => ?_) (j0_some l s hl hs hls h1 hn hst ht hd r4 r5 hB hB1 x1 x2)
  rw [if_pos r7, if_pos x3, if_pos p1, v1]
  simp only [Option.bind_some]
  rw [if_pos trivial, v2]
  simp only [Option.bind_some]
  rw [if_pos trivial, if_pos o1, if_pos o2, f1, f2, if_pos (by rw [(order_same r4 iu).1, (order_same r5 iv).1]; rfl), if_pos c1, if_pos c2, if_pos c3, if_neg (by rw [c4]; decide), if_neg (by rw [r2', (order_same hst hst).2]; decide), r3', (order_same hB hB).2]
/-- A small whole number divided by a power of two, reckoned. -/
def okQ (den sh : Nat) (n : Int) : Bool := FOk .quo .f32 (floatOfInt .f32 n) den && (match FloatKind.f32.decode (fq .quo .f32 (floatOfInt .f32 n) den) with
  | .number s m e => decide (-149 ≤ e) && decide (sg s (m * 2 ^ (e + 149).toNat) = n * ((2 ^ sh : Nat) : Int)) && decide (m < 2 ^ 24)
  | _ => false)
def upTo (p : Int → Bool) : Nat → Int → Bool
  | 0, _ => true
  | k + 1, n => p n && upTo p k (n + 1)
theorem upTo_at {p : Int → Bool} : ∀ (k : Nat) (n m : Int), upTo p k n = true → n ≤ m → m < n + k → p m = true := by
  intro k
  induction k with
  | zero => intro n m _ h1 h2; omega
  | succ k ih =>
    intro n m h h1 h2
    simp only [upTo, Bool.and_eq_true] at h
    by_cases e : n = m
    · subst e; exact h.1
    · exact ih (n + 1) m h.2 (by omega) (by omega)
theorem okQ_some {den sh : Nat} {n : Int} (h : okQ den sh n = true) : FOk .quo .f32 (floatOfInt .f32 n) den = true ∧ IsV .f32 (fq .quo .f32 (floatOfInt .f32 n) den) (n * ((2 ^ sh : Nat) : Int)) := by
  unfold okQ at h
  rw [Bool.and_eq_true] at h
  refine ⟨h.1, ?_⟩
  have h2 := h.2
  generalize fq .quo .f32 (floatOfInt .f32 n) den = w at h2
  cases hd : FloatKind.f32.decode w with
  | number s m e =>
    rw [hd] at h2
    simp only [Bool.and_eq_true, decide_eq_true_eq] at h2
    obtain ⟨⟨g1, g2⟩, g3⟩ := h2
    refine ⟨s, m, (e + 149).toNat, ?_, g2, g3⟩
    rw [hd]
    congr 1
    show e = -((149 : Nat) : Int) + _
    omega
  | infinity s => rw [hd] at h2; cases h2
  | nan s t => rw [hd] at h2; cases h2
theorem steps_all : upTo (okQ 1090519040 146) 9 0 = true := by decide +kernel
theorem bounds_all : upTo (okQ 1073741824 148) 40 1 = true := by decide +kernel
theorem bound_V {w u : Nat} (h : IsV .f32 w ((1 + (u : Int)) * ((2 ^ 148 : Nat) : Int))) : IsV .f32 w (((1 + u) * 2 ^ 148 : Nat) : Int) := by
  obtain ⟨x, hx⟩ := ex_eq (2 ^ 148)
  rw [hx] at h ⊢
  rw [Int.natCast_mul, Int.natCast_add]
  exact h
/-- The law out of what it calls. -/
theorem law_steps (l0 l1 rest : List Int) (v a c N : Int) (P1 P2 P3 : List C64 → Prop) (hb : laws_r8Long.f l0 l1 = some false) (ev : laws_r8At.f l1 40 5 = some v) (hN : wrap64 (1 + v) = N) (em : laws_r8Rest.f l1 = some rest) (ea : laws_r8At.f l1 41 9 = some a) (ec : laws_r8At.f l1 42 40 = some c)
    (so : FOk .quo .f32 (floatOfInt .f32 a) 1090519040 = true) (bo : FOk .quo .f32 (floatOfInt .f32 (wrap64 (1 + c))) 1073741824 = true) (f1 : Ends (fun k => spec_R8Fine.f k l0 N) P1) (f2 : Ends (fun k => spec_R8Fine.f k l1 N) P2) (f3 : Ends (fun k => spec_R8Fine.f k rest 1) P3) (h3 : ∀ w, P3 w → 0 < (w.length : Int))
    (core : ∀ l s w, P1 l → P2 s → P3 w → Ends (fun k => (impl_StepAdapter.f k l (fq .quo .f32 (floatOfInt .f32 a) 1090519040) (fq .quo .f32 (floatOfInt .f32 (wrap64 (1 + c))) 1073741824) s (rdOf c64z w 0)).bind fun bt217 => ((impl_OutputOf.f k l (fq .quo .f32 (floatOfInt .f32 a) 1090519040) (fq .quo .f32 (floatOfInt .f32 (wrap64 (1 + c))) 1073741824) s).bind fun bt225 => ((impl_PowersOf.f k bt217.1).bind fun bt227 => (if bt217.2.2.2.2 = true then (if bt225.2 = true then (if bt227.2 = true then ((impl_ValidAdapter.f l (fq .quo .f32 (floatOfInt .f32 a) 1090519040) (fq .quo .f32 (floatOfInt .f32 (wrap64 (1 + c))) 1073741824)).bind fun t229 => (if t229 = true then ((impl_ValidAdapter.f bt217.1 bt217.2.1 bt217.2.2.1).bind fun t230 => (if t230 = true then (if FOk .sub .f32 ((rdOf c64z w 0).re) bt225.1.re = true then (if FOk .sub .f32 ((rdOf c64z w 0).im) bt225.1.im = true then (if ((FloatKind.f32.format.order bt217.2.2.2.1.re (fq .sub .f32 ((rdOf c64z w 0).re) bt225.1.re) == some .eq) && (FloatKind.f32.format.order bt217.2.2.2.1.im (fq .sub .f32 ((rdOf c64z w 0).im) bt225.1.im) == some .eq)) = true then (if FC 34 37 .f32 .f64 bt227.1 = true then (if FC 34 37 .f32 .f64 (fq .quo .f32 (floatOfInt .f32 (wrap64 (1 + c))) 1073741824) = true then (if FOk .mul .f64 4607186922399644778 (fc .f32 .f64 (fq .quo .f32 (floatOfInt .f32 (wrap64 (1 + c))) 1073741824)) = true then (if (FloatKind.f64.format.order (fc .f32 .f64 bt227.1) (fq .mul .f64 4607186922399644778 (fc .f32 .f64 (fq .quo .f32 (floatOfInt .f32 (wrap64 (1 + c))) 1073741824))) == some .gt) = true then (none) else (if (FloatKind.f32.format.order bt217.2.1 (fq .quo .f32 (floatOfInt .f32 a) 1090519040) != some .eq) = true then (none) else (laws_FnBoundedSteps.j0 k l s (rdOf c64z w 0) bt217.2.2.2.1 bt225.1 (FloatKind.f32.format.order bt217.2.2.1 (fq .quo .f32 (floatOfInt .f32 (wrap64 (1 + c))) 1073741824) != some .eq) l (fq .quo .f32 (floatOfInt .f32 a) 1090519040) (fq .quo .f32 (floatOfInt .f32 (wrap64 (1 + c))) 1073741824)))) else (none)) else (none)) else (none)) else (none)) else (none)) else (none)) else (none))) else (none))) else (none)) else (none)) else (none))))) T1) : Ends (fun k => laws_FnBoundedSteps.f k l0 l1) T1 := by
  refine Ends.congr (h := fun k => (spec_R8Fine.f k l0 N).bind fun t201 => ((spec_R8Fine.f k l1 N).bind fun t204 => ((laws_r8Rest.f l1).bind fun t207 => ((spec_R8Fine.f k t207 1).bind fun t210 => (if 0 < (t210.length : Int) then ((laws_r8At.f l1 41 9).bind fun t214 => (if FOk .quo .f32 (floatOfInt .f32 t214) 1090519040 = true then ((laws_r8At.f l1 42 40).bind fun t215 => (if FOk .quo .f32 (floatOfInt .f32 (wrap64 (1 + t215))) 1073741824 = true then ((impl_StepAdapter.f k t201 (fq .quo .f32 (floatOfInt .f32 t214) 1090519040) (fq .quo .f32 (floatOfInt .f32 (wrap64 (1 + t215))) 1073741824) t204 (rdOf c64z t210 0)).bind fun bt217 => ((impl_OutputOf.f k t201 (fq .quo .f32 (floatOfInt .f32 t214) 1090519040) (fq .quo .f32 (floatOfInt .f32 (wrap64 (1 + t215))) 1073741824) t204).bind fun bt225 => ((impl_PowersOf.f k bt217.1).bind fun bt227 => (if bt217.2.2.2.2 = true then (if bt225.2 = true then (if bt227.2 = true then ((impl_ValidAdapter.f t201 (fq .quo .f32 (floatOfInt .f32 t214) 1090519040) (fq .quo .f32 (floatOfInt .f32 (wrap64 (1 + t215))) 1073741824)).bind fun t229 => (if t229 = true then ((impl_ValidAdapter.f bt217.1 bt217.2.1 bt217.2.2.1).bind fun t230 => (if t230 = true then (if FOk .sub .f32 ((rdOf c64z t210 0).re) bt225.1.re = true then (if FOk .sub .f32 ((rdOf c64z t210 0).im) bt225.1.im = true then (if ((FloatKind.f32.format.order bt217.2.2.2.1.re (fq .sub .f32 ((rdOf c64z t210 0).re) bt225.1.re) == some .eq) && (FloatKind.f32.format.order bt217.2.2.2.1.im (fq .sub .f32 ((rdOf c64z t210 0).im) bt225.1.im) == some .eq)) = true then (if FC 34 37 .f32 .f64 bt227.1 = true then (if FC 34 37 .f32 .f64 (fq .quo .f32 (floatOfInt .f32 (wrap64 (1 + t215))) 1073741824) = true then (if FOk .mul .f64 4607186922399644778 (fc .f32 .f64 (fq .quo .f32 (floatOfInt .f32 (wrap64 (1 + t215))) 1073741824)) = true then (if (FloatKind.f64.format.order (fc .f32 .f64 bt227.1) (fq .mul .f64 4607186922399644778 (fc .f32 .f64 (fq .quo .f32 (floatOfInt .f32 (wrap64 (1 + t215))) 1073741824))) == some .gt) = true then (none) else (if (FloatKind.f32.format.order bt217.2.1 (fq .quo .f32 (floatOfInt .f32 t214) 1090519040) != some .eq) = true then (none) else (laws_FnBoundedSteps.j0 k t201 t204 (rdOf c64z t210 0) bt217.2.2.2.1 bt225.1 (FloatKind.f32.format.order bt217.2.2.1 (fq .quo .f32 (floatOfInt .f32 (wrap64 (1 + t215))) 1073741824) != some .eq) t201 (fq .quo .f32 (floatOfInt .f32 t214) 1090519040) (fq .quo .f32 (floatOfInt .f32 (wrap64 (1 + t215))) 1073741824)))) else (none)) else (none)) else (none)) else (none)) else (none)) else (none)) else (none))) else (none))) else (none)) else (none)) else (none))))) else (none))) else (none))) else (none)))))) (fun k => ?_) ?_
  · unfold laws_FnBoundedSteps.f
    rw [hb]
    simp only [Option.bind_some]
    rw [if_neg (by decide), ev]
    simp only [Option.bind_some]
    rw [hN]
  refine Ends.bind (f := fun k (t201 : List C64) => ((spec_R8Fine.f k l1 N).bind fun t204 => ((laws_r8Rest.f l1).bind fun t207 => ((spec_R8Fine.f k t207 1).bind fun t210 => (if 0 < (t210.length : Int) then ((laws_r8At.f l1 41 9).bind fun t214 => (if FOk .quo .f32 (floatOfInt .f32 t214) 1090519040 = true then ((laws_r8At.f l1 42 40).bind fun t215 => (if FOk .quo .f32 (floatOfInt .f32 (wrap64 (1 + t215))) 1073741824 = true then ((impl_StepAdapter.f k t201 (fq .quo .f32 (floatOfInt .f32 t214) 1090519040) (fq .quo .f32 (floatOfInt .f32 (wrap64 (1 + t215))) 1073741824) t204 (rdOf c64z t210 0)).bind fun bt217 => ((impl_OutputOf.f k t201 (fq .quo .f32 (floatOfInt .f32 t214) 1090519040) (fq .quo .f32 (floatOfInt .f32 (wrap64 (1 + t215))) 1073741824) t204).bind fun bt225 => ((impl_PowersOf.f k bt217.1).bind fun bt227 => (if bt217.2.2.2.2 = true then (if bt225.2 = true then (if bt227.2 = true then ((impl_ValidAdapter.f t201 (fq .quo .f32 (floatOfInt .f32 t214) 1090519040) (fq .quo .f32 (floatOfInt .f32 (wrap64 (1 + t215))) 1073741824)).bind fun t229 => (if t229 = true then ((impl_ValidAdapter.f bt217.1 bt217.2.1 bt217.2.2.1).bind fun t230 => (if t230 = true then (if FOk .sub .f32 ((rdOf c64z t210 0).re) bt225.1.re = true then (if FOk .sub .f32 ((rdOf c64z t210 0).im) bt225.1.im = true then (if ((FloatKind.f32.format.order bt217.2.2.2.1.re (fq .sub .f32 ((rdOf c64z t210 0).re) bt225.1.re) == some .eq) && (FloatKind.f32.format.order bt217.2.2.2.1.im (fq .sub .f32 ((rdOf c64z t210 0).im) bt225.1.im) == some .eq)) = true then (if FC 34 37 .f32 .f64 bt227.1 = true then (if FC 34 37 .f32 .f64 (fq .quo .f32 (floatOfInt .f32 (wrap64 (1 + t215))) 1073741824) = true then (if FOk .mul .f64 4607186922399644778 (fc .f32 .f64 (fq .quo .f32 (floatOfInt .f32 (wrap64 (1 + t215))) 1073741824)) = true then (if (FloatKind.f64.format.order (fc .f32 .f64 bt227.1) (fq .mul .f64 4607186922399644778 (fc .f32 .f64 (fq .quo .f32 (floatOfInt .f32 (wrap64 (1 + t215))) 1073741824))) == some .gt) = true then (none) else (if (FloatKind.f32.format.order bt217.2.1 (fq .quo .f32 (floatOfInt .f32 t214) 1090519040) != some .eq) = true then (none) else (laws_FnBoundedSteps.j0 k t201 t204 (rdOf c64z t210 0) bt217.2.2.2.1 bt225.1 (FloatKind.f32.format.order bt217.2.2.1 (fq .quo .f32 (floatOfInt .f32 (wrap64 (1 + t215))) 1073741824) != some .eq) t201 (fq .quo .f32 (floatOfInt .f32 t214) 1090519040) (fq .quo .f32 (floatOfInt .f32 (wrap64 (1 + t215))) 1073741824)))) else (none)) else (none)) else (none)) else (none)) else (none)) else (none)) else (none))) else (none))) else (none)) else (none)) else (none))))) else (none))) else (none))) else (none)))))) f1 (fun l hl => ?_)
  refine Ends.bind (f := fun k (t204 : List C64) => ((laws_r8Rest.f l1).bind fun t207 => ((spec_R8Fine.f k t207 1).bind fun t210 => (if 0 < (t210.length : Int) then ((laws_r8At.f l1 41 9).bind fun t214 => (if FOk .quo .f32 (floatOfInt .f32 t214) 1090519040 = true then ((laws_r8At.f l1 42 40).bind fun t215 => (if FOk .quo .f32 (floatOfInt .f32 (wrap64 (1 + t215))) 1073741824 = true then ((impl_StepAdapter.f k l (fq .quo .f32 (floatOfInt .f32 t214) 1090519040) (fq .quo .f32 (floatOfInt .f32 (wrap64 (1 + t215))) 1073741824) t204 (rdOf c64z t210 0)).bind fun bt217 => ((impl_OutputOf.f k l (fq .quo .f32 (floatOfInt .f32 t214) 1090519040) (fq .quo .f32 (floatOfInt .f32 (wrap64 (1 + t215))) 1073741824) t204).bind fun bt225 => ((impl_PowersOf.f k bt217.1).bind fun bt227 => (if bt217.2.2.2.2 = true then (if bt225.2 = true then (if bt227.2 = true then ((impl_ValidAdapter.f l (fq .quo .f32 (floatOfInt .f32 t214) 1090519040) (fq .quo .f32 (floatOfInt .f32 (wrap64 (1 + t215))) 1073741824)).bind fun t229 => (if t229 = true then ((impl_ValidAdapter.f bt217.1 bt217.2.1 bt217.2.2.1).bind fun t230 => (if t230 = true then (if FOk .sub .f32 ((rdOf c64z t210 0).re) bt225.1.re = true then (if FOk .sub .f32 ((rdOf c64z t210 0).im) bt225.1.im = true then (if ((FloatKind.f32.format.order bt217.2.2.2.1.re (fq .sub .f32 ((rdOf c64z t210 0).re) bt225.1.re) == some .eq) && (FloatKind.f32.format.order bt217.2.2.2.1.im (fq .sub .f32 ((rdOf c64z t210 0).im) bt225.1.im) == some .eq)) = true then (if FC 34 37 .f32 .f64 bt227.1 = true then (if FC 34 37 .f32 .f64 (fq .quo .f32 (floatOfInt .f32 (wrap64 (1 + t215))) 1073741824) = true then (if FOk .mul .f64 4607186922399644778 (fc .f32 .f64 (fq .quo .f32 (floatOfInt .f32 (wrap64 (1 + t215))) 1073741824)) = true then (if (FloatKind.f64.format.order (fc .f32 .f64 bt227.1) (fq .mul .f64 4607186922399644778 (fc .f32 .f64 (fq .quo .f32 (floatOfInt .f32 (wrap64 (1 + t215))) 1073741824))) == some .gt) = true then (none) else (if (FloatKind.f32.format.order bt217.2.1 (fq .quo .f32 (floatOfInt .f32 t214) 1090519040) != some .eq) = true then (none) else (laws_FnBoundedSteps.j0 k l t204 (rdOf c64z t210 0) bt217.2.2.2.1 bt225.1 (FloatKind.f32.format.order bt217.2.2.1 (fq .quo .f32 (floatOfInt .f32 (wrap64 (1 + t215))) 1073741824) != some .eq) l (fq .quo .f32 (floatOfInt .f32 t214) 1090519040) (fq .quo .f32 (floatOfInt .f32 (wrap64 (1 + t215))) 1073741824)))) else (none)) else (none)) else (none)) else (none)) else (none)) else (none)) else (none))) else (none))) else (none)) else (none)) else (none))))) else (none))) else (none))) else (none))))) f2 (fun s hs => ?_)
  refine Ends.congr (h := fun k => (spec_R8Fine.f k rest 1).bind fun t210 => (if 0 < (t210.length : Int) then ((laws_r8At.f l1 41 9).bind fun t214 => (if FOk .quo .f32 (floatOfInt .f32 t214) 1090519040 = true then ((laws_r8At.f l1 42 40).bind fun t215 => (if FOk .quo .f32 (floatOfInt .f32 (wrap64 (1 + t215))) 1073741824 = true then ((impl_StepAdapter.f k l (fq .quo .f32 (floatOfInt .f32 t214) 1090519040) (fq .quo .f32 (floatOfInt .f32 (wrap64 (1 + t215))) 1073741824) s (rdOf c64z t210 0)).bind fun bt217 => ((impl_OutputOf.f k l (fq .quo .f32 (floatOfInt .f32 t214) 1090519040) (fq .quo .f32 (floatOfInt .f32 (wrap64 (1 + t215))) 1073741824) s).bind fun bt225 => ((impl_PowersOf.f k bt217.1).bind fun bt227 => (if bt217.2.2.2.2 = true then (if bt225.2 = true then (if bt227.2 = true then ((impl_ValidAdapter.f l (fq .quo .f32 (floatOfInt .f32 t214) 1090519040) (fq .quo .f32 (floatOfInt .f32 (wrap64 (1 + t215))) 1073741824)).bind fun t229 => (if t229 = true then ((impl_ValidAdapter.f bt217.1 bt217.2.1 bt217.2.2.1).bind fun t230 => (if t230 = true then (if FOk .sub .f32 ((rdOf c64z t210 0).re) bt225.1.re = true then (if FOk .sub .f32 ((rdOf c64z t210 0).im) bt225.1.im = true then (if ((FloatKind.f32.format.order bt217.2.2.2.1.re (fq .sub .f32 ((rdOf c64z t210 0).re) bt225.1.re) == some .eq) && (FloatKind.f32.format.order bt217.2.2.2.1.im (fq .sub .f32 ((rdOf c64z t210 0).im) bt225.1.im) == some .eq)) = true then (if FC 34 37 .f32 .f64 bt227.1 = true then (if FC 34 37 .f32 .f64 (fq .quo .f32 (floatOfInt .f32 (wrap64 (1 + t215))) 1073741824) = true then (if FOk .mul .f64 4607186922399644778 (fc .f32 .f64 (fq .quo .f32 (floatOfInt .f32 (wrap64 (1 + t215))) 1073741824)) = true then (if (FloatKind.f64.format.order (fc .f32 .f64 bt227.1) (fq .mul .f64 4607186922399644778 (fc .f32 .f64 (fq .quo .f32 (floatOfInt .f32 (wrap64 (1 + t215))) 1073741824))) == some .gt) = true then (none) else (if (FloatKind.f32.format.order bt217.2.1 (fq .quo .f32 (floatOfInt .f32 t214) 1090519040) != some .eq) = true then (none) else (laws_FnBoundedSteps.j0 k l s (rdOf c64z t210 0) bt217.2.2.2.1 bt225.1 (FloatKind.f32.format.order bt217.2.2.1 (fq .quo .f32 (floatOfInt .f32 (wrap64 (1 + t215))) 1073741824) != some .eq) l (fq .quo .f32 (floatOfInt .f32 t214) 1090519040) (fq .quo .f32 (floatOfInt .f32 (wrap64 (1 + t215))) 1073741824)))) else (none)) else (none)) else (none)) else (none)) else (none)) else (none)) else (none))) else (none))) else (none)) else (none)) else (none))))) else (none))) else (none))) else (none))) (fun k => ?_) ?_
  · rw [em]
    simp only [Option.bind_some]
  refine Ends.bind (f := fun k (t210 : List C64) => (if 0 < (t210.length : Int) then ((laws_r8At.f l1 41 9).bind fun t214 => (if FOk .quo .f32 (floatOfInt .f32 t214) 1090519040 = true then ((laws_r8At.f l1 42 40).bind fun t215 => (if FOk .quo .f32 (floatOfInt .f32 (wrap64 (1 + t215))) 1073741824 = true then ((impl_StepAdapter.f k l (fq .quo .f32 (floatOfInt .f32 t214) 1090519040) (fq .quo .f32 (floatOfInt .f32 (wrap64 (1 + t215))) 1073741824) s (rdOf c64z t210 0)).bind fun bt217 => ((impl_OutputOf.f k l (fq .quo .f32 (floatOfInt .f32 t214) 1090519040) (fq .quo .f32 (floatOfInt .f32 (wrap64 (1 + t215))) 1073741824) s).bind fun bt225 => ((impl_PowersOf.f k bt217.1).bind fun bt227 => (if bt217.2.2.2.2 = true then (if bt225.2 = true then (if bt227.2 = true then ((impl_ValidAdapter.f l (fq .quo .f32 (floatOfInt .f32 t214) 1090519040) (fq .quo .f32 (floatOfInt .f32 (wrap64 (1 + t215))) 1073741824)).bind fun t229 => (if t229 = true then ((impl_ValidAdapter.f bt217.1 bt217.2.1 bt217.2.2.1).bind fun t230 => (if t230 = true then (if FOk .sub .f32 ((rdOf c64z t210 0).re) bt225.1.re = true then (if FOk .sub .f32 ((rdOf c64z t210 0).im) bt225.1.im = true then (if ((FloatKind.f32.format.order bt217.2.2.2.1.re (fq .sub .f32 ((rdOf c64z t210 0).re) bt225.1.re) == some .eq) && (FloatKind.f32.format.order bt217.2.2.2.1.im (fq .sub .f32 ((rdOf c64z t210 0).im) bt225.1.im) == some .eq)) = true then (if FC 34 37 .f32 .f64 bt227.1 = true then (if FC 34 37 .f32 .f64 (fq .quo .f32 (floatOfInt .f32 (wrap64 (1 + t215))) 1073741824) = true then (if FOk .mul .f64 4607186922399644778 (fc .f32 .f64 (fq .quo .f32 (floatOfInt .f32 (wrap64 (1 + t215))) 1073741824)) = true then (if (FloatKind.f64.format.order (fc .f32 .f64 bt227.1) (fq .mul .f64 4607186922399644778 (fc .f32 .f64 (fq .quo .f32 (floatOfInt .f32 (wrap64 (1 + t215))) 1073741824))) == some .gt) = true then (none) else (if (FloatKind.f32.format.order bt217.2.1 (fq .quo .f32 (floatOfInt .f32 t214) 1090519040) != some .eq) = true then (none) else (laws_FnBoundedSteps.j0 k l s (rdOf c64z t210 0) bt217.2.2.2.1 bt225.1 (FloatKind.f32.format.order bt217.2.2.1 (fq .quo .f32 (floatOfInt .f32 (wrap64 (1 + t215))) 1073741824) != some .eq) l (fq .quo .f32 (floatOfInt .f32 t214) 1090519040) (fq .quo .f32 (floatOfInt .f32 (wrap64 (1 + t215))) 1073741824)))) else (none)) else (none)) else (none)) else (none)) else (none)) else (none)) else (none))) else (none))) else (none)) else (none)) else (none))))) else (none))) else (none))) else (none))) f3 (fun w hw => ?_)
  refine Ends.congr (fun k => ?_) (core l s w hl hs hw)
  rw [if_pos (h3 w hw), ea]
  simp only [Option.bind_some]
  rw [if_pos so, ec]
  simp only [Option.bind_some]
  rw [if_pos bo]
theorem step_drawn {a : Int} (h0 : 0 ≤ a) (h1 : a < 9) : ∃ t : Nat, t ≤ 8 ∧ FOk .quo .f32 (floatOfInt .f32 a) 1090519040 = true ∧ IsV .f32 (fq .quo .f32 (floatOfInt .f32 a) 1090519040) ((t : Int) * ((2 ^ 146 : Nat) : Int)) := by
  obtain ⟨t, rfl⟩ := Int.eq_ofNat_of_zero_le h0
  obtain ⟨so, sv⟩ := okQ_some (upTo_at 9 0 (t : Int) steps_all (by omega) (by omega))
  exact ⟨t, by omega, so, sv⟩
theorem bound_drawn {c : Int} (h0 : 0 ≤ c) (h1 : c < 40) : ∃ Bv : Nat, 2 ^ 148 ≤ Bv ∧ Bv ≤ 2 ^ 160 ∧ FOk .quo .f32 (floatOfInt .f32 (wrap64 (1 + c))) 1073741824 = true ∧ IsV .f32 (fq .quo .f32 (floatOfInt .f32 (wrap64 (1 + c))) 1073741824) (Bv : Int) := by
  obtain ⟨u, rfl⟩ := Int.eq_ofNat_of_zero_le h0
  obtain ⟨bo, bv⟩ := okQ_some (upTo_at 40 1 (1 + (u : Int)) bounds_all (by omega) (by omega))
  have hw2 : wrap64 (1 + (u : Int)) = 1 + (u : Int) := w64 (by omega) (by omega)
  rw [hw2]
  have hB2 : (1 + u) * 2 ^ 148 ≤ 2 ^ 160 := Nat.le_trans (pow_bd 6 148 154 (1 + u) rfl (show 1 + u ≤ 64 by omega)) (Nat.pow_le_pow_right (by decide) (by decide))
  exact ⟨(1 + u) * 2 ^ 148, Nat.le_mul_of_pos_left _ (by omega), hB2, bo, bound_V bv⟩
theorem rest_some (l1 : List Int) (h : l1.length ≤ 48) (hl1 : ∀ x ∈ l1, 0 ≤ x ∧ x ≤ 255) : ∃ rest, laws_r8Rest.f l1 = some rest ∧ ∀ x ∈ rest, 0 ≤ x ∧ x ≤ 255 := by
  unfold laws_r8Rest.f
  have hw : wrap64 ((l1.length : Int) / 2) = (l1.length : Int) / 2 := w64 (by omega) (by omega)
  rw [hw, if_pos (by omega), if_pos (by omega)]
  exact ⟨_, rfl, fun x hx => hl1 x (List.mem_of_mem_drop hx)⟩
theorem long_some (l0 l1 : List Int) : laws_r8Long.f l0 l1 = some true ∨ (laws_r8Long.f l0 l1 = some false ∧ l1.length ≤ 48) := by
  unfold laws_r8Long.f
  split
  · exact .inl rfl
  · rcases Nat.lt_or_ge 48 l1.length with h | h
    · exact .inl (by rw [decide_eq_true (show (l1.length : Int) > 48 by omega)])
    · exact .inr ⟨by rw [decide_eq_false (show ¬ (l1.length : Int) > 48 by omega)], h⟩
theorem law_long (l0 l1 : List Int) (h : laws_r8Long.f l0 l1 = some true) : Ends (fun k => laws_FnBoundedSteps.f k l0 l1) T1 := by
  refine Ends.congr (fun k => ?_) (Ends.now (r := true) rfl)
  unfold laws_FnBoundedSteps.f
  rw [h]
  simp only [Option.bind_some]
  rw [if_pos trivial]
/-- The law of bounded steps. -/
theorem law_some (l0 l1 : List Int) (hl0 : ∀ x ∈ l0, 0 ≤ x ∧ x ≤ 255) (hl1 : ∀ x ∈ l1, 0 ≤ x ∧ x ≤ 255) : Ends (fun k => laws_FnBoundedSteps.f k l0 l1) T1 := by
  rcases long_some l0 l1 with h | ⟨hb, h48⟩
  · exact law_long l0 l1 h
  obtain ⟨v, ev, v0, v1⟩ := at_some l1 hl1 40 5 (by omega) (by omega)
  obtain ⟨n, rfl⟩ := Int.eq_ofNat_of_zero_le v0
  obtain ⟨a, ea, a0, a1⟩ := at_some l1 hl1 41 9 (by omega) (by omega)
  obtain ⟨c, ec, c0, c1⟩ := at_some l1 hl1 42 40 (by omega) (by omega)
  obtain ⟨t, ht, so, sv⟩ := step_drawn a0 a1
  obtain ⟨Bv, hB1, hB2, bo, bv⟩ := bound_drawn c0 c1
  obtain ⟨rest, em, hl2⟩ := rest_some l1 h48 hl1
  have hN : wrap64 (1 + (n : Int)) = ((1 + n : Nat) : Int) := by
    rw [w64 (by omega) (by omega), Int.natCast_add]
    rfl
  exact law_steps l0 l1 rest n a c _ _ _ _ hb ev hN em ea ec so bo (fines_some l0 hl0 (1 + n) (by omega)) (fines_some l1 hl1 (1 + n) (by omega)) (fines_some rest hl2 1 (by omega)) (fun w hw => by omega)
    (fun l s w hl hs hw => core_some l s hl.2 hs.2 (by omega) (by omega) (by omega) sv ht (hw.2 _ (rdOf_mem w 0 (by omega))) bv hB1 hB2)
end Go.Proofs.Ytnfcbacdggkfeaa.PlainBd
