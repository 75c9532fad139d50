/-
  A step up to its new weights.
-/
import Derived.Test.YtnfcbacdggkfeaaBdGain
namespace Go.Proofs.Ytnfcbacdggkfeaa.PlainBd
open Ieee Go.RowKit Go.Proofs.YtnfcbacdggkfeaaW.PrintWords Go.Proofs.YtnfcbacdggkfeaaW.PrintLast Go.Proofs.YtnfcbacdggkfeaaW.PrintMore
open Go.Proofs.Ytnfcbacdggkfeaa.B Go.Proofs.Ytnfcbacdggkfeaa.PlainP

/-- What a step knows of its error and of the share of it that goes to the weights. -/
structure Sh (s : List C64) (er ei C D : Int) (G N L : Nat) : Prop where
  power : sumP s = (N : Int)
  most : N ≤ 10240
  gain : 1048576 * (G * (256 + N)) ≤ 1048577 * 2 ^ 157
  re : (C * 2 ^ 8 - er * (G : Int)).natAbs * 2 ^ 23 ≤ (er * (G : Int)).natAbs + 2 ^ 31
  im : (D * 2 ^ 8 - -ei * (G : Int)).natAbs * 2 ^ 23 ≤ (-ei * (G : Int)).natAbs + 2 ^ 31
  small : er.natAbs ≤ 2 ^ 14 ∧ ei.natAbs ≤ 2 ^ 14
  long : L = 2 ^ 149 + (er.natAbs + ei.natAbs) * 2 ^ 141
  none : er = 0 → ei = 0 → C = 0 ∧ D = 0
theorem Sh.room {s : List C64} {er ei C D : Int} {G N L : Nat} (h : Sh s er ei C D G N L) : L ≤ 2 ^ 157 := by
  rw [h.long]
  have h1 := h.small
  have h2 := pow16 15 141 156 rfl
  have h3 : (er.natAbs + ei.natAbs) * 2 ^ 141 ≤ 2 ^ 15 * 2 ^ 141 := Nat.mul_le_mul_right _ (show er.natAbs + ei.natAbs ≤ 32768 by have a := h1.1; have b := h1.2; omega)
  have h4 := pow_dbl 156 157 rfl
  have h5 := pow_lt' 149 156 (by decide)
  rw [h2] at h3
  generalize 2 ^ 149 = U at *
  generalize 2 ^ 156 = V at *
  generalize 2 ^ 157 = W at *
  omega
theorem share_part {C er : Int} {G N : Nat} (h : (C * 2 ^ 8 - er * (G : Int)).natAbs * 2 ^ 23 ≤ (er * (G : Int)).natAbs + 2 ^ 31) (hG : 1048576 * (G * (256 + N)) ≤ 1048577 * 2 ^ 157) : 1024 * C.natAbs ≤ 1025 * (er.natAbs * 2 ^ 141) + 2 ^ 20 := by
  have h8 := pow16 8 149 157 rfl
  have h9 := pow16 8 141 149 rfl
  rw [← h8] at hG
  have h1 := share_le h hG
  rw [← h9] at h1
  clear h hG h8 h9
  have e : er.natAbs * (2 ^ 8 * 2 ^ 141) = 256 * (er.natAbs * 2 ^ 141) := by rw [Nat.mul_left_comm]
  rw [e] at h1
  refine Nat.le_of_mul_le_mul_left (c := 256) ?_ (by decide)
  rw [Nat.mul_add, Nat.mul_left_comm, Nat.mul_left_comm 256 1025]
  exact h1
theorem Sh.share {s : List C64} {er ei C D : Int} {G N L : Nat} (h : Sh s er ei C D G N L) : 1024 * (C.natAbs + D.natAbs) ≤ 1025 * ((er.natAbs + ei.natAbs) * 2 ^ 141) + 2 ^ 30 ∧ C.natAbs ≤ 2 ^ 160 ∧ D.natAbs ≤ 2 ^ 160 := by
  have h1 := share_part h.re h.gain
  have h2 := share_part h.im h.gain
  rw [Int.natAbs_neg] at h2
  have h3 := pow_bd 14 141 155 er.natAbs rfl h.small.1
  have h4 := pow_bd 14 141 155 ei.natAbs rfl h.small.2
  have h5 := pow_lt' 155 159 (by decide)
  have h6 := pow_dbl 159 160 rfl
  have h7 := pow_lt' 20 159 (by decide)
  have h8 := pow_lt' 21 30 (by decide)
  have h9 := pow_dbl 20 21 rfl
  rw [Nat.add_mul]
  generalize 2 ^ 20 = k at *
  generalize 2 ^ 21 = m at *
  generalize 2 ^ 30 = n at *
  obtain ⟨x, hx⟩ : ∃ x, x = er.natAbs * 2 ^ 141 := ⟨_, rfl⟩
  obtain ⟨y, hy⟩ : ∃ y, y = ei.natAbs * 2 ^ 141 := ⟨_, rfl⟩
  rw [← hx] at h1 h3 ⊢
  rw [← hy] at h2 h4 ⊢
  clear hx hy
  generalize 2 ^ 155 = p at *
  generalize 2 ^ 159 = q at *
  generalize 2 ^ 160 = r at *
  omega
theorem step_some (l s : List C64) (hl : ∀ x ∈ l, Fi x) (hs : ∀ x ∈ s, Fi x) (hls : l.length = s.length) (hn : l.length ≤ 5) {st t : Nat} (hst : IsV .f32 st ((t : Int) * ((2 ^ 146 : Nat) : Int))) (ht : t ≤ 8) (B : Nat) (w : C64) {wr wi : Int}
    (h1 : IsV .f32 w.re (wr * ((2 ^ 141 : Nat) : Int))) (h2 : IsV .f32 w.im (wi * ((2 ^ 141 : Nat) : Int))) (b1 : (wr - xr l s l.length).natAbs ≤ 2 ^ 14) (b2 : (wi - xi l s l.length).natAbs ≤ 2 ^ 14) (Post : List C64 × Nat × Nat × C64 → Prop)
    (tail : ∀ (e : C64) (o : List C64) (C D : Int) (G N L : Nat), Sh s (wr - xr l s l.length) (wi - xi l s l.length) C D G N L → IsV .f32 e.re ((wr - xr l s l.length) * ((2 ^ 141 : Nat) : Int)) → IsV .f32 e.im ((wi - xi l s l.length) * ((2 ^ 141 : Nat) : Int)) → o.length = l.length →
      (∀ j : Nat, j < l.length → ∃ P Q : Int, Nw C D L (rdOf c64z l (j : Int)) (rdOf c64z s (j : Int)) (rdOf c64z o (j : Int)) P Q) → Ends (fun k => tailF k o st B e) Post) :
    Ends (fun k => impl_stepped.f k l st B s w) Post := by
  refine Ends.bind (f := fun k t165 => ((impl_less.f w t165).bind fun t166 => ((impl_PowersOf.f k s).bind fun bt167 => ((impl_ConjugateOf.f t166).bind fun t169 => (if FOk .add .f32 1065353216 bt167.1 = true then (if FOk .quo .f32 st (fq .add .f32 1065353216 bt167.1) = true then ((impl_ScaleComplex.f t169 (fq .quo .f32 st (fq .add .f32 1065353216 bt167.1))).bind fun t170 => (impl_stepped.l0 k s t166 t170 l (l.length : Int) 0 l st B ([] : List C64) st B)) else (none)) else (none)))))) (out_exact l s hl hs hls (by omega) st B) (fun x hx => ?_)
  obtain ⟨x1, x2⟩ := hx
  have lt : ∀ {n : Nat}, n ≤ 2 ^ 14 → n < 2 ^ (FF .f32 + 1) := fun h => Nat.lt_of_le_of_lt h (by decide)
  obtain ⟨u, eu, iu⟩ := sub_T (by decide) (by decide) h1 x1 (lt b1)
  obtain ⟨v, ev, iv⟩ := sub_T (by decide) (by decide) h2 x2 (lt b2)
  refine Ends.congr (fun k => by rw [less_ok eu ev]; rfl) (Ends.bind (g := fun k => impl_PowersOf.f k s) (f := fun k bt167 => ((impl_ConjugateOf.f ⟨u, v⟩).bind fun t169 => (if FOk .add .f32 1065353216 bt167.1 = true then (if FOk .quo .f32 st (fq .add .f32 1065353216 bt167.1) = true then ((impl_ScaleComplex.f t169 (fq .quo .f32 st (fq .add .f32 1065353216 bt167.1))).bind fun t170 => (impl_stepped.l0 k s ⟨u, v⟩ t170 l (l.length : Int) 0 l st B ([] : List C64) st B)) else (none)) else (none)))) (powers_some s hs (by omega)) (fun al hal => ?_))
  obtain ⟨-, p2⟩ := hal
  have hb := sumP_le s hs
  obtain ⟨N, hN⟩ := Int.eq_ofNat_of_zero_le hb.1
  have hN2 : N ≤ 10240 := by omega
  rw [hN] at p2
  obtain ⟨G, o1, o2, ig, hg⟩ := gain_some hst ht p2 hN2
  obtain ⟨c, C, D, ec, ic, id, n1, n2, hz⟩ := share_some (e := ⟨u, v⟩) iu iv b1 b2 ig (gain_le hg)
  have hSh : Sh s (wr - xr l s l.length) (wi - xi l s l.length) C D G N _ := ⟨hN, hN2, hg, n1, n2, ⟨b1, b2⟩, rfl, hz⟩
  obtain ⟨q1, q2, q3⟩ := hSh.share
  refine Ends.congr (fun k => ?_) (step_loop l s hls (by omega) st B ⟨u, v⟩ c (fun j t => ∃ P Q : Int, Nw C D (2 ^ 149 + ((wr - xr l s l.length).natAbs + (wi - xi l s l.length).natAbs) * 2 ^ 141) (rdOf c64z l (j : Int)) (rdOf c64z s (j : Int)) t P Q) Post (fun i hi => ?_) (fun o ho hR => tail ⟨u, v⟩ o C D G N _ hSh iu iv ho hR))
  · show (some _).bind _ = _
    simp only [Option.bind_some]
    rw [if_pos o1, if_pos o2, ec]
    rfl
  · exact new_elem (hl _ (rdOf_mem l i hi)) (hs _ (rdOf_mem s i (by omega))) ic id q2 q3 q1 rfl hSh.room
end Go.Proofs.Ytnfcbacdggkfeaa.PlainBd
