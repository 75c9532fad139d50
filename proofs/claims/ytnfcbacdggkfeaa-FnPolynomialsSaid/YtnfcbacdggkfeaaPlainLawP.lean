/-
  What ValueAt computes for few small complex whole numbers, and what the law of polynomials makes of it all.
-/
import Derived.Test.YtnfcbacdggkfeaaPx3
import Derived.Test.YtnfcbacdggkfeaaPlainPol
namespace Go.Proofs.Ytnfcbacdggkfeaa.PlainP
open Go.RowKit Go.Proofs.YtnfcbacdggkfeaaW.PrintWords Go.Proofs.YtnfcbacdggkfeaaW.PrintLast Go.Proofs.YtnfcbacdggkfeaaW.PrintMore
open Go.Proofs.Ytnfcbacdggkfeaa.P

theorem value_loop (a : List C64) (A : Nat → G) (n : Nat) (hn : n ≤ 5) (ha : LC a A (n + 1)) (hA : ∀ k, bd (A k) 3125) (x : C64) (z : G) (hx : IsC x z) (hz : bd z 2) :
    ∀ (d i : Nat) (s : C64), i + d = n → IsC s (hF A z n i) → Ends (fun k => impl_ValueAt.l0 k a x s ((d : Int) - 1)) (fun r => r.2 = true ∧ IsC r.1 (hF A z n n)) := by
  intro d
  have ha1 := ha.1
  induction d with
  | zero =>
    intro i s hi hs
    obtain rfl : i = n := by omega
    refine Ends.step (h := fun _ => some (s, true)) (fun k => ?_) (Ends.now ⟨rfl, hs⟩)
    show impl_ValueAt.l0 (k + 1) _ _ _ _ = _
    rw [impl_ValueAt.l0, if_neg (by omega)]
  | succ d ih =>
    intro i s hi hs
    have hb : bd (hF A z n i) 1953125 := bd_mono (h_bd hz hA n i) (by
      have : 5 ^ i * 3125 ≤ 5 ^ 4 * 3125 := Nat.mul_le_mul_right _ (pow5 (by omega))
      omega)
    obtain ⟨u, eu, iu⟩ := mulC hs hx hb hz (by omega) (by omega) (by omega)
    have e1 : ((d + 1 : Nat) : Int) - 1 = (d : Int) := by omega
    have hb2 : bd (gadd (gmul (hF A z n i) z) (A d)) 7815625 := bd_mono (bd_add (bd_mul hb hz) (hA d)) (by omega)
    obtain ⟨v, ev, iv⟩ := addC iu (ha.2 d (by omega)) hb2 (by omega)
    refine Ends.step (fun k => ?_) (ih (i + 1) v (by omega) (by
      rw [hF, show n - (i + 1) = d by omega]
      exact iv))
    show impl_ValueAt.l0 (k + 1) _ _ _ _ = impl_ValueAt.l0 k _ _ _ _
    rw [impl_ValueAt.l0, e1, if_pos (by omega), eu]
    simp only [Option.bind_some]
    rw [if_pos (by omega), if_pos (by omega), ev]
    simp only [Option.bind_some]
    rw [w64 (by omega) (by omega)]
theorem value_some (a : List C64) (A : Nat → G) (n : Nat) (hn : n ≤ 5) (ha : LC a A (n + 1)) (hA : ∀ k, bd (A k) 3125) (x : C64) (z : G) (hx : IsC x z) (hz : bd z 2) :
    Ends (fun k => impl_ValueAt.f k a x) (fun r => r.2 = true ∧ IsC r.1 (hF A z n n)) := by
  have ha1 := ha.1
  refine Ends.congr (fun k => ?_) (value_loop a A n hn ha hA x z hx hz n 0 (rdOf c64z a (n : Int)) (by omega) (ha.2 n (by omega)))
  unfold impl_ValueAt.f
  rw [weights_some a (by omega) (by omega)]
  simp only [Option.bind_some, if_true]
  rw [w64 (n := (a.length : Int) - 1) (by omega) (by omega), if_pos (by omega), if_pos (by omega), show (a.length : Int) - 1 = (n : Int) by omega, w64 (by omega) (by omega)]
/-! The law. -/
abbrev T1 : Bool → Prop := fun r => r = true
theorem pow8 {n m : Nat} (h : n ≤ m) : 8 ^ n ≤ 8 ^ m := Nat.pow_le_pow_right (by decide) h
theorem own_loop (l : List C64) (hl : ∀ x ∈ l, Wh x) (hn : l.length ≤ 5) (x v : C64) (hx : Wh x) (hv : IsC v (prF (l.map val) (val x))) :
    ∀ (d i : Nat) (s : C64), i + d = l.length → IsC s (prF ((l.map val).take i) (val x)) → Ends (fun k => laws_FnPolynomials.l2 k l x v true s (i : Int)) T1 := by
  intro d
  induction d with
  | zero =>
    intro i s hi hs
    rw [List.take_of_length_le (by simp; omega)] at hs
    refine Ends.step (h := fun _ => some true) (fun k => ?_) (Ends.now rfl)
    show laws_FnPolynomials.l2 (k + 1) _ _ _ _ _ _ = _
    rw [laws_FnPolynomials.l2, if_neg (by omega), if_pos rfl, eqC hv hs]
  | succ d ih =>
    intro i s hi hs
    have hlen : ((l.map val).take i).length = i := by simp; omega
    have hxi := c_wh hl i (by omega)
    have hb : bd (prF ((l.map val).take i) (val x)) 4096 := bd_mono (pr_bd (val_bd x) _ (fun z hz => map_bd l z (List.mem_of_mem_take hz))) (by rw [hlen]; exact pow8 (by omega : i ≤ 4))
    have hd : bd (gsub (val x) (val (rdOf c64z l (i : Int)))) 4 := bd_sub (val_bd x) (val_bd _)
    obtain ⟨p, e4, i7⟩ := sub_I (val_C hx).1 hxi.1 (lt24 hd.1 (by omega))
    obtain ⟨q, e5, i8⟩ := sub_I (val_C hx).2 hxi.2 (lt24 hd.2 (by omega))
    obtain ⟨o4, q4⟩ := fok_some e4
    obtain ⟨o5, q5⟩ := fok_some e5
    have hpq : IsC (⟨p, q⟩ : C64) (gsub (val x) (val (rdOf c64z l (i : Int)))) := ⟨i7, i8⟩
    obtain ⟨u, eu, iu⟩ := mulC hs hpq hb hd (by omega) (by omega) (by omega)
    refine Ends.step (fun k => ?_) (ih (i + 1) u (by omega) (by
      rw [rdOf_val l i (by omega), prF_snoc]
      exact iu))
    show laws_FnPolynomials.l2 (k + 1) _ _ _ _ _ _ = laws_FnPolynomials.l2 k _ _ _ _ _ _
    rw [laws_FnPolynomials.l2, if_pos (by omega), if_pos (by omega), if_pos o4, if_pos o5, q4, q5, eu]
    simp only [Option.bind_some]
    rw [w64 (by omega) (by omega), Int.natCast_add i 1]
    rfl
theorem zeros_loop (l1 : List Int) (h1 : ∀ x ∈ l1, 0 ≤ x ∧ x ≤ 255) (l p : List C64) (hl : ∀ x ∈ l, Wh x) (hn : l.length ≤ 5) (hp : LC p (polyF (l.map val)) (l.length + 1)) :
    ∀ (d i : Nat), i + d = l.length → Ends (fun k => laws_FnPolynomials.l1 k l1 l p (i : Int)) T1 := by
  intro d
  have hA : ∀ k, bd (polyF (l.map val) k) 3125 := fun k => bd_mono (poly_bd _ (map_bd l) k) (by rw [List.length_map]; exact pow5 hn)
  have hval : ∀ z, hF (polyF (l.map val)) z l.length l.length = prF (l.map val) z := fun z => by
    have := value_poly z (l.map val)
    rwa [List.length_map] at this
  induction d with
  | zero =>
    intro i hi
    have hw := whole_some l1 h1 1 (by omega)
    refine Ends.step (h := fun k => (spec_R8Whole.f k l1 1).bind fun t203 => (if 0 < (t203.length : Int) then ((impl_ValueAt.f k p (rdOf c64z t203 0)).bind fun bt207 => (laws_FnPolynomials.l2 k l (rdOf c64z t203 0) bt207.1 bt207.2 (⟨1065353216, 0⟩ : C64) 0)) else (none))) (fun k => ?_) (Ends.bind (f := fun k t203 => (if 0 < (t203.length : Int) then ((impl_ValueAt.f k p (rdOf c64z t203 0)).bind fun bt207 => (laws_FnPolynomials.l2 k l (rdOf c64z t203 0) bt207.1 bt207.2 (⟨1065353216, 0⟩ : C64) 0)) else (none))) hw (fun r hr => ?_))
    · show laws_FnPolynomials.l1 (k + 1) _ _ _ _ = _
      rw [laws_FnPolynomials.l1, if_neg (by omega)]
    · have hx : Wh (rdOf c64z r ((0 : Nat) : Int)) := hr.2 _ (rdOf_mem r 0 (by omega))
      refine Ends.congr (h := fun k => (impl_ValueAt.f k p (rdOf c64z r ((0 : Nat) : Int))).bind fun bt207 => (laws_FnPolynomials.l2 k l (rdOf c64z r ((0 : Nat) : Int)) bt207.1 bt207.2 (⟨1065353216, 0⟩ : C64) 0)) (fun k => if_pos (by have := hr.1; omega)) ?_
      refine Ends.bind (f := fun k bt207 => laws_FnPolynomials.l2 k l (rdOf c64z r ((0 : Nat) : Int)) bt207.1 bt207.2 (⟨1065353216, 0⟩ : C64) 0) (value_some p _ l.length hn hp hA _ _ (val_C hx) (val_bd _)) (fun v hv => ?_)
      rw [hval] at hv
      rw [show v.2 = true from hv.1]
      exact own_loop l hl hn _ v.1 hx hv.2 l.length 0 _ (by omega) one_C
  | succ d ih =>
    intro i hi
    have hx : Wh (rdOf c64z l (i : Int)) := hl _ (rdOf_mem l i (by omega))
    refine Ends.step (h := fun k => (impl_ValueAt.f k p (rdOf c64z l (i : Int))).bind fun bt201 => (if bt201.2 = true then (if ((FloatKind.f32.format.order bt201.1.re 0 == some .eq) && (FloatKind.f32.format.order bt201.1.im 0 == some .eq)) = true then (laws_FnPolynomials.l1 k l1 l p (wrap64 ((i : Int) + 1))) else (none)) else (none))) (fun k => ?_) (Ends.bind (f := fun k bt201 => (if bt201.2 = true then (if ((FloatKind.f32.format.order bt201.1.re 0 == some .eq) && (FloatKind.f32.format.order bt201.1.im 0 == some .eq)) = true then (laws_FnPolynomials.l1 k l1 l p (wrap64 ((i : Int) + 1))) else (none)) else (none))) (value_some p _ l.length hn hp hA _ _ (val_C hx) (val_bd _)) (fun v hv => ?_))
    · show laws_FnPolynomials.l1 (k + 1) _ _ _ _ = _
      rw [laws_FnPolynomials.l1, if_pos (by omega), if_pos (by omega)]
    · rw [hval] at hv
      have hz : prF (l.map val) (val (rdOf c64z l (i : Int))) = g0 := pr_zero (List.mem_map.2 ⟨_, rdOf_mem l i (by omega), rfl⟩)
      have hv2 := hv.2
      rw [hz] at hv2
      refine Ends.congr (fun k => ?_) (ih (i + 1) (by omega))
      rw [if_pos hv.1, if_pos (eqC (y := ⟨0, 0⟩) hv2 nought_C), w64 (by omega) (by omega), Int.natCast_add i 1]
      rfl
theorem same_loop (l1 : List Int) (h1 : ∀ x ∈ l1, 0 ≤ x ∧ x ≤ 255) (l p c : List C64) (hl : ∀ x ∈ l, Wh x) (hn : l.length ≤ 5) (hp : LC p (polyF (l.map val)) (l.length + 1)) (hc : LC c (polyF (l.map val)) (l.length + 1)) :
    ∀ (d i : Nat), i + d = l.length + 1 → Ends (fun k => laws_FnPolynomials.l0 k l1 l p c (i : Int)) T1 := by
  intro d
  have hp1 := hp.1
  have hc1 := hc.1
  induction d with
  | zero =>
    intro i hi
    refine Ends.step (fun k => ?_) (zeros_loop l1 h1 l p hl hn hp l.length 0 (by omega))
    show laws_FnPolynomials.l0 (k + 1) _ _ _ _ _ = _
    rw [laws_FnPolynomials.l0, if_neg (by omega)]
    rfl
  | succ d ih =>
    intro i hi
    refine Ends.step (fun k => ?_) (ih (i + 1) (by omega))
    show laws_FnPolynomials.l0 (k + 1) _ _ _ _ _ = _
    rw [laws_FnPolynomials.l0, if_pos (by omega), if_pos (by omega), if_pos (by omega), if_pos (eqC (hp.2 i (by omega)) (hc.2 i (by omega))), w64 (by omega) (by omega), Int.natCast_add i 1]
    rfl
/-- The law's steps, each told by what its function tells. -/
theorem law_steps {k : Nat} {l0 l1 : List Int} {n t : Nat} {zs : List C64} {p a c m : List C64 × Bool} {r : Bool} (eb : laws_r8Long.f l0 l1 = some false) (en : laws_r8At.f l1 40 6 = some (n : Int))
    (et : laws_r8At.f l1 41 ((zs.length : Int) + 1) = some (t : Int)) (htl : t ≤ zs.length) (hn : zs.length ≤ 5)
    (hz : spec_R8Whole.f k l0 (n : Int) = some zs) (hp : impl_PolynomialOf.f k zs = some p) (ha : impl_PolynomialOf.f k (zs.take t) = some a) (hc : impl_PolynomialOf.f k (zs.drop t) = some c) (hm : impl_MulPolynomials.f k a.1 c.1 = some m)
    (p2 : p.2 = true) (a2 : a.2 = true) (c2 : c.2 = true) (m2 : m.2 = true) (hp1 : p.1.length = zs.length + 1) (hm1 : m.1.length = zs.length + 1)
    (etop : ((FloatKind.f32.format.order ((rdOf c64z p.1 (zs.length : Int)).re) 1065353216 == some .eq) && (FloatKind.f32.format.order ((rdOf c64z p.1 (zs.length : Int)).im) 0 == some .eq)) = true)
    (hr : laws_FnPolynomials.j0 k l1 zs p.1 m.1 false = some r) : laws_FnPolynomials.f k l0 l1 = some r := by
  unfold laws_FnPolynomials.f
  rw [eb, Option.bind_some, if_neg Bool.false_ne_true, en, Option.bind_some, hz, Option.bind_some, w64 (n := (zs.length : Int) + 1) (by omega) (by omega), et, Option.bind_some, hp, Option.bind_some]
  rw [if_pos (Int.natCast_nonneg t), if_pos (Int.ofNat_le.2 htl), Int.toNat_natCast, ha, Option.bind_some, hc, Option.bind_some, hm, Option.bind_some]
  rw [if_pos p2, if_pos a2, if_pos c2, if_pos m2, if_pos (by omega), if_pos (by omega), w64 (n := (p.1.length : Int) - 1) (by omega) (by omega), if_pos (by omega), if_pos (by omega), show (p.1.length : Int) - 1 = (zs.length : Int) by omega, etop, Bool.not_true]
  exact hr
theorem law_long {k : Nat} {l0 l1 : List Int} (eb : laws_r8Long.f l0 l1 = some true) : laws_FnPolynomials.f k l0 l1 = some true := by
  unfold laws_FnPolynomials.f
  rw [eb, Option.bind_some, if_pos rfl]
theorem j0_step {k : Nat} {l1 : List Int} {zs p m : List C64} : laws_FnPolynomials.j0 (k + 1) l1 zs p m false = laws_FnPolynomials.l0 k l1 zs p m ((0 : Nat) : Int) := by
  rw [laws_FnPolynomials.j0, if_neg Bool.false_ne_true]
  rfl
theorem top_one {l p : List C64} (hp : LC p (polyF (l.map val)) (l.length + 1)) : ((FloatKind.f32.format.order ((rdOf c64z p (l.length : Int)).re) 1065353216 == some .eq) && (FloatKind.f32.format.order ((rdOf c64z p (l.length : Int)).im) 0 == some .eq)) = true := by
  have h := hp.2 l.length (by omega)
  have e := poly_top (l.map val)
  rw [List.length_map] at e
  rw [e] at h
  exact eqC (y := ⟨1065353216, 0⟩) h one_C
theorem law_some (l0 l1 : List Int) (h0 : ∀ x ∈ l0, 0 ≤ x ∧ x ≤ 255) (h1 : ∀ x ∈ l1, 0 ≤ x ∧ x ≤ 255) : Ends (fun k => laws_FnPolynomials.f k l0 l1) T1 := by
  have hlong : ∃ b, laws_r8Long.f l0 l1 = some b := by
    unfold laws_r8Long.f
    split
    · exact ⟨_, rfl⟩
    · exact ⟨_, rfl⟩
  obtain ⟨b, eb⟩ := hlong
  cases b with
  | true =>
    exact Ends.congr (h := fun _ => some true) (fun k => law_long eb) (Ends.now rfl)
  | false =>
    obtain ⟨n, en, n0, n1⟩ := at_some l1 h1 40 6 (by omega) (by omega)
    obtain ⟨n, rfl⟩ := Int.eq_ofNat_of_zero_le n0
    obtain ⟨zs, K1, hz, hlen, hl⟩ := whole_some l0 h0 n (by omega)
    have hn : zs.length ≤ 5 := by omega
    obtain ⟨t, et, t0, t1⟩ := at_some l1 h1 41 ((zs.length : Int) + 1) (by omega) (by omega)
    obtain ⟨t, rfl⟩ := Int.eq_ofNat_of_zero_le t0
    have htl : t ≤ zs.length := by omega
    have hta : (zs.take t).length = t := by simp; omega
    have htb : (zs.drop t).length = zs.length - t := by simp
    have hwa : ∀ x ∈ zs.take t, Wh x := fun x hx => hl x (List.mem_of_mem_take hx)
    have hwb : ∀ x ∈ zs.drop t, Wh x := fun x hx => hl x (List.mem_of_mem_drop hx)
    obtain ⟨p, K2, hp, p2, pc⟩ := poly_some zs hl hn
    obtain ⟨a, K3, ha, a2, ac⟩ := poly_some (zs.take t) hwa (by omega)
    obtain ⟨c, K4, hc, c2, cc⟩ := poly_some (zs.drop t) hwb (by omega)
    have hMN : 5 ^ t * 5 ^ (zs.length - t) ≤ 3125 := by
      rw [← Nat.pow_add]
      exact pow5 (by omega : t + (zs.length - t) ≤ 5)
    rw [hta] at ac
    rw [htb] at cc
    obtain ⟨m, K5, hm, m2, mc⟩ := mul_some a.1 c.1 _ _ t (zs.length - t) (5 ^ t) (5 ^ (zs.length - t)) ac cc
      (fun k => bd_mono (poly_bd _ (map_bd _) k) (by rw [List.length_map, hta]; exact Nat.le_refl _))
      (fun k => bd_mono (poly_bd _ (map_bd _) k) (by rw [List.length_map, htb]; exact Nat.le_refl _))
      (fun k hk => poly_above _ k (by rw [List.length_map, htb]; exact hk))
      (by omega) (by omega) (pow5 (by omega : t ≤ 5)) (pow5 (by omega : zs.length - t ≤ 5)) hMN
    have mc' : LC m.1 (polyF (zs.map val)) (zs.length + 1) := by
      refine ⟨by rw [mc.1]; omega, fun i hi => ?_⟩
      have this : IsC (rdOf c64z m.1 (i : Int)) (cvF (polyF ((zs.take t).map val)) (polyF ((zs.drop t).map val)) i (t + 1)) := mc.2 i (by omega)
      rw [cv_poly _ _ (by rw [List.length_map, hta]; omega), ← List.map_append, List.take_append_drop] at this
      exact this
    have key := same_loop l1 h1 zs p.1 m.1 hl hn pc mc' (zs.length + 1) 0 (by omega)
    have key2 : Ends (fun k => laws_FnPolynomials.j0 k l1 zs p.1 m.1 false) T1 := Ends.step (fun k => j0_step) key
    obtain ⟨r, K6, hr, rt⟩ := key2
    refine ⟨r, K1 + K2 + K3 + K4 + K5 + K6, fun k hk => ?_, rt⟩
    exact law_steps eb en et htl hn (hz k (by omega)) (hp k (by omega)) (ha k (by omega)) (hc k (by omega)) (hm k (by omega)) p2 a2 c2 m2 pc.1 mc'.1 (top_one pc) (hr k (by omega))
end Go.Proofs.Ytnfcbacdggkfeaa.PlainP
