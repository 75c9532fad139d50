/-
  What a step makes of its new weights.
-/
import Derived.Test.YtnfcbacdggkfeaaBdTail
namespace Go.Proofs.Ytnfcbacdggkfeaa.PlainBd
open Ieee Go.RowKit Go.Proofs.YtnfcbacdggkfeaaW.PrintWords Go.Proofs.YtnfcbacdggkfeaaW.PrintLast Go.Proofs.YtnfcbacdggkfeaaW.PrintMore
open Go.Proofs.Ytnfcbacdggkfeaa.B Go.Proofs.Ytnfcbacdggkfeaa.PlainP

open Classical in
theorem pick2 {n : Nat} {Pr : Nat → Int → Int → Prop} (h : ∀ j, j < n → ∃ a b, Pr j a b) : ∃ f g : Nat → Int, ∀ j, j < n → Pr j (f j) (g j) := by
  refine ⟨fun j => if h' : j < n then (h j h').choose else 0, fun j => if h' : j < n then (h j h').choose_spec.choose else 0, fun j hj => ?_⟩
  simp only [dif_pos hj]
  exact (h j hj).choose_spec.choose_spec
/-- Weights whose power is not above the bound stay as they are. -/
theorem tail_same (o : List C64) (st B : Nat) {Bv : Int} (hB : IsV .f32 B Bv) (e : C64) (h : Ends (fun k => impl_PowersOf.f k o) (fun r => r.2 = true ∧ ∃ q : Int, IsV .f32 r.1 q ∧ q ≤ Bv)) : Ends (fun k => tailF k o st B e) (fun r => r = (o, st, B, e)) := by
  refine Ends.bind (f := fun k bt179 => (if (FloatKind.f32.format.order bt179.1 B == some .gt) = true then (if FOk .quo .f32 B bt179.1 = true then ((impl_RootNumber.f (fq .quo .f32 B bt179.1)).bind fun t181 => ((impl_scaled.f k o t181).bind fun t182 => (some (t182, st, B, e)))) else (none)) else (some (o, st, B, e)))) h (fun r hr => ?_)
  obtain ⟨-, q, iq, hq⟩ := hr
  have hne : (FloatKind.f32.format.order r.1 B == some .gt) = false := by
    rw [order_V iq hB]
    rcases Int.lt_or_eq_of_le hq with hlt | heq
    · rw [Int.compare_eq_lt.2 hlt]; rfl
    · rw [Int.compare_eq_eq.2 heq]; rfl
  exact Ends.congr (fun k => if_neg (by rw [hne]; decide)) (Ends.now rfl)
theorem c_nn {c b : Int} {x : Nat} (hb : 0 < b) (hx : 0 < x) (h : (c * b - (x : Int)).natAbs * 2 ^ 23 ≤ 3 * x) : 0 ≤ c := by
  rcases Int.lt_or_le c 0 with hc | hc
  · exfalso
    have := Int.mul_neg_of_neg_of_pos hc hb
    generalize c * b = y at *
    omega
  · exact hc
theorem q_room {H W q : Nat} (h : 1048576 * (q * H) ≤ 1048590 * W + 1048576 * H) (hW : W ≤ 2 ^ 171 * H) (hH : 0 < H) : q ≤ 2 ^ 174 := by
  have h2 := pow_dbl 171 172 rfl
  have h3 := pow_dbl 172 173 rfl
  have h4 := pow_dbl 173 174 rfl
  refine Nat.le_of_mul_le_mul_right (c := H) ?_ hH
  have h5 : 1 * H ≤ 2 ^ 171 * H := Nat.mul_le_mul_right _ (Nat.two_pow_pos _)
  rw [← h4, ← h3, ← h2, Nat.mul_assoc, Nat.mul_assoc, Nat.mul_assoc]
  generalize q * H = a at *
  generalize 2 ^ 171 * H = b at *
  omega
theorem h_low {h q Bv H : Nat} (r : RelE (2 ^ 20) 3 (h * q) (Bv * H)) (hq : q ≤ 2 ^ 174) (hB : 2 ^ 148 ≤ Bv) (hH : H = 2 ^ 149) : 2 ^ 100 ≤ h := by
  have a := (rel_half (by decide) r).1
  subst hH
  have b := pow_ge 148 149 297 Bv rfl hB
  have c := pow_mm 100 174 274 rfl
  have d := pow_dbl 274 275 rfl
  have e := pow_lt' 275 297 (by decide)
  rcases Nat.lt_or_ge h (2 ^ 100) with hh | hh
  · exfalso
    have f := Nat.mul_le_mul (Nat.le_of_lt hh) hq
    rw [c] at f
    omega
  · exact hh
theorem h_high {h q Bv H : Nat} (r : RelE (2 ^ 20) 3 (h * q) (Bv * H)) (hq : Bv ≤ q) (hB : 0 < q) : h ≤ 2 * H := by
  have a := (rel_half (by decide) r).2
  have b := Nat.mul_le_mul_right H hq
  refine Nat.le_of_mul_le_mul_right (c := q) ?_ hB
  rw [Nat.mul_assoc, Nat.mul_comm H q]
  omega
theorem root_high {R h H K : Nat} (r : RelE (2 ^ 20) 8 (R * R) (h * H)) (hh : h ≤ 2 * H) (hK : 4 * (H * H) = K * K) : R ≤ K := by
  have a := (rel_half (by decide) r).2
  have b := Nat.mul_le_mul_right H hh
  rw [Nat.mul_assoc] at b
  rcases Nat.lt_or_ge K R with hl | hl
  · exfalso
    have c := Nat.mul_lt_mul_of_lt_of_lt hl hl
    omega
  · exact hl
theorem w_room {P Q : Nat → Int} {n : Nat} (hn : n ≤ 5) (h : ∀ j, j < n → (P j).natAbs ≤ 2 ^ 158 ∧ (Q j).natAbs ≤ 2 ^ 158) : sumN (pq P Q) n ≤ 2 ^ 171 * 2 ^ 149 := by
  have e := pow_mm 171 149 320 rfl
  have a : ∀ j, j < n → pq P Q j ≤ 2 ^ 317 := fun j hj => by
    obtain ⟨h1, h2⟩ := h j hj
    unfold pq
    have a := Nat.mul_le_mul h1 h1
    have b := Nat.mul_le_mul h2 h2
    have c := pow_mm 158 158 316 rfl
    have d := pow_dbl 316 317 rfl
    rw [c] at a b
    generalize 2 ^ 316 = x at *
    generalize 2 ^ 317 = y at *
    omega
  have b := pow_bd 3 317 320 n rfl (show n ≤ 8 by omega)
  rw [e]
  generalize 2 ^ 317 = X at *
  generalize 2 ^ 320 = Y at *
  exact Nat.le_trans (sumN_le _ X n a) b
theorem pw_nat {H W q : Nat} (h : PwI H (q : Int) W) : 1048576 * (q * H) ≤ 1048590 * W + 1048576 * H ∧ 1048562 * W ≤ 1048576 * ((q + 1) * H) := by
  obtain ⟨a, b⟩ := h
  have e1 : (q : Int) * (H : Int) = ((q * H : Nat) : Int) := (Int.natCast_mul _ _).symm
  have e2 : ((q : Int) + 1) * (H : Int) = (((q + 1) * H : Nat) : Int) := by rw [Int.natCast_mul, Int.natCast_add]; rfl
  rw [e1] at a
  rw [e2] at b
  generalize q * H = x at *
  generalize (q + 1) * H = y at *
  omega
theorem p_any {p : Int} {Bv : Nat} (h : ∀ n : Nat, p = (n : Int) → 16384 * n ≤ 16385 * Bv) : 16384 * p ≤ 16385 * (Bv : Int) := by
  rcases Int.lt_or_le p 0 with hp | hp
  · omega
  · obtain ⟨n, rfl⟩ := Int.eq_ofNat_of_zero_le hp
    have := h n rfl
    omega
theorem pw_ge {H W : Nat} {q : Int} (hH : 0 < H) (h : PwI H q W) : -1 ≤ q := by
  have h2 := h.2
  rcases Int.lt_or_le q (-1) with hq | hq
  · exfalso
    have : (q + 1) * (H : Int) < 0 := Int.mul_neg_of_neg_of_pos (by omega) (by omega)
    omega
  · exact hq
theorem r3_fin {x y z : Nat} (a1 : x ≤ y) (a3 : 8 * y ≤ z) (a4 : 0 < y) : 4 * x < z := by omega
theorem four_sq (a b : Nat) (h : a + a + 2 = b + b) : 4 * (2 ^ a * 2 ^ a) = 2 ^ b * 2 ^ b := by
  rw [← Nat.pow_add, ← Nat.pow_add, ← h, Nat.pow_add 2 (a + a) 2, Nat.mul_comm]
/-- New weights end with a power of at most their bound, but for a little. -/
theorem tail_some (o : List C64) (hn : o.length ≤ 5) (P Q : Nat → Int) (hP : ∀ j : Nat, j < o.length → IsV .f32 (rdOf c64z o (j : Int)).re (P j) ∧ IsV .f32 (rdOf c64z o (j : Int)).im (Q j) ∧ (P j).natAbs ≤ 2 ^ 158 ∧ (Q j).natAbs ≤ 2 ^ 158) (st B Bv : Nat) (hB : IsV .f32 B (Bv : Int)) (hB1 : 2 ^ 148 ≤ Bv) (e : C64) :
    Ends (fun k => tailF k o st B e) (fun r => r.2 = (st, B, e) ∧ r.1.length = o.length ∧ Ends (fun k => impl_PowersOf.f k r.1) (fun z => z.2 = true ∧ ∃ p : Int, IsV .f32 z.1 p ∧ -1 ≤ p ∧ 16384 * p ≤ 16385 * (Bv : Int))) := by
  have l158 : 2 ^ 158 ≤ 2 ^ 160 := Nat.pow_le_pow_right (by decide) (by decide)
  have hpow := any_powers o hn P Q (fun j hj => ⟨(hP j hj).1, (hP j hj).2.1, Nat.le_trans (hP j hj).2.2.1 l158, Nat.le_trans (hP j hj).2.2.2 l158⟩)
  have hW := w_room hn (fun j hj => (hP j hj).2.2)
  have hH := Nat.two_pow_pos 149
  obtain ⟨⟨b1, b2⟩, K, hk, hq⟩ := hpow
  have hpow2 : Ends (fun k => impl_PowersOf.f k o) (fun r => r = (b1, b2)) := ⟨_, K, hk, rfl⟩
  obtain ⟨hb2, q, iq, pw⟩ := hq
  have hb2' : b2 = true := hb2
  have iq' : IsV .f32 b1 q := iq
  refine Ends.bind (f := fun k bt179 => (if (FloatKind.f32.format.order bt179.1 B == some .gt) = true then (if FOk .quo .f32 B bt179.1 = true then ((impl_RootNumber.f (fq .quo .f32 B bt179.1)).bind fun t181 => ((impl_scaled.f k o t181).bind fun t182 => (some (t182, st, B, e)))) else (none)) else (some (o, st, B, e)))) hpow2 (fun r hr => ?_)
  subst hr
  rcases Int.lt_or_le (Bv : Int) q with hlt | hle
  · have hgt : (FloatKind.f32.format.order b1 B == some .gt) = true := by
      rw [order_V iq' hB, Int.compare_eq_gt.2 hlt]
      rfl
    obtain ⟨qn, rfl⟩ := Int.eq_ofNat_of_zero_le (show 0 ≤ q by omega)
    obtain ⟨w1, w2⟩ := pw_nat pw
    have q1 := q_room w1 hW hH
    have q2 : Bv ≤ qn := by omega
    have q3 : 0 < qn := by omega
    have l176 : 2 ^ 174 < 2 ^ 176 := pow_lt' 174 176 (by decide)
    have r3 : 4 * (Bv * 2 ^ KK .f32) < qn * 2 ^ (FF .f32 + 250) := by
      have a1 : Bv * 2 ^ KK .f32 ≤ qn * 2 ^ KK .f32 := Nat.mul_le_mul_right _ q2
      have a2 : 8 * 2 ^ KK .f32 ≤ 2 ^ (FF .f32 + 250) := by
        rw [show (8 : Nat) = 2 ^ 3 from rfl, ← Nat.pow_add]
        exact Nat.pow_le_pow_right (by decide) (by decide)
      have a3 := Nat.mul_le_mul_left qn a2
      rw [Nat.mul_left_comm] at a3
      have a4 : 0 < qn * 2 ^ KK .f32 := Nat.mul_pos q3 (Nat.two_pow_pos _)
      exact r3_fin a1 a3 a4
    obtain ⟨wh, ch, eh, ih, oh⟩ := quo_V 250 148 176 (by decide) (by decide) hB iq' (by rw [Int.natAbs_natCast]; exact hB1) (by omega) (by rw [Int.natAbs_natCast]; exact Nat.lt_of_le_of_lt q1 l176) (by rw [Int.natAbs_natCast, Int.natAbs_natCast]; exact r3)
    have hF : FF .f32 = 23 := rfl
    have hKK : KK .f32 = 149 := rfl
    rw [Int.natAbs_natCast, hF, hKK, ← Int.natCast_mul] at oh
    have hc := c_nn (show (0 : Int) < (qn : Int) by omega) (Nat.mul_pos (Nat.lt_of_lt_of_le (Nat.two_pow_pos 148) hB1) hH) oh
    obtain ⟨h, rfl⟩ := Int.eq_ofNat_of_zero_le hc
    rw [← Int.natCast_mul] at oh
    have rh := abs_rel (F := 23) (by decide) oh
    have h1 := h_low rh q1 hB1 rfl
    have h2 := h_high rh q2 q3
    have h3 : h ≤ 2 ^ 160 := Nat.le_trans h2 (by rw [pow_dbl 149 150 rfl]; exact Nat.pow_le_pow_right (by decide) (by decide))
    obtain ⟨g, R, eg, ig, rR⟩ := root_gen ih h1 h3
    have hK4 := four_sq 149 150 (by decide)
    have hR := root_high rR h2 hK4
    obtain ⟨o1, q4⟩ := fok_some eh
    refine Ends.congr (h := fun k => (impl_scaled.f k o g).bind fun t182 => (some (t182, st, B, e))) (fun k => ?_) ?_
    · show (if (FloatKind.f32.format.order b1 B == some .gt) = true then _ else _) = _
      rw [if_pos hgt]
      show (if FOk .quo .f32 B b1 = true then _ else _) = _
      rw [if_pos o1]
      show (impl_RootNumber.f (fq .quo .f32 B b1)).bind _ = _
      rw [q4, eg]
      rfl
    · refine Ends.bind (f := fun _ (t182 : List C64) => (some (t182, st, B, e))) (scaled_any o hn P Q hP ig hR) (fun u hu => Ends.now ⟨rfl, hu.1, ?_⟩)
      obtain ⟨hlen, hu2⟩ := hu
      obtain ⟨O, O', hO⟩ := pick2 hu2
      have size : ∀ {a b : Nat}, a ≤ 2 ^ 158 → 2 ^ 23 * (b * 2 ^ 149) ≤ (2 ^ 23 + 1) * (a * R) + 2 ^ 23 * 2 ^ 149 → b ≤ 2 ^ 160 := fun {a b} ha hb => by
        refine scaled_size hb ?_ hH
        have a1 := pow_mm 158 150 308 rfl
        have a2 := pow_mm 159 149 308 rfl
        rw [a2, ← a1]
        exact Nat.mul_le_mul ha hR
      have hup := any_powers u (by omega) O O' (fun j hj => by
        obtain ⟨x1, x2, x3, x4⟩ := hO j (by omega)
        exact ⟨x1, x2, size (hP j (by omega)).2.2.1 x3, size (hP j (by omega)).2.2.2 x4⟩)
      refine hup.imp (fun z hz => ?_)
      obtain ⟨z1, p, ip, pp⟩ := hz
      refine ⟨z1, p, ip, pw_ge hH pp, p_any (fun n hn' => ?_)⟩
      subst hn'
      obtain ⟨y1, -⟩ := pw_nat pp
      rw [hlen] at y1
      have s1 := sum_scaled (f := pq O O') (g := pq P Q) (HH := 2 ^ 149 * 2 ^ 149) (RR := R * R) o.length (fun j hj => by
        obtain ⟨-, -, x3, x4⟩ := hO j hj
        exact pq_scaled x3 x4)
      obtain ⟨z3, -⟩ := rel_lit rR
      obtain ⟨z5, -⟩ := rel_lit rh
      have a7 : 2 ^ 60 ≤ Bv := Nat.le_trans (Nat.pow_le_pow_right (by decide) (by decide)) hB1
      have a8 : 2 ^ 10 * 2 ^ 72 ≤ Bv := Nat.le_trans (by rw [← Nat.pow_add]; exact Nat.pow_le_pow_right (by decide) (by decide)) hB1
      have a6 : 1048576 * (qn + 1) ≤ 1048577 * qn := by
        have : 2 ^ 60 ≤ qn := Nat.le_trans a7 q2
        clear s1 y1 w1 w2 z3 z5 oh r3 hW
        omega
      obtain ⟨H, hHe⟩ := ex_eq (2 ^ 149)
      rw [hHe] at y1 s1 z3 w2 z5 hH
      refine pow_bound hH y1 (Nat.le_trans s1 (Nat.add_le_add_left ?_ _)) z3 w2 z5 a6 a7 a8
      have hl8 : o.length * (2 ^ 69 * (H * H)) ≤ 8 * (2 ^ 69 * (H * H)) := Nat.mul_le_mul_right _ (by omega)
      refine Nat.le_trans hl8 (Nat.le_of_eq ?_)
      rw [← Nat.mul_assoc]
  · have hgt : (FloatKind.f32.format.order b1 B == some .gt) = false := by
      rw [order_V iq' hB]
      rcases Int.lt_or_eq_of_le hle with hlt | heq
      · rw [Int.compare_eq_lt.2 hlt]; rfl
      · rw [Int.compare_eq_eq.2 heq]; rfl
    refine Ends.congr (fun k => ?_) (Ends.now (r := (o, st, B, e)) ⟨rfl, rfl, (b1, b2), K, hk, hb2', q, iq', pw_ge hH pw, by omega⟩)
    show (if (FloatKind.f32.format.order b1 B == some .gt) = true then _ else _) = _
    rw [if_neg (by rw [hgt]; decide)]
end Go.Proofs.Ytnfcbacdggkfeaa.PlainBd
