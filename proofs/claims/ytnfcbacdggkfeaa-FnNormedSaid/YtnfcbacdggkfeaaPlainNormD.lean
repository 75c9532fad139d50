/-
  Normed weights: the gap between their power and one, and the law.
-/
import Derived.Test.YtnfcbacdggkfeaaPlainNormC
namespace Go.Proofs.Ytnfcbacdggkfeaa.PlainN
open Ieee Go.RowKit Go.Proofs.YtnfcbacdggkfeaaW.PrintWords Go.Proofs.YtnfcbacdggkfeaaW.PrintLast Go.Proofs.YtnfcbacdggkfeaaW.PrintMore
open Go.Proofs.Ytnfcbacdggkfeaa.N Go.Proofs.Ytnfcbacdggkfeaa.PlainP

theorem one_64 : IsV .f64 4607182418800017408 ((2 ^ 1074 : Nat) : Int) := ⟨false, 4503599627370496, 1022, by decide +kernel, by decide +kernel, by decide⟩
theorem milli_64 : IsV .f64 4562254508917369340 ((4611686018427388 * 2 ^ 1012 : Nat) : Int) := ⟨false, 4611686018427388, 1012, by decide +kernel, by decide +kernel, by decide⟩
theorem gap_abs {G V : Nat} (r : RelE (2 ^ 20) 60 G V) : ((G : Int) - (V : Int)).natAbs * 2 ^ 20 ≤ 60 * V ∧ ((V : Int) - (G : Int)).natAbs * 2 ^ 20 ≤ 60 * V := by
  obtain ⟨a, b⟩ := r
  have h1 : V * (2 ^ 20 + 60) = V * 2 ^ 20 + V * 60 := Nat.mul_add _ _ _
  have h2 : V * (2 ^ 20 - 60) = V * 2 ^ 20 - V * 60 := Nat.mul_sub _ _ _
  generalize 2 ^ 20 = E at *
  have e1 : ((G : Int) - (V : Int)).natAbs * E = (((G * E : Nat) : Int) - ((V * E : Nat) : Int)).natAbs := by rw [Int.natCast_mul, Int.natCast_mul, ← Int.sub_mul, Int.natAbs_mul, Int.natAbs_natCast]
  have e2 : ((V : Int) - (G : Int)).natAbs * E = (((V * E : Nat) : Int) - ((G * E : Nat) : Int)).natAbs := by rw [Int.natCast_mul, Int.natCast_mul, ← Int.sub_mul, Int.natAbs_mul, Int.natAbs_natCast]
  rw [e1, e2]
  omega
theorem off_two {F : Nat} {e x : Int} (hF : 20 ≤ F) (h : Off F e x) : e.natAbs ≤ 2 * x.natAbs := (rel_half (by decide) (off_rel hF h)).2
theorem small_of {e x : Int} {V H : Nat} (h : e.natAbs ≤ 2 * x.natAbs) (h1 : x.natAbs * 2 ^ 20 ≤ 60 * V) (hH : 120 * V < H * 2 ^ 20) : e < (H : Int) := by omega
theorem milli_room {V A B L H : Nat} (h1 : 2 ^ 7 * V = A) (h2 : A < B) (h3 : L * 2 ^ 20 = B) (h4 : L ≤ H) : 120 * V < H * 2 ^ 20 := by omega
theorem milli_big (a b c m : Nat) (h : a + b = c) (hm : 2 ^ a ≤ m) : 2 ^ c ≤ m * 2 ^ b := by
  subst h
  rw [Nat.pow_add]
  exact Nat.mul_le_mul_right _ hm
theorem not_gt {t : Nat} {v : Int} {H : Nat} (hv : IsV .f64 t v) (hH : IsV .f64 4562254508917369340 (H : Int)) (h : v < (H : Int)) : (FloatKind.f64.format.order t 4562254508917369340 == some .gt) = false := by
  rw [order_V hv hH, Int.compare_eq_lt.2 h]
  rfl
theorem fmax_some {x y : Nat} {a b : Int} (hx : IsV .f64 x a) (hy : IsV .f64 y b) : ∃ r c, fmax x y = some r ∧ IsV .f64 r c ∧ (c = a ∨ c = b) := by
  unfold fmax
  rw [order_V hx hy]
  cases compare a b with
  | lt => exact ⟨y, b, rfl, hy, .inr rfl⟩
  | gt => exact ⟨x, a, rfl, hx, .inl rfl⟩
  | eq =>
    simp only
    by_cases c : (FloatKind.f64.decode x).neg = true
    · rw [if_pos c]; exact ⟨y, b, rfl, hy, .inr rfl⟩
    · rw [if_neg c]; exact ⟨x, a, rfl, hx, .inl rfl⟩
theorem gap_any {g G V H : Nat} (hg : IsV .f64 g (G : Int)) (h1 : IsV .f64 4607182418800017408 (V : Int)) (hH : IsV .f64 4562254508917369340 (H : Int)) (r : RelE (2 ^ 20) 60 G V) (hV : 60 * V < 2 ^ (FF .f64 + 1100)) (hm : 120 * V < H * 2 ^ 20) :
    ∃ t, laws_r8Gap.f g 4607182418800017408 = some t ∧ (FloatKind.f64.format.order t 4562254508917369340 == some .gt) = false := by
  obtain ⟨a1, a2⟩ := gap_abs r
  have lt : ∀ {n V M : Nat}, n * 2 ^ 20 ≤ 60 * V → 60 * V < M → n < M := fun h h2 => by omega
  obtain ⟨x, e1, f1, i1, o1⟩ := sub_V 1100 (by decide) hg h1 (lt a1 hV)
  obtain ⟨y, e2, f2, i2, o2⟩ := sub_V 1100 (by decide) h1 hg (lt a2 hV)
  obtain ⟨p1, q1⟩ := fok_some f1
  obtain ⟨p2, q2⟩ := fok_some f2
  have s1 := small_of (off_two (by decide) o1) a1 hm
  have s2 := small_of (off_two (by decide) o2) a2 hm
  obtain ⟨t, c, et, it, hc⟩ := fmax_some i1 i2
  refine ⟨t, ?_, not_gt it hH (by rcases hc with h | h <;> rw [h] <;> assumption)⟩
  unfold laws_r8Gap.f
  rw [if_pos p1, if_pos p2, q1, q2, et]
theorem pow_60 (a b : Nat) (h : a + 6 < b) : 60 * 2 ^ a < 2 ^ b := by
  have h1 := pow_lt' _ _ h
  rw [Nat.pow_add] at h1
  omega
theorem c_room {C X V W U : Nat} (r : RelE (2 ^ 20) 60 (C * X) V) (h : 2 * V = W * X) (hX : 0 < X) (hW : W < U) : C < U := by
  have h1 := (rel_half (by decide) r).2
  rw [h] at h1
  exact Nat.lt_of_le_of_lt (Nat.le_of_mul_le_mul_right h1 hX) hW
theorem gap_some {p : Nat × Bool} (h : One p) : ∃ g t, FC 34 37 .f32 .f64 p.1 = true ∧ fc .f32 .f64 p.1 = g ∧ laws_r8Gap.f g 4607182418800017408 = some t ∧ (FloatKind.f64.format.order t 4562254508917369340 == some .gt) = false := by
  obtain ⟨-, C, i, r⟩ := h
  have hC : C < 2 ^ 200 := by
    have d1 := pow_dbl 1074 1075 rfl
    have d2 := pow_mm 150 925 1075 rfl
    have d3 := Nat.two_pow_pos 925
    have d4 := pow_lt' 150 200 (by decide)
    generalize 2 ^ 925 = X at *
    generalize 2 ^ 1074 = V at *
    exact c_room r (d1.trans d2.symm) d3 d4
  obtain ⟨g, eg, ig⟩ := widen_V i (by rw [Int.natAbs_natCast]; exact hC)
  rw [← Int.natCast_mul] at ig
  have m0 := pow_mm 7 1074 1081 rfl
  have m1 := pow_lt' 1081 1084 (by decide)
  have m2 := pow_mm 1064 20 1084 rfl
  have m3 := milli_big 52 1012 1064 4611686018427388 rfl (by decide)
  have m4 := milli_room m0 m1 m2 m3
  obtain ⟨t, e, hq⟩ := gap_any ig one_64 milli_64 r (pow_60 1074 (FF .f64 + 1100) (by decide)) m4
  obtain ⟨o, q⟩ := fcok_some eg 34 37
  exact ⟨g, t, o, q, e, hq⟩
theorem nought_32 : IsV .f32 0 0 := ⟨false, 0, 0, by decide +kernel, by decide +kernel, by decide⟩
theorem sign_some {w : Nat} {n : Nat} {X : Nat} (hX : 0 < X) (h : IsV .f32 w ((n : Int) * (X : Int))) : (FloatKind.f32.format.order w 0 == some .gt) = decide (1 ≤ n) := by
  rw [order_V h nought_32]
  rcases Nat.eq_zero_or_pos n with h0 | h0
  · subst h0
    rw [show ((0 : Nat) : Int) * (X : Int) = 0 from Int.zero_mul _]
    rfl
  · have : (0 : Int) < (n : Int) * (X : Int) := Int.mul_pos (by omega) (by omega)
    rw [Int.compare_eq_gt.2 this, decide_eq_true (show 1 ≤ n from h0)]
    rfl
/-- The law's first half. -/
theorem head_some (l1 : List Int) (hl1 : ∀ x ∈ l1, 0 ≤ x ∧ x ≤ 255) (l : List C64) (hl : ∀ x ∈ l, Fi x) (h1 : 1 ≤ l.length) (h2 : l.length ≤ 8) :
    Ends (fun k => (impl_NormWeights.f k l).bind fun bt173 => ((impl_PowersOf.f k l).bind fun bt177 => (if bt177.2 = true then (laws_FnNormed.j0 k l1 l bt173.1 bt173.2 (bt173.2 != (FloatKind.f32.format.order bt177.1 0 == some .gt))) else (none)))) T1 := by
  have ht := tail_some l1 hl1 l hl h1 (by omega)
  have hp := powers_some l hl (by omega)
  obtain ⟨n, hn⟩ := Int.eq_ofNat_of_zero_le (sumP_le l hl).1
  rcases Nat.eq_zero_or_pos n with h0 | h0
  · subst h0
    refine Ends.bind (f := fun k bt173 => ((impl_PowersOf.f k l).bind fun bt177 => (if bt177.2 = true then (laws_FnNormed.j0 k l1 l bt173.1 bt173.2 (bt173.2 != (FloatKind.f32.format.order bt177.1 0 == some .gt))) else (none)))) (norm_zero l hl h1 (by omega) hn) (fun r hr => ?_)
    subst hr
    refine Ends.bind (f := fun k bt177 => (if bt177.2 = true then (laws_FnNormed.j0 k l1 l [] false (false != (FloatKind.f32.format.order bt177.1 0 == some .gt))) else (none))) hp (fun s hs => ?_)
    obtain ⟨s1, s2⟩ := hs
    rw [hn] at s2
    refine Ends.congr (fun k => by rw [if_pos s1, sign_some (Nat.two_pow_pos 141) s2]) (Ends.step (h := fun k => laws_FnNormed.j1 k l1 l) (fun k => ?_) ht)
    show laws_FnNormed.j0 (k + 1) _ _ _ _ _ = _
    rw [laws_FnNormed.j0, if_neg (by decide), if_neg (by decide)]
  · refine Ends.bind (f := fun k bt173 => ((impl_PowersOf.f k l).bind fun bt177 => (if bt177.2 = true then (laws_FnNormed.j0 k l1 l bt173.1 bt173.2 (bt173.2 != (FloatKind.f32.format.order bt177.1 0 == some .gt))) else (none)))) (norm_some l hl h1 h2 hn h0) (fun r hr => ?_)
    obtain ⟨r1, r2⟩ := hr
    rw [r1]
    refine Ends.bind (f := fun k bt177 => (if bt177.2 = true then (laws_FnNormed.j0 k l1 l r.1 true (true != (FloatKind.f32.format.order bt177.1 0 == some .gt))) else (none))) hp (fun s hs => ?_)
    obtain ⟨s1, s2⟩ := hs
    rw [hn] at s2
    refine Ends.congr (fun k => by rw [if_pos s1, sign_some (Nat.two_pow_pos 141) s2, decide_eq_true (show 1 ≤ n from h0)]) (Ends.step (h := fun k => (impl_PowersOf.f k r.1).bind fun bt179 => (if bt179.2 = true then (if FC 34 37 .f32 .f64 bt179.1 = true then ((laws_r8Gap.f (fc .f32 .f64 bt179.1) 4607182418800017408).bind fun t181 => (if (FloatKind.f64.format.order t181 4562254508917369340 == some .gt) = true then (none) else (laws_FnNormed.j1 k l1 l))) else (none)) else (none))) (fun k => ?_) ?_)
    · show laws_FnNormed.j0 (k + 1) _ _ _ _ _ = _
      rw [laws_FnNormed.j0, if_neg (by decide), if_pos rfl]
    · refine Ends.bind (f := fun k bt179 => (if bt179.2 = true then (if FC 34 37 .f32 .f64 bt179.1 = true then ((laws_r8Gap.f (fc .f32 .f64 bt179.1) 4607182418800017408).bind fun t181 => (if (FloatKind.f64.format.order t181 4562254508917369340 == some .gt) = true then (none) else (laws_FnNormed.j1 k l1 l))) else (none)) else (none))) (normed_some l r.1 hl h2 hn r2) (fun p hp => ?_)
      obtain ⟨g, t, o, q, e, hq⟩ := gap_some hp
      refine Ends.congr (fun k => ?_) ht
      rw [if_pos hp.1, if_pos o, q, e]
      simp only [Option.bind_some]
      rw [if_neg (by rw [hq]; decide)]
theorem law_some (l0 l1 : List Int) (hl0 : ∀ x ∈ l0, 0 ≤ x ∧ x ≤ 255) (hl1 : ∀ x ∈ l1, 0 ≤ x ∧ x ≤ 255) : Ends (fun k => laws_FnNormed.f k l0 l1) T1 := by
  have hlong : ∃ b, laws_r8Long.f l0 l1 = some b := by
    unfold laws_r8Long.f
    split
    · exact ⟨_, rfl⟩
    · exact ⟨_, rfl⟩
  obtain ⟨b, hb⟩ := hlong
  cases b with
  | true =>
    refine Ends.congr (fun k => ?_) (Ends.now (r := true) rfl)
    unfold laws_FnNormed.f
    rw [hb]
    rfl
  | false =>
    obtain ⟨v, ev, v0, v1⟩ := at_some l1 hl1 40 8 (by omega) (by omega)
    obtain ⟨n, rfl⟩ := Int.eq_ofNat_of_zero_le v0
    refine Ends.congr (h := fun k => (spec_R8Fine.f k l0 ((1 + n : Nat) : Int)).bind fun t170 => ((impl_NormWeights.f k t170).bind fun bt173 => ((impl_PowersOf.f k t170).bind fun bt177 => (if bt177.2 = true then (laws_FnNormed.j0 k l1 t170 bt173.1 bt173.2 (bt173.2 != (FloatKind.f32.format.order bt177.1 0 == some .gt))) else (none))))) (fun k => ?_) ?_
    · unfold laws_FnNormed.f
      rw [hb]
      simp only [Option.bind_some]
      rw [if_neg (by decide), ev]
      simp only [Option.bind_some]
      rw [w64 (by omega) (by omega)]
      rfl
    · refine Ends.bind (f := fun k t170 => ((impl_NormWeights.f k t170).bind fun bt173 => ((impl_PowersOf.f k t170).bind fun bt177 => (if bt177.2 = true then (laws_FnNormed.j0 k l1 t170 bt173.1 bt173.2 (bt173.2 != (FloatKind.f32.format.order bt177.1 0 == some .gt))) else (none))))) (fines_some l0 hl0 (1 + n) (by omega)) (fun l hl => ?_)
      exact head_some l1 hl1 l hl.2 (by omega) (by omega)
end Go.Proofs.Ytnfcbacdggkfeaa.PlainN
