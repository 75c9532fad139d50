/-
  Contracts of the program's functions, each a plain Lean function beside the machine's call: written by this session's program over the kit's print.
-/
import Derived.Test.YtncckihaacceaaaSx0
import Derived.Test.YtncckihaacceaaaSx1
import Derived.Test.YtncckihaacceaaaSx2
namespace Go.Proofs.Ytncckihaacceaaa.S
open Go.RowKit Go.Proofs.YtncckihaacceaaaW.PrintWords Go.Proofs.YtncckihaacceaaaW.PrintLast Go.Proofs.YtncckihaacceaaaW.PrintMore
attribute [local go_sem] max2_int min2_int max_two min_two max_three min_three max_four min_four   -- for this text's walks alone
set_option linter.unusedVariables false
set_option linter.unusedSimpArgs false

attribute [local go_sem high] eqA88
/-! ### spec_l01SineWide: function 127 -/
mutual
def spec_l01SineWide.j0 : Nat → Nat → Bool → Option (Nat)
 | 0, _, _ => none
 | k + 1, x0, x19 => if x19 = true then (some 0) else (if FI 65 2 .f64 x0 = true then (if FOk .sub .f64 x0 (floatOfInt .f64 (fi .f64 x0)) = true then (if (FloatKind.f64.format.order (fq .sub .f64 x0 (floatOfInt .f64 (fi .f64 x0))) 0 == some .lt) = true then (if FOk .add .f64 (fq .sub .f64 x0 (floatOfInt .f64 (fi .f64 x0))) 4607182418800017408 = true then (spec_l01SineWide.j1 k (fq .add .f64 (fq .sub .f64 x0 (floatOfInt .f64 (fi .f64 x0))) 4607182418800017408)) else (none)) else (spec_l01SineWide.j1 k (fq .sub .f64 x0 (floatOfInt .f64 (fi .f64 x0))))) else (none)) else (none))
def spec_l01SineWide.j1 : Nat → Nat → Option (Nat)
 | 0, _ => none
 | k + 1, x3 => if (FloatKind.f64.format.order x3 4602678819172646912 == some .gt || FloatKind.f64.format.order x3 4602678819172646912 == some .eq) = true then (if FOk .sub .f64 x3 4602678819172646912 = true then (spec_l01SineWide.j2 k (fq .sub .f64 x3 4602678819172646912) (FloatKind.f64.format.order x3 4602678819172646912 == some .gt || FloatKind.f64.format.order x3 4602678819172646912 == some .eq)) else (none)) else (spec_l01SineWide.j2 k x3 (FloatKind.f64.format.order x3 4602678819172646912 == some .gt || FloatKind.f64.format.order x3 4602678819172646912 == some .eq))
def spec_l01SineWide.j2 : Nat → Nat → Bool → Option (Nat)
 | 0, _, _ => none
 | k + 1, x3, x4 => if (FloatKind.f64.format.order x3 4598175219545276416 == some .gt) = true then (if FOk .sub .f64 4602678819172646912 x3 = true then (spec_l01SineWide.j3 k (fq .sub .f64 4602678819172646912 x3) x4) else (none)) else (spec_l01SineWide.j3 k x3 x4)
def spec_l01SineWide.j3 : Nat → Nat → Bool → Option (Nat)
 | 0, _, _ => none
 | k + 1, x3, x4 => if FOk .mul .f64 x3 4618760256179416344 = true then (if FOk .mul .f64 (fq .mul .f64 x3 4618760256179416344) (fq .mul .f64 x3 4618760256179416344) = true then (spec_l01SineWide.l0 k x4 (fq .mul .f64 x3 4618760256179416344) (fq .mul .f64 (fq .mul .f64 x3 4618760256179416344) (fq .mul .f64 x3 4618760256179416344)) 4607182418800017408 8) else (none)) else (none)
def spec_l01SineWide.l0 : Nat → Bool → Nat → Nat → Nat → Int → Option (Nat)
 | 0, _, _, _, _, _ => none
 | k + 1, x4, x5, x6, x7, x8 => if x8 ≥ 1 then (if FOk .mul .f64 x6 x7 = true then (if FOk .quo .f64 (fq .mul .f64 x6 x7) (floatOfInt .f64 (wrap64 ((wrap64 (2 * x8)) * (wrap64 ((wrap64 (2 * x8)) + 1))))) = true then (if FOk .sub .f64 4607182418800017408 (fq .quo .f64 (fq .mul .f64 x6 x7) (floatOfInt .f64 (wrap64 ((wrap64 (2 * x8)) * (wrap64 ((wrap64 (2 * x8)) + 1)))))) = true then (spec_l01SineWide.l0 k x4 x5 x6 (fq .sub .f64 4607182418800017408 (fq .quo .f64 (fq .mul .f64 x6 x7) (floatOfInt .f64 (wrap64 ((wrap64 (2 * x8)) * (wrap64 ((wrap64 (2 * x8)) + 1))))))) (wrap64 (x8 - 1))) else (none)) else (none)) else (none)) else (if x4 = true then (if FOk .mul .f64 x5 x7 = true then (some (Go.Op.negFloat .f64 (fq .mul .f64 x5 x7))) else (none)) else (if FOk .mul .f64 x5 x7 = true then (some (fq .mul .f64 x5 x7)) else (none)))
end
def spec_l01SineWide.f (k : Nat) (a0 : Nat) : Option (Nat) := if FOk .sub .f64 a0 a0 = true then (if (FloatKind.f64.format.order (fq .sub .f64 a0 a0) 0 != some .eq) = true then ((math_NaN.f).bind fun t167 => (some t167)) else (if (FloatKind.f64.format.order a0 4841369599423283200 == some .gt || FloatKind.f64.format.order a0 4841369599423283200 == some .eq) = true then (spec_l01SineWide.j0 k a0 true) else (spec_l01SineWide.j0 k a0 (FloatKind.f64.format.order a0 14064741636278059008 == some .lt || FloatKind.f64.format.order a0 14064741636278059008 == some .eq)))) else (none)
set_option maxHeartbeats 8000000 in
set_option maxRecDepth 100000 in
theorem spec_l01SineWide.calls (k : Nat) (a0 : Nat) (r : Nat) (w : World) (h : spec_l01SineWide.f k a0 = some r) :
 Calls Try.prog 127 #[.float .f64 a0] w fun e w' => e = .returned (.float .f64 r) ∧ Drawn0 w w' := by
 have hu2 := Try.underlying2
 have hu3 := Try.underlying3
 have hu65 := Try.underlying65
 have H : (if FOk .sub .f64 a0 a0 = true then (if (FloatKind.f64.format.order (fq .sub .f64 a0 a0) 0 != some .eq) = true then ((math_NaN.f).bind fun t167 => (some t167)) else (if (FloatKind.f64.format.order a0 4841369599423283200 == some .gt || FloatKind.f64.format.order a0 4841369599423283200 == some .eq) = true then (spec_l01SineWide.j0 k a0 true) else (spec_l01SineWide.j0 k a0 (FloatKind.f64.format.order a0 14064741636278059008 == some .lt || FloatKind.f64.format.order a0 14064741636278059008 == some .eq)))) else (none)) = some r := h
 clear h
 by_cases c2 : FOk .sub .f64 a0 a0 = true
 · rw [if_pos c2] at H
   have fe2 := fun t w => frun (P := Try.prog) c2 t w
   have c2b0 : FOk .sub .f64 a0 a0 = true := c2
   clear c2
   by_cases c3 : (FloatKind.f64.format.order (fq .sub .f64 a0 a0) 0 != some .eq) = true
   · rw [if_pos c3] at H
     have c3b0 : (FloatKind.f64.format.order (fq .sub .f64 a0 a0) 0 != some .eq) = true := c3
     (try (have c3b1 : decide (FloatKind.f64.format.order (fq .sub .f64 a0 a0) 0 = some .eq) = false := by simpa using c3))
     (try (have c3b2 : (FloatKind.f64.format.order (fq .sub .f64 a0 a0) 0 == some .eq) = false := by simpa using c3))
     (try (have c3b3 : ¬ (FloatKind.f64.format.order (fq .sub .f64 a0 a0) 0 = some .eq) := by simpa using c3))
     clear c3
     replace H := Option.bind_eq_some_iff.mp H
     obtain ⟨t167, A40, H⟩ := H
     replace H : (some t167) = some r := H
     have A4 := Aside0.mk A40
     clear A40
     obtain rfl := Option.some.inj H
     go_enter Try.func127, Try.ntmps127
     go_wp2_with (first | ((with_reducible refine gate_callee (f := 131) rfl ?_); refine goesL_ (some 13) rfl rfl Try.func131 (by kernel_rfl) rfl #[] rfl (by (try simp only [List.map_toArray, List.map_cons, List.map_nil]); first | done | rfl | (simp only [List.length_drop, List.length_take]; rfl)) ?_; (with_reducible refine (math_NaN.calls  t167 _ A4.out).mono ?_); rintro e w' ⟨rfl, ⟨nd, rfl⟩⟩; refine ⟨_, rfl, ?_⟩))
     go_ret
     exact ⟨by first | rfl | (simp; done) | (simp [*]; done), by repeat (first | exact Drawn0.refl _ | apply Drawn0.step)⟩
   · rw [if_neg c3] at H
     have c3b0 : (FloatKind.f64.format.order (fq .sub .f64 a0 a0) 0 != some .eq) = false := by simpa using c3
     (try (have c3b1 : decide (FloatKind.f64.format.order (fq .sub .f64 a0 a0) 0 = some .eq) = true := by simpa using c3))
     (try (have c3b2 : (FloatKind.f64.format.order (fq .sub .f64 a0 a0) 0 == some .eq) = true := by simpa using c3))
     clear c3
     have HC5 := Aside0.mk H
     clear H
     go_enter Try.func127, Try.ntmps127
     go_upto_region 3 with (fail)
     go_cut [19] (fun v19 wc => ∃ (kq : Nat) (x19_4 : Bool), v19 = .bool x19_4 ∧ Aside0 (spec_l01SineWide.j0 kq a0 x19_4 = some r) ∧ Aside0 (kq ≤ k) ∧ Drawn0 w wc)
     case first =>
      have H := HC5.out
      clear HC5
      by_cases c6 : (FloatKind.f64.format.order a0 4841369599423283200 == some .gt || FloatKind.f64.format.order a0 4841369599423283200 == some .eq) = true
      · rw [if_pos c6] at H
        have c6b0 : (FloatKind.f64.format.order a0 4841369599423283200 == some .gt || FloatKind.f64.format.order a0 4841369599423283200 == some .eq) = true := c6
        (try (have c6b1 : decide (FloatKind.f64.format.order a0 4841369599423283200 = some .gt || FloatKind.f64.format.order a0 4841369599423283200 == some .eq) = true := by simpa using c6))
        (try (have c6b2 : (FloatKind.f64.format.order a0 4841369599423283200 == some .gt || FloatKind.f64.format.order a0 4841369599423283200 == some .eq) = true := by simpa using c6))
        clear c6
        (first | rw [c6b0] | (simp only [i64_w, i32_w]; rw [c6b0]) | skip)
        have H' := Aside0.mk H
        clear H
        go_wp2
        go_meet
        case rel => exact ⟨_, (true), (by first | rfl | (simp; done) | (simp [*]; done)), H', ⟨by first | omega | exact Nat.le_refl _⟩, by repeat (first | exact Drawn0.refl _ | apply Drawn0.step)⟩
      · rw [if_neg c6] at H
        have c6b0 : (FloatKind.f64.format.order a0 4841369599423283200 == some .gt || FloatKind.f64.format.order a0 4841369599423283200 == some .eq) = false := by simpa using c6
        (try (have c6b1 : decide (FloatKind.f64.format.order a0 4841369599423283200 = some .gt || FloatKind.f64.format.order a0 4841369599423283200 == some .eq) = false := by simpa using c6))
        (try (have c6b2 : (FloatKind.f64.format.order a0 4841369599423283200 == some .gt || FloatKind.f64.format.order a0 4841369599423283200 == some .eq) = false := by simpa using c6))
        (try (have c6b3 : ¬ (FloatKind.f64.format.order a0 4841369599423283200 = some .gt || FloatKind.f64.format.order a0 4841369599423283200 == some .eq) := by simpa using c6))
        clear c6
        (first | rw [c6b0] | (simp only [i64_w, i32_w]; rw [c6b0]) | skip)
        have H' := Aside0.mk H
        clear H
        go_wp2
        go_meet
        case rel => exact ⟨_, ((FloatKind.f64.format.order a0 14064741636278059008 == some .lt || FloatKind.f64.format.order a0 14064741636278059008 == some .eq)), (by first | rfl | (simp; done) | (simp [*]; done)), H', ⟨by first | omega | exact Nat.le_refl _⟩, by repeat (first | exact Drawn0.refl _ | apply Drawn0.step)⟩
     case rest =>
      clear HC5
      (try clear c1); (try clear c2); (try clear c2b0); (try clear p2); (try clear c3); (try clear c3b0); (try clear c3b1); (try clear c3b2); (try clear c6); (try clear c6b0); (try clear c6b1); (try clear c6b2)
      obtain ⟨kq, x19_4, rfl, HA, HJ4, ⟨mc4, rfl⟩⟩ := hcut
      cases kq with
      | zero => exact absurd HA.out (by simp [spec_l01SineWide.j0])
      | succ kj4 =>
       have H := HA.out
       clear HA
       simp only [spec_l01SineWide.j0] at H
       by_cases c7 : x19_4 = true
       · subst c7
         have H1 : (some 0) = some r := by rw [if_pos rfl] at H; exact H
         clear H
         have H := H1
         clear H1
         obtain rfl := Option.some.inj H
         go_wp2
         go_ret
         exact ⟨by first | rfl | (simp; done) | (simp [*]; done), by repeat (first | exact Drawn0.refl _ | apply Drawn0.step)⟩
       · replace c7 := Bool.eq_false_iff.mpr c7
         subst c7
         have H1 : (if FI 65 2 .f64 a0 = true then (if FOk .sub .f64 a0 (floatOfInt .f64 (fi .f64 a0)) = true then (if (FloatKind.f64.format.order (fq .sub .f64 a0 (floatOfInt .f64 (fi .f64 a0))) 0 == some .lt) = true then (if FOk .add .f64 (fq .sub .f64 a0 (floatOfInt .f64 (fi .f64 a0))) 4607182418800017408 = true then (spec_l01SineWide.j1 kj4 (fq .add .f64 (fq .sub .f64 a0 (floatOfInt .f64 (fi .f64 a0))) 4607182418800017408)) else (none)) else (spec_l01SineWide.j1 kj4 (fq .sub .f64 a0 (floatOfInt .f64 (fi .f64 a0))))) else (none)) else (none)) = some r := by rw [if_neg (show ¬ (false = true) by decide)] at H; exact H
         clear H
         have H := H1
         clear H1
         by_cases c8 : FI 65 2 .f64 a0 = true
         · rw [if_pos c8] at H
           have fe8 := fun w => fruni (P := Try.prog) (src := 65) (dst := 2) (by kernel_rfl) Try.underlying2 c8 w
           have c8b0 : FI 65 2 .f64 a0 = true := c8
           clear c8
           by_cases c9 : FOk .sub .f64 a0 (floatOfInt .f64 (fi .f64 a0)) = true
           · rw [if_pos c9] at H
             have fe9 := fun t w => frun (P := Try.prog) c9 t w
             have c9b0 : FOk .sub .f64 a0 (floatOfInt .f64 (fi .f64 a0)) = true := c9
             clear c9
             have HC10 := Aside0.mk H
             clear H
             go_upto_if 26 with (fail)
             go_cut [3] (fun v3 wc => ∃ (kq : Nat) (x3_9 : Nat), v3 = .float .f64 x3_9 ∧ Aside0 (spec_l01SineWide.j1 kq x3_9 = some r) ∧ Aside0 (kq ≤ kj4) ∧ Drawn0 w wc)
             case first =>
              have H := HC10.out
              clear HC10
              by_cases c11 : (FloatKind.f64.format.order (fq .sub .f64 a0 (floatOfInt .f64 (fi .f64 a0))) 0 == some .lt) = true
              · rw [if_pos c11] at H
                have c11b0 : (FloatKind.f64.format.order (fq .sub .f64 a0 (floatOfInt .f64 (fi .f64 a0))) 0 == some .lt) = true := c11
                (try (have c11b1 : decide (FloatKind.f64.format.order (fq .sub .f64 a0 (floatOfInt .f64 (fi .f64 a0))) 0 = some .lt) = true := by simpa using c11))
                (try (have c11b2 : (FloatKind.f64.format.order (fq .sub .f64 a0 (floatOfInt .f64 (fi .f64 a0))) 0 == some .lt) = true := by simpa using c11))
                clear c11
                (first | rw [c11b0] | (simp only [i64_w, i32_w]; rw [c11b0]) | skip)
                by_cases c12 : FOk .add .f64 (fq .sub .f64 a0 (floatOfInt .f64 (fi .f64 a0))) 4607182418800017408 = true
                · rw [if_pos c12] at H
                  have fe12 := fun t w => frun (P := Try.prog) c12 t w
                  have c12b0 : FOk .add .f64 (fq .sub .f64 a0 (floatOfInt .f64 (fi .f64 a0))) 4607182418800017408 = true := c12
                  clear c12
                  have H' := Aside0.mk H
                  clear H
                  go_wp2
                  go_meet
                  case rel => exact ⟨_, (fq .add .f64 (fq .sub .f64 a0 (floatOfInt .f64 (fi .f64 a0))) 4607182418800017408), (by first | rfl | (simp; done) | (simp [*]; done)), H', ⟨by have := HJ4.out; first | omega | exact Nat.le_refl _⟩, by repeat (first | exact Drawn0.refl _ | apply Drawn0.step)⟩
                · rw [if_neg c12] at H
                  exact absurd H (by simp)
              · rw [if_neg c11] at H
                have c11b0 : (FloatKind.f64.format.order (fq .sub .f64 a0 (floatOfInt .f64 (fi .f64 a0))) 0 == some .lt) = false := by simpa using c11
                (try (have c11b1 : decide (FloatKind.f64.format.order (fq .sub .f64 a0 (floatOfInt .f64 (fi .f64 a0))) 0 = some .lt) = false := by simpa using c11))
                (try (have c11b2 : (FloatKind.f64.format.order (fq .sub .f64 a0 (floatOfInt .f64 (fi .f64 a0))) 0 == some .lt) = false := by simpa using c11))
                (try (have c11b3 : ¬ (FloatKind.f64.format.order (fq .sub .f64 a0 (floatOfInt .f64 (fi .f64 a0))) 0 = some .lt) := by simpa using c11))
                clear c11
                (first | rw [c11b0] | (simp only [i64_w, i32_w]; rw [c11b0]) | skip)
                have H' := Aside0.mk H
                clear H
                go_wp2
                go_meet
                case rel => exact ⟨_, (fq .sub .f64 a0 (floatOfInt .f64 (fi .f64 a0))), (by first | rfl | (simp; done) | (simp [*]; done)), H', ⟨by have := HJ4.out; first | omega | exact Nat.le_refl _⟩, by repeat (first | exact Drawn0.refl _ | apply Drawn0.step)⟩
             case rest =>
              clear HC10
              (try clear c1); (try clear c2); (try clear c2b0); (try clear p2); (try clear c3); (try clear c3b0); (try clear c3b1); (try clear c3b2); (try clear c4); (try clear c6); (try clear c6b0); (try clear c6b1); (try clear c6b2); (try clear c7); (try clear c8); (try clear c8b0); (try clear c9); (try clear c9b0); (try clear c11); (try clear c11b0); (try clear c11b1); (try clear c11b2); (try clear c12); (try clear c12b0); (try clear p2)
              obtain ⟨kq, x3_9, rfl, HA, HJ9, ⟨mc9, rfl⟩⟩ := hcut
              cases kq with
              | zero => exact absurd HA.out (by simp [spec_l01SineWide.j1])
              | succ kj9 =>
               have H := HA.out
               clear HA
               simp only [spec_l01SineWide.j1] at H
               have HC13 := Aside0.mk H
               clear H
               go_upto_if 31 with (fail)
               obtain ⟨b4_, hb4_⟩ : ∃ b_ : Bool, (FloatKind.f64.format.order x3_9 4602678819172646912 == some .gt || FloatKind.f64.format.order x3_9 4602678819172646912 == some .eq) = b_ := ⟨_, rfl⟩
               rw [hb4_]
               have HCb_ := HC13.out
               rw [hb4_] at HCb_
               clear HC13
               have HC13 := Aside0.mk HCb_
               clear HCb_ hb4_
               go_cut [3] (fun v3 wc => ∃ (kq : Nat) (x3_12 : Nat), v3 = .float .f64 x3_12 ∧ Aside0 (spec_l01SineWide.j2 kq x3_12 b4_ = some r) ∧ Aside0 (kq ≤ kj9) ∧ Drawn0 w wc)
               case first =>
                have H := HC13.out
                clear HC13
                by_cases c14 : b4_ = true
                · rw [if_pos c14] at H
                  have c14b0 : b4_ = true := c14
                  (try (have c14b1 : decide (FloatKind.f64.format.order x3_9 4602678819172646912 = some .gt || FloatKind.f64.format.order x3_9 4602678819172646912 == some .eq) = true := by simpa using c14))
                  (try (have c14b2 : b4_ = true := by simpa using c14))
                  clear c14
                  subst c14b0
                  by_cases c15 : FOk .sub .f64 x3_9 4602678819172646912 = true
                  · rw [if_pos c15] at H
                    have fe15 := fun t w => frun (P := Try.prog) c15 t w
                    have c15b0 : FOk .sub .f64 x3_9 4602678819172646912 = true := c15
                    clear c15
                    have H' := Aside0.mk H
                    clear H
                    go_wp2
                    go_meet
                    case rel => exact ⟨_, (fq .sub .f64 x3_9 4602678819172646912), (by first | rfl | (simp; done) | (simp [*]; done)), H', ⟨by have := HJ4.out; have := HJ9.out; first | omega | exact Nat.le_refl _⟩, by repeat (first | exact Drawn0.refl _ | apply Drawn0.step)⟩
                  · rw [if_neg c15] at H
                    exact absurd H (by simp)
                · rw [if_neg c14] at H
                  have c14b0 : b4_ = false := by simpa using c14
                  (try (have c14b1 : decide (FloatKind.f64.format.order x3_9 4602678819172646912 = some .gt || FloatKind.f64.format.order x3_9 4602678819172646912 == some .eq) = false := by simpa using c14))
                  (try (have c14b2 : b4_ = false := by simpa using c14))
                  (try (have c14b3 : ¬ (FloatKind.f64.format.order x3_9 4602678819172646912 = some .gt || FloatKind.f64.format.order x3_9 4602678819172646912 == some .eq) := by simpa using c14))
                  clear c14
                  subst c14b0
                  have H' := Aside0.mk H
                  clear H
                  go_wp2
                  go_meet
                  case rel => exact ⟨_, (x3_9), (by first | rfl | (simp; done) | (simp [*]; done)), H', ⟨by have := HJ4.out; have := HJ9.out; first | omega | exact Nat.le_refl _⟩, by repeat (first | exact Drawn0.refl _ | apply Drawn0.step)⟩
               case rest =>
                clear HC13
                (try clear c1); (try clear c2); (try clear c2b0); (try clear p2); (try clear c3); (try clear c3b0); (try clear c3b1); (try clear c3b2); (try clear c4); (try clear c6); (try clear c6b0); (try clear c6b1); (try clear c6b2); (try clear c7); (try clear c8); (try clear c8b0); (try clear c9); (try clear c9b0); (try clear c11); (try clear c11b0); (try clear c11b1); (try clear c11b2); (try clear c12); (try clear c12b0); (try clear c13); (try clear c14); (try clear c14b0); (try clear c14b1); (try clear c14b2); (try clear c15); (try clear c15b0); (try clear p2)
                obtain ⟨kq, x3_12, rfl, HA, HJ12, ⟨mc12, rfl⟩⟩ := hcut
                cases kq with
                | zero => exact absurd HA.out (by simp [spec_l01SineWide.j2])
                | succ kj12 =>
                 have H := HA.out
                 clear HA
                 simp only [spec_l01SineWide.j2] at H
                 have HC16 := Aside0.mk H
                 clear H
                 go_upto_if 35 with (fail)
                 go_cut [3] (fun v3 wc => ∃ (kq : Nat) (x3_15 : Nat), v3 = .float .f64 x3_15 ∧ Aside0 (spec_l01SineWide.j3 kq x3_15 b4_ = some r) ∧ Aside0 (kq ≤ kj12) ∧ Drawn0 w wc)
                 case first =>
                  have H := HC16.out
                  clear HC16
                  by_cases c17 : (FloatKind.f64.format.order x3_12 4598175219545276416 == some .gt) = true
                  · rw [if_pos c17] at H
                    have c17b0 : (FloatKind.f64.format.order x3_12 4598175219545276416 == some .gt) = true := c17
                    (try (have c17b1 : decide (FloatKind.f64.format.order x3_12 4598175219545276416 = some .gt) = true := by simpa using c17))
                    (try (have c17b2 : (FloatKind.f64.format.order x3_12 4598175219545276416 == some .gt) = true := by simpa using c17))
                    clear c17
                    (first | rw [c17b0] | (simp only [i64_w, i32_w]; rw [c17b0]) | skip)
                    by_cases c18 : FOk .sub .f64 4602678819172646912 x3_12 = true
                    · rw [if_pos c18] at H
                      have fe18 := fun t w => frun (P := Try.prog) c18 t w
                      have c18b0 : FOk .sub .f64 4602678819172646912 x3_12 = true := c18
                      clear c18
                      have H' := Aside0.mk H
                      clear H
                      go_wp2
                      go_meet
                      case rel => exact ⟨_, (fq .sub .f64 4602678819172646912 x3_12), (by first | rfl | (simp; done) | (simp [*]; done)), H', ⟨by have := HJ4.out; have := HJ9.out; have := HJ12.out; first | omega | exact Nat.le_refl _⟩, by repeat (first | exact Drawn0.refl _ | apply Drawn0.step)⟩
                    · rw [if_neg c18] at H
                      exact absurd H (by simp)
                  · rw [if_neg c17] at H
                    have c17b0 : (FloatKind.f64.format.order x3_12 4598175219545276416 == some .gt) = false := by simpa using c17
                    (try (have c17b1 : decide (FloatKind.f64.format.order x3_12 4598175219545276416 = some .gt) = false := by simpa using c17))
                    (try (have c17b2 : (FloatKind.f64.format.order x3_12 4598175219545276416 == some .gt) = false := by simpa using c17))
                    (try (have c17b3 : ¬ (FloatKind.f64.format.order x3_12 4598175219545276416 = some .gt) := by simpa using c17))
                    clear c17
                    (first | rw [c17b0] | (simp only [i64_w, i32_w]; rw [c17b0]) | skip)
                    have H' := Aside0.mk H
                    clear H
                    go_wp2
                    go_meet
                    case rel => exact ⟨_, (x3_12), (by first | rfl | (simp; done) | (simp [*]; done)), H', ⟨by have := HJ4.out; have := HJ9.out; have := HJ12.out; first | omega | exact Nat.le_refl _⟩, by repeat (first | exact Drawn0.refl _ | apply Drawn0.step)⟩
                 case rest =>
                  clear HC16
                  (try clear c1); (try clear c2); (try clear c2b0); (try clear p2); (try clear c3); (try clear c3b0); (try clear c3b1); (try clear c3b2); (try clear c4); (try clear c6); (try clear c6b0); (try clear c6b1); (try clear c6b2); (try clear c7); (try clear c8); (try clear c8b0); (try clear c9); (try clear c9b0); (try clear c11); (try clear c11b0); (try clear c11b1); (try clear c11b2); (try clear c12); (try clear c12b0); (try clear c13); (try clear c14); (try clear c14b0); (try clear c14b1); (try clear c14b2); (try clear c15); (try clear c15b0); (try clear c17); (try clear c17b0); (try clear c17b1); (try clear c17b2); (try clear c18); (try clear c18b0); (try clear p2)
                  obtain ⟨kq, x3_15, rfl, HA, HJ15, ⟨mc15, rfl⟩⟩ := hcut
                  cases kq with
                  | zero => exact absurd HA.out (by simp [spec_l01SineWide.j3])
                  | succ kj15 =>
                   have H := HA.out
                   clear HA
                   simp only [spec_l01SineWide.j3] at H
                   by_cases c19 : FOk .mul .f64 x3_15 4618760256179416344 = true
                   · rw [if_pos c19] at H
                     have fe19 := fun t w => frun (P := Try.prog) c19 t w
                     have c19b0 : FOk .mul .f64 x3_15 4618760256179416344 = true := c19
                     clear c19
                     by_cases c20 : FOk .mul .f64 (fq .mul .f64 x3_15 4618760256179416344) (fq .mul .f64 x3_15 4618760256179416344) = true
                     · rw [if_pos c20] at H
                       have fe20 := fun t w => frun (P := Try.prog) c20 t w
                       have c20b0 : FOk .mul .f64 (fq .mul .f64 x3_15 4618760256179416344) (fq .mul .f64 x3_15 4618760256179416344) = true := c20
                       clear c20
                       have H' := Aside0.mk H
                       clear H
                       go_wp2
                       go_loopg [7, 8] kj15 (fun kq v7 v8 w' => ∃ (x7_5 : Nat) (x8_5 : Int), v7 = .float .f64 x7_5 ∧ v8 = .int .i64 x8_5 ∧ Aside0 (spec_l01SineWide.l0 kq b4_ (fq .mul .f64 x3_15 4618760256179416344) (fq .mul .f64 (fq .mul .f64 x3_15 4618760256179416344) (fq .mul .f64 x3_15 4618760256179416344)) x7_5 x8_5 = some r) ∧ Aside0 (kq ≤ kj15) ∧ Drawn0 w w')
                       case atStart => exact ⟨(4607182418800017408), (8), (by first | rfl | (simp; done) | (simp [*]; done)), (by first | rfl | (simp; done) | (simp [*]; done)), H', ⟨Nat.le_refl _⟩, by repeat (first | exact Drawn0.refl _ | apply Drawn0.step)⟩
                       case round =>
                        clear H'
                        (try clear c1); (try clear c2); (try clear c2b0); (try clear p2); (try clear c3); (try clear c3b0); (try clear c3b1); (try clear c3b2); (try clear c4); (try clear c6); (try clear c6b0); (try clear c6b1); (try clear c6b2); (try clear c7); (try clear c8); (try clear c8b0); (try clear c9); (try clear c9b0); (try clear c11); (try clear c11b0); (try clear c11b1); (try clear c11b2); (try clear c12); (try clear c12b0); (try clear c13); (try clear c14); (try clear c14b0); (try clear c14b1); (try clear c14b2); (try clear c15); (try clear c15b0); (try clear c17); (try clear c17b0); (try clear c17b1); (try clear c17b2); (try clear c18); (try clear c18b0); (try clear c19); (try clear c19b0); (try clear c20); (try clear c20b0); (try clear p2)
                        obtain ⟨x7_5, x8_5, rfl, rfl, HA, HK5, ⟨m5, rfl⟩⟩ := hrel
                        cases gk with
                        | zero => exact absurd HA.out (by simp [spec_l01SineWide.l0])
                        | succ k5 =>
                         have H := HA.out
                         clear HA
                         simp only [spec_l01SineWide.l0] at H
                         by_cases c21 : x8_5 ≥ 1
                         · rw [if_pos c21] at H
                           have c21b0 : decide (1 ≤ x8_5) = true := decide_eq_true c21
                           clear c21
                           by_cases c22 : FOk .mul .f64 (fq .mul .f64 (fq .mul .f64 x3_15 4618760256179416344) (fq .mul .f64 x3_15 4618760256179416344)) x7_5 = true
                           · rw [if_pos c22] at H
                             have fe22 := fun t w => frun (P := Try.prog) c22 t w
                             have c22b0 : FOk .mul .f64 (fq .mul .f64 (fq .mul .f64 x3_15 4618760256179416344) (fq .mul .f64 x3_15 4618760256179416344)) x7_5 = true := c22
                             clear c22
                             by_cases c23 : FOk .quo .f64 (fq .mul .f64 (fq .mul .f64 (fq .mul .f64 x3_15 4618760256179416344) (fq .mul .f64 x3_15 4618760256179416344)) x7_5) (floatOfInt .f64 (wrap64 ((wrap64 (2 * x8_5)) * (wrap64 ((wrap64 (2 * x8_5)) + 1))))) = true
                             · rw [if_pos c23] at H
                               have fe23 := fun t w => frun (P := Try.prog) c23 t w
                               have c23b0 : FOk .quo .f64 (fq .mul .f64 (fq .mul .f64 (fq .mul .f64 x3_15 4618760256179416344) (fq .mul .f64 x3_15 4618760256179416344)) x7_5) (floatOfInt .f64 (wrap64 ((wrap64 (2 * x8_5)) * (wrap64 ((wrap64 (2 * x8_5)) + 1))))) = true := c23
                               clear c23
                               by_cases c24 : FOk .sub .f64 4607182418800017408 (fq .quo .f64 (fq .mul .f64 (fq .mul .f64 (fq .mul .f64 x3_15 4618760256179416344) (fq .mul .f64 x3_15 4618760256179416344)) x7_5) (floatOfInt .f64 (wrap64 ((wrap64 (2 * x8_5)) * (wrap64 ((wrap64 (2 * x8_5)) + 1)))))) = true
                               · rw [if_pos c24] at H
                                 have fe24 := fun t w => frun (P := Try.prog) c24 t w
                                 have c24b0 : FOk .sub .f64 4607182418800017408 (fq .quo .f64 (fq .mul .f64 (fq .mul .f64 (fq .mul .f64 x3_15 4618760256179416344) (fq .mul .f64 x3_15 4618760256179416344)) x7_5) (floatOfInt .f64 (wrap64 ((wrap64 (2 * x8_5)) * (wrap64 ((wrap64 (2 * x8_5)) + 1)))))) = true := c24
                                 clear c24
                                 have H' := Aside0.mk H
                                 clear H
                                 go_wp2
                                 go_roundg k5
                                 case measure => have := HJ4.out; have := HJ9.out; have := HJ12.out; have := HJ15.out; have := HK5.out; omega
                                 case rel => exact ⟨(fq .sub .f64 4607182418800017408 (fq .quo .f64 (fq .mul .f64 (fq .mul .f64 (fq .mul .f64 x3_15 4618760256179416344) (fq .mul .f64 x3_15 4618760256179416344)) x7_5) (floatOfInt .f64 (wrap64 ((wrap64 (2 * x8_5)) * (wrap64 ((wrap64 (2 * x8_5)) + 1))))))), (wrap64 (x8_5 - 1)), (by first | rfl | (simp; done) | (simp [*]; done)), (by first | rfl | (simp; done) | (simp [*]; done)), H', ⟨by have := HJ4.out; have := HJ9.out; have := HJ12.out; have := HJ15.out; have := HK5.out; omega⟩, by repeat (first | exact Drawn0.refl _ | apply Drawn0.step)⟩
                               · rw [if_neg c24] at H
                                 exact absurd H (by simp)
                             · rw [if_neg c23] at H
                               exact absurd H (by simp)
                           · rw [if_neg c22] at H
                             exact absurd H (by simp)
                         · rw [if_neg c21] at H
                           have c21b0 : decide (1 ≤ x8_5) = false := decide_eq_false c21
                           clear c21
                           by_cases c25 : b4_ = true
                           · rw [if_pos c25] at H
                             have c25b0 : b4_ = true := c25
                             (try (have c25b1 : decide (FloatKind.f64.format.order x3_9 4602678819172646912 = some .gt || FloatKind.f64.format.order x3_9 4602678819172646912 == some .eq) = true := by simpa using c25))
                             (try (have c25b2 : b4_ = true := by simpa using c25))
                             clear c25
                             subst c25b0
                             by_cases c26 : FOk .mul .f64 (fq .mul .f64 x3_15 4618760256179416344) x7_5 = true
                             · rw [if_pos c26] at H
                               have fe26 := fun t w => frun (P := Try.prog) c26 t w
                               have c26b0 : FOk .mul .f64 (fq .mul .f64 x3_15 4618760256179416344) x7_5 = true := c26
                               clear c26
                               obtain rfl := Option.some.inj H
                               go_wp2
                               go_ret
                               exact ⟨by first | rfl | (simp; done) | (simp [*]; done), by repeat (first | exact Drawn0.refl _ | apply Drawn0.step)⟩
                             · rw [if_neg c26] at H
                               exact absurd H (by simp)
                           · rw [if_neg c25] at H
                             have c25b0 : b4_ = false := by simpa using c25
                             (try (have c25b1 : decide (FloatKind.f64.format.order x3_9 4602678819172646912 = some .gt || FloatKind.f64.format.order x3_9 4602678819172646912 == some .eq) = false := by simpa using c25))
                             (try (have c25b2 : b4_ = false := by simpa using c25))
                             (try (have c25b3 : ¬ (FloatKind.f64.format.order x3_9 4602678819172646912 = some .gt || FloatKind.f64.format.order x3_9 4602678819172646912 == some .eq) := by simpa using c25))
                             clear c25
                             subst c25b0
                             by_cases c27 : FOk .mul .f64 (fq .mul .f64 x3_15 4618760256179416344) x7_5 = true
                             · rw [if_pos c27] at H
                               have fe27 := fun t w => frun (P := Try.prog) c27 t w
                               have c27b0 : FOk .mul .f64 (fq .mul .f64 x3_15 4618760256179416344) x7_5 = true := c27
                               clear c27
                               obtain rfl := Option.some.inj H
                               go_wp2
                               go_ret
                               exact ⟨by first | rfl | (simp; done) | (simp [*]; done), by repeat (first | exact Drawn0.refl _ | apply Drawn0.step)⟩
                             · rw [if_neg c27] at H
                               exact absurd H (by simp)
                     · rw [if_neg c20] at H
                       exact absurd H (by simp)
                   · rw [if_neg c19] at H
                     exact absurd H (by simp)
           · rw [if_neg c9] at H
             exact absurd H (by simp)
         · rw [if_neg c8] at H
           exact absurd H (by simp)
 · rw [if_neg c2] at H
   exact absurd H (by simp)

/-! ### spec_l01Narrow: function 128 -/
def spec_l01Narrow.f (a0 : Nat) : Option (Nat) := if FC 65 23 .f64 .f32 a0 = true then (some (fc .f64 .f32 a0)) else (none)
set_option maxHeartbeats 8000000 in
set_option maxRecDepth 100000 in
theorem spec_l01Narrow.calls (a0 : Nat) (r : Nat) (w : World) (h : spec_l01Narrow.f a0 = some r) :
 Calls Try.prog 128 #[.float .f64 a0] w fun e w' => e = .returned (.float .f32 r) ∧ Drawn0 w w' := by
 have hu23 := Try.underlying23
 have hu65 := Try.underlying65
 have H : (if FC 65 23 .f64 .f32 a0 = true then (some (fc .f64 .f32 a0)) else (none)) = some r := h
 clear h
 by_cases c2 : FC 65 23 .f64 .f32 a0 = true
 · rw [if_pos c2] at H
   have fe2 := fun w => frunc (P := Try.prog) (src := 65) (dst := 23) (by kernel_rfl) Try.underlying23 c2 w
   have c2b0 : FC 65 23 .f64 .f32 a0 = true := c2
   clear c2
   obtain rfl := Option.some.inj H
   go_enter Try.func128, Try.ntmps128
   go_wp2
   go_ret
   exact ⟨by first | rfl | (simp; done) | (simp [*]; done), by repeat (first | exact Drawn0.refl _ | apply Drawn0.step)⟩
 · rw [if_neg c2] at H
   exact absurd H (by simp)

/-! ### spec_l01Phasor: function 106 -/
mutual
def spec_l01Phasor.j0 : Nat → Nat → Bool → Option (C64)
 | 0, _, _ => none
 | k + 1, x0, x19 => if x19 = true then (some (⟨1065353216, 0⟩ : C64)) else (if FI 65 2 .f64 x0 = true then (if FOk .sub .f64 x0 (floatOfInt .f64 (fi .f64 x0)) = true then (if (FloatKind.f64.format.order (fq .sub .f64 x0 (floatOfInt .f64 (fi .f64 x0))) 0 == some .lt) = true then (if FOk .add .f64 (fq .sub .f64 x0 (floatOfInt .f64 (fi .f64 x0))) 4607182418800017408 = true then (spec_l01Phasor.j1 k (fq .add .f64 (fq .sub .f64 x0 (floatOfInt .f64 (fi .f64 x0))) 4607182418800017408)) else (none)) else (spec_l01Phasor.j1 k (fq .sub .f64 x0 (floatOfInt .f64 (fi .f64 x0))))) else (none)) else (none))
def spec_l01Phasor.j1 : Nat → Nat → Option (C64)
 | 0, _ => none
 | k + 1, x3 => spec_l01Phasor.l0 k x3 0
def spec_l01Phasor.l0 : Nat → Nat → Int → Option (C64)
 | 0, _, _ => none
 | k + 1, x3, x4 => if (FloatKind.f64.format.order x3 4598175219545276416 == some .gt || FloatKind.f64.format.order x3 4598175219545276416 == some .eq) = true then (if FOk .sub .f64 x3 4598175219545276416 = true then (spec_l01Phasor.l0 k (fq .sub .f64 x3 4598175219545276416) (wrap64 (x4 + 1))) else (none)) else (if FOk .sub .f64 4598175219545276416 x3 = true then ((spec_l01SineWide.f k (fq .sub .f64 4598175219545276416 x3)).bind fun t170 => ((spec_l01SineWide.f k x3).bind fun t171 => (if x4 = 1 then (if FOk .sub .f64 0 t171 = true then ((spec_l01Narrow.f (fq .sub .f64 0 t171)).bind fun t172 => ((spec_l01Narrow.f t170).bind fun t173 => (some (⟨t172, t173⟩ : C64)))) else (none)) else (if x4 = 2 then (if FOk .sub .f64 0 t170 = true then ((spec_l01Narrow.f (fq .sub .f64 0 t170)).bind fun t174 => (if FOk .sub .f64 0 t171 = true then ((spec_l01Narrow.f (fq .sub .f64 0 t171)).bind fun t175 => (some (⟨t174, t175⟩ : C64))) else (none))) else (none)) else (if x4 = 3 then ((spec_l01Narrow.f t171).bind fun t176 => (if FOk .sub .f64 0 t170 = true then ((spec_l01Narrow.f (fq .sub .f64 0 t170)).bind fun t177 => (some (⟨t176, t177⟩ : C64))) else (none))) else ((spec_l01Narrow.f t170).bind fun t178 => ((spec_l01Narrow.f t171).bind fun t179 => (some (⟨t178, t179⟩ : C64))))))))) else (none))
end
def spec_l01Phasor.f (k : Nat) (a0 : Nat) : Option (C64) := if FOk .sub .f64 a0 a0 = true then (if (FloatKind.f64.format.order (fq .sub .f64 a0 a0) 0 != some .eq) = true then ((spec_l01From.f 2143289344).bind fun t168 => ((spec_l01From.f 2143289344).bind fun t169 => (some (⟨t168, t169⟩ : C64)))) else (if (FloatKind.f64.format.order a0 4841369599423283200 == some .gt || FloatKind.f64.format.order a0 4841369599423283200 == some .eq) = true then (spec_l01Phasor.j0 k a0 true) else (spec_l01Phasor.j0 k a0 (FloatKind.f64.format.order a0 14064741636278059008 == some .lt || FloatKind.f64.format.order a0 14064741636278059008 == some .eq)))) else (none)
set_option maxHeartbeats 8000000 in
set_option maxRecDepth 100000 in
theorem spec_l01Phasor.calls (k : Nat) (a0 : Nat) (r : C64) (w : World) (h : spec_l01Phasor.f k a0 = some r) :
 Calls Try.prog 106 #[.float .f64 a0] w fun e w' => e = .returned (.complex .f32 r.re r.im) ∧ Below w.heap.size w w' := by
 have hu2 := Try.underlying2
 have hu65 := Try.underlying65
 have HB := Aside0.mk (Below.refl w.heap.size w)
 have H : (if FOk .sub .f64 a0 a0 = true then (if (FloatKind.f64.format.order (fq .sub .f64 a0 a0) 0 != some .eq) = true then ((spec_l01From.f 2143289344).bind fun t168 => ((spec_l01From.f 2143289344).bind fun t169 => (some (⟨t168, t169⟩ : C64)))) else (if (FloatKind.f64.format.order a0 4841369599423283200 == some .gt || FloatKind.f64.format.order a0 4841369599423283200 == some .eq) = true then (spec_l01Phasor.j0 k a0 true) else (spec_l01Phasor.j0 k a0 (FloatKind.f64.format.order a0 14064741636278059008 == some .lt || FloatKind.f64.format.order a0 14064741636278059008 == some .eq)))) else (none)) = some r := h
 clear h
 by_cases c2 : FOk .sub .f64 a0 a0 = true
 · rw [if_pos c2] at H
   have fe2 := fun t w => frun (P := Try.prog) c2 t w
   have c2b0 : FOk .sub .f64 a0 a0 = true := c2
   clear c2
   by_cases c3 : (FloatKind.f64.format.order (fq .sub .f64 a0 a0) 0 != some .eq) = true
   · rw [if_pos c3] at H
     have c3b0 : (FloatKind.f64.format.order (fq .sub .f64 a0 a0) 0 != some .eq) = true := c3
     (try (have c3b1 : decide (FloatKind.f64.format.order (fq .sub .f64 a0 a0) 0 = some .eq) = false := by simpa using c3))
     (try (have c3b2 : (FloatKind.f64.format.order (fq .sub .f64 a0 a0) 0 == some .eq) = false := by simpa using c3))
     (try (have c3b3 : ¬ (FloatKind.f64.format.order (fq .sub .f64 a0 a0) 0 = some .eq) := by simpa using c3))
     clear c3
     replace H := Option.bind_eq_some_iff.mp H
     obtain ⟨t168, A40, H⟩ := H
     replace H : ((spec_l01From.f 2143289344).bind fun t169 => (some (⟨t168, t169⟩ : C64))) = some r := H
     have A4 := Aside0.mk A40
     clear A40
     replace H := Option.bind_eq_some_iff.mp H
     obtain ⟨t169, A50, H⟩ := H
     replace H : (some (⟨t168, t169⟩ : C64)) = some r := H
     have A5 := Aside0.mk A50
     clear A50
     obtain rfl := Option.some.inj H
     go_enter Try.func106, Try.ntmps106
     go_wp2_with (first | ((with_reducible refine gate_callee (f := 126) rfl ?_); refine goesL_ (some 11) rfl rfl Try.func126 (by kernel_rfl) rfl #[.int .i64 2143289344] rfl (by (try simp only [List.map_toArray, List.map_cons, List.map_nil]); first | done | rfl | (simp only [List.length_drop, List.length_take]; rfl)) ?_; (with_reducible refine (spec_l01From.calls 2143289344 t168 _ A4.out).mono ?_); rintro e w' ⟨rfl, ⟨nd, rfl⟩⟩; refine ⟨_, rfl, ?_⟩) | ((with_reducible refine gate_callee (f := 126) rfl ?_); refine goesL_ (some 12) rfl rfl Try.func126 (by kernel_rfl) rfl #[.int .i64 2143289344] rfl (by (try simp only [List.map_toArray, List.map_cons, List.map_nil]); first | done | rfl | (simp only [List.length_drop, List.length_take]; rfl)) ?_; (with_reducible refine (spec_l01From.calls 2143289344 t169 _ A5.out).mono ?_); rintro e w' ⟨rfl, ⟨nd, rfl⟩⟩; refine ⟨_, rfl, ?_⟩))
     go_ret
     exact ⟨by first | rfl | (simp [errW_none, errW_some] <;> rfl) | (simp [*, errW_none, errW_some] <;> rfl), by repeat (first | (with_reducible first | exact HB.out | apply below_alloc | apply pw_below_drewN | apply below_drew1) | exact HB.out)⟩
   · rw [if_neg c3] at H
     have c3b0 : (FloatKind.f64.format.order (fq .sub .f64 a0 a0) 0 != some .eq) = false := by simpa using c3
     (try (have c3b1 : decide (FloatKind.f64.format.order (fq .sub .f64 a0 a0) 0 = some .eq) = true := by simpa using c3))
     (try (have c3b2 : (FloatKind.f64.format.order (fq .sub .f64 a0 a0) 0 == some .eq) = true := by simpa using c3))
     clear c3
     have HC6 := Aside0.mk H
     clear H
     go_enter Try.func106, Try.ntmps106
     go_upto_region 3 with (fail)
     go_cut [19] (fun v19 wc => ∃ (kq : Nat) (x19_5 : Bool), v19 = .bool x19_5 ∧ Aside0 (spec_l01Phasor.j0 kq a0 x19_5 = some r) ∧ Aside0 (kq ≤ k) ∧ Aside0 (Below w.heap.size w wc))
     case first =>
      have H := HC6.out
      clear HC6
      by_cases c7 : (FloatKind.f64.format.order a0 4841369599423283200 == some .gt || FloatKind.f64.format.order a0 4841369599423283200 == some .eq) = true
      · rw [if_pos c7] at H
        have c7b0 : (FloatKind.f64.format.order a0 4841369599423283200 == some .gt || FloatKind.f64.format.order a0 4841369599423283200 == some .eq) = true := c7
        (try (have c7b1 : decide (FloatKind.f64.format.order a0 4841369599423283200 = some .gt || FloatKind.f64.format.order a0 4841369599423283200 == some .eq) = true := by simpa using c7))
        (try (have c7b2 : (FloatKind.f64.format.order a0 4841369599423283200 == some .gt || FloatKind.f64.format.order a0 4841369599423283200 == some .eq) = true := by simpa using c7))
        clear c7
        (first | rw [c7b0] | (simp only [i64_w, i32_w]; rw [c7b0]) | skip)
        have H' := Aside0.mk H
        clear H
        go_wp2
        go_meet
        case rel => exact ⟨_, (true), (by first | rfl | (simp; done) | (simp [*]; done)), H', ⟨by first | omega | exact Nat.le_refl _⟩, ⟨by repeat (first | (with_reducible first | exact HB.out | apply below_alloc | apply pw_below_drewN | apply below_drew1) | exact HB.out)⟩⟩
      · rw [if_neg c7] at H
        have c7b0 : (FloatKind.f64.format.order a0 4841369599423283200 == some .gt || FloatKind.f64.format.order a0 4841369599423283200 == some .eq) = false := by simpa using c7
        (try (have c7b1 : decide (FloatKind.f64.format.order a0 4841369599423283200 = some .gt || FloatKind.f64.format.order a0 4841369599423283200 == some .eq) = false := by simpa using c7))
        (try (have c7b2 : (FloatKind.f64.format.order a0 4841369599423283200 == some .gt || FloatKind.f64.format.order a0 4841369599423283200 == some .eq) = false := by simpa using c7))
        (try (have c7b3 : ¬ (FloatKind.f64.format.order a0 4841369599423283200 = some .gt || FloatKind.f64.format.order a0 4841369599423283200 == some .eq) := by simpa using c7))
        clear c7
        (first | rw [c7b0] | (simp only [i64_w, i32_w]; rw [c7b0]) | skip)
        have H' := Aside0.mk H
        clear H
        go_wp2
        go_meet
        case rel => exact ⟨_, ((FloatKind.f64.format.order a0 14064741636278059008 == some .lt || FloatKind.f64.format.order a0 14064741636278059008 == some .eq)), (by first | rfl | (simp; done) | (simp [*]; done)), H', ⟨by first | omega | exact Nat.le_refl _⟩, ⟨by repeat (first | (with_reducible first | exact HB.out | apply below_alloc | apply pw_below_drewN | apply below_drew1) | exact HB.out)⟩⟩
     case rest =>
      clear HC6
      (try clear c1); (try clear c2); (try clear c2b0); (try clear p2); (try clear c3); (try clear c3b0); (try clear c3b1); (try clear c3b2); (try clear c7); (try clear c7b0); (try clear c7b1); (try clear c7b2)
      obtain ⟨kq, x19_5, rfl, HA, HJ5, HB⟩ := hcut
      cases kq with
      | zero => exact absurd HA.out (by simp [spec_l01Phasor.j0])
      | succ kj5 =>
       have H := HA.out
       clear HA
       simp only [spec_l01Phasor.j0] at H
       by_cases c8 : x19_5 = true
       · subst c8
         have H1 : (some (⟨1065353216, 0⟩ : C64)) = some r := by rw [if_pos rfl] at H; exact H
         clear H
         have H := H1
         clear H1
         obtain rfl := Option.some.inj H
         go_wp2
         go_ret
         exact ⟨by first | rfl | (simp [errW_none, errW_some] <;> rfl) | (simp [*, errW_none, errW_some] <;> rfl), by repeat (first | (with_reducible first | exact HB.out | apply below_alloc | apply pw_below_drewN | apply below_drew1) | exact HB.out)⟩
       · replace c8 := Bool.eq_false_iff.mpr c8
         subst c8
         have H1 : (if FI 65 2 .f64 a0 = true then (if FOk .sub .f64 a0 (floatOfInt .f64 (fi .f64 a0)) = true then (if (FloatKind.f64.format.order (fq .sub .f64 a0 (floatOfInt .f64 (fi .f64 a0))) 0 == some .lt) = true then (if FOk .add .f64 (fq .sub .f64 a0 (floatOfInt .f64 (fi .f64 a0))) 4607182418800017408 = true then (spec_l01Phasor.j1 kj5 (fq .add .f64 (fq .sub .f64 a0 (floatOfInt .f64 (fi .f64 a0))) 4607182418800017408)) else (none)) else (spec_l01Phasor.j1 kj5 (fq .sub .f64 a0 (floatOfInt .f64 (fi .f64 a0))))) else (none)) else (none)) = some r := by rw [if_neg (show ¬ (false = true) by decide)] at H; exact H
         clear H
         have H := H1
         clear H1
         by_cases c9 : FI 65 2 .f64 a0 = true
         · rw [if_pos c9] at H
           have fe9 := fun w => fruni (P := Try.prog) (src := 65) (dst := 2) (by kernel_rfl) Try.underlying2 c9 w
           have c9b0 : FI 65 2 .f64 a0 = true := c9
           clear c9
           by_cases c10 : FOk .sub .f64 a0 (floatOfInt .f64 (fi .f64 a0)) = true
           · rw [if_pos c10] at H
             have fe10 := fun t w => frun (P := Try.prog) c10 t w
             have c10b0 : FOk .sub .f64 a0 (floatOfInt .f64 (fi .f64 a0)) = true := c10
             clear c10
             have HC11 := Aside0.mk H
             clear H
             go_upto_if 26 with (fail)
             go_cut [3] (fun v3 wc => ∃ (kq : Nat) (x3_10 : Nat), v3 = .float .f64 x3_10 ∧ Aside0 (spec_l01Phasor.j1 kq x3_10 = some r) ∧ Aside0 (kq ≤ kj5) ∧ Aside0 (Below w.heap.size w wc))
             case first =>
              have H := HC11.out
              clear HC11
              by_cases c12 : (FloatKind.f64.format.order (fq .sub .f64 a0 (floatOfInt .f64 (fi .f64 a0))) 0 == some .lt) = true
              · rw [if_pos c12] at H
                have c12b0 : (FloatKind.f64.format.order (fq .sub .f64 a0 (floatOfInt .f64 (fi .f64 a0))) 0 == some .lt) = true := c12
                (try (have c12b1 : decide (FloatKind.f64.format.order (fq .sub .f64 a0 (floatOfInt .f64 (fi .f64 a0))) 0 = some .lt) = true := by simpa using c12))
                (try (have c12b2 : (FloatKind.f64.format.order (fq .sub .f64 a0 (floatOfInt .f64 (fi .f64 a0))) 0 == some .lt) = true := by simpa using c12))
                clear c12
                (first | rw [c12b0] | (simp only [i64_w, i32_w]; rw [c12b0]) | skip)
                by_cases c13 : FOk .add .f64 (fq .sub .f64 a0 (floatOfInt .f64 (fi .f64 a0))) 4607182418800017408 = true
                · rw [if_pos c13] at H
                  have fe13 := fun t w => frun (P := Try.prog) c13 t w
                  have c13b0 : FOk .add .f64 (fq .sub .f64 a0 (floatOfInt .f64 (fi .f64 a0))) 4607182418800017408 = true := c13
                  clear c13
                  have H' := Aside0.mk H
                  clear H
                  go_wp2
                  go_meet
                  case rel => exact ⟨_, (fq .add .f64 (fq .sub .f64 a0 (floatOfInt .f64 (fi .f64 a0))) 4607182418800017408), (by first | rfl | (simp; done) | (simp [*]; done)), H', ⟨by have := HJ5.out; first | omega | exact Nat.le_refl _⟩, ⟨by repeat (first | (with_reducible first | exact HB.out | apply below_alloc | apply pw_below_drewN | apply below_drew1) | exact HB.out)⟩⟩
                · rw [if_neg c13] at H
                  exact absurd H (by simp)
              · rw [if_neg c12] at H
                have c12b0 : (FloatKind.f64.format.order (fq .sub .f64 a0 (floatOfInt .f64 (fi .f64 a0))) 0 == some .lt) = false := by simpa using c12
                (try (have c12b1 : decide (FloatKind.f64.format.order (fq .sub .f64 a0 (floatOfInt .f64 (fi .f64 a0))) 0 = some .lt) = false := by simpa using c12))
                (try (have c12b2 : (FloatKind.f64.format.order (fq .sub .f64 a0 (floatOfInt .f64 (fi .f64 a0))) 0 == some .lt) = false := by simpa using c12))
                (try (have c12b3 : ¬ (FloatKind.f64.format.order (fq .sub .f64 a0 (floatOfInt .f64 (fi .f64 a0))) 0 = some .lt) := by simpa using c12))
                clear c12
                (first | rw [c12b0] | (simp only [i64_w, i32_w]; rw [c12b0]) | skip)
                have H' := Aside0.mk H
                clear H
                go_wp2
                go_meet
                case rel => exact ⟨_, (fq .sub .f64 a0 (floatOfInt .f64 (fi .f64 a0))), (by first | rfl | (simp; done) | (simp [*]; done)), H', ⟨by have := HJ5.out; first | omega | exact Nat.le_refl _⟩, ⟨by repeat (first | (with_reducible first | exact HB.out | apply below_alloc | apply pw_below_drewN | apply below_drew1) | exact HB.out)⟩⟩
             case rest =>
              clear HC11
              (try clear c1); (try clear c2); (try clear c2b0); (try clear p2); (try clear c3); (try clear c3b0); (try clear c3b1); (try clear c3b2); (try clear c7); (try clear c7b0); (try clear c7b1); (try clear c7b2); (try clear c8); (try clear c9); (try clear c9b0); (try clear c10); (try clear c10b0); (try clear c12); (try clear c12b0); (try clear c12b1); (try clear c12b2); (try clear c13); (try clear c13b0); (try clear p2)
              obtain ⟨kq, x3_10, rfl, HA, HJ10, HB⟩ := hcut
              cases kq with
              | zero => exact absurd HA.out (by simp [spec_l01Phasor.j1])
              | succ kj10 =>
               have H := HA.out
               clear HA
               simp only [spec_l01Phasor.j1] at H
               have H' := Aside0.mk H
               clear H
               go_wp2
               go_loopg [3, 4] kj10 (fun kq v3 v4 w' => ∃ (x3_3 : Nat) (x4_3 : Int), v3 = .float .f64 x3_3 ∧ v4 = .int .i64 x4_3 ∧ Aside0 (spec_l01Phasor.l0 kq x3_3 x4_3 = some r) ∧ Aside0 (kq ≤ kj10) ∧ Aside0 (Below w.heap.size w w'))
               case atStart => exact ⟨(x3_10), (0), (by first | rfl | (simp; done) | (simp [*]; done)), (by first | rfl | (simp; done) | (simp [*]; done)), H', ⟨Nat.le_refl _⟩, ⟨by repeat (first | (with_reducible first | exact HB.out | apply below_alloc | apply pw_below_drewN | apply below_drew1) | exact HB.out)⟩⟩
               case round =>
                clear H'
                (try clear c1); (try clear c2); (try clear c2b0); (try clear p2); (try clear c3); (try clear c3b0); (try clear c3b1); (try clear c3b2); (try clear c7); (try clear c7b0); (try clear c7b1); (try clear c7b2); (try clear c8); (try clear c9); (try clear c9b0); (try clear c10); (try clear c10b0); (try clear c12); (try clear c12b0); (try clear c12b1); (try clear c12b2); (try clear c13); (try clear c13b0); (try clear p2)
                obtain ⟨x3_3, x4_3, rfl, rfl, HA, HK3, HB⟩ := hrel
                cases gk with
                | zero => exact absurd HA.out (by simp [spec_l01Phasor.l0])
                | succ k3 =>
                 have H := HA.out
                 clear HA
                 simp only [spec_l01Phasor.l0] at H
                 by_cases c14 : (FloatKind.f64.format.order x3_3 4598175219545276416 == some .gt || FloatKind.f64.format.order x3_3 4598175219545276416 == some .eq) = true
                 · rw [if_pos c14] at H
                   have c14b0 : (FloatKind.f64.format.order x3_3 4598175219545276416 == some .gt || FloatKind.f64.format.order x3_3 4598175219545276416 == some .eq) = true := c14
                   (try (have c14b1 : decide (FloatKind.f64.format.order x3_3 4598175219545276416 = some .gt || FloatKind.f64.format.order x3_3 4598175219545276416 == some .eq) = true := by simpa using c14))
                   (try (have c14b2 : (FloatKind.f64.format.order x3_3 4598175219545276416 == some .gt || FloatKind.f64.format.order x3_3 4598175219545276416 == some .eq) = true := by simpa using c14))
                   clear c14
                   by_cases c15 : FOk .sub .f64 x3_3 4598175219545276416 = true
                   · rw [if_pos c15] at H
                     have fe15 := fun t w => frun (P := Try.prog) c15 t w
                     have c15b0 : FOk .sub .f64 x3_3 4598175219545276416 = true := c15
                     clear c15
                     have H' := Aside0.mk H
                     clear H
                     go_wp2
                     go_roundg k3
                     case measure => have := HJ5.out; have := HJ10.out; have := HK3.out; omega
                     case rel => exact ⟨(fq .sub .f64 x3_3 4598175219545276416), (wrap64 (x4_3 + 1)), (by first | rfl | (simp; done) | (simp [*]; done)), (by first | rfl | (simp; done) | (simp [*]; done)), H', ⟨by have := HJ5.out; have := HJ10.out; have := HK3.out; omega⟩, ⟨by repeat (first | (with_reducible first | exact HB.out | apply below_alloc | apply pw_below_drewN | apply below_drew1) | exact HB.out)⟩⟩
                   · rw [if_neg c15] at H
                     exact absurd H (by simp)
                 · rw [if_neg c14] at H
                   have c14b0 : (FloatKind.f64.format.order x3_3 4598175219545276416 == some .gt || FloatKind.f64.format.order x3_3 4598175219545276416 == some .eq) = false := by simpa using c14
                   (try (have c14b1 : decide (FloatKind.f64.format.order x3_3 4598175219545276416 = some .gt || FloatKind.f64.format.order x3_3 4598175219545276416 == some .eq) = false := by simpa using c14))
                   (try (have c14b2 : (FloatKind.f64.format.order x3_3 4598175219545276416 == some .gt || FloatKind.f64.format.order x3_3 4598175219545276416 == some .eq) = false := by simpa using c14))
                   (try (have c14b3 : ¬ (FloatKind.f64.format.order x3_3 4598175219545276416 = some .gt || FloatKind.f64.format.order x3_3 4598175219545276416 == some .eq) := by simpa using c14))
                   clear c14
                   by_cases c16 : FOk .sub .f64 4598175219545276416 x3_3 = true
                   · rw [if_pos c16] at H
                     have fe16 := fun t w => frun (P := Try.prog) c16 t w
                     have c16b0 : FOk .sub .f64 4598175219545276416 x3_3 = true := c16
                     clear c16
                     replace H := Option.bind_eq_some_iff.mp H
                     obtain ⟨t170, A170, H⟩ := H
                     replace H : ((spec_l01SineWide.f k3 x3_3).bind fun t171 => (if x4_3 = 1 then (if FOk .sub .f64 0 t171 = true then ((spec_l01Narrow.f (fq .sub .f64 0 t171)).bind fun t172 => ((spec_l01Narrow.f t170).bind fun t173 => (some (⟨t172, t173⟩ : C64)))) else (none)) else (if x4_3 = 2 then (if FOk .sub .f64 0 t170 = true then ((spec_l01Narrow.f (fq .sub .f64 0 t170)).bind fun t174 => (if FOk .sub .f64 0 t171 = true then ((spec_l01Narrow.f (fq .sub .f64 0 t171)).bind fun t175 => (some (⟨t174, t175⟩ : C64))) else (none))) else (none)) else (if x4_3 = 3 then ((spec_l01Narrow.f t171).bind fun t176 => (if FOk .sub .f64 0 t170 = true then ((spec_l01Narrow.f (fq .sub .f64 0 t170)).bind fun t177 => (some (⟨t176, t177⟩ : C64))) else (none))) else ((spec_l01Narrow.f t170).bind fun t178 => ((spec_l01Narrow.f t171).bind fun t179 => (some (⟨t178, t179⟩ : C64)))))))) = some r := H
                     have A17 := Aside0.mk A170
                     clear A170
                     replace H := Option.bind_eq_some_iff.mp H
                     obtain ⟨t171, A180, H⟩ := H
                     replace H : (if x4_3 = 1 then (if FOk .sub .f64 0 t171 = true then ((spec_l01Narrow.f (fq .sub .f64 0 t171)).bind fun t172 => ((spec_l01Narrow.f t170).bind fun t173 => (some (⟨t172, t173⟩ : C64)))) else (none)) else (if x4_3 = 2 then (if FOk .sub .f64 0 t170 = true then ((spec_l01Narrow.f (fq .sub .f64 0 t170)).bind fun t174 => (if FOk .sub .f64 0 t171 = true then ((spec_l01Narrow.f (fq .sub .f64 0 t171)).bind fun t175 => (some (⟨t174, t175⟩ : C64))) else (none))) else (none)) else (if x4_3 = 3 then ((spec_l01Narrow.f t171).bind fun t176 => (if FOk .sub .f64 0 t170 = true then ((spec_l01Narrow.f (fq .sub .f64 0 t170)).bind fun t177 => (some (⟨t176, t177⟩ : C64))) else (none))) else ((spec_l01Narrow.f t170).bind fun t178 => ((spec_l01Narrow.f t171).bind fun t179 => (some (⟨t178, t179⟩ : C64))))))) = some r := H
                     have A18 := Aside0.mk A180
                     clear A180
                     by_cases c19 : x4_3 = 1
                     · rw [if_pos c19] at H
                       have c19b0 : (x4_3 == 1) = true := beq_iff_eq.mpr c19
                       have c19b1 : (x4_3 != 1) = false := bne_eq_false_iff_eq.mpr c19
                       clear c19
                       by_cases c20 : FOk .sub .f64 0 t171 = true
                       · rw [if_pos c20] at H
                         have fe20 := fun t w => frun (P := Try.prog) c20 t w
                         have c20b0 : FOk .sub .f64 0 t171 = true := c20
                         clear c20
                         replace H := Option.bind_eq_some_iff.mp H
                         obtain ⟨t172, A210, H⟩ := H
                         replace H : ((spec_l01Narrow.f t170).bind fun t173 => (some (⟨t172, t173⟩ : C64))) = some r := H
                         have A21 := Aside0.mk A210
                         clear A210
                         replace H := Option.bind_eq_some_iff.mp H
                         obtain ⟨t173, A220, H⟩ := H
                         replace H : (some (⟨t172, t173⟩ : C64)) = some r := H
                         have A22 := Aside0.mk A220
                         clear A220
                         obtain rfl := Option.some.inj H
                         go_wp2_with (first | ((with_reducible refine gate_callee (f := 127) rfl ?_); refine goesL_ (some 37) rfl rfl Try.func127 (by kernel_rfl) rfl #[.float .f64 (fq .sub .f64 4598175219545276416 x3_3)] rfl (by (try simp only [List.map_toArray, List.map_cons, List.map_nil]); first | done | rfl | (simp only [List.length_drop, List.length_take]; rfl)) ?_; (with_reducible refine (spec_l01SineWide.calls k3 (fq .sub .f64 4598175219545276416 x3_3) t170 _ A17.out).mono ?_); rintro e w' ⟨rfl, ⟨nd, rfl⟩⟩; refine ⟨_, rfl, ?_⟩) | ((with_reducible refine gate_callee (f := 127) rfl ?_); refine goesL_ (some 39) rfl rfl Try.func127 (by kernel_rfl) rfl #[.float .f64 x3_3] rfl (by (try simp only [List.map_toArray, List.map_cons, List.map_nil]); first | done | rfl | (simp only [List.length_drop, List.length_take]; rfl)) ?_; (with_reducible refine (spec_l01SineWide.calls k3 x3_3 t171 _ A18.out).mono ?_); rintro e w' ⟨rfl, ⟨nd, rfl⟩⟩; refine ⟨_, rfl, ?_⟩) | ((with_reducible refine gate_callee (f := 128) rfl ?_); refine goesL_ (some 45) rfl rfl Try.func128 (by kernel_rfl) rfl #[.float .f64 (fq .sub .f64 0 t171)] rfl (by (try simp only [List.map_toArray, List.map_cons, List.map_nil]); first | done | rfl | (simp only [List.length_drop, List.length_take]; rfl)) ?_; (with_reducible refine (spec_l01Narrow.calls (fq .sub .f64 0 t171) t172 _ A21.out).mono ?_); rintro e w' ⟨rfl, ⟨nd, rfl⟩⟩; refine ⟨_, rfl, ?_⟩) | ((with_reducible refine gate_callee (f := 128) rfl ?_); refine goesL_ (some 47) rfl rfl Try.func128 (by kernel_rfl) rfl #[.float .f64 t170] rfl (by (try simp only [List.map_toArray, List.map_cons, List.map_nil]); first | done | rfl | (simp only [List.length_drop, List.length_take]; rfl)) ?_; (with_reducible refine (spec_l01Narrow.calls t170 t173 _ A22.out).mono ?_); rintro e w' ⟨rfl, ⟨nd, rfl⟩⟩; refine ⟨_, rfl, ?_⟩))
                         go_ret
                         exact ⟨by first | rfl | (simp [errW_none, errW_some] <;> rfl) | (simp [*, errW_none, errW_some] <;> rfl), by repeat (first | (with_reducible first | exact HB.out | apply below_alloc | apply pw_below_drewN | apply below_drew1) | exact HB.out)⟩
                       · rw [if_neg c20] at H
                         exact absurd H (by simp)
                     · rw [if_neg c19] at H
                       have c19b0 : (x4_3 == 1) = false := beq_eq_false_iff_ne.mpr c19
                       have c19b1 : (x4_3 != 1) = true := bne_iff_ne.mpr c19
                       by_cases c23 : x4_3 = 2
                       · rw [if_pos c23] at H
                         have c23b0 : (x4_3 == 2) = true := beq_iff_eq.mpr c23
                         have c23b1 : (x4_3 != 2) = false := bne_eq_false_iff_eq.mpr c23
                         clear c23
                         by_cases c24 : FOk .sub .f64 0 t170 = true
                         · rw [if_pos c24] at H
                           have fe24 := fun t w => frun (P := Try.prog) c24 t w
                           have c24b0 : FOk .sub .f64 0 t170 = true := c24
                           clear c24
                           replace H := Option.bind_eq_some_iff.mp H
                           obtain ⟨t174, A250, H⟩ := H
                           replace H : (if FOk .sub .f64 0 t171 = true then ((spec_l01Narrow.f (fq .sub .f64 0 t171)).bind fun t175 => (some (⟨t174, t175⟩ : C64))) else (none)) = some r := H
                           have A25 := Aside0.mk A250
                           clear A250
                           by_cases c26 : FOk .sub .f64 0 t171 = true
                           · rw [if_pos c26] at H
                             have fe26 := fun t w => frun (P := Try.prog) c26 t w
                             have c26b0 : FOk .sub .f64 0 t171 = true := c26
                             clear c26
                             replace H := Option.bind_eq_some_iff.mp H
                             obtain ⟨t175, A270, H⟩ := H
                             replace H : (some (⟨t174, t175⟩ : C64)) = some r := H
                             have A27 := Aside0.mk A270
                             clear A270
                             obtain rfl := Option.some.inj H
                             go_wp2_with (first | ((with_reducible refine gate_callee (f := 127) rfl ?_); refine goesL_ (some 37) rfl rfl Try.func127 (by kernel_rfl) rfl #[.float .f64 (fq .sub .f64 4598175219545276416 x3_3)] rfl (by (try simp only [List.map_toArray, List.map_cons, List.map_nil]); first | done | rfl | (simp only [List.length_drop, List.length_take]; rfl)) ?_; (with_reducible refine (spec_l01SineWide.calls k3 (fq .sub .f64 4598175219545276416 x3_3) t170 _ A17.out).mono ?_); rintro e w' ⟨rfl, ⟨nd, rfl⟩⟩; refine ⟨_, rfl, ?_⟩) | ((with_reducible refine gate_callee (f := 127) rfl ?_); refine goesL_ (some 39) rfl rfl Try.func127 (by kernel_rfl) rfl #[.float .f64 x3_3] rfl (by (try simp only [List.map_toArray, List.map_cons, List.map_nil]); first | done | rfl | (simp only [List.length_drop, List.length_take]; rfl)) ?_; (with_reducible refine (spec_l01SineWide.calls k3 x3_3 t171 _ A18.out).mono ?_); rintro e w' ⟨rfl, ⟨nd, rfl⟩⟩; refine ⟨_, rfl, ?_⟩) | ((with_reducible refine gate_callee (f := 128) rfl ?_); refine goesL_ (some 53) rfl rfl Try.func128 (by kernel_rfl) rfl #[.float .f64 (fq .sub .f64 0 t170)] rfl (by (try simp only [List.map_toArray, List.map_cons, List.map_nil]); first | done | rfl | (simp only [List.length_drop, List.length_take]; rfl)) ?_; (with_reducible refine (spec_l01Narrow.calls (fq .sub .f64 0 t170) t174 _ A25.out).mono ?_); rintro e w' ⟨rfl, ⟨nd, rfl⟩⟩; refine ⟨_, rfl, ?_⟩) | ((with_reducible refine gate_callee (f := 128) rfl ?_); refine goesL_ (some 56) rfl rfl Try.func128 (by kernel_rfl) rfl #[.float .f64 (fq .sub .f64 0 t171)] rfl (by (try simp only [List.map_toArray, List.map_cons, List.map_nil]); first | done | rfl | (simp only [List.length_drop, List.length_take]; rfl)) ?_; (with_reducible refine (spec_l01Narrow.calls (fq .sub .f64 0 t171) t175 _ A27.out).mono ?_); rintro e w' ⟨rfl, ⟨nd, rfl⟩⟩; refine ⟨_, rfl, ?_⟩))
                             go_ret
                             exact ⟨by first | rfl | (simp [errW_none, errW_some] <;> rfl) | (simp [*, errW_none, errW_some] <;> rfl), by repeat (first | (with_reducible first | exact HB.out | apply below_alloc | apply pw_below_drewN | apply below_drew1) | exact HB.out)⟩
                           · rw [if_neg c26] at H
                             exact absurd H (by simp)
                         · rw [if_neg c24] at H
                           exact absurd H (by simp)
                       · rw [if_neg c23] at H
                         have c23b0 : (x4_3 == 2) = false := beq_eq_false_iff_ne.mpr c23
                         have c23b1 : (x4_3 != 2) = true := bne_iff_ne.mpr c23
                         by_cases c28 : x4_3 = 3
                         · rw [if_pos c28] at H
                           have c28b0 : (x4_3 == 3) = true := beq_iff_eq.mpr c28
                           have c28b1 : (x4_3 != 3) = false := bne_eq_false_iff_eq.mpr c28
                           clear c28
                           replace H := Option.bind_eq_some_iff.mp H
                           obtain ⟨t176, A290, H⟩ := H
                           replace H : (if FOk .sub .f64 0 t170 = true then ((spec_l01Narrow.f (fq .sub .f64 0 t170)).bind fun t177 => (some (⟨t176, t177⟩ : C64))) else (none)) = some r := H
                           have A29 := Aside0.mk A290
                           clear A290
                           by_cases c30 : FOk .sub .f64 0 t170 = true
                           · rw [if_pos c30] at H
                             have fe30 := fun t w => frun (P := Try.prog) c30 t w
                             have c30b0 : FOk .sub .f64 0 t170 = true := c30
                             clear c30
                             replace H := Option.bind_eq_some_iff.mp H
                             obtain ⟨t177, A310, H⟩ := H
                             replace H : (some (⟨t176, t177⟩ : C64)) = some r := H
                             have A31 := Aside0.mk A310
                             clear A310
                             obtain rfl := Option.some.inj H
                             go_wp2_with (first | ((with_reducible refine gate_callee (f := 127) rfl ?_); refine goesL_ (some 37) rfl rfl Try.func127 (by kernel_rfl) rfl #[.float .f64 (fq .sub .f64 4598175219545276416 x3_3)] rfl (by (try simp only [List.map_toArray, List.map_cons, List.map_nil]); first | done | rfl | (simp only [List.length_drop, List.length_take]; rfl)) ?_; (with_reducible refine (spec_l01SineWide.calls k3 (fq .sub .f64 4598175219545276416 x3_3) t170 _ A17.out).mono ?_); rintro e w' ⟨rfl, ⟨nd, rfl⟩⟩; refine ⟨_, rfl, ?_⟩) | ((with_reducible refine gate_callee (f := 127) rfl ?_); refine goesL_ (some 39) rfl rfl Try.func127 (by kernel_rfl) rfl #[.float .f64 x3_3] rfl (by (try simp only [List.map_toArray, List.map_cons, List.map_nil]); first | done | rfl | (simp only [List.length_drop, List.length_take]; rfl)) ?_; (with_reducible refine (spec_l01SineWide.calls k3 x3_3 t171 _ A18.out).mono ?_); rintro e w' ⟨rfl, ⟨nd, rfl⟩⟩; refine ⟨_, rfl, ?_⟩) | ((with_reducible refine gate_callee (f := 128) rfl ?_); refine goesL_ (some 61) rfl rfl Try.func128 (by kernel_rfl) rfl #[.float .f64 t171] rfl (by (try simp only [List.map_toArray, List.map_cons, List.map_nil]); first | done | rfl | (simp only [List.length_drop, List.length_take]; rfl)) ?_; (with_reducible refine (spec_l01Narrow.calls t171 t176 _ A29.out).mono ?_); rintro e w' ⟨rfl, ⟨nd, rfl⟩⟩; refine ⟨_, rfl, ?_⟩) | ((with_reducible refine gate_callee (f := 128) rfl ?_); refine goesL_ (some 64) rfl rfl Try.func128 (by kernel_rfl) rfl #[.float .f64 (fq .sub .f64 0 t170)] rfl (by (try simp only [List.map_toArray, List.map_cons, List.map_nil]); first | done | rfl | (simp only [List.length_drop, List.length_take]; rfl)) ?_; (with_reducible refine (spec_l01Narrow.calls (fq .sub .f64 0 t170) t177 _ A31.out).mono ?_); rintro e w' ⟨rfl, ⟨nd, rfl⟩⟩; refine ⟨_, rfl, ?_⟩))
                             go_ret
                             exact ⟨by first | rfl | (simp [errW_none, errW_some] <;> rfl) | (simp [*, errW_none, errW_some] <;> rfl), by repeat (first | (with_reducible first | exact HB.out | apply below_alloc | apply pw_below_drewN | apply below_drew1) | exact HB.out)⟩
                           · rw [if_neg c30] at H
                             exact absurd H (by simp)
                         · rw [if_neg c28] at H
                           have c28b0 : (x4_3 == 3) = false := beq_eq_false_iff_ne.mpr c28
                           have c28b1 : (x4_3 != 3) = true := bne_iff_ne.mpr c28
                           replace H := Option.bind_eq_some_iff.mp H
                           obtain ⟨t178, A320, H⟩ := H
                           replace H : ((spec_l01Narrow.f t171).bind fun t179 => (some (⟨t178, t179⟩ : C64))) = some r := H
                           have A32 := Aside0.mk A320
                           clear A320
                           replace H := Option.bind_eq_some_iff.mp H
                           obtain ⟨t179, A330, H⟩ := H
                           replace H : (some (⟨t178, t179⟩ : C64)) = some r := H
                           have A33 := Aside0.mk A330
                           clear A330
                           obtain rfl := Option.some.inj H
                           go_wp2_with (first | ((with_reducible refine gate_callee (f := 127) rfl ?_); refine goesL_ (some 37) rfl rfl Try.func127 (by kernel_rfl) rfl #[.float .f64 (fq .sub .f64 4598175219545276416 x3_3)] rfl (by (try simp only [List.map_toArray, List.map_cons, List.map_nil]); first | done | rfl | (simp only [List.length_drop, List.length_take]; rfl)) ?_; (with_reducible refine (spec_l01SineWide.calls k3 (fq .sub .f64 4598175219545276416 x3_3) t170 _ A17.out).mono ?_); rintro e w' ⟨rfl, ⟨nd, rfl⟩⟩; refine ⟨_, rfl, ?_⟩) | ((with_reducible refine gate_callee (f := 127) rfl ?_); refine goesL_ (some 39) rfl rfl Try.func127 (by kernel_rfl) rfl #[.float .f64 x3_3] rfl (by (try simp only [List.map_toArray, List.map_cons, List.map_nil]); first | done | rfl | (simp only [List.length_drop, List.length_take]; rfl)) ?_; (with_reducible refine (spec_l01SineWide.calls k3 x3_3 t171 _ A18.out).mono ?_); rintro e w' ⟨rfl, ⟨nd, rfl⟩⟩; refine ⟨_, rfl, ?_⟩) | ((with_reducible refine gate_callee (f := 128) rfl ?_); refine goesL_ (some 67) rfl rfl Try.func128 (by kernel_rfl) rfl #[.float .f64 t170] rfl (by (try simp only [List.map_toArray, List.map_cons, List.map_nil]); first | done | rfl | (simp only [List.length_drop, List.length_take]; rfl)) ?_; (with_reducible refine (spec_l01Narrow.calls t170 t178 _ A32.out).mono ?_); rintro e w' ⟨rfl, ⟨nd, rfl⟩⟩; refine ⟨_, rfl, ?_⟩) | ((with_reducible refine gate_callee (f := 128) rfl ?_); refine goesL_ (some 69) rfl rfl Try.func128 (by kernel_rfl) rfl #[.float .f64 t171] rfl (by (try simp only [List.map_toArray, List.map_cons, List.map_nil]); first | done | rfl | (simp only [List.length_drop, List.length_take]; rfl)) ?_; (with_reducible refine (spec_l01Narrow.calls t171 t179 _ A33.out).mono ?_); rintro e w' ⟨rfl, ⟨nd, rfl⟩⟩; refine ⟨_, rfl, ?_⟩))
                           go_ret
                           exact ⟨by first | rfl | (simp [errW_none, errW_some] <;> rfl) | (simp [*, errW_none, errW_some] <;> rfl), by repeat (first | (with_reducible first | exact HB.out | apply below_alloc | apply pw_below_drewN | apply below_drew1) | exact HB.out)⟩
                   · rw [if_neg c16] at H
                     exact absurd H (by simp)
           · rw [if_neg c10] at H
             exact absurd H (by simp)
         · rw [if_neg c9] at H
           exact absurd H (by simp)
 · rw [if_neg c2] at H
   exact absurd H (by simp)

/-! ### spec_l02Steps: function 107 -/
def spec_l02Steps.f (a0_0 : Int) (a0_1 : Int) (a1_0 : Int) (a1_1 : Int) : Option (Int) := some (wrap64 ((wrap64 (a0_0 * a1_0)) + (wrap64 (a0_1 * a1_1))))
set_option maxHeartbeats 8000000 in
set_option maxRecDepth 100000 in
theorem spec_l02Steps.calls (a0_0 : Int) (a0_1 : Int) (a1_0 : Int) (a1_1 : Int) (r : Int) (w : World) (h : spec_l02Steps.f a0_0 a0_1 a1_0 a1_1 = some r) :
 Calls Try.prog 107 #[.agg #[.int .i64 a0_0, .int .i64 a0_1], .agg #[.int .i64 a1_0, .int .i64 a1_1]] w fun e w' => e = .returned (.int .i64 r) ∧ Below w.heap.size w w' := by
 have hu88 := Try.underlying88
 have hu67 := Try.underlying67
 have HB := Aside0.mk (Below.refl w.heap.size w)
 have H : (some (wrap64 ((wrap64 (a0_0 * a1_0)) + (wrap64 (a0_1 * a1_1))))) = some r := h
 clear h
 obtain rfl := Option.some.inj H
 go_enter Try.func107, Try.ntmps107
 go_wp2_with (first | ((with_reducible refine gate_dst (N := 2) rfl ?_); refine box_event ?hg (N := 2) ?hd (cs := #[.int .i64 a0_0, .int .i64 a0_1]) (t := 88) ?hr ?_; (case hd => rfl); (case hg => rfl); (case hr => first | (go_simp; done) | (go_simp; rfl)); intro gb180 hg w3 hbox hb; have n0_ := Aside0.mk (below_step (by repeat (first | (with_reducible first | exact HB.out | apply below_alloc | apply pw_below_drewN | apply below_drew1) | exact HB.out)) hb); have n1_ := Aside0.mk (hbox); have n2_ := Aside0.mk ((by rw [hg]; exact (below_size (by repeat (first | (with_reducible first | exact HB.out | apply below_alloc | apply pw_below_drewN | apply below_drew1) | exact HB.out))) : w.heap.size ≤ gb180)); have n3_ := Aside0.mk ((by rw [hg]; exact (below_size (by repeat (first | (with_reducible first | exact HB.out | apply below_alloc | apply pw_below_drewN | apply below_drew1) | exact HB.out))) : w.heap.size ≤ gb180)); clear HB; have HB := n0_; have BK180 := n1_; have GW180 := n2_; have GE180 := n3_; clear n0_ n1_ n2_ n3_; clear hb hbox hg) | ((with_reducible refine gate_dst (N := 3) rfl ?_); refine box_event ?hg (N := 3) ?hd (cs := #[.int .i64 a1_0, .int .i64 a1_1]) (t := 67) ?hr ?_; (case hd => rfl); (case hg => rfl); (case hr => first | (go_simp; done) | (go_simp; rfl)); intro gb181 hg w4 hbox hb; have n0_ := Aside0.mk (blk_below (g := gb180) (o := .cells #[.int .i64 a0_0, .int .i64 a0_1] 88 (0, 0)) (by (with_reducible repeat (first | refine blk_drewN ?_ _ | refine blk_drew ?_ | refine blk_alloc ?_ _)); exact BK180.out) hb); have n1_ := Aside0.mk (below_step (by repeat (first | (with_reducible first | exact HB.out | apply below_alloc | apply pw_below_drewN | apply below_drew1 | refine below_set ?_ GE180.out) | exact HB.out)) hb); have n2_ := Aside0.mk (hbox); have n3_ := Aside0.mk ((by rw [hg]; exact (below_size (by repeat (first | (with_reducible first | exact HB.out | apply below_alloc | apply pw_below_drewN | apply below_drew1 | refine below_set ?_ GE180.out) | exact HB.out))) : w.heap.size ≤ gb181)); have n4_ := Aside0.mk ((by rw [hg]; exact (below_size (by repeat (first | (with_reducible first | exact HB.out | apply below_alloc | apply pw_below_drewN | apply below_drew1 | refine below_set ?_ GE180.out) | exact HB.out))) : w.heap.size ≤ gb181)); have n5_ := Aside0.mk ((by rw [hg]; exact Nat.ne_of_lt (blk_lt (g := gb180) (o := .cells #[.int .i64 a0_0, .int .i64 a0_1] 88 (0, 0)) (by (with_reducible repeat (first | refine blk_drewN ?_ _ | refine blk_drew ?_ | refine blk_alloc ?_ _)); exact BK180.out)) : gb180 ≠ gb181)); have n6_ := Aside0.mk ((by rw [hg]; exact Nat.ne_of_gt (blk_lt (g := gb180) (o := .cells #[.int .i64 a0_0, .int .i64 a0_1] 88 (0, 0)) (by (with_reducible repeat (first | refine blk_drewN ?_ _ | refine blk_drew ?_ | refine blk_alloc ?_ _)); exact BK180.out)) : gb181 ≠ gb180)); clear BK180; clear HB; have BK180 := n0_; have HB := n1_; have BK181 := n2_; have GW181 := n3_; have GE181 := n4_; have NB180_181 := n5_; have NB181_180 := n6_; clear n0_ n1_ n2_ n3_ n4_ n5_ n6_; clear hb hbox hg; have hnb5 := NB180_181.out; have hnc5 := NB181_180.out; have hcz6_0 : w4.cell? ⟨gb180, 0, none⟩ = some (.int .i64 a0_0) := (blk_cell BK180.out 0).trans rfl; have hcz6_1 : w4.cell? ⟨gb180, 1, none⟩ = some (.int .i64 a0_1) := (blk_cell BK180.out 1).trans rfl; have hfz6_0 := blk_frozen BK180.out 0; have hfz6_1 := blk_frozen BK180.out 1; have hcz7_0 : w4.cell? ⟨gb181, 0, none⟩ = some (.int .i64 a1_0) := (blk_cell BK181.out 0).trans rfl; have hcz7_1 : w4.cell? ⟨gb181, 1, none⟩ = some (.int .i64 a1_1) := (blk_cell BK181.out 1).trans rfl; have hfz7_0 := blk_frozen BK181.out 0; have hfz7_1 := blk_frozen BK181.out 1))
 go_ret
 exact ⟨by first | rfl | (simp [errW_none, errW_some] <;> rfl) | (simp [*, errW_none, errW_some] <;> rfl), by repeat (first | (with_reducible first | exact HB.out | apply below_alloc | apply pw_below_drewN | apply below_drew1 | refine below_set ?_ GE180.out | refine below_set ?_ GE181.out) | exact HB.out)⟩

/-! ### spec_l02Steering: function 79 -/
def spec_l02Steering.l0 : Nat → List (S88) → List C64 → Int → Int → Int → Option (List C64)
 | 0, _, _, _, _, _ => none
 | k + 1, x0, x5, x6, x183000, x183001 => if x6 < (x0.length : Int) then (if 0 ≤ x6 then ((spec_l02Steps.f ((rd_T88 x0 x6).f0) ((rd_T88 x0 x6).f1) x183000 x183001).bind fun t187 => (if FOk .quo .f64 (floatOfInt .f64 t187) 4661225614328463360 = true then ((spec_l01Phasor.f k (fq .quo .f64 (floatOfInt .f64 t187) 4661225614328463360)).bind fun t188 => (if x5.length < 17592186044416 then (spec_l02Steering.l0 k x0 (x5 ++ [t188]) (wrap64 (x6 + 1)) x183000 x183001) else (none))) else (none))) else (none)) else (some x5)
def spec_l02Steering.f (k : Nat) (l0 : List (S88)) (a1_0 : Int) (a1_1 : Int) : Option (List C64) := spec_l02Steering.l0 k l0 (([] : List C64)) 0 a1_0 a1_1
def spec_l02Steering.T5 : Bool × List (List Nat × List Nat) := (true, [([], []), ([], []), ([], []), ([1, 2], [1, 2]), ([3], [3]), ([], []), ([4, 5], [4, 5]), ([6], [6]), ([7], [7]), ([8, 6], [8]), ([9], [9]), ([0, 10, 9], [0, 10]), ([11, 11, 0, 1, 2, 3, 4, 5, 6, 7, 8, 9, 10, 11], [0, 11])])
def spec_l02Steering.B5 : List Nat := [0, 0, 0, 6, 14, 0, 62, 126, 254, 510, 1022, 2047, 4095]
theorem spec_l02Steering.tab5 : rtab .any (opsOf Try.f79 5) = spec_l02Steering.T5 := by kernel_rfl
theorem spec_l02Steering.bits5 : waitsOk spec_l02Steering.T5.2 spec_l02Steering.B5 = true := by kernel_rfl
set_option maxHeartbeats 8000000 in
set_option maxRecDepth 100000 in
theorem spec_l02Steering.calls (k : Nat) (A0 : Option Addr) (c0 : Nat) (l0 : List (S88)) (a1_0 : Int) (a1_1 : Int) (r : List C64) (w : World) (hr0 : Kd.C k88 w A0 l0.length l0) (hc0 : l0.length ≤ c0) (h : spec_l02Steering.f k l0 a1_0 a1_1 = some r) :
 Calls Try.prog 79 #[.slice A0 l0.length c0, .agg #[.int .i64 a1_0, .int .i64 a1_1]] w fun e w' => ∃ v0_ : Value, e = .returned (v0_) ∧ Kd.R Kd.c64e 94 w' w.heap.size (fun _ => True) v0_ r ∧ Below w.heap.size w w' := by
 have hu2 := Try.underlying2
 have hu65 := Try.underlying65
 have hu67 := Try.underlying67
 have hu88 := Try.underlying88
 have HR0 := Aside0.mk hr0
 have HC0 := Aside0.mk hc0
 clear hr0 hc0
 have HB := Aside0.mk (Below.refl w.heap.size w)
 have H : (spec_l02Steering.l0 k l0 (([] : List C64)) 0 a1_0 a1_1) = some r := h
 clear h
 obtain ⟨y183, hy183⟩ : ∃ y_ : List C64, y_ = (([] : List C64)) := ⟨_, rfl⟩
 replace H : (spec_l02Steering.l0 k l0 y183 0 a1_0 a1_1) = some r := by first | (rw [hy183]; with_reducible exact H) | (have H2_ := (Option.bind_some _ _).symm.trans H; rw [hy183]; with_reducible exact H2_) | (have H2_ := (Option.bind_some _ _).symm.trans H; with_reducible exact H2_) | with_reducible exact H | (rw [hy183]; exact H) | exact H
 have Ny183 := Aside0.mk hy183
 clear hy183
 have H' := Aside0.mk H
 clear H
 go_enter Try.func79, Try.ntmps79
 go_wp2_with (first | ((with_reducible refine gate_dst (N := 3) rfl ?_); refine box_event ?hg (N := 3) ?hd (cs := #[.int .i64 a1_0, .int .i64 a1_1]) (t := 67) ?hr ?_; (case hd => rfl); (case hg => rfl); (case hr => first | (go_simp; done) | (go_simp; rfl)); intro gb182 hg w3 hbox hb; have n0_ := Aside0.mk (below_step (by repeat (first | (with_reducible first | exact HB.out | apply below_alloc | apply pw_below_drewN | apply below_drew1) | exact HB.out)) hb); have n1_ := Aside0.mk (hbox); have n2_ := Aside0.mk ((by rw [hg]; exact (below_size (by repeat (first | (with_reducible first | exact HB.out | apply below_alloc | apply pw_below_drewN | apply below_drew1) | exact HB.out))) : w.heap.size ≤ gb182)); have n3_ := Aside0.mk ((by rw [hg]; exact (below_size (by repeat (first | (with_reducible first | exact HB.out | apply below_alloc | apply pw_below_drewN | apply below_drew1) | exact HB.out))) : w.heap.size ≤ gb182)); clear HB; have HB := n0_; have BK182 := n1_; have GW182 := n2_; have GE182 := n3_; clear n0_ n1_ n2_ n3_; clear hb hbox hg) | ((with_reducible refine gate_dst (N := 7) rfl ?_); refine Kd.R_lit Kd.c64e _ 94 ?hg (N := 7) ?hd (xs := ([] : List C64)) (inner := []) (ok := fun _ => True) (okp := fun _ => True) ?hr ?hp (fun _ hk => hk) trivial (Below.refl _ _) (Nat.le_refl _) (by simp) ?_; (case hd => rfl); (case hg => rfl); (case hr => first | (go_simp; done) | (go_simp; rfl)); (case hp => exact (Reps.none _ _)); intro v184 w4 ho5 hb hg_ hnew_; clear hg_ hnew_; (first | rw [← Ny183.out] at ho5 | (simp only [Int.reduceToNat] at ho5; rw [← Ny183.out] at ho5)); have n0_ := Aside0.mk (Kd.R_lower ho5 (below_size (by repeat (first | (with_reducible first | exact HB.out | apply below_alloc | apply pw_below_drewN | apply below_drew1 | refine below_set ?_ GE182.out) | exact HB.out)))); have n1_ := Aside0.mk (blk_below (g := gb182) (o := .cells #[.int .i64 a1_0, .int .i64 a1_1] 67 (0, 0)) (by (with_reducible repeat (first | refine blk_drewN ?_ _ | refine blk_drew ?_ | refine blk_alloc ?_ _)); exact BK182.out) hb); have n2_ := Aside0.mk (below_step (by repeat (first | (with_reducible first | exact HB.out | apply below_alloc | apply pw_below_drewN | apply below_drew1 | refine below_set ?_ GE182.out) | exact HB.out)) hb); clear BK182; clear HB; have HO185 := n0_; have BK182 := n1_; have HB := n2_; clear n0_ n1_ n2_; clear hb ho5))
 go_loopg [5, 6] k (fun kq v5 v6 w' => ∃ (x5_1 : List C64) (x6_1 : Int), v6 = .int .i64 x6_1 ∧ Aside0 (spec_l02Steering.l0 kq l0 x5_1 x6_1 a1_0 a1_1 = some r) ∧ Aside0 (kq ≤ k) ∧ Aside0 (Kd.R Kd.c64e 94 w' w.heap.size (fun _ => True) v5 x5_1) ∧ Aside0 (w'.heap[gb182]? = some (.cells #[.int .i64 a1_0, .int .i64 a1_1] 67 (0, 0))) ∧ Aside0 (Below w.heap.size w w'))
 case atStart => exact ⟨(y183), (0), (by first | rfl | (simp; done) | (simp [*]; done)), H', ⟨Nat.le_refl _⟩, ⟨by (with_reducible repeat (first | apply Kd.R_alloc | apply Kd.R_drewN | apply Kd.R_drew)); exact HO185.out⟩, ⟨by (with_reducible repeat (first | refine blk_drewN ?_ _ | refine blk_drew ?_ | refine blk_alloc ?_ _)); exact BK182.out⟩, ⟨by repeat (first | (with_reducible first | exact HB.out | apply below_alloc | apply pw_below_drewN | apply below_drew1 | refine below_set ?_ GE182.out) | exact HB.out)⟩⟩
 case round =>
  clear H'
  (try clear p2)
  obtain ⟨x5_1, x6_1, rfl, HA, HK1, HO_5, BK182, HB⟩ := hrel
  cases gk with
  | zero => exact absurd HA.out (by simp [spec_l02Steering.l0])
  | succ k1 =>
   have H := HA.out
   clear HA
   simp only [spec_l02Steering.l0] at H
   by_cases c6 : x6_1 < (l0.length : Int)
   · rw [if_pos c6] at H
     have c6b0 : decide (x6_1 < (l0.length : Int)) = true := decide_eq_true c6
     clear c6
     by_cases c7 : 0 ≤ x6_1
     · rw [if_pos c7] at H
       have c7b0 : decide (0 ≤ x6_1) = true := decide_eq_true c7
       clear c7
       replace H := Option.bind_eq_some_iff.mp H
       obtain ⟨t187, A80, H⟩ := H
       replace H : (if FOk .quo .f64 (floatOfInt .f64 t187) 4661225614328463360 = true then ((spec_l01Phasor.f k1 (fq .quo .f64 (floatOfInt .f64 t187) 4661225614328463360)).bind fun t188 => (if x5_1.length < 17592186044416 then (spec_l02Steering.l0 k1 l0 (x5_1 ++ [t188]) (wrap64 (x6_1 + 1)) a1_0 a1_1) else (none))) else (none)) = some r := H
       have A8 := Aside0.mk A80
       clear A80
       by_cases c9 : FOk .quo .f64 (floatOfInt .f64 t187) 4661225614328463360 = true
       · rw [if_pos c9] at H
         have fe9 := fun t w => frun (P := Try.prog) c9 t w
         have c9b0 : FOk .quo .f64 (floatOfInt .f64 t187) 4661225614328463360 = true := c9
         clear c9
         replace H := Option.bind_eq_some_iff.mp H
         obtain ⟨t188, A100, H⟩ := H
         replace H : (if x5_1.length < 17592186044416 then (spec_l02Steering.l0 k1 l0 (x5_1 ++ [t188]) (wrap64 (x6_1 + 1)) a1_0 a1_1) else (none)) = some r := H
         have A10 := Aside0.mk A100
         clear A100
         by_cases c11 : x5_1.length < 17592186044416
         · rw [if_pos c11] at H
           have LMc11 := Aside0.mk c11
           clear c11
           obtain ⟨y189, hy189⟩ : ∃ y_ : List C64, y_ = (x5_1 ++ [t188]) := ⟨_, rfl⟩
           replace H : (spec_l02Steering.l0 k1 l0 y189 (wrap64 (x6_1 + 1)) a1_0 a1_1) = some r := by first | (rw [hy189]; with_reducible exact H) | (have H2_ := (Option.bind_some _ _).symm.trans H; rw [hy189]; with_reducible exact H2_) | (have H2_ := (Option.bind_some _ _).symm.trans H; with_reducible exact H2_) | with_reducible exact H | (rw [hy189]; exact H) | exact H
           have Ny189 := Aside0.mk hy189
           clear hy189
           have H' := Aside0.mk H
           clear H
           try go_wp2
           have n0_ := Aside0.mk (Kd.R_drew HO_5.out)
           have n1_ := Aside0.mk (blk_drew BK182.out)
           have n2_ := Aside0.mk (below_drew1 HB.out)
           clear HO_5
           clear BK182
           clear HB
           have HO_5 := n0_
           have BK182 := n1_
           have HB := n2_
           clear n0_ n1_ n2_
           have p186 : 0 ≤ (x6_1 : Int) := of_decide_eq_true (by first | (with_reducible assumption) | assumption)
           have q186 : x6_1 < (l0.length : Int) := of_decide_eq_true (by first | (with_reducible assumption) | assumption)
           obtain ⟨ad186, e186, hx186_0, hx186_1⟩ := at_T88 HR0.out x6_1 p186 q186
           have hw186_1 := hx186_1
           have hw186_0 := hx186_0
           cases e186
           replace hx186_0 := (HB.out.cell (World.block_lt_of_cell? w _ hx186_0)).trans hx186_0
           replace hx186_1 := (HB.out.cell (World.block_lt_of_cell? w _ hx186_1)).trans hx186_1
           replace p186 := eq_true p186
           replace q186 := eq_true q186
           refine start_ (n := 13) (S := fun w' => w'.cell? ⟨gb182, 0, none⟩ = some (.int .i64 a1_0) ∧ w'.cell? ⟨gb182, 1, none⟩ = some (.int .i64 a1_1) ∧ w'.cell? (ad186.add ((x6_1).toNat * 2)) = some (.int .i64 ((rd_T88 l0 x6_1).f0)) ∧ w'.cell? ⟨(ad186.add ((x6_1).toNat * 2)).block, (ad186.add ((x6_1).toNat * 2)).off + 1, none⟩ = some (.int .i64 ((rd_T88 l0 x6_1).f1))) (ds := []) #[false, false, false, false, false, false, false, false, false, false, false, false, false] (by kernel_rfl) rfl rfl ⟨(blk_cell BK182.out 0).trans rfl, (blk_cell BK182.out 1).trans rfl, ((HB.out.cell (World.block_lt_of_cell? w _ hw186_0)).trans hw186_0), ((HB.out.cell (World.block_lt_of_cell? w _ hw186_1)).trans hw186_1)⟩ (fun hHeld => ?_); refine with_tabW spec_l02Steering.tab5 spec_l02Steering.bits5 (fun HT_ HW_ => ?_)
           generalize wr.drew = w12 at HO_5 BK182 HB hx186_0 hx186_1 hHeld ⊢
           refine pure_ (i := 0) (N := some 14) (v := ?_) (a' := ?_) #[true, false, false, false, false, false, false, false, false, false, false, false, false] rfl rfl (any_of HT_.out (by kernel_rfl)) (fun _ _ _ h => h) (Or.inl ⟨by rfl, ?_⟩) ?_ ?_; rotate_left 4
           refine pure_ (i := 1) (N := some 15) (v := ?_) (a' := ?_) #[true, true, false, false, false, false, false, false, false, false, false, false, false] rfl rfl (any_of HT_.out (by kernel_rfl)) (fun _ _ _ h => h) (Or.inl ⟨by rfl, ?_⟩) ?_ ?_; rotate_left 4
           refine pure_ (i := 2) (N := some 16) (v := ?_) (a' := ?_) #[true, true, true, false, false, false, false, false, false, false, false, false, false] rfl rfl (any_of HT_.out (by kernel_rfl)) (fun _ _ _ h => h) (Or.inl ⟨by rfl, ?_⟩) ?_ ?_; rotate_left 4
           refine pure_ (i := 3) (N := some 17) (v := ?_) (a' := ?_) #[true, true, true, true, false, false, false, false, false, false, false, false, false] rfl rfl (any_of HT_.out (by kernel_rfl)) (fun _ _ _ h => h) (Or.inl ⟨by rfl, ?_⟩) ?_ ?_; rotate_left 4
           rotate_left; iterate 4 (rotate_left; (intro w'; go_simp; with_reducible rfl); rotate_left; (simp only [Act.put, List.setIfInBounds_toArray, List.set_cons_zero, List.set_cons_succ, i64_w, i32_w]; rfl))
           refine take_ (i := 4) (N := some 18) (v := ?_) (a' := ?_) #[true, true, true, true, true, false, false, false, false, false, false, false, false] rfl rfl (take_ofW HT_.out HW_.out (by kernel_rfl)) (fun _ _ _ h => h) (Or.inl ⟨by rfl, ?_⟩) hHeld ?_ ?_
           rotate_left
           · rintro w' ⟨s0, s1, s2, s3⟩
             go_simp
             with_reducible rfl
           rotate_left
           · simp only [Act.put, List.setIfInBounds_toArray, List.set_cons_zero, List.set_cons_succ, i64_w, i32_w]
             rfl
           refine take_ (i := 5) (N := some 19) (v := ?_) (a' := ?_) #[true, true, true, true, true, true, false, false, false, false, false, false, false] rfl rfl (take_ofW HT_.out HW_.out (by kernel_rfl)) (fun _ _ _ h => h) (Or.inl ⟨by rfl, ?_⟩) hHeld ?_ ?_
           rotate_left
           · rintro w' ⟨s0, s1, s2, s3⟩
             go_simp
             with_reducible rfl
           rotate_left
           · simp only [Act.put, List.setIfInBounds_toArray, List.set_cons_zero, List.set_cons_succ, i64_w, i32_w]
             rfl
           refine one_ (i := 6) (N := some 20) #[true, true, true, true, true, true, true, false, false, false, false, false, false] rfl rfl (one_of HT_.out (by kernel_rfl)) (by decide) (fun K hK => ?_)
           refine goes_ Try.func107 (by kernel_rfl) rfl #[.agg #[.int .i64 ((rd_T88 l0 x6_1).f0), .int .i64 ((rd_T88 l0 x6_1).f1)], .agg #[.int .i64 a1_0, .int .i64 a1_1]] (by rfl) rfl rfl (by (try simp only [List.map_toArray, List.map_cons, List.map_nil]); first | done | rfl | (simp only [List.length_drop, List.length_take]; rfl)) ?_
           with_reducible refine (spec_l02Steps.calls ((rd_T88 l0 x6_1).f0) ((rd_T88 l0 x6_1).f1) a1_0 a1_1 t187 _ A8.out).mono ?_
           rintro e w13 ⟨rfl, hb⟩
           refine ⟨_, rfl, ?_⟩
           have n0_ := Aside0.mk (Kd.R_below (by (with_reducible repeat (first | apply Kd.R_alloc | apply Kd.R_drewN | apply Kd.R_drew)); exact HO_5.out) hb)
           have n1_ := Aside0.mk (blk_below (g := gb182) (o := .cells #[.int .i64 a1_0, .int .i64 a1_1] 67 (0, 0)) (by (with_reducible repeat (first | refine blk_drewN ?_ _ | refine blk_drew ?_ | refine blk_alloc ?_ _)); exact BK182.out) hb)
           have n2_ := Aside0.mk (below_step (by repeat (first | (with_reducible first | exact HB.out | apply below_alloc | apply pw_below_drewN | apply below_drew1 | refine below_set ?_ GE182.out) | exact HB.out)) hb)
           clear HO_5
           clear BK182
           clear HB
           have HO_5 := n0_
           have BK182 := n1_
           have HB := n2_
           clear n0_ n1_ n2_
           (try clear hb)
           (try clear hb2)
           (try clear hk)
           (try clear hi)
           refine hK.out _ _ ⟨(blk_cell BK182.out 0).trans rfl, (blk_cell BK182.out 1).trans rfl, ((HB.out.cell (World.block_lt_of_cell? w _ hw186_0)).trans hw186_0), ((HB.out.cell (World.block_lt_of_cell? w _ hw186_1)).trans hw186_1)⟩ (fun hHeld => ?_)
           clear hK K
           refine norm_ (a' := ?_) ?_ ?_
           rotate_left
           · show Act.put _ (some 20) _ = _
             simp only [Act.put, List.setIfInBounds_toArray, List.set_cons_zero, List.set_cons_succ, i64_w, i32_w]
             rfl
           refine pure_ (i := 7) (N := some 21) (v := ?_) (a' := ?_) #[true, true, true, true, true, true, true, true, false, false, false, false, false] rfl rfl (any_of HT_.out (by kernel_rfl)) (fun _ _ _ h => h) (Or.inl ⟨by rfl, ?_⟩) ?_ ?_; rotate_left 4
           refine pure_ (i := 8) (N := some 22) (v := ?_) (a' := ?_) #[true, true, true, true, true, true, true, true, true, false, false, false, false] rfl rfl (any_of HT_.out (by kernel_rfl)) (fun _ _ _ h => h) (Or.inl ⟨by rfl, ?_⟩) ?_ ?_; rotate_left 4
           rotate_left; iterate 2 (rotate_left; (intro w'; go_simp; with_reducible rfl); rotate_left; (simp only [Act.put, List.setIfInBounds_toArray, List.set_cons_zero, List.set_cons_succ, i64_w, i32_w]; rfl))
           refine one_ (i := 9) (N := some 23) #[true, true, true, true, true, true, true, true, true, true, false, false, false] rfl rfl (one_of HT_.out (by kernel_rfl)) (by decide) (fun K hK => ?_)
           refine goes_ Try.func106 (by kernel_rfl) rfl #[.float .f64 (fq .quo .f64 (floatOfInt .f64 t187) 4661225614328463360)] (by rfl) rfl rfl (by (try simp only [List.map_toArray, List.map_cons, List.map_nil]); first | done | rfl | (simp only [List.length_drop, List.length_take]; rfl)) ?_
           with_reducible refine (spec_l01Phasor.calls k1 (fq .quo .f64 (floatOfInt .f64 t187) 4661225614328463360) t188 _ A10.out).mono ?_
           rintro e w14 ⟨rfl, hb⟩
           refine ⟨_, rfl, ?_⟩
           have n0_ := Aside0.mk (Kd.R_below (by (with_reducible repeat (first | apply Kd.R_alloc | apply Kd.R_drewN | apply Kd.R_drew)); exact HO_5.out) hb)
           have n1_ := Aside0.mk (blk_below (g := gb182) (o := .cells #[.int .i64 a1_0, .int .i64 a1_1] 67 (0, 0)) (by (with_reducible repeat (first | refine blk_drewN ?_ _ | refine blk_drew ?_ | refine blk_alloc ?_ _)); exact BK182.out) hb)
           have n2_ := Aside0.mk (below_step (by repeat (first | (with_reducible first | exact HB.out | apply below_alloc | apply pw_below_drewN | apply below_drew1 | refine below_set ?_ GE182.out) | exact HB.out)) hb)
           clear HO_5
           clear BK182
           clear HB
           have HO_5 := n0_
           have BK182 := n1_
           have HB := n2_
           clear n0_ n1_ n2_
           (try clear hb)
           (try clear hb2)
           (try clear hk)
           (try clear hi)
           refine hK.out _ _ ⟨(blk_cell BK182.out 0).trans rfl, (blk_cell BK182.out 1).trans rfl, ((HB.out.cell (World.block_lt_of_cell? w _ hw186_0)).trans hw186_0), ((HB.out.cell (World.block_lt_of_cell? w _ hw186_1)).trans hw186_1)⟩ (fun hHeld => ?_)
           clear hK K
           refine norm_ (a' := ?_) ?_ ?_
           rotate_left
           · show Act.put _ (some 23) _ = _
             simp only [Act.put, List.setIfInBounds_toArray, List.set_cons_zero, List.set_cons_succ, i64_w, i32_w]
             rfl
           refine one_ (i := 10) (N := some 24) #[true, true, true, true, true, true, true, true, true, true, true, false, false] rfl rfl (one_of HT_.out (by kernel_rfl)) (by decide) (fun K hK => ?_)
           refine value_ (w1 := ?_) (v := ?_) (by rfl) rfl ?_ ?_
           rotate_left 2
           · go_simp
             constructor
             · rfl
             · rfl
           refine hK.out _ _ ⟨(blk_cell (blk_alloc BK182.out _) 0).trans rfl, (blk_cell (blk_alloc BK182.out _) 1).trans rfl, (World.cell?_alloc_lt _ _ _ (World.block_lt_of_cell? _ _ (((HB.out.cell (World.block_lt_of_cell? w _ hw186_0)).trans hw186_0)))).trans (((HB.out.cell (World.block_lt_of_cell? w _ hw186_0)).trans hw186_0)), (World.cell?_alloc_lt _ _ _ (World.block_lt_of_cell? _ _ (((HB.out.cell (World.block_lt_of_cell? w _ hw186_1)).trans hw186_1)))).trans (((HB.out.cell (World.block_lt_of_cell? w _ hw186_1)).trans hw186_1))⟩ (fun hHeld => ?_)
           clear hK K
           refine norm_ (a' := ?_) ?_ ?_
           rotate_left
           · show Act.put _ (some 24) _ = _
             simp only [Act.put, List.setIfInBounds_toArray, List.set_cons_zero, List.set_cons_succ, i64_w, i32_w]
             rfl
           refine one_ (i := 11) (N := some 25) #[true, true, true, true, true, true, true, true, true, true, true, true, false] rfl rfl (one_of HT_.out (by kernel_rfl)) (by decide) (fun K hK => ?_)
           refine Kd.R_append_step Kd.c64e (w0 := w) w.heap.size (by rfl) (.tmp 14) (.tmp 24) 45 94 (.complex .f32 0 0) 8 rfl Try.underlying45 info94 rfl (by decide) (by omega) u5 x5_1 t188 [.complex .f32 t188.re t188.im] (fun _ => True) (fun _ => False) rfl rfl ?aP (fun _ hk => hk.elim) ?aF ?aO ?aB ?aS ?aL ?_
           (case aP => exact rfl)
           (case aB => exact (by repeat (first | (with_reducible first | exact HB.out | apply below_alloc | apply pw_below_drewN | apply below_drew1 | refine below_set ?_ GE182.out) | exact HB.out)))
           (case aF => exact (fun _ _ => trivial))
           (case aO => exact (by (with_reducible repeat (first | apply Kd.R_alloc | apply Kd.R_drewN | apply Kd.R_drew)); exact HO_5.out))
           (case aS => exact (below_size (by repeat (first | (with_reducible first | exact HB.out | apply below_alloc | apply pw_below_drewN | apply below_drew1 | refine below_set ?_ GE182.out) | exact HB.out))))
           (case aL => have := LMc11.out; omega)
           intro v190 w15 ho hb hg hat
           rw [← Ny189.out] at ho
           have n0_ := Aside0.mk (blk_grown (g := gb182) (o := .cells #[.int .i64 a1_0, .int .i64 a1_1] 67 (0, 0)) (by (with_reducible repeat (first | refine blk_drewN ?_ _ | refine blk_drew ?_ | refine blk_alloc ?_ _)); exact BK182.out) hg (Kd.R_ne HO_5.out BK182.out (by decide)))
           have n1_ := Aside0.mk (hb)
           have n2_ := Aside0.mk (ho)
           clear BK182
           clear HB
           clear HO_5
           have BK182 := n0_
           have HB := n1_
           have HO191 := n2_
           clear n0_ n1_ n2_
           clear ho hb hg hat
           refine hK.out _ _ ⟨(blk_cell BK182.out 0).trans rfl, (blk_cell BK182.out 1).trans rfl, ((HB.out.cell (World.block_lt_of_cell? w _ hw186_0)).trans hw186_0), ((HB.out.cell (World.block_lt_of_cell? w _ hw186_1)).trans hw186_1)⟩ (fun hHeld => ?_)
           clear hK K
           refine norm_ (a' := ?_) ?_ ?_
           rotate_left
           · show Act.put _ (some 25) _ = _
             simp only [Act.put, List.setIfInBounds_toArray, List.set_cons_zero, List.set_cons_succ, i64_w, i32_w]
             rfl
           refine pure_ (i := 12) (N := some 5) (v := ?_) (a' := ?_) #[true, true, true, true, true, true, true, true, true, true, true, true, true] rfl rfl (any_of HT_.out (by kernel_rfl)) (fun _ _ _ h => h) (Or.inl ⟨by rfl, ?_⟩) ?_ ?_; rotate_left 4
           rotate_left; iterate 1 (rotate_left; (intro w'; go_simp; with_reducible rfl); rotate_left; (simp only [Act.put, List.setIfInBounds_toArray, List.set_cons_zero, List.set_cons_succ, i64_w, i32_w]; rfl))
           refine done_ (done_of HT_.out (by kernel_rfl)) ?_
           try go_wp2
           go_roundg k1
           case measure => have := HK1.out; omega
           case rel => exact ⟨(y189), (wrap64 (x6_1 + 1)), (by first | rfl | (simp; done) | (simp [*]; done)), H', ⟨by have := HK1.out; omega⟩, ⟨by (with_reducible repeat (first | apply Kd.R_alloc | apply Kd.R_drewN | apply Kd.R_drew)); exact HO191.out⟩, ⟨by (with_reducible repeat (first | refine blk_drewN ?_ _ | refine blk_drew ?_ | refine blk_alloc ?_ _)); exact BK182.out⟩, ⟨by repeat (first | (with_reducible first | exact HB.out | apply below_alloc | apply pw_below_drewN | apply below_drew1 | refine below_set ?_ GE182.out) | exact HB.out)⟩⟩
         · rw [if_neg c11] at H
           exact absurd H (by simp)
       · rw [if_neg c9] at H
         exact absurd H (by simp)
     · rw [if_neg c7] at H
       exact absurd H (by simp)
   · rw [if_neg c6] at H
     have c6b0 : decide (x6_1 < (l0.length : Int)) = false := decide_eq_false c6
     clear c6
     obtain rfl := Option.some.inj H
     go_wp2
     go_ret
     exact ⟨_, by first | rfl | (simp [errW_none, errW_some] <;> rfl) | (simp [*, errW_none, errW_some] <;> rfl), by (with_reducible repeat (first | apply Kd.R_alloc | apply Kd.R_drewN | apply Kd.R_drew)); exact HO_5.out, by repeat (first | (with_reducible first | exact HB.out | apply below_alloc | apply pw_below_drewN | apply below_drew1 | refine below_set ?_ GE182.out) | exact HB.out)⟩

/-! ### spec_l01CNarrow: function 108 -/
def spec_l01CNarrow.f (a0 : C64) : Option (C64) := (spec_l01Narrow.f a0.re).bind fun t192 => ((spec_l01Narrow.f a0.im).bind fun t193 => (some (⟨t192, t193⟩ : C64)))
set_option maxHeartbeats 8000000 in
set_option maxRecDepth 100000 in
theorem spec_l01CNarrow.calls (a0 : C64) (r : C64) (w : World) (h : spec_l01CNarrow.f a0 = some r) :
 Calls Try.prog 108 #[.complex .f64 a0.re a0.im] w fun e w' => e = .returned (.complex .f32 r.re r.im) ∧ Below w.heap.size w w' := by
 have HB := Aside0.mk (Below.refl w.heap.size w)
 have H : ((spec_l01Narrow.f a0.re).bind fun t192 => ((spec_l01Narrow.f a0.im).bind fun t193 => (some (⟨t192, t193⟩ : C64)))) = some r := h
 clear h
 replace H := Option.bind_eq_some_iff.mp H
 obtain ⟨t192, A20, H⟩ := H
 replace H : ((spec_l01Narrow.f a0.im).bind fun t193 => (some (⟨t192, t193⟩ : C64))) = some r := H
 have A2 := Aside0.mk A20
 clear A20
 replace H := Option.bind_eq_some_iff.mp H
 obtain ⟨t193, A30, H⟩ := H
 replace H : (some (⟨t192, t193⟩ : C64)) = some r := H
 have A3 := Aside0.mk A30
 clear A30
 obtain rfl := Option.some.inj H
 go_enter Try.func108, Try.ntmps108
 go_wp2_with (first | ((with_reducible refine gate_callee (f := 128) rfl ?_); refine goesL_ (some 5) rfl rfl Try.func128 (by kernel_rfl) rfl #[.float .f64 a0.re] rfl (by (try simp only [List.map_toArray, List.map_cons, List.map_nil]); first | done | rfl | (simp only [List.length_drop, List.length_take]; rfl)) ?_; (with_reducible refine (spec_l01Narrow.calls a0.re t192 _ A2.out).mono ?_); rintro e w' ⟨rfl, ⟨nd, rfl⟩⟩; refine ⟨_, rfl, ?_⟩) | ((with_reducible refine gate_callee (f := 128) rfl ?_); refine goesL_ (some 8) rfl rfl Try.func128 (by kernel_rfl) rfl #[.float .f64 a0.im] rfl (by (try simp only [List.map_toArray, List.map_cons, List.map_nil]); first | done | rfl | (simp only [List.length_drop, List.length_take]; rfl)) ?_; (with_reducible refine (spec_l01Narrow.calls a0.im t193 _ A3.out).mono ?_); rintro e w' ⟨rfl, ⟨nd, rfl⟩⟩; refine ⟨_, rfl, ?_⟩))
 go_ret
 exact ⟨by first | rfl | (simp [errW_none, errW_some] <;> rfl) | (simp [*, errW_none, errW_some] <;> rfl), by repeat (first | (with_reducible first | exact HB.out | apply below_alloc | apply pw_below_drewN | apply below_drew1) | exact HB.out)⟩

/-! ### spec_l01WideMul: function 109 -/
def spec_l01WideMul.f (a0 : C64) (a1 : C64) : Option (C64) := if FOk .mul .f64 a0.re a1.re = true then (if FOk .mul .f64 a0.im a1.im = true then (if FOk .sub .f64 (fq .mul .f64 a0.re a1.re) (fq .mul .f64 a0.im a1.im) = true then (if FOk .mul .f64 a0.re a1.im = true then (if FOk .mul .f64 a0.im a1.re = true then (if FOk .add .f64 (fq .mul .f64 a0.re a1.im) (fq .mul .f64 a0.im a1.re) = true then (some (⟨fq .sub .f64 (fq .mul .f64 a0.re a1.re) (fq .mul .f64 a0.im a1.im), fq .add .f64 (fq .mul .f64 a0.re a1.im) (fq .mul .f64 a0.im a1.re)⟩ : C64)) else (none)) else (none)) else (none)) else (none)) else (none)) else (none)
set_option maxHeartbeats 8000000 in
set_option maxRecDepth 100000 in
theorem spec_l01WideMul.calls (a0 : C64) (a1 : C64) (r : C64) (w : World) (h : spec_l01WideMul.f a0 a1 = some r) :
 Calls Try.prog 109 #[.complex .f64 a0.re a0.im, .complex .f64 a1.re a1.im] w fun e w' => e = .returned (.complex .f64 r.re r.im) ∧ Below w.heap.size w w' := by
 have HB := Aside0.mk (Below.refl w.heap.size w)
 have H : (if FOk .mul .f64 a0.re a1.re = true then (if FOk .mul .f64 a0.im a1.im = true then (if FOk .sub .f64 (fq .mul .f64 a0.re a1.re) (fq .mul .f64 a0.im a1.im) = true then (if FOk .mul .f64 a0.re a1.im = true then (if FOk .mul .f64 a0.im a1.re = true then (if FOk .add .f64 (fq .mul .f64 a0.re a1.im) (fq .mul .f64 a0.im a1.re) = true then (some (⟨fq .sub .f64 (fq .mul .f64 a0.re a1.re) (fq .mul .f64 a0.im a1.im), fq .add .f64 (fq .mul .f64 a0.re a1.im) (fq .mul .f64 a0.im a1.re)⟩ : C64)) else (none)) else (none)) else (none)) else (none)) else (none)) else (none)) = some r := h
 clear h
 by_cases c3 : FOk .mul .f64 a0.re a1.re = true
 · rw [if_pos c3] at H
   have fe3 := fun t w => frun (P := Try.prog) c3 t w
   have c3b0 : FOk .mul .f64 a0.re a1.re = true := c3
   clear c3
   by_cases c4 : FOk .mul .f64 a0.im a1.im = true
   · rw [if_pos c4] at H
     have fe4 := fun t w => frun (P := Try.prog) c4 t w
     have c4b0 : FOk .mul .f64 a0.im a1.im = true := c4
     clear c4
     by_cases c5 : FOk .sub .f64 (fq .mul .f64 a0.re a1.re) (fq .mul .f64 a0.im a1.im) = true
     · rw [if_pos c5] at H
       have fe5 := fun t w => frun (P := Try.prog) c5 t w
       have c5b0 : FOk .sub .f64 (fq .mul .f64 a0.re a1.re) (fq .mul .f64 a0.im a1.im) = true := c5
       clear c5
       by_cases c6 : FOk .mul .f64 a0.re a1.im = true
       · rw [if_pos c6] at H
         have fe6 := fun t w => frun (P := Try.prog) c6 t w
         have c6b0 : FOk .mul .f64 a0.re a1.im = true := c6
         clear c6
         by_cases c7 : FOk .mul .f64 a0.im a1.re = true
         · rw [if_pos c7] at H
           have fe7 := fun t w => frun (P := Try.prog) c7 t w
           have c7b0 : FOk .mul .f64 a0.im a1.re = true := c7
           clear c7
           by_cases c8 : FOk .add .f64 (fq .mul .f64 a0.re a1.im) (fq .mul .f64 a0.im a1.re) = true
           · rw [if_pos c8] at H
             have fe8 := fun t w => frun (P := Try.prog) c8 t w
             have c8b0 : FOk .add .f64 (fq .mul .f64 a0.re a1.im) (fq .mul .f64 a0.im a1.re) = true := c8
             clear c8
             obtain rfl := Option.some.inj H
             go_enter Try.func109, Try.ntmps109
             go_wp2
             go_ret
             exact ⟨by first | rfl | (simp [errW_none, errW_some] <;> rfl) | (simp [*, errW_none, errW_some] <;> rfl), by repeat (first | (with_reducible first | exact HB.out | apply below_alloc | apply pw_below_drewN | apply below_drew1) | exact HB.out)⟩
           · rw [if_neg c8] at H
             exact absurd H (by simp)
         · rw [if_neg c7] at H
           exact absurd H (by simp)
       · rw [if_neg c6] at H
         exact absurd H (by simp)
     · rw [if_neg c5] at H
       exact absurd H (by simp)
   · rw [if_neg c4] at H
     exact absurd H (by simp)
 · rw [if_neg c3] at H
   exact absurd H (by simp)

/-! ### spec_l01Wide: function 110 -/
def spec_l01Wide.f (a0 : C64) : Option (C64) := if FC 23 65 .f32 .f64 a0.re = true then (if FC 23 65 .f32 .f64 a0.im = true then (some (⟨fc .f32 .f64 a0.re, fc .f32 .f64 a0.im⟩ : C64)) else (none)) else (none)
set_option maxHeartbeats 8000000 in
set_option maxRecDepth 100000 in
theorem spec_l01Wide.calls (a0 : C64) (r : C64) (w : World) (h : spec_l01Wide.f a0 = some r) :
 Calls Try.prog 110 #[.complex .f32 a0.re a0.im] w fun e w' => e = .returned (.complex .f64 r.re r.im) ∧ Below w.heap.size w w' := by
 have hu23 := Try.underlying23
 have hu65 := Try.underlying65
 have HB := Aside0.mk (Below.refl w.heap.size w)
 have H : (if FC 23 65 .f32 .f64 a0.re = true then (if FC 23 65 .f32 .f64 a0.im = true then (some (⟨fc .f32 .f64 a0.re, fc .f32 .f64 a0.im⟩ : C64)) else (none)) else (none)) = some r := h
 clear h
 by_cases c2 : FC 23 65 .f32 .f64 a0.re = true
 · rw [if_pos c2] at H
   have fe2 := fun w => frunc (P := Try.prog) (src := 23) (dst := 65) (by kernel_rfl) Try.underlying65 c2 w
   have c2b0 : FC 23 65 .f32 .f64 a0.re = true := c2
   clear c2
   by_cases c3 : FC 23 65 .f32 .f64 a0.im = true
   · rw [if_pos c3] at H
     have fe3 := fun w => frunc (P := Try.prog) (src := 23) (dst := 65) (by kernel_rfl) Try.underlying65 c3 w
     have c3b0 : FC 23 65 .f32 .f64 a0.im = true := c3
     clear c3
     obtain rfl := Option.some.inj H
     go_enter Try.func110, Try.ntmps110
     go_wp2
     go_ret
     exact ⟨by first | rfl | (simp [errW_none, errW_some] <;> rfl) | (simp [*, errW_none, errW_some] <;> rfl), by repeat (first | (with_reducible first | exact HB.out | apply below_alloc | apply pw_below_drewN | apply below_drew1) | exact HB.out)⟩
   · rw [if_neg c3] at H
     exact absurd H (by simp)
 · rw [if_neg c2] at H
   exact absurd H (by simp)

/-! ### spec_l01Mul: function 80 -/
def spec_l01Mul.f (a0 a1 : C64) : Option C64 := mulC a0 a1
/-- Two complex numbers in double precision that are the same. -/
def SameD (x y : C64) : Prop := Same .f64 x.re y.re ∧ Same .f64 x.im y.im
set_option maxRecDepth 100000 in
theorem wide_any (b a : C64) (hb : SameC b a) (w : World) : Calls Try.prog 110 #[.complex .f32 b.re b.im] w fun e w' => ∃ q : C64, SameD q ⟨nc .f32 .f64 a.re, nc .f32 .f64 a.im⟩ ∧ e = .returned (.complex .f64 q.re q.im) ∧ Drawn0 w w' := by
 have hc := fun x W => run_conv_any (P := Try.prog) (src := 23) (dst := 65) (s := .f32) (k := .f64) Try.underlying23 Try.underlying65 (by decide) x W
 go_enter Try.func110, Try.ntmps110
 go_wp2
 go_ret
 exact ⟨⟨_, _⟩, ⟨same_wide hb.1 _, same_wide hb.2 _⟩, rfl, ⟨⟨_, rfl⟩⟩⟩
set_option maxRecDepth 100000 in
theorem widemul_any (b c x y : C64) (hb : SameD b x) (hc : SameD c y) (w : World) : Calls Try.prog 109 #[.complex .f64 b.re b.im, .complex .f64 c.re c.im] w fun e w' => ∃ q : C64, SameD q ⟨nq .sub .f64 (nq .mul .f64 x.re y.re) (nq .mul .f64 x.im y.im), nq .add .f64 (nq .mul .f64 x.re y.im) (nq .mul .f64 x.im y.re)⟩ ∧ e = .returned (.complex .f64 q.re q.im) ∧ Drawn0 w w' := by
 have hm := fun t x y W => run_any (P := Try.prog) (op := .mul) (.inr (.inr (.inl rfl))) t .f64 x y W
 have ha := fun t x y W => run_any (P := Try.prog) (op := .add) (.inl rfl) t .f64 x y W
 have hs := fun t x y W => run_any (P := Try.prog) (op := .sub) (.inr (.inl rfl)) t .f64 x y W
 go_enter Try.func109, Try.ntmps109
 go_wp2
 go_ret
 exact ⟨⟨_, _⟩, ⟨same_rv (same_rv hb.1 hc.1 _) (same_rv hb.2 hc.2 _) _, same_rv (same_rv hb.1 hc.2 _) (same_rv hb.2 hc.1 _) _⟩, rfl, ⟨⟨_, rfl⟩⟩⟩
set_option maxRecDepth 100000 in
theorem narrow1_any (b a : Nat) (hb : Same .f64 b a) (ho : NarOk a = true) (w : World) : Calls Try.prog 128 #[.float .f64 b] w fun e w' => ∃ q, Same .f32 q (nc .f64 .f32 a) ∧ e = .returned (.float .f32 q) ∧ Drawn0 w w' := by
 have hc := fun x W => run_conv_any (P := Try.prog) (src := 65) (dst := 23) (s := .f64) (k := .f32) Try.underlying65 Try.underlying23 (by decide) x W
 go_enter Try.func128, Try.ntmps128
 go_wp2
 go_ret
 exact ⟨_, same_narrow hb ho _, rfl, ⟨⟨_, rfl⟩⟩⟩
set_option maxRecDepth 100000 in
theorem narrow_any (b a : C64) (hb : SameD b a) (h1 : NarOk a.re = true) (h2 : NarOk a.im = true) (w : World) : Calls Try.prog 108 #[.complex .f64 b.re b.im] w fun e w' => ∃ q : C64, SameC q ⟨nc .f64 .f32 a.re, nc .f64 .f32 a.im⟩ ∧ e = .returned (.complex .f32 q.re q.im) ∧ Drawn0 w w' := by
 go_enter Try.func108, Try.ntmps108
 go_wp2_with fail
 refine (narrow1_any b.re a.re hb.1 h1 _).mono ?_
 rintro e w1 ⟨q1, hq1, rfl, ⟨⟨n1, rfl⟩⟩⟩
 go_wp2_with fail
 refine (narrow1_any b.im a.im hb.2 h2 _).mono ?_
 rintro e w2 ⟨q2, hq2, rfl, ⟨⟨n2, rfl⟩⟩⟩
 go_wp2_with fail
 go_ret
 exact ⟨⟨_, _⟩, ⟨hq1, hq2⟩, rfl, ⟨⟨_, rfl⟩⟩⟩
set_option maxHeartbeats 8000000 in
set_option maxRecDepth 100000 in
theorem spec_l01Mul.calls (b0 b1 a0 a1 : C64) (h0 : SameC b0 a0) (h1 : SameC b1 a1) (r : C64) (w : World) (h : spec_l01Mul.f a0 a1 = some r) :
 Calls Try.prog 80 #[.complex .f32 b0.re b0.im, .complex .f32 b1.re b1.im] w fun e w' => ∃ q : C64, SameC q r ∧ e = .returned (.complex .f32 q.re q.im) ∧ Below w.heap.size w w' := by
 unfold spec_l01Mul.f mulC at h
 by_cases hn : NarOk (mulR a0 a1) = true ∧ NarOk (mulI a0 a1) = true
 · rw [if_pos hn] at h
   obtain rfl := Option.some.inj h
   have HB := Below.refl w.heap.size w
   go_enter Try.func80, Try.ntmps80
   go_wp2_with fail
   refine (wide_any b0 a0 h0 _).mono ?_
   rintro e w1 ⟨q1, hq1, rfl, ⟨⟨n1, rfl⟩⟩⟩
   go_wp2_with fail
   refine (wide_any b1 a1 h1 _).mono ?_
   rintro e w2 ⟨q2, hq2, rfl, ⟨⟨n2, rfl⟩⟩⟩
   go_wp2_with fail
   refine (widemul_any q1 q2 _ _ hq1 hq2 _).mono ?_
   rintro e w3 ⟨q3, hq3, rfl, ⟨⟨n3, rfl⟩⟩⟩
   go_wp2_with fail
   refine (narrow_any q3 _ hq3 hn.1 hn.2 _).mono ?_
   rintro e w4 ⟨q4, hq4, rfl, ⟨⟨n4, rfl⟩⟩⟩
   go_wp2_with fail
   go_ret
   exact ⟨q4, hq4, rfl, by repeat (first | exact HB | apply pw_below_drewN | apply below_drew1)⟩
 · rw [if_neg hn] at h; cases h

/-! ### spec_l06Noise: function 81 -/
def spec_l06Noise.f (a0 : Int) (a1 : Int) (a2 : Int) (a3 : Nat) : Option (C64) := (spec_l06Draw.f a0 (wrap64 (2 * (wrap64 ((wrap64 ((wrap64 (16 * a1)) + a2)) + 1000000))))).bind fun t177 => (if FOk .quo .f32 (floatOfInt .f32 (wrap64 (t177 - 16384))) 1182793728 = true then ((spec_l06Draw.f a0 (wrap64 ((wrap64 (2 * (wrap64 ((wrap64 ((wrap64 (16 * a1)) + a2)) + 1000000)))) + 1))).bind fun t178 => (if FOk .quo .f32 (floatOfInt .f32 (wrap64 (t178 - 16384))) 1182793728 = true then ((spec_l01Scale.f (⟨fq .quo .f32 (floatOfInt .f32 (wrap64 (t177 - 16384))) 1182793728, fq .quo .f32 (floatOfInt .f32 (wrap64 (t178 - 16384))) 1182793728⟩ : C64) a3).bind fun t179 => (some t179)) else (none))) else (none))
set_option maxHeartbeats 8000000 in
set_option maxRecDepth 100000 in
theorem spec_l06Noise.calls (a0 : Int) (a1 : Int) (a2 : Int) (a3 : Nat) (r : C64) (w : World) (h : spec_l06Noise.f a0 a1 a2 a3 = some r) :
 Calls Try.prog 81 #[.int .i64 a0, .int .i64 a1, .int .i64 a2, .float .f32 a3] w fun e w' => ∃ q : C64, SameC q r ∧ e = .returned (.complex .f32 q.re q.im) ∧ Below w.heap.size w w' := by
 have hu2 := Try.underlying2
 have hu23 := Try.underlying23
 have HB := Aside0.mk (Below.refl w.heap.size w)
 have H : ((spec_l06Draw.f a0 (wrap64 (2 * (wrap64 ((wrap64 ((wrap64 (16 * a1)) + a2)) + 1000000))))).bind fun t177 => (if FOk .quo .f32 (floatOfInt .f32 (wrap64 (t177 - 16384))) 1182793728 = true then ((spec_l06Draw.f a0 (wrap64 ((wrap64 (2 * (wrap64 ((wrap64 ((wrap64 (16 * a1)) + a2)) + 1000000)))) + 1))).bind fun t178 => (if FOk .quo .f32 (floatOfInt .f32 (wrap64 (t178 - 16384))) 1182793728 = true then ((spec_l01Scale.f (⟨fq .quo .f32 (floatOfInt .f32 (wrap64 (t177 - 16384))) 1182793728, fq .quo .f32 (floatOfInt .f32 (wrap64 (t178 - 16384))) 1182793728⟩ : C64) a3).bind fun t179 => (some t179)) else (none))) else (none))) = some r := h
 clear h
 replace H := Option.bind_eq_some_iff.mp H
 obtain ⟨t177, A50, H⟩ := H
 replace H : (if FOk .quo .f32 (floatOfInt .f32 (wrap64 (t177 - 16384))) 1182793728 = true then ((spec_l06Draw.f a0 (wrap64 ((wrap64 (2 * (wrap64 ((wrap64 ((wrap64 (16 * a1)) + a2)) + 1000000)))) + 1))).bind fun t178 => (if FOk .quo .f32 (floatOfInt .f32 (wrap64 (t178 - 16384))) 1182793728 = true then ((spec_l01Scale.f (⟨fq .quo .f32 (floatOfInt .f32 (wrap64 (t177 - 16384))) 1182793728, fq .quo .f32 (floatOfInt .f32 (wrap64 (t178 - 16384))) 1182793728⟩ : C64) a3).bind fun t179 => (some t179)) else (none))) else (none)) = some r := H
 have A5 := Aside0.mk A50
 clear A50
 by_cases c6 : FOk .quo .f32 (floatOfInt .f32 (wrap64 (t177 - 16384))) 1182793728 = true
 · rw [if_pos c6] at H
   have fe6 := fun t w => frun (P := Try.prog) c6 t w
   have c6b0 : FOk .quo .f32 (floatOfInt .f32 (wrap64 (t177 - 16384))) 1182793728 = true := c6
   clear c6
   replace H := Option.bind_eq_some_iff.mp H
   obtain ⟨t178, A70, H⟩ := H
   replace H : (if FOk .quo .f32 (floatOfInt .f32 (wrap64 (t178 - 16384))) 1182793728 = true then ((spec_l01Scale.f (⟨fq .quo .f32 (floatOfInt .f32 (wrap64 (t177 - 16384))) 1182793728, fq .quo .f32 (floatOfInt .f32 (wrap64 (t178 - 16384))) 1182793728⟩ : C64) a3).bind fun t179 => (some t179)) else (none)) = some r := H
   have A7 := Aside0.mk A70
   clear A70
   by_cases c8 : FOk .quo .f32 (floatOfInt .f32 (wrap64 (t178 - 16384))) 1182793728 = true
   · rw [if_pos c8] at H
     have fe8 := fun t w => frun (P := Try.prog) c8 t w
     have c8b0 : FOk .quo .f32 (floatOfInt .f32 (wrap64 (t178 - 16384))) 1182793728 = true := c8
     clear c8
     replace H := Option.bind_eq_some_iff.mp H
     obtain ⟨t179, A90, H⟩ := H
     replace H : (some t179) = some r := H
     have A9 := Aside0.mk A90
     clear A90
     as_aux_lemma =>
      obtain rfl := Option.some.inj H
      go_enter Try.func81, Try.ntmps81
      go_wp2_with (first | ((with_reducible refine gate_callee (f := 105) rfl ?_); refine goesL_ (some 20) rfl rfl Try.func105 (by kernel_rfl) rfl #[.int .i64 a0, .int .i64 (wrap64 (2 * (wrap64 ((wrap64 ((wrap64 (16 * a1)) + a2)) + 1000000))))] rfl (by (try simp only [List.map_toArray, List.map_cons, List.map_nil]); first | done | rfl | (simp only [List.length_drop, List.length_take]; rfl)) ?_; (with_reducible refine (spec_l06Draw.calls a0 (wrap64 (2 * (wrap64 ((wrap64 ((wrap64 (16 * a1)) + a2)) + 1000000)))) t177 _ A5.out).mono ?_); rintro e w' ⟨rfl, ⟨nd, rfl⟩⟩; refine ⟨_, rfl, ?_⟩) | ((with_reducible refine gate_callee (f := 105) rfl ?_); refine goesL_ (some 28) rfl rfl Try.func105 (by kernel_rfl) rfl #[.int .i64 a0, .int .i64 (wrap64 ((wrap64 (2 * (wrap64 ((wrap64 ((wrap64 (16 * a1)) + a2)) + 1000000)))) + 1))] rfl (by (try simp only [List.map_toArray, List.map_cons, List.map_nil]); first | done | rfl | (simp only [List.length_drop, List.length_take]; rfl)) ?_; (with_reducible refine (spec_l06Draw.calls a0 (wrap64 ((wrap64 (2 * (wrap64 ((wrap64 ((wrap64 (16 * a1)) + a2)) + 1000000)))) + 1)) t178 _ A7.out).mono ?_); rintro e w' ⟨rfl, ⟨nd, rfl⟩⟩; refine ⟨_, rfl, ?_⟩) | ((with_reducible refine gate_callee (f := 77) rfl ?_); refine goesL_ (some 36) rfl rfl Try.func77 (by kernel_rfl) rfl #[.complex .f32 (fq .quo .f32 (floatOfInt .f32 (wrap64 (t177 - 16384))) 1182793728) (fq .quo .f32 (floatOfInt .f32 (wrap64 (t178 - 16384))) 1182793728), .float .f32 a3] rfl (by (try simp only [List.map_toArray, List.map_cons, List.map_nil]); first | done | rfl | (simp only [List.length_drop, List.length_take]; rfl)) ?_; (with_reducible refine (spec_l01Scale.calls (⟨fq .quo .f32 (floatOfInt .f32 (wrap64 (t177 - 16384))) 1182793728, fq .quo .f32 (floatOfInt .f32 (wrap64 (t178 - 16384))) 1182793728⟩ : C64) a3 t179 _ A9.out).mono ?_); rintro e w10 ⟨q10, hq10, rfl, hb⟩; refine ⟨_, rfl, ?_⟩; have n0_ := Aside0.mk (below_step (by repeat (first | (with_reducible first | exact HB.out | apply below_alloc | apply pw_below_drewN | apply below_drew1) | exact HB.out)) hb); clear HB; have HB := n0_; clear n0_; (try clear hb); (try clear hb2); (try clear hk); (try clear hi)))
      go_ret
      exact ⟨q10, hq10, by first | rfl | (simp [errW_none, errW_some] <;> rfl) | (simp [*, errW_none, errW_some] <;> rfl), by repeat (first | (with_reducible first | exact HB.out | apply below_alloc | apply pw_below_drewN | apply below_drew1) | exact HB.out)⟩
   · rw [if_neg c8] at H
     exact absurd H (by simp)
 · rw [if_neg c6] at H
   exact absurd H (by simp)

/-! ### spec_l06Shot: function 58 -/
-- rounds
mutual
def spec_l06Shot.l0 : Nat → List (S88) → List (S69) → Nat → Int → Int → List C64 → Int → Option (List C64)
 | 0, _, _, _, _, _, _, _ => none
 | k + 1, x0, x1, x2, x3, x4, x11, x12 => if x12 < (x1.length : Int) then (if 0 ≤ x12 then ((spec_l06Symbol.f ((rd_T69 x1 x12).f2) x4).bind fun t177 => ((spec_l01Scale.f t177 ((rd_T69 x1 x12).f1)).bind fun t179 => ((spec_l02Steering.f k x0 ((rd_T69 x1 x12).f0.f0) ((rd_T69 x1 x12).f0.f1)).bind fun t181 => (spec_l06Shot.l1 k x0 x1 x2 x3 x4 x11 x12 t179 t181 0)))) else (none)) else (spec_l06Shot.l2 k x2 x3 x4 x11 0)
def spec_l06Shot.l1 : Nat → List (S88) → List (S69) → Nat → Int → Int → List C64 → Int → C64 → List C64 → Int → Option (List C64)
 | 0, _, _, _, _, _, _, _, _, _, _ => none
 | k + 1, x0, x1, x2, x3, x4, x11, x12, x13, x14, x15 => if x15 < (x11.length : Int) then (if 0 ≤ x15 then (if x15 < (x14.length : Int) then ((spec_l01Mul.f x13 (rdOf c64z x14 x15)).bind fun t186 => (spec_l06Shot.l1 k x0 x1 x2 x3 x4 (x11.set (x15 : Int).toNat (⟨nq .add .f32 ((rdOf c64z x11 x15).re) t186.re, nq .add .f32 ((rdOf c64z x11 x15).im) t186.im⟩ : C64)) x12 x13 x14 (wrap64 (x15 + 1)))) else (none)) else (none)) else (spec_l06Shot.l0 k x0 x1 x2 x3 x4 x11 (wrap64 (x12 + 1)))
def spec_l06Shot.l2 : Nat → Nat → Int → Int → List C64 → Int → Option (List C64)
 | 0, _, _, _, _, _ => none
 | k + 1, x2, x3, x4, x11, x16 => if x16 < (x11.length : Int) then (if 0 ≤ x16 then ((spec_l06Noise.f x3 x4 x16 x2).bind fun t189 => (spec_l06Shot.l2 k x2 x3 x4 (x11.set (x16 : Int).toNat (⟨nq .add .f32 ((rdOf c64z x11 x16).re) t189.re, nq .add .f32 ((rdOf c64z x11 x16).im) t189.im⟩ : C64)) (wrap64 (x16 + 1)))) else (none)) else (some x11)
end
def spec_l06Shot.f (k : Nat) (l0 : List (S88)) (l1 : List (S69)) (a2 : Nat) (a3 : Int) (a4 : Int) : Option (List C64) := if 0 ≤ (l0.length : Int) then (if ((l0.length : Int) : Int).toNat ≤ 35184372088832 then (spec_l06Shot.l0 k l0 l1 a2 a3 a4 (List.replicate ((l0.length : Int) : Int).toNat c64z) 0) else (none)) else (none)
def spec_l06Shot.T5 : Bool × List (List Nat × List Nat) := (true, [([], []), ([], []), ([0, 1], [0, 1]), ([2], [2]), ([3], [3]), ([], []), ([4, 5], [4, 5]), ([], []), ([], []), ([7, 8], [7, 8]), ([9], [9]), ([10], [10]), ([6, 11, 6], [6, 11]), ([12, 12, 0, 1, 2, 3, 4, 5, 6, 7, 8, 9, 10, 11, 12], [12])])
def spec_l06Shot.B5 : List Nat := [0, 0, 3, 7, 15, 0, 63, 0, 0, 384, 896, 1920, 4095, 8191]
theorem spec_l06Shot.tab5 : rtab .any (opsOf Try.f58 5) = spec_l06Shot.T5 := by kernel_rfl
theorem spec_l06Shot.bits5 : waitsOk spec_l06Shot.T5.2 spec_l06Shot.B5 = true := by kernel_rfl
def spec_l06Shot.T10 : Bool × List (List Nat × List Nat) := (true, [([], []), ([], []), ([], []), ([], []), ([2, 3], [2, 3]), ([4], [4]), ([], []), ([], []), ([], []), ([7, 8], [7, 8]), ([9], [9]), ([6, 10], [6, 10]), ([5, 11], [5, 11]), ([0, 1, 0, 1, 2, 3, 4, 5, 6, 7, 8, 9, 10, 11, 12], [0, 1]), ([13, 12, 11, 0, 1, 2, 3, 4, 5, 6, 7, 8, 9, 10, 11, 12], [12, 13])])
def spec_l06Shot.B10 : List Nat := [0, 0, 0, 0, 12, 28, 0, 0, 0, 384, 896, 1984, 4092, 8191, 16383]
theorem spec_l06Shot.tab10 : rtab .any (opsOf Try.f58 10) = spec_l06Shot.T10 := by kernel_rfl
theorem spec_l06Shot.bits10 : waitsOk spec_l06Shot.T10.2 spec_l06Shot.B10 = true := by kernel_rfl
def spec_l06Shot.T14 : Bool × List (List Nat × List Nat) := (true, [([], []), ([], []), ([], []), ([], []), ([2, 3], [2, 3]), ([4], [4]), ([], []), ([], []), ([], []), ([], []), ([6, 7, 8, 9], [6, 7, 8, 9]), ([5, 10], [5, 10]), ([0, 1, 0, 1, 2, 3, 4, 5, 6, 7, 8, 9, 10, 11], [0, 1]), ([12, 11, 10, 0, 1, 2, 3, 4, 5, 6, 7, 8, 9, 10, 11], [11, 12])])
def spec_l06Shot.B14 : List Nat := [0, 0, 0, 0, 12, 28, 0, 0, 0, 0, 960, 2044, 4095, 8191]
theorem spec_l06Shot.tab14 : rtab .any (opsOf Try.f58 14) = spec_l06Shot.T14 := by kernel_rfl
theorem spec_l06Shot.bits14 : waitsOk spec_l06Shot.T14.2 spec_l06Shot.B14 = true := by kernel_rfl
set_option maxHeartbeats 8000000 in
set_option maxRecDepth 100000 in
theorem spec_l06Shot.calls (k : Nat) (A0 : Option Addr) (c0 : Nat) (l0 : List (S88)) (A1 : Option Addr) (c1 : Nat) (l1 : List (S69)) (a2 : Nat) (a3 : Int) (a4 : Int) (r : List C64) (w : World) (hr0 : Kd.C k88 w A0 l0.length l0) (hc0 : l0.length ≤ c0) (hr1 : Kd.C k69 w A1 l1.length l1) (hc1 : l1.length ≤ c1) (h : spec_l06Shot.f k l0 l1 a2 a3 a4 = some r) :
 Calls Try.prog 58 #[.slice A0 l0.length c0, .slice A1 l1.length c1, .float .f32 a2, .int .i64 a3, .int .i64 a4] w fun e w' => ∃ v0_ : Value, e = .returned (v0_) ∧ Kd.R Kd.c64 94 w' w.heap.size (fun _ => True) v0_ r ∧ Below w.heap.size w w' := by
 have hu67 := Try.underlying67
 have HR0 := Aside0.mk hr0
 have HC0 := Aside0.mk hc0
 clear hr0 hc0
 have HR1 := Aside0.mk hr1
 have HC1 := Aside0.mk hc1
 clear hr1 hc1
 have HB := Aside0.mk (Below.refl w.heap.size w)
 have H : (if 0 ≤ (l0.length : Int) then (if ((l0.length : Int) : Int).toNat ≤ 35184372088832 then (spec_l06Shot.l0 k l0 l1 a2 a3 a4 (List.replicate ((l0.length : Int) : Int).toNat c64z) 0) else (none)) else (none)) = some r := h
 clear h
 by_cases c6 : 0 ≤ (l0.length : Int)
 · rw [if_pos c6] at H
   have c6b0 := eq_true c6
   have c6b1 : decide (0 ≤ (l0.length : Int)) = true := decide_eq_true c6
   clear c6
   by_cases c7 : ((l0.length : Int) : Int).toNat ≤ 35184372088832
   · rw [if_pos c7] at H
     have c7b0 := eq_true c7
     have c7b1 : decide (((l0.length : Int) : Int).toNat ≤ 35184372088832) = true := decide_eq_true c7
     clear c7
     obtain ⟨y173, hy173⟩ : ∃ y_ : List C64, y_ = (List.replicate ((l0.length : Int) : Int).toNat c64z) := ⟨_, rfl⟩
     replace H : (spec_l06Shot.l0 k l0 l1 a2 a3 a4 y173 0) = some r := by first | (rw [hy173]; with_reducible exact H) | (have H2_ := (Option.bind_some _ _).symm.trans H; rw [hy173]; with_reducible exact H2_) | (have H2_ := (Option.bind_some _ _).symm.trans H; with_reducible exact H2_) | with_reducible exact H | (rw [hy173]; exact H) | exact H
     have Ny173 := Aside0.mk hy173
     clear hy173
     have H' := Aside0.mk H
     clear H
     go_enter Try.func58, Try.ntmps58
     go_wp2_with (first | ((with_reducible refine gate_dst (N := 19) rfl ?_); refine Kd.R_make Kd.c64 _ 94 rfl (N := 19) rfl 45 _ _ rfl (l0.length : Int) rfl rfl Try.underlying45 (.complex .f32 0 0) 8 info94 rfl (by decide) (by omega) c64z (ok := fun _ => True) (okp := fun _ => True) ⟨c64z, .refl _, rfl⟩ (fun _ hk => hk) trivial (of_decide_eq_true (by first | (with_reducible assumption) | assumption)) (Nat.le_trans (Nat.mul_le_mul_right _ (of_decide_eq_true (by first | (with_reducible assumption) | assumption) : (l0.length : Int).toNat ≤ 35184372088832)) (by omega)) (Below.refl _ _) (Nat.le_refl _) ?_; intro v174 w8 ho9 hb hg_ hnew_; clear hg_ hnew_; (first | rw [← Ny173.out] at ho9 | (simp only [Int.reduceToNat] at ho9; rw [← Ny173.out] at ho9)); have n0_ := Aside0.mk (Kd.R_lower ho9 (below_size (by repeat (first | (with_reducible first | exact HB.out | apply below_alloc | apply pw_below_drewN | apply below_drew1) | exact HB.out)))); have n1_ := Aside0.mk (below_step (by repeat (first | (with_reducible first | exact HB.out | apply below_alloc | apply pw_below_drewN | apply below_drew1) | exact HB.out)) hb); clear HB; have HO175 := n0_; have HB := n1_; clear n0_ n1_; clear hb ho9))
     go_loopg [12] k (fun kq v12 w' => ∃ (x11_1 : List C64) (x12_1 : Int), v12 = .int .i64 x12_1 ∧ Aside0 (spec_l06Shot.l0 kq l0 l1 a2 a3 a4 x11_1 x12_1 = some r) ∧ Aside0 (kq ≤ k) ∧ Aside0 (Kd.R Kd.c64 94 w' w.heap.size (fun _ => True) v174 x11_1) ∧ Aside0 (Below w.heap.size w w'))
     case atStart => exact ⟨(y173), (0), (by first | rfl | (simp; done) | (simp [*]; done)), H', ⟨Nat.le_refl _⟩, ⟨by (with_reducible repeat (first | apply Kd.R_alloc | apply Kd.R_drewN | apply Kd.R_drew)); exact HO175.out⟩, ⟨by repeat (first | (with_reducible first | exact HB.out | apply below_alloc | apply pw_below_drewN | apply below_drew1) | exact HB.out)⟩⟩
     case round =>
      clear H'
      (try clear c1); (try clear p2); (try clear c5); (try clear c6); (try clear c6b0); (try clear c6b1); (try clear c7); (try clear c7b0); (try clear c7b1)
      obtain ⟨x11_1, x12_1, rfl, HA, HK1, HO_11, HB⟩ := hrel
      cases gk with
      | zero => exact absurd HA.out (by simp [spec_l06Shot.l0])
      | succ k1 =>
       have H := HA.out
       clear HA
       simp only [spec_l06Shot.l0] at H
       by_cases c10 : x12_1 < (l1.length : Int)
       · rw [if_pos c10] at H
         have c10b0 : decide (x12_1 < (l1.length : Int)) = true := decide_eq_true c10
         clear c10
         by_cases c11 : 0 ≤ x12_1
         · rw [if_pos c11] at H
           have c11b0 : decide (0 ≤ x12_1) = true := decide_eq_true c11
           clear c11
           replace H := Option.bind_eq_some_iff.mp H
           obtain ⟨t177, A120, H⟩ := H
           replace H : ((spec_l01Scale.f t177 ((rd_T69 l1 x12_1).f1)).bind fun t179 => ((spec_l02Steering.f k1 l0 ((rd_T69 l1 x12_1).f0.f0) ((rd_T69 l1 x12_1).f0.f1)).bind fun t181 => (spec_l06Shot.l1 k1 l0 l1 a2 a3 a4 x11_1 x12_1 t179 t181 0))) = some r := H
           have A12 := Aside0.mk A120
           clear A120
           replace H := Option.bind_eq_some_iff.mp H
           obtain ⟨t179, A130, H⟩ := H
           replace H : ((spec_l02Steering.f k1 l0 ((rd_T69 l1 x12_1).f0.f0) ((rd_T69 l1 x12_1).f0.f1)).bind fun t181 => (spec_l06Shot.l1 k1 l0 l1 a2 a3 a4 x11_1 x12_1 t179 t181 0)) = some r := H
           have A13 := Aside0.mk A130
           clear A130
           replace H := Option.bind_eq_some_iff.mp H
           obtain ⟨t181, A140, H⟩ := H
           replace H : (spec_l06Shot.l1 k1 l0 l1 a2 a3 a4 x11_1 x12_1 t179 t181 0) = some r := H
           have A14 := Aside0.mk A140
           clear A140
           have H' := Aside0.mk H
           clear H
           try go_wp2
           have n0_ := Aside0.mk (Kd.R_drew HO_11.out)
           have n1_ := Aside0.mk (below_drew1 HB.out)
           clear HO_11
           clear HB
           have HO_11 := n0_
           have HB := n1_
           clear n0_ n1_
           have p176 : 0 ≤ (x12_1 : Int) := of_decide_eq_true (by first | (with_reducible assumption) | assumption)
           have q176 : x12_1 < (l1.length : Int) := of_decide_eq_true (by first | (with_reducible assumption) | assumption)
           obtain ⟨ad176, e176, hx176_0, hx176_1, hx176_2, hx176_3⟩ := at_T69 HR1.out x12_1 p176 q176
           have hw176_3 := hx176_3
           have hw176_2 := hx176_2
           have hw176_1 := hx176_1
           have hw176_0 := hx176_0
           cases e176
           replace hx176_0 := (HB.out.cell (World.block_lt_of_cell? w _ hx176_0)).trans hx176_0
           replace hx176_1 := (HB.out.cell (World.block_lt_of_cell? w _ hx176_1)).trans hx176_1
           replace hx176_2 := (HB.out.cell (World.block_lt_of_cell? w _ hx176_2)).trans hx176_2
           replace hx176_3 := (HB.out.cell (World.block_lt_of_cell? w _ hx176_3)).trans hx176_3
           replace p176 := eq_true p176
           replace q176 := eq_true q176
           have p178 : 0 ≤ (x12_1 : Int) := of_decide_eq_true (by first | (with_reducible assumption) | assumption)
           have q178 : x12_1 < (l1.length : Int) := of_decide_eq_true (by first | (with_reducible assumption) | assumption)
           obtain ⟨ad178, e178, hx178_0, hx178_1, hx178_2, hx178_3⟩ := at_T69 HR1.out x12_1 p178 q178
           have hw178_3 := hx178_3
           have hw178_2 := hx178_2
           have hw178_1 := hx178_1
           have hw178_0 := hx178_0
           obtain rfl : ad176 = ad178 := (by injection e178)
           replace hx178_0 := (HB.out.cell (World.block_lt_of_cell? w _ hx178_0)).trans hx178_0
           replace hx178_1 := (HB.out.cell (World.block_lt_of_cell? w _ hx178_1)).trans hx178_1
           replace hx178_2 := (HB.out.cell (World.block_lt_of_cell? w _ hx178_2)).trans hx178_2
           replace hx178_3 := (HB.out.cell (World.block_lt_of_cell? w _ hx178_3)).trans hx178_3
           replace p178 := eq_true p178
           replace q178 := eq_true q178
           refine start_ (n := 14) (S := fun w' => w'.cell? (ad176.add ((x12_1).toNat * 4)) = some (.int .i64 ((rd_T69 l1 x12_1).f0.f0)) ∧ w'.cell? ⟨(ad176.add ((x12_1).toNat * 4)).block, (ad176.add ((x12_1).toNat * 4)).off + 1, none⟩ = some (.int .i64 ((rd_T69 l1 x12_1).f0.f1)) ∧ w'.cell? ⟨(ad176.add ((x12_1).toNat * 4)).block, (ad176.add ((x12_1).toNat * 4)).off + 2, none⟩ = some (.float .f32 ((rd_T69 l1 x12_1).f1)) ∧ w'.cell? ⟨(ad176.add ((x12_1).toNat * 4)).block, (ad176.add ((x12_1).toNat * 4)).off + 3, none⟩ = some (.int .i64 ((rd_T69 l1 x12_1).f2)) ∧ w'.cell? (ad176.add ((x12_1).toNat * 4)) = some (.int .i64 ((rd_T69 l1 x12_1).f0.f0)) ∧ w'.cell? ⟨(ad176.add ((x12_1).toNat * 4)).block, (ad176.add ((x12_1).toNat * 4)).off + 1, none⟩ = some (.int .i64 ((rd_T69 l1 x12_1).f0.f1)) ∧ w'.cell? ⟨(ad176.add ((x12_1).toNat * 4)).block, (ad176.add ((x12_1).toNat * 4)).off + 2, none⟩ = some (.float .f32 ((rd_T69 l1 x12_1).f1)) ∧ w'.cell? ⟨(ad176.add ((x12_1).toNat * 4)).block, (ad176.add ((x12_1).toNat * 4)).off + 3, none⟩ = some (.int .i64 ((rd_T69 l1 x12_1).f2))) (ds := []) #[false, false, false, false, false, false, false, false, false, false, false, false, false, false] (by kernel_rfl) rfl rfl ⟨((HB.out.cell (World.block_lt_of_cell? w _ hw176_0)).trans hw176_0), ((HB.out.cell (World.block_lt_of_cell? w _ hw176_1)).trans hw176_1), ((HB.out.cell (World.block_lt_of_cell? w _ hw176_2)).trans hw176_2), ((HB.out.cell (World.block_lt_of_cell? w _ hw176_3)).trans hw176_3), ((HB.out.cell (World.block_lt_of_cell? w _ hw178_0)).trans hw178_0), ((HB.out.cell (World.block_lt_of_cell? w _ hw178_1)).trans hw178_1), ((HB.out.cell (World.block_lt_of_cell? w _ hw178_2)).trans hw178_2), ((HB.out.cell (World.block_lt_of_cell? w _ hw178_3)).trans hw178_3)⟩ (fun hHeld => ?_); refine with_tabW spec_l06Shot.tab5 spec_l06Shot.bits5 (fun HT_ HW_ => ?_)
           generalize wr.drew = w15 at HO_11 HB hx176_0 hx176_1 hx176_2 hx176_3 hx178_0 hx178_1 hx178_2 hx178_3 hHeld ⊢
           refine pure_ (i := 0) (N := some 26) (v := ?_) (a' := ?_) #[true, false, false, false, false, false, false, false, false, false, false, false, false, false] rfl rfl (any_of HT_.out (by kernel_rfl)) (fun _ _ _ h => h) (Or.inl ⟨by rfl, ?_⟩) ?_ ?_; rotate_left 4
           refine pure_ (i := 1) (N := some 27) (v := ?_) (a' := ?_) #[true, true, false, false, false, false, false, false, false, false, false, false, false, false] rfl rfl (any_of HT_.out (by kernel_rfl)) (fun _ _ _ h => h) (Or.inl ⟨by rfl, ?_⟩) ?_ ?_; rotate_left 4
           refine pure_ (i := 2) (N := some 28) (v := ?_) (a' := ?_) #[true, true, true, false, false, false, false, false, false, false, false, false, false, false] rfl rfl (any_of HT_.out (by kernel_rfl)) (fun _ _ _ h => h) (Or.inl ⟨by rfl, ?_⟩) ?_ ?_; rotate_left 4
           refine pure_ (i := 3) (N := some 29) (v := ?_) (a' := ?_) #[true, true, true, true, false, false, false, false, false, false, false, false, false, false] rfl rfl (any_of HT_.out (by kernel_rfl)) (fun _ _ _ h => h) (Or.inl ⟨by rfl, ?_⟩) ?_ ?_; rotate_left 4
           refine pure_ (i := 5) (N := some 31) (v := ?_) (a' := ?_) #[true, true, true, true, false, true, false, false, false, false, false, false, false, false] rfl rfl (any_of HT_.out (by kernel_rfl)) (fun _ _ _ h => h) (Or.inl ⟨by rfl, ?_⟩) ?_ ?_; rotate_left 4
           refine pure_ (i := 7) (N := some 33) (v := ?_) (a' := ?_) #[true, true, true, true, false, true, false, true, false, false, false, false, false, false] rfl rfl (any_of HT_.out (by kernel_rfl)) (fun _ _ _ h => h) (Or.inl ⟨by rfl, ?_⟩) ?_ ?_; rotate_left 4
           refine pure_ (i := 8) (N := some 34) (v := ?_) (a' := ?_) #[true, true, true, true, false, true, false, true, true, false, false, false, false, false] rfl rfl (any_of HT_.out (by kernel_rfl)) (fun _ _ _ h => h) (Or.inl ⟨by rfl, ?_⟩) ?_ ?_; rotate_left 4
           refine pure_ (i := 9) (N := some 35) (v := ?_) (a' := ?_) #[true, true, true, true, false, true, false, true, true, true, false, false, false, false] rfl rfl (any_of HT_.out (by kernel_rfl)) (fun _ _ _ h => h) (Or.inl ⟨by rfl, ?_⟩) ?_ ?_; rotate_left 4
           refine pure_ (i := 10) (N := some 36) (v := ?_) (a' := ?_) #[true, true, true, true, false, true, false, true, true, true, true, false, false, false] rfl rfl (any_of HT_.out (by kernel_rfl)) (fun _ _ _ h => h) (Or.inl ⟨by rfl, ?_⟩) ?_ ?_; rotate_left 4
           rotate_left; iterate 9 (rotate_left; (intro w'; go_simp; with_reducible rfl); rotate_left; (simp only [Act.put, List.setIfInBounds_toArray, List.set_cons_zero, List.set_cons_succ, i64_w, i32_w]; rfl))
           refine take_ (i := 4) (N := some 30) (v := ?_) (a' := ?_) #[true, true, true, true, true, true, false, true, true, true, true, false, false, false] rfl rfl (take_ofW HT_.out HW_.out (by kernel_rfl)) (fun _ _ _ h => h) (Or.inl ⟨by rfl, ?_⟩) hHeld ?_ ?_
           rotate_left
           · rintro w' ⟨s0, s1, s2, s3, s4, s5, s6, s7⟩
             go_simp
             with_reducible rfl
           rotate_left
           · simp only [Act.put, List.setIfInBounds_toArray, List.set_cons_zero, List.set_cons_succ, i64_w, i32_w]
             rfl
           refine take_ (i := 11) (N := some 37) (v := ?_) (a' := ?_) #[true, true, true, true, true, true, false, true, true, true, true, true, false, false] rfl rfl (take_ofW HT_.out HW_.out (by kernel_rfl)) (fun _ _ _ h => h) (Or.inl ⟨by rfl, ?_⟩) hHeld ?_ ?_
           rotate_left
           · rintro w' ⟨s0, s1, s2, s3, s4, s5, s6, s7⟩
             go_simp
             with_reducible rfl
           rotate_left
           · simp only [Act.put, List.setIfInBounds_toArray, List.set_cons_zero, List.set_cons_succ, i64_w, i32_w]
             rfl
           refine one_ (i := 6) (N := some 32) #[true, true, true, true, true, true, true, true, true, true, true, true, false, false] rfl rfl (one_of HT_.out (by kernel_rfl)) (by decide) (fun K hK => ?_)
           refine goes_ Try.func78 (by kernel_rfl) rfl #[.int .i64 ((rd_T69 l1 x12_1).f2), .int .i64 a4] (by rfl) rfl rfl (by (try simp only [List.map_toArray, List.map_cons, List.map_nil]); first | done | rfl | (simp only [List.length_drop, List.length_take]; rfl)) ?_
           with_reducible refine (spec_l06Symbol.calls ((rd_T69 l1 x12_1).f2) a4 t177 _ A12.out).mono ?_
           rintro e w16 ⟨rfl, hb⟩
           refine ⟨_, rfl, ?_⟩
           have n0_ := Aside0.mk (Kd.R_below (by (with_reducible repeat (first | apply Kd.R_alloc | apply Kd.R_drewN | apply Kd.R_drew)); exact HO_11.out) hb)
           have n1_ := Aside0.mk (below_step (by repeat (first | (with_reducible first | exact HB.out | apply below_alloc | apply pw_below_drewN | apply below_drew1) | exact HB.out)) hb)
           clear HO_11
           clear HB
           have HO_11 := n0_
           have HB := n1_
           clear n0_ n1_
           (try clear hb)
           (try clear hb2)
           (try clear hk)
           (try clear hi)
           refine hK.out _ _ ⟨((HB.out.cell (World.block_lt_of_cell? w _ hw176_0)).trans hw176_0), ((HB.out.cell (World.block_lt_of_cell? w _ hw176_1)).trans hw176_1), ((HB.out.cell (World.block_lt_of_cell? w _ hw176_2)).trans hw176_2), ((HB.out.cell (World.block_lt_of_cell? w _ hw176_3)).trans hw176_3), ((HB.out.cell (World.block_lt_of_cell? w _ hw178_0)).trans hw178_0), ((HB.out.cell (World.block_lt_of_cell? w _ hw178_1)).trans hw178_1), ((HB.out.cell (World.block_lt_of_cell? w _ hw178_2)).trans hw178_2), ((HB.out.cell (World.block_lt_of_cell? w _ hw178_3)).trans hw178_3)⟩ (fun hHeld => ?_)
           clear hK K
           refine norm_ (a' := ?_) ?_ ?_
           rotate_left
           · show Act.put _ (some 32) _ = _
             simp only [Act.put, List.setIfInBounds_toArray, List.set_cons_zero, List.set_cons_succ, i64_w, i32_w]
             rfl
           refine one_ (i := 12) (N := some 38) #[true, true, true, true, true, true, true, true, true, true, true, true, true, false] rfl rfl (one_of HT_.out (by kernel_rfl)) (by decide) (fun K hK => ?_)
           refine goes_ Try.func77 (by kernel_rfl) rfl #[.complex .f32 t177.re t177.im, .float .f32 ((rd_T69 l1 x12_1).f1)] (by rfl) rfl rfl (by (try simp only [List.map_toArray, List.map_cons, List.map_nil]); first | done | rfl | (simp only [List.length_drop, List.length_take]; rfl)) ?_
           with_reducible refine (spec_l01Scale.calls t177 ((rd_T69 l1 x12_1).f1) t179 _ A13.out).mono ?_
           rintro e w17 ⟨q179, hq179, rfl, hb⟩
           refine ⟨_, rfl, ?_⟩
           have n0_ := Aside0.mk (Kd.R_below (by (with_reducible repeat (first | apply Kd.R_alloc | apply Kd.R_drewN | apply Kd.R_drew)); exact HO_11.out) hb)
           have n1_ := Aside0.mk (below_step (by repeat (first | (with_reducible first | exact HB.out | apply below_alloc | apply pw_below_drewN | apply below_drew1) | exact HB.out)) hb)
           clear HO_11
           clear HB
           have HO_11 := n0_
           have HB := n1_
           clear n0_ n1_
           (try clear hb)
           (try clear hb2)
           (try clear hk)
           (try clear hi)
           refine hK.out _ _ ⟨((HB.out.cell (World.block_lt_of_cell? w _ hw176_0)).trans hw176_0), ((HB.out.cell (World.block_lt_of_cell? w _ hw176_1)).trans hw176_1), ((HB.out.cell (World.block_lt_of_cell? w _ hw176_2)).trans hw176_2), ((HB.out.cell (World.block_lt_of_cell? w _ hw176_3)).trans hw176_3), ((HB.out.cell (World.block_lt_of_cell? w _ hw178_0)).trans hw178_0), ((HB.out.cell (World.block_lt_of_cell? w _ hw178_1)).trans hw178_1), ((HB.out.cell (World.block_lt_of_cell? w _ hw178_2)).trans hw178_2), ((HB.out.cell (World.block_lt_of_cell? w _ hw178_3)).trans hw178_3)⟩ (fun hHeld => ?_)
           clear hK K
           refine norm_ (a' := ?_) ?_ ?_
           rotate_left
           · show Act.put _ (some 38) _ = _
             simp only [Act.put, List.setIfInBounds_toArray, List.set_cons_zero, List.set_cons_succ, i64_w, i32_w]
             rfl
           refine pure_ (i := 13) (N := some 13) (v := ?_) (a' := ?_) #[true, true, true, true, true, true, true, true, true, true, true, true, true, true] rfl rfl (any_of HT_.out (by kernel_rfl)) (fun _ _ _ h => h) (Or.inl ⟨by rfl, ?_⟩) ?_ ?_; rotate_left 4
           rotate_left; iterate 1 (rotate_left; (intro w'; go_simp; with_reducible rfl); rotate_left; (simp only [Act.put, List.setIfInBounds_toArray, List.set_cons_zero, List.set_cons_succ, i64_w, i32_w]; rfl))
           refine done_ (done_of HT_.out (by kernel_rfl)) ?_
           have p180 : 0 ≤ (x12_1 : Int) := of_decide_eq_true (by first | (with_reducible assumption) | assumption)
           have q180 : x12_1 < (l1.length : Int) := of_decide_eq_true (by first | (with_reducible assumption) | assumption)
           obtain ⟨ad180, e180, hx180_0, hx180_1, hx180_2, hx180_3⟩ := at_T69 HR1.out x12_1 p180 q180
           obtain rfl : ad176 = ad180 := (by injection e180)
           replace hx180_0 := (HB.out.cell (World.block_lt_of_cell? w _ hx180_0)).trans hx180_0
           replace hx180_1 := (HB.out.cell (World.block_lt_of_cell? w _ hx180_1)).trans hx180_1
           replace hx180_2 := (HB.out.cell (World.block_lt_of_cell? w _ hx180_2)).trans hx180_2
           replace hx180_3 := (HB.out.cell (World.block_lt_of_cell? w _ hx180_3)).trans hx180_3
           replace p180 := eq_true p180
           replace q180 := eq_true q180
           try go_wp2_with (first | ((with_reducible refine gate_callee (f := 79) rfl ?_); refine goesL_ (some 45) rfl rfl Try.func79 (by kernel_rfl) rfl #[.slice A0 l0.length c0, .agg #[.int .i64 ((rd_T69 l1 x12_1).f0.f0), .int .i64 ((rd_T69 l1 x12_1).f0.f1)]] rfl (by (try simp only [List.map_toArray, List.map_cons, List.map_nil]); first | done | rfl | (simp only [List.length_drop, List.length_take]; rfl)) ?_; (with_reducible refine (spec_l02Steering.calls k1 _ _ l0 ((rd_T69 l1 x12_1).f0.f0) ((rd_T69 l1 x12_1).f0.f1) t181 _ ?side1 ?side2 A14.out).mono ?_); (case side1 => repeat (first | exact (Kd.C_below HR0.out HB.out) | (with_reducible refine Kd.C_alloc ?_ _) | (with_reducible refine Kd.C_drewN ?_ _) | (with_reducible refine Kd.C_drew ?_))); (case side2 => exact HC0.out); rintro e w18 ⟨v182, rfl, ho0, hb⟩; refine ⟨_, rfl, ?_⟩; have n0_ := Aside0.mk (Kd.R_elder' (by (with_reducible repeat (first | apply Kd.R_alloc | apply Kd.R_drewN | apply Kd.R_drew)); exact HO_11.out) (Kd.R_base ho0) hb); have n1_ := Aside0.mk (Kd.R_lower (Kd.R_new' ho0 (Kd.R_lt (by (with_reducible repeat (first | apply Kd.R_alloc | apply Kd.R_drewN | apply Kd.R_drew)); exact HO_11.out))) (below_size (by repeat (first | (with_reducible first | exact HB.out | apply below_alloc | apply pw_below_drewN | apply below_drew1) | exact HB.out)))); have n2_ := Aside0.mk (below_step (by repeat (first | (with_reducible first | exact HB.out | apply below_alloc | apply pw_below_drewN | apply below_drew1) | exact HB.out)) hb); clear HO_11; clear HB; have HO_11 := n0_; have HO183 := n1_; have HB := n2_; clear n0_ n1_ n2_; (try clear hb); (try clear hb2); (try clear hk); (try clear hi); (try clear ho0)))
           go_loopg [15] k1 (fun kq v15 w' => ∃ (x11_2 : List C64) (x15_2 : Int), v15 = .int .i64 x15_2 ∧ Aside0 (spec_l06Shot.l1 kq l0 l1 a2 a3 a4 x11_2 x12_1 t179 t181 x15_2 = some r) ∧ Aside0 (kq ≤ k1) ∧ Aside0 (Kd.R Kd.c64 94 w' w.heap.size (fun k_ => some k_ ≠ (v182 : Value).ownBlock) v174 x11_2) ∧ Aside0 (Kd.R Kd.c64e 94 w' w.heap.size (fun k_ => some k_ ≠ (v174 : Value).ownBlock) v182 t181) ∧ Aside0 (Below w.heap.size w w'))
           case atStart => exact ⟨(x11_1), (0), (by first | rfl | (simp; done) | (simp [*]; done)), H', ⟨Nat.le_refl _⟩, ⟨by (with_reducible repeat (first | apply Kd.R_alloc | apply Kd.R_drewN | apply Kd.R_drew)); exact Kd.R_mono HO_11.out (fun _ hk => hk.2)⟩, ⟨by (with_reducible repeat (first | apply Kd.R_alloc | apply Kd.R_drewN | apply Kd.R_drew)); exact Kd.R_mono HO183.out (fun _ hk => hk.2)⟩, ⟨by repeat (first | (with_reducible first | exact HB.out | apply below_alloc | apply pw_below_drewN | apply below_drew1) | exact HB.out)⟩⟩
           case round =>
            clear H'
            (try clear c1); (try clear p1); (try clear q1); (try clear hx1); (try clear p2); (try clear c5); (try clear c6); (try clear c6b0); (try clear c6b1); (try clear c7); (try clear c7b0); (try clear c7b1); (try clear c10); (try clear c10b0); (try clear c11); (try clear c11b0); (try clear p17); (try clear q17); (try clear hx17); (try clear p18); (try clear q18); (try clear hx18); (try clear hx176_0); (try clear hx176_1); (try clear hx176_2); (try clear hx176_3); (try clear hx178_0); (try clear hx178_1); (try clear hx178_2); (try clear hx178_3); (try clear hx180_0); (try clear hx180_1); (try clear hx180_2); (try clear hx180_3); (try clear p176); (try clear p178); (try clear p180); (try clear p2); (try clear q176); (try clear q178); (try clear q180)
            obtain ⟨x11_2, x15_2, rfl, HA, HK2, HO_11, HO_14, HB⟩ := hrel
            cases gk with
            | zero => exact absurd HA.out (by simp [spec_l06Shot.l1])
            | succ k2 =>
             have H := HA.out
             clear HA
             simp only [spec_l06Shot.l1] at H
             by_cases c19 : x15_2 < (x11_2.length : Int)
             · rw [if_pos c19] at H
               have c19b0 : decide (x15_2 < (x11_2.length : Int)) = true := decide_eq_true c19
               clear c19
               by_cases c20 : 0 ≤ x15_2
               · rw [if_pos c20] at H
                 have c20b0 : decide (0 ≤ x15_2) = true := decide_eq_true c20
                 clear c20
                 by_cases c21 : x15_2 < (t181.length : Int)
                 · rw [if_pos c21] at H
                   have c21b0 : decide (x15_2 < (t181.length : Int)) = true := decide_eq_true c21
                   clear c21
                   replace H := Option.bind_eq_some_iff.mp H
                   obtain ⟨t186, A220, H⟩ := H
                   replace H : (spec_l06Shot.l1 k2 l0 l1 a2 a3 a4 (x11_2.set (x15_2 : Int).toNat (⟨nq .add .f32 ((rdOf c64z x11_2 x15_2).re) t186.re, nq .add .f32 ((rdOf c64z x11_2 x15_2).im) t186.im⟩ : C64)) x12_1 t179 t181 (wrap64 (x15_2 + 1))) = some r := H
                   have A22 := Aside0.mk A220
                   clear A220
                   obtain ⟨y187, hy187⟩ : ∃ y_ : List C64, y_ = (x11_2.set (x15_2 : Int).toNat (⟨nq .add .f32 ((rdOf c64z x11_2 x15_2).re) t186.re, nq .add .f32 ((rdOf c64z x11_2 x15_2).im) t186.im⟩ : C64)) := ⟨_, rfl⟩
                   replace H : (spec_l06Shot.l1 k2 l0 l1 a2 a3 a4 y187 x12_1 t179 t181 (wrap64 (x15_2 + 1))) = some r := by first | (rw [hy187]; with_reducible exact H) | (have H2_ := (Option.bind_some _ _).symm.trans H; rw [hy187]; with_reducible exact H2_) | (have H2_ := (Option.bind_some _ _).symm.trans H; with_reducible exact H2_) | with_reducible exact H | (rw [hy187]; exact H) | exact H
                   have Ny187 := Aside0.mk hy187
                   clear hy187
                   as_aux_lemma =>
                    have H' := Aside0.mk H
                    clear H
                    obtain ⟨Ao24, co24, eo24⟩ := Kd.R_slice HO_11.out
                    subst eo24
                    obtain ⟨z11, hz11, ho11_⟩ := Kd.c64_R_to HO_11.out
                    have n0_ := Aside0.mk ho11_
                    clear HO_11 ho11_
                    have HO_11 := n0_
                    clear n0_
                    try go_wp2
                    have n0_ := Aside0.mk (Kd.R_drew HO_11.out)
                    have n1_ := Aside0.mk (Kd.R_drew HO_14.out)
                    have n2_ := Aside0.mk (below_drew1 HB.out)
                    clear HO_11
                    clear HO_14
                    clear HB
                    have HO_11 := n0_
                    have HO_14 := n1_
                    have HB := n2_
                    clear n0_ n1_ n2_
                    have p184 : 0 ≤ (x15_2 : Int) := of_decide_eq_true (by first | (with_reducible assumption) | assumption)
                    have q184 : x15_2 < (x11_2.length : Int) := of_decide_eq_true (by first | (with_reducible assumption) | assumption)
                    obtain ⟨ad184, e184, hx184_0⟩ := Kd.at_c64e (Kd.R_reads' HO_11.out).2.2 x15_2 p184 (by rw [hz11.1]; exact q184)
                    cases e184
                    replace p184 := eq_true p184
                    replace q184 := eq_true q184
                    obtain ⟨Ao26, co26, eo26⟩ := Kd.R_slice HO_14.out
                    (first | subst eo26 | (injection eo26 with f1_ f2_ f3_; have f4_ := f1_.symm; have f5_ := f3_.symm; clear f1_ f2_ f3_; subst f4_; subst f5_))
                    have p185 : 0 ≤ (x15_2 : Int) := of_decide_eq_true (by first | (with_reducible assumption) | assumption)
                    have q185 : x15_2 < (t181.length : Int) := of_decide_eq_true (by first | (with_reducible assumption) | assumption)
                    obtain ⟨ad185, e185, hx185_0⟩ := Kd.at_c64e (Kd.R_reads' HO_14.out).2.2 x15_2 p185 q185
                    cases e185
                    replace p185 := eq_true p185
                    replace q185 := eq_true q185
                    refine start_ (n := 15) (S := fun w' => w'.cell? (ad184.add (x15_2).toNat) = some (.complex .f32 ((rdOf c64z z11 x15_2).re) ((rdOf c64z z11 x15_2).im)) ∧ w'.cell? (ad185.add (x15_2).toNat) = some (.complex .f32 ((rdOf c64z t181 x15_2).re) ((rdOf c64z t181 x15_2).im))) (ds := [14]) #[false, false, false, false, false, false, false, false, false, false, false, false, false, false, false] (by kernel_rfl) rfl rfl ⟨hx184_0, hx185_0⟩ (fun hHeld => ?_); refine with_tabW spec_l06Shot.tab10 spec_l06Shot.bits10 (fun HT_ HW_ => ?_)
                    generalize wr.drew = w25 at HO_11 HO_14 HB hx184_0 hx185_0 hHeld ⊢
                    refine pure_ (i := 0) (N := some 52) (v := ?_) (a' := ?_) #[true, false, false, false, false, false, false, false, false, false, false, false, false, false, false] rfl rfl (any_of HT_.out (by kernel_rfl)) (fun _ _ _ h => h) (Or.inl ⟨by rfl, ?_⟩) ?_ ?_; rotate_left 4
                    refine pure_ (i := 1) (N := some 53) (v := ?_) (a' := ?_) #[true, true, false, false, false, false, false, false, false, false, false, false, false, false, false] rfl rfl (any_of HT_.out (by kernel_rfl)) (fun _ _ _ h => h) (Or.inl ⟨by rfl, ?_⟩) ?_ ?_; rotate_left 4
                    refine pure_ (i := 2) (N := some 54) (v := ?_) (a' := ?_) #[true, true, true, false, false, false, false, false, false, false, false, false, false, false, false] rfl rfl (any_of HT_.out (by kernel_rfl)) (fun _ _ _ h => h) (Or.inl ⟨by rfl, ?_⟩) ?_ ?_; rotate_left 4
                    refine pure_ (i := 3) (N := some 55) (v := ?_) (a' := ?_) #[true, true, true, true, false, false, false, false, false, false, false, false, false, false, false] rfl rfl (any_of HT_.out (by kernel_rfl)) (fun _ _ _ h => h) (Or.inl ⟨by rfl, ?_⟩) ?_ ?_; rotate_left 4
                    refine pure_ (i := 4) (N := some 56) (v := ?_) (a' := ?_) #[true, true, true, true, true, false, false, false, false, false, false, false, false, false, false] rfl rfl (any_of HT_.out (by kernel_rfl)) (fun _ _ _ h => h) (Or.inl ⟨by rfl, ?_⟩) ?_ ?_; rotate_left 4
                    refine pure_ (i := 6) (N := some 58) (v := ?_) (a' := ?_) #[true, true, true, true, true, false, true, false, false, false, false, false, false, false, false] rfl rfl (any_of HT_.out (by kernel_rfl)) (fun _ _ _ h => h) (Or.inl ⟨by rfl, ?_⟩) ?_ ?_; rotate_left 4
                    refine pure_ (i := 7) (N := some 59) (v := ?_) (a' := ?_) #[true, true, true, true, true, false, true, true, false, false, false, false, false, false, false] rfl rfl (any_of HT_.out (by kernel_rfl)) (fun _ _ _ h => h) (Or.inl ⟨by rfl, ?_⟩) ?_ ?_; rotate_left 4
                    refine pure_ (i := 8) (N := some 60) (v := ?_) (a' := ?_) #[true, true, true, true, true, false, true, true, true, false, false, false, false, false, false] rfl rfl (any_of HT_.out (by kernel_rfl)) (fun _ _ _ h => h) (Or.inl ⟨by rfl, ?_⟩) ?_ ?_; rotate_left 4
                    refine pure_ (i := 9) (N := some 61) (v := ?_) (a' := ?_) #[true, true, true, true, true, false, true, true, true, true, false, false, false, false, false] rfl rfl (any_of HT_.out (by kernel_rfl)) (fun _ _ _ h => h) (Or.inl ⟨by rfl, ?_⟩) ?_ ?_; rotate_left 4
                    rotate_left; iterate 9 (rotate_left; (intro w'; go_simp; with_reducible rfl); rotate_left; (simp only [Act.put, List.setIfInBounds_toArray, List.set_cons_zero, List.set_cons_succ, i64_w, i32_w]; rfl))
                    refine take_ (i := 5) (N := some 57) (v := ?_) (a' := ?_) #[true, true, true, true, true, true, true, true, true, true, false, false, false, false, false] rfl rfl (take_ofW HT_.out HW_.out (by kernel_rfl)) (fun _ _ _ h => h) (Or.inl ⟨by rfl, ?_⟩) hHeld ?_ ?_
                    rotate_left
                    · rintro w' ⟨s0, s1⟩
                      go_simp
                      with_reducible rfl
                    rotate_left
                    · simp only [Act.put, List.setIfInBounds_toArray, List.set_cons_zero, List.set_cons_succ, i64_w, i32_w]
                      rfl
                    refine take_ (i := 10) (N := some 62) (v := ?_) (a' := ?_) #[true, true, true, true, true, true, true, true, true, true, true, false, false, false, false] rfl rfl (take_ofW HT_.out HW_.out (by kernel_rfl)) (fun _ _ _ h => h) (Or.inl ⟨by rfl, ?_⟩) hHeld ?_ ?_
                    rotate_left
                    · rintro w' ⟨s0, s1⟩
                      go_simp
                      with_reducible rfl
                    rotate_left
                    · simp only [Act.put, List.setIfInBounds_toArray, List.set_cons_zero, List.set_cons_succ, i64_w, i32_w]
                      rfl
                    refine one_ (i := 11) (N := some 63) #[true, true, true, true, true, true, true, true, true, true, true, true, false, false, false] rfl rfl (one_of HT_.out (by kernel_rfl)) (by decide) (fun K hK => ?_)
                    refine goes_ Try.func80 (by kernel_rfl) rfl #[.complex .f32 q179.re q179.im, .complex .f32 ((rdOf c64z t181 x15_2).re) ((rdOf c64z t181 x15_2).im)] (by rfl) rfl rfl (by (try simp only [List.map_toArray, List.map_cons, List.map_nil]); first | done | rfl | (simp only [List.length_drop, List.length_take]; rfl)) ?_
                    with_reducible refine (spec_l01Mul.calls q179 (rdOf c64z t181 x15_2) t179 (rdOf c64z t181 x15_2) hq179 (.refl _) t186 _ A22.out).mono ?_
                    rintro e w27 ⟨q186, hq186, rfl, hb⟩
                    have HS0_ := (hb.cell (World.block_lt_of_cell? _ _ (hHeld.1))).trans (hHeld.1)
                    have HS1_ := (hb.cell (World.block_lt_of_cell? _ _ (hHeld.2))).trans (hHeld.2)
                    refine ⟨_, rfl, ?_⟩
                    have n0_ := Aside0.mk (Kd.R_below (by (with_reducible repeat (first | apply Kd.R_alloc | apply Kd.R_drewN | apply Kd.R_drew)); exact HO_11.out) hb)
                    have n1_ := Aside0.mk (Kd.R_below (by (with_reducible repeat (first | apply Kd.R_alloc | apply Kd.R_drewN | apply Kd.R_drew)); exact HO_14.out) hb)
                    have n2_ := Aside0.mk (below_step (by repeat (first | (with_reducible first | exact HB.out | apply below_alloc | apply pw_below_drewN | apply below_drew1) | exact HB.out)) hb)
                    clear HO_11
                    clear HO_14
                    clear HB
                    have HO_11 := n0_
                    have HO_14 := n1_
                    have HB := n2_
                    clear n0_ n1_ n2_
                    (try clear hb)
                    (try clear hb2)
                    (try clear hk)
                    (try clear hi)
                    have p23 : 0 ≤ (x15_2 : Int) := of_decide_eq_true (by first | (with_reducible assumption) | assumption)
                    have q23 : (x15_2 : Int) < ((x11_2.length : Int) : Int) := of_decide_eq_true (by first | (with_reducible assumption) | assumption)
                    obtain ⟨go23, co23, eo23, gb23, gl23, cl23, HG23⟩ := Kd.R_form HO_11.out (by have e_ := hz11.1; omega)
                    (first | cases eo23 | (injection eo23 with ea_ en_ ec_; (first | subst ea_ | (injection ea_ with ea_; subst ea_)); subst ec_; clear en_))
                    have GB23 := Aside0.mk gb23
                    have GG23 := Aside0.mk HG23
                    clear gb23 gl23 HG23
                    (first | simp only [add_plain] at hx184_0 | skip)
                    obtain ⟨hx23_0, hf23_0⟩ := Kd.R_celln c64z HO_11.out (x15_2 : Int) p23 q23
                    replace p23 := eq_true p23
                    replace q23 := eq_true q23
                    refine hK.out _ _ ⟨HS0_, HS1_⟩ (fun hHeld => ?_)
                    clear hK K
                    refine norm_ (a' := ?_) ?_ ?_
                    rotate_left
                    · show Act.put _ (some 63) _ = _
                      simp only [Act.put, List.setIfInBounds_toArray, List.set_cons_zero, List.set_cons_succ, i64_w, i32_w]
                      rfl
                    refine one_ (i := 12) (N := some 64) #[true, true, true, true, true, true, true, true, true, true, true, true, true, false, false] rfl rfl (one_of HT_.out (by kernel_rfl)) (by decide) (fun K hK => ?_)
                    refine cadd_ (t := 94) (t' := 94) (i := 57) (j := 63) (rdOf c64z z11 x15_2) q186 (rdOf c64z x11_2 x15_2) t186 (by rfl) rfl rfl rfl rfl (hz11.rd _) hq186 ?_
                    intro q187 hq187 n28_
                    have n0_ := Aside0.mk (Kd.R_drewN HO_11.out n28_)
                    have n1_ := Aside0.mk (Kd.R_drewN HO_14.out n28_)
                    have n2_ := Aside0.mk (pw_below_drewN HB.out n28_)
                    clear HO_11
                    clear HO_14
                    clear HB
                    have HO_11 := n0_
                    have HO_14 := n1_
                    have HB := n2_
                    clear n0_ n2_ n1_
                    have HP28 := Kd.R_putn HO_11.out (x15_2 : Int) q187
                    have HQ28 := Aside0.mk (Kd.c64_R_of (by rw [Ny187.out]; exact hz11.set _ hq187 : SameL _ y187) HP28)
                    clear HP28
                    refine hK.out _ _ hHeld (fun hHeld => ?_)
                    clear hK K
                    refine norm_ (a' := ?_) ?_ ?_
                    rotate_left
                    · show Act.put _ (some 64) _ = _
                      simp only [Act.put, List.setIfInBounds_toArray, List.set_cons_zero, List.set_cons_succ, i64_w, i32_w]
                      rfl
                    refine pure_ (i := 13) (N := some 65) (v := ?_) (a' := ?_) #[true, true, true, true, true, true, true, true, true, true, true, true, true, true, false] rfl rfl (any_of HT_.out (by kernel_rfl)) (fun _ _ _ h => h) (Or.inl ⟨by rfl, ?_⟩) ?_ ?_; rotate_left 4
                    rotate_left; iterate 1 (rotate_left; (intro w'; go_simp; with_reducible rfl); rotate_left; (simp only [Act.put, List.setIfInBounds_toArray, List.set_cons_zero, List.set_cons_succ, i64_w, i32_w]; rfl))
                    refine last_ (i := 14) (N := none) #[true, true, true, true, true, true, true, true, true, true, true, true, true, true, true] rfl rfl (one_of HT_.out (by kernel_rfl)) (by decide) (fun K hK => ?_)
                    refine skip_ (w1 := ?_) (by rfl) rfl ?_ ?_
                    rotate_left
                    · go_simp
                      rfl
                    refine hK.out _ _ ?_
                    clear hK K
                    refine done_ (done_of HT_.out (by kernel_rfl)) ?_
                    try go_wp2
                    go_roundg k2
                    case measure => have := HK1.out; have := HK2.out; omega
                    case rel => exact ⟨(y187), (wrap64 (x15_2 + 1)), (by first | rfl | (simp; done) | (simp [*]; done)), H', ⟨by have := HK1.out; have := HK2.out; omega⟩, ⟨by (with_reducible repeat (first | apply Kd.R_alloc | apply Kd.R_drewN | apply Kd.R_drew)); exact HQ28.out⟩, ⟨by (with_reducible repeat (first | apply Kd.R_alloc | apply Kd.R_drewN | apply Kd.R_drew)); exact Kd.R_mono (Kd.R_far (p := ⟨go23, (x15_2 : Int).toNat, none⟩) (Kd.R_mono HO_14.out (fun k_ hk => (⟨hk, fun e_ => hk (by rw [e_]; rfl)⟩ : _ ∧ k_ ≠ go23))) (fun _ hk => hk.2) (.complex .f32 q187.re q187.im)) (fun _ hk => hk.1)⟩, ⟨by repeat (first | (with_reducible first | exact HB.out | apply below_alloc | apply pw_below_drewN | apply below_drew1 | refine below_set ?_ GB23.out) | exact HB.out)⟩⟩
                 · rw [if_neg c21] at H
                   exact absurd H (by simp)
               · rw [if_neg c20] at H
                 exact absurd H (by simp)
             · rw [if_neg c19] at H
               have c19b0 : decide (x15_2 < (x11_2.length : Int)) = false := decide_eq_false c19
               clear c19
               as_aux_lemma =>
                have H' := Aside0.mk H
                clear H
                obtain ⟨Ao29, co29, eo29⟩ := Kd.R_slice HO_11.out
                subst eo29
                go_wp2
                go_roundg k2
                case measure => have := HK1.out; have := HK2.out; omega
                case rel => exact ⟨(x11_2), (wrap64 (x12_1 + 1)), (by first | rfl | (simp; done) | (simp [*]; done)), H', ⟨by have := HK1.out; have := HK2.out; omega⟩, ⟨by (with_reducible repeat (first | apply Kd.R_alloc | apply Kd.R_drewN | apply Kd.R_drew)); exact Kd.R_mono HO_11.out (fun _ hk => trivial)⟩, ⟨by repeat (first | (with_reducible first | exact HB.out | apply below_alloc | apply pw_below_drewN | apply below_drew1) | exact HB.out)⟩⟩
         · rw [if_neg c11] at H
           exact absurd H (by simp)
       · rw [if_neg c10] at H
         have c10b0 : decide (x12_1 < (l1.length : Int)) = false := decide_eq_false c10
         clear c10
         have H' := Aside0.mk H
         clear H
         go_wp2
         go_loopg [16] k1 (fun kq v16 w' => ∃ (x11_2 : List C64) (x16_2 : Int), v16 = .int .i64 x16_2 ∧ Aside0 (spec_l06Shot.l2 kq a2 a3 a4 x11_2 x16_2 = some r) ∧ Aside0 (kq ≤ k1) ∧ Aside0 (Kd.R Kd.c64 94 w' w.heap.size (fun _ => True) v174 x11_2) ∧ Aside0 (Below w.heap.size w w'))
         case atStart => exact ⟨(x11_1), (0), (by first | rfl | (simp; done) | (simp [*]; done)), H', ⟨Nat.le_refl _⟩, ⟨by (with_reducible repeat (first | apply Kd.R_alloc | apply Kd.R_drewN | apply Kd.R_drew)); exact HO_11.out⟩, ⟨by repeat (first | (with_reducible first | exact HB.out | apply below_alloc | apply pw_below_drewN | apply below_drew1) | exact HB.out)⟩⟩
         case round =>
          clear H'
          (try clear c1); (try clear p1); (try clear q1); (try clear hx1); (try clear c2); (try clear p2); (try clear q2); (try clear hx2); (try clear c5); (try clear c6); (try clear c6b0); (try clear c6b1); (try clear p6); (try clear c7); (try clear c7b0); (try clear c7b1); (try clear c8); (try clear c10); (try clear c10b0); (try clear c11); (try clear c11b0); (try clear p17); (try clear q17); (try clear hx17); (try clear p18); (try clear q18); (try clear hx18); (try clear c19); (try clear c19b0); (try clear c20); (try clear c20b0); (try clear c21); (try clear c21b0); (try clear p23); (try clear q23); (try clear hx23); (try clear hf23); (try clear hx176_0); (try clear hx176_1); (try clear hx176_2); (try clear hx176_3); (try clear hx178_0); (try clear hx178_1); (try clear hx178_2); (try clear hx178_3); (try clear hx180_0); (try clear hx180_1); (try clear hx180_2); (try clear hx180_3); (try clear hx184_0); (try clear hx185_0); (try clear hx23_0); (try clear p1); (try clear p17); (try clear p176); (try clear p178); (try clear p18); (try clear p180); (try clear p184); (try clear p185); (try clear p2); (try clear p23); (try clear q1); (try clear q17); (try clear q176); (try clear q178); (try clear q18); (try clear q180); (try clear q184); (try clear q185); (try clear q23)
          obtain ⟨x11_2, x16_2, rfl, HA, HK2, HO_11, HB⟩ := hrel
          cases gk with
          | zero => exact absurd HA.out (by simp [spec_l06Shot.l2])
          | succ k2 =>
           have H := HA.out
           clear HA
           simp only [spec_l06Shot.l2] at H
           by_cases c30 : x16_2 < (x11_2.length : Int)
           · rw [if_pos c30] at H
             have c30b0 : decide (x16_2 < (x11_2.length : Int)) = true := decide_eq_true c30
             clear c30
             by_cases c31 : 0 ≤ x16_2
             · rw [if_pos c31] at H
               have c31b0 : decide (0 ≤ x16_2) = true := decide_eq_true c31
               clear c31
               replace H := Option.bind_eq_some_iff.mp H
               obtain ⟨t189, A320, H⟩ := H
               replace H : (spec_l06Shot.l2 k2 a2 a3 a4 (x11_2.set (x16_2 : Int).toNat (⟨nq .add .f32 ((rdOf c64z x11_2 x16_2).re) t189.re, nq .add .f32 ((rdOf c64z x11_2 x16_2).im) t189.im⟩ : C64)) (wrap64 (x16_2 + 1))) = some r := H
               have A32 := Aside0.mk A320
               clear A320
               obtain ⟨y190, hy190⟩ : ∃ y_ : List C64, y_ = (x11_2.set (x16_2 : Int).toNat (⟨nq .add .f32 ((rdOf c64z x11_2 x16_2).re) t189.re, nq .add .f32 ((rdOf c64z x11_2 x16_2).im) t189.im⟩ : C64)) := ⟨_, rfl⟩
               replace H : (spec_l06Shot.l2 k2 a2 a3 a4 y190 (wrap64 (x16_2 + 1))) = some r := by first | (rw [hy190]; with_reducible exact H) | (have H2_ := (Option.bind_some _ _).symm.trans H; rw [hy190]; with_reducible exact H2_) | (have H2_ := (Option.bind_some _ _).symm.trans H; with_reducible exact H2_) | with_reducible exact H | (rw [hy190]; exact H) | exact H
               have Ny190 := Aside0.mk hy190
               clear hy190
               as_aux_lemma =>
                have H' := Aside0.mk H
                clear H
                obtain ⟨Ao34, co34, eo34⟩ := Kd.R_slice HO_11.out
                subst eo34
                obtain ⟨z11, hz11, ho11_⟩ := Kd.c64_R_to HO_11.out
                have n0_ := Aside0.mk ho11_
                clear HO_11 ho11_
                have HO_11 := n0_
                clear n0_
                try go_wp2
                have n0_ := Aside0.mk (Kd.R_drew HO_11.out)
                have n1_ := Aside0.mk (below_drew1 HB.out)
                clear HO_11
                clear HB
                have HO_11 := n0_
                have HB := n1_
                clear n0_ n1_
                have p188 : 0 ≤ (x16_2 : Int) := of_decide_eq_true (by first | (with_reducible assumption) | assumption)
                have q188 : x16_2 < (x11_2.length : Int) := of_decide_eq_true (by first | (with_reducible assumption) | assumption)
                obtain ⟨ad188, e188, hx188_0⟩ := Kd.at_c64e (Kd.R_reads' HO_11.out).2.2 x16_2 p188 (by rw [hz11.1]; exact q188)
                cases e188
                replace p188 := eq_true p188
                replace q188 := eq_true q188
                refine start_ (n := 14) (S := fun w' => w'.cell? (ad188.add (x16_2).toNat) = some (.complex .f32 ((rdOf c64z z11 x16_2).re) ((rdOf c64z z11 x16_2).im))) (ds := [13]) #[false, false, false, false, false, false, false, false, false, false, false, false, false, false] (by kernel_rfl) rfl rfl (hx188_0) (fun hHeld => ?_); refine with_tabW spec_l06Shot.tab14 spec_l06Shot.bits14 (fun HT_ HW_ => ?_)
                generalize wr.drew = w35 at HO_11 HB hx188_0 hHeld ⊢
                refine pure_ (i := 0) (N := some 72) (v := ?_) (a' := ?_) #[true, false, false, false, false, false, false, false, false, false, false, false, false, false] rfl rfl (any_of HT_.out (by kernel_rfl)) (fun _ _ _ h => h) (Or.inl ⟨by rfl, ?_⟩) ?_ ?_; rotate_left 4
                refine pure_ (i := 1) (N := some 73) (v := ?_) (a' := ?_) #[true, true, false, false, false, false, false, false, false, false, false, false, false, false] rfl rfl (any_of HT_.out (by kernel_rfl)) (fun _ _ _ h => h) (Or.inl ⟨by rfl, ?_⟩) ?_ ?_; rotate_left 4
                refine pure_ (i := 2) (N := some 74) (v := ?_) (a' := ?_) #[true, true, true, false, false, false, false, false, false, false, false, false, false, false] rfl rfl (any_of HT_.out (by kernel_rfl)) (fun _ _ _ h => h) (Or.inl ⟨by rfl, ?_⟩) ?_ ?_; rotate_left 4
                refine pure_ (i := 3) (N := some 75) (v := ?_) (a' := ?_) #[true, true, true, true, false, false, false, false, false, false, false, false, false, false] rfl rfl (any_of HT_.out (by kernel_rfl)) (fun _ _ _ h => h) (Or.inl ⟨by rfl, ?_⟩) ?_ ?_; rotate_left 4
                refine pure_ (i := 4) (N := some 76) (v := ?_) (a' := ?_) #[true, true, true, true, true, false, false, false, false, false, false, false, false, false] rfl rfl (any_of HT_.out (by kernel_rfl)) (fun _ _ _ h => h) (Or.inl ⟨by rfl, ?_⟩) ?_ ?_; rotate_left 4
                refine pure_ (i := 6) (N := some 78) (v := ?_) (a' := ?_) #[true, true, true, true, true, false, true, false, false, false, false, false, false, false] rfl rfl (any_of HT_.out (by kernel_rfl)) (fun _ _ _ h => h) (Or.inl ⟨by rfl, ?_⟩) ?_ ?_; rotate_left 4
                refine pure_ (i := 7) (N := some 79) (v := ?_) (a' := ?_) #[true, true, true, true, true, false, true, true, false, false, false, false, false, false] rfl rfl (any_of HT_.out (by kernel_rfl)) (fun _ _ _ h => h) (Or.inl ⟨by rfl, ?_⟩) ?_ ?_; rotate_left 4
                refine pure_ (i := 8) (N := some 80) (v := ?_) (a' := ?_) #[true, true, true, true, true, false, true, true, true, false, false, false, false, false] rfl rfl (any_of HT_.out (by kernel_rfl)) (fun _ _ _ h => h) (Or.inl ⟨by rfl, ?_⟩) ?_ ?_; rotate_left 4
                refine pure_ (i := 9) (N := some 81) (v := ?_) (a' := ?_) #[true, true, true, true, true, false, true, true, true, true, false, false, false, false] rfl rfl (any_of HT_.out (by kernel_rfl)) (fun _ _ _ h => h) (Or.inl ⟨by rfl, ?_⟩) ?_ ?_; rotate_left 4
                rotate_left; iterate 9 (rotate_left; (intro w'; go_simp; with_reducible rfl); rotate_left; (simp only [Act.put, List.setIfInBounds_toArray, List.set_cons_zero, List.set_cons_succ, i64_w, i32_w]; rfl))
                refine take_ (i := 5) (N := some 77) (v := ?_) (a' := ?_) #[true, true, true, true, true, true, true, true, true, true, false, false, false, false] rfl rfl (take_ofW HT_.out HW_.out (by kernel_rfl)) (fun _ _ _ h => h) (Or.inl ⟨by rfl, ?_⟩) hHeld ?_ ?_
                rotate_left
                · intro w' s0
                  go_simp
                  with_reducible rfl
                rotate_left
                · simp only [Act.put, List.setIfInBounds_toArray, List.set_cons_zero, List.set_cons_succ, i64_w, i32_w]
                  rfl
                refine one_ (i := 10) (N := some 82) #[true, true, true, true, true, true, true, true, true, true, true, false, false, false] rfl rfl (one_of HT_.out (by kernel_rfl)) (by decide) (fun K hK => ?_)
                refine goes_ Try.func81 (by kernel_rfl) rfl #[.int .i64 a3, .int .i64 a4, .int .i64 x16_2, .float .f32 a2] (by rfl) rfl rfl (by (try simp only [List.map_toArray, List.map_cons, List.map_nil]); first | done | rfl | (simp only [List.length_drop, List.length_take]; rfl)) ?_
                with_reducible refine (spec_l06Noise.calls a3 a4 x16_2 a2 t189 _ A32.out).mono ?_
                rintro e w36 ⟨q189, hq189, rfl, hb⟩
                have HS0_ := (hb.cell (World.block_lt_of_cell? _ _ (hHeld))).trans (hHeld)
                refine ⟨_, rfl, ?_⟩
                have n0_ := Aside0.mk (Kd.R_below (by (with_reducible repeat (first | apply Kd.R_alloc | apply Kd.R_drewN | apply Kd.R_drew)); exact HO_11.out) hb)
                have n1_ := Aside0.mk (below_step (by repeat (first | (with_reducible first | exact HB.out | apply below_alloc | apply pw_below_drewN | apply below_drew1) | exact HB.out)) hb)
                clear HO_11
                clear HB
                have HO_11 := n0_
                have HB := n1_
                clear n0_ n1_
                (try clear hb)
                (try clear hb2)
                (try clear hk)
                (try clear hi)
                have p33 : 0 ≤ (x16_2 : Int) := of_decide_eq_true (by first | (with_reducible assumption) | assumption)
                have q33 : (x16_2 : Int) < ((x11_2.length : Int) : Int) := of_decide_eq_true (by first | (with_reducible assumption) | assumption)
                obtain ⟨go33, co33, eo33, gb33, gl33, cl33, HG33⟩ := Kd.R_form HO_11.out (by have e_ := hz11.1; omega)
                (first | cases eo33 | (injection eo33 with ea_ en_ ec_; (first | subst ea_ | (injection ea_ with ea_; subst ea_)); subst ec_; clear en_))
                have GB33 := Aside0.mk gb33
                have GG33 := Aside0.mk HG33
                clear gb33 gl33 HG33
                (first | simp only [add_plain] at hx188_0 | skip)
                obtain ⟨hx33_0, hf33_0⟩ := Kd.R_celln c64z HO_11.out (x16_2 : Int) p33 q33
                replace p33 := eq_true p33
                replace q33 := eq_true q33
                refine hK.out _ _ (HS0_) (fun hHeld => ?_)
                clear hK K
                refine norm_ (a' := ?_) ?_ ?_
                rotate_left
                · show Act.put _ (some 82) _ = _
                  simp only [Act.put, List.setIfInBounds_toArray, List.set_cons_zero, List.set_cons_succ, i64_w, i32_w]
                  rfl
                refine one_ (i := 11) (N := some 83) #[true, true, true, true, true, true, true, true, true, true, true, true, false, false] rfl rfl (one_of HT_.out (by kernel_rfl)) (by decide) (fun K hK => ?_)
                refine cadd_ (t := 94) (t' := 94) (i := 77) (j := 82) (rdOf c64z z11 x16_2) q189 (rdOf c64z x11_2 x16_2) t189 (by rfl) rfl rfl rfl rfl (hz11.rd _) hq189 ?_
                intro q190 hq190 n28_
                have n0_ := Aside0.mk (Kd.R_drewN HO_11.out n28_)
                have n2_ := Aside0.mk (pw_below_drewN HB.out n28_)
                clear HO_11
                clear HB
                have HO_11 := n0_
                have HB := n2_
                clear n0_ n2_
                have HP37 := Kd.R_putn HO_11.out (x16_2 : Int) q190
                have HQ37 := Aside0.mk (Kd.c64_R_of (by rw [Ny190.out]; exact hz11.set _ hq190 : SameL _ y190) HP37)
                clear HP37
                refine hK.out _ _ hHeld (fun hHeld => ?_)
                clear hK K
                refine norm_ (a' := ?_) ?_ ?_
                rotate_left
                · show Act.put _ (some 83) _ = _
                  simp only [Act.put, List.setIfInBounds_toArray, List.set_cons_zero, List.set_cons_succ, i64_w, i32_w]
                  rfl
                refine pure_ (i := 12) (N := some 84) (v := ?_) (a' := ?_) #[true, true, true, true, true, true, true, true, true, true, true, true, true, false] rfl rfl (any_of HT_.out (by kernel_rfl)) (fun _ _ _ h => h) (Or.inl ⟨by rfl, ?_⟩) ?_ ?_; rotate_left 4
                rotate_left; iterate 1 (rotate_left; (intro w'; go_simp; with_reducible rfl); rotate_left; (simp only [Act.put, List.setIfInBounds_toArray, List.set_cons_zero, List.set_cons_succ, i64_w, i32_w]; rfl))
                refine last_ (i := 13) (N := none) #[true, true, true, true, true, true, true, true, true, true, true, true, true, true] rfl rfl (one_of HT_.out (by kernel_rfl)) (by decide) (fun K hK => ?_)
                refine skip_ (w1 := ?_) (by rfl) rfl ?_ ?_
                rotate_left
                · go_simp
                  rfl
                refine hK.out _ _ ?_
                clear hK K
                refine done_ (done_of HT_.out (by kernel_rfl)) ?_
                try go_wp2
                go_roundg k2
                case measure => have := HK1.out; have := HK2.out; omega
                case rel => exact ⟨(y190), (wrap64 (x16_2 + 1)), (by first | rfl | (simp; done) | (simp [*]; done)), H', ⟨by have := HK1.out; have := HK2.out; omega⟩, ⟨by (with_reducible repeat (first | apply Kd.R_alloc | apply Kd.R_drewN | apply Kd.R_drew)); exact HQ37.out⟩, ⟨by repeat (first | (with_reducible first | exact HB.out | apply below_alloc | apply pw_below_drewN | apply below_drew1 | refine below_set ?_ GB33.out) | exact HB.out)⟩⟩
             · rw [if_neg c31] at H
               exact absurd H (by simp)
           · rw [if_neg c30] at H
             have c30b0 : decide (x16_2 < (x11_2.length : Int)) = false := decide_eq_false c30
             clear c30
             as_aux_lemma =>
              obtain rfl := Option.some.inj H
              obtain ⟨Ao38, co38, eo38⟩ := Kd.R_slice HO_11.out
              subst eo38
              go_wp2
              go_ret
              exact ⟨_, by first | rfl | (simp [errW_none, errW_some] <;> rfl) | (simp [*, errW_none, errW_some] <;> rfl), by (with_reducible repeat (first | apply Kd.R_alloc | apply Kd.R_drewN | apply Kd.R_drew)); exact HO_11.out, by repeat (first | (with_reducible first | exact HB.out | apply below_alloc | apply pw_below_drewN | apply below_drew1) | exact HB.out)⟩
   · rw [if_neg c7] at H
     exact absurd H (by simp)
 · rw [if_neg c6] at H
   exact absurd H (by simp)

/-! ### spec_l00Max: function 65 -/
def spec_l00Max.f (a0 : Int) (a1 : Int) : Option (Int) := if a0 > a1 then (some a0) else (some a1)
set_option maxHeartbeats 8000000 in
set_option maxRecDepth 100000 in
theorem spec_l00Max.calls (a0 : Int) (a1 : Int) (r : Int) (w : World) (h : spec_l00Max.f a0 a1 = some r) :
 Calls Try.prog 65 #[.int .i64 a0, .int .i64 a1] w fun e w' => e = .returned (.int .i64 r) ∧ Drawn0 w w' := by
 have H : (if a0 > a1 then (some a0) else (some a1)) = some r := h
 clear h
 by_cases c3 : a0 > a1
 · rw [if_pos c3] at H
   have c3b0 : decide (a1 < a0) = true := decide_eq_true c3
   clear c3
   obtain rfl := Option.some.inj H
   go_enter Try.func65, Try.ntmps65
   go_wp2
   go_ret
   exact ⟨by first | rfl | (simp; done) | (simp [*]; done), by repeat (first | exact Drawn0.refl _ | apply Drawn0.step)⟩
 · rw [if_neg c3] at H
   have c3b0 : decide (a1 < a0) = false := decide_eq_false c3
   clear c3
   obtain rfl := Option.some.inj H
   go_enter Try.func65, Try.ntmps65
   go_wp2
   go_ret
   exact ⟨by first | rfl | (simp; done) | (simp [*]; done), by repeat (first | exact Drawn0.refl _ | apply Drawn0.step)⟩

/-! ### spec_SnapshotsOf: function 33 -/
mutual
def spec_SnapshotsOf.j0 : Nat → List (S88) → List (S69) → Nat → Int → Int → Int → Bool → Option ((List (List C64)) × Bool)
 | 0, _, _, _, _, _, _, _ => none
 | k + 1, x0, x1, x2, x3, x4, x5, x39 => if x39 = true then (some (([] : List (List C64)), false)) else (spec_SnapshotsOf.l0 k x0 x1 x2 x3 x4 x5 (([] : List (List C64))) 0)
def spec_SnapshotsOf.l0 : Nat → List (S88) → List (S69) → Nat → Int → Int → Int → List (List C64) → Int → Option ((List (List C64)) × Bool)
 | 0, _, _, _, _, _, _, _, _ => none
 | k + 1, x0, x1, x2, x3, x4, x5, x14, x15 => if x15 < x5 then ((spec_l06Shot.f k x0 x1 x2 x3 (wrap64 (x4 + x15))).bind fun t202 => (if x14.length < 5864062014805 then (spec_SnapshotsOf.l0 k x0 x1 x2 x3 x4 x5 (x14 ++ [t202]) (wrap64 (x15 + 1))) else (none))) else (some (x14, true))
end
def spec_SnapshotsOf.f (k : Nat) (l0 : List (S88)) (l1 : List (S69)) (a2 : Nat) (a3 : Int) (a4 : Int) (a5 : Int) : Option ((List (List C64)) × Bool) := (spec_l06Ask.f k l0 l1 a3).bind fun t194 => (if t194 = true then ((spec_l06Index.f a4).bind fun t195 => (if t195 = true then ((spec_l00In.f a5 0 64).bind fun t196 => (if t196 = true then ((spec_l00Max.f 0 (wrap64 (a5 - 1))).bind fun t197 => ((spec_l06Index.f (wrap64 (a4 + t197))).bind fun t198 => (spec_SnapshotsOf.j0 k l0 l1 a2 a3 a4 a5 (!t198)))) else (spec_SnapshotsOf.j0 k l0 l1 a2 a3 a4 a5 true))) else (spec_SnapshotsOf.j0 k l0 l1 a2 a3 a4 a5 true))) else (spec_SnapshotsOf.j0 k l0 l1 a2 a3 a4 a5 true))
set_option maxHeartbeats 8000000 in
set_option maxRecDepth 100000 in
theorem spec_SnapshotsOf.calls (k : Nat) (A0 : Option Addr) (c0 : Nat) (l0 : List (S88)) (A1 : Option Addr) (c1 : Nat) (l1 : List (S69)) (a2 : Nat) (a3 : Int) (a4 : Int) (a5 : Int) (r1 : List (List C64)) (r2 : Bool) (w : World) (hr0 : Kd.C k88 w A0 l0.length l0) (hc0 : l0.length ≤ c0) (hr1 : Kd.C k69 w A1 l1.length l1) (hc1 : l1.length ≤ c1) (h : spec_SnapshotsOf.f k l0 l1 a2 a3 a4 a5 = some (r1, r2)) :
 Calls Try.prog 33 #[.slice A0 l0.length c0, .slice A1 l1.length c1, .float .f32 a2, .int .i64 a3, .int .i64 a4, .int .i64 a5] w fun e w' => ∃ v0_ : Value, e = .returned (.tuple #[v0_, .bool r2]) ∧ Kd.S (Kd.slice 94 Kd.c64) 45 w' w.heap.size (fun _ => True) v0_ r1 ∧ Below w.heap.size w w' := by
 have HR0 := Aside0.mk hr0
 have HC0 := Aside0.mk hc0
 clear hr0 hc0
 have HR1 := Aside0.mk hr1
 have HC1 := Aside0.mk hc1
 clear hr1 hc1
 have HB := Aside0.mk (Below.refl w.heap.size w)
 have H : ((spec_l06Ask.f k l0 l1 a3).bind fun t194 => (if t194 = true then ((spec_l06Index.f a4).bind fun t195 => (if t195 = true then ((spec_l00In.f a5 0 64).bind fun t196 => (if t196 = true then ((spec_l00Max.f 0 (wrap64 (a5 - 1))).bind fun t197 => ((spec_l06Index.f (wrap64 (a4 + t197))).bind fun t198 => (spec_SnapshotsOf.j0 k l0 l1 a2 a3 a4 a5 (!t198)))) else (spec_SnapshotsOf.j0 k l0 l1 a2 a3 a4 a5 true))) else (spec_SnapshotsOf.j0 k l0 l1 a2 a3 a4 a5 true))) else (spec_SnapshotsOf.j0 k l0 l1 a2 a3 a4 a5 true))) = some (r1, r2) := h
 clear h
 have HC7 := Aside0.mk H
 clear H
 go_enter Try.func33, Try.ntmps33
 go_upto_region 1 with (fail)
 go_cut [39] (fun v39 wc => ∃ (kq : Nat) (x39_6 : Bool), v39 = .bool x39_6 ∧ Aside0 (spec_SnapshotsOf.j0 kq l0 l1 a2 a3 a4 a5 x39_6 = some (r1, r2)) ∧ Aside0 (kq ≤ k) ∧ Aside0 (Below w.heap.size w wc))
 case first =>
  have H := HC7.out
  clear HC7
  replace H := Option.bind_eq_some_iff.mp H
  obtain ⟨t194, A80, H⟩ := H
  replace H : (if t194 = true then ((spec_l06Index.f a4).bind fun t195 => (if t195 = true then ((spec_l00In.f a5 0 64).bind fun t196 => (if t196 = true then ((spec_l00Max.f 0 (wrap64 (a5 - 1))).bind fun t197 => ((spec_l06Index.f (wrap64 (a4 + t197))).bind fun t198 => (spec_SnapshotsOf.j0 k l0 l1 a2 a3 a4 a5 (!t198)))) else (spec_SnapshotsOf.j0 k l0 l1 a2 a3 a4 a5 true))) else (spec_SnapshotsOf.j0 k l0 l1 a2 a3 a4 a5 true))) else (spec_SnapshotsOf.j0 k l0 l1 a2 a3 a4 a5 true)) = some (r1, r2) := H
  have A8 := Aside0.mk A80
  clear A80
  by_cases c9 : t194 = true
  · subst c9
    have H1 : ((spec_l06Index.f a4).bind fun t195 => (if t195 = true then ((spec_l00In.f a5 0 64).bind fun t196 => (if t196 = true then ((spec_l00Max.f 0 (wrap64 (a5 - 1))).bind fun t197 => ((spec_l06Index.f (wrap64 (a4 + t197))).bind fun t198 => (spec_SnapshotsOf.j0 k l0 l1 a2 a3 a4 a5 (!t198)))) else (spec_SnapshotsOf.j0 k l0 l1 a2 a3 a4 a5 true))) else (spec_SnapshotsOf.j0 k l0 l1 a2 a3 a4 a5 true))) = some (r1, r2) := by rw [if_pos rfl] at H; exact H
    clear H
    have H := H1
    clear H1
    replace H := Option.bind_eq_some_iff.mp H
    obtain ⟨t195, A100, H⟩ := H
    replace H : (if t195 = true then ((spec_l00In.f a5 0 64).bind fun t196 => (if t196 = true then ((spec_l00Max.f 0 (wrap64 (a5 - 1))).bind fun t197 => ((spec_l06Index.f (wrap64 (a4 + t197))).bind fun t198 => (spec_SnapshotsOf.j0 k l0 l1 a2 a3 a4 a5 (!t198)))) else (spec_SnapshotsOf.j0 k l0 l1 a2 a3 a4 a5 true))) else (spec_SnapshotsOf.j0 k l0 l1 a2 a3 a4 a5 true)) = some (r1, r2) := H
    have A10 := Aside0.mk A100
    clear A100
    by_cases c11 : t195 = true
    · subst c11
      have H1 : ((spec_l00In.f a5 0 64).bind fun t196 => (if t196 = true then ((spec_l00Max.f 0 (wrap64 (a5 - 1))).bind fun t197 => ((spec_l06Index.f (wrap64 (a4 + t197))).bind fun t198 => (spec_SnapshotsOf.j0 k l0 l1 a2 a3 a4 a5 (!t198)))) else (spec_SnapshotsOf.j0 k l0 l1 a2 a3 a4 a5 true))) = some (r1, r2) := by rw [if_pos rfl] at H; exact H
      clear H
      have H := H1
      clear H1
      replace H := Option.bind_eq_some_iff.mp H
      obtain ⟨t196, A120, H⟩ := H
      replace H : (if t196 = true then ((spec_l00Max.f 0 (wrap64 (a5 - 1))).bind fun t197 => ((spec_l06Index.f (wrap64 (a4 + t197))).bind fun t198 => (spec_SnapshotsOf.j0 k l0 l1 a2 a3 a4 a5 (!t198)))) else (spec_SnapshotsOf.j0 k l0 l1 a2 a3 a4 a5 true)) = some (r1, r2) := H
      have A12 := Aside0.mk A120
      clear A120
      by_cases c13 : t196 = true
      · subst c13
        have H1 : ((spec_l00Max.f 0 (wrap64 (a5 - 1))).bind fun t197 => ((spec_l06Index.f (wrap64 (a4 + t197))).bind fun t198 => (spec_SnapshotsOf.j0 k l0 l1 a2 a3 a4 a5 (!t198)))) = some (r1, r2) := by rw [if_pos rfl] at H; exact H
        clear H
        have H := H1
        clear H1
        replace H := Option.bind_eq_some_iff.mp H
        obtain ⟨t197, A140, H⟩ := H
        replace H : ((spec_l06Index.f (wrap64 (a4 + t197))).bind fun t198 => (spec_SnapshotsOf.j0 k l0 l1 a2 a3 a4 a5 (!t198))) = some (r1, r2) := H
        have A14 := Aside0.mk A140
        clear A140
        replace H := Option.bind_eq_some_iff.mp H
        obtain ⟨t198, A150, H⟩ := H
        replace H : (spec_SnapshotsOf.j0 k l0 l1 a2 a3 a4 a5 (!t198)) = some (r1, r2) := H
        have A15 := Aside0.mk A150
        clear A150
        have H' := Aside0.mk H
        clear H
        go_wp2_with (first | ((with_reducible refine gate_callee (f := 56) rfl ?_); refine goesL_ (some 19) rfl rfl Try.func56 (by kernel_rfl) rfl #[.slice A0 l0.length c0, .slice A1 l1.length c1, .int .i64 a3] rfl (by (try simp only [List.map_toArray, List.map_cons, List.map_nil]); first | done | rfl | (simp only [List.length_drop, List.length_take]; rfl)) ?_; (with_reducible refine (spec_l06Ask.calls k _ _ l0 _ _ l1 a3 true _ ?side1 ?side2 ?side3 ?side4 A8.out).mono ?_); (case side1 => repeat (first | exact (Kd.C_below HR0.out HB.out) | (with_reducible refine Kd.C_alloc ?_ _) | (with_reducible refine Kd.C_drewN ?_ _) | (with_reducible refine Kd.C_drew ?_))); (case side2 => exact HC0.out); (case side3 => repeat (first | exact (Kd.C_below HR1.out HB.out) | (with_reducible refine Kd.C_alloc ?_ _) | (with_reducible refine Kd.C_drewN ?_ _) | (with_reducible refine Kd.C_drew ?_))); (case side4 => exact HC1.out); rintro e w16 ⟨rfl, hb⟩; refine ⟨_, rfl, ?_⟩; have n0_ := Aside0.mk (below_step (by repeat (first | (with_reducible first | exact HB.out | apply below_alloc | apply pw_below_drewN | apply below_drew1) | exact HB.out)) hb); clear HB; have HB := n0_; clear n0_; (try clear hb); (try clear hb2); (try clear hk); (try clear hi)) | (go_at_call 57; (with_reducible refine (spec_l06Index.calls a4 true _ A10.out).mono ?_); rintro e w' ⟨rfl, ⟨nd, rfl⟩⟩) | (go_at_call 48; (with_reducible refine (spec_l00In.calls a5 0 64 true _ A12.out).mono ?_); rintro e w' ⟨rfl, ⟨nd, rfl⟩⟩) | (go_at_call 65; (with_reducible refine (spec_l00Max.calls 0 (wrap64 (a5 - 1)) t197 _ A14.out).mono ?_); rintro e w' ⟨rfl, ⟨nd, rfl⟩⟩) | (go_at_call 57; (with_reducible refine (spec_l06Index.calls (wrap64 (a4 + t197)) t198 _ A15.out).mono ?_); rintro e w' ⟨rfl, ⟨nd, rfl⟩⟩))
        go_meet
        case rel => exact ⟨_, (!t198), (by first | rfl | (simp; done) | (simp [*]; done)), H', ⟨by first | omega | exact Nat.le_refl _⟩, ⟨by repeat (first | (with_reducible first | exact HB.out | apply below_alloc | apply pw_below_drewN | apply below_drew1) | exact HB.out)⟩⟩
      · replace c13 := Bool.eq_false_iff.mpr c13
        subst c13
        have H1 : (spec_SnapshotsOf.j0 k l0 l1 a2 a3 a4 a5 true) = some (r1, r2) := by rw [if_neg (show ¬ (false = true) by decide)] at H; exact H
        clear H
        have H := H1
        clear H1
        have H' := Aside0.mk H
        clear H
        go_wp2_with (first | ((with_reducible refine gate_callee (f := 56) rfl ?_); refine goesL_ (some 19) rfl rfl Try.func56 (by kernel_rfl) rfl #[.slice A0 l0.length c0, .slice A1 l1.length c1, .int .i64 a3] rfl (by (try simp only [List.map_toArray, List.map_cons, List.map_nil]); first | done | rfl | (simp only [List.length_drop, List.length_take]; rfl)) ?_; (with_reducible refine (spec_l06Ask.calls k _ _ l0 _ _ l1 a3 true _ ?side1 ?side2 ?side3 ?side4 A8.out).mono ?_); (case side1 => repeat (first | exact (Kd.C_below HR0.out HB.out) | (with_reducible refine Kd.C_alloc ?_ _) | (with_reducible refine Kd.C_drewN ?_ _) | (with_reducible refine Kd.C_drew ?_))); (case side2 => exact HC0.out); (case side3 => repeat (first | exact (Kd.C_below HR1.out HB.out) | (with_reducible refine Kd.C_alloc ?_ _) | (with_reducible refine Kd.C_drewN ?_ _) | (with_reducible refine Kd.C_drew ?_))); (case side4 => exact HC1.out); rintro e w17 ⟨rfl, hb⟩; refine ⟨_, rfl, ?_⟩; have n0_ := Aside0.mk (below_step (by repeat (first | (with_reducible first | exact HB.out | apply below_alloc | apply pw_below_drewN | apply below_drew1) | exact HB.out)) hb); clear HB; have HB := n0_; clear n0_; (try clear hb); (try clear hb2); (try clear hk); (try clear hi)) | (go_at_call 57; (with_reducible refine (spec_l06Index.calls a4 true _ A10.out).mono ?_); rintro e w' ⟨rfl, ⟨nd, rfl⟩⟩) | (go_at_call 48; (with_reducible refine (spec_l00In.calls a5 0 64 false _ A12.out).mono ?_); rintro e w' ⟨rfl, ⟨nd, rfl⟩⟩))
        go_meet
        case rel => exact ⟨_, (true), (by first | rfl | (simp; done) | (simp [*]; done)), H', ⟨by first | omega | exact Nat.le_refl _⟩, ⟨by repeat (first | (with_reducible first | exact HB.out | apply below_alloc | apply pw_below_drewN | apply below_drew1) | exact HB.out)⟩⟩
    · replace c11 := Bool.eq_false_iff.mpr c11
      subst c11
      have H1 : (spec_SnapshotsOf.j0 k l0 l1 a2 a3 a4 a5 true) = some (r1, r2) := by rw [if_neg (show ¬ (false = true) by decide)] at H; exact H
      clear H
      have H := H1
      clear H1
      have H' := Aside0.mk H
      clear H
      go_wp2_with (first | ((with_reducible refine gate_callee (f := 56) rfl ?_); refine goesL_ (some 19) rfl rfl Try.func56 (by kernel_rfl) rfl #[.slice A0 l0.length c0, .slice A1 l1.length c1, .int .i64 a3] rfl (by (try simp only [List.map_toArray, List.map_cons, List.map_nil]); first | done | rfl | (simp only [List.length_drop, List.length_take]; rfl)) ?_; (with_reducible refine (spec_l06Ask.calls k _ _ l0 _ _ l1 a3 true _ ?side1 ?side2 ?side3 ?side4 A8.out).mono ?_); (case side1 => repeat (first | exact (Kd.C_below HR0.out HB.out) | (with_reducible refine Kd.C_alloc ?_ _) | (with_reducible refine Kd.C_drewN ?_ _) | (with_reducible refine Kd.C_drew ?_))); (case side2 => exact HC0.out); (case side3 => repeat (first | exact (Kd.C_below HR1.out HB.out) | (with_reducible refine Kd.C_alloc ?_ _) | (with_reducible refine Kd.C_drewN ?_ _) | (with_reducible refine Kd.C_drew ?_))); (case side4 => exact HC1.out); rintro e w18 ⟨rfl, hb⟩; refine ⟨_, rfl, ?_⟩; have n0_ := Aside0.mk (below_step (by repeat (first | (with_reducible first | exact HB.out | apply below_alloc | apply pw_below_drewN | apply below_drew1) | exact HB.out)) hb); clear HB; have HB := n0_; clear n0_; (try clear hb); (try clear hb2); (try clear hk); (try clear hi)) | (go_at_call 57; (with_reducible refine (spec_l06Index.calls a4 false _ A10.out).mono ?_); rintro e w' ⟨rfl, ⟨nd, rfl⟩⟩))
      go_meet
      case rel => exact ⟨_, (true), (by first | rfl | (simp; done) | (simp [*]; done)), H', ⟨by first | omega | exact Nat.le_refl _⟩, ⟨by repeat (first | (with_reducible first | exact HB.out | apply below_alloc | apply pw_below_drewN | apply below_drew1) | exact HB.out)⟩⟩
  · replace c9 := Bool.eq_false_iff.mpr c9
    subst c9
    have H1 : (spec_SnapshotsOf.j0 k l0 l1 a2 a3 a4 a5 true) = some (r1, r2) := by rw [if_neg (show ¬ (false = true) by decide)] at H; exact H
    clear H
    have H := H1
    clear H1
    have H' := Aside0.mk H
    clear H
    go_wp2_with (first | ((with_reducible refine gate_callee (f := 56) rfl ?_); refine goesL_ (some 19) rfl rfl Try.func56 (by kernel_rfl) rfl #[.slice A0 l0.length c0, .slice A1 l1.length c1, .int .i64 a3] rfl (by (try simp only [List.map_toArray, List.map_cons, List.map_nil]); first | done | rfl | (simp only [List.length_drop, List.length_take]; rfl)) ?_; (with_reducible refine (spec_l06Ask.calls k _ _ l0 _ _ l1 a3 false _ ?side1 ?side2 ?side3 ?side4 A8.out).mono ?_); (case side1 => repeat (first | exact (Kd.C_below HR0.out HB.out) | (with_reducible refine Kd.C_alloc ?_ _) | (with_reducible refine Kd.C_drewN ?_ _) | (with_reducible refine Kd.C_drew ?_))); (case side2 => exact HC0.out); (case side3 => repeat (first | exact (Kd.C_below HR1.out HB.out) | (with_reducible refine Kd.C_alloc ?_ _) | (with_reducible refine Kd.C_drewN ?_ _) | (with_reducible refine Kd.C_drew ?_))); (case side4 => exact HC1.out); rintro e w19 ⟨rfl, hb⟩; refine ⟨_, rfl, ?_⟩; have n0_ := Aside0.mk (below_step (by repeat (first | (with_reducible first | exact HB.out | apply below_alloc | apply pw_below_drewN | apply below_drew1) | exact HB.out)) hb); clear HB; have HB := n0_; clear n0_; (try clear hb); (try clear hb2); (try clear hk); (try clear hi)))
    go_meet
    case rel => exact ⟨_, (true), (by first | rfl | (simp; done) | (simp [*]; done)), H', ⟨by first | omega | exact Nat.le_refl _⟩, ⟨by repeat (first | (with_reducible first | exact HB.out | apply below_alloc | apply pw_below_drewN | apply below_drew1) | exact HB.out)⟩⟩
 case rest =>
  clear HC7
  (try clear c1); (try clear p2); (try clear c3); (try clear c5); (try clear p6); (try clear c9); (try clear c11); (try clear c13)
  obtain ⟨kq, x39_6, rfl, HA, HJ6, HB⟩ := hcut
  cases kq with
  | zero => exact absurd HA.out (by simp [spec_SnapshotsOf.j0])
  | succ kj6 =>
   have H := HA.out
   clear HA
   simp only [spec_SnapshotsOf.j0] at H
   by_cases c20 : x39_6 = true
   · subst c20
     have H1 : (some (([] : List (List C64)), false)) = some (r1, r2) := by rw [if_pos rfl] at H; exact H
     clear H
     have H := H1
     clear H1
     simp only [Option.some.injEq, Prod.mk.injEq] at H
     obtain ⟨rfl, rfl⟩ := H
     go_wp2
     go_ret2
     exact ⟨_, by first | rfl | (simp [errW_none, errW_some] <;> rfl) | (simp [*, errW_none, errW_some] <;> rfl), by first | exact Kd.S_nil _ _ _ _ _ | exact Kd.N_nil _ _ _ _ _ | exact Kd.V_nil _ _ _ _ _ | exact Kd.Q_nil _ _ _ _ _ | exact Kd.R_nil _ _ _ _ _, by repeat (first | (with_reducible first | exact HB.out | apply below_alloc | apply pw_below_drewN | apply below_drew1) | exact HB.out)⟩
   · replace c20 := Bool.eq_false_iff.mpr c20
     subst c20
     have H1 : (spec_SnapshotsOf.l0 kj6 l0 l1 a2 a3 a4 a5 (([] : List (List C64))) 0) = some (r1, r2) := by rw [if_neg (show ¬ (false = true) by decide)] at H; exact H
     clear H
     have H := H1
     clear H1
     obtain ⟨y199, hy199⟩ : ∃ y_ : List (List C64), y_ = (([] : List (List C64))) := ⟨_, rfl⟩
     replace H : (spec_SnapshotsOf.l0 kj6 l0 l1 a2 a3 a4 a5 y199 0) = some (r1, r2) := by first | (rw [hy199]; with_reducible exact H) | (have H2_ := (Option.bind_some _ _).symm.trans H; rw [hy199]; with_reducible exact H2_) | (have H2_ := (Option.bind_some _ _).symm.trans H; with_reducible exact H2_) | with_reducible exact H | (rw [hy199]; exact H) | exact H
     have Ny199 := Aside0.mk hy199
     clear hy199
     have H' := Aside0.mk H
     clear H
     go_wp2_with (first | ((with_reducible refine gate_dst (N := 40) rfl ?_); refine Kd.S_lit (Kd.slice 94 Kd.c64) _ 45 ?hg (N := 40) ?hd (xs := ([] : List (List C64))) (inner := []) (ok := fun _ => True) (okp := fun _ => True) ?hr ?hp (fun _ hk => hk) trivial (Below.refl _ _) (Nat.le_refl _) (by simp) ?_; (case hd => rfl); (case hg => rfl); (case hr => first | (go_simp; done) | (go_simp; rfl)); (case hp => exact (Reps.none _ _)); intro v200 w21 ho22 hb hg_ hnew_; clear hg_ hnew_; (first | rw [← Ny199.out] at ho22 | (simp only [Int.reduceToNat] at ho22; rw [← Ny199.out] at ho22)); have n0_ := Aside0.mk (Kd.S_lower ho22 (below_size (by repeat (first | (with_reducible first | exact HB.out | apply below_alloc | apply pw_below_drewN | apply below_drew1) | exact HB.out)))); have n1_ := Aside0.mk (below_step (by repeat (first | (with_reducible first | exact HB.out | apply below_alloc | apply pw_below_drewN | apply below_drew1) | exact HB.out)) hb); clear HB; have HO201 := n0_; have HB := n1_; clear n0_ n1_; clear hb ho22))
     go_loopg [14, 15] kj6 (fun kq v14 v15 w' => ∃ (x14_2 : List (List C64)) (x15_2 : Int), v15 = .int .i64 x15_2 ∧ Aside0 (spec_SnapshotsOf.l0 kq l0 l1 a2 a3 a4 a5 x14_2 x15_2 = some (r1, r2)) ∧ Aside0 (kq ≤ kj6) ∧ Aside0 (Kd.S (Kd.slice 94 Kd.c64) 45 w' w.heap.size (fun _ => True) v14 x14_2) ∧ Aside0 (Below w.heap.size w w'))
     case atStart => exact ⟨(y199), (0), (by first | rfl | (simp; done) | (simp [*]; done)), H', ⟨Nat.le_refl _⟩, ⟨by (with_reducible repeat (first | apply Kd.S_alloc | apply Kd.S_drewN | apply Kd.S_drew)); exact HO201.out⟩, ⟨by repeat (first | (with_reducible first | exact HB.out | apply below_alloc | apply pw_below_drewN | apply below_drew1) | exact HB.out)⟩⟩
     case round =>
      clear H'
      (try clear c1); (try clear c2); (try clear p2); (try clear c3); (try clear c5); (try clear c6); (try clear p6); (try clear c9); (try clear c11); (try clear c13); (try clear c20); (try clear p2); (try clear p6)
      obtain ⟨x14_2, x15_2, rfl, HA, HK2, HO_14, HB⟩ := hrel
      cases gk with
      | zero => exact absurd HA.out (by simp [spec_SnapshotsOf.l0])
      | succ k2 =>
       have H := HA.out
       clear HA
       simp only [spec_SnapshotsOf.l0] at H
       by_cases c23 : x15_2 < a5
       · rw [if_pos c23] at H
         have c23b0 : decide (x15_2 < a5) = true := decide_eq_true c23
         clear c23
         replace H := Option.bind_eq_some_iff.mp H
         obtain ⟨t202, A240, H⟩ := H
         replace H : (if x14_2.length < 5864062014805 then (spec_SnapshotsOf.l0 k2 l0 l1 a2 a3 a4 a5 (x14_2 ++ [t202]) (wrap64 (x15_2 + 1))) else (none)) = some (r1, r2) := H
         have A24 := Aside0.mk A240
         clear A240
         by_cases c25 : x14_2.length < 5864062014805
         · rw [if_pos c25] at H
           have LMc25 := Aside0.mk c25
           clear c25
           obtain ⟨y205, hy205⟩ : ∃ y_ : List (List C64), y_ = (x14_2 ++ [t202]) := ⟨_, rfl⟩
           replace H : (spec_SnapshotsOf.l0 k2 l0 l1 a2 a3 a4 a5 y205 (wrap64 (x15_2 + 1))) = some (r1, r2) := by first | (rw [hy205]; with_reducible exact H) | (have H2_ := (Option.bind_some _ _).symm.trans H; rw [hy205]; with_reducible exact H2_) | (have H2_ := (Option.bind_some _ _).symm.trans H; with_reducible exact H2_) | with_reducible exact H | (rw [hy205]; exact H) | exact H
           have Ny205 := Aside0.mk hy205
           clear hy205
           have H' := Aside0.mk H
           clear H
           go_wp2_with (first | ((with_reducible refine gate_callee (f := 58) rfl ?_); refine goesL_ (some 54) rfl rfl Try.func58 (by kernel_rfl) rfl #[.slice A0 l0.length c0, .slice A1 l1.length c1, .float .f32 a2, .int .i64 a3, .int .i64 (wrap64 (a4 + x15_2))] rfl (by (try simp only [List.map_toArray, List.map_cons, List.map_nil]); first | done | rfl | (simp only [List.length_drop, List.length_take]; rfl)) ?_; (with_reducible refine (spec_l06Shot.calls k2 _ _ l0 _ _ l1 a2 a3 (wrap64 (a4 + x15_2)) t202 _ ?side1 ?side2 ?side3 ?side4 A24.out).mono ?_); (case side1 => repeat (first | exact (Kd.C_below HR0.out HB.out) | (with_reducible refine Kd.C_alloc ?_ _) | (with_reducible refine Kd.C_drewN ?_ _) | (with_reducible refine Kd.C_drew ?_))); (case side2 => exact HC0.out); (case side3 => repeat (first | exact (Kd.C_below HR1.out HB.out) | (with_reducible refine Kd.C_alloc ?_ _) | (with_reducible refine Kd.C_drewN ?_ _) | (with_reducible refine Kd.C_drew ?_))); (case side4 => exact HC1.out); rintro e w26 ⟨v203, rfl, ho0, hb⟩; refine ⟨_, rfl, ?_⟩; have n0_ := Aside0.mk (Kd.S_elder' (by (with_reducible repeat (first | apply Kd.S_alloc | apply Kd.S_drewN | apply Kd.S_drew)); exact HO_14.out) (Kd.R_base ho0) hb); have n1_ := Aside0.mk (Kd.R_lower ho0 (below_size (by repeat (first | (with_reducible first | exact HB.out | apply below_alloc | apply pw_below_drewN | apply below_drew1) | exact HB.out)))); have n2_ := Aside0.mk (below_step (by repeat (first | (with_reducible first | exact HB.out | apply below_alloc | apply pw_below_drewN | apply below_drew1) | exact HB.out)) hb); clear HO_14; clear HB; have HO_14 := n0_; have HO204 := n1_; have HB := n2_; clear n0_ n1_ n2_; (try clear hb); (try clear hb2); (try clear hk); (try clear hi); (try clear ho0); obtain ⟨Ao28, co28, eo28⟩ := Kd.R_slice HO204.out; subst eo28) | ((with_reducible refine gate_builtin (b := .append) (xs := #[.tmp 46, .tmp 55]) rfl ?_); at_builtin; refine Kd.S_append (Kd.slice 94 Kd.c64) (w0 := w) w.heap.size rfl (.tmp 46) (.tmp 55) 56 45 (.slice none 0 0) 24 rfl Try.underlying56 info45 rfl (by decide) (by omega) u14 x14_2 t202 [.slice Ao28 t202.length co28] (fun _ => True) (fun k_ => some k_ = (.slice Ao28 t202.length co28 : Value).ownBlock) rfl rfl ?aP (fun k_ hk_ => ((Kd.R_mono (ok' := fun k_ => ((fun _ => True)) k_ ∧ some k_ ≠ (u14 : Value).ownBlock) (Kd.R_apart' (HO204.out) (Kd.S_typed HO_14.out) (by decide)) (fun k_ hk => ⟨trivial, hk.2⟩))).1 k_ hk_.symm) ?aF ?aO ?aB ?aS ?aL ?_; (case aP => exact Kd.M_row (Kd.R_mono (Kd.R_tight rfl (Kd.R_mono (ok' := fun k_ => ((fun _ => True)) k_ ∧ some k_ ≠ (u14 : Value).ownBlock) (Kd.R_apart' (HO204.out) (Kd.S_typed HO_14.out) (by decide)) (fun k_ hk => ⟨trivial, hk.2⟩))) (fun _ h_ => h_))); (case aB => exact (by repeat (first | (with_reducible first | exact HB.out | apply below_alloc | apply pw_below_drewN | apply below_drew1) | exact HB.out))); (case aF => exact (fun _ _ => trivial)); (case aO => exact (by (with_reducible repeat (first | apply Kd.S_alloc | apply Kd.S_drewN | apply Kd.S_drew)); exact Kd.S_mono HO_14.out (fun k_ hk => ⟨trivial, fun e_ => hk.2 e_⟩))); (case aS => exact (below_size (by repeat (first | (with_reducible first | exact HB.out | apply below_alloc | apply pw_below_drewN | apply below_drew1) | exact HB.out)))); (case aL => have := LMc25.out; omega); intro v206 w27 ho hb hg hat; rw [← Ny205.out] at ho; have n0_ := Aside0.mk (hb); have n1_ := Aside0.mk (ho); clear HB; clear HO_14; clear HO204; have HB := n0_; have HO207 := n1_; clear n0_ n1_; clear ho hb hg hat))
           go_roundg k2
           case measure => have := HJ6.out; have := HK2.out; omega
           case rel => exact ⟨(y205), (wrap64 (x15_2 + 1)), (by first | rfl | (simp; done) | (simp [*]; done)), H', ⟨by have := HJ6.out; have := HK2.out; omega⟩, ⟨by (with_reducible repeat (first | apply Kd.S_alloc | apply Kd.S_drewN | apply Kd.S_drew)); exact HO207.out⟩, ⟨by repeat (first | (with_reducible first | exact HB.out | apply below_alloc | apply pw_below_drewN | apply below_drew1) | exact HB.out)⟩⟩
         · rw [if_neg c25] at H
           exact absurd H (by simp)
       · rw [if_neg c23] at H
         have c23b0 : decide (x15_2 < a5) = false := decide_eq_false c23
         clear c23
         simp only [Option.some.injEq, Prod.mk.injEq] at H
         obtain ⟨rfl, rfl⟩ := H
         go_wp2
         go_ret2
         exact ⟨_, by first | rfl | (simp [errW_none, errW_some] <;> rfl) | (simp [*, errW_none, errW_some] <;> rfl), by (with_reducible repeat (first | apply Kd.S_alloc | apply Kd.S_drewN | apply Kd.S_drew)); exact HO_14.out, by repeat (first | (with_reducible first | exact HB.out | apply below_alloc | apply pw_below_drewN | apply below_drew1) | exact HB.out)⟩

/-! ### impl_within: function 39 -/
def impl_within.f (a0 : Int) (a1 : Int) (a2 : Int) : Option (Bool) := if a0 ≥ a1 then (some (decide (a0 ≤ a2))) else (some false)
set_option maxHeartbeats 8000000 in
set_option maxRecDepth 100000 in
theorem impl_within.calls (a0 : Int) (a1 : Int) (a2 : Int) (r : Bool) (w : World) (h : impl_within.f a0 a1 a2 = some r) :
 Calls Try.prog 39 #[.int .i64 a0, .int .i64 a1, .int .i64 a2] w fun e w' => e = .returned (.bool r) ∧ Drawn0 w w' := by
 have H : (if a0 ≥ a1 then (some (decide (a0 ≤ a2))) else (some false)) = some r := h
 clear h
 by_cases c4 : a0 ≥ a1
 · rw [if_pos c4] at H
   have c4b0 : decide (a1 ≤ a0) = true := decide_eq_true c4
   clear c4
   obtain rfl := Option.some.inj H
   go_enter Try.func39, Try.ntmps39
   go_wp2
   go_ret
   exact ⟨by first | rfl | (simp; done) | (simp [*]; done), by repeat (first | exact Drawn0.refl _ | apply Drawn0.step)⟩
 · rw [if_neg c4] at H
   have c4b0 : decide (a1 ≤ a0) = false := decide_eq_false c4
   clear c4
   obtain rfl := Option.some.inj H
   go_enter Try.func39, Try.ntmps39
   go_wp2
   go_ret
   exact ⟨by first | rfl | (simp; done) | (simp [*]; done), by repeat (first | exact Drawn0.refl _ | apply Drawn0.step)⟩

/-! ### impl_ValidDirection: function 44 -/
def impl_ValidDirection.f (a0_0 : Int) (a0_1 : Int) : Option (Bool) := (impl_within.f a0_0 (-64) 64).bind fun t209 => (if t209 = true then ((impl_within.f a0_1 (-64) 64).bind fun t210 => (if t210 = true then (some (decide ((wrap64 ((wrap64 (a0_0 * a0_0)) + (wrap64 (a0_1 * a0_1)))) ≤ 4096))) else (some false))) else (some false))
set_option maxHeartbeats 8000000 in
set_option maxRecDepth 100000 in
theorem impl_ValidDirection.calls (a0_0 : Int) (a0_1 : Int) (r : Bool) (w : World) (h : impl_ValidDirection.f a0_0 a0_1 = some r) :
 Calls Try.prog 44 #[.agg #[.int .i64 a0_0, .int .i64 a0_1]] w fun e w' => e = .returned (.bool r) ∧ Below w.heap.size w w' := by
 have hu67 := Try.underlying67
 have HB := Aside0.mk (Below.refl w.heap.size w)
 have H : ((impl_within.f a0_0 (-64) 64).bind fun t209 => (if t209 = true then ((impl_within.f a0_1 (-64) 64).bind fun t210 => (if t210 = true then (some (decide ((wrap64 ((wrap64 (a0_0 * a0_0)) + (wrap64 (a0_1 * a0_1)))) ≤ 4096))) else (some false))) else (some false))) = some r := h
 clear h
 replace H := Option.bind_eq_some_iff.mp H
 obtain ⟨t209, A20, H⟩ := H
 replace H : (if t209 = true then ((impl_within.f a0_1 (-64) 64).bind fun t210 => (if t210 = true then (some (decide ((wrap64 ((wrap64 (a0_0 * a0_0)) + (wrap64 (a0_1 * a0_1)))) ≤ 4096))) else (some false))) else (some false)) = some r := H
 have A2 := Aside0.mk A20
 clear A20
 by_cases c3 : t209 = true
 · subst c3
   have H1 : ((impl_within.f a0_1 (-64) 64).bind fun t210 => (if t210 = true then (some (decide ((wrap64 ((wrap64 (a0_0 * a0_0)) + (wrap64 (a0_1 * a0_1)))) ≤ 4096))) else (some false))) = some r := by rw [if_pos rfl] at H; exact H
   clear H
   have H := H1
   clear H1
   replace H := Option.bind_eq_some_iff.mp H
   obtain ⟨t210, A40, H⟩ := H
   replace H : (if t210 = true then (some (decide ((wrap64 ((wrap64 (a0_0 * a0_0)) + (wrap64 (a0_1 * a0_1)))) ≤ 4096))) else (some false)) = some r := H
   have A4 := Aside0.mk A40
   clear A40
   by_cases c5 : t210 = true
   · subst c5
     have H1 : (some (decide ((wrap64 ((wrap64 (a0_0 * a0_0)) + (wrap64 (a0_1 * a0_1)))) ≤ 4096))) = some r := by rw [if_pos rfl] at H; exact H
     clear H
     have H := H1
     clear H1
     obtain rfl := Option.some.inj H
     go_enter Try.func44, Try.ntmps44
     go_wp2_with (first | ((with_reducible refine gate_dst (N := 1) rfl ?_); refine box_event ?hg (N := 1) ?hd (cs := #[.int .i64 a0_0, .int .i64 a0_1]) (t := 67) ?hr ?_; (case hd => rfl); (case hg => rfl); (case hr => first | (go_simp; done) | (go_simp; rfl)); intro gb208 hg w6 hbox hb; have n0_ := Aside0.mk (below_step (by repeat (first | (with_reducible first | exact HB.out | apply below_alloc | apply pw_below_drewN | apply below_drew1) | exact HB.out)) hb); have n1_ := Aside0.mk (hbox); have n2_ := Aside0.mk ((by rw [hg]; exact (below_size (by repeat (first | (with_reducible first | exact HB.out | apply below_alloc | apply pw_below_drewN | apply below_drew1) | exact HB.out))) : w.heap.size ≤ gb208)); have n3_ := Aside0.mk ((by rw [hg]; exact (below_size (by repeat (first | (with_reducible first | exact HB.out | apply below_alloc | apply pw_below_drewN | apply below_drew1) | exact HB.out))) : w.heap.size ≤ gb208)); clear HB; have HB := n0_; have BK208 := n1_; have GW208 := n2_; have GE208 := n3_; clear n0_ n1_ n2_ n3_; clear hb hbox hg; have hcz7_0 : w6.cell? ⟨gb208, 0, none⟩ = some (.int .i64 a0_0) := (blk_cell BK208.out 0).trans rfl; have hcz7_1 : w6.cell? ⟨gb208, 1, none⟩ = some (.int .i64 a0_1) := (blk_cell BK208.out 1).trans rfl; have hfz7_0 := blk_frozen BK208.out 0; have hfz7_1 := blk_frozen BK208.out 1) | ((with_reducible refine gate_callee (f := 39) rfl ?_); refine goesL_ (some 5) rfl rfl Try.func39 (by kernel_rfl) rfl #[.int .i64 a0_0, .int .i64 (-64), .int .i64 64] rfl (by (try simp only [List.map_toArray, List.map_cons, List.map_nil]); first | done | rfl | (simp only [List.length_drop, List.length_take]; rfl)) ?_; (with_reducible refine (impl_within.calls a0_0 (-64) 64 true _ A2.out).mono ?_); rintro e w' ⟨rfl, ⟨nd, rfl⟩⟩; refine ⟨_, rfl, ?_⟩) | (go_at_call 39; (with_reducible refine (impl_within.calls a0_1 (-64) 64 true _ A4.out).mono ?_); rintro e w' ⟨rfl, ⟨nd, rfl⟩⟩))
     go_ret
     exact ⟨by first | rfl | (simp [errW_none, errW_some] <;> rfl) | (simp [*, errW_none, errW_some] <;> rfl), by repeat (first | (with_reducible first | exact HB.out | apply below_alloc | apply pw_below_drewN | apply below_drew1 | refine below_set ?_ GE208.out) | exact HB.out)⟩
   · replace c5 := Bool.eq_false_iff.mpr c5
     subst c5
     have H1 : (some false) = some r := by rw [if_neg (show ¬ (false = true) by decide)] at H; exact H
     clear H
     have H := H1
     clear H1
     obtain rfl := Option.some.inj H
     go_enter Try.func44, Try.ntmps44
     go_wp2_with (first | ((with_reducible refine gate_dst (N := 1) rfl ?_); refine box_event ?hg (N := 1) ?hd (cs := #[.int .i64 a0_0, .int .i64 a0_1]) (t := 67) ?hr ?_; (case hd => rfl); (case hg => rfl); (case hr => first | (go_simp; done) | (go_simp; rfl)); intro gb208 hg w8 hbox hb; have n0_ := Aside0.mk (below_step (by repeat (first | (with_reducible first | exact HB.out | apply below_alloc | apply pw_below_drewN | apply below_drew1) | exact HB.out)) hb); have n1_ := Aside0.mk (hbox); have n2_ := Aside0.mk ((by rw [hg]; exact (below_size (by repeat (first | (with_reducible first | exact HB.out | apply below_alloc | apply pw_below_drewN | apply below_drew1) | exact HB.out))) : w.heap.size ≤ gb208)); have n3_ := Aside0.mk ((by rw [hg]; exact (below_size (by repeat (first | (with_reducible first | exact HB.out | apply below_alloc | apply pw_below_drewN | apply below_drew1) | exact HB.out))) : w.heap.size ≤ gb208)); clear HB; have HB := n0_; have BK208 := n1_; have GW208 := n2_; have GE208 := n3_; clear n0_ n1_ n2_ n3_; clear hb hbox hg; have hcz9_0 : w8.cell? ⟨gb208, 0, none⟩ = some (.int .i64 a0_0) := (blk_cell BK208.out 0).trans rfl; have hcz9_1 : w8.cell? ⟨gb208, 1, none⟩ = some (.int .i64 a0_1) := (blk_cell BK208.out 1).trans rfl; have hfz9_0 := blk_frozen BK208.out 0; have hfz9_1 := blk_frozen BK208.out 1) | ((with_reducible refine gate_callee (f := 39) rfl ?_); refine goesL_ (some 5) rfl rfl Try.func39 (by kernel_rfl) rfl #[.int .i64 a0_0, .int .i64 (-64), .int .i64 64] rfl (by (try simp only [List.map_toArray, List.map_cons, List.map_nil]); first | done | rfl | (simp only [List.length_drop, List.length_take]; rfl)) ?_; (with_reducible refine (impl_within.calls a0_0 (-64) 64 true _ A2.out).mono ?_); rintro e w' ⟨rfl, ⟨nd, rfl⟩⟩; refine ⟨_, rfl, ?_⟩) | (go_at_call 39; (with_reducible refine (impl_within.calls a0_1 (-64) 64 false _ A4.out).mono ?_); rintro e w' ⟨rfl, ⟨nd, rfl⟩⟩))
     go_ret
     exact ⟨by first | rfl | (simp [errW_none, errW_some] <;> rfl) | (simp [*, errW_none, errW_some] <;> rfl), by repeat (first | (with_reducible first | exact HB.out | apply below_alloc | apply pw_below_drewN | apply below_drew1 | refine below_set ?_ GE208.out) | exact HB.out)⟩
 · replace c3 := Bool.eq_false_iff.mpr c3
   subst c3
   have H1 : (some false) = some r := by rw [if_neg (show ¬ (false = true) by decide)] at H; exact H
   clear H
   have H := H1
   clear H1
   obtain rfl := Option.some.inj H
   go_enter Try.func44, Try.ntmps44
   go_wp2_with (first | ((with_reducible refine gate_dst (N := 1) rfl ?_); refine box_event ?hg (N := 1) ?hd (cs := #[.int .i64 a0_0, .int .i64 a0_1]) (t := 67) ?hr ?_; (case hd => rfl); (case hg => rfl); (case hr => first | (go_simp; done) | (go_simp; rfl)); intro gb208 hg w10 hbox hb; have n0_ := Aside0.mk (below_step (by repeat (first | (with_reducible first | exact HB.out | apply below_alloc | apply pw_below_drewN | apply below_drew1) | exact HB.out)) hb); have n1_ := Aside0.mk (hbox); have n2_ := Aside0.mk ((by rw [hg]; exact (below_size (by repeat (first | (with_reducible first | exact HB.out | apply below_alloc | apply pw_below_drewN | apply below_drew1) | exact HB.out))) : w.heap.size ≤ gb208)); have n3_ := Aside0.mk ((by rw [hg]; exact (below_size (by repeat (first | (with_reducible first | exact HB.out | apply below_alloc | apply pw_below_drewN | apply below_drew1) | exact HB.out))) : w.heap.size ≤ gb208)); clear HB; have HB := n0_; have BK208 := n1_; have GW208 := n2_; have GE208 := n3_; clear n0_ n1_ n2_ n3_; clear hb hbox hg; have hcz11_0 : w10.cell? ⟨gb208, 0, none⟩ = some (.int .i64 a0_0) := (blk_cell BK208.out 0).trans rfl; have hcz11_1 : w10.cell? ⟨gb208, 1, none⟩ = some (.int .i64 a0_1) := (blk_cell BK208.out 1).trans rfl; have hfz11_0 := blk_frozen BK208.out 0; have hfz11_1 := blk_frozen BK208.out 1) | ((with_reducible refine gate_callee (f := 39) rfl ?_); refine goesL_ (some 5) rfl rfl Try.func39 (by kernel_rfl) rfl #[.int .i64 a0_0, .int .i64 (-64), .int .i64 64] rfl (by (try simp only [List.map_toArray, List.map_cons, List.map_nil]); first | done | rfl | (simp only [List.length_drop, List.length_take]; rfl)) ?_; (with_reducible refine (impl_within.calls a0_0 (-64) 64 false _ A2.out).mono ?_); rintro e w' ⟨rfl, ⟨nd, rfl⟩⟩; refine ⟨_, rfl, ?_⟩))
   go_ret
   exact ⟨by first | rfl | (simp [errW_none, errW_some] <;> rfl) | (simp [*, errW_none, errW_some] <;> rfl), by repeat (first | (with_reducible first | exact HB.out | apply below_alloc | apply pw_below_drewN | apply below_drew1 | refine below_set ?_ GE208.out) | exact HB.out)⟩

/-! ### impl_isSeed: function 45 -/
def impl_isSeed.f (a0 : Int) : Option (Bool) := (impl_within.f a0 0 2147483647).bind fun t211 => (some t211)
set_option maxHeartbeats 8000000 in
set_option maxRecDepth 100000 in
theorem impl_isSeed.calls (a0 : Int) (r : Bool) (w : World) (h : impl_isSeed.f a0 = some r) :
 Calls Try.prog 45 #[.int .i64 a0] w fun e w' => e = .returned (.bool r) ∧ Drawn0 w w' := by
 have H : ((impl_within.f a0 0 2147483647).bind fun t211 => (some t211)) = some r := h
 clear h
 replace H := Option.bind_eq_some_iff.mp H
 obtain ⟨t211, A20, H⟩ := H
 replace H : (some t211) = some r := H
 have A2 := Aside0.mk A20
 clear A20
 obtain rfl := Option.some.inj H
 go_enter Try.func45, Try.ntmps45
 go_wp2_with (first | ((with_reducible refine gate_callee (f := 39) rfl ?_); refine goesL_ (some 4) rfl rfl Try.func39 (by kernel_rfl) rfl #[.int .i64 a0, .int .i64 0, .int .i64 2147483647] rfl (by (try simp only [List.map_toArray, List.map_cons, List.map_nil]); first | done | rfl | (simp only [List.length_drop, List.length_take]; rfl)) ?_; (with_reducible refine (impl_within.calls a0 0 2147483647 t211 _ A2.out).mono ?_); rintro e w' ⟨rfl, ⟨nd, rfl⟩⟩; refine ⟨_, rfl, ?_⟩))
 go_ret
 exact ⟨by first | rfl | (simp; done) | (simp [*]; done), by repeat (first | exact Drawn0.refl _ | apply Drawn0.step)⟩

/-! ### impl_ValidSources: function 15 -/
def impl_ValidSources.l0 : Nat → List (S69) → List (S69) → Int → Int → Option (Bool)
 | 0, _, _, _, _ => none
 | k + 1, x0, x5, x6, x7 => if x7 < x6 then (if 0 ≤ x7 then (if x7 < (x5.length : Int) then ((impl_ValidDirection.f ((rd_T69 x5 x7).f0.f0) ((rd_T69 x5 x7).f0.f1)).bind fun t214 => (if t214 = true then ((impl_isSeed.f ((rd_T69 x5 x7).f2)).bind fun t215 => (if t215 = true then (impl_ValidSources.l0 k x0 x5 x6 (wrap64 (x7 + 1))) else (some false))) else (some false))) else (none)) else (none)) else (some (decide ((x0.length : Int) ≤ 4)))
def impl_ValidSources.f (k : Nat) (l0 : List (S69)) : Option (Bool) := impl_ValidSources.l0 k l0 l0 (l0.length : Int) 0
set_option maxHeartbeats 8000000 in
set_option maxRecDepth 100000 in
theorem impl_ValidSources.calls (k : Nat) (A0 : Option Addr) (c0 : Nat) (l0 : List (S69)) (r : Bool) (w : World) (hr0 : Kd.C k69 w A0 l0.length l0) (hc0 : l0.length ≤ c0) (h : impl_ValidSources.f k l0 = some r) :
 Calls Try.prog 15 #[.slice A0 l0.length c0] w fun e w' => e = .returned (.bool r) ∧ Below w.heap.size w w' := by
 have hu69 := Try.underlying69
 have hu67 := Try.underlying67
 have HR0 := Aside0.mk hr0
 have HC0 := Aside0.mk hc0
 clear hr0 hc0
 have HB := Aside0.mk (Below.refl w.heap.size w)
 have H : (impl_ValidSources.l0 k l0 l0 (l0.length : Int) 0) = some r := h
 clear h
 have H' := Aside0.mk H
 clear H
 go_enter Try.func15, Try.ntmps15
 go_wp2
 go_loopg [7] k (fun kq v7 w' => ∃ (x7_1 : Int), v7 = .int .i64 x7_1 ∧ Aside0 (impl_ValidSources.l0 kq l0 l0 (l0.length : Int) x7_1 = some r) ∧ Aside0 (kq ≤ k) ∧ Aside0 (Below w.heap.size w w'))
 case atStart => exact ⟨(0), (by first | rfl | (simp; done) | (simp [*]; done)), H', ⟨Nat.le_refl _⟩, ⟨by repeat (first | (with_reducible first | exact HB.out | apply below_alloc | apply pw_below_drewN | apply below_drew1) | exact HB.out)⟩⟩
 case round =>
  clear H'
  (try clear c1)
  obtain ⟨x7_1, rfl, HA, HK1, HB⟩ := hrel
  cases gk with
  | zero => exact absurd HA.out (by simp [impl_ValidSources.l0])
  | succ k1 =>
   have H := HA.out
   clear HA
   simp only [impl_ValidSources.l0] at H
   by_cases c2 : x7_1 < (l0.length : Int)
   · rw [if_pos c2] at H
     have c2b0 : decide (x7_1 < (l0.length : Int)) = true := decide_eq_true c2
     clear c2
     by_cases c3 : 0 ≤ x7_1
     · rw [if_pos c3] at H
       have c3b0 : decide (0 ≤ x7_1) = true := decide_eq_true c3
       clear c3
       by_cases c4 : x7_1 < (l0.length : Int)
       · rw [if_pos c4] at H
         have c4b0 : decide (x7_1 < (l0.length : Int)) = true := decide_eq_true c4
         clear c4
         replace H := Option.bind_eq_some_iff.mp H
         obtain ⟨t214, A50, H⟩ := H
         replace H : (if t214 = true then ((impl_isSeed.f ((rd_T69 l0 x7_1).f2)).bind fun t215 => (if t215 = true then (impl_ValidSources.l0 k1 l0 l0 (l0.length : Int) (wrap64 (x7_1 + 1))) else (some false))) else (some false)) = some r := H
         have A5 := Aside0.mk A50
         clear A50
         by_cases c6 : t214 = true
         · subst c6
           have H1 : ((impl_isSeed.f ((rd_T69 l0 x7_1).f2)).bind fun t215 => (if t215 = true then (impl_ValidSources.l0 k1 l0 l0 (l0.length : Int) (wrap64 (x7_1 + 1))) else (some false))) = some r := by rw [if_pos rfl] at H; exact H
           clear H
           have H := H1
           clear H1
           replace H := Option.bind_eq_some_iff.mp H
           obtain ⟨t215, A70, H⟩ := H
           replace H : (if t215 = true then (impl_ValidSources.l0 k1 l0 l0 (l0.length : Int) (wrap64 (x7_1 + 1))) else (some false)) = some r := H
           have A7 := Aside0.mk A70
           clear A70
           by_cases c8 : t215 = true
           · subst c8
             have H1 : (impl_ValidSources.l0 k1 l0 l0 (l0.length : Int) (wrap64 (x7_1 + 1))) = some r := by rw [if_pos rfl] at H; exact H
             clear H
             have H := H1
             clear H1
             have H' := Aside0.mk H
             clear H
             have p212 : 0 ≤ (x7_1 : Int) := of_decide_eq_true (by first | (with_reducible assumption) | assumption)
             have q212 : x7_1 < (l0.length : Int) := of_decide_eq_true (by first | (with_reducible assumption) | assumption)
             obtain ⟨ad212, e212, hx212_0, hx212_1, hx212_2, hx212_3⟩ := at_T69 HR0.out x7_1 p212 q212
             cases e212
             replace hx212_0 := (HB.out.cell (World.block_lt_of_cell? w _ hx212_0)).trans hx212_0
             replace hx212_1 := (HB.out.cell (World.block_lt_of_cell? w _ hx212_1)).trans hx212_1
             replace hx212_2 := (HB.out.cell (World.block_lt_of_cell? w _ hx212_2)).trans hx212_2
             replace hx212_3 := (HB.out.cell (World.block_lt_of_cell? w _ hx212_3)).trans hx212_3
             replace p212 := eq_true p212
             replace q212 := eq_true q212
             go_wp2_with (first | ((with_reducible refine gate_dst (N := 4) rfl ?_); refine box_event ?hg (N := 4) ?hd (cs := #[.int .i64 0, .int .i64 0, .float .f32 (0 : Nat), .int .i64 0]) (t := 69) ?hr ?_; (case hd => rfl); (case hg => rfl); (case hr => first | (go_simp; done) | (go_simp; rfl)); intro gb213 hg w9 hbox hb; have n0_ := Aside0.mk (below_step (by repeat (first | (with_reducible first | exact HB.out | apply below_alloc | apply pw_below_drewN | apply below_drew1) | exact HB.out)) hb); have n1_ := Aside0.mk (hbox); have n2_ := Aside0.mk ((by rw [hg]; exact (below_size (by repeat (first | (with_reducible first | exact HB.out | apply below_alloc | apply pw_below_drewN | apply below_drew1) | exact HB.out))) : w.heap.size ≤ gb213)); have n3_ := Aside0.mk ((by rw [hg]; exact (below_size (by repeat (first | (with_reducible first | exact HB.out | apply below_alloc | apply pw_below_drewN | apply below_drew1) | exact HB.out))) : w.heap.size ≤ gb213)); clear HB; have HB := n0_; have BK213 := n1_; have GW213 := n2_; have GE213 := n3_; clear n0_ n1_ n2_ n3_; clear hb hbox hg; have hcz10_0 : w9.cell? ⟨gb213, 0, none⟩ = some (.int .i64 0) := (blk_cell BK213.out 0).trans rfl; have hcz10_1 : w9.cell? ⟨gb213, 1, none⟩ = some (.int .i64 0) := (blk_cell BK213.out 1).trans rfl; have hcz10_2 : w9.cell? ⟨gb213, 2, none⟩ = some (.float .f32 (0 : Nat)) := (blk_cell BK213.out 2).trans rfl; have hcz10_3 : w9.cell? ⟨gb213, 3, none⟩ = some (.int .i64 0) := (blk_cell BK213.out 3).trans rfl; have hfz10_0 := blk_frozen BK213.out 0; have hfz10_1 := blk_frozen BK213.out 1; have hfz10_2 := blk_frozen BK213.out 2; have hfz10_3 := blk_frozen BK213.out 3) | ((with_reducible refine gate_callee (f := 44) rfl ?_); refine goesL_ (some 13) rfl rfl Try.func44 (by kernel_rfl) rfl #[.agg #[.int .i64 ((rd_T69 l0 x7_1).f0.f0), .int .i64 ((rd_T69 l0 x7_1).f0.f1)]] rfl (by (try simp only [List.map_toArray, List.map_cons, List.map_nil]); first | done | rfl | (simp only [List.length_drop, List.length_take]; rfl)) ?_; (with_reducible refine (impl_ValidDirection.calls ((rd_T69 l0 x7_1).f0.f0) ((rd_T69 l0 x7_1).f0.f1) true _ A5.out).mono ?_); rintro e w11 ⟨rfl, hb⟩; refine ⟨_, rfl, ?_⟩; have n0_ := Aside0.mk (blk_below (g := gb213) (o := .cells #[.int .i64 ((rd_T69 l0 x7_1).f0.f0), .int .i64 ((rd_T69 l0 x7_1).f0.f1), .float .f32 ((rd_T69 l0 x7_1).f1), .int .i64 ((rd_T69 l0 x7_1).f2)] 69 (0, 0)) (by (with_reducible repeat (first | refine blk_drewN ?_ _ | refine blk_drew ?_ | refine blk_alloc ?_ _)); refine blk_put (cs := #[.int .i64 ((rd_T69 l0 x7_1).f0.f0), .int .i64 ((rd_T69 l0 x7_1).f0.f1), .float .f32 ((rd_T69 l0 x7_1).f1), .int .i64 0]) ?_ 3 _ rfl; (with_reducible repeat (first | refine blk_drewN ?_ _ | refine blk_drew ?_ | refine blk_alloc ?_ _)); refine blk_put (cs := #[.int .i64 ((rd_T69 l0 x7_1).f0.f0), .int .i64 ((rd_T69 l0 x7_1).f0.f1), .float .f32 (0 : Nat), .int .i64 0]) ?_ 2 _ rfl; (with_reducible repeat (first | refine blk_drewN ?_ _ | refine blk_drew ?_ | refine blk_alloc ?_ _)); refine blk_put (cs := #[.int .i64 ((rd_T69 l0 x7_1).f0.f0), .int .i64 0, .float .f32 (0 : Nat), .int .i64 0]) ?_ 1 _ rfl; (with_reducible repeat (first | refine blk_drewN ?_ _ | refine blk_drew ?_ | refine blk_alloc ?_ _)); refine blk_put (cs := #[.int .i64 0, .int .i64 0, .float .f32 (0 : Nat), .int .i64 0]) ?_ 0 _ rfl; (with_reducible repeat (first | refine blk_drewN ?_ _ | refine blk_drew ?_ | refine blk_alloc ?_ _)); exact BK213.out) hb); have n1_ := Aside0.mk (below_step (by repeat (first | (with_reducible first | exact HB.out | apply below_alloc | apply pw_below_drewN | apply below_drew1 | refine below_set ?_ GE213.out) | exact HB.out)) hb); clear BK213; clear HB; have BK213 := n0_; have HB := n1_; clear n0_ n1_; (try clear hb); (try clear hb2); (try clear hk); (try clear hi); have hcz12_0 : w11.cell? ⟨gb213, 0, none⟩ = some (.int .i64 ((rd_T69 l0 x7_1).f0.f0)) := (blk_cell BK213.out 0).trans rfl; have hcz12_1 : w11.cell? ⟨gb213, 1, none⟩ = some (.int .i64 ((rd_T69 l0 x7_1).f0.f1)) := (blk_cell BK213.out 1).trans rfl; have hcz12_2 : w11.cell? ⟨gb213, 2, none⟩ = some (.float .f32 ((rd_T69 l0 x7_1).f1)) := (blk_cell BK213.out 2).trans rfl; have hcz12_3 : w11.cell? ⟨gb213, 3, none⟩ = some (.int .i64 ((rd_T69 l0 x7_1).f2)) := (blk_cell BK213.out 3).trans rfl; have hfz12_0 := blk_frozen BK213.out 0; have hfz12_1 := blk_frozen BK213.out 1; have hfz12_2 := blk_frozen BK213.out 2; have hfz12_3 := blk_frozen BK213.out 3) | (go_at_call 45; (with_reducible refine (impl_isSeed.calls ((rd_T69 l0 x7_1).f2) true _ A7.out).mono ?_); rintro e w' ⟨rfl, ⟨nd, rfl⟩⟩))
             go_roundg k1
             case measure => have := HK1.out; omega
             case rel => exact ⟨(wrap64 (x7_1 + 1)), (by first | rfl | (simp; done) | (simp [*]; done)), H', ⟨by have := HK1.out; omega⟩, ⟨by repeat (first | (with_reducible first | exact HB.out | apply below_alloc | apply pw_below_drewN | apply below_drew1 | refine below_set ?_ GE213.out) | exact HB.out)⟩⟩
           · replace c8 := Bool.eq_false_iff.mpr c8
             subst c8
             have H1 : (some false) = some r := by rw [if_neg (show ¬ (false = true) by decide)] at H; exact H
             clear H
             have H := H1
             clear H1
             obtain rfl := Option.some.inj H
             have p212 : 0 ≤ (x7_1 : Int) := of_decide_eq_true (by first | (with_reducible assumption) | assumption)
             have q212 : x7_1 < (l0.length : Int) := of_decide_eq_true (by first | (with_reducible assumption) | assumption)
             obtain ⟨ad212, e212, hx212_0, hx212_1, hx212_2, hx212_3⟩ := at_T69 HR0.out x7_1 p212 q212
             cases e212
             replace hx212_0 := (HB.out.cell (World.block_lt_of_cell? w _ hx212_0)).trans hx212_0
             replace hx212_1 := (HB.out.cell (World.block_lt_of_cell? w _ hx212_1)).trans hx212_1
             replace hx212_2 := (HB.out.cell (World.block_lt_of_cell? w _ hx212_2)).trans hx212_2
             replace hx212_3 := (HB.out.cell (World.block_lt_of_cell? w _ hx212_3)).trans hx212_3
             replace p212 := eq_true p212
             replace q212 := eq_true q212
             go_wp2_with (first | ((with_reducible refine gate_dst (N := 4) rfl ?_); refine box_event ?hg (N := 4) ?hd (cs := #[.int .i64 0, .int .i64 0, .float .f32 (0 : Nat), .int .i64 0]) (t := 69) ?hr ?_; (case hd => rfl); (case hg => rfl); (case hr => first | (go_simp; done) | (go_simp; rfl)); intro gb213 hg w13 hbox hb; have n0_ := Aside0.mk (below_step (by repeat (first | (with_reducible first | exact HB.out | apply below_alloc | apply pw_below_drewN | apply below_drew1) | exact HB.out)) hb); have n1_ := Aside0.mk (hbox); have n2_ := Aside0.mk ((by rw [hg]; exact (below_size (by repeat (first | (with_reducible first | exact HB.out | apply below_alloc | apply pw_below_drewN | apply below_drew1) | exact HB.out))) : w.heap.size ≤ gb213)); have n3_ := Aside0.mk ((by rw [hg]; exact (below_size (by repeat (first | (with_reducible first | exact HB.out | apply below_alloc | apply pw_below_drewN | apply below_drew1) | exact HB.out))) : w.heap.size ≤ gb213)); clear HB; have HB := n0_; have BK213 := n1_; have GW213 := n2_; have GE213 := n3_; clear n0_ n1_ n2_ n3_; clear hb hbox hg; have hcz14_0 : w13.cell? ⟨gb213, 0, none⟩ = some (.int .i64 0) := (blk_cell BK213.out 0).trans rfl; have hcz14_1 : w13.cell? ⟨gb213, 1, none⟩ = some (.int .i64 0) := (blk_cell BK213.out 1).trans rfl; have hcz14_2 : w13.cell? ⟨gb213, 2, none⟩ = some (.float .f32 (0 : Nat)) := (blk_cell BK213.out 2).trans rfl; have hcz14_3 : w13.cell? ⟨gb213, 3, none⟩ = some (.int .i64 0) := (blk_cell BK213.out 3).trans rfl; have hfz14_0 := blk_frozen BK213.out 0; have hfz14_1 := blk_frozen BK213.out 1; have hfz14_2 := blk_frozen BK213.out 2; have hfz14_3 := blk_frozen BK213.out 3) | ((with_reducible refine gate_callee (f := 44) rfl ?_); refine goesL_ (some 13) rfl rfl Try.func44 (by kernel_rfl) rfl #[.agg #[.int .i64 ((rd_T69 l0 x7_1).f0.f0), .int .i64 ((rd_T69 l0 x7_1).f0.f1)]] rfl (by (try simp only [List.map_toArray, List.map_cons, List.map_nil]); first | done | rfl | (simp only [List.length_drop, List.length_take]; rfl)) ?_; (with_reducible refine (impl_ValidDirection.calls ((rd_T69 l0 x7_1).f0.f0) ((rd_T69 l0 x7_1).f0.f1) true _ A5.out).mono ?_); rintro e w15 ⟨rfl, hb⟩; refine ⟨_, rfl, ?_⟩; have n0_ := Aside0.mk (blk_below (g := gb213) (o := .cells #[.int .i64 ((rd_T69 l0 x7_1).f0.f0), .int .i64 ((rd_T69 l0 x7_1).f0.f1), .float .f32 ((rd_T69 l0 x7_1).f1), .int .i64 ((rd_T69 l0 x7_1).f2)] 69 (0, 0)) (by (with_reducible repeat (first | refine blk_drewN ?_ _ | refine blk_drew ?_ | refine blk_alloc ?_ _)); refine blk_put (cs := #[.int .i64 ((rd_T69 l0 x7_1).f0.f0), .int .i64 ((rd_T69 l0 x7_1).f0.f1), .float .f32 ((rd_T69 l0 x7_1).f1), .int .i64 0]) ?_ 3 _ rfl; (with_reducible repeat (first | refine blk_drewN ?_ _ | refine blk_drew ?_ | refine blk_alloc ?_ _)); refine blk_put (cs := #[.int .i64 ((rd_T69 l0 x7_1).f0.f0), .int .i64 ((rd_T69 l0 x7_1).f0.f1), .float .f32 (0 : Nat), .int .i64 0]) ?_ 2 _ rfl; (with_reducible repeat (first | refine blk_drewN ?_ _ | refine blk_drew ?_ | refine blk_alloc ?_ _)); refine blk_put (cs := #[.int .i64 ((rd_T69 l0 x7_1).f0.f0), .int .i64 0, .float .f32 (0 : Nat), .int .i64 0]) ?_ 1 _ rfl; (with_reducible repeat (first | refine blk_drewN ?_ _ | refine blk_drew ?_ | refine blk_alloc ?_ _)); refine blk_put (cs := #[.int .i64 0, .int .i64 0, .float .f32 (0 : Nat), .int .i64 0]) ?_ 0 _ rfl; (with_reducible repeat (first | refine blk_drewN ?_ _ | refine blk_drew ?_ | refine blk_alloc ?_ _)); exact BK213.out) hb); have n1_ := Aside0.mk (below_step (by repeat (first | (with_reducible first | exact HB.out | apply below_alloc | apply pw_below_drewN | apply below_drew1 | refine below_set ?_ GE213.out) | exact HB.out)) hb); clear BK213; clear HB; have BK213 := n0_; have HB := n1_; clear n0_ n1_; (try clear hb); (try clear hb2); (try clear hk); (try clear hi); have hcz16_0 : w15.cell? ⟨gb213, 0, none⟩ = some (.int .i64 ((rd_T69 l0 x7_1).f0.f0)) := (blk_cell BK213.out 0).trans rfl; have hcz16_1 : w15.cell? ⟨gb213, 1, none⟩ = some (.int .i64 ((rd_T69 l0 x7_1).f0.f1)) := (blk_cell BK213.out 1).trans rfl; have hcz16_2 : w15.cell? ⟨gb213, 2, none⟩ = some (.float .f32 ((rd_T69 l0 x7_1).f1)) := (blk_cell BK213.out 2).trans rfl; have hcz16_3 : w15.cell? ⟨gb213, 3, none⟩ = some (.int .i64 ((rd_T69 l0 x7_1).f2)) := (blk_cell BK213.out 3).trans rfl; have hfz16_0 := blk_frozen BK213.out 0; have hfz16_1 := blk_frozen BK213.out 1; have hfz16_2 := blk_frozen BK213.out 2; have hfz16_3 := blk_frozen BK213.out 3) | (go_at_call 45; (with_reducible refine (impl_isSeed.calls ((rd_T69 l0 x7_1).f2) false _ A7.out).mono ?_); rintro e w' ⟨rfl, ⟨nd, rfl⟩⟩))
             go_ret
             exact ⟨by first | rfl | (simp [errW_none, errW_some] <;> rfl) | (simp [*, errW_none, errW_some] <;> rfl), by repeat (first | (with_reducible first | exact HB.out | apply below_alloc | apply pw_below_drewN | apply below_drew1 | refine below_set ?_ GE213.out) | exact HB.out)⟩
         · replace c6 := Bool.eq_false_iff.mpr c6
           subst c6
           have H1 : (some false) = some r := by rw [if_neg (show ¬ (false = true) by decide)] at H; exact H
           clear H
           have H := H1
           clear H1
           obtain rfl := Option.some.inj H
           have p212 : 0 ≤ (x7_1 : Int) := of_decide_eq_true (by first | (with_reducible assumption) | assumption)
           have q212 : x7_1 < (l0.length : Int) := of_decide_eq_true (by first | (with_reducible assumption) | assumption)
           obtain ⟨ad212, e212, hx212_0, hx212_1, hx212_2, hx212_3⟩ := at_T69 HR0.out x7_1 p212 q212
           cases e212
           replace hx212_0 := (HB.out.cell (World.block_lt_of_cell? w _ hx212_0)).trans hx212_0
           replace hx212_1 := (HB.out.cell (World.block_lt_of_cell? w _ hx212_1)).trans hx212_1
           replace hx212_2 := (HB.out.cell (World.block_lt_of_cell? w _ hx212_2)).trans hx212_2
           replace hx212_3 := (HB.out.cell (World.block_lt_of_cell? w _ hx212_3)).trans hx212_3
           replace p212 := eq_true p212
           replace q212 := eq_true q212
           go_wp2_with (first | ((with_reducible refine gate_dst (N := 4) rfl ?_); refine box_event ?hg (N := 4) ?hd (cs := #[.int .i64 0, .int .i64 0, .float .f32 (0 : Nat), .int .i64 0]) (t := 69) ?hr ?_; (case hd => rfl); (case hg => rfl); (case hr => first | (go_simp; done) | (go_simp; rfl)); intro gb213 hg w17 hbox hb; have n0_ := Aside0.mk (below_step (by repeat (first | (with_reducible first | exact HB.out | apply below_alloc | apply pw_below_drewN | apply below_drew1) | exact HB.out)) hb); have n1_ := Aside0.mk (hbox); have n2_ := Aside0.mk ((by rw [hg]; exact (below_size (by repeat (first | (with_reducible first | exact HB.out | apply below_alloc | apply pw_below_drewN | apply below_drew1) | exact HB.out))) : w.heap.size ≤ gb213)); have n3_ := Aside0.mk ((by rw [hg]; exact (below_size (by repeat (first | (with_reducible first | exact HB.out | apply below_alloc | apply pw_below_drewN | apply below_drew1) | exact HB.out))) : w.heap.size ≤ gb213)); clear HB; have HB := n0_; have BK213 := n1_; have GW213 := n2_; have GE213 := n3_; clear n0_ n1_ n2_ n3_; clear hb hbox hg; have hcz18_0 : w17.cell? ⟨gb213, 0, none⟩ = some (.int .i64 0) := (blk_cell BK213.out 0).trans rfl; have hcz18_1 : w17.cell? ⟨gb213, 1, none⟩ = some (.int .i64 0) := (blk_cell BK213.out 1).trans rfl; have hcz18_2 : w17.cell? ⟨gb213, 2, none⟩ = some (.float .f32 (0 : Nat)) := (blk_cell BK213.out 2).trans rfl; have hcz18_3 : w17.cell? ⟨gb213, 3, none⟩ = some (.int .i64 0) := (blk_cell BK213.out 3).trans rfl; have hfz18_0 := blk_frozen BK213.out 0; have hfz18_1 := blk_frozen BK213.out 1; have hfz18_2 := blk_frozen BK213.out 2; have hfz18_3 := blk_frozen BK213.out 3) | ((with_reducible refine gate_callee (f := 44) rfl ?_); refine goesL_ (some 13) rfl rfl Try.func44 (by kernel_rfl) rfl #[.agg #[.int .i64 ((rd_T69 l0 x7_1).f0.f0), .int .i64 ((rd_T69 l0 x7_1).f0.f1)]] rfl (by (try simp only [List.map_toArray, List.map_cons, List.map_nil]); first | done | rfl | (simp only [List.length_drop, List.length_take]; rfl)) ?_; (with_reducible refine (impl_ValidDirection.calls ((rd_T69 l0 x7_1).f0.f0) ((rd_T69 l0 x7_1).f0.f1) false _ A5.out).mono ?_); rintro e w19 ⟨rfl, hb⟩; refine ⟨_, rfl, ?_⟩; have n0_ := Aside0.mk (blk_below (g := gb213) (o := .cells #[.int .i64 ((rd_T69 l0 x7_1).f0.f0), .int .i64 ((rd_T69 l0 x7_1).f0.f1), .float .f32 ((rd_T69 l0 x7_1).f1), .int .i64 ((rd_T69 l0 x7_1).f2)] 69 (0, 0)) (by (with_reducible repeat (first | refine blk_drewN ?_ _ | refine blk_drew ?_ | refine blk_alloc ?_ _)); refine blk_put (cs := #[.int .i64 ((rd_T69 l0 x7_1).f0.f0), .int .i64 ((rd_T69 l0 x7_1).f0.f1), .float .f32 ((rd_T69 l0 x7_1).f1), .int .i64 0]) ?_ 3 _ rfl; (with_reducible repeat (first | refine blk_drewN ?_ _ | refine blk_drew ?_ | refine blk_alloc ?_ _)); refine blk_put (cs := #[.int .i64 ((rd_T69 l0 x7_1).f0.f0), .int .i64 ((rd_T69 l0 x7_1).f0.f1), .float .f32 (0 : Nat), .int .i64 0]) ?_ 2 _ rfl; (with_reducible repeat (first | refine blk_drewN ?_ _ | refine blk_drew ?_ | refine blk_alloc ?_ _)); refine blk_put (cs := #[.int .i64 ((rd_T69 l0 x7_1).f0.f0), .int .i64 0, .float .f32 (0 : Nat), .int .i64 0]) ?_ 1 _ rfl; (with_reducible repeat (first | refine blk_drewN ?_ _ | refine blk_drew ?_ | refine blk_alloc ?_ _)); refine blk_put (cs := #[.int .i64 0, .int .i64 0, .float .f32 (0 : Nat), .int .i64 0]) ?_ 0 _ rfl; (with_reducible repeat (first | refine blk_drewN ?_ _ | refine blk_drew ?_ | refine blk_alloc ?_ _)); exact BK213.out) hb); have n1_ := Aside0.mk (below_step (by repeat (first | (with_reducible first | exact HB.out | apply below_alloc | apply pw_below_drewN | apply below_drew1 | refine below_set ?_ GE213.out) | exact HB.out)) hb); clear BK213; clear HB; have BK213 := n0_; have HB := n1_; clear n0_ n1_; (try clear hb); (try clear hb2); (try clear hk); (try clear hi)))
           go_ret
           exact ⟨by first | rfl | (simp [errW_none, errW_some] <;> rfl) | (simp [*, errW_none, errW_some] <;> rfl), by repeat (first | (with_reducible first | exact HB.out | apply below_alloc | apply pw_below_drewN | apply below_drew1 | refine below_set ?_ GE213.out) | exact HB.out)⟩
       · rw [if_neg c4] at H
         exact absurd H (by simp)
     · rw [if_neg c3] at H
       exact absurd H (by simp)
   · rw [if_neg c2] at H
     have c2b0 : decide (x7_1 < (l0.length : Int)) = false := decide_eq_false c2
     clear c2
     obtain rfl := Option.some.inj H
     go_wp2
     go_ret
     exact ⟨by first | rfl | (simp [errW_none, errW_some] <;> rfl) | (simp [*, errW_none, errW_some] <;> rfl), by repeat (first | (with_reducible first | exact HB.out | apply below_alloc | apply pw_below_drewN | apply below_drew1) | exact HB.out)⟩

/-! ### impl_isCount: function 82 -/
def impl_isCount.f (a0 : Int) : Option (Bool) := (impl_within.f a0 1 16).bind fun t216 => (some t216)
set_option maxHeartbeats 8000000 in
set_option maxRecDepth 100000 in
theorem impl_isCount.calls (a0 : Int) (r : Bool) (w : World) (h : impl_isCount.f a0 = some r) :
 Calls Try.prog 82 #[.int .i64 a0] w fun e w' => e = .returned (.bool r) ∧ Drawn0 w w' := by
 have H : ((impl_within.f a0 1 16).bind fun t216 => (some t216)) = some r := h
 clear h
 replace H := Option.bind_eq_some_iff.mp H
 obtain ⟨t216, A20, H⟩ := H
 replace H : (some t216) = some r := H
 have A2 := Aside0.mk A20
 clear A20
 obtain rfl := Option.some.inj H
 go_enter Try.func82, Try.ntmps82
 go_wp2_with (first | ((with_reducible refine gate_callee (f := 39) rfl ?_); refine goesL_ (some 4) rfl rfl Try.func39 (by kernel_rfl) rfl #[.int .i64 a0, .int .i64 1, .int .i64 16] rfl (by (try simp only [List.map_toArray, List.map_cons, List.map_nil]); first | done | rfl | (simp only [List.length_drop, List.length_take]; rfl)) ?_; (with_reducible refine (impl_within.calls a0 1 16 t216 _ A2.out).mono ?_); rintro e w' ⟨rfl, ⟨nd, rfl⟩⟩; refine ⟨_, rfl, ?_⟩))
 go_ret
 exact ⟨by first | rfl | (simp; done) | (simp [*]; done), by repeat (first | exact Drawn0.refl _ | apply Drawn0.step)⟩

/-! ### impl_isCoordinate: function 83 -/
def impl_isCoordinate.f (a0 : Int) : Option (Bool) := (impl_within.f a0 (-4096) 4096).bind fun t217 => (some t217)
set_option maxHeartbeats 8000000 in
set_option maxRecDepth 100000 in
theorem impl_isCoordinate.calls (a0 : Int) (r : Bool) (w : World) (h : impl_isCoordinate.f a0 = some r) :
 Calls Try.prog 83 #[.int .i64 a0] w fun e w' => e = .returned (.bool r) ∧ Drawn0 w w' := by
 have H : ((impl_within.f a0 (-4096) 4096).bind fun t217 => (some t217)) = some r := h
 clear h
 replace H := Option.bind_eq_some_iff.mp H
 obtain ⟨t217, A20, H⟩ := H
 replace H : (some t217) = some r := H
 have A2 := Aside0.mk A20
 clear A20
 obtain rfl := Option.some.inj H
 go_enter Try.func83, Try.ntmps83
 go_wp2_with (first | ((with_reducible refine gate_callee (f := 39) rfl ?_); refine goesL_ (some 4) rfl rfl Try.func39 (by kernel_rfl) rfl #[.int .i64 a0, .int .i64 (-4096), .int .i64 4096] rfl (by (try simp only [List.map_toArray, List.map_cons, List.map_nil]); first | done | rfl | (simp only [List.length_drop, List.length_take]; rfl)) ?_; (with_reducible refine (impl_within.calls a0 (-4096) 4096 t217 _ A2.out).mono ?_); rintro e w' ⟨rfl, ⟨nd, rfl⟩⟩; refine ⟨_, rfl, ?_⟩))
 go_ret
 exact ⟨by first | rfl | (simp; done) | (simp [*]; done), by repeat (first | exact Drawn0.refl _ | apply Drawn0.step)⟩

/-! ### impl_Place_111: function 111 -/
def impl_Place_111.l0 : Nat → List (S88) → Int → Int → Int → Int → Option (Int)
 | 0, _, _, _, _, _ => none
 | k + 1, x0, x7, x8, x219000, x219001 => if x8 < x7 then (if 0 ≤ x8 then (if x8 < (x0.length : Int) then (if (x219000 == ((rd_T88 x0 x8).f0) && (x219001 == ((rd_T88 x0 x8).f1))) = true then (some x8) else (impl_Place_111.l0 k x0 x7 (wrap64 (x8 + 1)) x219000 x219001)) else (none)) else (none)) else (some (-1))
def impl_Place_111.f (k : Nat) (l0 : List (S88)) (a1_0 : Int) (a1_1 : Int) : Option (Int) := impl_Place_111.l0 k l0 (l0.length : Int) 0 a1_0 a1_1
set_option maxHeartbeats 8000000 in
set_option maxRecDepth 100000 in
theorem impl_Place_111.calls (k : Nat) (A0 : Option Addr) (c0 : Nat) (l0 : List (S88)) (a1_0 : Int) (a1_1 : Int) (r : Int) (w : World) (hr0 : Kd.C k88 w A0 l0.length l0) (hc0 : l0.length ≤ c0) (h : impl_Place_111.f k l0 a1_0 a1_1 = some r) :
 Calls Try.prog 111 #[.slice A0 l0.length c0, .agg #[.int .i64 a1_0, .int .i64 a1_1]] w fun e w' => e = .returned (.int .i64 r) ∧ Below w.heap.size w w' := by
 have hu88 := Try.underlying88
 have HR0 := Aside0.mk hr0
 have HC0 := Aside0.mk hc0
 clear hr0 hc0
 have HB := Aside0.mk (Below.refl w.heap.size w)
 have H : (impl_Place_111.l0 k l0 (l0.length : Int) 0 a1_0 a1_1) = some r := h
 clear h
 have H' := Aside0.mk H
 clear H
 go_enter Try.func111, Try.ntmps111
 go_wp2_with (first | ((with_reducible refine gate_dst (N := 3) rfl ?_); refine box_event ?hg (N := 3) ?hd (cs := #[.int .i64 a1_0, .int .i64 a1_1]) (t := 88) ?hr ?_; (case hd => rfl); (case hg => rfl); (case hr => first | (go_simp; done) | (go_simp; rfl)); intro gb218 hg w3 hbox hb; have n0_ := Aside0.mk (below_step (by repeat (first | (with_reducible first | exact HB.out | apply below_alloc | apply pw_below_drewN | apply below_drew1) | exact HB.out)) hb); have n1_ := Aside0.mk (hbox); have n2_ := Aside0.mk ((by rw [hg]; exact (below_size (by repeat (first | (with_reducible first | exact HB.out | apply below_alloc | apply pw_below_drewN | apply below_drew1) | exact HB.out))) : w.heap.size ≤ gb218)); have n3_ := Aside0.mk ((by rw [hg]; exact (below_size (by repeat (first | (with_reducible first | exact HB.out | apply below_alloc | apply pw_below_drewN | apply below_drew1) | exact HB.out))) : w.heap.size ≤ gb218)); clear HB; have HB := n0_; have BK218 := n1_; have GW218 := n2_; have GE218 := n3_; clear n0_ n1_ n2_ n3_; clear hb hbox hg))
 repeat (go_quiet (first | ((with_reducible refine gate_dst (N := 3) rfl ?_); refine box_event ?hg (N := 3) ?hd (cs := #[.int .i64 a1_0, .int .i64 a1_1]) (t := 88) ?hr ?_; (case hd => rfl); (case hg => rfl); (case hr => first | (go_simp; done) | (go_simp; rfl)); intro gb218 hg w3 hbox hb; have n0_ := Aside0.mk (below_step (by repeat (first | (with_reducible first | exact HB.out | apply below_alloc | apply pw_below_drewN | apply below_drew1) | exact HB.out)) hb); have n1_ := Aside0.mk (hbox); have n2_ := Aside0.mk ((by rw [hg]; exact (below_size (by repeat (first | (with_reducible first | exact HB.out | apply below_alloc | apply pw_below_drewN | apply below_drew1) | exact HB.out))) : w.heap.size ≤ gb218)); have n3_ := Aside0.mk ((by rw [hg]; exact (below_size (by repeat (first | (with_reducible first | exact HB.out | apply below_alloc | apply pw_below_drewN | apply below_drew1) | exact HB.out))) : w.heap.size ≤ gb218)); clear HB; have HB := n0_; have BK218 := n1_; have GW218 := n2_; have GE218 := n3_; clear n0_ n1_ n2_ n3_; clear hb hbox hg)); try go_wp2_with (first | ((with_reducible refine gate_dst (N := 3) rfl ?_); refine box_event ?hg (N := 3) ?hd (cs := #[.int .i64 a1_0, .int .i64 a1_1]) (t := 88) ?hr ?_; (case hd => rfl); (case hg => rfl); (case hr => first | (go_simp; done) | (go_simp; rfl)); intro gb218 hg w3 hbox hb; have n0_ := Aside0.mk (below_step (by repeat (first | (with_reducible first | exact HB.out | apply below_alloc | apply pw_below_drewN | apply below_drew1) | exact HB.out)) hb); have n1_ := Aside0.mk (hbox); have n2_ := Aside0.mk ((by rw [hg]; exact (below_size (by repeat (first | (with_reducible first | exact HB.out | apply below_alloc | apply pw_below_drewN | apply below_drew1) | exact HB.out))) : w.heap.size ≤ gb218)); have n3_ := Aside0.mk ((by rw [hg]; exact (below_size (by repeat (first | (with_reducible first | exact HB.out | apply below_alloc | apply pw_below_drewN | apply below_drew1) | exact HB.out))) : w.heap.size ≤ gb218)); clear HB; have HB := n0_; have BK218 := n1_; have GW218 := n2_; have GE218 := n3_; clear n0_ n1_ n2_ n3_; clear hb hbox hg)))
 go_loopg [8] k (fun kq v8 w' => ∃ (x8_1 : Int), v8 = .int .i64 x8_1 ∧ Aside0 (impl_Place_111.l0 kq l0 (l0.length : Int) x8_1 a1_0 a1_1 = some r) ∧ Aside0 (kq ≤ k) ∧ Aside0 (w'.heap[gb218]? = some (.cells #[.int .i64 a1_0, .int .i64 a1_1] 88 (0, 0))) ∧ Aside0 (Below w.heap.size w w'))
 case atStart => exact ⟨(0), (by first | rfl | (simp; done) | (simp [*]; done)), H', ⟨Nat.le_refl _⟩, ⟨by (with_reducible repeat (first | refine blk_drewN ?_ _ | refine blk_drew ?_ | refine blk_alloc ?_ _)); exact BK218.out⟩, ⟨by repeat (first | (with_reducible first | exact HB.out | apply below_alloc | apply pw_below_drewN | apply below_drew1 | refine below_set ?_ GE218.out) | exact HB.out)⟩⟩
 case round =>
  clear H'
  (try clear c1); (try clear p2)
  obtain ⟨x8_1, rfl, HA, HK1, BK218, HB⟩ := hrel
  cases gk with
  | zero => exact absurd HA.out (by simp [impl_Place_111.l0])
  | succ k1 =>
   have H := HA.out
   clear HA
   simp only [impl_Place_111.l0] at H
   by_cases c4 : x8_1 < (l0.length : Int)
   · rw [if_pos c4] at H
     have c4b0 : decide (x8_1 < (l0.length : Int)) = true := decide_eq_true c4
     clear c4
     by_cases c5 : 0 ≤ x8_1
     · rw [if_pos c5] at H
       have c5b0 : decide (0 ≤ x8_1) = true := decide_eq_true c5
       clear c5
       by_cases c6 : x8_1 < (l0.length : Int)
       · rw [if_pos c6] at H
         have c6b0 : decide (x8_1 < (l0.length : Int)) = true := decide_eq_true c6
         clear c6
         by_cases c7 : (a1_0 == ((rd_T88 l0 x8_1).f0) && (a1_1 == ((rd_T88 l0 x8_1).f1))) = true
         · rw [if_pos c7] at H
           have c7b0 : (a1_0 == ((rd_T88 l0 x8_1).f0) && (a1_1 == ((rd_T88 l0 x8_1).f1))) = true := c7
           (try (have c7b1 : decide (a1_0 = ((rd_T88 l0 x8_1).f0) && (a1_1 == ((rd_T88 l0 x8_1).f1))) = true := by simpa using c7))
           (try (have c7b2 : (a1_0 == ((rd_T88 l0 x8_1).f0) && (a1_1 == ((rd_T88 l0 x8_1).f1))) = true := by simpa using c7))
           clear c7
           obtain rfl := Option.some.inj H
           have hcz8_0 : wr.cell? ⟨gb218, 0, none⟩ = some (.int .i64 a1_0) := (blk_cell BK218.out 0).trans rfl
           have hcz8_1 : wr.cell? ⟨gb218, 1, none⟩ = some (.int .i64 a1_1) := (blk_cell BK218.out 1).trans rfl
           have hfz8_0 := blk_frozen BK218.out 0
           have hfz8_1 := blk_frozen BK218.out 1
           have p219 : 0 ≤ (x8_1 : Int) := of_decide_eq_true (by first | (with_reducible assumption) | assumption)
           have q219 : x8_1 < (l0.length : Int) := of_decide_eq_true (by first | (with_reducible assumption) | assumption)
           obtain ⟨ad219, e219, hx219_0, hx219_1⟩ := at_T88 HR0.out x8_1 p219 q219
           cases e219
           replace hx219_0 := (HB.out.cell (World.block_lt_of_cell? w _ hx219_0)).trans hx219_0
           replace hx219_1 := (HB.out.cell (World.block_lt_of_cell? w _ hx219_1)).trans hx219_1
           replace p219 := eq_true p219
           replace q219 := eq_true q219
           go_wp2
           repeat (go_quiet (fail); try go_wp2)
           go_ret
           exact ⟨by first | rfl | (simp [errW_none, errW_some] <;> rfl) | (simp [*, errW_none, errW_some] <;> rfl), by repeat (first | (with_reducible first | exact HB.out | apply below_alloc | apply pw_below_drewN | apply below_drew1 | refine below_set ?_ GE218.out) | exact HB.out)⟩
         · rw [if_neg c7] at H
           have c7b0 : (a1_0 == ((rd_T88 l0 x8_1).f0) && (a1_1 == ((rd_T88 l0 x8_1).f1))) = false := by simpa using c7
           (try (have c7b1 : decide (a1_0 = ((rd_T88 l0 x8_1).f0) && (a1_1 == ((rd_T88 l0 x8_1).f1))) = false := by simpa using c7))
           (try (have c7b2 : (a1_0 == ((rd_T88 l0 x8_1).f0) && (a1_1 == ((rd_T88 l0 x8_1).f1))) = false := by simpa using c7))
           (try (have c7b3 : ¬ (a1_0 = ((rd_T88 l0 x8_1).f0) && (a1_1 == ((rd_T88 l0 x8_1).f1))) := by simpa using c7))
           clear c7
           have H' := Aside0.mk H
           clear H
           have hcz9_0 : wr.cell? ⟨gb218, 0, none⟩ = some (.int .i64 a1_0) := (blk_cell BK218.out 0).trans rfl
           have hcz9_1 : wr.cell? ⟨gb218, 1, none⟩ = some (.int .i64 a1_1) := (blk_cell BK218.out 1).trans rfl
           have hfz9_0 := blk_frozen BK218.out 0
           have hfz9_1 := blk_frozen BK218.out 1
           have p219 : 0 ≤ (x8_1 : Int) := of_decide_eq_true (by first | (with_reducible assumption) | assumption)
           have q219 : x8_1 < (l0.length : Int) := of_decide_eq_true (by first | (with_reducible assumption) | assumption)
           obtain ⟨ad219, e219, hx219_0, hx219_1⟩ := at_T88 HR0.out x8_1 p219 q219
           cases e219
           replace hx219_0 := (HB.out.cell (World.block_lt_of_cell? w _ hx219_0)).trans hx219_0
           replace hx219_1 := (HB.out.cell (World.block_lt_of_cell? w _ hx219_1)).trans hx219_1
           replace p219 := eq_true p219
           replace q219 := eq_true q219
           go_wp2
           repeat (go_quiet (fail); try go_wp2)
           go_roundg k1
           case measure => have := HK1.out; omega
           case rel => exact ⟨(wrap64 (x8_1 + 1)), (by first | rfl | (simp; done) | (simp [*]; done)), H', ⟨by have := HK1.out; omega⟩, ⟨by (with_reducible repeat (first | refine blk_drewN ?_ _ | refine blk_drew ?_ | refine blk_alloc ?_ _)); exact BK218.out⟩, ⟨by repeat (first | (with_reducible first | exact HB.out | apply below_alloc | apply pw_below_drewN | apply below_drew1 | refine below_set ?_ GE218.out) | exact HB.out)⟩⟩
       · rw [if_neg c6] at H
         exact absurd H (by simp)
     · rw [if_neg c5] at H
       exact absurd H (by simp)
   · rw [if_neg c4] at H
     have c4b0 : decide (x8_1 < (l0.length : Int)) = false := decide_eq_false c4
     clear c4
     obtain rfl := Option.some.inj H
     go_wp2
     repeat (go_quiet (fail); try go_wp2)
     go_ret
     exact ⟨by first | rfl | (simp [errW_none, errW_some] <;> rfl) | (simp [*, errW_none, errW_some] <;> rfl), by repeat (first | (with_reducible first | exact HB.out | apply below_alloc | apply pw_below_drewN | apply below_drew1 | refine below_set ?_ GE218.out) | exact HB.out)⟩

/-! ### impl_Place_84: function 84 -/
def impl_Place_84.f (k : Nat) (l0 : List (S88)) (a1_0 : Int) (a1_1 : Int) : Option (Bool) := (impl_Place_111.f k l0 a1_0 a1_1).bind fun t221 => (some (decide (t221 ≥ 0)))
set_option maxHeartbeats 8000000 in
set_option maxRecDepth 100000 in
theorem impl_Place_84.calls (k : Nat) (A0 : Option Addr) (c0 : Nat) (l0 : List (S88)) (a1_0 : Int) (a1_1 : Int) (r : Bool) (w : World) (hr0 : Kd.C k88 w A0 l0.length l0) (hc0 : l0.length ≤ c0) (h : impl_Place_84.f k l0 a1_0 a1_1 = some r) :
 Calls Try.prog 84 #[.slice A0 l0.length c0, .agg #[.int .i64 a1_0, .int .i64 a1_1]] w fun e w' => e = .returned (.bool r) ∧ Below w.heap.size w w' := by
 have hu88 := Try.underlying88
 have HR0 := Aside0.mk hr0
 have HC0 := Aside0.mk hc0
 clear hr0 hc0
 have HB := Aside0.mk (Below.refl w.heap.size w)
 have H : ((impl_Place_111.f k l0 a1_0 a1_1).bind fun t221 => (some (decide (t221 ≥ 0)))) = some r := h
 clear h
 replace H := Option.bind_eq_some_iff.mp H
 obtain ⟨t221, A30, H⟩ := H
 replace H : (some (decide (t221 ≥ 0))) = some r := H
 have A3 := Aside0.mk A30
 clear A30
 obtain rfl := Option.some.inj H
 go_enter Try.func84, Try.ntmps84
 go_wp2_with (first | ((with_reducible refine gate_dst (N := 3) rfl ?_); refine box_event ?hg (N := 3) ?hd (cs := #[.int .i64 a1_0, .int .i64 a1_1]) (t := 88) ?hr ?_; (case hd => rfl); (case hg => rfl); (case hr => first | (go_simp; done) | (go_simp; rfl)); intro gb220 hg w4 hbox hb; have n0_ := Aside0.mk (below_step (by repeat (first | (with_reducible first | exact HB.out | apply below_alloc | apply pw_below_drewN | apply below_drew1) | exact HB.out)) hb); have n1_ := Aside0.mk (hbox); have n2_ := Aside0.mk ((by rw [hg]; exact (below_size (by repeat (first | (with_reducible first | exact HB.out | apply below_alloc | apply pw_below_drewN | apply below_drew1) | exact HB.out))) : w.heap.size ≤ gb220)); have n3_ := Aside0.mk ((by rw [hg]; exact (below_size (by repeat (first | (with_reducible first | exact HB.out | apply below_alloc | apply pw_below_drewN | apply below_drew1) | exact HB.out))) : w.heap.size ≤ gb220)); clear HB; have HB := n0_; have BK220 := n1_; have GW220 := n2_; have GE220 := n3_; clear n0_ n1_ n2_ n3_; clear hb hbox hg; have hcz5_0 : w4.cell? ⟨gb220, 0, none⟩ = some (.int .i64 a1_0) := (blk_cell BK220.out 0).trans rfl; have hcz5_1 : w4.cell? ⟨gb220, 1, none⟩ = some (.int .i64 a1_1) := (blk_cell BK220.out 1).trans rfl; have hfz5_0 := blk_frozen BK220.out 0; have hfz5_1 := blk_frozen BK220.out 1) | ((with_reducible refine gate_callee (f := 111) rfl ?_); refine goesL_ (some 7) rfl rfl Try.func111 (by kernel_rfl) rfl #[.slice A0 l0.length c0, .agg #[.int .i64 a1_0, .int .i64 a1_1]] rfl (by (try simp only [List.map_toArray, List.map_cons, List.map_nil]); first | done | rfl | (simp only [List.length_drop, List.length_take]; rfl)) ?_; (with_reducible refine (impl_Place_111.calls k _ _ l0 a1_0 a1_1 t221 _ ?side1 ?side2 A3.out).mono ?_); (case side1 => repeat (first | exact (Kd.C_below HR0.out HB.out) | (with_reducible refine Kd.C_alloc ?_ _) | (with_reducible refine Kd.C_drewN ?_ _) | (with_reducible refine Kd.C_drew ?_))); (case side2 => exact HC0.out); rintro e w6 ⟨rfl, hb⟩; refine ⟨_, rfl, ?_⟩; have n0_ := Aside0.mk (blk_below (g := gb220) (o := .cells #[.int .i64 a1_0, .int .i64 a1_1] 88 (0, 0)) (by (with_reducible repeat (first | refine blk_drewN ?_ _ | refine blk_drew ?_ | refine blk_alloc ?_ _)); exact BK220.out) hb); have n1_ := Aside0.mk (below_step (by repeat (first | (with_reducible first | exact HB.out | apply below_alloc | apply pw_below_drewN | apply below_drew1 | refine below_set ?_ GE220.out) | exact HB.out)) hb); clear BK220; clear HB; have BK220 := n0_; have HB := n1_; clear n0_ n1_; (try clear hb); (try clear hb2); (try clear hk); (try clear hi)))
 go_ret
 exact ⟨by first | rfl | (simp [errW_none, errW_some] <;> rfl) | (simp [*, errW_none, errW_some] <;> rfl), by repeat (first | (with_reducible first | exact HB.out | apply below_alloc | apply pw_below_drewN | apply below_drew1 | refine below_set ?_ GE220.out) | exact HB.out)⟩

end Go.Proofs.Ytncckihaacceaaa.S
