/-
  Contracts of the program's functions, each a plain Lean function beside the machine's call: written by this session's program over the kit's print.
-/
import Derived.Test.YtnfcbacdggkfeaaNx0
import Derived.Test.YtnfcbacdggkfeaaNx1
import Derived.Test.YtnfcbacdggkfeaaNx2
namespace Go.Proofs.Ytnfcbacdggkfeaa.N
open Go.RowKit Go.Proofs.YtnfcbacdggkfeaaW.PrintWords Go.Proofs.YtnfcbacdggkfeaaW.PrintLast Go.Proofs.YtnfcbacdggkfeaaW.PrintMore
attribute [local go_sem] max2_int min2_int max_two min_two max_three min_three max_four min_four   -- for this text's walks alone
set_option linter.unusedVariables false
set_option linter.unusedSimpArgs false

/-! ### laws_FnNormed: function 4 -/
mutual
def laws_FnNormed.j0 : Nat → List Int → List C64 → List C64 → Bool → Bool → Option (Bool)
 | 0, _, _, _, _, _ => none
 | k + 1, x1, x5, x6, x7, x44 => if x44 = true then (none) else (if x7 = true then ((impl_PowersOf.f k x6).bind fun bt179 => (if bt179.2 = true then (if FC 34 37 .f32 .f64 bt179.1 = true then ((laws_r8Gap.f (fc .f32 .f64 bt179.1) 4607182418800017408).bind fun t181 => (if (FloatKind.f64.format.order t181 4562254508917369340 == some .gt) = true then (none) else (laws_FnNormed.j1 k x1 x5))) else (none)) else (none))) else (laws_FnNormed.j1 k x1 x5))
def laws_FnNormed.j1 : Nat → List Int → List C64 → Option (Bool)
 | 0, _, _ => none
 | k + 1, x1, x5 => laws_FnNormed.l0 k x1 x5 (([] : List Int)) 0
def laws_FnNormed.l0 : Nat → List Int → List C64 → List Int → Int → Option (Bool)
 | 0, _, _, _, _ => none
 | k + 1, x1, x5, x12, x13 => if x13 < (x5.length : Int) then ((laws_r8At.f x1 x13 3).bind fun t185 => (if t185 = 0 then (if x12.length < 17592186044416 then (laws_FnNormed.l0 k x1 x5 (x12 ++ [x13]) (wrap64 (x13 + 1))) else (none)) else (laws_FnNormed.l0 k x1 x5 x12 (wrap64 (x13 + 1))))) else ((impl_WithoutElements.f k x5 x12).bind fun bt189 => (if bt189.2 = true then (laws_FnNormed.j3 k x5 x12 bt189.1 ((bt189.1.length : Int) != (x5.length : Int))) else (none)))
def laws_FnNormed.j3 : Nat → List C64 → List Int → List C64 → Bool → Option (Bool)
 | 0, _, _, _, _ => none
 | k + 1, x5, x12, x14, x88 => if x88 = true then (none) else (laws_FnNormed.l1 k x5 x12 x14 0 0)
def laws_FnNormed.l1 : Nat → List C64 → List Int → List C64 → Int → Int → Option (Bool)
 | 0, _, _, _, _, _ => none
 | k + 1, x5, x12, x14, x16, x17 => if x17 < (x14.length : Int) then (if 0 ≤ x17 then (if x17 < (x5.length : Int) then (if x16 < (x12.length : Int) then (if 0 ≤ x16 then (laws_FnNormed.j5 k x5 x12 x14 x16 x17 (rdOf c64z x5 x17) ((rd x12 x16) == x17)) else (none)) else (laws_FnNormed.j5 k x5 x12 x14 x16 x17 (rdOf c64z x5 x17) false)) else (none)) else (none)) else (some true)
def laws_FnNormed.j5 : Nat → List C64 → List Int → List C64 → Int → Int → C64 → Bool → Option (Bool)
 | 0, _, _, _, _, _, _, _ => none
 | k + 1, x5, x12, x14, x16, x17, x18, x110 => if x110 = true then (if 0 ≤ x17 then (if x17 < (x14.length : Int) then ((impl_SameComplex.f k (rdOf c64z x14 x17) (⟨0, 0⟩ : C64)).bind fun t196 => (if t196 = true then (laws_FnNormed.l1 k x5 x12 x14 (wrap64 (x16 + 1)) (wrap64 (x17 + 1))) else (none))) else (none)) else (none)) else (if 0 ≤ x17 then (if x17 < (x14.length : Int) then ((impl_SameComplex.f k (rdOf c64z x14 x17) x18).bind fun t198 => (if t198 = true then (laws_FnNormed.l1 k x5 x12 x14 x16 (wrap64 (x17 + 1))) else (none))) else (none)) else (none))
end
def laws_FnNormed.f (k : Nat) (l0 : List Int) (l1 : List Int) : Option (Bool) := (laws_r8Long.f l0 l1).bind fun t168 => (if t168 = true then (some true) else ((laws_r8At.f l1 40 8).bind fun t169 => ((spec_R8Fine.f k l0 (wrap64 (1 + t169))).bind fun t170 => ((impl_NormWeights.f k t170).bind fun bt173 => ((impl_PowersOf.f k t170).bind fun bt177 => (if bt177.2 = true then (laws_FnNormed.j0 k l1 t170 bt173.1 bt173.2 (bt173.2 != (FloatKind.f32.format.order bt177.1 0 == some .gt))) else (none)))))))
theorem laws_FnNormed.mono_l : ∀ k, (∀ y0 y1 y2 y3 y4, LeO (laws_FnNormed.j0 k y0 y1 y2 y3 y4) (laws_FnNormed.j0 (k + 1) y0 y1 y2 y3 y4)) ∧ (∀ y0 y1, LeO (laws_FnNormed.j1 k y0 y1) (laws_FnNormed.j1 (k + 1) y0 y1)) ∧ (∀ y0 y1 y2 y3, LeO (laws_FnNormed.l0 k y0 y1 y2 y3) (laws_FnNormed.l0 (k + 1) y0 y1 y2 y3)) ∧ (∀ y0 y1 y2 y3, LeO (laws_FnNormed.j3 k y0 y1 y2 y3) (laws_FnNormed.j3 (k + 1) y0 y1 y2 y3)) ∧ (∀ y0 y1 y2 y3 y4, LeO (laws_FnNormed.l1 k y0 y1 y2 y3 y4) (laws_FnNormed.l1 (k + 1) y0 y1 y2 y3 y4)) ∧ (∀ y0 y1 y2 y3 y4 y5 y6, LeO (laws_FnNormed.j5 k y0 y1 y2 y3 y4 y5 y6) (laws_FnNormed.j5 (k + 1) y0 y1 y2 y3 y4 y5 y6))
 | 0 => ⟨fun _ _ _ _ _ r h => by simp [laws_FnNormed.j0] at h, fun _ _ r h => by simp [laws_FnNormed.j1] at h, fun _ _ _ _ r h => by simp [laws_FnNormed.l0] at h, fun _ _ _ _ r h => by simp [laws_FnNormed.j3] at h, fun _ _ _ _ _ r h => by simp [laws_FnNormed.l1] at h, fun _ _ _ _ _ _ _ r h => by simp [laws_FnNormed.j5] at h⟩
 | k + 1 => by
  obtain ⟨ih0, ih1, ih2, ih3, ih4, ih5⟩ := laws_FnNormed.mono_l k
  refine ⟨?_, ?_, ?_, ?_, ?_, ?_⟩
  · intro y0 y1 y2 y3 y4
    unfold laws_FnNormed.j0
    repeat' first
    | (with_reducible exact ih0 _ _ _ _ _)
    | (with_reducible exact ih1 _ _)
    | (with_reducible exact ih2 _ _ _ _)
    | (with_reducible exact ih3 _ _ _ _)
    | (with_reducible exact ih4 _ _ _ _ _)
    | (with_reducible exact ih5 _ _ _ _ _ _ _)
    | (with_reducible exact impl_NormWeights.mono _ _)
    | (with_reducible exact impl_PowersOf.mono _ _)
    | (with_reducible exact impl_SameComplex.mono _ _ _)
    | (with_reducible exact impl_WithoutElements.mono _ _ _)
    | (with_reducible exact spec_R8Fine.mono _ _ _)
    | (with_reducible exact LeO.refl _)
    | (with_reducible exact LeO.none _)
    | (with_reducible refine LeO.ite ?_ ?_)
    | (with_reducible refine LeO.bind ?_ (fun _ => ?_))
    | exact ih0 _ _ _ _ _
    | exact ih1 _ _
    | exact ih2 _ _ _ _
    | exact ih3 _ _ _ _
    | exact ih4 _ _ _ _ _
    | exact ih5 _ _ _ _ _ _ _
    | exact impl_NormWeights.mono _ _
    | exact impl_PowersOf.mono _ _
    | exact impl_SameComplex.mono _ _ _
    | exact impl_WithoutElements.mono _ _ _
    | exact spec_R8Fine.mono _ _ _
    | exact LeO.none _
    | refine LeO.ite ?_ ?_
    | refine LeO.bind ?_ (fun _ => ?_)
  · intro y0 y1
    unfold laws_FnNormed.j1
    repeat' first
    | (with_reducible exact ih0 _ _ _ _ _)
    | (with_reducible exact ih1 _ _)
    | (with_reducible exact ih2 _ _ _ _)
    | (with_reducible exact ih3 _ _ _ _)
    | (with_reducible exact ih4 _ _ _ _ _)
    | (with_reducible exact ih5 _ _ _ _ _ _ _)
    | (with_reducible exact impl_NormWeights.mono _ _)
    | (with_reducible exact impl_PowersOf.mono _ _)
    | (with_reducible exact impl_SameComplex.mono _ _ _)
    | (with_reducible exact impl_WithoutElements.mono _ _ _)
    | (with_reducible exact spec_R8Fine.mono _ _ _)
    | (with_reducible exact LeO.refl _)
    | (with_reducible exact LeO.none _)
    | (with_reducible refine LeO.ite ?_ ?_)
    | (with_reducible refine LeO.bind ?_ (fun _ => ?_))
    | exact ih0 _ _ _ _ _
    | exact ih1 _ _
    | exact ih2 _ _ _ _
    | exact ih3 _ _ _ _
    | exact ih4 _ _ _ _ _
    | exact ih5 _ _ _ _ _ _ _
    | exact impl_NormWeights.mono _ _
    | exact impl_PowersOf.mono _ _
    | exact impl_SameComplex.mono _ _ _
    | exact impl_WithoutElements.mono _ _ _
    | exact spec_R8Fine.mono _ _ _
    | exact LeO.none _
    | refine LeO.ite ?_ ?_
    | refine LeO.bind ?_ (fun _ => ?_)
  · intro y0 y1 y2 y3
    unfold laws_FnNormed.l0
    repeat' first
    | (with_reducible exact ih0 _ _ _ _ _)
    | (with_reducible exact ih1 _ _)
    | (with_reducible exact ih2 _ _ _ _)
    | (with_reducible exact ih3 _ _ _ _)
    | (with_reducible exact ih4 _ _ _ _ _)
    | (with_reducible exact ih5 _ _ _ _ _ _ _)
    | (with_reducible exact impl_NormWeights.mono _ _)
    | (with_reducible exact impl_PowersOf.mono _ _)
    | (with_reducible exact impl_SameComplex.mono _ _ _)
    | (with_reducible exact impl_WithoutElements.mono _ _ _)
    | (with_reducible exact spec_R8Fine.mono _ _ _)
    | (with_reducible exact LeO.refl _)
    | (with_reducible exact LeO.none _)
    | (with_reducible refine LeO.ite ?_ ?_)
    | (with_reducible refine LeO.bind ?_ (fun _ => ?_))
    | exact ih0 _ _ _ _ _
    | exact ih1 _ _
    | exact ih2 _ _ _ _
    | exact ih3 _ _ _ _
    | exact ih4 _ _ _ _ _
    | exact ih5 _ _ _ _ _ _ _
    | exact impl_NormWeights.mono _ _
    | exact impl_PowersOf.mono _ _
    | exact impl_SameComplex.mono _ _ _
    | exact impl_WithoutElements.mono _ _ _
    | exact spec_R8Fine.mono _ _ _
    | exact LeO.none _
    | refine LeO.ite ?_ ?_
    | refine LeO.bind ?_ (fun _ => ?_)
  · intro y0 y1 y2 y3
    unfold laws_FnNormed.j3
    repeat' first
    | (with_reducible exact ih0 _ _ _ _ _)
    | (with_reducible exact ih1 _ _)
    | (with_reducible exact ih2 _ _ _ _)
    | (with_reducible exact ih3 _ _ _ _)
    | (with_reducible exact ih4 _ _ _ _ _)
    | (with_reducible exact ih5 _ _ _ _ _ _ _)
    | (with_reducible exact impl_NormWeights.mono _ _)
    | (with_reducible exact impl_PowersOf.mono _ _)
    | (with_reducible exact impl_SameComplex.mono _ _ _)
    | (with_reducible exact impl_WithoutElements.mono _ _ _)
    | (with_reducible exact spec_R8Fine.mono _ _ _)
    | (with_reducible exact LeO.refl _)
    | (with_reducible exact LeO.none _)
    | (with_reducible refine LeO.ite ?_ ?_)
    | (with_reducible refine LeO.bind ?_ (fun _ => ?_))
    | exact ih0 _ _ _ _ _
    | exact ih1 _ _
    | exact ih2 _ _ _ _
    | exact ih3 _ _ _ _
    | exact ih4 _ _ _ _ _
    | exact ih5 _ _ _ _ _ _ _
    | exact impl_NormWeights.mono _ _
    | exact impl_PowersOf.mono _ _
    | exact impl_SameComplex.mono _ _ _
    | exact impl_WithoutElements.mono _ _ _
    | exact spec_R8Fine.mono _ _ _
    | exact LeO.none _
    | refine LeO.ite ?_ ?_
    | refine LeO.bind ?_ (fun _ => ?_)
  · intro y0 y1 y2 y3 y4
    unfold laws_FnNormed.l1
    repeat' first
    | (with_reducible exact ih0 _ _ _ _ _)
    | (with_reducible exact ih1 _ _)
    | (with_reducible exact ih2 _ _ _ _)
    | (with_reducible exact ih3 _ _ _ _)
    | (with_reducible exact ih4 _ _ _ _ _)
    | (with_reducible exact ih5 _ _ _ _ _ _ _)
    | (with_reducible exact impl_NormWeights.mono _ _)
    | (with_reducible exact impl_PowersOf.mono _ _)
    | (with_reducible exact impl_SameComplex.mono _ _ _)
    | (with_reducible exact impl_WithoutElements.mono _ _ _)
    | (with_reducible exact spec_R8Fine.mono _ _ _)
    | (with_reducible exact LeO.refl _)
    | (with_reducible exact LeO.none _)
    | (with_reducible refine LeO.ite ?_ ?_)
    | (with_reducible refine LeO.bind ?_ (fun _ => ?_))
    | exact ih0 _ _ _ _ _
    | exact ih1 _ _
    | exact ih2 _ _ _ _
    | exact ih3 _ _ _ _
    | exact ih4 _ _ _ _ _
    | exact ih5 _ _ _ _ _ _ _
    | exact impl_NormWeights.mono _ _
    | exact impl_PowersOf.mono _ _
    | exact impl_SameComplex.mono _ _ _
    | exact impl_WithoutElements.mono _ _ _
    | exact spec_R8Fine.mono _ _ _
    | exact LeO.none _
    | refine LeO.ite ?_ ?_
    | refine LeO.bind ?_ (fun _ => ?_)
  · intro y0 y1 y2 y3 y4 y5 y6
    unfold laws_FnNormed.j5
    repeat' first
    | (with_reducible exact ih0 _ _ _ _ _)
    | (with_reducible exact ih1 _ _)
    | (with_reducible exact ih2 _ _ _ _)
    | (with_reducible exact ih3 _ _ _ _)
    | (with_reducible exact ih4 _ _ _ _ _)
    | (with_reducible exact ih5 _ _ _ _ _ _ _)
    | (with_reducible exact impl_NormWeights.mono _ _)
    | (with_reducible exact impl_PowersOf.mono _ _)
    | (with_reducible exact impl_SameComplex.mono _ _ _)
    | (with_reducible exact impl_WithoutElements.mono _ _ _)
    | (with_reducible exact spec_R8Fine.mono _ _ _)
    | (with_reducible exact LeO.refl _)
    | (with_reducible exact LeO.none _)
    | (with_reducible refine LeO.ite ?_ ?_)
    | (with_reducible refine LeO.bind ?_ (fun _ => ?_))
    | exact ih0 _ _ _ _ _
    | exact ih1 _ _
    | exact ih2 _ _ _ _
    | exact ih3 _ _ _ _
    | exact ih4 _ _ _ _ _
    | exact ih5 _ _ _ _ _ _ _
    | exact impl_NormWeights.mono _ _
    | exact impl_PowersOf.mono _ _
    | exact impl_SameComplex.mono _ _ _
    | exact impl_WithoutElements.mono _ _ _
    | exact spec_R8Fine.mono _ _ _
    | exact LeO.none _
    | refine LeO.ite ?_ ?_
    | refine LeO.bind ?_ (fun _ => ?_)
theorem laws_FnNormed.mono : ∀ a0 a1 k, LeO (laws_FnNormed.f k a0 a1) (laws_FnNormed.f (k + 1) a0 a1) := by
 intro a0 a1 k
 obtain ⟨ih0, ih1, ih2, ih3, ih4, ih5⟩ := laws_FnNormed.mono_l k
 unfold laws_FnNormed.f
 repeat' first
  | (with_reducible exact ih0 _ _ _ _ _)
  | (with_reducible exact ih1 _ _)
  | (with_reducible exact ih2 _ _ _ _)
  | (with_reducible exact ih3 _ _ _ _)
  | (with_reducible exact ih4 _ _ _ _ _)
  | (with_reducible exact ih5 _ _ _ _ _ _ _)
  | (with_reducible exact impl_NormWeights.mono _ _)
  | (with_reducible exact impl_PowersOf.mono _ _)
  | (with_reducible exact impl_SameComplex.mono _ _ _)
  | (with_reducible exact impl_WithoutElements.mono _ _ _)
  | (with_reducible exact spec_R8Fine.mono _ _ _)
  | (with_reducible exact LeO.refl _)
  | (with_reducible exact LeO.none _)
  | (with_reducible refine LeO.ite ?_ ?_)
  | (with_reducible refine LeO.bind ?_ (fun _ => ?_))
  | exact ih0 _ _ _ _ _
  | exact ih1 _ _
  | exact ih2 _ _ _ _
  | exact ih3 _ _ _ _
  | exact ih4 _ _ _ _ _
  | exact ih5 _ _ _ _ _ _ _
  | exact impl_NormWeights.mono _ _
  | exact impl_PowersOf.mono _ _
  | exact impl_SameComplex.mono _ _ _
  | exact impl_WithoutElements.mono _ _ _
  | exact spec_R8Fine.mono _ _ _
  | exact LeO.none _
  | refine LeO.ite ?_ ?_
  | refine LeO.bind ?_ (fun _ => ?_)
set_option maxHeartbeats 8000000 in
set_option maxRecDepth 100000 in
theorem laws_FnNormed.calls (k : Nat) (A0 : Option Addr) (c0 : Nat) (l0 : List Int) (A1 : Option Addr) (c1 : Nat) (l1 : List Int) (r : Bool) (w : World) (hr0 : Kd.C (Kd.int .u8) w A0 l0.length l0) (hc0 : l0.length ≤ c0) (hr1 : Kd.C (Kd.int .u8) w A1 l1.length l1) (hc1 : l1.length ≤ c1) (h : laws_FnNormed.f k l0 l1 = some r) :
 Calls Try.prog 4 #[.slice A0 l0.length c0, .slice A1 l1.length c1] w fun e w' => e = .returned (.bool r) ∧ Below w.heap.size w w' := by
 have hu34 := Try.underlying34
 have hu37 := Try.underlying37
 have HR0 := Aside0.mk hr0
 have HC0 := Aside0.mk hc0
 clear hr0 hc0
 have HR1 := Aside0.mk hr1
 have HC1 := Aside0.mk hc1
 clear hr1 hc1
 have HB := Aside0.mk (Below.refl w.heap.size w)
 have H : ((laws_r8Long.f l0 l1).bind fun t168 => (if t168 = true then (some true) else ((laws_r8At.f l1 40 8).bind fun t169 => ((spec_R8Fine.f k l0 (wrap64 (1 + t169))).bind fun t170 => ((impl_NormWeights.f k t170).bind fun bt173 => ((impl_PowersOf.f k t170).bind fun bt177 => (if bt177.2 = true then (laws_FnNormed.j0 k l1 t170 bt173.1 bt173.2 (bt173.2 != (FloatKind.f32.format.order bt177.1 0 == some .gt))) else (none)))))))) = some r := h
 clear h
 replace H := Option.bind_eq_some_iff.mp H
 obtain ⟨t168, A30, H⟩ := H
 replace H : (if t168 = true then (some true) else ((laws_r8At.f l1 40 8).bind fun t169 => ((spec_R8Fine.f k l0 (wrap64 (1 + t169))).bind fun t170 => ((impl_NormWeights.f k t170).bind fun bt173 => ((impl_PowersOf.f k t170).bind fun bt177 => (if bt177.2 = true then (laws_FnNormed.j0 k l1 t170 bt173.1 bt173.2 (bt173.2 != (FloatKind.f32.format.order bt177.1 0 == some .gt))) else (none))))))) = some r := H
 have A3 := Aside0.mk A30
 clear A30
 by_cases c4 : t168 = true
 · subst c4
   have H1 : (some true) = some r := by rw [if_pos rfl] at H; exact H
   clear H
   have H := H1
   clear H1
   as_aux_lemma =>
    obtain rfl := Option.some.inj H
    go_enter Try.func4, Try.ntmps4
    go_wp2_with (first | ((with_reducible refine gate_callee (f := 6) rfl ?_); refine goesL_ (some 21) rfl rfl Try.func6 (by kernel_rfl) rfl #[.slice A0 l0.length c0, .slice A1 l1.length c1] rfl (by (try simp only [List.map_toArray, List.map_cons, List.map_nil]); first | done | rfl | (simp only [List.length_drop, List.length_take]; rfl)) ?_; (with_reducible refine (laws_r8Long.calls _ _ l0 _ _ l1 true _ ?side1 ?side2 ?side3 ?side4 A3.out).mono ?_); (case side1 => repeat (first | exact HR0.out | (with_reducible refine Kd.C_alloc ?_ _) | (with_reducible refine Kd.C_drewN ?_ _) | (with_reducible refine Kd.C_drew ?_))); (case side2 => exact HC0.out); (case side3 => repeat (first | exact HR1.out | (with_reducible refine Kd.C_alloc ?_ _) | (with_reducible refine Kd.C_drewN ?_ _) | (with_reducible refine Kd.C_drew ?_))); (case side4 => exact HC1.out); rintro e w' ⟨rfl, ⟨nd, rfl⟩⟩; refine ⟨_, rfl, ?_⟩))
    go_ret
    exact ⟨by first | rfl | (simp [errW_none, errW_some] <;> rfl) | (simp [*, errW_none, errW_some] <;> rfl), by repeat (first | (with_reducible first | exact HB.out | apply below_alloc | apply pw_below_drewN | apply below_drew1) | exact HB.out)⟩
 · replace c4 := Bool.eq_false_iff.mpr c4
   subst c4
   have H1 : ((laws_r8At.f l1 40 8).bind fun t169 => ((spec_R8Fine.f k l0 (wrap64 (1 + t169))).bind fun t170 => ((impl_NormWeights.f k t170).bind fun bt173 => ((impl_PowersOf.f k t170).bind fun bt177 => (if bt177.2 = true then (laws_FnNormed.j0 k l1 t170 bt173.1 bt173.2 (bt173.2 != (FloatKind.f32.format.order bt177.1 0 == some .gt))) else (none)))))) = some r := by rw [if_neg (show ¬ (false = true) by decide)] at H; exact H
   clear H
   have H := H1
   clear H1
   replace H := Option.bind_eq_some_iff.mp H
   obtain ⟨t169, A50, H⟩ := H
   replace H : ((spec_R8Fine.f k l0 (wrap64 (1 + t169))).bind fun t170 => ((impl_NormWeights.f k t170).bind fun bt173 => ((impl_PowersOf.f k t170).bind fun bt177 => (if bt177.2 = true then (laws_FnNormed.j0 k l1 t170 bt173.1 bt173.2 (bt173.2 != (FloatKind.f32.format.order bt177.1 0 == some .gt))) else (none))))) = some r := H
   have A5 := Aside0.mk A50
   clear A50
   replace H := Option.bind_eq_some_iff.mp H
   obtain ⟨t170, A60, H⟩ := H
   replace H : ((impl_NormWeights.f k t170).bind fun bt173 => ((impl_PowersOf.f k t170).bind fun bt177 => (if bt177.2 = true then (laws_FnNormed.j0 k l1 t170 bt173.1 bt173.2 (bt173.2 != (FloatKind.f32.format.order bt177.1 0 == some .gt))) else (none)))) = some r := H
   have A6 := Aside0.mk A60
   clear A60
   replace H := Option.bind_eq_some_iff.mp H
   obtain ⟨⟨t173, t174⟩, A70, H⟩ := H
   replace H : ((impl_PowersOf.f k t170).bind fun bt177 => (if bt177.2 = true then (laws_FnNormed.j0 k l1 t170 t173 t174 (t174 != (FloatKind.f32.format.order bt177.1 0 == some .gt))) else (none))) = some r := H
   have A7 := Aside0.mk A70
   clear A70
   replace H := Option.bind_eq_some_iff.mp H
   obtain ⟨⟨t177, t178⟩, A80, H⟩ := H
   replace H : (if t178 = true then (laws_FnNormed.j0 k l1 t170 t173 t174 (t174 != (FloatKind.f32.format.order t177 0 == some .gt))) else (none)) = some r := H
   have A8 := Aside0.mk A80
   clear A80
   have HC9 := Aside0.mk H
   clear H
   go_enter Try.func4, Try.ntmps4
   go_upto_region 6 with (first | ((with_reducible refine gate_callee (f := 6) rfl ?_); refine goesL_ (some 21) rfl rfl Try.func6 (by kernel_rfl) rfl #[.slice A0 l0.length c0, .slice A1 l1.length c1] rfl (by (try simp only [List.map_toArray, List.map_cons, List.map_nil]); first | done | rfl | (simp only [List.length_drop, List.length_take]; rfl)) ?_; (with_reducible refine (laws_r8Long.calls _ _ l0 _ _ l1 false _ ?side1 ?side2 ?side3 ?side4 A3.out).mono ?_); (case side1 => repeat (first | exact HR0.out | (with_reducible refine Kd.C_alloc ?_ _) | (with_reducible refine Kd.C_drewN ?_ _) | (with_reducible refine Kd.C_drew ?_))); (case side2 => exact HC0.out); (case side3 => repeat (first | exact HR1.out | (with_reducible refine Kd.C_alloc ?_ _) | (with_reducible refine Kd.C_drewN ?_ _) | (with_reducible refine Kd.C_drew ?_))); (case side4 => exact HC1.out); rintro e w' ⟨rfl, ⟨nd, rfl⟩⟩; refine ⟨_, rfl, ?_⟩) | ((with_reducible refine gate_callee (f := 8) rfl ?_); refine goesL_ (some 24) rfl rfl Try.func8 (by kernel_rfl) rfl #[.slice A1 l1.length c1, .int .i64 40, .int .i64 8] rfl (by (try simp only [List.map_toArray, List.map_cons, List.map_nil]); first | done | rfl | (simp only [List.length_drop, List.length_take]; rfl)) ?_; (with_reducible refine (laws_r8At.calls _ _ l1 40 8 t169 _ ?side1 ?side2 A5.out).mono ?_); (case side1 => repeat (first | exact HR1.out | (with_reducible refine Kd.C_alloc ?_ _) | (with_reducible refine Kd.C_drewN ?_ _) | (with_reducible refine Kd.C_drew ?_))); (case side2 => exact HC1.out); rintro e w' ⟨rfl, ⟨nd, rfl⟩⟩; refine ⟨_, rfl, ?_⟩) | ((with_reducible refine gate_callee (f := 13) rfl ?_); refine goesL_ (some 26) rfl rfl Try.func13 (by kernel_rfl) rfl #[.slice A0 l0.length c0, .int .i64 (wrap64 (1 + t169))] rfl (by (try simp only [List.map_toArray, List.map_cons, List.map_nil]); first | done | rfl | (simp only [List.length_drop, List.length_take]; rfl)) ?_; (with_reducible refine (spec_R8Fine.calls k _ _ l0 (wrap64 (1 + t169)) t170 _ ?side1 ?side2 A6.out).mono ?_); (case side1 => repeat (first | exact HR0.out | (with_reducible refine Kd.C_alloc ?_ _) | (with_reducible refine Kd.C_drewN ?_ _) | (with_reducible refine Kd.C_drew ?_))); (case side2 => exact HC0.out); rintro e w10 ⟨v171, rfl, ho0, hb⟩; refine ⟨_, rfl, ?_⟩; have n0_ := Aside0.mk (Kd.R_lower ho0 (below_size (by repeat (first | (with_reducible first | exact HB.out | apply below_alloc | apply pw_below_drewN | apply below_drew1) | exact HB.out)))); have n1_ := Aside0.mk (below_step (by repeat (first | (with_reducible first | exact HB.out | apply below_alloc | apply pw_below_drewN | apply below_drew1) | exact HB.out)) hb); clear HB; have HO172 := n0_; have HB := n1_; clear n0_ n1_; (try clear hb); (try clear hb2); (try clear hk); (try clear hi); (try clear ho0); obtain ⟨Ao11, co11, eo11⟩ := Kd.R_slice HO172.out; subst eo11) | ((with_reducible refine gate_callee (f := 14) rfl ?_); refine goesL_ (some 29) rfl rfl Try.func14 (by kernel_rfl) rfl #[.slice Ao11 t170.length co11] rfl (by (try simp only [List.map_toArray, List.map_cons, List.map_nil]); first | done | rfl | (simp only [List.length_drop, List.length_take]; rfl)) ?_; (with_reducible refine (impl_NormWeights.calls k _ _ t170 t173 t174 _ ?side1 ?side2 A7.out).mono ?_); (case side1 => repeat (first | exact (Kd.R_reads' HO172.out).2.2 | (with_reducible refine Kd.C_alloc ?_ _) | (with_reducible refine Kd.C_drewN ?_ _) | (with_reducible refine Kd.C_drew ?_))); (case side2 => exact (Kd.R_reads' HO172.out).2.1); rintro e w12 ⟨v175, rfl, ho0, hb⟩; refine ⟨_, rfl, ?_⟩; have n0_ := Aside0.mk (Kd.R_elder' (by (with_reducible repeat (first | apply Kd.R_alloc | apply Kd.R_drewN | apply Kd.R_drew)); exact HO172.out) (Kd.R_base ho0) hb); have n1_ := Aside0.mk (Kd.R_lower (Kd.R_new' ho0 (Kd.R_lt (by (with_reducible repeat (first | apply Kd.R_alloc | apply Kd.R_drewN | apply Kd.R_drew)); exact HO172.out))) (below_size (by repeat (first | (with_reducible first | exact HB.out | apply below_alloc | apply pw_below_drewN | apply below_drew1) | exact HB.out)))); have n2_ := Aside0.mk (below_step (by repeat (first | (with_reducible first | exact HB.out | apply below_alloc | apply pw_below_drewN | apply below_drew1) | exact HB.out)) hb); clear HO172; clear HB; have HO172 := n0_; have HO176 := n1_; have HB := n2_; clear n0_ n1_ n2_; (try clear hb); (try clear hb2); (try clear hk); (try clear hi); (try clear ho0)) | ((with_reducible refine gate_callee (f := 15) rfl ?_); refine goesL_ (some 34) rfl rfl Try.func15 (by kernel_rfl) rfl #[.slice Ao11 t170.length co11] rfl (by (try simp only [List.map_toArray, List.map_cons, List.map_nil]); first | done | rfl | (simp only [List.length_drop, List.length_take]; rfl)) ?_; (with_reducible refine (impl_PowersOf.calls k _ _ t170 t177 t178 _ ?side1 ?side2 A8.out).mono ?_); (case side1 => repeat (first | exact (Kd.R_reads' HO172.out).2.2 | (with_reducible refine Kd.C_alloc ?_ _) | (with_reducible refine Kd.C_drewN ?_ _) | (with_reducible refine Kd.C_drew ?_))); (case side2 => exact (Kd.R_reads' HO172.out).2.1); rintro e w13 ⟨rfl, hb⟩; refine ⟨_, rfl, ?_⟩; have n0_ := Aside0.mk (Kd.R_below (by (with_reducible repeat (first | apply Kd.R_alloc | apply Kd.R_drewN | apply Kd.R_drew)); exact HO172.out) hb); have n1_ := Aside0.mk (Kd.R_below (by (with_reducible repeat (first | apply Kd.R_alloc | apply Kd.R_drewN | apply Kd.R_drew)); exact HO176.out) hb); have n2_ := Aside0.mk (below_step (by repeat (first | (with_reducible first | exact HB.out | apply below_alloc | apply pw_below_drewN | apply below_drew1) | exact HB.out)) hb); clear HO172; clear HO176; clear HB; have HO172 := n0_; have HO176 := n1_; have HB := n2_; clear n0_ n1_ n2_; (try clear hb); (try clear hb2); (try clear hk); (try clear hi)))
   (try simp only [Act.put, List.setIfInBounds_toArray, List.set_cons_zero, List.set_cons_succ])
   go_cut [44] (fun v44 wc => ∃ (kq : Nat) (x44_8 : Bool), v44 = .bool x44_8 ∧ Aside0 (laws_FnNormed.j0 kq l1 t170 t173 t174 x44_8 = some r) ∧ Aside0 (kq ≤ k) ∧ Aside0 (Kd.R Kd.c64 30 wc w.heap.size (fun k_ => some k_ ≠ (v175 : Value).ownBlock) (.slice Ao11 t170.length co11) t170) ∧ Aside0 (Kd.R Kd.c64 30 wc w.heap.size (fun k_ => some k_ ≠ ((.slice Ao11 t170.length co11) : Value).ownBlock) v175 t173) ∧ Aside0 (Below w.heap.size w wc))
   case first =>
    have H := HC9.out
    clear HC9
    by_cases c14 : t178 = true
    · subst c14
      have H1 : (laws_FnNormed.j0 k l1 t170 t173 t174 (t174 != (FloatKind.f32.format.order t177 0 == some .gt))) = some r := by rw [if_pos rfl] at H; exact H
      clear H
      have H := H1
      clear H1
      as_aux_lemma =>
       have H' := Aside0.mk H
       clear H
       go_wp2
       go_meet
       case rel => exact ⟨_, ((t174 != (FloatKind.f32.format.order t177 0 == some .gt))), (by first | rfl | (simp; done) | (simp [*]; done)), H', ⟨by first | omega | exact Nat.le_refl _⟩, ⟨by (with_reducible repeat (first | apply Kd.R_alloc | apply Kd.R_drewN | apply Kd.R_drew)); exact Kd.R_mono HO172.out (fun _ hk => hk.2)⟩, ⟨by (with_reducible repeat (first | apply Kd.R_alloc | apply Kd.R_drewN | apply Kd.R_drew)); exact Kd.R_mono HO176.out (fun _ hk => hk.2)⟩, ⟨by repeat (first | (with_reducible first | exact HB.out | apply below_alloc | apply pw_below_drewN | apply below_drew1) | exact HB.out)⟩⟩
    · replace c14 := Bool.eq_false_iff.mpr c14
      subst c14
      have H1 : (none) = some r := by rw [if_neg (show ¬ (false = true) by decide)] at H; exact H
      clear H
      have H := H1
      clear H1
      exact absurd H (by simp)
   case rest =>
    clear HC9
    (try clear c1); (try clear p2); (try clear c4); (try clear c6); (try clear p6); (try clear c8); (try clear c13); (try clear c14)
    obtain ⟨kq, x44_8, rfl, HA, HJ8, HO_5, HO_6, HB⟩ := hcut
    cases kq with
    | zero => exact absurd HA.out (by simp [laws_FnNormed.j0])
    | succ kj8 =>
     have H := HA.out
     clear HA
     simp only [laws_FnNormed.j0] at H
     by_cases c15 : x44_8 = true
     · subst c15
       have H1 : (none) = some r := by rw [if_pos rfl] at H; exact H
       clear H
       have H := H1
       clear H1
       exact absurd H (by simp)
     · replace c15 := Bool.eq_false_iff.mpr c15
       subst c15
       have H1 : (if t174 = true then ((impl_PowersOf.f kj8 t173).bind fun bt179 => (if bt179.2 = true then (if FC 34 37 .f32 .f64 bt179.1 = true then ((laws_r8Gap.f (fc .f32 .f64 bt179.1) 4607182418800017408).bind fun t181 => (if (FloatKind.f64.format.order t181 4562254508917369340 == some .gt) = true then (none) else (laws_FnNormed.j1 kj8 l1 t170))) else (none)) else (none))) else (laws_FnNormed.j1 kj8 l1 t170)) = some r := by rw [if_neg (show ¬ (false = true) by decide)] at H; exact H
       clear H
       have H := H1
       clear H1
       have HC16 := Aside0.mk H
       clear H
       go_upto_if 45 with (fail)
       go_cut [] (fun wc => ∃ (kq : Nat), Aside0 (laws_FnNormed.j1 kq l1 t170 = some r) ∧ Aside0 (kq ≤ kj8) ∧ Aside0 (Kd.R Kd.c64 30 wc w.heap.size (fun _ => True) (.slice Ao11 t170.length co11) t170) ∧ Aside0 (Below w.heap.size w wc))
       case first =>
        have H := HC16.out
        clear HC16
        by_cases c17 : t174 = true
        · subst c17
          have H1 : ((impl_PowersOf.f kj8 t173).bind fun bt179 => (if bt179.2 = true then (if FC 34 37 .f32 .f64 bt179.1 = true then ((laws_r8Gap.f (fc .f32 .f64 bt179.1) 4607182418800017408).bind fun t181 => (if (FloatKind.f64.format.order t181 4562254508917369340 == some .gt) = true then (none) else (laws_FnNormed.j1 kj8 l1 t170))) else (none)) else (none))) = some r := by rw [if_pos rfl] at H; exact H
          clear H
          have H := H1
          clear H1
          replace H := Option.bind_eq_some_iff.mp H
          obtain ⟨⟨t179, t180⟩, A180, H⟩ := H
          replace H : (if t180 = true then (if FC 34 37 .f32 .f64 t179 = true then ((laws_r8Gap.f (fc .f32 .f64 t179) 4607182418800017408).bind fun t181 => (if (FloatKind.f64.format.order t181 4562254508917369340 == some .gt) = true then (none) else (laws_FnNormed.j1 kj8 l1 t170))) else (none)) else (none)) = some r := H
          have A18 := Aside0.mk A180
          clear A180
          by_cases c19 : t180 = true
          · subst c19
            have H1 : (if FC 34 37 .f32 .f64 t179 = true then ((laws_r8Gap.f (fc .f32 .f64 t179) 4607182418800017408).bind fun t181 => (if (FloatKind.f64.format.order t181 4562254508917369340 == some .gt) = true then (none) else (laws_FnNormed.j1 kj8 l1 t170))) else (none)) = some r := by rw [if_pos rfl] at H; exact H
            clear H
            have H := H1
            clear H1
            by_cases c20 : FC 34 37 .f32 .f64 t179 = true
            · rw [if_pos c20] at H
              have fe20 := fun w => frunc (P := Try.prog) (src := 34) (dst := 37) (by kernel_rfl) Try.underlying37 c20 w
              have c20b0 : FC 34 37 .f32 .f64 t179 = true := c20
              clear c20
              (first | rw [c20b0] | (simp only [i64_w, i32_w]; rw [c20b0]) | skip)
              replace H := Option.bind_eq_some_iff.mp H
              obtain ⟨t181, A210, H⟩ := H
              replace H : (if (FloatKind.f64.format.order t181 4562254508917369340 == some .gt) = true then (none) else (laws_FnNormed.j1 kj8 l1 t170)) = some r := H
              have A21 := Aside0.mk A210
              clear A210
              by_cases c22 : (FloatKind.f64.format.order t181 4562254508917369340 == some .gt) = true
              · rw [if_pos c22] at H
                exact absurd H (by simp)
              · rw [if_neg c22] at H
                have c22b0 : (FloatKind.f64.format.order t181 4562254508917369340 == some .gt) = false := by simpa using c22
                (try (have c22b1 : decide (FloatKind.f64.format.order t181 4562254508917369340 = some .gt) = false := by simpa using c22))
                (try (have c22b2 : (FloatKind.f64.format.order t181 4562254508917369340 == some .gt) = false := by simpa using c22))
                (try (have c22b3 : ¬ (FloatKind.f64.format.order t181 4562254508917369340 = some .gt) := by simpa using c22))
                clear c22
                as_aux_lemma =>
                 have H' := Aside0.mk H
                 clear H
                 obtain ⟨Ao23, co23, eo23⟩ := Kd.R_slice HO_6.out
                 subst eo23
                 go_wp2_with (first | ((with_reducible refine gate_callee (f := 15) rfl ?_); refine goesL_ (some 48) rfl rfl Try.func15 (by kernel_rfl) rfl #[.slice Ao23 t173.length co23] rfl (by (try simp only [List.map_toArray, List.map_cons, List.map_nil]); first | done | rfl | (simp only [List.length_drop, List.length_take]; rfl)) ?_; (with_reducible refine (impl_PowersOf.calls kj8 _ _ t173 t179 true _ ?side1 ?side2 A18.out).mono ?_); (case side1 => repeat (first | exact (Kd.R_reads' HO_6.out).2.2 | (with_reducible refine Kd.C_alloc ?_ _) | (with_reducible refine Kd.C_drewN ?_ _) | (with_reducible refine Kd.C_drew ?_))); (case side2 => exact (Kd.R_reads' HO_6.out).2.1); rintro e w24 ⟨rfl, hb⟩; refine ⟨_, rfl, ?_⟩; have n0_ := Aside0.mk (Kd.R_below (by (with_reducible repeat (first | apply Kd.R_alloc | apply Kd.R_drewN | apply Kd.R_drew)); exact HO_5.out) hb); have n1_ := Aside0.mk (Kd.R_below (by (with_reducible repeat (first | apply Kd.R_alloc | apply Kd.R_drewN | apply Kd.R_drew)); exact HO_6.out) hb); have n2_ := Aside0.mk (below_step (by repeat (first | (with_reducible first | exact HB.out | apply below_alloc | apply pw_below_drewN | apply below_drew1) | exact HB.out)) hb); clear HO_5; clear HO_6; clear HB; have HO_5 := n0_; have HO_6 := n1_; have HB := n2_; clear n0_ n1_ n2_; (try clear hb); (try clear hb2); (try clear hk); (try clear hi)) | (go_at_call 16; (with_reducible refine (laws_r8Gap.calls (fc .f32 .f64 t179) 4607182418800017408 t181 _ A21.out).mono ?_); rintro e w' ⟨rfl, ⟨nd, rfl⟩⟩))
                 go_meet
                 case rel => exact ⟨_, H', ⟨by have := HJ8.out; first | omega | exact Nat.le_refl _⟩, ⟨by (with_reducible repeat (first | apply Kd.R_alloc | apply Kd.R_drewN | apply Kd.R_drew)); exact Kd.R_mono HO_5.out (fun _ hk => trivial)⟩, ⟨by repeat (first | (with_reducible first | exact HB.out | apply below_alloc | apply pw_below_drewN | apply below_drew1) | exact HB.out)⟩⟩
            · rw [if_neg c20] at H
              exact absurd H (by simp)
          · replace c19 := Bool.eq_false_iff.mpr c19
            subst c19
            have H1 : (none) = some r := by rw [if_neg (show ¬ (false = true) by decide)] at H; exact H
            clear H
            have H := H1
            clear H1
            exact absurd H (by simp)
        · replace c17 := Bool.eq_false_iff.mpr c17
          subst c17
          have H1 : (laws_FnNormed.j1 kj8 l1 t170) = some r := by rw [if_neg (show ¬ (false = true) by decide)] at H; exact H
          clear H
          have H := H1
          clear H1
          as_aux_lemma =>
           have H' := Aside0.mk H
           clear H
           go_wp2
           go_meet
           case rel => exact ⟨_, H', ⟨by have := HJ8.out; first | omega | exact Nat.le_refl _⟩, ⟨by (with_reducible repeat (first | apply Kd.R_alloc | apply Kd.R_drewN | apply Kd.R_drew)); exact Kd.R_mono HO_5.out (fun _ hk => trivial)⟩, ⟨by repeat (first | (with_reducible first | exact HB.out | apply below_alloc | apply pw_below_drewN | apply below_drew1) | exact HB.out)⟩⟩
       case rest =>
        clear HC16
        (try clear c1); (try clear c2); (try clear p2); (try clear c4); (try clear c6); (try clear p6); (try clear c8); (try clear c13); (try clear c14); (try clear c15); (try clear c17); (try clear c19); (try clear c20); (try clear c20b0); (try clear c22); (try clear c22b0); (try clear c22b1); (try clear c22b2); (try clear p2); (try clear p6)
        obtain ⟨kq, HA, HJ15, HO_5, HB⟩ := hcut
        cases kq with
        | zero => exact absurd HA.out (by simp [laws_FnNormed.j1])
        | succ kj15 =>
         have H := HA.out
         clear HA
         simp only [laws_FnNormed.j1] at H
         obtain ⟨y182, hy182⟩ : ∃ y_ : List Int, y_ = (([] : List Int)) := ⟨_, rfl⟩
         replace H : (laws_FnNormed.l0 kj15 l1 t170 y182 0) = some r := by first | (rw [hy182]; with_reducible exact H) | (have H2_ := (Option.bind_some _ _).symm.trans H; rw [hy182]; with_reducible exact H2_) | (have H2_ := (Option.bind_some _ _).symm.trans H; with_reducible exact H2_) | with_reducible exact H | (rw [hy182]; exact H) | exact H
         have Ny182 := Aside0.mk hy182
         clear hy182
         have H' := Aside0.mk H
         clear H
         go_wp2_with (first | ((with_reducible refine gate_dst (N := 59) rfl ?_); (try (refine gate_guard (by rfl) ?_; dsimp only)); refine Kd.R_lit (Kd.int .i64) _ 2 ?hg (N := 59) ?hd (xs := ([] : List Int)) (inner := []) (ok := fun _ => True) (okp := fun _ => True) ?hr ?hp (fun _ hk => hk) trivial (Below.refl _ _) (Nat.le_refl _) (by simp) ?_; (case hd => rfl); (case hg => rfl); (case hr => first | (go_simp; done) | (go_simp; rfl)); (case hp => exact (Reps.none _ _)); intro v183 w25 ho26 hb hg_ hnew_; clear hg_ hnew_; (first | rw [← Ny182.out] at ho26 | (simp only [Int.reduceToNat] at ho26; rw [← Ny182.out] at ho26)); have n0_ := Aside0.mk (Kd.R_below (by (with_reducible repeat (first | apply Kd.R_alloc | apply Kd.R_drewN | apply Kd.R_drew)); exact HO_5.out) hb); have n1_ := Aside0.mk (Kd.R_lower ho26 (below_size (by repeat (first | (with_reducible first | exact HB.out | apply below_alloc | apply pw_below_drewN | apply below_drew1) | exact HB.out)))); have n2_ := Aside0.mk (below_step (by repeat (first | (with_reducible first | exact HB.out | apply below_alloc | apply pw_below_drewN | apply below_drew1) | exact HB.out)) hb); clear HO_5; clear HB; have HO_5 := n0_; have HO184 := n1_; have HB := n2_; clear n0_ n1_ n2_; clear hb ho26))
         go_loopg [12, 13] kj15 (fun kq v12 v13 w' => ∃ (x12_3 : List Int) (x13_3 : Int), v13 = .int .i64 x13_3 ∧ Aside0 (laws_FnNormed.l0 kq l1 t170 x12_3 x13_3 = some r) ∧ Aside0 (kq ≤ kj15) ∧ Aside0 (Kd.R Kd.c64 30 w' w.heap.size (fun _ => True) (.slice Ao11 t170.length co11) t170) ∧ Aside0 (Kd.R (Kd.int .i64) 2 w' w.heap.size (fun _ => True) v12 x12_3) ∧ Aside0 (Below w.heap.size w w'))
         case atStart => exact ⟨(y182), (0), (by first | rfl | (simp; done) | (simp [*]; done)), H', ⟨Nat.le_refl _⟩, ⟨by (with_reducible repeat (first | apply Kd.R_alloc | apply Kd.R_drewN | apply Kd.R_drew)); exact HO_5.out⟩, ⟨by (with_reducible repeat (first | apply Kd.R_alloc | apply Kd.R_drewN | apply Kd.R_drew)); exact HO184.out⟩, ⟨by repeat (first | (with_reducible first | exact HB.out | apply below_alloc | apply pw_below_drewN | apply below_drew1) | exact HB.out)⟩⟩
         case round =>
          clear H'
          (try clear c1); (try clear c2); (try clear p2); (try clear c4); (try clear c6); (try clear p6); (try clear c8); (try clear c13); (try clear c14); (try clear c15); (try clear c17); (try clear c19); (try clear c20); (try clear c20b0); (try clear c22); (try clear c22b0); (try clear c22b1); (try clear c22b2); (try clear p2); (try clear p6)
          obtain ⟨x12_3, x13_3, rfl, HA, HK3, HO_5, HO_12, HB⟩ := hrel
          cases gk with
          | zero => exact absurd HA.out (by simp [laws_FnNormed.l0])
          | succ k3 =>
           have H := HA.out
           clear HA
           simp only [laws_FnNormed.l0] at H
           by_cases c27 : x13_3 < (t170.length : Int)
           · rw [if_pos c27] at H
             have c27b0 : decide (x13_3 < (t170.length : Int)) = true := decide_eq_true c27
             clear c27
             replace H := Option.bind_eq_some_iff.mp H
             obtain ⟨t185, A280, H⟩ := H
             replace H : (if t185 = 0 then (if x12_3.length < 17592186044416 then (laws_FnNormed.l0 k3 l1 t170 (x12_3 ++ [x13_3]) (wrap64 (x13_3 + 1))) else (none)) else (laws_FnNormed.l0 k3 l1 t170 x12_3 (wrap64 (x13_3 + 1)))) = some r := H
             have A28 := Aside0.mk A280
             clear A280
             by_cases c29 : t185 = 0
             · rw [if_pos c29] at H
               have c29b0 : (t185 == 0) = true := beq_iff_eq.mpr c29
               have c29b1 : (t185 != 0) = false := bne_eq_false_iff_eq.mpr c29
               clear c29
               by_cases c30 : x12_3.length < 17592186044416
               · rw [if_pos c30] at H
                 have LMc30 := Aside0.mk c30
                 clear c30
                 obtain ⟨y186, hy186⟩ : ∃ y_ : List Int, y_ = (x12_3 ++ [x13_3]) := ⟨_, rfl⟩
                 replace H : (laws_FnNormed.l0 k3 l1 t170 y186 (wrap64 (x13_3 + 1))) = some r := by first | (rw [hy186]; with_reducible exact H) | (have H2_ := (Option.bind_some _ _).symm.trans H; rw [hy186]; with_reducible exact H2_) | (have H2_ := (Option.bind_some _ _).symm.trans H; with_reducible exact H2_) | with_reducible exact H | (rw [hy186]; exact H) | exact H
                 have Ny186 := Aside0.mk hy186
                 clear hy186
                 as_aux_lemma =>
                  have H' := Aside0.mk H
                  clear H
                  go_wp2_with (first | ((with_reducible refine gate_callee (f := 8) rfl ?_); refine goesL_ (some 68) rfl rfl Try.func8 (by kernel_rfl) rfl #[.slice A1 l1.length c1, .int .i64 x13_3, .int .i64 3] rfl (by (try simp only [List.map_toArray, List.map_cons, List.map_nil]); first | done | rfl | (simp only [List.length_drop, List.length_take]; rfl)) ?_; (with_reducible refine (laws_r8At.calls _ _ l1 x13_3 3 t185 _ ?side1 ?side2 A28.out).mono ?_); (case side1 => repeat (first | exact (Kd.C_below HR1.out HB.out) | (with_reducible refine Kd.C_alloc ?_ _) | (with_reducible refine Kd.C_drewN ?_ _) | (with_reducible refine Kd.C_drew ?_))); (case side2 => exact HC1.out); rintro e w' ⟨rfl, ⟨nd, rfl⟩⟩; refine ⟨_, rfl, ?_⟩) | ((with_reducible refine gate_builtin (b := .append) (xs := #[.tmp 70, .tmp 72]) rfl ?_); (try (refine gate_guard (by rfl) ?_; dsimp only)); at_builtin; refine Kd.R_append (Kd.int .i64) (w0 := w) w.heap.size rfl (.tmp 70) (.tmp 72) 39 2 (.int .i64 0) 8 rfl Try.underlying39 info2 rfl (by decide) (by omega) u12 x12_3 x13_3 [.int .i64 x13_3] (fun _ => True) (fun _ => False) rfl rfl ?aP (fun _ hk => hk.elim) ?aF ?aO ?aB ?aS ?aL ?_; (case aP => exact rfl); (case aB => exact (by repeat (first | (with_reducible first | exact HB.out | apply below_alloc | apply pw_below_drewN | apply below_drew1) | exact HB.out))); (case aF => exact (fun _ _ => trivial)); (case aO => exact (by (with_reducible repeat (first | apply Kd.R_alloc | apply Kd.R_drewN | apply Kd.R_drew)); exact HO_12.out)); (case aS => exact (below_size (by repeat (first | (with_reducible first | exact HB.out | apply below_alloc | apply pw_below_drewN | apply below_drew1) | exact HB.out)))); (case aL => have := LMc30.out; omega); intro v187 w31 ho hb hg hat; rw [← Ny186.out] at ho; have n0_ := Aside0.mk (Kd.R_over' (by (with_reducible repeat (first | apply Kd.R_alloc | apply Kd.R_drewN | apply Kd.R_drew)); exact HO_5.out) (Kd.R_typed (by (with_reducible repeat (first | apply Kd.R_alloc | apply Kd.R_drewN | apply Kd.R_drew)); exact HO_12.out)) (by decide) hg); have n1_ := Aside0.mk (hb); have n2_ := Aside0.mk (ho); clear HO_5; clear HB; clear HO_12; have HO_5 := n0_; have HB := n1_; have HO188 := n2_; clear n0_ n1_ n2_; clear ho hb hg hat))
                  go_roundg k3
                  case measure => have := HJ8.out; have := HJ15.out; have := HK3.out; omega
                  case rel => exact ⟨(y186), (wrap64 (x13_3 + 1)), (by first | rfl | (simp; done) | (simp [*]; done)), H', ⟨by have := HJ8.out; have := HJ15.out; have := HK3.out; omega⟩, ⟨by (with_reducible repeat (first | apply Kd.R_alloc | apply Kd.R_drewN | apply Kd.R_drew)); exact HO_5.out⟩, ⟨by (with_reducible repeat (first | apply Kd.R_alloc | apply Kd.R_drewN | apply Kd.R_drew)); exact HO188.out⟩, ⟨by repeat (first | (with_reducible first | exact HB.out | apply below_alloc | apply pw_below_drewN | apply below_drew1) | exact HB.out)⟩⟩
               · rw [if_neg c30] at H
                 exact absurd H (by simp)
             · rw [if_neg c29] at H
               have c29b0 : (t185 == 0) = false := beq_eq_false_iff_ne.mpr c29
               have c29b1 : (t185 != 0) = true := bne_iff_ne.mpr c29
               as_aux_lemma =>
                have H' := Aside0.mk H
                clear H
                go_wp2_with (first | ((with_reducible refine gate_callee (f := 8) rfl ?_); refine goesL_ (some 68) rfl rfl Try.func8 (by kernel_rfl) rfl #[.slice A1 l1.length c1, .int .i64 x13_3, .int .i64 3] rfl (by (try simp only [List.map_toArray, List.map_cons, List.map_nil]); first | done | rfl | (simp only [List.length_drop, List.length_take]; rfl)) ?_; (with_reducible refine (laws_r8At.calls _ _ l1 x13_3 3 t185 _ ?side1 ?side2 A28.out).mono ?_); (case side1 => repeat (first | exact (Kd.C_below HR1.out HB.out) | (with_reducible refine Kd.C_alloc ?_ _) | (with_reducible refine Kd.C_drewN ?_ _) | (with_reducible refine Kd.C_drew ?_))); (case side2 => exact HC1.out); rintro e w' ⟨rfl, ⟨nd, rfl⟩⟩; refine ⟨_, rfl, ?_⟩))
                go_roundg k3
                case measure => have := HJ8.out; have := HJ15.out; have := HK3.out; omega
                case rel => exact ⟨(x12_3), (wrap64 (x13_3 + 1)), (by first | rfl | (simp; done) | (simp [*]; done)), H', ⟨by have := HJ8.out; have := HJ15.out; have := HK3.out; omega⟩, ⟨by (with_reducible repeat (first | apply Kd.R_alloc | apply Kd.R_drewN | apply Kd.R_drew)); exact HO_5.out⟩, ⟨by (with_reducible repeat (first | apply Kd.R_alloc | apply Kd.R_drewN | apply Kd.R_drew)); exact HO_12.out⟩, ⟨by repeat (first | (with_reducible first | exact HB.out | apply below_alloc | apply pw_below_drewN | apply below_drew1) | exact HB.out)⟩⟩
           · rw [if_neg c27] at H
             have c27b0 : decide (x13_3 < (t170.length : Int)) = false := decide_eq_false c27
             clear c27
             replace H := Option.bind_eq_some_iff.mp H
             obtain ⟨⟨t189, t190⟩, A320, H⟩ := H
             replace H : (if t190 = true then (laws_FnNormed.j3 k3 t170 x12_3 t189 ((t189.length : Int) != (t170.length : Int))) else (none)) = some r := H
             have A32 := Aside0.mk A320
             clear A320
             have HC33 := Aside0.mk H
             clear H
             obtain ⟨Ao34, co34, eo34⟩ := Kd.R_slice HO_12.out
             subst eo34
             go_upto_region 19 with (first | ((with_reducible refine gate_callee (f := 17) rfl ?_); refine goesL_ (some 77) rfl rfl Try.func17 (by kernel_rfl) rfl #[.slice Ao11 t170.length co11, .slice Ao34 x12_3.length co34] rfl (by (try simp only [List.map_toArray, List.map_cons, List.map_nil]); first | done | rfl | (simp only [List.length_drop, List.length_take]; rfl)) ?_; (with_reducible refine (impl_WithoutElements.calls k3 _ _ t170 _ _ x12_3 t189 t190 _ ?side1 ?side2 ?side3 ?side4 A32.out).mono ?_); (case side1 => repeat (first | exact (Kd.R_reads' HO_5.out).2.2 | (with_reducible refine Kd.C_alloc ?_ _) | (with_reducible refine Kd.C_drewN ?_ _) | (with_reducible refine Kd.C_drew ?_))); (case side2 => exact (Kd.R_reads' HO_5.out).2.1); (case side3 => repeat (first | exact (Kd.R_reads' HO_12.out).2.2 | (with_reducible refine Kd.C_alloc ?_ _) | (with_reducible refine Kd.C_drewN ?_ _) | (with_reducible refine Kd.C_drew ?_))); (case side4 => exact (Kd.R_reads' HO_12.out).2.1); rintro e w35 ⟨v191, rfl, ho0, hb⟩; refine ⟨_, rfl, ?_⟩; have n0_ := Aside0.mk (Kd.R_elder' (by (with_reducible repeat (first | apply Kd.R_alloc | apply Kd.R_drewN | apply Kd.R_drew)); exact HO_5.out) (Kd.R_base ho0) hb); have n1_ := Aside0.mk (Kd.R_below (by (with_reducible repeat (first | apply Kd.R_alloc | apply Kd.R_drewN | apply Kd.R_drew)); exact HO_12.out) hb); have n2_ := Aside0.mk (Kd.R_lower (Kd.R_new' ho0 (Kd.R_lt (by (with_reducible repeat (first | apply Kd.R_alloc | apply Kd.R_drewN | apply Kd.R_drew)); exact HO_5.out))) (below_size (by repeat (first | (with_reducible first | exact HB.out | apply below_alloc | apply pw_below_drewN | apply below_drew1) | exact HB.out)))); have n3_ := Aside0.mk (below_step (by repeat (first | (with_reducible first | exact HB.out | apply below_alloc | apply pw_below_drewN | apply below_drew1) | exact HB.out)) hb); clear HO_5; clear HO_12; clear HB; have HO_5 := n0_; have HO_12 := n1_; have HO192 := n2_; have HB := n3_; clear n0_ n1_ n2_ n3_; (try clear hb); (try clear hb2); (try clear hk); (try clear hi); (try clear ho0)))
             (try simp only [Act.put, List.setIfInBounds_toArray, List.set_cons_zero, List.set_cons_succ])
             go_cut [88] (fun v88 wc => ∃ (kq : Nat) (x88_32 : Bool), v88 = .bool x88_32 ∧ Aside0 (laws_FnNormed.j3 kq t170 x12_3 t189 x88_32 = some r) ∧ Aside0 (kq ≤ k3) ∧ Aside0 (Kd.R Kd.c64 30 wc w.heap.size (fun k_ => some k_ ≠ (v191 : Value).ownBlock) (.slice Ao11 t170.length co11) t170) ∧ Aside0 (Kd.R (Kd.int .i64) 2 wc w.heap.size (fun _ => True) (.slice Ao34 x12_3.length co34) x12_3) ∧ Aside0 (Kd.R Kd.c64 30 wc w.heap.size (fun k_ => some k_ ≠ ((.slice Ao11 t170.length co11) : Value).ownBlock) v191 t189) ∧ Aside0 (Below w.heap.size w wc))
             case first =>
              have H := HC33.out
              clear HC33
              by_cases c36 : t190 = true
              · subst c36
                have H1 : (laws_FnNormed.j3 k3 t170 x12_3 t189 ((t189.length : Int) != (t170.length : Int))) = some r := by rw [if_pos rfl] at H; exact H
                clear H
                have H := H1
                clear H1
                as_aux_lemma =>
                 have H' := Aside0.mk H
                 clear H
                 obtain ⟨Ao37, co37, eo37⟩ := Kd.R_slice HO192.out
                 subst eo37
                 go_wp2
                 go_meet
                 case rel => exact ⟨_, (((t189.length : Int) != (t170.length : Int))), (by first | rfl | (simp; done) | (simp [*]; done)), H', ⟨by have := HJ8.out; have := HJ15.out; have := HK3.out; first | omega | exact Nat.le_refl _⟩, ⟨by (with_reducible repeat (first | apply Kd.R_alloc | apply Kd.R_drewN | apply Kd.R_drew)); exact Kd.R_mono HO_5.out (fun _ hk => hk.2)⟩, ⟨by (with_reducible repeat (first | apply Kd.R_alloc | apply Kd.R_drewN | apply Kd.R_drew)); exact HO_12.out⟩, ⟨by (with_reducible repeat (first | apply Kd.R_alloc | apply Kd.R_drewN | apply Kd.R_drew)); exact Kd.R_mono HO192.out (fun _ hk => hk.2)⟩, ⟨by repeat (first | (with_reducible first | exact HB.out | apply below_alloc | apply pw_below_drewN | apply below_drew1) | exact HB.out)⟩⟩
              · replace c36 := Bool.eq_false_iff.mpr c36
                subst c36
                have H1 : (none) = some r := by rw [if_neg (show ¬ (false = true) by decide)] at H; exact H
                clear H
                have H := H1
                clear H1
                exact absurd H (by simp)
             case rest =>
              clear HC33
              (try clear c1); (try clear c2); (try clear p2); (try clear c3); (try clear c4); (try clear c6); (try clear p6); (try clear c8); (try clear c13); (try clear c14); (try clear c15); (try clear c17); (try clear c19); (try clear c20); (try clear c20b0); (try clear c22); (try clear c22b0); (try clear c22b1); (try clear c22b2); (try clear c27); (try clear c27b0); (try clear c29); (try clear c29b0); (try clear c29b1); (try clear c30); (try clear c36); (try clear p2); (try clear p6)
              obtain ⟨kq, x88_32, rfl, HA, HJ32, HO_5, HO_12, HO_14, HB⟩ := hcut
              cases kq with
              | zero => exact absurd HA.out (by simp [laws_FnNormed.j3])
              | succ kj32 =>
               have H := HA.out
               clear HA
               simp only [laws_FnNormed.j3] at H
               by_cases c38 : x88_32 = true
               · subst c38
                 have H1 : (none) = some r := by rw [if_pos rfl] at H; exact H
                 clear H
                 have H := H1
                 clear H1
                 exact absurd H (by simp)
               · replace c38 := Bool.eq_false_iff.mpr c38
                 subst c38
                 have H1 : (laws_FnNormed.l1 kj32 t170 x12_3 t189 0 0) = some r := by rw [if_neg (show ¬ (false = true) by decide)] at H; exact H
                 clear H
                 have H := H1
                 clear H1
                 have H' := Aside0.mk H
                 clear H
                 go_wp2
                 go_loopg [16, 17] kj32 (fun kq v16 v17 w' => ∃ (x16_5 : Int) (x17_5 : Int), v16 = .int .i64 x16_5 ∧ v17 = .int .i64 x17_5 ∧ Aside0 (laws_FnNormed.l1 kq t170 x12_3 t189 x16_5 x17_5 = some r) ∧ Aside0 (kq ≤ kj32) ∧ Aside0 (Kd.R Kd.c64 30 w' w.heap.size (fun k_ => some k_ ≠ (v191 : Value).ownBlock) (.slice Ao11 t170.length co11) t170) ∧ Aside0 (Kd.R (Kd.int .i64) 2 w' w.heap.size (fun _ => True) (.slice Ao34 x12_3.length co34) x12_3) ∧ Aside0 (Kd.R Kd.c64 30 w' w.heap.size (fun k_ => some k_ ≠ ((.slice Ao11 t170.length co11) : Value).ownBlock) v191 t189) ∧ Aside0 (Below w.heap.size w w'))
                 case atStart => exact ⟨(0), (0), (by first | rfl | (simp; done) | (simp [*]; done)), (by first | rfl | (simp; done) | (simp [*]; done)), H', ⟨Nat.le_refl _⟩, ⟨by (with_reducible repeat (first | apply Kd.R_alloc | apply Kd.R_drewN | apply Kd.R_drew)); exact HO_5.out⟩, ⟨by (with_reducible repeat (first | apply Kd.R_alloc | apply Kd.R_drewN | apply Kd.R_drew)); exact HO_12.out⟩, ⟨by (with_reducible repeat (first | apply Kd.R_alloc | apply Kd.R_drewN | apply Kd.R_drew)); exact HO_14.out⟩, ⟨by repeat (first | (with_reducible first | exact HB.out | apply below_alloc | apply pw_below_drewN | apply below_drew1) | exact HB.out)⟩⟩
                 case round =>
                  clear H'
                  (try clear c1); (try clear c2); (try clear p2); (try clear c3); (try clear c4); (try clear c6); (try clear p6); (try clear c8); (try clear c13); (try clear c14); (try clear c15); (try clear c17); (try clear c19); (try clear c20); (try clear c20b0); (try clear c22); (try clear c22b0); (try clear c22b1); (try clear c22b2); (try clear c27); (try clear c27b0); (try clear c29); (try clear c29b0); (try clear c29b1); (try clear c30); (try clear c36); (try clear c38); (try clear p2); (try clear p6)
                  obtain ⟨x16_5, x17_5, rfl, rfl, HA, HK5, HO_5, HO_12, HO_14, HB⟩ := hrel
                  cases gk with
                  | zero => exact absurd HA.out (by simp [laws_FnNormed.l1])
                  | succ k5 =>
                   have H := HA.out
                   clear HA
                   simp only [laws_FnNormed.l1] at H
                   by_cases c39 : x17_5 < (t189.length : Int)
                   · rw [if_pos c39] at H
                     have c39b0 : decide (x17_5 < (t189.length : Int)) = true := decide_eq_true c39
                     clear c39
                     by_cases c40 : 0 ≤ x17_5
                     · rw [if_pos c40] at H
                       have c40b0 : decide (0 ≤ x17_5) = true := decide_eq_true c40
                       clear c40
                       by_cases c41 : x17_5 < (t170.length : Int)
                       · rw [if_pos c41] at H
                         have c41b0 : decide (x17_5 < (t170.length : Int)) = true := decide_eq_true c41
                         clear c41
                         have HC42 := Aside0.mk H
                         clear H
                         obtain ⟨Ao43, co43, eo43⟩ := Kd.R_slice HO_14.out
                         subst eo43
                         have p193 : 0 ≤ (x17_5 : Int) := of_decide_eq_true (by first | (with_reducible assumption) | assumption)
                         have q193 : x17_5 < (t170.length : Int) := of_decide_eq_true (by first | (with_reducible assumption) | assumption)
                         obtain ⟨ad193, e193, hx193_0⟩ := Kd.at_c64 (Kd.R_reads' HO_5.out).2.2 x17_5 p193 q193
                         cases e193
                         replace p193 := eq_true p193
                         replace q193 := eq_true q193
                         go_upto_region 26 with (fail)
                         go_cut [110] (fun v110 wc => ∃ (kq : Nat) (x110_41 : Bool), v110 = .bool x110_41 ∧ Aside0 (laws_FnNormed.j5 kq t170 x12_3 t189 x16_5 x17_5 (rdOf c64z t170 x17_5) x110_41 = some r) ∧ Aside0 (kq ≤ k5) ∧ Aside0 (Kd.R Kd.c64 30 wc w.heap.size (fun k_ => some k_ ≠ ((.slice Ao43 t189.length co43) : Value).ownBlock) (.slice (some ad193) t170.length co11) t170) ∧ Aside0 (Kd.R (Kd.int .i64) 2 wc w.heap.size (fun _ => True) (.slice Ao34 x12_3.length co34) x12_3) ∧ Aside0 (Kd.R Kd.c64 30 wc w.heap.size (fun k_ => some k_ ≠ ((.slice (some ad193) t170.length co11) : Value).ownBlock) (.slice Ao43 t189.length co43) t189) ∧ Aside0 (Below w.heap.size w wc))
                         case first =>
                          have H := HC42.out
                          clear HC42
                          by_cases c44 : x16_5 < (x12_3.length : Int)
                          · rw [if_pos c44] at H
                            have c44b0 : decide (x16_5 < (x12_3.length : Int)) = true := decide_eq_true c44
                            clear c44
                            (first | rw [c44b0] | (simp only [i64_w, i32_w]; rw [c44b0]) | skip)
                            by_cases c45 : 0 ≤ x16_5
                            · rw [if_pos c45] at H
                              have c45b0 : decide (0 ≤ x16_5) = true := decide_eq_true c45
                              clear c45
                              as_aux_lemma =>
                               have H' := Aside0.mk H
                               clear H
                               have p194 : 0 ≤ (x16_5 : Int) := of_decide_eq_true (by first | (with_reducible assumption) | assumption)
                               have q194 : x16_5 < (x12_3.length : Int) := of_decide_eq_true (by first | (with_reducible assumption) | assumption)
                               obtain ⟨ad194, e194, hx194_0⟩ := Kd.at_int (Kd.R_reads' HO_12.out).2.2 x16_5 p194 q194
                               cases e194
                               replace p194 := eq_true p194
                               replace q194 := eq_true q194
                               go_wp2
                               go_meet
                               case rel => exact ⟨_, (((rd x12_3 x16_5) == x17_5)), (by first | rfl | (simp; done) | (simp [*]; done)), H', ⟨by have := HJ8.out; have := HJ15.out; have := HK3.out; have := HJ32.out; have := HK5.out; first | omega | exact Nat.le_refl _⟩, ⟨by (with_reducible repeat (first | apply Kd.R_alloc | apply Kd.R_drewN | apply Kd.R_drew)); exact HO_5.out⟩, ⟨by (with_reducible repeat (first | apply Kd.R_alloc | apply Kd.R_drewN | apply Kd.R_drew)); exact HO_12.out⟩, ⟨by (with_reducible repeat (first | apply Kd.R_alloc | apply Kd.R_drewN | apply Kd.R_drew)); exact HO_14.out⟩, ⟨by repeat (first | (with_reducible first | exact HB.out | apply below_alloc | apply pw_below_drewN | apply below_drew1) | exact HB.out)⟩⟩
                            · rw [if_neg c45] at H
                              exact absurd H (by simp)
                          · rw [if_neg c44] at H
                            have c44b0 : decide (x16_5 < (x12_3.length : Int)) = false := decide_eq_false c44
                            clear c44
                            (first | rw [c44b0] | (simp only [i64_w, i32_w]; rw [c44b0]) | skip)
                            as_aux_lemma =>
                             have H' := Aside0.mk H
                             clear H
                             go_wp2
                             go_meet
                             case rel => exact ⟨_, (false), (by first | rfl | (simp; done) | (simp [*]; done)), H', ⟨by have := HJ8.out; have := HJ15.out; have := HK3.out; have := HJ32.out; have := HK5.out; first | omega | exact Nat.le_refl _⟩, ⟨by (with_reducible repeat (first | apply Kd.R_alloc | apply Kd.R_drewN | apply Kd.R_drew)); exact HO_5.out⟩, ⟨by (with_reducible repeat (first | apply Kd.R_alloc | apply Kd.R_drewN | apply Kd.R_drew)); exact HO_12.out⟩, ⟨by (with_reducible repeat (first | apply Kd.R_alloc | apply Kd.R_drewN | apply Kd.R_drew)); exact HO_14.out⟩, ⟨by repeat (first | (with_reducible first | exact HB.out | apply below_alloc | apply pw_below_drewN | apply below_drew1) | exact HB.out)⟩⟩
                         case rest =>
                          clear HC42
                          (try clear c1); (try clear p1); (try clear q1); (try clear hx1); (try clear c2); (try clear p2); (try clear c3); (try clear c4); (try clear c6); (try clear p6); (try clear c8); (try clear c13); (try clear c14); (try clear c15); (try clear c17); (try clear c19); (try clear p19); (try clear q19); (try clear hx19); (try clear c20); (try clear c20b0); (try clear c22); (try clear c22b0); (try clear c22b1); (try clear c22b2); (try clear c27); (try clear c27b0); (try clear c29); (try clear c29b0); (try clear c29b1); (try clear c30); (try clear c36); (try clear c38); (try clear c39); (try clear c39b0); (try clear c40); (try clear c40b0); (try clear c41); (try clear c41b0); (try clear c44); (try clear c44b0); (try clear c45); (try clear c45b0); (try clear hx193_0); (try clear hx194_0); (try clear p193); (try clear p194); (try clear p2); (try clear p6); (try clear q193); (try clear q194)
                          obtain ⟨kq, x110_41, rfl, HA, HJ41, HO_5, HO_12, HO_14, HB⟩ := hcut
                          cases kq with
                          | zero => exact absurd HA.out (by simp [laws_FnNormed.j5])
                          | succ kj41 =>
                           have H := HA.out
                           clear HA
                           simp only [laws_FnNormed.j5] at H
                           by_cases c46 : x110_41 = true
                           · subst c46
                             have H1 : (if 0 ≤ x17_5 then (if x17_5 < (t189.length : Int) then ((impl_SameComplex.f kj41 (rdOf c64z t189 x17_5) (⟨0, 0⟩ : C64)).bind fun t196 => (if t196 = true then (laws_FnNormed.l1 kj41 t170 x12_3 t189 (wrap64 (x16_5 + 1)) (wrap64 (x17_5 + 1))) else (none))) else (none)) else (none)) = some r := by rw [if_pos rfl] at H; exact H
                             clear H
                             have H := H1
                             clear H1
                             by_cases c47 : 0 ≤ x17_5
                             · rw [if_pos c47] at H
                               have c47b0 : decide (0 ≤ x17_5) = true := decide_eq_true c47
                               clear c47
                               by_cases c48 : x17_5 < (t189.length : Int)
                               · rw [if_pos c48] at H
                                 have c48b0 : decide (x17_5 < (t189.length : Int)) = true := decide_eq_true c48
                                 clear c48
                                 replace H := Option.bind_eq_some_iff.mp H
                                 obtain ⟨t196, A490, H⟩ := H
                                 replace H : (if t196 = true then (laws_FnNormed.l1 kj41 t170 x12_3 t189 (wrap64 (x16_5 + 1)) (wrap64 (x17_5 + 1))) else (none)) = some r := H
                                 have A49 := Aside0.mk A490
                                 clear A490
                                 by_cases c50 : t196 = true
                                 · subst c50
                                   have H1 : (laws_FnNormed.l1 kj41 t170 x12_3 t189 (wrap64 (x16_5 + 1)) (wrap64 (x17_5 + 1))) = some r := by rw [if_pos rfl] at H; exact H
                                   clear H
                                   have H := H1
                                   clear H1
                                   as_aux_lemma =>
                                    have H' := Aside0.mk H
                                    clear H
                                    have p195 : 0 ≤ (x17_5 : Int) := of_decide_eq_true (by first | (with_reducible assumption) | assumption)
                                    have q195 : x17_5 < (t189.length : Int) := of_decide_eq_true (by first | (with_reducible assumption) | assumption)
                                    obtain ⟨ad195, e195, hx195_0⟩ := Kd.at_c64 (Kd.R_reads' HO_14.out).2.2 x17_5 p195 q195
                                    cases e195
                                    replace p195 := eq_true p195
                                    replace q195 := eq_true q195
                                    go_wp2_with (first | ((with_reducible refine gate_callee (f := 18) rfl ?_); refine goesL_ (some 118) rfl rfl Try.func18 (by kernel_rfl) rfl #[.complex .f32 ((rdOf c64z t189 x17_5).re) ((rdOf c64z t189 x17_5).im), .complex .f32 0 0] rfl (by (try simp only [List.map_toArray, List.map_cons, List.map_nil]); first | done | rfl | (simp only [List.length_drop, List.length_take]; rfl)) ?_; (with_reducible refine (impl_SameComplex.calls kj41 (rdOf c64z t189 x17_5) (⟨0, 0⟩ : C64) true _ A49.out).mono ?_); rintro e w51 ⟨rfl, hb⟩; refine ⟨_, rfl, ?_⟩; have n0_ := Aside0.mk (Kd.R_below (by (with_reducible repeat (first | apply Kd.R_alloc | apply Kd.R_drewN | apply Kd.R_drew)); exact HO_5.out) hb); have n1_ := Aside0.mk (Kd.R_below (by (with_reducible repeat (first | apply Kd.R_alloc | apply Kd.R_drewN | apply Kd.R_drew)); exact HO_12.out) hb); have n2_ := Aside0.mk (Kd.R_below (by (with_reducible repeat (first | apply Kd.R_alloc | apply Kd.R_drewN | apply Kd.R_drew)); exact HO_14.out) hb); have n3_ := Aside0.mk (below_step (by repeat (first | (with_reducible first | exact HB.out | apply below_alloc | apply pw_below_drewN | apply below_drew1) | exact HB.out)) hb); clear HO_5; clear HO_12; clear HO_14; clear HB; have HO_5 := n0_; have HO_12 := n1_; have HO_14 := n2_; have HB := n3_; clear n0_ n1_ n2_ n3_; (try clear hb); (try clear hb2); (try clear hk); (try clear hi)))
                                    go_roundg kj41
                                    case measure => have := HJ8.out; have := HJ15.out; have := HK3.out; have := HJ32.out; have := HK5.out; have := HJ41.out; omega
                                    case rel => exact ⟨(wrap64 (x16_5 + 1)), (wrap64 (x17_5 + 1)), (by first | rfl | (simp; done) | (simp [*]; done)), (by first | rfl | (simp; done) | (simp [*]; done)), H', ⟨by have := HJ8.out; have := HJ15.out; have := HK3.out; have := HJ32.out; have := HK5.out; have := HJ41.out; omega⟩, ⟨by (with_reducible repeat (first | apply Kd.R_alloc | apply Kd.R_drewN | apply Kd.R_drew)); exact HO_5.out⟩, ⟨by (with_reducible repeat (first | apply Kd.R_alloc | apply Kd.R_drewN | apply Kd.R_drew)); exact HO_12.out⟩, ⟨by (with_reducible repeat (first | apply Kd.R_alloc | apply Kd.R_drewN | apply Kd.R_drew)); exact HO_14.out⟩, ⟨by repeat (first | (with_reducible first | exact HB.out | apply below_alloc | apply pw_below_drewN | apply below_drew1) | exact HB.out)⟩⟩
                                 · replace c50 := Bool.eq_false_iff.mpr c50
                                   subst c50
                                   have H1 : (none) = some r := by rw [if_neg (show ¬ (false = true) by decide)] at H; exact H
                                   clear H
                                   have H := H1
                                   clear H1
                                   exact absurd H (by simp)
                               · rw [if_neg c48] at H
                                 exact absurd H (by simp)
                             · rw [if_neg c47] at H
                               exact absurd H (by simp)
                           · replace c46 := Bool.eq_false_iff.mpr c46
                             subst c46
                             have H1 : (if 0 ≤ x17_5 then (if x17_5 < (t189.length : Int) then ((impl_SameComplex.f kj41 (rdOf c64z t189 x17_5) (rdOf c64z t170 x17_5)).bind fun t198 => (if t198 = true then (laws_FnNormed.l1 kj41 t170 x12_3 t189 x16_5 (wrap64 (x17_5 + 1))) else (none))) else (none)) else (none)) = some r := by rw [if_neg (show ¬ (false = true) by decide)] at H; exact H
                             clear H
                             have H := H1
                             clear H1
                             by_cases c52 : 0 ≤ x17_5
                             · rw [if_pos c52] at H
                               have c52b0 : decide (0 ≤ x17_5) = true := decide_eq_true c52
                               clear c52
                               by_cases c53 : x17_5 < (t189.length : Int)
                               · rw [if_pos c53] at H
                                 have c53b0 : decide (x17_5 < (t189.length : Int)) = true := decide_eq_true c53
                                 clear c53
                                 replace H := Option.bind_eq_some_iff.mp H
                                 obtain ⟨t198, A540, H⟩ := H
                                 replace H : (if t198 = true then (laws_FnNormed.l1 kj41 t170 x12_3 t189 x16_5 (wrap64 (x17_5 + 1))) else (none)) = some r := H
                                 have A54 := Aside0.mk A540
                                 clear A540
                                 by_cases c55 : t198 = true
                                 · subst c55
                                   have H1 : (laws_FnNormed.l1 kj41 t170 x12_3 t189 x16_5 (wrap64 (x17_5 + 1))) = some r := by rw [if_pos rfl] at H; exact H
                                   clear H
                                   have H := H1
                                   clear H1
                                   as_aux_lemma =>
                                    have H' := Aside0.mk H
                                    clear H
                                    have p197 : 0 ≤ (x17_5 : Int) := of_decide_eq_true (by first | (with_reducible assumption) | assumption)
                                    have q197 : x17_5 < (t189.length : Int) := of_decide_eq_true (by first | (with_reducible assumption) | assumption)
                                    obtain ⟨ad197, e197, hx197_0⟩ := Kd.at_c64 (Kd.R_reads' HO_14.out).2.2 x17_5 p197 q197
                                    cases e197
                                    replace p197 := eq_true p197
                                    replace q197 := eq_true q197
                                    go_wp2_with (first | ((with_reducible refine gate_callee (f := 18) rfl ?_); refine goesL_ (some 118) rfl rfl Try.func18 (by kernel_rfl) rfl #[.complex .f32 ((rdOf c64z t189 x17_5).re) ((rdOf c64z t189 x17_5).im), .complex .f32 ((rdOf c64z t170 x17_5).re) ((rdOf c64z t170 x17_5).im)] rfl (by (try simp only [List.map_toArray, List.map_cons, List.map_nil]); first | done | rfl | (simp only [List.length_drop, List.length_take]; rfl)) ?_; (with_reducible refine (impl_SameComplex.calls kj41 (rdOf c64z t189 x17_5) (rdOf c64z t170 x17_5) true _ A54.out).mono ?_); rintro e w56 ⟨rfl, hb⟩; refine ⟨_, rfl, ?_⟩; have n0_ := Aside0.mk (Kd.R_below (by (with_reducible repeat (first | apply Kd.R_alloc | apply Kd.R_drewN | apply Kd.R_drew)); exact HO_5.out) hb); have n1_ := Aside0.mk (Kd.R_below (by (with_reducible repeat (first | apply Kd.R_alloc | apply Kd.R_drewN | apply Kd.R_drew)); exact HO_12.out) hb); have n2_ := Aside0.mk (Kd.R_below (by (with_reducible repeat (first | apply Kd.R_alloc | apply Kd.R_drewN | apply Kd.R_drew)); exact HO_14.out) hb); have n3_ := Aside0.mk (below_step (by repeat (first | (with_reducible first | exact HB.out | apply below_alloc | apply pw_below_drewN | apply below_drew1) | exact HB.out)) hb); clear HO_5; clear HO_12; clear HO_14; clear HB; have HO_5 := n0_; have HO_12 := n1_; have HO_14 := n2_; have HB := n3_; clear n0_ n1_ n2_ n3_; (try clear hb); (try clear hb2); (try clear hk); (try clear hi)))
                                    go_roundg kj41
                                    case measure => have := HJ8.out; have := HJ15.out; have := HK3.out; have := HJ32.out; have := HK5.out; have := HJ41.out; omega
                                    case rel => exact ⟨(x16_5), (wrap64 (x17_5 + 1)), (by first | rfl | (simp; done) | (simp [*]; done)), (by first | rfl | (simp; done) | (simp [*]; done)), H', ⟨by have := HJ8.out; have := HJ15.out; have := HK3.out; have := HJ32.out; have := HK5.out; have := HJ41.out; omega⟩, ⟨by (with_reducible repeat (first | apply Kd.R_alloc | apply Kd.R_drewN | apply Kd.R_drew)); exact HO_5.out⟩, ⟨by (with_reducible repeat (first | apply Kd.R_alloc | apply Kd.R_drewN | apply Kd.R_drew)); exact HO_12.out⟩, ⟨by (with_reducible repeat (first | apply Kd.R_alloc | apply Kd.R_drewN | apply Kd.R_drew)); exact HO_14.out⟩, ⟨by repeat (first | (with_reducible first | exact HB.out | apply below_alloc | apply pw_below_drewN | apply below_drew1) | exact HB.out)⟩⟩
                                 · replace c55 := Bool.eq_false_iff.mpr c55
                                   subst c55
                                   have H1 : (none) = some r := by rw [if_neg (show ¬ (false = true) by decide)] at H; exact H
                                   clear H
                                   have H := H1
                                   clear H1
                                   exact absurd H (by simp)
                               · rw [if_neg c53] at H
                                 exact absurd H (by simp)
                             · rw [if_neg c52] at H
                               exact absurd H (by simp)
                       · rw [if_neg c41] at H
                         exact absurd H (by simp)
                     · rw [if_neg c40] at H
                       exact absurd H (by simp)
                   · rw [if_neg c39] at H
                     have c39b0 : decide (x17_5 < (t189.length : Int)) = false := decide_eq_false c39
                     clear c39
                     as_aux_lemma =>
                      obtain rfl := Option.some.inj H
                      obtain ⟨Ao57, co57, eo57⟩ := Kd.R_slice HO_14.out
                      subst eo57
                      go_wp2
                      go_ret
                      exact ⟨by first | rfl | (simp [errW_none, errW_some] <;> rfl) | (simp [*, errW_none, errW_some] <;> rfl), by repeat (first | (with_reducible first | exact HB.out | apply below_alloc | apply pw_below_drewN | apply below_drew1) | exact HB.out)⟩

/-- THE ONE PURE STATEMENT of laws_FnNormed: yours. -/
def laws_FnNormed.Pure : Prop := ∀ (l0 : List Int) (l1 : List Int), l0.length ≤ maxLen → l0.length * 1 ≤ 140737488351232 → (∀ x ∈ l0, (Lit.int .u8 x).wf = true) → l1.length ≤ maxLen → l1.length * 1 ≤ 140737488351232 → (∀ x ∈ l1, (Lit.int .u8 x).wf = true) → ∃ k, laws_FnNormed.f k l0 l1 = some true
theorem laws_FnNormed.walk (P : laws_FnNormed.Pure) (a0 : Option Addr) (len0 cap0 : Nat) (z0 : List Int) (a1 : Option Addr) (len1 cap1 : Nat) (z1 : List Int) (w : World) (w0 : (a0 = none ∧ len0 = 0 ∧ cap0 = 0 ∧ z0 = []) ∨ ∃ x, a0 = some x ∧ len0 ≤ cap0 ∧ cap0 ≤ maxLen ∧ z0.length = cap0 ∧ (∀ i, i < z0.length → w.cell? (x.add i) = some (.int .u8 (z0.getD i 0))) ∧ ∀ n ∈ z0, (Lit.int .u8 n).wf = true) (y0 : len0 * 1 ≤ 140737488351232) (w1 : (a1 = none ∧ len1 = 0 ∧ cap1 = 0 ∧ z1 = []) ∨ ∃ x, a1 = some x ∧ len1 ≤ cap1 ∧ cap1 ≤ maxLen ∧ z1.length = cap1 ∧ (∀ i, i < z1.length → w.cell? (x.add i) = some (.int .u8 (z1.getD i 0))) ∧ ∀ n ∈ z1, (Lit.int .u8 n).wf = true) (y1 : len1 * 1 ≤ 140737488351232) :
 Calls Try.prog 4 #[.slice a0 len0 cap0, .slice a1 len1 cap1] w fun e w' => e = .returned (.bool true) ∧ Below w.heap.size w w' := by
 obtain ⟨l0, rfl, hr0, hm0, hw0, hc0⟩ := ReadsInt.ofRowC w0
 obtain ⟨l1, rfl, hr1, hm1, hw1, hc1⟩ := ReadsInt.ofRowC w1
 obtain ⟨k, h⟩ := P l0 l1 hm0 y0 hw0 hm1 y1 hw1
 refine (laws_FnNormed.calls k _ _ l0 _ _ l1 true w (Kd.C_of_reads (d := (0 : Int)) (h1 := fun _ => rfl) hr0) hc0 (Kd.C_of_reads (d := (0 : Int)) (h1 := fun _ => rfl) hr1) hc1 h).mono ?_
 rintro e w' ⟨rfl, hd⟩
 exact ⟨rfl, hd⟩

end Go.Proofs.Ytnfcbacdggkfeaa.N
