/-
  Contracts of the program's functions, each a plain Lean function beside the machine's call: written by this session's program over the kit's print.
-/
import Derived.Test.YtekcngoemeadlaaZx0
import Derived.Test.YtekcngoemeadlaaZx1
import Derived.Test.YtekcngoemeadlaaZx2
import Derived.Test.YtekcngoemeadlaaZx3
import Derived.Test.YtekcngoemeadlaaZx4
import Derived.Test.YtekcngoemeadlaaZx5
namespace Go.Proofs.Ytekcngoemeadlaa.Z
open Go.RowKit Go.Proofs.YtekcngoemeadlaaW.PrintWords Go.Proofs.YtekcngoemeadlaaW.PrintLast Go.Proofs.YtekcngoemeadlaaW.PrintMore
attribute [local go_sem] max2_int min2_int max_two min_two max_three min_three max_four min_four   -- for this text's walks alone
set_option linter.unusedVariables false
set_option linter.unusedSimpArgs false

/-! ### laws_FnPlans: function 12 -/
mutual
def laws_FnPlans.j0 : Nat → List (S54) → Int → List (S81) → List Int → List Int → Int → Int → Int → Int → Bool → Option (Bool)
 | 0, _, _, _, _, _, _, _, _, _, _ => none
 | k + 1, x5, x6, x7, x9, x11, x13, x14, x16, x17, x120 => if x120 = true then (none) else (laws_FnPlans.l0 k x5 x6 x7 x9 x11 x13 x14 x16 x17 0 (x5.length : Int) 0)
def laws_FnPlans.l0 : Nat → List (S54) → Int → List (S81) → List Int → List Int → Int → Int → Int → Int → Nat → Int → Int → Option (Bool)
 | 0, _, _, _, _, _, _, _, _, _, _, _, _ => none
 | k + 1, x5, x6, x7, x9, x11, x13, x14, x16, x17, x19, x122, x123 => if x123 < x122 then (if 0 ≤ x123 then (if x123 < (x5.length : Int) then (if FOk .quo .f64 (floatOfInt .f64 ((rd_T54 x5 x123).f1)) (floatOfInt .f64 ((rd_T54 x5 x123).f2)) = true then (if FOk .add .f64 x19 (fq .quo .f64 (floatOfInt .f64 ((rd_T54 x5 x123).f1)) (floatOfInt .f64 ((rd_T54 x5 x123).f2))) = true then (laws_FnPlans.l0 k x5 x6 x7 x9 x11 x13 x14 x16 x17 (fq .add .f64 x19 (fq .quo .f64 (floatOfInt .f64 ((rd_T54 x5 x123).f1)) (floatOfInt .f64 ((rd_T54 x5 x123).f2)))) x122 (wrap64 (x123 + 1))) else (none)) else (none)) else (none)) else (none)) else (if FOk .quo .f64 (floatOfInt .f64 x16) (floatOfInt .f64 x17) = true then ((laws_b10Gap.f (fq .quo .f64 (floatOfInt .f64 x16) (floatOfInt .f64 x17)) x19).bind fun t250 => (if (FloatKind.f64.format.order t250 4517329193108106637 == some .gt) = true then (none) else (if 0 ≤ (x5.length : Int) then (if ((x5.length : Int) : Int).toNat ≤ 35184372088832 then (laws_FnPlans.l1 k x5 x6 x7 x9 x11 x13 x14 (List.replicate ((x5.length : Int) : Int).toNat 0) (List.replicate ((x5.length : Int) : Int).toNat 0) 0 0 (x7.length : Int) 0) else (none)) else (none)))) else (none))
def laws_FnPlans.l1 : Nat → List (S54) → Int → List (S81) → List Int → List Int → Int → Int → List Int → List Int → Int → Int → Int → Int → Option (Bool)
 | 0, _, _, _, _, _, _, _, _, _, _, _, _, _ => none
 | k + 1, x5, x6, x7, x9, x11, x13, x14, x21, x22, x23, x24, x157, x158 => if x158 < x157 then (if 0 ≤ x158 then (if x158 < (x7.length : Int) then (if ((rd_T81 x7 x158).f0) < 0 then (none) else (if ((rd_T81 x7 x158).f0) ≥ (x5.length : Int) then (none) else (if ((rd_T81 x7 x158).f1) ≥ x6 then (none) else (if 0 ≤ ((rd_T81 x7 x158).f0) then (if ((rd_T81 x7 x158).f0) < (x21.length : Int) then (if ((rd_T81 x7 x158).f0) < (x5.length : Int) then (laws_FnPlans.j3 k x5 x6 x7 x9 x11 x13 x14 x21 x22 x23 x24 x158 ((rd_T81 x7 x158).f0) x157 x158 (decide (((rd_T81 x7 x158).f1) < (wrap64 ((rd x21 ((rd_T81 x7 x158).f0)) * ((rd_T54 x5 ((rd_T81 x7 x158).f0)).f2)))))) else (none)) else (none)) else (none))))) else (none)) else (none)) else (laws_FnPlans.l2 k x5 x6 x11 x13 x14 x22 x23 x24 (x5.length : Int) 0)
def laws_FnPlans.j3 : Nat → List (S54) → Int → List (S81) → List Int → List Int → Int → Int → List Int → List Int → Int → Int → Int → Int → Int → Int → Bool → Option (Bool)
 | 0, _, _, _, _, _, _, _, _, _, _, _, _, _, _, _, _ => none
 | k + 1, x5, x6, x7, x9, x11, x13, x14, x21, x22, x23, x24, x25, x26, x157, x158, x200 => if x200 = true then (none) else (if 0 ≤ x26 then (if x26 < (x21.length : Int) then ((some (x21.set (x26 : Int).toNat (wrap64 ((rd x21 x26) + 1)) : List Int)).bind fun y263 => (if 0 ≤ x25 then (if x25 < (x7.length : Int) then (if x26 < (x5.length : Int) then (if x25 < (x9.length : Int) then (if (rd x9 x25) = (mx 0 (wrap64 ((wrap64 (((rd_T81 x7 x25).f1) + ((rd_T54 x5 x26).f1))) - (wrap64 ((rd y263 x26) * ((rd_T54 x5 x26).f2)))))) then (if (wrap64 (((rd_T81 x7 x25).f1) + ((rd_T54 x5 x26).f1))) ≤ x6 then (if x26 < (x22.length : Int) then (laws_FnPlans.j4 k x5 x6 x7 x9 x11 x13 x14 y263 (x22.set (x26 : Int).toNat (wrap64 ((rd x22 x26) + 1))) x23 x24 x25 x26 x157 x158) else (none)) else (laws_FnPlans.j4 k x5 x6 x7 x9 x11 x13 x14 y263 x22 x23 x24 x25 x26 x157 x158)) else (none)) else (none)) else (none)) else (none)) else (none))) else (none)) else (none))
def laws_FnPlans.j4 : Nat → List (S54) → Int → List (S81) → List Int → List Int → Int → Int → List Int → List Int → Int → Int → Int → Int → Int → Int → Option (Bool)
 | 0, _, _, _, _, _, _, _, _, _, _, _, _, _, _, _ => none
 | k + 1, x5, x6, x7, x9, x11, x13, x14, x21, x22, x23, x24, x25, x26, x157, x158 => if 0 ≤ x26 then (if x26 < (x5.length : Int) then (if x25 > 0 then (if 0 ≤ (wrap64 (x25 - 1)) then (if (wrap64 (x25 - 1)) < (x7.length : Int) then (if 0 ≤ ((rd_T81 x7 (wrap64 (x25 - 1))).f0) then (if ((rd_T81 x7 (wrap64 (x25 - 1))).f0) < (x5.length : Int) then ((impl_SwitchTicks.f ((rd_T54 x5 ((rd_T81 x7 (wrap64 (x25 - 1))).f0)).f0.f0) ((rd_T54 x5 ((rd_T81 x7 (wrap64 (x25 - 1))).f0)).f0.f1) ((rd_T54 x5 x26).f0.f0) ((rd_T54 x5 x26).f0.f1)).bind fun bt275 => (if bt275.2 = true then (if 0 ≤ x25 then (if x25 < (x7.length : Int) then (if ((rd_T81 x7 x25).f1) < (wrap64 ((wrap64 (((rd_T81 x7 (wrap64 (x25 - 1))).f1) + ((rd_T54 x5 ((rd_T81 x7 (wrap64 (x25 - 1))).f0)).f1))) + bt275.1)) then (none) else (laws_FnPlans.l1 k x5 x6 x7 x9 x11 x13 x14 x21 x22 (wrap64 (x23 + ((rd_T54 x5 x26).f1))) (wrap64 (x24 + bt275.1)) x157 (wrap64 (x158 + 1)))) else (none)) else (none)) else (none))) else (none)) else (none)) else (none)) else (none)) else (laws_FnPlans.l1 k x5 x6 x7 x9 x11 x13 x14 x21 x22 (wrap64 (x23 + ((rd_T54 x5 x26).f1))) x24 x157 (wrap64 (x158 + 1)))) else (none)) else (none)
def laws_FnPlans.l2 : Nat → List (S54) → Int → List Int → Int → Int → List Int → Int → Int → Int → Int → Option (Bool)
 | 0, _, _, _, _, _, _, _, _, _, _ => none
 | k + 1, x5, x6, x11, x13, x14, x22, x23, x24, x307, x308 => if x308 < x307 then (if 0 ≤ x308 then (if x308 < (x11.length : Int) then (if x308 < (x5.length : Int) then (if ((rd_T54 x5 x308).f2) = 0 then (none) else (if x308 < (x22.length : Int) then (if (rd x11 x308) = (mx 0 (wrap64 ((wrap64 (Int.tdiv x6 ((rd_T54 x5 x308).f2))) - (rd x22 x308)))) then (laws_FnPlans.l2 k x5 x6 x11 x13 x14 x22 x23 x24 x307 (wrap64 (x308 + 1))) else (none)) else (none))) else (none)) else (none)) else (none)) else (if x23 = x13 then (some (x24 == x14)) else (none))
end
def laws_FnPlans.f (k : Nat) (l0 : List Int) (l1 : List Int) : Option (Bool) := (laws_b10Long.f l0 l1).bind fun t223 => (if t223 = true then (some true) else ((spec_B10Beams.f k l0).bind fun t224 => ((laws_b10At.f l1 0 100).bind fun t227 => ((impl_PlanBeams.f k t224 t227).bind fun bt228 => ((impl_LatenessOf.f k t224 bt228.1).bind fun bt232 => ((impl_MissedOf.f k t224 bt228.1 t227).bind fun bt236 => ((impl_BusyTicks.f k t224 bt228.1).bind fun bt240 => ((impl_LoadOf.f k t224).bind fun bt243 => (if bt228.2 = true then (if bt232.2 = true then (if bt236.2 = true then (if bt240.2.2 = true then (if bt243.2.2 = true then ((impl_AreBeams.f k t224).bind fun t246 => (if t246 = true then ((impl_IsPlan.f k t224 bt228.1).bind fun t247 => (if t247 = true then (if (bt232.1.length : Int) = (bt228.1.length : Int) then (if (bt236.1.length : Int) = (t224.length : Int) then (if bt243.1 < 1 then (none) else (laws_FnPlans.j0 k t224 t227 bt228.1 bt232.1 bt236.1 bt240.1 bt240.2.1 bt243.1 bt243.2.1 (decide (bt243.2.1 < 1)))) else (none)) else (none)) else (none))) else (none))) else (none)) else (none)) else (none)) else (none)) else (none))))))))))
theorem laws_FnPlans.mono_l : ∀ k, (∀ y0 y1 y2 y3 y4 y5 y6 y7 y8 y9, LeO (laws_FnPlans.j0 k y0 y1 y2 y3 y4 y5 y6 y7 y8 y9) (laws_FnPlans.j0 (k + 1) y0 y1 y2 y3 y4 y5 y6 y7 y8 y9)) ∧ (∀ y0 y1 y2 y3 y4 y5 y6 y7 y8 y9 y10 y11, LeO (laws_FnPlans.l0 k y0 y1 y2 y3 y4 y5 y6 y7 y8 y9 y10 y11) (laws_FnPlans.l0 (k + 1) y0 y1 y2 y3 y4 y5 y6 y7 y8 y9 y10 y11)) ∧ (∀ y0 y1 y2 y3 y4 y5 y6 y7 y8 y9 y10 y11 y12, LeO (laws_FnPlans.l1 k y0 y1 y2 y3 y4 y5 y6 y7 y8 y9 y10 y11 y12) (laws_FnPlans.l1 (k + 1) y0 y1 y2 y3 y4 y5 y6 y7 y8 y9 y10 y11 y12)) ∧ (∀ y0 y1 y2 y3 y4 y5 y6 y7 y8 y9 y10 y11 y12 y13 y14 y15, LeO (laws_FnPlans.j3 k y0 y1 y2 y3 y4 y5 y6 y7 y8 y9 y10 y11 y12 y13 y14 y15) (laws_FnPlans.j3 (k + 1) y0 y1 y2 y3 y4 y5 y6 y7 y8 y9 y10 y11 y12 y13 y14 y15)) ∧ (∀ y0 y1 y2 y3 y4 y5 y6 y7 y8 y9 y10 y11 y12 y13 y14, LeO (laws_FnPlans.j4 k y0 y1 y2 y3 y4 y5 y6 y7 y8 y9 y10 y11 y12 y13 y14) (laws_FnPlans.j4 (k + 1) y0 y1 y2 y3 y4 y5 y6 y7 y8 y9 y10 y11 y12 y13 y14)) ∧ (∀ y0 y1 y2 y3 y4 y5 y6 y7 y8 y9, LeO (laws_FnPlans.l2 k y0 y1 y2 y3 y4 y5 y6 y7 y8 y9) (laws_FnPlans.l2 (k + 1) y0 y1 y2 y3 y4 y5 y6 y7 y8 y9))
 | 0 => ⟨fun _ _ _ _ _ _ _ _ _ _ r h => by simp [laws_FnPlans.j0] at h, fun _ _ _ _ _ _ _ _ _ _ _ _ r h => by simp [laws_FnPlans.l0] at h, fun _ _ _ _ _ _ _ _ _ _ _ _ _ r h => by simp [laws_FnPlans.l1] at h, fun _ _ _ _ _ _ _ _ _ _ _ _ _ _ _ _ r h => by simp [laws_FnPlans.j3] at h, fun _ _ _ _ _ _ _ _ _ _ _ _ _ _ _ r h => by simp [laws_FnPlans.j4] at h, fun _ _ _ _ _ _ _ _ _ _ r h => by simp [laws_FnPlans.l2] at h⟩
 | k + 1 => by
  obtain ⟨ih0, ih1, ih2, ih3, ih4, ih5⟩ := laws_FnPlans.mono_l k
  refine ⟨?_, ?_, ?_, ?_, ?_, ?_⟩
  · intro y0 y1 y2 y3 y4 y5 y6 y7 y8 y9
    unfold laws_FnPlans.j0
    repeat' first
    | (with_reducible exact ih0 _ _ _ _ _ _ _ _ _ _)
    | (with_reducible exact ih1 _ _ _ _ _ _ _ _ _ _ _ _)
    | (with_reducible exact ih2 _ _ _ _ _ _ _ _ _ _ _ _ _)
    | (with_reducible exact ih3 _ _ _ _ _ _ _ _ _ _ _ _ _ _ _ _)
    | (with_reducible exact ih4 _ _ _ _ _ _ _ _ _ _ _ _ _ _ _)
    | (with_reducible exact ih5 _ _ _ _ _ _ _ _ _ _)
    | (with_reducible exact impl_AreBeams.mono _ _)
    | (with_reducible exact impl_BusyTicks.mono _ _ _)
    | (with_reducible exact impl_IsPlan.mono _ _ _)
    | (with_reducible exact impl_LatenessOf.mono _ _ _)
    | (with_reducible exact impl_LoadOf.mono _ _)
    | (with_reducible exact impl_MissedOf.mono _ _ _ _)
    | (with_reducible exact impl_PlanBeams.mono _ _ _)
    | (with_reducible exact spec_B10Beams.mono _ _)
    | (with_reducible exact LeO.refl _)
    | (with_reducible exact LeO.none _)
    | (with_reducible refine LeO.ite ?_ ?_)
    | (with_reducible refine LeO.bind ?_ (fun _ => ?_))
    | exact ih0 _ _ _ _ _ _ _ _ _ _
    | exact ih1 _ _ _ _ _ _ _ _ _ _ _ _
    | exact ih2 _ _ _ _ _ _ _ _ _ _ _ _ _
    | exact ih3 _ _ _ _ _ _ _ _ _ _ _ _ _ _ _ _
    | exact ih4 _ _ _ _ _ _ _ _ _ _ _ _ _ _ _
    | exact ih5 _ _ _ _ _ _ _ _ _ _
    | exact impl_AreBeams.mono _ _
    | exact impl_BusyTicks.mono _ _ _
    | exact impl_IsPlan.mono _ _ _
    | exact impl_LatenessOf.mono _ _ _
    | exact impl_LoadOf.mono _ _
    | exact impl_MissedOf.mono _ _ _ _
    | exact impl_PlanBeams.mono _ _ _
    | exact spec_B10Beams.mono _ _
    | exact LeO.none _
    | refine LeO.ite ?_ ?_
    | refine LeO.bind ?_ (fun _ => ?_)
  · intro y0 y1 y2 y3 y4 y5 y6 y7 y8 y9 y10 y11
    unfold laws_FnPlans.l0
    repeat' first
    | (with_reducible exact ih0 _ _ _ _ _ _ _ _ _ _)
    | (with_reducible exact ih1 _ _ _ _ _ _ _ _ _ _ _ _)
    | (with_reducible exact ih2 _ _ _ _ _ _ _ _ _ _ _ _ _)
    | (with_reducible exact ih3 _ _ _ _ _ _ _ _ _ _ _ _ _ _ _ _)
    | (with_reducible exact ih4 _ _ _ _ _ _ _ _ _ _ _ _ _ _ _)
    | (with_reducible exact ih5 _ _ _ _ _ _ _ _ _ _)
    | (with_reducible exact impl_AreBeams.mono _ _)
    | (with_reducible exact impl_BusyTicks.mono _ _ _)
    | (with_reducible exact impl_IsPlan.mono _ _ _)
    | (with_reducible exact impl_LatenessOf.mono _ _ _)
    | (with_reducible exact impl_LoadOf.mono _ _)
    | (with_reducible exact impl_MissedOf.mono _ _ _ _)
    | (with_reducible exact impl_PlanBeams.mono _ _ _)
    | (with_reducible exact spec_B10Beams.mono _ _)
    | (with_reducible exact LeO.refl _)
    | (with_reducible exact LeO.none _)
    | (with_reducible refine LeO.ite ?_ ?_)
    | (with_reducible refine LeO.bind ?_ (fun _ => ?_))
    | exact ih0 _ _ _ _ _ _ _ _ _ _
    | exact ih1 _ _ _ _ _ _ _ _ _ _ _ _
    | exact ih2 _ _ _ _ _ _ _ _ _ _ _ _ _
    | exact ih3 _ _ _ _ _ _ _ _ _ _ _ _ _ _ _ _
    | exact ih4 _ _ _ _ _ _ _ _ _ _ _ _ _ _ _
    | exact ih5 _ _ _ _ _ _ _ _ _ _
    | exact impl_AreBeams.mono _ _
    | exact impl_BusyTicks.mono _ _ _
    | exact impl_IsPlan.mono _ _ _
    | exact impl_LatenessOf.mono _ _ _
    | exact impl_LoadOf.mono _ _
    | exact impl_MissedOf.mono _ _ _ _
    | exact impl_PlanBeams.mono _ _ _
    | exact spec_B10Beams.mono _ _
    | exact LeO.none _
    | refine LeO.ite ?_ ?_
    | refine LeO.bind ?_ (fun _ => ?_)
  · intro y0 y1 y2 y3 y4 y5 y6 y7 y8 y9 y10 y11 y12
    unfold laws_FnPlans.l1
    repeat' first
    | (with_reducible exact ih0 _ _ _ _ _ _ _ _ _ _)
    | (with_reducible exact ih1 _ _ _ _ _ _ _ _ _ _ _ _)
    | (with_reducible exact ih2 _ _ _ _ _ _ _ _ _ _ _ _ _)
    | (with_reducible exact ih3 _ _ _ _ _ _ _ _ _ _ _ _ _ _ _ _)
    | (with_reducible exact ih4 _ _ _ _ _ _ _ _ _ _ _ _ _ _ _)
    | (with_reducible exact ih5 _ _ _ _ _ _ _ _ _ _)
    | (with_reducible exact impl_AreBeams.mono _ _)
    | (with_reducible exact impl_BusyTicks.mono _ _ _)
    | (with_reducible exact impl_IsPlan.mono _ _ _)
    | (with_reducible exact impl_LatenessOf.mono _ _ _)
    | (with_reducible exact impl_LoadOf.mono _ _)
    | (with_reducible exact impl_MissedOf.mono _ _ _ _)
    | (with_reducible exact impl_PlanBeams.mono _ _ _)
    | (with_reducible exact spec_B10Beams.mono _ _)
    | (with_reducible exact LeO.refl _)
    | (with_reducible exact LeO.none _)
    | (with_reducible refine LeO.ite ?_ ?_)
    | (with_reducible refine LeO.bind ?_ (fun _ => ?_))
    | exact ih0 _ _ _ _ _ _ _ _ _ _
    | exact ih1 _ _ _ _ _ _ _ _ _ _ _ _
    | exact ih2 _ _ _ _ _ _ _ _ _ _ _ _ _
    | exact ih3 _ _ _ _ _ _ _ _ _ _ _ _ _ _ _ _
    | exact ih4 _ _ _ _ _ _ _ _ _ _ _ _ _ _ _
    | exact ih5 _ _ _ _ _ _ _ _ _ _
    | exact impl_AreBeams.mono _ _
    | exact impl_BusyTicks.mono _ _ _
    | exact impl_IsPlan.mono _ _ _
    | exact impl_LatenessOf.mono _ _ _
    | exact impl_LoadOf.mono _ _
    | exact impl_MissedOf.mono _ _ _ _
    | exact impl_PlanBeams.mono _ _ _
    | exact spec_B10Beams.mono _ _
    | exact LeO.none _
    | refine LeO.ite ?_ ?_
    | refine LeO.bind ?_ (fun _ => ?_)
  · intro y0 y1 y2 y3 y4 y5 y6 y7 y8 y9 y10 y11 y12 y13 y14 y15
    unfold laws_FnPlans.j3
    repeat' first
    | (with_reducible exact ih0 _ _ _ _ _ _ _ _ _ _)
    | (with_reducible exact ih1 _ _ _ _ _ _ _ _ _ _ _ _)
    | (with_reducible exact ih2 _ _ _ _ _ _ _ _ _ _ _ _ _)
    | (with_reducible exact ih3 _ _ _ _ _ _ _ _ _ _ _ _ _ _ _ _)
    | (with_reducible exact ih4 _ _ _ _ _ _ _ _ _ _ _ _ _ _ _)
    | (with_reducible exact ih5 _ _ _ _ _ _ _ _ _ _)
    | (with_reducible exact impl_AreBeams.mono _ _)
    | (with_reducible exact impl_BusyTicks.mono _ _ _)
    | (with_reducible exact impl_IsPlan.mono _ _ _)
    | (with_reducible exact impl_LatenessOf.mono _ _ _)
    | (with_reducible exact impl_LoadOf.mono _ _)
    | (with_reducible exact impl_MissedOf.mono _ _ _ _)
    | (with_reducible exact impl_PlanBeams.mono _ _ _)
    | (with_reducible exact spec_B10Beams.mono _ _)
    | (with_reducible exact LeO.refl _)
    | (with_reducible exact LeO.none _)
    | (with_reducible refine LeO.ite ?_ ?_)
    | (with_reducible refine LeO.bind ?_ (fun _ => ?_))
    | exact ih0 _ _ _ _ _ _ _ _ _ _
    | exact ih1 _ _ _ _ _ _ _ _ _ _ _ _
    | exact ih2 _ _ _ _ _ _ _ _ _ _ _ _ _
    | exact ih3 _ _ _ _ _ _ _ _ _ _ _ _ _ _ _ _
    | exact ih4 _ _ _ _ _ _ _ _ _ _ _ _ _ _ _
    | exact ih5 _ _ _ _ _ _ _ _ _ _
    | exact impl_AreBeams.mono _ _
    | exact impl_BusyTicks.mono _ _ _
    | exact impl_IsPlan.mono _ _ _
    | exact impl_LatenessOf.mono _ _ _
    | exact impl_LoadOf.mono _ _
    | exact impl_MissedOf.mono _ _ _ _
    | exact impl_PlanBeams.mono _ _ _
    | exact spec_B10Beams.mono _ _
    | exact LeO.none _
    | refine LeO.ite ?_ ?_
    | refine LeO.bind ?_ (fun _ => ?_)
  · intro y0 y1 y2 y3 y4 y5 y6 y7 y8 y9 y10 y11 y12 y13 y14
    unfold laws_FnPlans.j4
    repeat' first
    | (with_reducible exact ih0 _ _ _ _ _ _ _ _ _ _)
    | (with_reducible exact ih1 _ _ _ _ _ _ _ _ _ _ _ _)
    | (with_reducible exact ih2 _ _ _ _ _ _ _ _ _ _ _ _ _)
    | (with_reducible exact ih3 _ _ _ _ _ _ _ _ _ _ _ _ _ _ _ _)
    | (with_reducible exact ih4 _ _ _ _ _ _ _ _ _ _ _ _ _ _ _)
    | (with_reducible exact ih5 _ _ _ _ _ _ _ _ _ _)
    | (with_reducible exact impl_AreBeams.mono _ _)
    | (with_reducible exact impl_BusyTicks.mono _ _ _)
    | (with_reducible exact impl_IsPlan.mono _ _ _)
    | (with_reducible exact impl_LatenessOf.mono _ _ _)
    | (with_reducible exact impl_LoadOf.mono _ _)
    | (with_reducible exact impl_MissedOf.mono _ _ _ _)
    | (with_reducible exact impl_PlanBeams.mono _ _ _)
    | (with_reducible exact spec_B10Beams.mono _ _)
    | (with_reducible exact LeO.refl _)
    | (with_reducible exact LeO.none _)
    | (with_reducible refine LeO.ite ?_ ?_)
    | (with_reducible refine LeO.bind ?_ (fun _ => ?_))
    | exact ih0 _ _ _ _ _ _ _ _ _ _
    | exact ih1 _ _ _ _ _ _ _ _ _ _ _ _
    | exact ih2 _ _ _ _ _ _ _ _ _ _ _ _ _
    | exact ih3 _ _ _ _ _ _ _ _ _ _ _ _ _ _ _ _
    | exact ih4 _ _ _ _ _ _ _ _ _ _ _ _ _ _ _
    | exact ih5 _ _ _ _ _ _ _ _ _ _
    | exact impl_AreBeams.mono _ _
    | exact impl_BusyTicks.mono _ _ _
    | exact impl_IsPlan.mono _ _ _
    | exact impl_LatenessOf.mono _ _ _
    | exact impl_LoadOf.mono _ _
    | exact impl_MissedOf.mono _ _ _ _
    | exact impl_PlanBeams.mono _ _ _
    | exact spec_B10Beams.mono _ _
    | exact LeO.none _
    | refine LeO.ite ?_ ?_
    | refine LeO.bind ?_ (fun _ => ?_)
  · intro y0 y1 y2 y3 y4 y5 y6 y7 y8 y9
    unfold laws_FnPlans.l2
    repeat' first
    | (with_reducible exact ih0 _ _ _ _ _ _ _ _ _ _)
    | (with_reducible exact ih1 _ _ _ _ _ _ _ _ _ _ _ _)
    | (with_reducible exact ih2 _ _ _ _ _ _ _ _ _ _ _ _ _)
    | (with_reducible exact ih3 _ _ _ _ _ _ _ _ _ _ _ _ _ _ _ _)
    | (with_reducible exact ih4 _ _ _ _ _ _ _ _ _ _ _ _ _ _ _)
    | (with_reducible exact ih5 _ _ _ _ _ _ _ _ _ _)
    | (with_reducible exact impl_AreBeams.mono _ _)
    | (with_reducible exact impl_BusyTicks.mono _ _ _)
    | (with_reducible exact impl_IsPlan.mono _ _ _)
    | (with_reducible exact impl_LatenessOf.mono _ _ _)
    | (with_reducible exact impl_LoadOf.mono _ _)
    | (with_reducible exact impl_MissedOf.mono _ _ _ _)
    | (with_reducible exact impl_PlanBeams.mono _ _ _)
    | (with_reducible exact spec_B10Beams.mono _ _)
    | (with_reducible exact LeO.refl _)
    | (with_reducible exact LeO.none _)
    | (with_reducible refine LeO.ite ?_ ?_)
    | (with_reducible refine LeO.bind ?_ (fun _ => ?_))
    | exact ih0 _ _ _ _ _ _ _ _ _ _
    | exact ih1 _ _ _ _ _ _ _ _ _ _ _ _
    | exact ih2 _ _ _ _ _ _ _ _ _ _ _ _ _
    | exact ih3 _ _ _ _ _ _ _ _ _ _ _ _ _ _ _ _
    | exact ih4 _ _ _ _ _ _ _ _ _ _ _ _ _ _ _
    | exact ih5 _ _ _ _ _ _ _ _ _ _
    | exact impl_AreBeams.mono _ _
    | exact impl_BusyTicks.mono _ _ _
    | exact impl_IsPlan.mono _ _ _
    | exact impl_LatenessOf.mono _ _ _
    | exact impl_LoadOf.mono _ _
    | exact impl_MissedOf.mono _ _ _ _
    | exact impl_PlanBeams.mono _ _ _
    | exact spec_B10Beams.mono _ _
    | exact LeO.none _
    | refine LeO.ite ?_ ?_
    | refine LeO.bind ?_ (fun _ => ?_)
theorem laws_FnPlans.mono : ∀ a0 a1 k, LeO (laws_FnPlans.f k a0 a1) (laws_FnPlans.f (k + 1) a0 a1) := by
 intro a0 a1 k
 obtain ⟨ih0, ih1, ih2, ih3, ih4, ih5⟩ := laws_FnPlans.mono_l k
 unfold laws_FnPlans.f
 repeat' first
  | (with_reducible exact ih0 _ _ _ _ _ _ _ _ _ _)
  | (with_reducible exact ih1 _ _ _ _ _ _ _ _ _ _ _ _)
  | (with_reducible exact ih2 _ _ _ _ _ _ _ _ _ _ _ _ _)
  | (with_reducible exact ih3 _ _ _ _ _ _ _ _ _ _ _ _ _ _ _ _)
  | (with_reducible exact ih4 _ _ _ _ _ _ _ _ _ _ _ _ _ _ _)
  | (with_reducible exact ih5 _ _ _ _ _ _ _ _ _ _)
  | (with_reducible exact impl_AreBeams.mono _ _)
  | (with_reducible exact impl_BusyTicks.mono _ _ _)
  | (with_reducible exact impl_IsPlan.mono _ _ _)
  | (with_reducible exact impl_LatenessOf.mono _ _ _)
  | (with_reducible exact impl_LoadOf.mono _ _)
  | (with_reducible exact impl_MissedOf.mono _ _ _ _)
  | (with_reducible exact impl_PlanBeams.mono _ _ _)
  | (with_reducible exact spec_B10Beams.mono _ _)
  | (with_reducible exact LeO.refl _)
  | (with_reducible exact LeO.none _)
  | (with_reducible refine LeO.ite ?_ ?_)
  | (with_reducible refine LeO.bind ?_ (fun _ => ?_))
  | exact ih0 _ _ _ _ _ _ _ _ _ _
  | exact ih1 _ _ _ _ _ _ _ _ _ _ _ _
  | exact ih2 _ _ _ _ _ _ _ _ _ _ _ _ _
  | exact ih3 _ _ _ _ _ _ _ _ _ _ _ _ _ _ _ _
  | exact ih4 _ _ _ _ _ _ _ _ _ _ _ _ _ _ _
  | exact ih5 _ _ _ _ _ _ _ _ _ _
  | exact impl_AreBeams.mono _ _
  | exact impl_BusyTicks.mono _ _ _
  | exact impl_IsPlan.mono _ _ _
  | exact impl_LatenessOf.mono _ _ _
  | exact impl_LoadOf.mono _ _
  | exact impl_MissedOf.mono _ _ _ _
  | exact impl_PlanBeams.mono _ _ _
  | exact spec_B10Beams.mono _ _
  | exact LeO.none _
  | refine LeO.ite ?_ ?_
  | refine LeO.bind ?_ (fun _ => ?_)
def laws_FnPlans.T16 : Bool × List (List Nat × List Nat) := (true, [([], []), ([], []), ([], []), ([1, 2], [1, 2]), ([3], [3]), ([4], [4]), ([5], [5]), ([], []), ([], []), ([7, 8], [7, 8]), ([9], [9]), ([10], [10]), ([11], [11]), ([6, 12], [6, 12]), ([0, 13], [0, 13]), ([14, 0, 1, 2, 3, 4, 5, 6, 7, 8, 9, 10, 11, 12, 13, 14], [0, 14])])
def laws_FnPlans.B16 : List Nat := [0, 0, 0, 6, 14, 30, 62, 0, 0, 384, 896, 1920, 3968, 8190, 16383, 32767]
theorem laws_FnPlans.tab16 : rtab .any (opsOf Try.f12 16) = laws_FnPlans.T16 := by kernel_rfl
theorem laws_FnPlans.bits16 : waitsOk laws_FnPlans.T16.2 laws_FnPlans.B16 = true := by kernel_rfl
def laws_FnPlans.T28 : Bool × List (List Nat × List Nat) := (true, [([], []), ([0], [0]), ([1], [1]), ([2], [2]), ([2], [2]), ([4, 2], [2, 4]), ([3, 5, 2], [2, 3, 5]), ([2, 6], [2, 6]), ([7, 2], [7]), ([8], [8]), ([8], [8]), ([9, 10, 8], [8, 9, 10]), ([11, 8], [8, 11]), ([12, 8], [8, 12]), ([8], [8]), ([13, 14, 8], [8, 13, 14]), ([8, 15], [8, 15]), ([16, 8], [16]), ([17], [17]), ([17], [17]), ([18, 19, 17], [17, 18, 19]), ([20, 17], [17, 20]), ([21, 17], [17, 21]), ([17], [17]), ([17], [17]), ([23, 24, 17], [17, 23, 24]), ([25, 17], [17, 25]), ([17], [17]), ([17], [17]), ([27, 28, 17], [17, 27, 28]), ([29, 17], [17, 29]), ([30, 17], [17, 30]), ([26, 31, 17], [17, 26, 31]), ([22, 32, 17], [17, 22, 32]), ([17, 33], [17, 33])])
def laws_FnPlans.B28 : List Nat := [0, 1, 3, 7, 7, 23, 63, 127, 255, 511, 511, 2047, 4095, 8191, 511, 32767, 65535, 131071, 262143, 262143, 1048575, 2097151, 4194303, 262143, 262143, 25427967, 58982399, 262143, 262143, 402915327, 939786239, 2013528063, 4286840831, 8589934591, 17179869183]
theorem laws_FnPlans.tab28 : rtab .any (opsOf Try.f12 28) = laws_FnPlans.T28 := by kernel_rfl
theorem laws_FnPlans.bits28 : waitsOk laws_FnPlans.T28.2 laws_FnPlans.B28 = true := by kernel_rfl
def laws_FnPlans.T31 : Bool × List (List Nat × List Nat) := (true, [([], []), ([], []), ([0, 1], [0, 1]), ([2], [2]), ([3], [3]), ([], []), ([], []), ([5, 6], [5, 6]), ([7], [7]), ([8], [8]), ([4, 9], [4, 9]), ([10, 0, 1, 2, 3, 4, 5, 6, 7, 8, 9, 10], [10])])
def laws_FnPlans.B31 : List Nat := [0, 0, 3, 7, 15, 0, 0, 96, 224, 480, 1023, 2047]
theorem laws_FnPlans.tab31 : rtab .any (opsOf Try.f12 31) = laws_FnPlans.T31 := by kernel_rfl
theorem laws_FnPlans.bits31 : waitsOk laws_FnPlans.T31.2 laws_FnPlans.B31 = true := by kernel_rfl
def laws_FnPlans.T32 : Bool × List (List Nat × List Nat) := (true, [([], []), ([], []), ([0, 1], [0, 1]), ([2], [2]), ([], []), ([], []), ([], []), ([5, 6], [5, 6]), ([7], [7]), ([], []), ([], []), ([9, 10], [9, 10]), ([11], [11]), ([12], [12]), ([8, 13], [8, 13]), ([4, 14], [4, 14]), ([15], [15]), ([3, 16], [3, 16])])
def laws_FnPlans.B32 : List Nat := [0, 0, 3, 7, 0, 0, 0, 96, 224, 0, 0, 1536, 3584, 7680, 16352, 32752, 65520, 131071]
theorem laws_FnPlans.tab32 : rtab .any (opsOf Try.f12 32) = laws_FnPlans.T32 := by kernel_rfl
theorem laws_FnPlans.bits32 : waitsOk laws_FnPlans.T32.2 laws_FnPlans.B32 = true := by kernel_rfl
def laws_FnPlans.T38 : Bool × List (List Nat × List Nat) := (true, [([], []), ([], []), ([], []), ([2], [2]), ([1, 3], [1, 3]), ([4], [4]), ([5], [5]), ([0, 6], [0, 6]), ([7], [7]), ([8], [8]), ([], []), ([], []), ([10, 11], [10, 11]), ([12], [12]), ([13], [13]), ([9, 14], [9, 14]), ([15], [15]), ([16], [16]), ([16], [16]), ([17, 15, 0, 1, 2, 3, 4, 5, 6, 7, 8, 9, 10, 11, 12, 13, 14, 15, 16, 17], [17]), ([18, 19, 0, 1, 2, 3, 4, 5, 6, 7, 8, 9, 10, 11, 12, 13, 14, 15, 16, 17, 18, 19], [18])])
def laws_FnPlans.B38 : List Nat := [0, 0, 0, 4, 14, 30, 62, 127, 255, 511, 0, 0, 3072, 7168, 15360, 32767, 65535, 131071, 131071, 262143, 1048575]
theorem laws_FnPlans.tab38 : rtab .any (opsOf Try.f12 38) = laws_FnPlans.T38 := by kernel_rfl
theorem laws_FnPlans.bits38 : waitsOk laws_FnPlans.T38.2 laws_FnPlans.B38 = true := by kernel_rfl
def laws_FnPlans.T39 : Bool × List (List Nat × List Nat) := (true, [([], []), ([0], [0]), ([1], [1]), ([2], [2]), ([2], [2]), ([3, 4, 2], [2, 3, 4]), ([5, 2], [2, 5]), ([6, 2], [2, 6]), ([2], [2]), ([2], [2]), ([9, 2], [2, 9]), ([8, 10, 2], [2, 8, 10]), ([11, 2], [2, 11]), ([12, 2], [2, 12]), ([2], [2]), ([2], [2]), ([2], [2]), ([16, 2], [2, 16]), ([15, 17, 2], [2, 15, 17]), ([18, 2], [2, 18]), ([19, 2], [2, 19]), ([14, 20, 2], [2, 14, 20]), ([21, 2], [2, 21]), ([22, 2], [2, 22]), ([13, 23, 2], [2, 13, 23]), ([2], [2]), ([24, 25, 2], [2, 24, 25]), ([7, 26, 2], [2, 7, 26]), ([2, 27], [2, 27])])
def laws_FnPlans.B39 : List Nat := [0, 1, 3, 7, 7, 31, 63, 127, 7, 7, 519, 1799, 3847, 7943, 7, 7, 7, 65543, 229383, 491527, 1015815, 2080775, 4177927, 8372231, 16776967, 7, 67108615, 134217727, 268435455]
theorem laws_FnPlans.tab39 : rtab .any (opsOf Try.f12 39) = laws_FnPlans.T39 := by kernel_rfl
theorem laws_FnPlans.bits39 : waitsOk laws_FnPlans.T39.2 laws_FnPlans.B39 = true := by kernel_rfl
def laws_FnPlans.T46 : Bool × List (List Nat × List Nat) := (true, [([], []), ([], []), ([0, 1], [0, 1]), ([2], [2]), ([], []), ([], []), ([], []), ([5, 6], [5, 6]), ([7], [7]), ([8], [8]), ([4, 9], [4, 9]), ([], []), ([], []), ([11, 12], [11, 12]), ([13], [13]), ([10, 14], [10, 14]), ([15], [15]), ([3, 16], [3, 16])])
def laws_FnPlans.B46 : List Nat := [0, 0, 3, 7, 0, 0, 0, 96, 224, 480, 1008, 0, 0, 6144, 14336, 32752, 65520, 131071]
theorem laws_FnPlans.tab46 : rtab .any (opsOf Try.f12 46) = laws_FnPlans.T46 := by kernel_rfl
theorem laws_FnPlans.bits46 : waitsOk laws_FnPlans.T46.2 laws_FnPlans.B46 = true := by kernel_rfl
set_option maxHeartbeats 8000000 in
set_option maxRecDepth 100000 in
theorem laws_FnPlans.calls (k : Nat) (A0 : Option Addr) (c0 : Nat) (l0 : List Int) (A1 : Option Addr) (c1 : Nat) (l1 : List Int) (r : Bool) (w : World) (hr0 : Kd.C (Kd.int .u8) w A0 l0.length l0) (hc0 : l0.length ≤ c0) (hr1 : Kd.C (Kd.int .u8) w A1 l1.length l1) (hc1 : l1.length ≤ c1) (h : laws_FnPlans.f k l0 l1 = some r) :
 Calls Try.prog 12 #[.slice A0 l0.length c0, .slice A1 l1.length c1] w fun e w' => e = .returned (.bool r) ∧ Below w.heap.size w w' := by
 have hu2 := Try.underlying2
 have hu78 := Try.underlying78
 have hu26 := Try.underlying26
 have HR0 := Aside0.mk hr0
 have HC0 := Aside0.mk hc0
 clear hr0 hc0
 have HR1 := Aside0.mk hr1
 have HC1 := Aside0.mk hc1
 clear hr1 hc1
 have HB := Aside0.mk (Below.refl w.heap.size w)
 have H : ((laws_b10Long.f l0 l1).bind fun t223 => (if t223 = true then (some true) else ((spec_B10Beams.f k l0).bind fun t224 => ((laws_b10At.f l1 0 100).bind fun t227 => ((impl_PlanBeams.f k t224 t227).bind fun bt228 => ((impl_LatenessOf.f k t224 bt228.1).bind fun bt232 => ((impl_MissedOf.f k t224 bt228.1 t227).bind fun bt236 => ((impl_BusyTicks.f k t224 bt228.1).bind fun bt240 => ((impl_LoadOf.f k t224).bind fun bt243 => (if bt228.2 = true then (if bt232.2 = true then (if bt236.2 = true then (if bt240.2.2 = true then (if bt243.2.2 = true then ((impl_AreBeams.f k t224).bind fun t246 => (if t246 = true then ((impl_IsPlan.f k t224 bt228.1).bind fun t247 => (if t247 = true then (if (bt232.1.length : Int) = (bt228.1.length : Int) then (if (bt236.1.length : Int) = (t224.length : Int) then (if bt243.1 < 1 then (none) else (laws_FnPlans.j0 k t224 t227 bt228.1 bt232.1 bt236.1 bt240.1 bt240.2.1 bt243.1 bt243.2.1 (decide (bt243.2.1 < 1)))) else (none)) else (none)) else (none))) else (none))) else (none)) else (none)) else (none)) else (none)) else (none))))))))))) = some r := h
 clear h
 replace H := Option.bind_eq_some_iff.mp H
 obtain ⟨t223, A30, H⟩ := H
 replace H : (if t223 = true then (some true) else ((spec_B10Beams.f k l0).bind fun t224 => ((laws_b10At.f l1 0 100).bind fun t227 => ((impl_PlanBeams.f k t224 t227).bind fun bt228 => ((impl_LatenessOf.f k t224 bt228.1).bind fun bt232 => ((impl_MissedOf.f k t224 bt228.1 t227).bind fun bt236 => ((impl_BusyTicks.f k t224 bt228.1).bind fun bt240 => ((impl_LoadOf.f k t224).bind fun bt243 => (if bt228.2 = true then (if bt232.2 = true then (if bt236.2 = true then (if bt240.2.2 = true then (if bt243.2.2 = true then ((impl_AreBeams.f k t224).bind fun t246 => (if t246 = true then ((impl_IsPlan.f k t224 bt228.1).bind fun t247 => (if t247 = true then (if (bt232.1.length : Int) = (bt228.1.length : Int) then (if (bt236.1.length : Int) = (t224.length : Int) then (if bt243.1 < 1 then (none) else (laws_FnPlans.j0 k t224 t227 bt228.1 bt232.1 bt236.1 bt240.1 bt240.2.1 bt243.1 bt243.2.1 (decide (bt243.2.1 < 1)))) else (none)) else (none)) else (none))) else (none))) else (none)) else (none)) else (none)) else (none)) else (none)))))))))) = some r := H
 have A3 := Aside0.mk A30
 clear A30
 by_cases c4 : t223 = true
 · subst c4
   have H1 : (some true) = some r := by rw [if_pos rfl] at H; exact H
   clear H
   have H := H1
   clear H1
   as_aux_lemma =>
    obtain rfl := Option.some.inj H
    go_enter Try.func12, Try.ntmps12
    go_wp2_with (first | ((with_reducible refine gate_callee (f := 32) rfl ?_); refine goesL_ (some 33) rfl rfl Try.func32 (by kernel_rfl) rfl #[.slice A0 l0.length c0, .slice A1 l1.length c1] rfl (by (try simp only [List.map_toArray, List.map_cons, List.map_nil]); first | done | rfl | (simp only [List.length_drop, List.length_take]; rfl)) ?_; (with_reducible refine (laws_b10Long.calls _ _ l0 _ _ l1 true _ ?side1 ?side2 ?side3 ?side4 A3.out).mono ?_); (case side1 => repeat (first | exact HR0.out | (with_reducible refine Kd.C_alloc ?_ _) | (with_reducible refine Kd.C_drewN ?_ _) | (with_reducible refine Kd.C_drew ?_))); (case side2 => exact HC0.out); (case side3 => repeat (first | exact HR1.out | (with_reducible refine Kd.C_alloc ?_ _) | (with_reducible refine Kd.C_drewN ?_ _) | (with_reducible refine Kd.C_drew ?_))); (case side4 => exact HC1.out); rintro e w' ⟨rfl, ⟨nd, rfl⟩⟩; refine ⟨_, rfl, ?_⟩))
    go_ret
    exact ⟨by first | rfl | (simp [errW_none, errW_some] <;> rfl) | (simp [*, errW_none, errW_some] <;> rfl), by repeat (first | (with_reducible first | exact HB.out | apply below_alloc | apply pw_below_drewN | apply below_drew1) | exact HB.out)⟩
 · replace c4 := Bool.eq_false_iff.mpr c4
   subst c4
   have H1 : ((spec_B10Beams.f k l0).bind fun t224 => ((laws_b10At.f l1 0 100).bind fun t227 => ((impl_PlanBeams.f k t224 t227).bind fun bt228 => ((impl_LatenessOf.f k t224 bt228.1).bind fun bt232 => ((impl_MissedOf.f k t224 bt228.1 t227).bind fun bt236 => ((impl_BusyTicks.f k t224 bt228.1).bind fun bt240 => ((impl_LoadOf.f k t224).bind fun bt243 => (if bt228.2 = true then (if bt232.2 = true then (if bt236.2 = true then (if bt240.2.2 = true then (if bt243.2.2 = true then ((impl_AreBeams.f k t224).bind fun t246 => (if t246 = true then ((impl_IsPlan.f k t224 bt228.1).bind fun t247 => (if t247 = true then (if (bt232.1.length : Int) = (bt228.1.length : Int) then (if (bt236.1.length : Int) = (t224.length : Int) then (if bt243.1 < 1 then (none) else (laws_FnPlans.j0 k t224 t227 bt228.1 bt232.1 bt236.1 bt240.1 bt240.2.1 bt243.1 bt243.2.1 (decide (bt243.2.1 < 1)))) else (none)) else (none)) else (none))) else (none))) else (none)) else (none)) else (none)) else (none)) else (none))))))))) = some r := by rw [if_neg (show ¬ (false = true) by decide)] at H; exact H
   clear H
   have H := H1
   clear H1
   replace H := Option.bind_eq_some_iff.mp H
   obtain ⟨t224, A50, H⟩ := H
   replace H : ((laws_b10At.f l1 0 100).bind fun t227 => ((impl_PlanBeams.f k t224 t227).bind fun bt228 => ((impl_LatenessOf.f k t224 bt228.1).bind fun bt232 => ((impl_MissedOf.f k t224 bt228.1 t227).bind fun bt236 => ((impl_BusyTicks.f k t224 bt228.1).bind fun bt240 => ((impl_LoadOf.f k t224).bind fun bt243 => (if bt228.2 = true then (if bt232.2 = true then (if bt236.2 = true then (if bt240.2.2 = true then (if bt243.2.2 = true then ((impl_AreBeams.f k t224).bind fun t246 => (if t246 = true then ((impl_IsPlan.f k t224 bt228.1).bind fun t247 => (if t247 = true then (if (bt232.1.length : Int) = (bt228.1.length : Int) then (if (bt236.1.length : Int) = (t224.length : Int) then (if bt243.1 < 1 then (none) else (laws_FnPlans.j0 k t224 t227 bt228.1 bt232.1 bt236.1 bt240.1 bt240.2.1 bt243.1 bt243.2.1 (decide (bt243.2.1 < 1)))) else (none)) else (none)) else (none))) else (none))) else (none)) else (none)) else (none)) else (none)) else (none)))))))) = some r := H
   have A5 := Aside0.mk A50
   clear A50
   replace H := Option.bind_eq_some_iff.mp H
   obtain ⟨t227, A60, H⟩ := H
   replace H : ((impl_PlanBeams.f k t224 t227).bind fun bt228 => ((impl_LatenessOf.f k t224 bt228.1).bind fun bt232 => ((impl_MissedOf.f k t224 bt228.1 t227).bind fun bt236 => ((impl_BusyTicks.f k t224 bt228.1).bind fun bt240 => ((impl_LoadOf.f k t224).bind fun bt243 => (if bt228.2 = true then (if bt232.2 = true then (if bt236.2 = true then (if bt240.2.2 = true then (if bt243.2.2 = true then ((impl_AreBeams.f k t224).bind fun t246 => (if t246 = true then ((impl_IsPlan.f k t224 bt228.1).bind fun t247 => (if t247 = true then (if (bt232.1.length : Int) = (bt228.1.length : Int) then (if (bt236.1.length : Int) = (t224.length : Int) then (if bt243.1 < 1 then (none) else (laws_FnPlans.j0 k t224 t227 bt228.1 bt232.1 bt236.1 bt240.1 bt240.2.1 bt243.1 bt243.2.1 (decide (bt243.2.1 < 1)))) else (none)) else (none)) else (none))) else (none))) else (none)) else (none)) else (none)) else (none)) else (none))))))) = some r := H
   have A6 := Aside0.mk A60
   clear A60
   replace H := Option.bind_eq_some_iff.mp H
   obtain ⟨⟨t228, t229⟩, A70, H⟩ := H
   replace H : ((impl_LatenessOf.f k t224 t228).bind fun bt232 => ((impl_MissedOf.f k t224 t228 t227).bind fun bt236 => ((impl_BusyTicks.f k t224 t228).bind fun bt240 => ((impl_LoadOf.f k t224).bind fun bt243 => (if t229 = true then (if bt232.2 = true then (if bt236.2 = true then (if bt240.2.2 = true then (if bt243.2.2 = true then ((impl_AreBeams.f k t224).bind fun t246 => (if t246 = true then ((impl_IsPlan.f k t224 t228).bind fun t247 => (if t247 = true then (if (bt232.1.length : Int) = (t228.length : Int) then (if (bt236.1.length : Int) = (t224.length : Int) then (if bt243.1 < 1 then (none) else (laws_FnPlans.j0 k t224 t227 t228 bt232.1 bt236.1 bt240.1 bt240.2.1 bt243.1 bt243.2.1 (decide (bt243.2.1 < 1)))) else (none)) else (none)) else (none))) else (none))) else (none)) else (none)) else (none)) else (none)) else (none)))))) = some r := H
   have A7 := Aside0.mk A70
   clear A70
   replace H := Option.bind_eq_some_iff.mp H
   obtain ⟨⟨t232, t233⟩, A80, H⟩ := H
   replace H : ((impl_MissedOf.f k t224 t228 t227).bind fun bt236 => ((impl_BusyTicks.f k t224 t228).bind fun bt240 => ((impl_LoadOf.f k t224).bind fun bt243 => (if t229 = true then (if t233 = true then (if bt236.2 = true then (if bt240.2.2 = true then (if bt243.2.2 = true then ((impl_AreBeams.f k t224).bind fun t246 => (if t246 = true then ((impl_IsPlan.f k t224 t228).bind fun t247 => (if t247 = true then (if (t232.length : Int) = (t228.length : Int) then (if (bt236.1.length : Int) = (t224.length : Int) then (if bt243.1 < 1 then (none) else (laws_FnPlans.j0 k t224 t227 t228 t232 bt236.1 bt240.1 bt240.2.1 bt243.1 bt243.2.1 (decide (bt243.2.1 < 1)))) else (none)) else (none)) else (none))) else (none))) else (none)) else (none)) else (none)) else (none)) else (none))))) = some r := H
   have A8 := Aside0.mk A80
   clear A80
   replace H := Option.bind_eq_some_iff.mp H
   obtain ⟨⟨t236, t237⟩, A90, H⟩ := H
   replace H : ((impl_BusyTicks.f k t224 t228).bind fun bt240 => ((impl_LoadOf.f k t224).bind fun bt243 => (if t229 = true then (if t233 = true then (if t237 = true then (if bt240.2.2 = true then (if bt243.2.2 = true then ((impl_AreBeams.f k t224).bind fun t246 => (if t246 = true then ((impl_IsPlan.f k t224 t228).bind fun t247 => (if t247 = true then (if (t232.length : Int) = (t228.length : Int) then (if (t236.length : Int) = (t224.length : Int) then (if bt243.1 < 1 then (none) else (laws_FnPlans.j0 k t224 t227 t228 t232 t236 bt240.1 bt240.2.1 bt243.1 bt243.2.1 (decide (bt243.2.1 < 1)))) else (none)) else (none)) else (none))) else (none))) else (none)) else (none)) else (none)) else (none)) else (none)))) = some r := H
   have A9 := Aside0.mk A90
   clear A90
   replace H := Option.bind_eq_some_iff.mp H
   obtain ⟨⟨t240, t241, t242⟩, A100, H⟩ := H
   replace H : ((impl_LoadOf.f k t224).bind fun bt243 => (if t229 = true then (if t233 = true then (if t237 = true then (if t242 = true then (if bt243.2.2 = true then ((impl_AreBeams.f k t224).bind fun t246 => (if t246 = true then ((impl_IsPlan.f k t224 t228).bind fun t247 => (if t247 = true then (if (t232.length : Int) = (t228.length : Int) then (if (t236.length : Int) = (t224.length : Int) then (if bt243.1 < 1 then (none) else (laws_FnPlans.j0 k t224 t227 t228 t232 t236 t240 t241 bt243.1 bt243.2.1 (decide (bt243.2.1 < 1)))) else (none)) else (none)) else (none))) else (none))) else (none)) else (none)) else (none)) else (none)) else (none))) = some r := H
   have A10 := Aside0.mk A100
   clear A100
   replace H := Option.bind_eq_some_iff.mp H
   obtain ⟨⟨t243, t244, t245⟩, A110, H⟩ := H
   replace H : (if t229 = true then (if t233 = true then (if t237 = true then (if t242 = true then (if t245 = true then ((impl_AreBeams.f k t224).bind fun t246 => (if t246 = true then ((impl_IsPlan.f k t224 t228).bind fun t247 => (if t247 = true then (if (t232.length : Int) = (t228.length : Int) then (if (t236.length : Int) = (t224.length : Int) then (if t243 < 1 then (none) else (laws_FnPlans.j0 k t224 t227 t228 t232 t236 t240 t241 t243 t244 (decide (t244 < 1)))) else (none)) else (none)) else (none))) else (none))) else (none)) else (none)) else (none)) else (none)) else (none)) = some r := H
   have A11 := Aside0.mk A110
   clear A110
   have HC12 := Aside0.mk H
   clear H
   go_enter Try.func12, Try.ntmps12
   go_upto_region 10 with (first | ((with_reducible refine gate_callee (f := 32) rfl ?_); refine goesL_ (some 33) rfl rfl Try.func32 (by kernel_rfl) rfl #[.slice A0 l0.length c0, .slice A1 l1.length c1] rfl (by (try simp only [List.map_toArray, List.map_cons, List.map_nil]); first | done | rfl | (simp only [List.length_drop, List.length_take]; rfl)) ?_; (with_reducible refine (laws_b10Long.calls _ _ l0 _ _ l1 false _ ?side1 ?side2 ?side3 ?side4 A3.out).mono ?_); (case side1 => repeat (first | exact HR0.out | (with_reducible refine Kd.C_alloc ?_ _) | (with_reducible refine Kd.C_drewN ?_ _) | (with_reducible refine Kd.C_drew ?_))); (case side2 => exact HC0.out); (case side3 => repeat (first | exact HR1.out | (with_reducible refine Kd.C_alloc ?_ _) | (with_reducible refine Kd.C_drewN ?_ _) | (with_reducible refine Kd.C_drew ?_))); (case side4 => exact HC1.out); rintro e w' ⟨rfl, ⟨nd, rfl⟩⟩; refine ⟨_, rfl, ?_⟩) | ((with_reducible refine gate_callee (f := 33) rfl ?_); refine goesL_ (some 35) rfl rfl Try.func33 (by kernel_rfl) rfl #[.slice A0 l0.length c0] rfl (by (try simp only [List.map_toArray, List.map_cons, List.map_nil]); first | done | rfl | (simp only [List.length_drop, List.length_take]; rfl)) ?_; (with_reducible refine (spec_B10Beams.calls k _ _ l0 t224 _ ?side1 ?side2 A5.out).mono ?_); (case side1 => repeat (first | exact HR0.out | (with_reducible refine Kd.C_alloc ?_ _) | (with_reducible refine Kd.C_drewN ?_ _) | (with_reducible refine Kd.C_drew ?_))); (case side2 => exact HC0.out); rintro e w13 ⟨v225, rfl, ho0, hb⟩; refine ⟨_, rfl, ?_⟩; have n0_ := Aside0.mk (Kd.R_lower ho0 (below_size (by repeat (first | (with_reducible first | exact HB.out | apply below_alloc | apply pw_below_drewN | apply below_drew1) | exact HB.out)))); have n1_ := Aside0.mk (below_step (by repeat (first | (with_reducible first | exact HB.out | apply below_alloc | apply pw_below_drewN | apply below_drew1) | exact HB.out)) hb); clear HB; have HO226 := n0_; have HB := n1_; clear n0_ n1_; (try clear hb); (try clear hb2); (try clear hk); (try clear hi); (try clear ho0)) | ((with_reducible refine gate_callee (f := 34) rfl ?_); refine goesL_ (some 37) rfl rfl Try.func34 (by kernel_rfl) rfl #[.slice A1 l1.length c1, .int .i64 0, .int .i64 100] rfl (by (try simp only [List.map_toArray, List.map_cons, List.map_nil]); first | done | rfl | (simp only [List.length_drop, List.length_take]; rfl)) ?_; (with_reducible refine (laws_b10At.calls _ _ l1 0 100 t227 _ ?side1 ?side2 A6.out).mono ?_); (case side1 => repeat (first | exact (Kd.C_below HR1.out HB.out) | (with_reducible refine Kd.C_alloc ?_ _) | (with_reducible refine Kd.C_drewN ?_ _) | (with_reducible refine Kd.C_drew ?_))); (case side2 => exact HC1.out); rintro e w' ⟨rfl, ⟨nd, rfl⟩⟩; refine ⟨_, rfl, ?_⟩; obtain ⟨Ao14, co14, eo14⟩ := Kd.R_slice HO226.out; subst eo14) | ((with_reducible refine gate_callee (f := 49) rfl ?_); refine goesL_ (some 41) rfl rfl Try.func49 (by kernel_rfl) rfl #[.slice Ao14 t224.length co14, .int .i64 t227] rfl (by (try simp only [List.map_toArray, List.map_cons, List.map_nil]); first | done | rfl | (simp only [List.length_drop, List.length_take]; rfl)) ?_; (with_reducible refine (impl_PlanBeams.calls k _ _ t224 t227 t228 t229 _ ?side1 ?side2 A7.out).mono ?_); (case side1 => repeat (first | exact (Kd.R_reads' HO226.out).2.2 | (with_reducible refine Kd.C_alloc ?_ _) | (with_reducible refine Kd.C_drewN ?_ _) | (with_reducible refine Kd.C_drew ?_))); (case side2 => exact (Kd.R_reads' HO226.out).2.1); rintro e w15 ⟨v230, rfl, ho0, hb⟩; refine ⟨_, rfl, ?_⟩; have n0_ := Aside0.mk (Kd.R_below (by (with_reducible repeat (first | apply Kd.R_alloc | apply Kd.R_drewN | apply Kd.R_drew)); exact HO226.out) hb); have n1_ := Aside0.mk (Kd.R_lower ho0 (below_size (by repeat (first | (with_reducible first | exact HB.out | apply below_alloc | apply pw_below_drewN | apply below_drew1) | exact HB.out)))); have n2_ := Aside0.mk (below_step (by repeat (first | (with_reducible first | exact HB.out | apply below_alloc | apply pw_below_drewN | apply below_drew1) | exact HB.out)) hb); clear HO226; clear HB; have HO226 := n0_; have HO231 := n1_; have HB := n2_; clear n0_ n1_ n2_; (try clear hb); (try clear hb2); (try clear hk); (try clear hi); (try clear ho0); obtain ⟨Ao16, co16, eo16⟩ := Kd.R_slice HO231.out; subst eo16) | ((with_reducible refine gate_callee (f := 50) rfl ?_); refine goesL_ (some 47) rfl rfl Try.func50 (by kernel_rfl) rfl #[.slice Ao14 t224.length co14, .slice Ao16 t228.length co16] rfl (by (try simp only [List.map_toArray, List.map_cons, List.map_nil]); first | done | rfl | (simp only [List.length_drop, List.length_take]; rfl)) ?_; (with_reducible refine (impl_LatenessOf.calls k _ _ t224 _ _ t228 t232 t233 _ ?side1 ?side2 ?side3 ?side4 A8.out).mono ?_); (case side1 => repeat (first | exact (Kd.R_reads' HO226.out).2.2 | (with_reducible refine Kd.C_alloc ?_ _) | (with_reducible refine Kd.C_drewN ?_ _) | (with_reducible refine Kd.C_drew ?_))); (case side2 => exact (Kd.R_reads' HO226.out).2.1); (case side3 => repeat (first | exact (Kd.R_reads' HO231.out).2.2 | (with_reducible refine Kd.C_alloc ?_ _) | (with_reducible refine Kd.C_drewN ?_ _) | (with_reducible refine Kd.C_drew ?_))); (case side4 => exact (Kd.R_reads' HO231.out).2.1); rintro e w17 ⟨v234, rfl, ho0, hb⟩; refine ⟨_, rfl, ?_⟩; have n0_ := Aside0.mk (Kd.R_below (by (with_reducible repeat (first | apply Kd.R_alloc | apply Kd.R_drewN | apply Kd.R_drew)); exact HO226.out) hb); have n1_ := Aside0.mk (Kd.R_below (by (with_reducible repeat (first | apply Kd.R_alloc | apply Kd.R_drewN | apply Kd.R_drew)); exact HO231.out) hb); have n2_ := Aside0.mk (Kd.R_lower ho0 (below_size (by repeat (first | (with_reducible first | exact HB.out | apply below_alloc | apply pw_below_drewN | apply below_drew1) | exact HB.out)))); have n3_ := Aside0.mk (below_step (by repeat (first | (with_reducible first | exact HB.out | apply below_alloc | apply pw_below_drewN | apply below_drew1) | exact HB.out)) hb); clear HO226; clear HO231; clear HB; have HO226 := n0_; have HO231 := n1_; have HO235 := n2_; have HB := n3_; clear n0_ n1_ n2_ n3_; (try clear hb); (try clear hb2); (try clear hk); (try clear hi); (try clear ho0)) | ((with_reducible refine gate_callee (f := 51) rfl ?_); refine goesL_ (some 54) rfl rfl Try.func51 (by kernel_rfl) rfl #[.slice Ao14 t224.length co14, .slice Ao16 t228.length co16, .int .i64 t227] rfl (by (try simp only [List.map_toArray, List.map_cons, List.map_nil]); first | done | rfl | (simp only [List.length_drop, List.length_take]; rfl)) ?_; (with_reducible refine (impl_MissedOf.calls k _ _ t224 _ _ t228 t227 t236 t237 _ ?side1 ?side2 ?side3 ?side4 A9.out).mono ?_); (case side1 => repeat (first | exact (Kd.R_reads' HO226.out).2.2 | (with_reducible refine Kd.C_alloc ?_ _) | (with_reducible refine Kd.C_drewN ?_ _) | (with_reducible refine Kd.C_drew ?_))); (case side2 => exact (Kd.R_reads' HO226.out).2.1); (case side3 => repeat (first | exact (Kd.R_reads' HO231.out).2.2 | (with_reducible refine Kd.C_alloc ?_ _) | (with_reducible refine Kd.C_drewN ?_ _) | (with_reducible refine Kd.C_drew ?_))); (case side4 => exact (Kd.R_reads' HO231.out).2.1); rintro e w18 ⟨v238, rfl, ho0, hb⟩; refine ⟨_, rfl, ?_⟩; have n0_ := Aside0.mk (Kd.R_below (by (with_reducible repeat (first | apply Kd.R_alloc | apply Kd.R_drewN | apply Kd.R_drew)); exact HO226.out) hb); have n1_ := Aside0.mk (Kd.R_below (by (with_reducible repeat (first | apply Kd.R_alloc | apply Kd.R_drewN | apply Kd.R_drew)); exact HO231.out) hb); have n2_ := Aside0.mk (Kd.R_elder' (by (with_reducible repeat (first | apply Kd.R_alloc | apply Kd.R_drewN | apply Kd.R_drew)); exact HO235.out) (Kd.R_base ho0) hb); have n3_ := Aside0.mk (Kd.R_lower (Kd.R_new' ho0 (Kd.R_lt (by (with_reducible repeat (first | apply Kd.R_alloc | apply Kd.R_drewN | apply Kd.R_drew)); exact HO235.out))) (below_size (by repeat (first | (with_reducible first | exact HB.out | apply below_alloc | apply pw_below_drewN | apply below_drew1) | exact HB.out)))); have n4_ := Aside0.mk (below_step (by repeat (first | (with_reducible first | exact HB.out | apply below_alloc | apply pw_below_drewN | apply below_drew1) | exact HB.out)) hb); clear HO226; clear HO231; clear HO235; clear HB; have HO226 := n0_; have HO231 := n1_; have HO235 := n2_; have HO239 := n3_; have HB := n4_; clear n0_ n1_ n2_ n3_ n4_; (try clear hb); (try clear hb2); (try clear hk); (try clear hi); (try clear ho0)) | ((with_reducible refine gate_callee (f := 48) rfl ?_); refine goesL_ (some 60) rfl rfl Try.func48 (by kernel_rfl) rfl #[.slice Ao14 t224.length co14, .slice Ao16 t228.length co16] rfl (by (try simp only [List.map_toArray, List.map_cons, List.map_nil]); first | done | rfl | (simp only [List.length_drop, List.length_take]; rfl)) ?_; (with_reducible refine (impl_BusyTicks.calls k _ _ t224 _ _ t228 t240 t241 t242 _ ?side1 ?side2 ?side3 ?side4 A10.out).mono ?_); (case side1 => repeat (first | exact (Kd.R_reads' HO226.out).2.2 | (with_reducible refine Kd.C_alloc ?_ _) | (with_reducible refine Kd.C_drewN ?_ _) | (with_reducible refine Kd.C_drew ?_))); (case side2 => exact (Kd.R_reads' HO226.out).2.1); (case side3 => repeat (first | exact (Kd.R_reads' HO231.out).2.2 | (with_reducible refine Kd.C_alloc ?_ _) | (with_reducible refine Kd.C_drewN ?_ _) | (with_reducible refine Kd.C_drew ?_))); (case side4 => exact (Kd.R_reads' HO231.out).2.1); rintro e w19 ⟨rfl, hb⟩; refine ⟨_, rfl, ?_⟩; have n0_ := Aside0.mk (Kd.R_below (by (with_reducible repeat (first | apply Kd.R_alloc | apply Kd.R_drewN | apply Kd.R_drew)); exact HO226.out) hb); have n1_ := Aside0.mk (Kd.R_below (by (with_reducible repeat (first | apply Kd.R_alloc | apply Kd.R_drewN | apply Kd.R_drew)); exact HO231.out) hb); have n2_ := Aside0.mk (Kd.R_below (by (with_reducible repeat (first | apply Kd.R_alloc | apply Kd.R_drewN | apply Kd.R_drew)); exact HO235.out) hb); have n3_ := Aside0.mk (Kd.R_below (by (with_reducible repeat (first | apply Kd.R_alloc | apply Kd.R_drewN | apply Kd.R_drew)); exact HO239.out) hb); have n4_ := Aside0.mk (below_step (by repeat (first | (with_reducible first | exact HB.out | apply below_alloc | apply pw_below_drewN | apply below_drew1) | exact HB.out)) hb); clear HO226; clear HO231; clear HO235; clear HO239; clear HB; have HO226 := n0_; have HO231 := n1_; have HO235 := n2_; have HO239 := n3_; have HB := n4_; clear n0_ n1_ n2_ n3_ n4_; (try clear hb); (try clear hb2); (try clear hk); (try clear hi)) | ((with_reducible refine gate_callee (f := 24) rfl ?_); refine goesL_ (some 66) rfl rfl Try.func24 (by kernel_rfl) rfl #[.slice Ao14 t224.length co14] rfl (by (try simp only [List.map_toArray, List.map_cons, List.map_nil]); first | done | rfl | (simp only [List.length_drop, List.length_take]; rfl)) ?_; (with_reducible refine (impl_LoadOf.calls k _ _ t224 t243 t244 t245 _ ?side1 ?side2 A11.out).mono ?_); (case side1 => repeat (first | exact (Kd.R_reads' HO226.out).2.2 | (with_reducible refine Kd.C_alloc ?_ _) | (with_reducible refine Kd.C_drewN ?_ _) | (with_reducible refine Kd.C_drew ?_))); (case side2 => exact (Kd.R_reads' HO226.out).2.1); rintro e w20 ⟨rfl, hb⟩; refine ⟨_, rfl, ?_⟩; have n0_ := Aside0.mk (Kd.R_below (by (with_reducible repeat (first | apply Kd.R_alloc | apply Kd.R_drewN | apply Kd.R_drew)); exact HO226.out) hb); have n1_ := Aside0.mk (Kd.R_below (by (with_reducible repeat (first | apply Kd.R_alloc | apply Kd.R_drewN | apply Kd.R_drew)); exact HO231.out) hb); have n2_ := Aside0.mk (Kd.R_below (by (with_reducible repeat (first | apply Kd.R_alloc | apply Kd.R_drewN | apply Kd.R_drew)); exact HO235.out) hb); have n3_ := Aside0.mk (Kd.R_below (by (with_reducible repeat (first | apply Kd.R_alloc | apply Kd.R_drewN | apply Kd.R_drew)); exact HO239.out) hb); have n4_ := Aside0.mk (below_step (by repeat (first | (with_reducible first | exact HB.out | apply below_alloc | apply pw_below_drewN | apply below_drew1) | exact HB.out)) hb); clear HO226; clear HO231; clear HO235; clear HO239; clear HB; have HO226 := n0_; have HO231 := n1_; have HO235 := n2_; have HO239 := n3_; have HB := n4_; clear n0_ n1_ n2_ n3_ n4_; (try clear hb); (try clear hb2); (try clear hk); (try clear hi)))
   (try simp only [Act.put, List.setIfInBounds_toArray, List.set_cons_zero, List.set_cons_succ])
   go_cut [120] (fun v120 wc => ∃ (kq : Nat) (x120_11 : Bool), v120 = .bool x120_11 ∧ Aside0 (laws_FnPlans.j0 kq t224 t227 t228 t232 t236 t240 t241 t243 t244 x120_11 = some r) ∧ Aside0 (kq ≤ k) ∧ Aside0 (Kd.R k54 54 wc w.heap.size (fun _ => True) (.slice Ao14 t224.length co14) t224) ∧ Aside0 (Kd.R k81 81 wc w.heap.size (fun _ => True) (.slice Ao16 t228.length co16) t228) ∧ Aside0 (Kd.R (Kd.int .i64) 2 wc w.heap.size (fun k_ => some k_ ≠ (v238 : Value).ownBlock) v234 t232) ∧ Aside0 (Kd.R (Kd.int .i64) 2 wc w.heap.size (fun k_ => some k_ ≠ (v234 : Value).ownBlock) v238 t236) ∧ Aside0 (Below w.heap.size w wc))
   case first =>
    have H := HC12.out
    clear HC12
    by_cases c21 : t229 = true
    · subst c21
      have H1 : (if t233 = true then (if t237 = true then (if t242 = true then (if t245 = true then ((impl_AreBeams.f k t224).bind fun t246 => (if t246 = true then ((impl_IsPlan.f k t224 t228).bind fun t247 => (if t247 = true then (if (t232.length : Int) = (t228.length : Int) then (if (t236.length : Int) = (t224.length : Int) then (if t243 < 1 then (none) else (laws_FnPlans.j0 k t224 t227 t228 t232 t236 t240 t241 t243 t244 (decide (t244 < 1)))) else (none)) else (none)) else (none))) else (none))) else (none)) else (none)) else (none)) else (none)) = some r := by rw [if_pos rfl] at H; exact H
      clear H
      have H := H1
      clear H1
      by_cases c22 : t233 = true
      · subst c22
        have H1 : (if t237 = true then (if t242 = true then (if t245 = true then ((impl_AreBeams.f k t224).bind fun t246 => (if t246 = true then ((impl_IsPlan.f k t224 t228).bind fun t247 => (if t247 = true then (if (t232.length : Int) = (t228.length : Int) then (if (t236.length : Int) = (t224.length : Int) then (if t243 < 1 then (none) else (laws_FnPlans.j0 k t224 t227 t228 t232 t236 t240 t241 t243 t244 (decide (t244 < 1)))) else (none)) else (none)) else (none))) else (none))) else (none)) else (none)) else (none)) = some r := by rw [if_pos rfl] at H; exact H
        clear H
        have H := H1
        clear H1
        by_cases c23 : t237 = true
        · subst c23
          have H1 : (if t242 = true then (if t245 = true then ((impl_AreBeams.f k t224).bind fun t246 => (if t246 = true then ((impl_IsPlan.f k t224 t228).bind fun t247 => (if t247 = true then (if (t232.length : Int) = (t228.length : Int) then (if (t236.length : Int) = (t224.length : Int) then (if t243 < 1 then (none) else (laws_FnPlans.j0 k t224 t227 t228 t232 t236 t240 t241 t243 t244 (decide (t244 < 1)))) else (none)) else (none)) else (none))) else (none))) else (none)) else (none)) = some r := by rw [if_pos rfl] at H; exact H
          clear H
          have H := H1
          clear H1
          by_cases c24 : t242 = true
          · subst c24
            have H1 : (if t245 = true then ((impl_AreBeams.f k t224).bind fun t246 => (if t246 = true then ((impl_IsPlan.f k t224 t228).bind fun t247 => (if t247 = true then (if (t232.length : Int) = (t228.length : Int) then (if (t236.length : Int) = (t224.length : Int) then (if t243 < 1 then (none) else (laws_FnPlans.j0 k t224 t227 t228 t232 t236 t240 t241 t243 t244 (decide (t244 < 1)))) else (none)) else (none)) else (none))) else (none))) else (none)) = some r := by rw [if_pos rfl] at H; exact H
            clear H
            have H := H1
            clear H1
            by_cases c25 : t245 = true
            · subst c25
              have H1 : ((impl_AreBeams.f k t224).bind fun t246 => (if t246 = true then ((impl_IsPlan.f k t224 t228).bind fun t247 => (if t247 = true then (if (t232.length : Int) = (t228.length : Int) then (if (t236.length : Int) = (t224.length : Int) then (if t243 < 1 then (none) else (laws_FnPlans.j0 k t224 t227 t228 t232 t236 t240 t241 t243 t244 (decide (t244 < 1)))) else (none)) else (none)) else (none))) else (none))) = some r := by rw [if_pos rfl] at H; exact H
              clear H
              have H := H1
              clear H1
              replace H := Option.bind_eq_some_iff.mp H
              obtain ⟨t246, A260, H⟩ := H
              replace H : (if t246 = true then ((impl_IsPlan.f k t224 t228).bind fun t247 => (if t247 = true then (if (t232.length : Int) = (t228.length : Int) then (if (t236.length : Int) = (t224.length : Int) then (if t243 < 1 then (none) else (laws_FnPlans.j0 k t224 t227 t228 t232 t236 t240 t241 t243 t244 (decide (t244 < 1)))) else (none)) else (none)) else (none))) else (none)) = some r := H
              have A26 := Aside0.mk A260
              clear A260
              by_cases c27 : t246 = true
              · subst c27
                have H1 : ((impl_IsPlan.f k t224 t228).bind fun t247 => (if t247 = true then (if (t232.length : Int) = (t228.length : Int) then (if (t236.length : Int) = (t224.length : Int) then (if t243 < 1 then (none) else (laws_FnPlans.j0 k t224 t227 t228 t232 t236 t240 t241 t243 t244 (decide (t244 < 1)))) else (none)) else (none)) else (none))) = some r := by rw [if_pos rfl] at H; exact H
                clear H
                have H := H1
                clear H1
                replace H := Option.bind_eq_some_iff.mp H
                obtain ⟨t247, A280, H⟩ := H
                replace H : (if t247 = true then (if (t232.length : Int) = (t228.length : Int) then (if (t236.length : Int) = (t224.length : Int) then (if t243 < 1 then (none) else (laws_FnPlans.j0 k t224 t227 t228 t232 t236 t240 t241 t243 t244 (decide (t244 < 1)))) else (none)) else (none)) else (none)) = some r := H
                have A28 := Aside0.mk A280
                clear A280
                by_cases c29 : t247 = true
                · subst c29
                  have H1 : (if (t232.length : Int) = (t228.length : Int) then (if (t236.length : Int) = (t224.length : Int) then (if t243 < 1 then (none) else (laws_FnPlans.j0 k t224 t227 t228 t232 t236 t240 t241 t243 t244 (decide (t244 < 1)))) else (none)) else (none)) = some r := by rw [if_pos rfl] at H; exact H
                  clear H
                  have H := H1
                  clear H1
                  by_cases c30 : (t232.length : Int) = (t228.length : Int)
                  · rw [if_pos c30] at H
                    have c30b0 : ((t232.length : Int) == (t228.length : Int)) = true := beq_iff_eq.mpr c30
                    have c30b1 : ((t232.length : Int) != (t228.length : Int)) = false := bne_eq_false_iff_eq.mpr c30
                    have c30b2 : (t232.length == t228.length) = true := by first | simpa using c30 | (simp at c30 ⊢; omega)
                    clear c30
                    (first | rw [c30b0] | (simp only [i64_w, i32_w]; rw [c30b0]) | skip)
                    by_cases c31 : (t236.length : Int) = (t224.length : Int)
                    · rw [if_pos c31] at H
                      have c31b0 : ((t236.length : Int) == (t224.length : Int)) = true := beq_iff_eq.mpr c31
                      have c31b1 : ((t236.length : Int) != (t224.length : Int)) = false := bne_eq_false_iff_eq.mpr c31
                      have c31b2 : (t236.length == t224.length) = true := by first | simpa using c31 | (simp at c31 ⊢; omega)
                      clear c31
                      by_cases c32 : t243 < 1
                      · rw [if_pos c32] at H
                        exact absurd H (by simp)
                      · rw [if_neg c32] at H
                        have c32b0 : decide (t243 < 1) = false := decide_eq_false c32
                        clear c32
                        as_aux_lemma =>
                         have H' := Aside0.mk H
                         clear H
                         go_wp2_with (first | (go_at_call 19; (with_reducible refine (impl_AreBeams.calls k _ _ t224 true _ ?side1 ?side2 A26.out).mono ?_); (case side1 => repeat (first | exact (Kd.R_reads' HO226.out).2.2 | (with_reducible refine Kd.C_alloc ?_ _) | (with_reducible refine Kd.C_drewN ?_ _) | (with_reducible refine Kd.C_drew ?_))); (case side2 => exact (Kd.R_reads' HO226.out).2.1); rintro e w33 ⟨rfl, hb⟩; have n0_ := Aside0.mk (Kd.R_below (by (with_reducible repeat (first | apply Kd.R_alloc | apply Kd.R_drewN | apply Kd.R_drew)); exact HO226.out) hb); have n1_ := Aside0.mk (Kd.R_below (by (with_reducible repeat (first | apply Kd.R_alloc | apply Kd.R_drewN | apply Kd.R_drew)); exact HO231.out) hb); have n2_ := Aside0.mk (Kd.R_below (by (with_reducible repeat (first | apply Kd.R_alloc | apply Kd.R_drewN | apply Kd.R_drew)); exact HO235.out) hb); have n3_ := Aside0.mk (Kd.R_below (by (with_reducible repeat (first | apply Kd.R_alloc | apply Kd.R_drewN | apply Kd.R_drew)); exact HO239.out) hb); have n4_ := Aside0.mk (below_step (by repeat (first | (with_reducible first | exact HB.out | apply below_alloc | apply pw_below_drewN | apply below_drew1) | exact HB.out)) hb); clear HO226; clear HO231; clear HO235; clear HO239; clear HB; have HO226 := n0_; have HO231 := n1_; have HO235 := n2_; have HO239 := n3_; have HB := n4_; clear n0_ n1_ n2_ n3_ n4_; (try clear hb); (try clear hb2); (try clear hk); (try clear hi)) | (go_at_call 41; (with_reducible refine (impl_IsPlan.calls k _ _ t224 _ _ t228 true _ ?side1 ?side2 ?side3 ?side4 A28.out).mono ?_); (case side1 => repeat (first | exact (Kd.R_reads' HO226.out).2.2 | (with_reducible refine Kd.C_alloc ?_ _) | (with_reducible refine Kd.C_drewN ?_ _) | (with_reducible refine Kd.C_drew ?_))); (case side2 => exact (Kd.R_reads' HO226.out).2.1); (case side3 => repeat (first | exact (Kd.R_reads' HO231.out).2.2 | (with_reducible refine Kd.C_alloc ?_ _) | (with_reducible refine Kd.C_drewN ?_ _) | (with_reducible refine Kd.C_drew ?_))); (case side4 => exact (Kd.R_reads' HO231.out).2.1); rintro e w34 ⟨rfl, hb⟩; have n0_ := Aside0.mk (Kd.R_below (by (with_reducible repeat (first | apply Kd.R_alloc | apply Kd.R_drewN | apply Kd.R_drew)); exact HO226.out) hb); have n1_ := Aside0.mk (Kd.R_below (by (with_reducible repeat (first | apply Kd.R_alloc | apply Kd.R_drewN | apply Kd.R_drew)); exact HO231.out) hb); have n2_ := Aside0.mk (Kd.R_below (by (with_reducible repeat (first | apply Kd.R_alloc | apply Kd.R_drewN | apply Kd.R_drew)); exact HO235.out) hb); have n3_ := Aside0.mk (Kd.R_below (by (with_reducible repeat (first | apply Kd.R_alloc | apply Kd.R_drewN | apply Kd.R_drew)); exact HO239.out) hb); have n4_ := Aside0.mk (below_step (by repeat (first | (with_reducible first | exact HB.out | apply below_alloc | apply pw_below_drewN | apply below_drew1) | exact HB.out)) hb); clear HO226; clear HO231; clear HO235; clear HO239; clear HB; have HO226 := n0_; have HO231 := n1_; have HO235 := n2_; have HO239 := n3_; have HB := n4_; clear n0_ n1_ n2_ n3_ n4_; (try clear hb); (try clear hb2); (try clear hk); (try clear hi); obtain ⟨Ao35, co35, eo35⟩ := Kd.R_slice HO235.out; subst eo35; obtain ⟨Ao36, co36, eo36⟩ := Kd.R_slice HO239.out; subst eo36))
                         go_meet
                         case rel => exact ⟨_, (decide (t244 < 1)), (by first | rfl | (simp; done) | (simp [*]; done)), H', ⟨by first | omega | exact Nat.le_refl _⟩, ⟨by (with_reducible repeat (first | apply Kd.R_alloc | apply Kd.R_drewN | apply Kd.R_drew)); exact HO226.out⟩, ⟨by (with_reducible repeat (first | apply Kd.R_alloc | apply Kd.R_drewN | apply Kd.R_drew)); exact HO231.out⟩, ⟨by (with_reducible repeat (first | apply Kd.R_alloc | apply Kd.R_drewN | apply Kd.R_drew)); exact Kd.R_mono HO235.out (fun _ hk => hk.2)⟩, ⟨by (with_reducible repeat (first | apply Kd.R_alloc | apply Kd.R_drewN | apply Kd.R_drew)); exact Kd.R_mono HO239.out (fun _ hk => hk.2)⟩, ⟨by repeat (first | (with_reducible first | exact HB.out | apply below_alloc | apply pw_below_drewN | apply below_drew1) | exact HB.out)⟩⟩
                    · rw [if_neg c31] at H
                      exact absurd H (by simp)
                  · rw [if_neg c30] at H
                    exact absurd H (by simp)
                · replace c29 := Bool.eq_false_iff.mpr c29
                  subst c29
                  have H1 : (none) = some r := by rw [if_neg (show ¬ (false = true) by decide)] at H; exact H
                  clear H
                  have H := H1
                  clear H1
                  exact absurd H (by simp)
              · replace c27 := Bool.eq_false_iff.mpr c27
                subst c27
                have H1 : (none) = some r := by rw [if_neg (show ¬ (false = true) by decide)] at H; exact H
                clear H
                have H := H1
                clear H1
                exact absurd H (by simp)
            · replace c25 := Bool.eq_false_iff.mpr c25
              subst c25
              have H1 : (none) = some r := by rw [if_neg (show ¬ (false = true) by decide)] at H; exact H
              clear H
              have H := H1
              clear H1
              exact absurd H (by simp)
          · replace c24 := Bool.eq_false_iff.mpr c24
            subst c24
            have H1 : (none) = some r := by rw [if_neg (show ¬ (false = true) by decide)] at H; exact H
            clear H
            have H := H1
            clear H1
            exact absurd H (by simp)
        · replace c23 := Bool.eq_false_iff.mpr c23
          subst c23
          have H1 : (none) = some r := by rw [if_neg (show ¬ (false = true) by decide)] at H; exact H
          clear H
          have H := H1
          clear H1
          exact absurd H (by simp)
      · replace c22 := Bool.eq_false_iff.mpr c22
        subst c22
        have H1 : (none) = some r := by rw [if_neg (show ¬ (false = true) by decide)] at H; exact H
        clear H
        have H := H1
        clear H1
        exact absurd H (by simp)
    · replace c21 := Bool.eq_false_iff.mpr c21
      subst c21
      have H1 : (none) = some r := by rw [if_neg (show ¬ (false = true) by decide)] at H; exact H
      clear H
      have H := H1
      clear H1
      exact absurd H (by simp)
   case rest =>
    clear HC12
    (try clear c1); (try clear c2); (try clear p2); (try clear c3); (try clear c4); (try clear c5); (try clear c12); (try clear c21); (try clear c22); (try clear c23); (try clear c24); (try clear c25); (try clear c27); (try clear c29); (try clear c30); (try clear c30b0); (try clear c30b1); (try clear c30b2); (try clear c31); (try clear c31b0); (try clear c31b1); (try clear c31b2); (try clear c32); (try clear c32b0); (try clear c33); (try clear c34)
    obtain ⟨kq, x120_11, rfl, HA, HJ11, HO_5, HO_7, HO_9, HO_11, HB⟩ := hcut
    cases kq with
    | zero => exact absurd HA.out (by simp [laws_FnPlans.j0])
    | succ kj11 =>
     have H := HA.out
     clear HA
     simp only [laws_FnPlans.j0] at H
     by_cases c37 : x120_11 = true
     · subst c37
       have H1 : (none) = some r := by rw [if_pos rfl] at H; exact H
       clear H
       have H := H1
       clear H1
       exact absurd H (by simp)
     · replace c37 := Bool.eq_false_iff.mpr c37
       subst c37
       have H1 : (laws_FnPlans.l0 kj11 t224 t227 t228 t232 t236 t240 t241 t243 t244 0 (t224.length : Int) 0) = some r := by rw [if_neg (show ¬ (false = true) by decide)] at H; exact H
       clear H
       have H := H1
       clear H1
       have H' := Aside0.mk H
       clear H
       go_wp2
       go_loopg [19, 123] kj11 (fun kq v19 v123 w' => ∃ (x19_2 : Nat) (x123_2 : Int), v19 = .float .f64 x19_2 ∧ v123 = .int .i64 x123_2 ∧ Aside0 (laws_FnPlans.l0 kq t224 t227 t228 t232 t236 t240 t241 t243 t244 x19_2 (t224.length : Int) x123_2 = some r) ∧ Aside0 (kq ≤ kj11) ∧ Aside0 (Kd.R k54 54 w' w.heap.size (fun _ => True) (.slice Ao14 t224.length co14) t224) ∧ Aside0 (Kd.R k81 81 w' w.heap.size (fun _ => True) (.slice Ao16 t228.length co16) t228) ∧ Aside0 (Kd.R (Kd.int .i64) 2 w' w.heap.size (fun k_ => some k_ ≠ (v238 : Value).ownBlock) v234 t232) ∧ Aside0 (Kd.R (Kd.int .i64) 2 w' w.heap.size (fun k_ => some k_ ≠ (v234 : Value).ownBlock) v238 t236) ∧ Aside0 (Below w.heap.size w w'))
       case atStart => exact ⟨(0), (0), (by first | rfl | (simp; done) | (simp [*]; done)), (by first | rfl | (simp; done) | (simp [*]; done)), H', ⟨Nat.le_refl _⟩, ⟨by (with_reducible repeat (first | apply Kd.R_alloc | apply Kd.R_drewN | apply Kd.R_drew)); exact HO_5.out⟩, ⟨by (with_reducible repeat (first | apply Kd.R_alloc | apply Kd.R_drewN | apply Kd.R_drew)); exact HO_7.out⟩, ⟨by (with_reducible repeat (first | apply Kd.R_alloc | apply Kd.R_drewN | apply Kd.R_drew)); exact HO_9.out⟩, ⟨by (with_reducible repeat (first | apply Kd.R_alloc | apply Kd.R_drewN | apply Kd.R_drew)); exact HO_11.out⟩, ⟨by repeat (first | (with_reducible first | exact HB.out | apply below_alloc | apply pw_below_drewN | apply below_drew1) | exact HB.out)⟩⟩
       case round =>
        clear H'
        (try clear c1); (try clear c2); (try clear p2); (try clear c3); (try clear c4); (try clear c5); (try clear c12); (try clear c21); (try clear c22); (try clear c23); (try clear c24); (try clear c25); (try clear c27); (try clear c29); (try clear c30); (try clear c30b0); (try clear c30b1); (try clear c30b2); (try clear c31); (try clear c31b0); (try clear c31b1); (try clear c31b2); (try clear c32); (try clear c32b0); (try clear c33); (try clear c34); (try clear c37); (try clear p2)
        obtain ⟨x19_2, x123_2, rfl, rfl, HA, HK2, HO_5, HO_7, HO_9, HO_11, HB⟩ := hrel
        cases gk with
        | zero => exact absurd HA.out (by simp [laws_FnPlans.l0])
        | succ k2 =>
         have H := HA.out
         clear HA
         simp only [laws_FnPlans.l0] at H
         by_cases c38 : x123_2 < (t224.length : Int)
         · rw [if_pos c38] at H
           have c38b0 : decide (x123_2 < (t224.length : Int)) = true := decide_eq_true c38
           clear c38
           by_cases c39 : 0 ≤ x123_2
           · rw [if_pos c39] at H
             have c39b0 : decide (0 ≤ x123_2) = true := decide_eq_true c39
             clear c39
             by_cases c40 : x123_2 < (t224.length : Int)
             · rw [if_pos c40] at H
               have c40b0 : decide (x123_2 < (t224.length : Int)) = true := decide_eq_true c40
               clear c40
               by_cases c41 : FOk .quo .f64 (floatOfInt .f64 ((rd_T54 t224 x123_2).f1)) (floatOfInt .f64 ((rd_T54 t224 x123_2).f2)) = true
               · rw [if_pos c41] at H
                 have fe41 := fun t w => frun (P := Try.prog) c41 t w
                 have c41b0 : FOk .quo .f64 (floatOfInt .f64 ((rd_T54 t224 x123_2).f1)) (floatOfInt .f64 ((rd_T54 t224 x123_2).f2)) = true := c41
                 clear c41
                 by_cases c42 : FOk .add .f64 x19_2 (fq .quo .f64 (floatOfInt .f64 ((rd_T54 t224 x123_2).f1)) (floatOfInt .f64 ((rd_T54 t224 x123_2).f2))) = true
                 · rw [if_pos c42] at H
                   have fe42 := fun t w => frun (P := Try.prog) c42 t w
                   have c42b0 : FOk .add .f64 x19_2 (fq .quo .f64 (floatOfInt .f64 ((rd_T54 t224 x123_2).f1)) (floatOfInt .f64 ((rd_T54 t224 x123_2).f2))) = true := c42
                   clear c42
                   as_aux_lemma =>
                    have H' := Aside0.mk H
                    clear H
                    try go_wp2
                    have n0_ := Aside0.mk (Kd.R_drew HO_5.out)
                    have n1_ := Aside0.mk (Kd.R_drew HO_7.out)
                    have n2_ := Aside0.mk (Kd.R_drew HO_9.out)
                    have n3_ := Aside0.mk (Kd.R_drew HO_11.out)
                    have n4_ := Aside0.mk (below_drew1 HB.out)
                    clear HO_5
                    clear HO_7
                    clear HO_9
                    clear HO_11
                    clear HB
                    have HO_5 := n0_
                    have HO_7 := n1_
                    have HO_9 := n2_
                    have HO_11 := n3_
                    have HB := n4_
                    clear n0_ n1_ n2_ n3_ n4_
                    have p248 : 0 ≤ (x123_2 : Int) := of_decide_eq_true (by first | (with_reducible assumption) | assumption)
                    have q248 : x123_2 < (t224.length : Int) := of_decide_eq_true (by first | (with_reducible assumption) | assumption)
                    obtain ⟨ad248, e248, hx248_0, hx248_1, hx248_2, hx248_3⟩ := at_T54 (Kd.R_reads' HO_5.out).2.2 x123_2 p248 q248
                    cases e248
                    replace p248 := eq_true p248
                    replace q248 := eq_true q248
                    have p249 : 0 ≤ (x123_2 : Int) := of_decide_eq_true (by first | (with_reducible assumption) | assumption)
                    have q249 : x123_2 < (t224.length : Int) := of_decide_eq_true (by first | (with_reducible assumption) | assumption)
                    obtain ⟨ad249, e249, hx249_0, hx249_1, hx249_2, hx249_3⟩ := at_T54 (Kd.R_reads' HO_5.out).2.2 x123_2 p249 q249
                    obtain rfl : ad248 = ad249 := (by injection e249)
                    replace p249 := eq_true p249
                    replace q249 := eq_true q249
                    refine start_ (n := 16) (S := fun w' => w'.cell? (ad248.add ((x123_2).toNat * 4)) = some (.int .i64 ((rd_T54 t224 x123_2).f0.f0)) ∧ w'.cell? ⟨(ad248.add ((x123_2).toNat * 4)).block, (ad248.add ((x123_2).toNat * 4)).off + 1, none⟩ = some (.int .i64 ((rd_T54 t224 x123_2).f0.f1)) ∧ w'.cell? ⟨(ad248.add ((x123_2).toNat * 4)).block, (ad248.add ((x123_2).toNat * 4)).off + 2, none⟩ = some (.int .i64 ((rd_T54 t224 x123_2).f1)) ∧ w'.cell? ⟨(ad248.add ((x123_2).toNat * 4)).block, (ad248.add ((x123_2).toNat * 4)).off + 3, none⟩ = some (.int .i64 ((rd_T54 t224 x123_2).f2)) ∧ w'.cell? (ad248.add ((x123_2).toNat * 4)) = some (.int .i64 ((rd_T54 t224 x123_2).f0.f0)) ∧ w'.cell? ⟨(ad248.add ((x123_2).toNat * 4)).block, (ad248.add ((x123_2).toNat * 4)).off + 1, none⟩ = some (.int .i64 ((rd_T54 t224 x123_2).f0.f1)) ∧ w'.cell? ⟨(ad248.add ((x123_2).toNat * 4)).block, (ad248.add ((x123_2).toNat * 4)).off + 2, none⟩ = some (.int .i64 ((rd_T54 t224 x123_2).f1)) ∧ w'.cell? ⟨(ad248.add ((x123_2).toNat * 4)).block, (ad248.add ((x123_2).toNat * 4)).off + 3, none⟩ = some (.int .i64 ((rd_T54 t224 x123_2).f2))) (ds := []) #[false, false, false, false, false, false, false, false, false, false, false, false, false, false, false, false] (by kernel_rfl) rfl rfl ⟨hx248_0, hx248_1, hx248_2, hx248_3, hx249_0, hx249_1, hx249_2, hx249_3⟩ (fun hHeld => ?_); refine with_tabW laws_FnPlans.tab16 laws_FnPlans.bits16 (fun HT_ HW_ => ?_)
                    generalize wr.drew = w43 at HO_5 HO_7 HO_9 HO_11 HB hx248_0 hx248_1 hx248_2 hx248_3 hx249_0 hx249_1 hx249_2 hx249_3 hHeld ⊢
                    refine pure_ (i := 0) (N := some 126) (v := ?_) (a' := ?_) #[true, false, false, false, false, false, false, false, false, false, false, false, false, false, false, false] rfl rfl (any_of HT_.out (by kernel_rfl)) (fun _ _ _ h => h) (Or.inl ⟨by rfl, ?_⟩) ?_ ?_; rotate_left 4
                    refine pure_ (i := 1) (N := some 127) (v := ?_) (a' := ?_) #[true, true, false, false, false, false, false, false, false, false, false, false, false, false, false, false] rfl rfl (any_of HT_.out (by kernel_rfl)) (fun _ _ _ h => h) (Or.inl ⟨by rfl, ?_⟩) ?_ ?_; rotate_left 4
                    refine pure_ (i := 2) (N := some 128) (v := ?_) (a' := ?_) #[true, true, true, false, false, false, false, false, false, false, false, false, false, false, false, false] rfl rfl (any_of HT_.out (by kernel_rfl)) (fun _ _ _ h => h) (Or.inl ⟨by rfl, ?_⟩) ?_ ?_; rotate_left 4
                    refine pure_ (i := 3) (N := some 129) (v := ?_) (a' := ?_) #[true, true, true, true, false, false, false, false, false, false, false, false, false, false, false, false] rfl rfl (any_of HT_.out (by kernel_rfl)) (fun _ _ _ h => h) (Or.inl ⟨by rfl, ?_⟩) ?_ ?_; rotate_left 4
                    refine pure_ (i := 4) (N := some 130) (v := ?_) (a' := ?_) #[true, true, true, true, true, false, false, false, false, false, false, false, false, false, false, false] rfl rfl (any_of HT_.out (by kernel_rfl)) (fun _ _ _ h => h) (Or.inl ⟨by rfl, ?_⟩) ?_ ?_; rotate_left 4
                    refine pure_ (i := 7) (N := some 133) (v := ?_) (a' := ?_) #[true, true, true, true, true, false, false, true, false, false, false, false, false, false, false, false] rfl rfl (any_of HT_.out (by kernel_rfl)) (fun _ _ _ h => h) (Or.inl ⟨by rfl, ?_⟩) ?_ ?_; rotate_left 4
                    refine pure_ (i := 8) (N := some 134) (v := ?_) (a' := ?_) #[true, true, true, true, true, false, false, true, true, false, false, false, false, false, false, false] rfl rfl (any_of HT_.out (by kernel_rfl)) (fun _ _ _ h => h) (Or.inl ⟨by rfl, ?_⟩) ?_ ?_; rotate_left 4
                    refine pure_ (i := 9) (N := some 135) (v := ?_) (a' := ?_) #[true, true, true, true, true, false, false, true, true, true, false, false, false, false, false, false] rfl rfl (any_of HT_.out (by kernel_rfl)) (fun _ _ _ h => h) (Or.inl ⟨by rfl, ?_⟩) ?_ ?_; rotate_left 4
                    refine pure_ (i := 10) (N := some 136) (v := ?_) (a' := ?_) #[true, true, true, true, true, false, false, true, true, true, true, false, false, false, false, false] rfl rfl (any_of HT_.out (by kernel_rfl)) (fun _ _ _ h => h) (Or.inl ⟨by rfl, ?_⟩) ?_ ?_; rotate_left 4
                    rotate_left; iterate 9 (rotate_left; (intro w'; go_simp; with_reducible rfl); rotate_left; (simp only [Act.put, List.setIfInBounds_toArray, List.set_cons_zero, List.set_cons_succ, i64_w, i32_w]; rfl))
                    refine take_ (i := 5) (N := some 131) (v := ?_) (a' := ?_) #[true, true, true, true, true, true, false, true, true, true, true, false, false, false, false, false] rfl rfl (take_ofW HT_.out HW_.out (by kernel_rfl)) (fun _ _ _ h => h) (Or.inl ⟨by rfl, ?_⟩) hHeld ?_ ?_
                    rotate_left
                    · rintro w' ⟨s0, s1, s2, s3, s4, s5, s6, s7⟩
                      go_simp
                      with_reducible rfl
                    rotate_left
                    · simp only [Act.put, List.setIfInBounds_toArray, List.set_cons_zero, List.set_cons_succ, i64_w, i32_w]
                      rfl
                    refine pure_ (i := 6) (N := some 132) (v := ?_) (a' := ?_) #[true, true, true, true, true, true, true, true, true, true, true, false, false, false, false, false] rfl rfl (any_of HT_.out (by kernel_rfl)) (fun _ _ _ h => h) (Or.inl ⟨by rfl, ?_⟩) ?_ ?_; rotate_left 4
                    rotate_left; iterate 1 (rotate_left; (intro w'; go_simp; with_reducible rfl); rotate_left; (simp only [Act.put, List.setIfInBounds_toArray, List.set_cons_zero, List.set_cons_succ, i64_w, i32_w]; rfl))
                    refine take_ (i := 11) (N := some 137) (v := ?_) (a' := ?_) #[true, true, true, true, true, true, true, true, true, true, true, true, false, false, false, false] rfl rfl (take_ofW HT_.out HW_.out (by kernel_rfl)) (fun _ _ _ h => h) (Or.inl ⟨by rfl, ?_⟩) hHeld ?_ ?_
                    rotate_left
                    · rintro w' ⟨s0, s1, s2, s3, s4, s5, s6, s7⟩
                      go_simp
                      with_reducible rfl
                    rotate_left
                    · simp only [Act.put, List.setIfInBounds_toArray, List.set_cons_zero, List.set_cons_succ, i64_w, i32_w]
                      rfl
                    refine pure_ (i := 12) (N := some 138) (v := ?_) (a' := ?_) #[true, true, true, true, true, true, true, true, true, true, true, true, true, false, false, false] rfl rfl (any_of HT_.out (by kernel_rfl)) (fun _ _ _ h => h) (Or.inl ⟨by rfl, ?_⟩) ?_ ?_; rotate_left 4
                    refine pure_ (i := 13) (N := some 139) (v := ?_) (a' := ?_) #[true, true, true, true, true, true, true, true, true, true, true, true, true, true, false, false] rfl rfl (any_of HT_.out (by kernel_rfl)) (fun _ _ _ h => h) (Or.inl ⟨by rfl, ?_⟩) ?_ ?_; rotate_left 4
                    refine pure_ (i := 14) (N := some 140) (v := ?_) (a' := ?_) #[true, true, true, true, true, true, true, true, true, true, true, true, true, true, true, false] rfl rfl (any_of HT_.out (by kernel_rfl)) (fun _ _ _ h => h) (Or.inl ⟨by rfl, ?_⟩) ?_ ?_; rotate_left 4
                    refine pure_ (i := 15) (N := some 19) (v := ?_) (a' := ?_) #[true, true, true, true, true, true, true, true, true, true, true, true, true, true, true, true] rfl rfl (any_of HT_.out (by kernel_rfl)) (fun _ _ _ h => h) (Or.inl ⟨by rfl, ?_⟩) ?_ ?_; rotate_left 4
                    rotate_left; iterate 4 (rotate_left; (intro w'; go_simp; with_reducible rfl); rotate_left; (simp only [Act.put, List.setIfInBounds_toArray, List.set_cons_zero, List.set_cons_succ, i64_w, i32_w]; rfl))
                    refine done_ (done_of HT_.out (by kernel_rfl)) ?_
                    try go_wp2
                    go_roundg k2
                    case measure => have := HJ11.out; have := HK2.out; omega
                    case rel => exact ⟨(fq .add .f64 x19_2 (fq .quo .f64 (floatOfInt .f64 ((rd_T54 t224 x123_2).f1)) (floatOfInt .f64 ((rd_T54 t224 x123_2).f2)))), (wrap64 (x123_2 + 1)), (by first | rfl | (simp; done) | (simp [*]; done)), (by first | rfl | (simp; done) | (simp [*]; done)), H', ⟨by have := HJ11.out; have := HK2.out; omega⟩, ⟨by (with_reducible repeat (first | apply Kd.R_alloc | apply Kd.R_drewN | apply Kd.R_drew)); exact HO_5.out⟩, ⟨by (with_reducible repeat (first | apply Kd.R_alloc | apply Kd.R_drewN | apply Kd.R_drew)); exact HO_7.out⟩, ⟨by (with_reducible repeat (first | apply Kd.R_alloc | apply Kd.R_drewN | apply Kd.R_drew)); exact HO_9.out⟩, ⟨by (with_reducible repeat (first | apply Kd.R_alloc | apply Kd.R_drewN | apply Kd.R_drew)); exact HO_11.out⟩, ⟨by repeat (first | (with_reducible first | exact HB.out | apply below_alloc | apply pw_below_drewN | apply below_drew1) | exact HB.out)⟩⟩
                 · rw [if_neg c42] at H
                   exact absurd H (by simp)
               · rw [if_neg c41] at H
                 exact absurd H (by simp)
             · rw [if_neg c40] at H
               exact absurd H (by simp)
           · rw [if_neg c39] at H
             exact absurd H (by simp)
         · rw [if_neg c38] at H
           have c38b0 : decide (x123_2 < (t224.length : Int)) = false := decide_eq_false c38
           clear c38
           by_cases c44 : FOk .quo .f64 (floatOfInt .f64 t243) (floatOfInt .f64 t244) = true
           · rw [if_pos c44] at H
             have fe44 := fun t w => frun (P := Try.prog) c44 t w
             have c44b0 : FOk .quo .f64 (floatOfInt .f64 t243) (floatOfInt .f64 t244) = true := c44
             clear c44
             replace H := Option.bind_eq_some_iff.mp H
             obtain ⟨t250, A450, H⟩ := H
             replace H : (if (FloatKind.f64.format.order t250 4517329193108106637 == some .gt) = true then (none) else (if 0 ≤ (t224.length : Int) then (if ((t224.length : Int) : Int).toNat ≤ 35184372088832 then (laws_FnPlans.l1 k2 t224 t227 t228 t232 t236 t240 t241 (List.replicate ((t224.length : Int) : Int).toNat 0) (List.replicate ((t224.length : Int) : Int).toNat 0) 0 0 (t228.length : Int) 0) else (none)) else (none))) = some r := H
             have A45 := Aside0.mk A450
             clear A450
             by_cases c46 : (FloatKind.f64.format.order t250 4517329193108106637 == some .gt) = true
             · rw [if_pos c46] at H
               exact absurd H (by simp)
             · rw [if_neg c46] at H
               have c46b0 : (FloatKind.f64.format.order t250 4517329193108106637 == some .gt) = false := by simpa using c46
               (try (have c46b1 : decide (FloatKind.f64.format.order t250 4517329193108106637 = some .gt) = false := by simpa using c46))
               (try (have c46b2 : (FloatKind.f64.format.order t250 4517329193108106637 == some .gt) = false := by simpa using c46))
               (try (have c46b3 : ¬ (FloatKind.f64.format.order t250 4517329193108106637 = some .gt) := by simpa using c46))
               clear c46
               by_cases c47 : 0 ≤ (t224.length : Int)
               · rw [if_pos c47] at H
                 have c47b0 := eq_true c47
                 have c47b1 : decide (0 ≤ (t224.length : Int)) = true := decide_eq_true c47
                 clear c47
                 by_cases c48 : ((t224.length : Int) : Int).toNat ≤ 35184372088832
                 · rw [if_pos c48] at H
                   have c48b0 := eq_true c48
                   have c48b1 : decide (((t224.length : Int) : Int).toNat ≤ 35184372088832) = true := decide_eq_true c48
                   clear c48
                   obtain ⟨y251, hy251⟩ : ∃ y_ : List Int, y_ = (List.replicate ((t224.length : Int) : Int).toNat 0) := ⟨_, rfl⟩
                   replace H : (laws_FnPlans.l1 k2 t224 t227 t228 t232 t236 t240 t241 y251 (List.replicate ((t224.length : Int) : Int).toNat 0) 0 0 (t228.length : Int) 0) = some r := by first | (rw [hy251]; with_reducible exact H) | (have H2_ := (Option.bind_some _ _).symm.trans H; rw [hy251]; with_reducible exact H2_) | (have H2_ := (Option.bind_some _ _).symm.trans H; with_reducible exact H2_) | with_reducible exact H | (rw [hy251]; exact H) | exact H
                   have Ny251 := Aside0.mk hy251
                   clear hy251
                   obtain ⟨y254, hy254⟩ : ∃ y_ : List Int, y_ = (List.replicate ((t224.length : Int) : Int).toNat 0) := ⟨_, rfl⟩
                   replace H : (laws_FnPlans.l1 k2 t224 t227 t228 t232 t236 t240 t241 y251 y254 0 0 (t228.length : Int) 0) = some r := by first | (rw [hy254]; with_reducible exact H) | (have H2_ := (Option.bind_some _ _).symm.trans H; rw [hy254]; with_reducible exact H2_) | (have H2_ := (Option.bind_some _ _).symm.trans H; with_reducible exact H2_) | with_reducible exact H | (rw [hy254]; exact H) | exact H
                   have Ny254 := Aside0.mk hy254
                   clear hy254
                   have H' := Aside0.mk H
                   clear H
                   go_wp2_with (first | ((with_reducible refine gate_callee (f := 52) rfl ?_); refine goesL_ (some 148) rfl rfl Try.func52 (by kernel_rfl) rfl #[.float .f64 (fq .quo .f64 (floatOfInt .f64 t243) (floatOfInt .f64 t244)), .float .f64 x19_2] rfl (by (try simp only [List.map_toArray, List.map_cons, List.map_nil]); first | done | rfl | (simp only [List.length_drop, List.length_take]; rfl)) ?_; (with_reducible refine (laws_b10Gap.calls (fq .quo .f64 (floatOfInt .f64 t243) (floatOfInt .f64 t244)) x19_2 t250 _ A45.out).mono ?_); rintro e w' ⟨rfl, ⟨nd, rfl⟩⟩; refine ⟨_, rfl, ?_⟩) | ((with_reducible refine gate_dst (N := 152) rfl ?_); (try (refine gate_guard (by rfl) ?_; dsimp only)); refine Kd.R_make (Kd.int .i64) _ 2 rfl (N := 152) rfl 41 _ _ rfl (t224.length : Int) rfl rfl Try.underlying41 (.int .i64 0) 8 info2 rfl (by decide) (by omega) 0 (ok := fun _ => True) (okp := fun _ => True) rfl (fun _ hk => hk) trivial (of_decide_eq_true (by first | (with_reducible assumption) | assumption)) (Nat.le_trans (Nat.mul_le_mul_right _ (of_decide_eq_true (by first | (with_reducible assumption) | assumption) : (t224.length : Int).toNat ≤ 35184372088832)) (by omega)) (Below.refl _ _) (Nat.le_refl _) ?_; intro v252 w49 ho50 hb hg_ hnew_; clear hg_ hnew_; (first | rw [← Ny251.out] at ho50 | (simp only [Int.reduceToNat] at ho50; rw [← Ny251.out] at ho50)); have n0_ := Aside0.mk (Kd.R_below (by (with_reducible repeat (first | apply Kd.R_alloc | apply Kd.R_drewN | apply Kd.R_drew)); exact HO_5.out) hb); have n1_ := Aside0.mk (Kd.R_below (by (with_reducible repeat (first | apply Kd.R_alloc | apply Kd.R_drewN | apply Kd.R_drew)); exact HO_7.out) hb); have n2_ := Aside0.mk (Kd.R_elder' (by (with_reducible repeat (first | apply Kd.R_alloc | apply Kd.R_drewN | apply Kd.R_drew)); exact HO_9.out) (Kd.R_base ho50) hb); have n3_ := Aside0.mk (Kd.R_elder' (by (with_reducible repeat (first | apply Kd.R_alloc | apply Kd.R_drewN | apply Kd.R_drew)); exact HO_11.out) (Kd.R_base ho50) hb); have n4_ := Aside0.mk (Kd.R_lower (Kd.R_new' (Kd.R_new' ho50 (Kd.R_lt (by (with_reducible repeat (first | apply Kd.R_alloc | apply Kd.R_drewN | apply Kd.R_drew)); exact HO_9.out))) (Kd.R_lt (by (with_reducible repeat (first | apply Kd.R_alloc | apply Kd.R_drewN | apply Kd.R_drew)); exact HO_11.out))) (below_size (by repeat (first | (with_reducible first | exact HB.out | apply below_alloc | apply pw_below_drewN | apply below_drew1) | exact HB.out)))); have n5_ := Aside0.mk (below_step (by repeat (first | (with_reducible first | exact HB.out | apply below_alloc | apply pw_below_drewN | apply below_drew1) | exact HB.out)) hb); clear HO_5; clear HO_7; clear HO_9; clear HO_11; clear HB; have HO_5 := n0_; have HO_7 := n1_; have HO_9 := n2_; have HO_11 := n3_; have HO253 := n4_; have HB := n5_; clear n0_ n1_ n2_ n3_ n4_ n5_; clear hb ho50) | ((with_reducible refine gate_dst (N := 155) rfl ?_); (try (refine gate_guard (by rfl) ?_; dsimp only)); refine Kd.R_make (Kd.int .i64) _ 2 rfl (N := 155) rfl 41 _ _ rfl (t224.length : Int) rfl rfl Try.underlying41 (.int .i64 0) 8 info2 rfl (by decide) (by omega) 0 (ok := fun _ => True) (okp := fun _ => True) rfl (fun _ hk => hk) trivial (of_decide_eq_true (by first | (with_reducible assumption) | assumption)) (Nat.le_trans (Nat.mul_le_mul_right _ (of_decide_eq_true (by first | (with_reducible assumption) | assumption) : (t224.length : Int).toNat ≤ 35184372088832)) (by omega)) (Below.refl _ _) (Nat.le_refl _) ?_; intro v255 w51 ho52 hb hg_ hnew_; clear hg_ hnew_; (first | rw [← Ny254.out] at ho52 | (simp only [Int.reduceToNat] at ho52; rw [← Ny254.out] at ho52)); have n0_ := Aside0.mk (Kd.R_below (by (with_reducible repeat (first | apply Kd.R_alloc | apply Kd.R_drewN | apply Kd.R_drew)); exact HO_5.out) hb); have n1_ := Aside0.mk (Kd.R_below (by (with_reducible repeat (first | apply Kd.R_alloc | apply Kd.R_drewN | apply Kd.R_drew)); exact HO_7.out) hb); have n2_ := Aside0.mk (Kd.R_elder' (by (with_reducible repeat (first | apply Kd.R_alloc | apply Kd.R_drewN | apply Kd.R_drew)); exact HO_9.out) (Kd.R_base ho52) hb); have n3_ := Aside0.mk (Kd.R_elder' (by (with_reducible repeat (first | apply Kd.R_alloc | apply Kd.R_drewN | apply Kd.R_drew)); exact HO_11.out) (Kd.R_base ho52) hb); have n4_ := Aside0.mk (Kd.R_elder' (by (with_reducible repeat (first | apply Kd.R_alloc | apply Kd.R_drewN | apply Kd.R_drew)); exact HO253.out) (Kd.R_base ho52) hb); have n5_ := Aside0.mk (Kd.R_lower (Kd.R_new' (Kd.R_new' (Kd.R_new' ho52 (Kd.R_lt (by (with_reducible repeat (first | apply Kd.R_alloc | apply Kd.R_drewN | apply Kd.R_drew)); exact HO_9.out))) (Kd.R_lt (by (with_reducible repeat (first | apply Kd.R_alloc | apply Kd.R_drewN | apply Kd.R_drew)); exact HO_11.out))) (Kd.R_lt (by (with_reducible repeat (first | apply Kd.R_alloc | apply Kd.R_drewN | apply Kd.R_drew)); exact HO253.out))) (below_size (by repeat (first | (with_reducible first | exact HB.out | apply below_alloc | apply pw_below_drewN | apply below_drew1) | exact HB.out)))); have n6_ := Aside0.mk (below_step (by repeat (first | (with_reducible first | exact HB.out | apply below_alloc | apply pw_below_drewN | apply below_drew1) | exact HB.out)) hb); clear HO_5; clear HO_7; clear HO_9; clear HO_11; clear HO253; clear HB; have HO_5 := n0_; have HO_7 := n1_; have HO_9 := n2_; have HO_11 := n3_; have HO253 := n4_; have HO256 := n5_; have HB := n6_; clear n0_ n1_ n2_ n3_ n4_ n5_ n6_; clear hb ho52))
                   go_loopg [23, 24, 158] k2 (fun kq v23 v24 v158 w' => ∃ (x21_3 : List Int) (x22_3 : List Int) (x23_3 : Int) (x24_3 : Int) (x158_3 : Int), v23 = .int .i64 x23_3 ∧ v24 = .int .i64 x24_3 ∧ v158 = .int .i64 x158_3 ∧ Aside0 (laws_FnPlans.l1 kq t224 t227 t228 t232 t236 t240 t241 x21_3 x22_3 x23_3 x24_3 (t228.length : Int) x158_3 = some r) ∧ Aside0 (kq ≤ k2) ∧ Aside0 (Kd.R k54 54 w' w.heap.size (fun _ => True) (.slice Ao14 t224.length co14) t224) ∧ Aside0 (Kd.R k81 81 w' w.heap.size (fun _ => True) (.slice Ao16 t228.length co16) t228) ∧ Aside0 (Kd.R (Kd.int .i64) 2 w' w.heap.size (fun k_ => some k_ ≠ (v238 : Value).ownBlock ∧ some k_ ≠ (v252 : Value).ownBlock ∧ some k_ ≠ (v255 : Value).ownBlock) v234 t232) ∧ Aside0 (Kd.R (Kd.int .i64) 2 w' w.heap.size (fun k_ => some k_ ≠ (v234 : Value).ownBlock ∧ some k_ ≠ (v252 : Value).ownBlock ∧ some k_ ≠ (v255 : Value).ownBlock) v238 t236) ∧ Aside0 (Kd.R (Kd.int .i64) 2 w' w.heap.size (fun k_ => some k_ ≠ (v234 : Value).ownBlock ∧ some k_ ≠ (v238 : Value).ownBlock ∧ some k_ ≠ (v255 : Value).ownBlock) v252 x21_3) ∧ Aside0 (Kd.R (Kd.int .i64) 2 w' w.heap.size (fun k_ => some k_ ≠ (v234 : Value).ownBlock ∧ some k_ ≠ (v238 : Value).ownBlock ∧ some k_ ≠ (v252 : Value).ownBlock) v255 x22_3) ∧ Aside0 (Below w.heap.size w w'))
                   case atStart => exact ⟨(y251), (y254), (0), (0), (0), (by first | rfl | (simp; done) | (simp [*]; done)), (by first | rfl | (simp; done) | (simp [*]; done)), (by first | rfl | (simp; done) | (simp [*]; done)), H', ⟨Nat.le_refl _⟩, ⟨by (with_reducible repeat (first | apply Kd.R_alloc | apply Kd.R_drewN | apply Kd.R_drew)); exact HO_5.out⟩, ⟨by (with_reducible repeat (first | apply Kd.R_alloc | apply Kd.R_drewN | apply Kd.R_drew)); exact HO_7.out⟩, ⟨by (with_reducible repeat (first | apply Kd.R_alloc | apply Kd.R_drewN | apply Kd.R_drew)); exact Kd.R_mono HO_9.out (fun _ hk => ⟨hk.1.1, ⟨hk.1.2, hk.2⟩⟩)⟩, ⟨by (with_reducible repeat (first | apply Kd.R_alloc | apply Kd.R_drewN | apply Kd.R_drew)); exact Kd.R_mono HO_11.out (fun _ hk => ⟨hk.1.1, ⟨hk.1.2, hk.2⟩⟩)⟩, ⟨by (with_reducible repeat (first | apply Kd.R_alloc | apply Kd.R_drewN | apply Kd.R_drew)); exact Kd.R_mono HO253.out (fun _ hk => ⟨hk.1.1.2, ⟨hk.1.2, hk.2⟩⟩)⟩, ⟨by (with_reducible repeat (first | apply Kd.R_alloc | apply Kd.R_drewN | apply Kd.R_drew)); exact Kd.R_mono HO256.out (fun _ hk => ⟨hk.1.1.2, ⟨hk.1.2, hk.2⟩⟩)⟩, ⟨by repeat (first | (with_reducible first | exact HB.out | apply below_alloc | apply pw_below_drewN | apply below_drew1) | exact HB.out)⟩⟩
                   case round =>
                    clear H'
                    (try clear c1); (try clear c2); (try clear p2); (try clear q2); (try clear hx2); (try clear c3); (try clear c4); (try clear c5); (try clear p6); (try clear c12); (try clear c21); (try clear c22); (try clear c23); (try clear c24); (try clear p24); (try clear q24); (try clear hx24); (try clear c25); (try clear c27); (try clear c29); (try clear c30); (try clear c30b0); (try clear c30b1); (try clear c30b2); (try clear c31); (try clear c31b0); (try clear c31b1); (try clear c31b2); (try clear c32); (try clear c32b0); (try clear c33); (try clear c34); (try clear c37); (try clear c38); (try clear c38b0); (try clear c39); (try clear c39b0); (try clear c40); (try clear c40b0); (try clear c41); (try clear c41b0); (try clear c42); (try clear c42b0); (try clear c44); (try clear c44b0); (try clear c46); (try clear c46b0); (try clear c46b1); (try clear c46b2); (try clear c47); (try clear c47b0); (try clear c47b1); (try clear c48); (try clear c48b0); (try clear c48b1); (try clear c49); (try clear c50); (try clear c51); (try clear c52); (try clear hx248_0); (try clear hx248_1); (try clear hx248_2); (try clear hx248_3); (try clear hx249_0); (try clear hx249_1); (try clear hx249_2); (try clear hx249_3); (try clear p2); (try clear p248); (try clear p249); (try clear q248); (try clear q249)
                    obtain ⟨x21_3, x22_3, x23_3, x24_3, x158_3, rfl, rfl, rfl, HA, HK3, HO_5, HO_7, HO_9, HO_11, HO_21, HO_22, HB⟩ := hrel
                    cases gk with
                    | zero => exact absurd HA.out (by simp [laws_FnPlans.l1])
                    | succ k3 =>
                     have H := HA.out
                     clear HA
                     simp only [laws_FnPlans.l1] at H
                     by_cases c53 : x158_3 < (t228.length : Int)
                     · rw [if_pos c53] at H
                       have c53b0 : decide (x158_3 < (t228.length : Int)) = true := decide_eq_true c53
                       clear c53
                       by_cases c54 : 0 ≤ x158_3
                       · rw [if_pos c54] at H
                         have c54b0 : decide (0 ≤ x158_3) = true := decide_eq_true c54
                         clear c54
                         by_cases c55 : x158_3 < (t228.length : Int)
                         · rw [if_pos c55] at H
                           have c55b0 : decide (x158_3 < (t228.length : Int)) = true := decide_eq_true c55
                           clear c55
                           have HC56 := Aside0.mk H
                           clear H
                           have p257 : 0 ≤ (x158_3 : Int) := of_decide_eq_true (by first | (with_reducible assumption) | assumption)
                           have q257 : x158_3 < (t228.length : Int) := of_decide_eq_true (by first | (with_reducible assumption) | assumption)
                           obtain ⟨ad257, e257, hx257_0, hx257_1⟩ := at_T81 (Kd.R_reads' HO_7.out).2.2 x158_3 p257 q257
                           cases e257
                           replace p257 := eq_true p257
                           replace q257 := eq_true q257
                           go_upto_region 28 with (fail)
                           go_cut [200] (fun v200 wc => ∃ (kq : Nat) (x200_55 : Bool), v200 = .bool x200_55 ∧ Aside0 (laws_FnPlans.j3 kq t224 t227 t228 t232 t236 t240 t241 x21_3 x22_3 x23_3 x24_3 x158_3 ((rd_T81 t228 x158_3).f0) (t228.length : Int) x158_3 x200_55 = some r) ∧ Aside0 (kq ≤ k3) ∧ Aside0 (Kd.R k54 54 wc w.heap.size (fun _ => True) (.slice Ao14 t224.length co14) t224) ∧ Aside0 (Kd.R k81 81 wc w.heap.size (fun _ => True) (.slice (some ad257) t228.length co16) t228) ∧ Aside0 (Kd.R (Kd.int .i64) 2 wc w.heap.size (fun k_ => some k_ ≠ (v238 : Value).ownBlock ∧ some k_ ≠ (v252 : Value).ownBlock ∧ some k_ ≠ (v255 : Value).ownBlock) v234 t232) ∧ Aside0 (Kd.R (Kd.int .i64) 2 wc w.heap.size (fun k_ => some k_ ≠ (v234 : Value).ownBlock ∧ some k_ ≠ (v252 : Value).ownBlock ∧ some k_ ≠ (v255 : Value).ownBlock) v238 t236) ∧ Aside0 (Kd.R (Kd.int .i64) 2 wc w.heap.size (fun k_ => some k_ ≠ (v234 : Value).ownBlock ∧ some k_ ≠ (v238 : Value).ownBlock ∧ some k_ ≠ (v255 : Value).ownBlock) v252 x21_3) ∧ Aside0 (Kd.R (Kd.int .i64) 2 wc w.heap.size (fun k_ => some k_ ≠ (v234 : Value).ownBlock ∧ some k_ ≠ (v238 : Value).ownBlock ∧ some k_ ≠ (v252 : Value).ownBlock) v255 x22_3) ∧ Aside0 (Below w.heap.size w wc))
                           case first =>
                            have H := HC56.out
                            clear HC56
                            by_cases c57 : ((rd_T81 t228 x158_3).f0) < 0
                            · rw [if_pos c57] at H
                              have c57b0 : decide (((rd_T81 t228 x158_3).f0) < 0) = true := decide_eq_true c57
                              clear c57
                              (first | rw [c57b0] | (simp only [i64_w, i32_w]; rw [c57b0]) | skip)
                              exact absurd H (by simp)
                            · rw [if_neg c57] at H
                              have c57b0 : decide (((rd_T81 t228 x158_3).f0) < 0) = false := decide_eq_false c57
                              clear c57
                              (first | rw [c57b0] | (simp only [i64_w, i32_w]; rw [c57b0]) | skip)
                              by_cases c58 : ((rd_T81 t228 x158_3).f0) ≥ (t224.length : Int)
                              · rw [if_pos c58] at H
                                have c58b0 : decide ((t224.length : Int) ≤ ((rd_T81 t228 x158_3).f0)) = true := decide_eq_true c58
                                clear c58
                                exact absurd H (by simp)
                              · rw [if_neg c58] at H
                                have c58b0 : decide ((t224.length : Int) ≤ ((rd_T81 t228 x158_3).f0)) = false := decide_eq_false c58
                                clear c58
                                by_cases c59 : ((rd_T81 t228 x158_3).f1) ≥ t227
                                · rw [if_pos c59] at H
                                  have c59b0 : decide (t227 ≤ ((rd_T81 t228 x158_3).f1)) = true := decide_eq_true c59
                                  clear c59
                                  exact absurd H (by simp)
                                · rw [if_neg c59] at H
                                  have c59b0 : decide (t227 ≤ ((rd_T81 t228 x158_3).f1)) = false := decide_eq_false c59
                                  clear c59
                                  by_cases c60 : 0 ≤ ((rd_T81 t228 x158_3).f0)
                                  · rw [if_pos c60] at H
                                    have c60b0 : decide (0 ≤ ((rd_T81 t228 x158_3).f0)) = true := decide_eq_true c60
                                    clear c60
                                    by_cases c61 : ((rd_T81 t228 x158_3).f0) < (x21_3.length : Int)
                                    · rw [if_pos c61] at H
                                      have c61b0 : decide (((rd_T81 t228 x158_3).f0) < (x21_3.length : Int)) = true := decide_eq_true c61
                                      clear c61
                                      by_cases c62 : ((rd_T81 t228 x158_3).f0) < (t224.length : Int)
                                      · rw [if_pos c62] at H
                                        have c62b0 : decide (((rd_T81 t228 x158_3).f0) < (t224.length : Int)) = true := decide_eq_true c62
                                        clear c62
                                        as_aux_lemma =>
                                         have H' := Aside0.mk H
                                         clear H
                                         try go_wp2
                                         have n0_ := Aside0.mk (Kd.R_drew HO_5.out)
                                         have n1_ := Aside0.mk (Kd.R_drew HO_7.out)
                                         have n2_ := Aside0.mk (Kd.R_drew HO_9.out)
                                         have n3_ := Aside0.mk (Kd.R_drew HO_11.out)
                                         have n4_ := Aside0.mk (Kd.R_drew HO_21.out)
                                         have n5_ := Aside0.mk (Kd.R_drew HO_22.out)
                                         have n6_ := Aside0.mk (below_drew1 HB.out)
                                         clear HO_5
                                         clear HO_7
                                         clear HO_9
                                         clear HO_11
                                         clear HO_21
                                         clear HO_22
                                         clear HB
                                         have HO_5 := n0_
                                         have HO_7 := n1_
                                         have HO_9 := n2_
                                         have HO_11 := n3_
                                         have HO_21 := n4_
                                         have HO_22 := n5_
                                         have HB := n6_
                                         clear n0_ n1_ n2_ n3_ n4_ n5_ n6_
                                         have p258 : 0 ≤ (x158_3 : Int) := of_decide_eq_true (by first | (with_reducible assumption) | assumption)
                                         have q258 : x158_3 < (t228.length : Int) := of_decide_eq_true (by first | (with_reducible assumption) | assumption)
                                         obtain ⟨ad258, e258, hx258_0, hx258_1⟩ := at_T81 (Kd.R_reads' HO_7.out).2.2 x158_3 p258 q258
                                         obtain rfl : ad257 = ad258 := (by injection e258)
                                         replace p258 := eq_true p258
                                         replace q258 := eq_true q258
                                         have p259 : 0 ≤ (x158_3 : Int) := of_decide_eq_true (by first | (with_reducible assumption) | assumption)
                                         have q259 : x158_3 < (t228.length : Int) := of_decide_eq_true (by first | (with_reducible assumption) | assumption)
                                         obtain ⟨ad259, e259, hx259_0, hx259_1⟩ := at_T81 (Kd.R_reads' HO_7.out).2.2 x158_3 p259 q259
                                         obtain rfl : ad257 = ad259 := (by injection e259)
                                         replace p259 := eq_true p259
                                         replace q259 := eq_true q259
                                         obtain ⟨Ao64, co64, eo64⟩ := Kd.R_slice HO_21.out
                                         (first | subst eo64 | (injection eo64 with f1_ f2_ f3_; have f4_ := f1_.symm; have f5_ := f3_.symm; clear f1_ f2_ f3_; subst f4_; subst f5_))
                                         have p260 : 0 ≤ (((rd_T81 t228 x158_3).f0) : Int) := of_decide_eq_true (by first | (with_reducible assumption) | assumption)
                                         have q260 : ((rd_T81 t228 x158_3).f0) < (x21_3.length : Int) := of_decide_eq_true (by first | (with_reducible assumption) | assumption)
                                         obtain ⟨ad260, e260, hx260_0⟩ := Kd.at_int (Kd.R_reads' HO_21.out).2.2 ((rd_T81 t228 x158_3).f0) p260 q260
                                         cases e260
                                         replace p260 := eq_true p260
                                         replace q260 := eq_true q260
                                         have p261 : 0 ≤ (((rd_T81 t228 x158_3).f0) : Int) := of_decide_eq_true (by first | (with_reducible assumption) | assumption)
                                         have q261 : ((rd_T81 t228 x158_3).f0) < (t224.length : Int) := of_decide_eq_true (by first | (with_reducible assumption) | assumption)
                                         obtain ⟨ad261, e261, hx261_0, hx261_1, hx261_2, hx261_3⟩ := at_T54 (Kd.R_reads' HO_5.out).2.2 ((rd_T81 t228 x158_3).f0) p261 q261
                                         cases e261
                                         replace p261 := eq_true p261
                                         replace q261 := eq_true q261
                                         refine start_ (n := 35) (S := fun w' => w'.cell? (ad257.add ((x158_3).toNat * 2)) = some (.int .i64 ((rd_T81 t228 x158_3).f0)) ∧ w'.cell? ⟨(ad257.add ((x158_3).toNat * 2)).block, (ad257.add ((x158_3).toNat * 2)).off + 1, none⟩ = some (.int .i64 ((rd_T81 t228 x158_3).f1)) ∧ w'.cell? (ad257.add ((x158_3).toNat * 2)) = some (.int .i64 ((rd_T81 t228 x158_3).f0)) ∧ w'.cell? ⟨(ad257.add ((x158_3).toNat * 2)).block, (ad257.add ((x158_3).toNat * 2)).off + 1, none⟩ = some (.int .i64 ((rd_T81 t228 x158_3).f1)) ∧ w'.cell? (ad260.add (((rd_T81 t228 x158_3).f0)).toNat) = some (.int .i64 (rd x21_3 ((rd_T81 t228 x158_3).f0))) ∧ w'.cell? (ad261.add ((((rd_T81 t228 x158_3).f0)).toNat * 4)) = some (.int .i64 ((rd_T54 t224 ((rd_T81 t228 x158_3).f0)).f0.f0)) ∧ w'.cell? ⟨(ad261.add ((((rd_T81 t228 x158_3).f0)).toNat * 4)).block, (ad261.add ((((rd_T81 t228 x158_3).f0)).toNat * 4)).off + 1, none⟩ = some (.int .i64 ((rd_T54 t224 ((rd_T81 t228 x158_3).f0)).f0.f1)) ∧ w'.cell? ⟨(ad261.add ((((rd_T81 t228 x158_3).f0)).toNat * 4)).block, (ad261.add ((((rd_T81 t228 x158_3).f0)).toNat * 4)).off + 2, none⟩ = some (.int .i64 ((rd_T54 t224 ((rd_T81 t228 x158_3).f0)).f1)) ∧ w'.cell? ⟨(ad261.add ((((rd_T81 t228 x158_3).f0)).toNat * 4)).block, (ad261.add ((((rd_T81 t228 x158_3).f0)).toNat * 4)).off + 3, none⟩ = some (.int .i64 ((rd_T54 t224 ((rd_T81 t228 x158_3).f0)).f2))) (ds := []) #[false, false, false, false, false, false, false, false, false, false, false, false, false, false, false, false, false, false, false, false, false, false, false, false, false, false, false, false, false, false, false, false, false, false, false] (by kernel_rfl) rfl rfl ⟨hx258_0, hx258_1, hx259_0, hx259_1, hx260_0, hx261_0, hx261_1, hx261_2, hx261_3⟩ (fun hHeld => ?_); refine with_tabW laws_FnPlans.tab28 laws_FnPlans.bits28 (fun HT_ HW_ => ?_)
                                         generalize wr.drew = w63 at HO_5 HO_7 HO_9 HO_11 HO_21 HO_22 HB hx258_0 hx258_1 hx259_0 hx259_1 hx260_0 hx261_0 hx261_1 hx261_2 hx261_3 hHeld ⊢
                                         refine pure_ (i := 0) (N := some 166) (v := ?_) (a' := ?_) #[true, false, false, false, false, false, false, false, false, false, false, false, false, false, false, false, false, false, false, false, false, false, false, false, false, false, false, false, false, false, false, false, false, false, false] rfl rfl (any_of HT_.out (by kernel_rfl)) (fun _ _ _ h => h) (Or.inl ⟨by rfl, ?_⟩) ?_ ?_; rotate_left 4
                                         refine pure_ (i := 1) (N := some 167) (v := ?_) (a' := ?_) #[true, true, false, false, false, false, false, false, false, false, false, false, false, false, false, false, false, false, false, false, false, false, false, false, false, false, false, false, false, false, false, false, false, false, false] rfl rfl (any_of HT_.out (by kernel_rfl)) (fun _ _ _ h => h) (Or.inl ⟨by rfl, ?_⟩) ?_ ?_; rotate_left 4
                                         refine pure_ (i := 2) (N := some 168) (v := ?_) (a' := ?_) #[true, true, true, false, false, false, false, false, false, false, false, false, false, false, false, false, false, false, false, false, false, false, false, false, false, false, false, false, false, false, false, false, false, false, false] rfl rfl (any_of HT_.out (by kernel_rfl)) (fun _ _ _ h => h) (Or.inl ⟨by rfl, ?_⟩) ?_ ?_; rotate_left 4
                                         rotate_left; iterate 3 (rotate_left; (intro w'; go_simp; with_reducible rfl); rotate_left; (simp only [Act.put, List.setIfInBounds_toArray, List.set_cons_zero, List.set_cons_succ, i64_w, i32_w]; rfl))
                                         refine pure_ (i := 3) (N := some 169) (v := ?_) (a' := ?_) #[true, true, true, true, false, false, false, false, false, false, false, false, false, false, false, false, false, false, false, false, false, false, false, false, false, false, false, false, false, false, false, false, false, false, false] rfl rfl (any_of HT_.out (by kernel_rfl)) (fun _ _ _ h => h) (Or.inl ⟨by rfl, ?_⟩) ?_ ?_; rotate_left; (intro w'; go_simp; with_reducible rfl); rotate_left; (simp only [Act.put, List.setIfInBounds_toArray, List.set_cons_zero, List.set_cons_succ, i64_w, i32_w]; rfl)
                                         refine pure_ (i := 4) (N := some 170) (v := ?_) (a' := ?_) #[true, true, true, true, true, false, false, false, false, false, false, false, false, false, false, false, false, false, false, false, false, false, false, false, false, false, false, false, false, false, false, false, false, false, false] rfl rfl (any_of HT_.out (by kernel_rfl)) (fun _ _ _ h => h) (Or.inl ⟨by rfl, ?_⟩) ?_ ?_; rotate_left; (intro w'; go_simp; with_reducible rfl); rotate_left; (simp only [Act.put, List.setIfInBounds_toArray, List.set_cons_zero, List.set_cons_succ, i64_w, i32_w]; rfl)
                                         refine pure_ (i := 5) (N := some 171) (v := ?_) (a' := ?_) #[true, true, true, true, true, true, false, false, false, false, false, false, false, false, false, false, false, false, false, false, false, false, false, false, false, false, false, false, false, false, false, false, false, false, false] rfl rfl (any_of HT_.out (by kernel_rfl)) (fun _ _ _ h => h) (Or.inl ⟨by rfl, ?_⟩) ?_ ?_; rotate_left; (intro w'; go_simp; with_reducible rfl); rotate_left; (simp only [Act.put, List.setIfInBounds_toArray, List.set_cons_zero, List.set_cons_succ, i64_w, i32_w]; rfl)
                                         refine pure_ (i := 6) (N := some 172) (v := ?_) (a' := ?_) #[true, true, true, true, true, true, true, false, false, false, false, false, false, false, false, false, false, false, false, false, false, false, false, false, false, false, false, false, false, false, false, false, false, false, false] rfl rfl (any_of HT_.out (by kernel_rfl)) (fun _ _ _ h => h) (Or.inl ⟨by rfl, ?_⟩) ?_ ?_; rotate_left; (intro w'; go_simp; with_reducible rfl); rotate_left; (simp only [Act.put, List.setIfInBounds_toArray, List.set_cons_zero, List.set_cons_succ, i64_w, i32_w]; rfl)
                                         refine pure_ (i := 7) (N := some 173) (v := ?_) (a' := ?_) #[true, true, true, true, true, true, true, true, false, false, false, false, false, false, false, false, false, false, false, false, false, false, false, false, false, false, false, false, false, false, false, false, false, false, false] rfl rfl (any_of HT_.out (by kernel_rfl)) (fun _ _ _ h => h) (Or.inl ⟨by rfl, ?_⟩) ?_ ?_; rotate_left 4
                                         refine pure_ (i := 8) (N := some 174) (v := ?_) (a' := ?_) #[true, true, true, true, true, true, true, true, true, false, false, false, false, false, false, false, false, false, false, false, false, false, false, false, false, false, false, false, false, false, false, false, false, false, false] rfl rfl (any_of HT_.out (by kernel_rfl)) (fun _ _ _ h => h) (Or.inl ⟨by rfl, ?_⟩) ?_ ?_; rotate_left 4
                                         rotate_left; iterate 2 (rotate_left; (intro w'; go_simp; with_reducible rfl); rotate_left; (simp only [Act.put, List.setIfInBounds_toArray, List.set_cons_zero, List.set_cons_succ, i64_w, i32_w]; rfl))
                                         refine pure_ (i := 9) (N := some 175) (v := ?_) (a' := ?_) #[true, true, true, true, true, true, true, true, true, true, false, false, false, false, false, false, false, false, false, false, false, false, false, false, false, false, false, false, false, false, false, false, false, false, false] rfl rfl (any_of HT_.out (by kernel_rfl)) (fun _ _ _ h => h) (Or.inl ⟨by rfl, ?_⟩) ?_ ?_; rotate_left; (intro w'; go_simp; with_reducible rfl); rotate_left; (simp only [Act.put, List.setIfInBounds_toArray, List.set_cons_zero, List.set_cons_succ, i64_w, i32_w]; rfl)
                                         refine pure_ (i := 10) (N := some 176) (v := ?_) (a' := ?_) #[true, true, true, true, true, true, true, true, true, true, true, false, false, false, false, false, false, false, false, false, false, false, false, false, false, false, false, false, false, false, false, false, false, false, false] rfl rfl (any_of HT_.out (by kernel_rfl)) (fun _ _ _ h => h) (Or.inl ⟨by rfl, ?_⟩) ?_ ?_; rotate_left; (intro w'; go_simp; with_reducible rfl); rotate_left; (simp only [Act.put, List.setIfInBounds_toArray, List.set_cons_zero, List.set_cons_succ, i64_w, i32_w]; rfl)
                                         refine pure_ (i := 11) (N := some 177) (v := ?_) (a' := ?_) #[true, true, true, true, true, true, true, true, true, true, true, true, false, false, false, false, false, false, false, false, false, false, false, false, false, false, false, false, false, false, false, false, false, false, false] rfl rfl (any_of HT_.out (by kernel_rfl)) (fun _ _ _ h => h) (Or.inl ⟨by rfl, ?_⟩) ?_ ?_; rotate_left; (intro w'; go_simp; with_reducible rfl); rotate_left; (simp only [Act.put, List.setIfInBounds_toArray, List.set_cons_zero, List.set_cons_succ, i64_w, i32_w]; rfl)
                                         refine pure_ (i := 12) (N := some 178) (v := ?_) (a' := ?_) #[true, true, true, true, true, true, true, true, true, true, true, true, true, false, false, false, false, false, false, false, false, false, false, false, false, false, false, false, false, false, false, false, false, false, false] rfl rfl (any_of HT_.out (by kernel_rfl)) (fun _ _ _ h => h) (Or.inl ⟨by rfl, ?_⟩) ?_ ?_; rotate_left; (intro w'; go_simp; with_reducible rfl); rotate_left; (simp only [Act.put, List.setIfInBounds_toArray, List.set_cons_zero, List.set_cons_succ, i64_w, i32_w]; rfl)
                                         refine pure_ (i := 14) (N := some 180) (v := ?_) (a' := ?_) #[true, true, true, true, true, true, true, true, true, true, true, true, true, false, true, false, false, false, false, false, false, false, false, false, false, false, false, false, false, false, false, false, false, false, false] rfl rfl (any_of HT_.out (by kernel_rfl)) (fun _ _ _ h => h) (Or.inl ⟨by rfl, ?_⟩) ?_ ?_; rotate_left; (intro w'; go_simp; with_reducible rfl); rotate_left; (simp only [Act.put, List.setIfInBounds_toArray, List.set_cons_zero, List.set_cons_succ, i64_w, i32_w]; rfl)
                                         refine take_ (i := 13) (N := some 179) (v := ?_) (a' := ?_) #[true, true, true, true, true, true, true, true, true, true, true, true, true, true, true, false, false, false, false, false, false, false, false, false, false, false, false, false, false, false, false, false, false, false, false] rfl rfl (take_ofW HT_.out HW_.out (by kernel_rfl)) (fun _ _ _ h => h) (Or.inl ⟨by rfl, ?_⟩) hHeld ?_ ?_
                                         rotate_left
                                         · rintro w' ⟨s0, s1, s2, s3, s4, s5, s6, s7, s8⟩
                                           go_simp
                                           with_reducible rfl
                                         rotate_left
                                         · simp only [Act.put, List.setIfInBounds_toArray, List.set_cons_zero, List.set_cons_succ, i64_w, i32_w]
                                           rfl
                                         refine pure_ (i := 15) (N := some 181) (v := ?_) (a' := ?_) #[true, true, true, true, true, true, true, true, true, true, true, true, true, true, true, true, false, false, false, false, false, false, false, false, false, false, false, false, false, false, false, false, false, false, false] rfl rfl (any_of HT_.out (by kernel_rfl)) (fun _ _ _ h => h) (Or.inl ⟨by rfl, ?_⟩) ?_ ?_; rotate_left; (intro w'; go_simp; with_reducible rfl); rotate_left; (simp only [Act.put, List.setIfInBounds_toArray, List.set_cons_zero, List.set_cons_succ, i64_w, i32_w]; rfl)
                                         refine pure_ (i := 16) (N := some 182) (v := ?_) (a' := ?_) #[true, true, true, true, true, true, true, true, true, true, true, true, true, true, true, true, true, false, false, false, false, false, false, false, false, false, false, false, false, false, false, false, false, false, false] rfl rfl (any_of HT_.out (by kernel_rfl)) (fun _ _ _ h => h) (Or.inl ⟨by rfl, ?_⟩) ?_ ?_; rotate_left 4
                                         refine pure_ (i := 17) (N := some 183) (v := ?_) (a' := ?_) #[true, true, true, true, true, true, true, true, true, true, true, true, true, true, true, true, true, true, false, false, false, false, false, false, false, false, false, false, false, false, false, false, false, false, false] rfl rfl (any_of HT_.out (by kernel_rfl)) (fun _ _ _ h => h) (Or.inl ⟨by rfl, ?_⟩) ?_ ?_; rotate_left 4
                                         rotate_left; iterate 2 (rotate_left; (intro w'; go_simp; with_reducible rfl); rotate_left; (simp only [Act.put, List.setIfInBounds_toArray, List.set_cons_zero, List.set_cons_succ, i64_w, i32_w]; rfl))
                                         refine pure_ (i := 18) (N := some 184) (v := ?_) (a' := ?_) #[true, true, true, true, true, true, true, true, true, true, true, true, true, true, true, true, true, true, true, false, false, false, false, false, false, false, false, false, false, false, false, false, false, false, false] rfl rfl (any_of HT_.out (by kernel_rfl)) (fun _ _ _ h => h) (Or.inl ⟨by rfl, ?_⟩) ?_ ?_; rotate_left; (intro w'; go_simp; with_reducible rfl); rotate_left; (simp only [Act.put, List.setIfInBounds_toArray, List.set_cons_zero, List.set_cons_succ, i64_w, i32_w]; rfl)
                                         refine pure_ (i := 19) (N := some 185) (v := ?_) (a' := ?_) #[true, true, true, true, true, true, true, true, true, true, true, true, true, true, true, true, true, true, true, true, false, false, false, false, false, false, false, false, false, false, false, false, false, false, false] rfl rfl (any_of HT_.out (by kernel_rfl)) (fun _ _ _ h => h) (Or.inl ⟨by rfl, ?_⟩) ?_ ?_; rotate_left; (intro w'; go_simp; with_reducible rfl); rotate_left; (simp only [Act.put, List.setIfInBounds_toArray, List.set_cons_zero, List.set_cons_succ, i64_w, i32_w]; rfl)
                                         refine pure_ (i := 20) (N := some 186) (v := ?_) (a' := ?_) #[true, true, true, true, true, true, true, true, true, true, true, true, true, true, true, true, true, true, true, true, true, false, false, false, false, false, false, false, false, false, false, false, false, false, false] rfl rfl (any_of HT_.out (by kernel_rfl)) (fun _ _ _ h => h) (Or.inl ⟨by rfl, ?_⟩) ?_ ?_; rotate_left; (intro w'; go_simp; with_reducible rfl); rotate_left; (simp only [Act.put, List.setIfInBounds_toArray, List.set_cons_zero, List.set_cons_succ, i64_w, i32_w]; rfl)
                                         refine pure_ (i := 21) (N := some 187) (v := ?_) (a' := ?_) #[true, true, true, true, true, true, true, true, true, true, true, true, true, true, true, true, true, true, true, true, true, true, false, false, false, false, false, false, false, false, false, false, false, false, false] rfl rfl (any_of HT_.out (by kernel_rfl)) (fun _ _ _ h => h) (Or.inl ⟨by rfl, ?_⟩) ?_ ?_; rotate_left; (intro w'; go_simp; with_reducible rfl); rotate_left; (simp only [Act.put, List.setIfInBounds_toArray, List.set_cons_zero, List.set_cons_succ, i64_w, i32_w]; rfl)
                                         refine pure_ (i := 23) (N := some 189) (v := ?_) (a' := ?_) #[true, true, true, true, true, true, true, true, true, true, true, true, true, true, true, true, true, true, true, true, true, true, false, true, false, false, false, false, false, false, false, false, false, false, false] rfl rfl (any_of HT_.out (by kernel_rfl)) (fun _ _ _ h => h) (Or.inl ⟨by rfl, ?_⟩) ?_ ?_; rotate_left; (intro w'; go_simp; with_reducible rfl); rotate_left; (simp only [Act.put, List.setIfInBounds_toArray, List.set_cons_zero, List.set_cons_succ, i64_w, i32_w]; rfl)
                                         refine pure_ (i := 24) (N := some 190) (v := ?_) (a' := ?_) #[true, true, true, true, true, true, true, true, true, true, true, true, true, true, true, true, true, true, true, true, true, true, false, true, true, false, false, false, false, false, false, false, false, false, false] rfl rfl (any_of HT_.out (by kernel_rfl)) (fun _ _ _ h => h) (Or.inl ⟨by rfl, ?_⟩) ?_ ?_; rotate_left; (intro w'; go_simp; with_reducible rfl); rotate_left; (simp only [Act.put, List.setIfInBounds_toArray, List.set_cons_zero, List.set_cons_succ, i64_w, i32_w]; rfl)
                                         refine pure_ (i := 25) (N := some 191) (v := ?_) (a' := ?_) #[true, true, true, true, true, true, true, true, true, true, true, true, true, true, true, true, true, true, true, true, true, true, false, true, true, true, false, false, false, false, false, false, false, false, false] rfl rfl (any_of HT_.out (by kernel_rfl)) (fun _ _ _ h => h) (Or.inl ⟨by rfl, ?_⟩) ?_ ?_; rotate_left; (intro w'; go_simp; with_reducible rfl); rotate_left; (simp only [Act.put, List.setIfInBounds_toArray, List.set_cons_zero, List.set_cons_succ, i64_w, i32_w]; rfl)
                                         refine pure_ (i := 27) (N := some 193) (v := ?_) (a' := ?_) #[true, true, true, true, true, true, true, true, true, true, true, true, true, true, true, true, true, true, true, true, true, true, false, true, true, true, false, true, false, false, false, false, false, false, false] rfl rfl (any_of HT_.out (by kernel_rfl)) (fun _ _ _ h => h) (Or.inl ⟨by rfl, ?_⟩) ?_ ?_; rotate_left; (intro w'; go_simp; with_reducible rfl); rotate_left; (simp only [Act.put, List.setIfInBounds_toArray, List.set_cons_zero, List.set_cons_succ, i64_w, i32_w]; rfl)
                                         refine pure_ (i := 28) (N := some 194) (v := ?_) (a' := ?_) #[true, true, true, true, true, true, true, true, true, true, true, true, true, true, true, true, true, true, true, true, true, true, false, true, true, true, false, true, true, false, false, false, false, false, false] rfl rfl (any_of HT_.out (by kernel_rfl)) (fun _ _ _ h => h) (Or.inl ⟨by rfl, ?_⟩) ?_ ?_; rotate_left; (intro w'; go_simp; with_reducible rfl); rotate_left; (simp only [Act.put, List.setIfInBounds_toArray, List.set_cons_zero, List.set_cons_succ, i64_w, i32_w]; rfl)
                                         refine pure_ (i := 29) (N := some 195) (v := ?_) (a' := ?_) #[true, true, true, true, true, true, true, true, true, true, true, true, true, true, true, true, true, true, true, true, true, true, false, true, true, true, false, true, true, true, false, false, false, false, false] rfl rfl (any_of HT_.out (by kernel_rfl)) (fun _ _ _ h => h) (Or.inl ⟨by rfl, ?_⟩) ?_ ?_; rotate_left; (intro w'; go_simp; with_reducible rfl); rotate_left; (simp only [Act.put, List.setIfInBounds_toArray, List.set_cons_zero, List.set_cons_succ, i64_w, i32_w]; rfl)
                                         refine pure_ (i := 30) (N := some 196) (v := ?_) (a' := ?_) #[true, true, true, true, true, true, true, true, true, true, true, true, true, true, true, true, true, true, true, true, true, true, false, true, true, true, false, true, true, true, true, false, false, false, false] rfl rfl (any_of HT_.out (by kernel_rfl)) (fun _ _ _ h => h) (Or.inl ⟨by rfl, ?_⟩) ?_ ?_; rotate_left; (intro w'; go_simp; with_reducible rfl); rotate_left; (simp only [Act.put, List.setIfInBounds_toArray, List.set_cons_zero, List.set_cons_succ, i64_w, i32_w]; rfl)
                                         refine take_ (i := 22) (N := some 188) (v := ?_) (a' := ?_) #[true, true, true, true, true, true, true, true, true, true, true, true, true, true, true, true, true, true, true, true, true, true, true, true, true, true, false, true, true, true, true, false, false, false, false] rfl rfl (take_ofW HT_.out HW_.out (by kernel_rfl)) (fun _ _ _ h => h) (Or.inl ⟨by rfl, ?_⟩) hHeld ?_ ?_
                                         rotate_left
                                         · rintro w' ⟨s0, s1, s2, s3, s4, s5, s6, s7, s8⟩
                                           go_simp
                                           with_reducible rfl
                                         rotate_left
                                         · simp only [Act.put, List.setIfInBounds_toArray, List.set_cons_zero, List.set_cons_succ, i64_w, i32_w]
                                           rfl
                                         refine take_ (i := 26) (N := some 192) (v := ?_) (a' := ?_) #[true, true, true, true, true, true, true, true, true, true, true, true, true, true, true, true, true, true, true, true, true, true, true, true, true, true, true, true, true, true, true, false, false, false, false] rfl rfl (take_ofW HT_.out HW_.out (by kernel_rfl)) (fun _ _ _ h => h) (Or.inl ⟨by rfl, ?_⟩) hHeld ?_ ?_
                                         rotate_left
                                         · rintro w' ⟨s0, s1, s2, s3, s4, s5, s6, s7, s8⟩
                                           go_simp
                                           with_reducible rfl
                                         rotate_left
                                         · simp only [Act.put, List.setIfInBounds_toArray, List.set_cons_zero, List.set_cons_succ, i64_w, i32_w]
                                           rfl
                                         refine take_ (i := 31) (N := some 197) (v := ?_) (a' := ?_) #[true, true, true, true, true, true, true, true, true, true, true, true, true, true, true, true, true, true, true, true, true, true, true, true, true, true, true, true, true, true, true, true, false, false, false] rfl rfl (take_ofW HT_.out HW_.out (by kernel_rfl)) (fun _ _ _ h => h) (Or.inl ⟨by rfl, ?_⟩) hHeld ?_ ?_
                                         rotate_left
                                         · rintro w' ⟨s0, s1, s2, s3, s4, s5, s6, s7, s8⟩
                                           go_simp
                                           with_reducible rfl
                                         rotate_left
                                         · simp only [Act.put, List.setIfInBounds_toArray, List.set_cons_zero, List.set_cons_succ, i64_w, i32_w]
                                           rfl
                                         refine pure_ (i := 32) (N := some 198) (v := ?_) (a' := ?_) #[true, true, true, true, true, true, true, true, true, true, true, true, true, true, true, true, true, true, true, true, true, true, true, true, true, true, true, true, true, true, true, true, true, false, false] rfl rfl (any_of HT_.out (by kernel_rfl)) (fun _ _ _ h => h) (Or.inl ⟨by rfl, ?_⟩) ?_ ?_; rotate_left; (intro w'; go_simp; with_reducible rfl); rotate_left; (simp only [Act.put, List.setIfInBounds_toArray, List.set_cons_zero, List.set_cons_succ, i64_w, i32_w]; rfl)
                                         refine pure_ (i := 33) (N := some 199) (v := ?_) (a' := ?_) #[true, true, true, true, true, true, true, true, true, true, true, true, true, true, true, true, true, true, true, true, true, true, true, true, true, true, true, true, true, true, true, true, true, true, false] rfl rfl (any_of HT_.out (by kernel_rfl)) (fun _ _ _ h => h) (Or.inl ⟨by rfl, ?_⟩) ?_ ?_; rotate_left; (intro w'; go_simp; with_reducible rfl); rotate_left; (simp only [Act.put, List.setIfInBounds_toArray, List.set_cons_zero, List.set_cons_succ, i64_w, i32_w]; rfl)
                                         refine pure_ (i := 34) (N := some 200) (v := ?_) (a' := ?_) #[true, true, true, true, true, true, true, true, true, true, true, true, true, true, true, true, true, true, true, true, true, true, true, true, true, true, true, true, true, true, true, true, true, true, true] rfl rfl (any_of HT_.out (by kernel_rfl)) (fun _ _ _ h => h) (Or.inl ⟨by rfl, ?_⟩) ?_ ?_; rotate_left 4
                                         rotate_left; iterate 1 (rotate_left; (intro w'; go_simp; with_reducible rfl); rotate_left; (simp only [Act.put, List.setIfInBounds_toArray, List.set_cons_zero, List.set_cons_succ, i64_w, i32_w]; rfl))
                                         refine done_ (done_of HT_.out (by kernel_rfl)) ?_
                                         try go_wp2
                                         go_meet
                                         case rel => exact ⟨_, (decide (((rd_T81 t228 x158_3).f1) < (wrap64 ((rd x21_3 ((rd_T81 t228 x158_3).f0)) * ((rd_T54 t224 ((rd_T81 t228 x158_3).f0)).f2))))), (by first | rfl | (simp; done) | (simp [*]; done)), H', ⟨by have := HJ11.out; have := HK2.out; have := HK3.out; first | omega | exact Nat.le_refl _⟩, ⟨by (with_reducible repeat (first | apply Kd.R_alloc | apply Kd.R_drewN | apply Kd.R_drew)); exact HO_5.out⟩, ⟨by (with_reducible repeat (first | apply Kd.R_alloc | apply Kd.R_drewN | apply Kd.R_drew)); exact HO_7.out⟩, ⟨by (with_reducible repeat (first | apply Kd.R_alloc | apply Kd.R_drewN | apply Kd.R_drew)); exact HO_9.out⟩, ⟨by (with_reducible repeat (first | apply Kd.R_alloc | apply Kd.R_drewN | apply Kd.R_drew)); exact HO_11.out⟩, ⟨by (with_reducible repeat (first | apply Kd.R_alloc | apply Kd.R_drewN | apply Kd.R_drew)); exact HO_21.out⟩, ⟨by (with_reducible repeat (first | apply Kd.R_alloc | apply Kd.R_drewN | apply Kd.R_drew)); exact HO_22.out⟩, ⟨by repeat (first | (with_reducible first | exact HB.out | apply below_alloc | apply pw_below_drewN | apply below_drew1) | exact HB.out)⟩⟩
                                      · rw [if_neg c62] at H
                                        exact absurd H (by simp)
                                    · rw [if_neg c61] at H
                                      exact absurd H (by simp)
                                  · rw [if_neg c60] at H
                                    exact absurd H (by simp)
                           case rest =>
                            clear HC56
                            (try clear c1); (try clear c2); (try clear p2); (try clear q2); (try clear hx2); (try clear c3); (try clear c4); (try clear c5); (try clear c6); (try clear p6); (try clear c12); (try clear c21); (try clear c22); (try clear c23); (try clear c24); (try clear p24); (try clear q24); (try clear hx24); (try clear c25); (try clear p25); (try clear q25); (try clear hx25); (try clear p26); (try clear q26); (try clear hx26); (try clear c27); (try clear c29); (try clear c30); (try clear c30b0); (try clear c30b1); (try clear c30b2); (try clear c31); (try clear c31b0); (try clear c31b1); (try clear c31b2); (try clear c32); (try clear c32b0); (try clear c33); (try clear c34); (try clear c37); (try clear c38); (try clear c38b0); (try clear c39); (try clear c39b0); (try clear c40); (try clear c40b0); (try clear c41); (try clear c41b0); (try clear c42); (try clear c42b0); (try clear c44); (try clear c44b0); (try clear c46); (try clear c46b0); (try clear c46b1); (try clear c46b2); (try clear c47); (try clear c47b0); (try clear c47b1); (try clear c48); (try clear c48b0); (try clear c48b1); (try clear c49); (try clear c50); (try clear c51); (try clear c52); (try clear c53); (try clear c53b0); (try clear c54); (try clear c54b0); (try clear c55); (try clear c55b0); (try clear c57); (try clear c57b0); (try clear c58); (try clear c58b0); (try clear c59); (try clear c59b0); (try clear c60); (try clear c60b0); (try clear c61); (try clear c61b0); (try clear c62); (try clear c62b0); (try clear p64); (try clear hx248_0); (try clear hx248_1); (try clear hx248_2); (try clear hx248_3); (try clear hx249_0); (try clear hx249_1); (try clear hx249_2); (try clear hx249_3); (try clear hx257_0); (try clear hx257_1); (try clear hx258_0); (try clear hx258_1); (try clear hx259_0); (try clear hx259_1); (try clear hx260_0); (try clear hx261_0); (try clear hx261_1); (try clear hx261_2); (try clear hx261_3); (try clear p2); (try clear p24); (try clear p248); (try clear p249); (try clear p257); (try clear p258); (try clear p259); (try clear p260); (try clear p261); (try clear p6); (try clear q2); (try clear q24); (try clear q248); (try clear q249); (try clear q257); (try clear q258); (try clear q259); (try clear q260); (try clear q261)
                            obtain ⟨kq, x200_55, rfl, HA, HJ55, HO_5, HO_7, HO_9, HO_11, HO_21, HO_22, HB⟩ := hcut
                            cases kq with
                            | zero => exact absurd HA.out (by simp [laws_FnPlans.j3])
                            | succ kj55 =>
                             have H := HA.out
                             clear HA
                             simp only [laws_FnPlans.j3] at H
                             by_cases c65 : x200_55 = true
                             · subst c65
                               have H1 : (none) = some r := by rw [if_pos rfl] at H; exact H
                               clear H
                               have H := H1
                               clear H1
                               exact absurd H (by simp)
                             · replace c65 := Bool.eq_false_iff.mpr c65
                               subst c65
                               have H1 : (if 0 ≤ ((rd_T81 t228 x158_3).f0) then (if ((rd_T81 t228 x158_3).f0) < (x21_3.length : Int) then ((some (x21_3.set (((rd_T81 t228 x158_3).f0) : Int).toNat (wrap64 ((rd x21_3 ((rd_T81 t228 x158_3).f0)) + 1)) : List Int)).bind fun y263 => (if 0 ≤ x158_3 then (if x158_3 < (t228.length : Int) then (if ((rd_T81 t228 x158_3).f0) < (t224.length : Int) then (if x158_3 < (t232.length : Int) then (if (rd t232 x158_3) = (mx 0 (wrap64 ((wrap64 (((rd_T81 t228 x158_3).f1) + ((rd_T54 t224 ((rd_T81 t228 x158_3).f0)).f1))) - (wrap64 ((rd y263 ((rd_T81 t228 x158_3).f0)) * ((rd_T54 t224 ((rd_T81 t228 x158_3).f0)).f2)))))) then (if (wrap64 (((rd_T81 t228 x158_3).f1) + ((rd_T54 t224 ((rd_T81 t228 x158_3).f0)).f1))) ≤ t227 then (if ((rd_T81 t228 x158_3).f0) < (x22_3.length : Int) then (laws_FnPlans.j4 kj55 t224 t227 t228 t232 t236 t240 t241 y263 (x22_3.set (((rd_T81 t228 x158_3).f0) : Int).toNat (wrap64 ((rd x22_3 ((rd_T81 t228 x158_3).f0)) + 1))) x23_3 x24_3 x158_3 ((rd_T81 t228 x158_3).f0) (t228.length : Int) x158_3) else (none)) else (laws_FnPlans.j4 kj55 t224 t227 t228 t232 t236 t240 t241 y263 x22_3 x23_3 x24_3 x158_3 ((rd_T81 t228 x158_3).f0) (t228.length : Int) x158_3)) else (none)) else (none)) else (none)) else (none)) else (none))) else (none)) else (none)) = some r := by rw [if_neg (show ¬ (false = true) by decide)] at H; exact H
                               clear H
                               have H := H1
                               clear H1
                               by_cases c66 : 0 ≤ ((rd_T81 t228 x158_3).f0)
                               · rw [if_pos c66] at H
                                 have c66b0 : decide (0 ≤ ((rd_T81 t228 x158_3).f0)) = true := decide_eq_true c66
                                 clear c66
                                 by_cases c67 : ((rd_T81 t228 x158_3).f0) < (x21_3.length : Int)
                                 · rw [if_pos c67] at H
                                   have c67b0 : decide (((rd_T81 t228 x158_3).f0) < (x21_3.length : Int)) = true := decide_eq_true c67
                                   clear c67
                                   obtain ⟨y263, hy263⟩ : ∃ y_ : List Int, y_ = (x21_3.set (((rd_T81 t228 x158_3).f0) : Int).toNat (wrap64 ((rd x21_3 ((rd_T81 t228 x158_3).f0)) + 1))) := ⟨_, rfl⟩
                                   replace H : (if 0 ≤ x158_3 then (if x158_3 < (t228.length : Int) then (if ((rd_T81 t228 x158_3).f0) < (t224.length : Int) then (if x158_3 < (t232.length : Int) then (if (rd t232 x158_3) = (mx 0 (wrap64 ((wrap64 (((rd_T81 t228 x158_3).f1) + ((rd_T54 t224 ((rd_T81 t228 x158_3).f0)).f1))) - (wrap64 ((rd y263 ((rd_T81 t228 x158_3).f0)) * ((rd_T54 t224 ((rd_T81 t228 x158_3).f0)).f2)))))) then (if (wrap64 (((rd_T81 t228 x158_3).f1) + ((rd_T54 t224 ((rd_T81 t228 x158_3).f0)).f1))) ≤ t227 then (if ((rd_T81 t228 x158_3).f0) < (x22_3.length : Int) then (laws_FnPlans.j4 kj55 t224 t227 t228 t232 t236 t240 t241 y263 (x22_3.set (((rd_T81 t228 x158_3).f0) : Int).toNat (wrap64 ((rd x22_3 ((rd_T81 t228 x158_3).f0)) + 1))) x23_3 x24_3 x158_3 ((rd_T81 t228 x158_3).f0) (t228.length : Int) x158_3) else (none)) else (laws_FnPlans.j4 kj55 t224 t227 t228 t232 t236 t240 t241 y263 x22_3 x23_3 x24_3 x158_3 ((rd_T81 t228 x158_3).f0) (t228.length : Int) x158_3)) else (none)) else (none)) else (none)) else (none)) else (none)) = some r := by first | (rw [hy263]; with_reducible exact H) | (have H2_ := (Option.bind_some _ _).symm.trans H; rw [hy263]; with_reducible exact H2_) | (have H2_ := (Option.bind_some _ _).symm.trans H; with_reducible exact H2_) | with_reducible exact H | (rw [hy263]; exact H) | exact H
                                   have Ny263 := Aside0.mk hy263
                                   clear hy263
                                   by_cases c69 : 0 ≤ x158_3
                                   · rw [if_pos c69] at H
                                     have c69b0 : decide (0 ≤ x158_3) = true := decide_eq_true c69
                                     clear c69
                                     by_cases c70 : x158_3 < (t228.length : Int)
                                     · rw [if_pos c70] at H
                                       have c70b0 : decide (x158_3 < (t228.length : Int)) = true := decide_eq_true c70
                                       clear c70
                                       by_cases c71 : ((rd_T81 t228 x158_3).f0) < (t224.length : Int)
                                       · rw [if_pos c71] at H
                                         have c71b0 : decide (((rd_T81 t228 x158_3).f0) < (t224.length : Int)) = true := decide_eq_true c71
                                         clear c71
                                         by_cases c72 : x158_3 < (t232.length : Int)
                                         · rw [if_pos c72] at H
                                           have c72b0 : decide (x158_3 < (t232.length : Int)) = true := decide_eq_true c72
                                           clear c72
                                           obtain ⟨ji73, hji73⟩ : ∃ j_ : Int, (mx 0 (wrap64 ((wrap64 (((rd_T81 t228 x158_3).f1) + ((rd_T54 t224 ((rd_T81 t228 x158_3).f0)).f1))) - (wrap64 ((rd y263 ((rd_T81 t228 x158_3).f0)) * ((rd_T54 t224 ((rd_T81 t228 x158_3).f0)).f2)))))) = j_ := ⟨_, rfl⟩
                                           replace H : (if (rd t232 x158_3) = (ji73) then (if (wrap64 (((rd_T81 t228 x158_3).f1) + ((rd_T54 t224 ((rd_T81 t228 x158_3).f0)).f1))) ≤ t227 then (if ((rd_T81 t228 x158_3).f0) < (x22_3.length : Int) then (laws_FnPlans.j4 kj55 t224 t227 t228 t232 t236 t240 t241 y263 (x22_3.set (((rd_T81 t228 x158_3).f0) : Int).toNat (wrap64 ((rd x22_3 ((rd_T81 t228 x158_3).f0)) + 1))) x23_3 x24_3 x158_3 ((rd_T81 t228 x158_3).f0) (t228.length : Int) x158_3) else (none)) else (laws_FnPlans.j4 kj55 t224 t227 t228 t232 t236 t240 t241 y263 x22_3 x23_3 x24_3 x158_3 ((rd_T81 t228 x158_3).f0) (t228.length : Int) x158_3)) else (none)) = some r := by first | (rw [hji73] at H; exact H) | (simp only [hji73] at H ⊢; exact H)
                                           have hji73_ : (if 0 < (wrap64 ((wrap64 (((rd_T81 t228 x158_3).f1) + ((rd_T54 t224 ((rd_T81 t228 x158_3).f0)).f1))) - (wrap64 ((rd y263 ((rd_T81 t228 x158_3).f0)) * ((rd_T54 t224 ((rd_T81 t228 x158_3).f0)).f2))))) then (wrap64 ((wrap64 (((rd_T81 t228 x158_3).f1) + ((rd_T54 t224 ((rd_T81 t228 x158_3).f0)).f1))) - (wrap64 ((rd y263 ((rd_T81 t228 x158_3).f0)) * ((rd_T54 t224 ((rd_T81 t228 x158_3).f0)).f2))))) else 0) = ji73 := hji73
                                           by_cases c74 : (rd t232 x158_3) = (ji73)
                                           · rw [if_pos c74] at H
                                             have c74b0 : ((rd t232 x158_3) == (ji73)) = true := beq_iff_eq.mpr c74
                                             have c74b1 : ((rd t232 x158_3) != (ji73)) = false := bne_eq_false_iff_eq.mpr c74
                                             clear c74
                                             have HC75 := Aside0.mk H
                                             clear H
                                             obtain ⟨Ao76, co76, eo76⟩ := Kd.R_slice HO_21.out
                                             subst eo76
                                             have p262 : 0 ≤ (((rd_T81 t228 x158_3).f0) : Int) := of_decide_eq_true (by first | (with_reducible assumption) | assumption)
                                             have q262 : ((rd_T81 t228 x158_3).f0) < (x21_3.length : Int) := of_decide_eq_true (by first | (with_reducible assumption) | assumption)
                                             obtain ⟨ad262, e262, hx262_0⟩ := Kd.at_int (Kd.R_reads' HO_21.out).2.2 ((rd_T81 t228 x158_3).f0) p262 q262
                                             cases e262
                                             replace p262 := eq_true p262
                                             replace q262 := eq_true q262
                                             have p68 : 0 ≤ (((rd_T81 t228 x158_3).f0) : Int) := of_decide_eq_true (by first | (with_reducible assumption) | assumption)
                                             have q68 : (((rd_T81 t228 x158_3).f0) : Int) < ((x21_3.length : Int) : Int) := of_decide_eq_true (by first | (with_reducible assumption) | assumption)
                                             obtain ⟨go68, co68, eo68, gb68, gl68, cl68, HG68⟩ := Kd.R_form HO_21.out (by omega)
                                             (first | cases eo68 | (injection eo68 with ea_ en_ ec_; (first | subst ea_ | (injection ea_ with ea_; subst ea_)); subst ec_; clear en_))
                                             have GB68 := Aside0.mk gb68
                                             have GG68 := Aside0.mk HG68
                                             clear gb68 gl68 HG68
                                             (first | simp only [add_plain] at hx262_0 | skip)
                                             obtain ⟨hx68_0, hf68_0⟩ := Kd.R_celln 0 HO_21.out (((rd_T81 t228 x158_3).f0) : Int) p68 q68
                                             replace p68 := eq_true p68
                                             replace q68 := eq_true q68
                                             have HP77 := Kd.R_putg HO_21.out (((rd_T81 t228 x158_3).f0) : Int) (wrap64 ((rd x21_3 ((rd_T81 t228 x158_3).f0)) + 1))
                                             try go_wp2_with (first | ((with_reducible refine gate_store (t := 2) (p := 206) rfl ?_); refine store_event (t := 2) (p := 206) (v := ?vo_w78) (w1 := (wc.setCell ⟨go68, (((rd_T81 t228 x158_3).f0) : Int).toNat, none⟩ (.int .i64 (wrap64 ((rd x21_3 ((rd_T81 t228 x158_3).f0)) + 1))))) ?hg ?ho ?hn ?hr ?_; (case ho => rfl); (case hg => rfl); (case hn => rfl); (case hr => first | (go_simp; done) | (go_simp; rfl)); intro w78 hw; have hg : wc.grownBy w78 (some go68) := (by rw [hw]; exact HP77.2); have hp_ : Kd.R (Kd.int .i64) 2 w78 w.heap.size (fun k_ => some k_ ≠ (v234 : Value).ownBlock ∧ some k_ ≠ (v238 : Value).ownBlock ∧ some k_ ≠ (v255 : Value).ownBlock) (.slice (some ⟨go68, 0, none⟩) x21_3.length co76) y263 := (by rw [hw, Ny263.out]; exact HP77.1); clear HP77; have n0_ := Aside0.mk (Kd.R_over' (v := (.slice (some ⟨go68, 0, none⟩) x21_3.length co76)) (by (with_reducible repeat (first | apply Kd.R_alloc | apply Kd.R_drewN | apply Kd.R_drew)); exact HO_5.out) (Kd.R_typed HO_21.out) (by decide) hg); have n1_ := Aside0.mk (Kd.R_over' (v := (.slice (some ⟨go68, 0, none⟩) x21_3.length co76)) (by (with_reducible repeat (first | apply Kd.R_alloc | apply Kd.R_drewN | apply Kd.R_drew)); exact HO_7.out) (Kd.R_typed HO_21.out) (by decide) hg); have n2_ := Aside0.mk (Kd.R_after (v := (.slice (some ⟨go68, 0, none⟩) x21_3.length co76)) (v1 := (.slice (some ⟨go68, 0, none⟩) x21_3.length co76)) (ok := (fun k_ => some k_ ≠ (v238 : Value).ownBlock ∧ some k_ ≠ (v255 : Value).ownBlock)) (by (with_reducible repeat (first | apply Kd.R_alloc | apply Kd.R_drewN | apply Kd.R_drew)); exact Kd.R_mono HO_9.out (fun _ hk => ⟨⟨hk.1, hk.2.2⟩, hk.2.1⟩)) hg (.inl rfl)); have n3_ := Aside0.mk (Kd.R_after (v := (.slice (some ⟨go68, 0, none⟩) x21_3.length co76)) (v1 := (.slice (some ⟨go68, 0, none⟩) x21_3.length co76)) (ok := (fun k_ => some k_ ≠ (v234 : Value).ownBlock ∧ some k_ ≠ (v255 : Value).ownBlock)) (by (with_reducible repeat (first | apply Kd.R_alloc | apply Kd.R_drewN | apply Kd.R_drew)); exact Kd.R_mono HO_11.out (fun _ hk => ⟨⟨hk.1, hk.2.2⟩, hk.2.1⟩)) hg (.inl rfl)); have n4_ := Aside0.mk (hp_); have n5_ := Aside0.mk (Kd.R_after (v := (.slice (some ⟨go68, 0, none⟩) x21_3.length co76)) (v1 := (.slice (some ⟨go68, 0, none⟩) x21_3.length co76)) (ok := (fun k_ => some k_ ≠ (v234 : Value).ownBlock ∧ some k_ ≠ (v238 : Value).ownBlock)) (by (with_reducible repeat (first | apply Kd.R_alloc | apply Kd.R_drewN | apply Kd.R_drew)); exact Kd.R_mono HO_22.out (fun _ hk => ⟨⟨hk.1, hk.2.1⟩, hk.2.2⟩)) hg (.inl rfl)); have n6_ := Aside0.mk ((by rw [hw]; exact below_set (HB.out) GB68.out : Below w.heap.size w w78)); clear HO_5; clear HO_7; clear HO_9; clear HO_11; clear HO_21; clear HO_22; clear HB; have HO_5 := n0_; have HO_7 := n1_; have HO_9 := n2_; have HO_11 := n3_; have HO_21 := n4_; have HO_22 := n5_; have HB := n6_; clear n0_ n1_ n2_ n3_ n4_ n5_ n6_; clear hg hw hp_))
                                             have n0_ := Aside0.mk (Kd.R_drew HO_5.out)
                                             have n1_ := Aside0.mk (Kd.R_drew HO_7.out)
                                             have n2_ := Aside0.mk (Kd.R_drew HO_9.out)
                                             have n3_ := Aside0.mk (Kd.R_drew HO_11.out)
                                             have n4_ := Aside0.mk (Kd.R_drew HO_21.out)
                                             have n5_ := Aside0.mk (Kd.R_drew HO_22.out)
                                             have n6_ := Aside0.mk (below_drew1 HB.out)
                                             clear HO_5
                                             clear HO_7
                                             clear HO_9
                                             clear HO_11
                                             clear HO_21
                                             clear HO_22
                                             clear HB
                                             have HO_5 := n0_
                                             have HO_7 := n1_
                                             have HO_9 := n2_
                                             have HO_11 := n3_
                                             have HO_21 := n4_
                                             have HO_22 := n5_
                                             have HB := n6_
                                             clear n0_ n1_ n2_ n3_ n4_ n5_ n6_
                                             have p264 : 0 ≤ (x158_3 : Int) := of_decide_eq_true (by first | (with_reducible assumption) | assumption)
                                             have q264 : x158_3 < (t228.length : Int) := of_decide_eq_true (by first | (with_reducible assumption) | assumption)
                                             obtain ⟨ad264, e264, hx264_0, hx264_1⟩ := at_T81 (Kd.R_reads' HO_7.out).2.2 x158_3 p264 q264
                                             obtain rfl : ad257 = ad264 := (by injection e264)
                                             replace p264 := eq_true p264
                                             replace q264 := eq_true q264
                                             have p265 : 0 ≤ (((rd_T81 t228 x158_3).f0) : Int) := of_decide_eq_true (by first | (with_reducible assumption) | assumption)
                                             have q265 : ((rd_T81 t228 x158_3).f0) < (t224.length : Int) := of_decide_eq_true (by first | (with_reducible assumption) | assumption)
                                             obtain ⟨ad265, e265, hx265_0, hx265_1, hx265_2, hx265_3⟩ := at_T54 (Kd.R_reads' HO_5.out).2.2 ((rd_T81 t228 x158_3).f0) p265 q265
                                             cases e265
                                             replace p265 := eq_true p265
                                             replace q265 := eq_true q265
                                             refine start_ (n := 12) (S := fun w' => w'.cell? (ad257.add ((x158_3).toNat * 2)) = some (.int .i64 ((rd_T81 t228 x158_3).f0)) ∧ w'.cell? ⟨(ad257.add ((x158_3).toNat * 2)).block, (ad257.add ((x158_3).toNat * 2)).off + 1, none⟩ = some (.int .i64 ((rd_T81 t228 x158_3).f1)) ∧ w'.cell? (ad265.add ((((rd_T81 t228 x158_3).f0)).toNat * 4)) = some (.int .i64 ((rd_T54 t224 ((rd_T81 t228 x158_3).f0)).f0.f0)) ∧ w'.cell? ⟨(ad265.add ((((rd_T81 t228 x158_3).f0)).toNat * 4)).block, (ad265.add ((((rd_T81 t228 x158_3).f0)).toNat * 4)).off + 1, none⟩ = some (.int .i64 ((rd_T54 t224 ((rd_T81 t228 x158_3).f0)).f0.f1)) ∧ w'.cell? ⟨(ad265.add ((((rd_T81 t228 x158_3).f0)).toNat * 4)).block, (ad265.add ((((rd_T81 t228 x158_3).f0)).toNat * 4)).off + 2, none⟩ = some (.int .i64 ((rd_T54 t224 ((rd_T81 t228 x158_3).f0)).f1)) ∧ w'.cell? ⟨(ad265.add ((((rd_T81 t228 x158_3).f0)).toNat * 4)).block, (ad265.add ((((rd_T81 t228 x158_3).f0)).toNat * 4)).off + 3, none⟩ = some (.int .i64 ((rd_T54 t224 ((rd_T81 t228 x158_3).f0)).f2))) (ds := []) #[false, false, false, false, false, false, false, false, false, false, false, false] (by kernel_rfl) rfl rfl ⟨hx264_0, hx264_1, hx265_0, hx265_1, hx265_2, hx265_3⟩ (fun hHeld => ?_); refine with_tabW laws_FnPlans.tab31 laws_FnPlans.bits31 (fun HT_ HW_ => ?_)
                                             generalize w78.drew = w79 at HO_5 HO_7 HO_9 HO_11 HO_21 HO_22 HB hx264_0 hx264_1 hx265_0 hx265_1 hx265_2 hx265_3 hHeld ⊢
                                             refine pure_ (i := 0) (N := some 207) (v := ?_) (a' := ?_) #[true, false, false, false, false, false, false, false, false, false, false, false] rfl rfl (any_of HT_.out (by kernel_rfl)) (fun _ _ _ h => h) (Or.inl ⟨by rfl, ?_⟩) ?_ ?_; rotate_left 4
                                             refine pure_ (i := 1) (N := some 208) (v := ?_) (a' := ?_) #[true, true, false, false, false, false, false, false, false, false, false, false] rfl rfl (any_of HT_.out (by kernel_rfl)) (fun _ _ _ h => h) (Or.inl ⟨by rfl, ?_⟩) ?_ ?_; rotate_left 4
                                             refine pure_ (i := 2) (N := some 209) (v := ?_) (a' := ?_) #[true, true, true, false, false, false, false, false, false, false, false, false] rfl rfl (any_of HT_.out (by kernel_rfl)) (fun _ _ _ h => h) (Or.inl ⟨by rfl, ?_⟩) ?_ ?_; rotate_left 4
                                             refine pure_ (i := 3) (N := some 210) (v := ?_) (a' := ?_) #[true, true, true, true, false, false, false, false, false, false, false, false] rfl rfl (any_of HT_.out (by kernel_rfl)) (fun _ _ _ h => h) (Or.inl ⟨by rfl, ?_⟩) ?_ ?_; rotate_left 4
                                             refine pure_ (i := 5) (N := some 212) (v := ?_) (a' := ?_) #[true, true, true, true, false, true, false, false, false, false, false, false] rfl rfl (any_of HT_.out (by kernel_rfl)) (fun _ _ _ h => h) (Or.inl ⟨by rfl, ?_⟩) ?_ ?_; rotate_left 4
                                             refine pure_ (i := 6) (N := some 213) (v := ?_) (a' := ?_) #[true, true, true, true, false, true, true, false, false, false, false, false] rfl rfl (any_of HT_.out (by kernel_rfl)) (fun _ _ _ h => h) (Or.inl ⟨by rfl, ?_⟩) ?_ ?_; rotate_left 4
                                             refine pure_ (i := 7) (N := some 214) (v := ?_) (a' := ?_) #[true, true, true, true, false, true, true, true, false, false, false, false] rfl rfl (any_of HT_.out (by kernel_rfl)) (fun _ _ _ h => h) (Or.inl ⟨by rfl, ?_⟩) ?_ ?_; rotate_left 4
                                             refine pure_ (i := 8) (N := some 215) (v := ?_) (a' := ?_) #[true, true, true, true, false, true, true, true, true, false, false, false] rfl rfl (any_of HT_.out (by kernel_rfl)) (fun _ _ _ h => h) (Or.inl ⟨by rfl, ?_⟩) ?_ ?_; rotate_left 4
                                             rotate_left; iterate 8 (rotate_left; (intro w'; go_simp; with_reducible rfl); rotate_left; (simp only [Act.put, List.setIfInBounds_toArray, List.set_cons_zero, List.set_cons_succ, i64_w, i32_w]; rfl))
                                             refine take_ (i := 4) (N := some 211) (v := ?_) (a' := ?_) #[true, true, true, true, true, true, true, true, true, false, false, false] rfl rfl (take_ofW HT_.out HW_.out (by kernel_rfl)) (fun _ _ _ h => h) (Or.inl ⟨by rfl, ?_⟩) hHeld ?_ ?_
                                             rotate_left
                                             · rintro w' ⟨s0, s1, s2, s3, s4, s5⟩
                                               go_simp
                                               with_reducible rfl
                                             rotate_left
                                             · simp only [Act.put, List.setIfInBounds_toArray, List.set_cons_zero, List.set_cons_succ, i64_w, i32_w]
                                               rfl
                                             refine take_ (i := 9) (N := some 216) (v := ?_) (a' := ?_) #[true, true, true, true, true, true, true, true, true, true, false, false] rfl rfl (take_ofW HT_.out HW_.out (by kernel_rfl)) (fun _ _ _ h => h) (Or.inl ⟨by rfl, ?_⟩) hHeld ?_ ?_
                                             rotate_left
                                             · rintro w' ⟨s0, s1, s2, s3, s4, s5⟩
                                               go_simp
                                               with_reducible rfl
                                             rotate_left
                                             · simp only [Act.put, List.setIfInBounds_toArray, List.set_cons_zero, List.set_cons_succ, i64_w, i32_w]
                                               rfl
                                             refine pure_ (i := 10) (N := some 217) (v := ?_) (a' := ?_) #[true, true, true, true, true, true, true, true, true, true, true, false] rfl rfl (any_of HT_.out (by kernel_rfl)) (fun _ _ _ h => h) (Or.inl ⟨by rfl, ?_⟩) ?_ ?_; rotate_left 4
                                             refine pure_ (i := 11) (N := some 27) (v := ?_) (a' := ?_) #[true, true, true, true, true, true, true, true, true, true, true, true] rfl rfl (any_of HT_.out (by kernel_rfl)) (fun _ _ _ h => h) (Or.inl ⟨by rfl, ?_⟩) ?_ ?_; rotate_left 4
                                             rotate_left; iterate 2 (rotate_left; (intro w'; go_simp; with_reducible rfl); rotate_left; (simp only [Act.put, List.setIfInBounds_toArray, List.set_cons_zero, List.set_cons_succ, i64_w, i32_w]; rfl))
                                             refine done_ (done_of HT_.out (by kernel_rfl)) ?_
                                             try go_wp2
                                             have n0_ := Aside0.mk (Kd.R_drew HO_5.out)
                                             have n1_ := Aside0.mk (Kd.R_drew HO_7.out)
                                             have n2_ := Aside0.mk (Kd.R_drew HO_9.out)
                                             have n3_ := Aside0.mk (Kd.R_drew HO_11.out)
                                             have n4_ := Aside0.mk (Kd.R_drew HO_21.out)
                                             have n5_ := Aside0.mk (Kd.R_drew HO_22.out)
                                             have n6_ := Aside0.mk (below_drew1 HB.out)
                                             clear HO_5
                                             clear HO_7
                                             clear HO_9
                                             clear HO_11
                                             clear HO_21
                                             clear HO_22
                                             clear HB
                                             have HO_5 := n0_
                                             have HO_7 := n1_
                                             have HO_9 := n2_
                                             have HO_11 := n3_
                                             have HO_21 := n4_
                                             have HO_22 := n5_
                                             have HB := n6_
                                             clear n0_ n1_ n2_ n3_ n4_ n5_ n6_
                                             obtain ⟨Ao81, co81, eo81⟩ := Kd.R_slice HO_9.out
                                             (first | subst eo81 | (injection eo81 with f1_ f2_ f3_; have f4_ := f1_.symm; have f5_ := f3_.symm; clear f1_ f2_ f3_; subst f4_; subst f5_))
                                             have p266 : 0 ≤ (x158_3 : Int) := of_decide_eq_true (by first | (with_reducible assumption) | assumption)
                                             have q266 : x158_3 < (t232.length : Int) := of_decide_eq_true (by first | (with_reducible assumption) | assumption)
                                             obtain ⟨ad266, e266, hx266_0⟩ := Kd.at_int (Kd.R_reads' HO_9.out).2.2 x158_3 p266 q266
                                             cases e266
                                             replace p266 := eq_true p266
                                             replace q266 := eq_true q266
                                             have p267 : 0 ≤ (((rd_T81 t228 x158_3).f0) : Int) := of_decide_eq_true (by first | (with_reducible assumption) | assumption)
                                             have q267 : ((rd_T81 t228 x158_3).f0) < (y263.length : Int) := (by have h_ : (((rd_T81 t228 x158_3).f0) : Int) < ((x21_3.length : Int) : Int) := of_decide_eq_true (by first | (with_reducible assumption) | assumption); first | (have e_ := (Kd.R_reads' HO_21.out).1; omega) | simpa only [Ny263.out, List.length_set] using h_)
                                             have ql267 : ((((rd_T81 t228 x158_3).f0) : Int) < ((x21_3.length : Int) : Int)) = True := eq_true (of_decide_eq_true (by first | (with_reducible assumption) | assumption))
                                             obtain ⟨ad267, e267, hx267_0⟩ := Kd.at_int (Kd.R_reads' HO_21.out).2.2 ((rd_T81 t228 x158_3).f0) p267 q267
                                             obtain rfl : (⟨go68, 0, none⟩ : Addr) = ad267 := (by injection e267)
                                             (first | simp only [add_plain] at hx267_0 | simp only [add_at] at hx267_0 | simp only [Addr.add, Nat.zero_add] at hx267_0 | skip)
                                             replace p267 := eq_true p267
                                             replace q267 := eq_true q267
                                             have p268 : 0 ≤ (((rd_T81 t228 x158_3).f0) : Int) := of_decide_eq_true (by first | (with_reducible assumption) | assumption)
                                             have q268 : ((rd_T81 t228 x158_3).f0) < (t224.length : Int) := of_decide_eq_true (by first | (with_reducible assumption) | assumption)
                                             obtain ⟨ad268, e268, hx268_0, hx268_1, hx268_2, hx268_3⟩ := at_T54 (Kd.R_reads' HO_5.out).2.2 ((rd_T81 t228 x158_3).f0) p268 q268
                                             obtain rfl : ad265 = ad268 := (by injection e268)
                                             replace p268 := eq_true p268
                                             replace q268 := eq_true q268
                                             refine start_ (n := 18) (S := fun w' => w'.cell? (ad266.add (x158_3).toNat) = some (.int .i64 (rd t232 x158_3)) ∧ w'.cell? ⟨go68, (((rd_T81 t228 x158_3).f0)).toNat, none⟩ = some (.int .i64 (rd y263 ((rd_T81 t228 x158_3).f0))) ∧ w'.cell? (ad265.add ((((rd_T81 t228 x158_3).f0)).toNat * 4)) = some (.int .i64 ((rd_T54 t224 ((rd_T81 t228 x158_3).f0)).f0.f0)) ∧ w'.cell? ⟨(ad265.add ((((rd_T81 t228 x158_3).f0)).toNat * 4)).block, (ad265.add ((((rd_T81 t228 x158_3).f0)).toNat * 4)).off + 1, none⟩ = some (.int .i64 ((rd_T54 t224 ((rd_T81 t228 x158_3).f0)).f0.f1)) ∧ w'.cell? ⟨(ad265.add ((((rd_T81 t228 x158_3).f0)).toNat * 4)).block, (ad265.add ((((rd_T81 t228 x158_3).f0)).toNat * 4)).off + 2, none⟩ = some (.int .i64 ((rd_T54 t224 ((rd_T81 t228 x158_3).f0)).f1)) ∧ w'.cell? ⟨(ad265.add ((((rd_T81 t228 x158_3).f0)).toNat * 4)).block, (ad265.add ((((rd_T81 t228 x158_3).f0)).toNat * 4)).off + 3, none⟩ = some (.int .i64 ((rd_T54 t224 ((rd_T81 t228 x158_3).f0)).f2))) (ds := []) #[false, false, false, false, false, false, false, false, false, false, false, false, false, false, false, false, false, false] (by kernel_rfl) rfl rfl ⟨hx266_0, hx267_0, hx268_0, hx268_1, hx268_2, hx268_3⟩ (fun hHeld => ?_); refine with_tabW laws_FnPlans.tab32 laws_FnPlans.bits32 (fun HT_ HW_ => ?_)
                                             generalize w79.drew = w80 at HO_5 HO_7 HO_9 HO_11 HO_21 HO_22 HB hx266_0 hx267_0 hx268_0 hx268_1 hx268_2 hx268_3 hHeld ⊢
                                             refine pure_ (i := 0) (N := some 218) (v := ?_) (a' := ?_) #[true, false, false, false, false, false, false, false, false, false, false, false, false, false, false, false, false, false] rfl rfl (any_of HT_.out (by kernel_rfl)) (fun _ _ _ h => h) (Or.inl ⟨by rfl, ?_⟩) ?_ ?_; rotate_left 4
                                             refine pure_ (i := 1) (N := some 219) (v := ?_) (a' := ?_) #[true, true, false, false, false, false, false, false, false, false, false, false, false, false, false, false, false, false] rfl rfl (any_of HT_.out (by kernel_rfl)) (fun _ _ _ h => h) (Or.inl ⟨by rfl, ?_⟩) ?_ ?_; rotate_left 4
                                             refine pure_ (i := 2) (N := some 220) (v := ?_) (a' := ?_) #[true, true, true, false, false, false, false, false, false, false, false, false, false, false, false, false, false, false] rfl rfl (any_of HT_.out (by kernel_rfl)) (fun _ _ _ h => h) (Or.inl ⟨by rfl, ?_⟩) ?_ ?_; rotate_left 4
                                             refine pure_ (i := 4) (N := some 222) (v := ?_) (a' := ?_) #[true, true, true, false, true, false, false, false, false, false, false, false, false, false, false, false, false, false] rfl rfl (any_of HT_.out (by kernel_rfl)) (fun _ _ _ h => h) (Or.inl ⟨by rfl, ?_⟩) ?_ ?_; rotate_left 4
                                             refine pure_ (i := 5) (N := some 223) (v := ?_) (a' := ?_) #[true, true, true, false, true, true, false, false, false, false, false, false, false, false, false, false, false, false] rfl rfl (any_of HT_.out (by kernel_rfl)) (fun _ _ _ h => h) (Or.inl ⟨by rfl, ?_⟩) ?_ ?_; rotate_left 4
                                             refine pure_ (i := 6) (N := some 224) (v := ?_) (a' := ?_) #[true, true, true, false, true, true, true, false, false, false, false, false, false, false, false, false, false, false] rfl rfl (any_of HT_.out (by kernel_rfl)) (fun _ _ _ h => h) (Or.inl ⟨by rfl, ?_⟩) ?_ ?_; rotate_left 4
                                             refine pure_ (i := 7) (N := some 225) (v := ?_) (a' := ?_) #[true, true, true, false, true, true, true, true, false, false, false, false, false, false, false, false, false, false] rfl rfl (any_of HT_.out (by kernel_rfl)) (fun _ _ _ h => h) (Or.inl ⟨by rfl, ?_⟩) ?_ ?_; rotate_left 4
                                             refine pure_ (i := 9) (N := some 227) (v := ?_) (a' := ?_) #[true, true, true, false, true, true, true, true, false, true, false, false, false, false, false, false, false, false] rfl rfl (any_of HT_.out (by kernel_rfl)) (fun _ _ _ h => h) (Or.inl ⟨by rfl, ?_⟩) ?_ ?_; rotate_left 4
                                             refine pure_ (i := 10) (N := some 228) (v := ?_) (a' := ?_) #[true, true, true, false, true, true, true, true, false, true, true, false, false, false, false, false, false, false] rfl rfl (any_of HT_.out (by kernel_rfl)) (fun _ _ _ h => h) (Or.inl ⟨by rfl, ?_⟩) ?_ ?_; rotate_left 4
                                             refine pure_ (i := 11) (N := some 229) (v := ?_) (a' := ?_) #[true, true, true, false, true, true, true, true, false, true, true, true, false, false, false, false, false, false] rfl rfl (any_of HT_.out (by kernel_rfl)) (fun _ _ _ h => h) (Or.inl ⟨by rfl, ?_⟩) ?_ ?_; rotate_left 4
                                             refine pure_ (i := 12) (N := some 230) (v := ?_) (a' := ?_) #[true, true, true, false, true, true, true, true, false, true, true, true, true, false, false, false, false, false] rfl rfl (any_of HT_.out (by kernel_rfl)) (fun _ _ _ h => h) (Or.inl ⟨by rfl, ?_⟩) ?_ ?_; rotate_left 4
                                             rotate_left; iterate 11 (rotate_left; (intro w'; go_simp; with_reducible rfl); rotate_left; (simp only [Act.put, List.setIfInBounds_toArray, List.set_cons_zero, List.set_cons_succ, i64_w, i32_w]; rfl))
                                             refine take_ (i := 3) (N := some 221) (v := ?_) (a' := ?_) #[true, true, true, true, true, true, true, true, false, true, true, true, true, false, false, false, false, false] rfl rfl (take_ofW HT_.out HW_.out (by kernel_rfl)) (fun _ _ _ h => h) (Or.inl ⟨by rfl, ?_⟩) hHeld ?_ ?_
                                             rotate_left
                                             · rintro w' ⟨s0, s1, s2, s3, s4, s5⟩
                                               go_simp
                                               with_reducible rfl
                                             rotate_left
                                             · simp only [Act.put, List.setIfInBounds_toArray, List.set_cons_zero, List.set_cons_succ, i64_w, i32_w]
                                               rfl
                                             refine take_ (i := 8) (N := some 226) (v := ?_) (a' := ?_) #[true, true, true, true, true, true, true, true, true, true, true, true, true, false, false, false, false, false] rfl rfl (take_ofW HT_.out HW_.out (by kernel_rfl)) (fun _ _ _ h => h) (Or.inl ⟨by rfl, ?_⟩) hHeld ?_ ?_
                                             rotate_left
                                             · rintro w' ⟨s0, s1, s2, s3, s4, s5⟩
                                               go_simp
                                               with_reducible rfl
                                             rotate_left
                                             · simp only [Act.put, List.setIfInBounds_toArray, List.set_cons_zero, List.set_cons_succ, i64_w, i32_w]
                                               rfl
                                             refine take_ (i := 13) (N := some 231) (v := ?_) (a' := ?_) #[true, true, true, true, true, true, true, true, true, true, true, true, true, true, false, false, false, false] rfl rfl (take_ofW HT_.out HW_.out (by kernel_rfl)) (fun _ _ _ h => h) (Or.inl ⟨by rfl, ?_⟩) hHeld ?_ ?_
                                             rotate_left
                                             · rintro w' ⟨s0, s1, s2, s3, s4, s5⟩
                                               go_simp
                                               with_reducible rfl
                                             rotate_left
                                             · simp only [Act.put, List.setIfInBounds_toArray, List.set_cons_zero, List.set_cons_succ, i64_w, i32_w]
                                               rfl
                                             refine pure_ (i := 14) (N := some 232) (v := ?_) (a' := ?_) #[true, true, true, true, true, true, true, true, true, true, true, true, true, true, true, false, false, false] rfl rfl (any_of HT_.out (by kernel_rfl)) (fun _ _ _ h => h) (Or.inl ⟨by rfl, ?_⟩) ?_ ?_; rotate_left 4
                                             refine pure_ (i := 15) (N := some 233) (v := ?_) (a' := ?_) #[true, true, true, true, true, true, true, true, true, true, true, true, true, true, true, true, false, false] rfl rfl (any_of HT_.out (by kernel_rfl)) (fun _ _ _ h => h) (Or.inl ⟨by rfl, ?_⟩) ?_ ?_; rotate_left 4
                                             refine pure_ (i := 16) (N := some 234) (v := ?_) (a' := ?_) #[true, true, true, true, true, true, true, true, true, true, true, true, true, true, true, true, true, false] rfl rfl (any_of HT_.out (by kernel_rfl)) (fun _ _ _ h => h) (Or.inl ⟨by rfl, ?_⟩) ?_ ?_; rotate_left 4
                                             refine pure_ (i := 17) (N := some 235) (v := ?_) (a' := ?_) #[true, true, true, true, true, true, true, true, true, true, true, true, true, true, true, true, true, true] rfl rfl (any_of HT_.out (by kernel_rfl)) (fun _ _ _ h => h) (Or.inl ⟨by rfl, ?_⟩) ?_ ?_; rotate_left 4
                                             rotate_left; iterate 4 (rotate_left; (intro w'; go_simp; with_reducible rfl); rotate_left; (simp only [Act.put, List.setIfInBounds_toArray, List.set_cons_zero, List.set_cons_succ, i64_w, i32_w]; rfl))
                                             refine done_ (done_of HT_.out (by kernel_rfl)) ?_
                                             go_upto_if 238 with (fail)
                                             go_cut [] (fun wc => ∃ (kq : Nat) (x22_74 : List Int), Aside0 (laws_FnPlans.j4 kq t224 t227 t228 t232 t236 t240 t241 y263 x22_74 x23_3 x24_3 x158_3 ((rd_T81 t228 x158_3).f0) (t228.length : Int) x158_3 = some r) ∧ Aside0 (kq ≤ kj55) ∧ Aside0 (Kd.R k54 54 wc w.heap.size (fun _ => True) (.slice (some ad265) t224.length co14) t224) ∧ Aside0 (Kd.R k81 81 wc w.heap.size (fun _ => True) (.slice (some ad257) t228.length co16) t228) ∧ Aside0 (Kd.R (Kd.int .i64) 2 wc w.heap.size (fun k_ => some k_ ≠ (v238 : Value).ownBlock ∧ some k_ ≠ ((.slice (some ⟨go68, 0, none⟩) x21_3.length co76) : Value).ownBlock ∧ some k_ ≠ (v255 : Value).ownBlock) (.slice (some ad266) t232.length co81) t232) ∧ Aside0 (Kd.R (Kd.int .i64) 2 wc w.heap.size (fun k_ => some k_ ≠ ((.slice (some ad266) t232.length co81) : Value).ownBlock ∧ some k_ ≠ ((.slice (some ⟨go68, 0, none⟩) x21_3.length co76) : Value).ownBlock ∧ some k_ ≠ (v255 : Value).ownBlock) v238 t236) ∧ Aside0 (Kd.R (Kd.int .i64) 2 wc w.heap.size (fun k_ => some k_ ≠ ((.slice (some ad266) t232.length co81) : Value).ownBlock ∧ some k_ ≠ (v238 : Value).ownBlock ∧ some k_ ≠ (v255 : Value).ownBlock) (.slice (some ⟨go68, 0, none⟩) x21_3.length co76) y263) ∧ Aside0 (Kd.R (Kd.int .i64) 2 wc w.heap.size (fun k_ => some k_ ≠ ((.slice (some ad266) t232.length co81) : Value).ownBlock ∧ some k_ ≠ (v238 : Value).ownBlock ∧ some k_ ≠ ((.slice (some ⟨go68, 0, none⟩) x21_3.length co76) : Value).ownBlock) v255 x22_74) ∧ Aside0 (Below w.heap.size w wc))
                                             case first =>
                                              have H := HC75.out
                                              clear HC75
                                              by_cases c82 : (wrap64 (((rd_T81 t228 x158_3).f1) + ((rd_T54 t224 ((rd_T81 t228 x158_3).f0)).f1))) ≤ t227
                                              · rw [if_pos c82] at H
                                                have c82b0 : decide ((wrap64 (((rd_T81 t228 x158_3).f1) + ((rd_T54 t224 ((rd_T81 t228 x158_3).f0)).f1))) ≤ t227) = true := decide_eq_true c82
                                                clear c82
                                                (first | rw [c82b0] | (simp only [i64_w, i32_w]; rw [c82b0]) | skip)
                                                by_cases c83 : ((rd_T81 t228 x158_3).f0) < (x22_3.length : Int)
                                                · rw [if_pos c83] at H
                                                  have c83b0 : decide (((rd_T81 t228 x158_3).f0) < (x22_3.length : Int)) = true := decide_eq_true c83
                                                  clear c83
                                                  obtain ⟨y270, hy270⟩ : ∃ y_ : List Int, y_ = (x22_3.set (((rd_T81 t228 x158_3).f0) : Int).toNat (wrap64 ((rd x22_3 ((rd_T81 t228 x158_3).f0)) + 1))) := ⟨_, rfl⟩
                                                  replace H : (laws_FnPlans.j4 kj55 t224 t227 t228 t232 t236 t240 t241 y263 y270 x23_3 x24_3 x158_3 ((rd_T81 t228 x158_3).f0) (t228.length : Int) x158_3) = some r := by first | (rw [hy270]; with_reducible exact H) | (have H2_ := (Option.bind_some _ _).symm.trans H; rw [hy270]; with_reducible exact H2_) | (have H2_ := (Option.bind_some _ _).symm.trans H; with_reducible exact H2_) | with_reducible exact H | (rw [hy270]; exact H) | exact H
                                                  have Ny270 := Aside0.mk hy270
                                                  clear hy270
                                                  as_aux_lemma =>
                                                   have H' := Aside0.mk H
                                                   clear H
                                                   obtain ⟨Ao85, co85, eo85⟩ := Kd.R_slice HO_22.out
                                                   subst eo85
                                                   have p269 : 0 ≤ (((rd_T81 t228 x158_3).f0) : Int) := of_decide_eq_true (by first | (with_reducible assumption) | assumption)
                                                   have q269 : ((rd_T81 t228 x158_3).f0) < (x22_3.length : Int) := of_decide_eq_true (by first | (with_reducible assumption) | assumption)
                                                   obtain ⟨ad269, e269, hx269_0⟩ := Kd.at_int (Kd.R_reads' HO_22.out).2.2 ((rd_T81 t228 x158_3).f0) p269 q269
                                                   cases e269
                                                   replace p269 := eq_true p269
                                                   replace q269 := eq_true q269
                                                   have p84 : 0 ≤ (((rd_T81 t228 x158_3).f0) : Int) := of_decide_eq_true (by first | (with_reducible assumption) | assumption)
                                                   have q84 : (((rd_T81 t228 x158_3).f0) : Int) < ((x22_3.length : Int) : Int) := of_decide_eq_true (by first | (with_reducible assumption) | assumption)
                                                   obtain ⟨go84, co84, eo84, gb84, gl84, cl84, HG84⟩ := Kd.R_form HO_22.out (by omega)
                                                   (first | cases eo84 | (injection eo84 with ea_ en_ ec_; (first | subst ea_ | (injection ea_ with ea_; subst ea_)); subst ec_; clear en_))
                                                   have GB84 := Aside0.mk gb84
                                                   have GG84 := Aside0.mk HG84
                                                   clear gb84 gl84 HG84
                                                   (first | simp only [add_plain] at hx269_0 | skip)
                                                   obtain ⟨hx84_0, hf84_0⟩ := Kd.R_celln 0 HO_22.out (((rd_T81 t228 x158_3).f0) : Int) p84 q84
                                                   replace p84 := eq_true p84
                                                   replace q84 := eq_true q84
                                                   have n_ := Aside0.mk (Kd.R_mono (ok' := (fun k_ => some k_ ≠ (.slice (some ad266) t232.length co81 : Value).ownBlock ∧ some k_ ≠ (v238 : Value).ownBlock ∧ some k_ ≠ (.slice (some ⟨go68, 0, none⟩) x21_3.length co76 : Value).ownBlock)) HO_22.out (fun k_ hk => ⟨hk.1.1, ⟨hk.1.2, hk.2⟩⟩))
                                                   clear HO_22
                                                   have HO_22 := n_
                                                   clear n_
                                                   have HP86 := Kd.R_putg HO_22.out (((rd_T81 t228 x158_3).f0) : Int) (wrap64 ((rd x22_3 ((rd_T81 t228 x158_3).f0)) + 1))
                                                   go_wp2_with (first | ((with_reducible refine gate_store (t := 2) (p := 244) rfl ?_); refine store_event (t := 2) (p := 244) (v := ?vo_w87) (w1 := (w80.setCell ⟨go84, (((rd_T81 t228 x158_3).f0) : Int).toNat, none⟩ (.int .i64 (wrap64 ((rd x22_3 ((rd_T81 t228 x158_3).f0)) + 1))))) ?hg ?ho ?hn ?hr ?_; (case ho => rfl); (case hg => rfl); (case hn => rfl); (case hr => first | (go_simp; done) | (go_simp; rfl)); intro w87 hw; have hg : w80.grownBy w87 (some go84) := (by rw [hw]; exact HP86.2); have hp_ : Kd.R (Kd.int .i64) 2 w87 w.heap.size (fun k_ => some k_ ≠ (.slice (some ad266) t232.length co81 : Value).ownBlock ∧ some k_ ≠ (v238 : Value).ownBlock ∧ some k_ ≠ (.slice (some ⟨go68, 0, none⟩) x21_3.length co76 : Value).ownBlock) (.slice (some ⟨go84, 0, none⟩) x22_3.length co85) y270 := (by rw [hw, Ny270.out]; exact HP86.1); clear HP86; have n0_ := Aside0.mk (Kd.R_over' (v := (.slice (some ⟨go84, 0, none⟩) x22_3.length co85)) (by (with_reducible repeat (first | apply Kd.R_alloc | apply Kd.R_drewN | apply Kd.R_drew)); exact HO_5.out) (Kd.R_typed HO_22.out) (by decide) hg); have n1_ := Aside0.mk (Kd.R_over' (v := (.slice (some ⟨go84, 0, none⟩) x22_3.length co85)) (by (with_reducible repeat (first | apply Kd.R_alloc | apply Kd.R_drewN | apply Kd.R_drew)); exact HO_7.out) (Kd.R_typed HO_22.out) (by decide) hg); have n2_ := Aside0.mk (Kd.R_after (v := (.slice (some ⟨go84, 0, none⟩) x22_3.length co85)) (v1 := (.slice (some ⟨go84, 0, none⟩) x22_3.length co85)) (ok := (fun k_ => some k_ ≠ (v238 : Value).ownBlock ∧ some k_ ≠ (.slice (some ⟨go68, 0, none⟩) x21_3.length co76 : Value).ownBlock)) (by (with_reducible repeat (first | apply Kd.R_alloc | apply Kd.R_drewN | apply Kd.R_drew)); exact Kd.R_mono HO_9.out (fun _ hk => ⟨⟨hk.1.1, hk.2⟩, hk.1.2⟩)) hg (.inl rfl)); have n3_ := Aside0.mk (Kd.R_after (v := (.slice (some ⟨go84, 0, none⟩) x22_3.length co85)) (v1 := (.slice (some ⟨go84, 0, none⟩) x22_3.length co85)) (ok := (fun k_ => some k_ ≠ (.slice (some ad266) t232.length co81 : Value).ownBlock ∧ some k_ ≠ (.slice (some ⟨go68, 0, none⟩) x21_3.length co76 : Value).ownBlock)) (by (with_reducible repeat (first | apply Kd.R_alloc | apply Kd.R_drewN | apply Kd.R_drew)); exact Kd.R_mono HO_11.out (fun _ hk => ⟨⟨hk.1.1, hk.2⟩, hk.1.2⟩)) hg (.inl rfl)); have n4_ := Aside0.mk (Kd.R_after (v := (.slice (some ⟨go84, 0, none⟩) x22_3.length co85)) (v1 := (.slice (some ⟨go84, 0, none⟩) x22_3.length co85)) (ok := (fun k_ => some k_ ≠ (.slice (some ad266) t232.length co81 : Value).ownBlock ∧ some k_ ≠ (v238 : Value).ownBlock)) (by (with_reducible repeat (first | apply Kd.R_alloc | apply Kd.R_drewN | apply Kd.R_drew)); exact Kd.R_mono HO_21.out (fun _ hk => ⟨⟨hk.1, hk.2.1⟩, hk.2.2⟩)) hg (.inl rfl)); have n5_ := Aside0.mk (hp_); have n6_ := Aside0.mk ((by rw [hw]; exact below_set (HB.out) GB84.out : Below w.heap.size w w87)); clear HO_5; clear HO_7; clear HO_9; clear HO_11; clear HO_21; clear HO_22; clear HB; have HO_5 := n0_; have HO_7 := n1_; have HO_9 := n2_; have HO_11 := n3_; have HO_21 := n4_; have HO_22 := n5_; have HB := n6_; clear n0_ n1_ n2_ n3_ n4_ n5_ n6_; clear hg hw hp_))
                                                   go_meet
                                                   case rel => exact ⟨_, (y270), H', ⟨by have := HJ11.out; have := HK2.out; have := HK3.out; have := HJ55.out; first | omega | exact Nat.le_refl _⟩, ⟨by (with_reducible repeat (first | apply Kd.R_alloc | apply Kd.R_drewN | apply Kd.R_drew)); exact HO_5.out⟩, ⟨by (with_reducible repeat (first | apply Kd.R_alloc | apply Kd.R_drewN | apply Kd.R_drew)); exact HO_7.out⟩, ⟨by (with_reducible repeat (first | apply Kd.R_alloc | apply Kd.R_drewN | apply Kd.R_drew)); exact Kd.R_mono HO_9.out (fun _ hk => ⟨hk.1.1, ⟨hk.1.2, hk.2⟩⟩)⟩, ⟨by (with_reducible repeat (first | apply Kd.R_alloc | apply Kd.R_drewN | apply Kd.R_drew)); exact Kd.R_mono HO_11.out (fun _ hk => ⟨hk.1.1, ⟨hk.1.2, hk.2⟩⟩)⟩, ⟨by (with_reducible repeat (first | apply Kd.R_alloc | apply Kd.R_drewN | apply Kd.R_drew)); exact Kd.R_mono HO_21.out (fun _ hk => ⟨hk.1.1, ⟨hk.1.2, hk.2⟩⟩)⟩, ⟨by (with_reducible repeat (first | apply Kd.R_alloc | apply Kd.R_drewN | apply Kd.R_drew)); exact HO_22.out⟩, ⟨by repeat (first | (with_reducible first | exact HB.out | apply below_alloc | apply pw_below_drewN | apply below_drew1) | exact HB.out)⟩⟩
                                                · rw [if_neg c83] at H
                                                  exact absurd H (by simp)
                                              · rw [if_neg c82] at H
                                                have c82b0 : decide ((wrap64 (((rd_T81 t228 x158_3).f1) + ((rd_T54 t224 ((rd_T81 t228 x158_3).f0)).f1))) ≤ t227) = false := decide_eq_false c82
                                                clear c82
                                                (first | rw [c82b0] | (simp only [i64_w, i32_w]; rw [c82b0]) | skip)
                                                as_aux_lemma =>
                                                 have H' := Aside0.mk H
                                                 clear H
                                                 go_wp2
                                                 go_meet
                                                 case rel => exact ⟨_, (x22_3), H', ⟨by have := HJ11.out; have := HK2.out; have := HK3.out; have := HJ55.out; first | omega | exact Nat.le_refl _⟩, ⟨by (with_reducible repeat (first | apply Kd.R_alloc | apply Kd.R_drewN | apply Kd.R_drew)); exact HO_5.out⟩, ⟨by (with_reducible repeat (first | apply Kd.R_alloc | apply Kd.R_drewN | apply Kd.R_drew)); exact HO_7.out⟩, ⟨by (with_reducible repeat (first | apply Kd.R_alloc | apply Kd.R_drewN | apply Kd.R_drew)); exact Kd.R_mono HO_9.out (fun _ hk => ⟨hk.1.1, ⟨hk.2, hk.1.2⟩⟩)⟩, ⟨by (with_reducible repeat (first | apply Kd.R_alloc | apply Kd.R_drewN | apply Kd.R_drew)); exact Kd.R_mono HO_11.out (fun _ hk => ⟨hk.1.1, ⟨hk.2, hk.1.2⟩⟩)⟩, ⟨by (with_reducible repeat (first | apply Kd.R_alloc | apply Kd.R_drewN | apply Kd.R_drew)); exact HO_21.out⟩, ⟨by (with_reducible repeat (first | apply Kd.R_alloc | apply Kd.R_drewN | apply Kd.R_drew)); exact Kd.R_mono HO_22.out (fun _ hk => ⟨hk.1.1, ⟨hk.1.2, hk.2⟩⟩)⟩, ⟨by repeat (first | (with_reducible first | exact HB.out | apply below_alloc | apply pw_below_drewN | apply below_drew1) | exact HB.out)⟩⟩
                                             case rest =>
                                              clear HC75
                                              (try clear c1); (try clear c2); (try clear p2); (try clear q2); (try clear hx2); (try clear c3); (try clear c4); (try clear c5); (try clear c6); (try clear p6); (try clear q6); (try clear hx6); (try clear hf6); (try clear c7); (try clear c8); (try clear p8); (try clear q8); (try clear hx8); (try clear hf8); (try clear c12); (try clear c21); (try clear c22); (try clear c23); (try clear c24); (try clear p24); (try clear q24); (try clear hx24); (try clear c25); (try clear p25); (try clear q25); (try clear hx25); (try clear p26); (try clear q26); (try clear hx26); (try clear c27); (try clear c29); (try clear c30); (try clear c30b0); (try clear c30b1); (try clear c30b2); (try clear c31); (try clear c31b0); (try clear c31b1); (try clear c31b2); (try clear c32); (try clear c32b0); (try clear c33); (try clear c34); (try clear c37); (try clear c38); (try clear c38b0); (try clear c39); (try clear c39b0); (try clear c40); (try clear c40b0); (try clear c41); (try clear c41b0); (try clear c42); (try clear c42b0); (try clear c44); (try clear c44b0); (try clear c46); (try clear c46b0); (try clear c46b1); (try clear c46b2); (try clear c47); (try clear c47b0); (try clear c47b1); (try clear c48); (try clear c48b0); (try clear c48b1); (try clear c49); (try clear c50); (try clear c51); (try clear c52); (try clear c53); (try clear c53b0); (try clear c54); (try clear c54b0); (try clear c55); (try clear c55b0); (try clear c57); (try clear c57b0); (try clear c58); (try clear c58b0); (try clear c59); (try clear c59b0); (try clear c60); (try clear c60b0); (try clear c61); (try clear c61b0); (try clear c62); (try clear c62b0); (try clear p64); (try clear c65); (try clear c66); (try clear c66b0); (try clear c67); (try clear c67b0); (try clear p68); (try clear q68); (try clear hx68); (try clear hf68); (try clear c69); (try clear c69b0); (try clear c70); (try clear c70b0); (try clear c71); (try clear c71b0); (try clear c72); (try clear c72b0); (try clear c74); (try clear c74b0); (try clear c74b1); (try clear c82); (try clear c82b0); (try clear c83); (try clear c83b0); (try clear p84); (try clear q84); (try clear hx84); (try clear hf84); (try clear hx248_0); (try clear hx248_1); (try clear hx248_2); (try clear hx248_3); (try clear hx249_0); (try clear hx249_1); (try clear hx249_2); (try clear hx249_3); (try clear hx257_0); (try clear hx257_1); (try clear hx258_0); (try clear hx258_1); (try clear hx259_0); (try clear hx259_1); (try clear hx260_0); (try clear hx261_0); (try clear hx261_1); (try clear hx261_2); (try clear hx261_3); (try clear hx262_0); (try clear hx264_0); (try clear hx264_1); (try clear hx265_0); (try clear hx265_1); (try clear hx265_2); (try clear hx265_3); (try clear hx266_0); (try clear hx267_0); (try clear hx268_0); (try clear hx268_1); (try clear hx268_2); (try clear hx268_3); (try clear hx269_0); (try clear hx68_0); (try clear hx84_0); (try clear p2); (try clear p24); (try clear p248); (try clear p249); (try clear p25); (try clear p257); (try clear p258); (try clear p259); (try clear p26); (try clear p260); (try clear p261); (try clear p262); (try clear p264); (try clear p265); (try clear p266); (try clear p267); (try clear p268); (try clear p269); (try clear p6); (try clear p64); (try clear p68); (try clear p84); (try clear q2); (try clear q24); (try clear q248); (try clear q249); (try clear q25); (try clear q257); (try clear q258); (try clear q259); (try clear q26); (try clear q260); (try clear q261); (try clear q262); (try clear q264); (try clear q265); (try clear q266); (try clear q267); (try clear q268); (try clear q269); (try clear q68); (try clear q84)
                                              obtain ⟨kq, x22_74, HA, HJ74, HO_5, HO_7, HO_9, HO_11, HO_21, HO_22, HB⟩ := hcut
                                              have hl21_74 := (Kd.R_reads' HO_21.out).1
                                              rw [hl21_74] at HO_21
                                              (try simp only [hl21_74])
                                              (try simp only [hl21_74] at HO_5)
                                              (try simp only [hl21_74] at HO_7)
                                              (try simp only [hl21_74] at HO_9)
                                              (try simp only [hl21_74] at HO_11)
                                              (try simp only [hl21_74] at HO_22)
                                              cases kq with
                                              | zero => exact absurd HA.out (by simp [laws_FnPlans.j4])
                                              | succ kj74 =>
                                               have H := HA.out
                                               clear HA
                                               simp only [laws_FnPlans.j4] at H
                                               by_cases c88 : 0 ≤ ((rd_T81 t228 x158_3).f0)
                                               · rw [if_pos c88] at H
                                                 have c88b0 : decide (0 ≤ ((rd_T81 t228 x158_3).f0)) = true := decide_eq_true c88
                                                 clear c88
                                                 by_cases c89 : ((rd_T81 t228 x158_3).f0) < (t224.length : Int)
                                                 · rw [if_pos c89] at H
                                                   have c89b0 : decide (((rd_T81 t228 x158_3).f0) < (t224.length : Int)) = true := decide_eq_true c89
                                                   clear c89
                                                   by_cases c90 : x158_3 > 0
                                                   · rw [if_pos c90] at H
                                                     have c90b0 : decide (0 < x158_3) = true := decide_eq_true c90
                                                     clear c90
                                                     obtain ⟨ji91, hji91⟩ : ∃ j_ : Int, (wrap64 (x158_3 - 1)) = j_ := ⟨_, rfl⟩
                                                     replace H : (if 0 ≤ (ji91) then (if (ji91) < (t228.length : Int) then (if 0 ≤ ((rd_T81 t228 (ji91)).f0) then (if ((rd_T81 t228 (ji91)).f0) < (t224.length : Int) then ((impl_SwitchTicks.f ((rd_T54 t224 ((rd_T81 t228 (ji91)).f0)).f0.f0) ((rd_T54 t224 ((rd_T81 t228 (ji91)).f0)).f0.f1) ((rd_T54 t224 ((rd_T81 t228 x158_3).f0)).f0.f0) ((rd_T54 t224 ((rd_T81 t228 x158_3).f0)).f0.f1)).bind fun bt275 => (if bt275.2 = true then (if 0 ≤ x158_3 then (if x158_3 < (t228.length : Int) then (if ((rd_T81 t228 x158_3).f1) < (wrap64 ((wrap64 (((rd_T81 t228 (ji91)).f1) + ((rd_T54 t224 ((rd_T81 t228 (ji91)).f0)).f1))) + bt275.1)) then (none) else (laws_FnPlans.l1 kj74 t224 t227 t228 t232 t236 t240 t241 y263 x22_74 (wrap64 (x23_3 + ((rd_T54 t224 ((rd_T81 t228 x158_3).f0)).f1))) (wrap64 (x24_3 + bt275.1)) (t228.length : Int) (wrap64 (x158_3 + 1)))) else (none)) else (none)) else (none))) else (none)) else (none)) else (none)) else (none)) = some r := by first | (rw [hji91] at H; exact H) | (simp only [hji91] at H ⊢; exact H)
                                                     have hji91w : (IntKind.i64.wrap (x158_3 - 1)) = ji91 := (i64_w _).trans hji91
                                                     by_cases c92 : 0 ≤ (ji91)
                                                     · rw [if_pos c92] at H
                                                       have c92b0 : decide (0 ≤ (ji91)) = true := decide_eq_true c92
                                                       clear c92
                                                       by_cases c93 : (ji91) < (t228.length : Int)
                                                       · rw [if_pos c93] at H
                                                         have c93b0 : decide ((ji91) < (t228.length : Int)) = true := decide_eq_true c93
                                                         clear c93
                                                         by_cases c94 : 0 ≤ ((rd_T81 t228 (ji91)).f0)
                                                         · rw [if_pos c94] at H
                                                           have c94b0 : decide (0 ≤ ((rd_T81 t228 (ji91)).f0)) = true := decide_eq_true c94
                                                           clear c94
                                                           by_cases c95 : ((rd_T81 t228 (ji91)).f0) < (t224.length : Int)
                                                           · rw [if_pos c95] at H
                                                             have c95b0 : decide (((rd_T81 t228 (ji91)).f0) < (t224.length : Int)) = true := decide_eq_true c95
                                                             clear c95
                                                             replace H := Option.bind_eq_some_iff.mp H
                                                             obtain ⟨⟨t275, t276⟩, A960, H⟩ := H
                                                             replace H : (if t276 = true then (if 0 ≤ x158_3 then (if x158_3 < (t228.length : Int) then (if ((rd_T81 t228 x158_3).f1) < (wrap64 ((wrap64 (((rd_T81 t228 (ji91)).f1) + ((rd_T54 t224 ((rd_T81 t228 (ji91)).f0)).f1))) + t275)) then (none) else (laws_FnPlans.l1 kj74 t224 t227 t228 t232 t236 t240 t241 y263 x22_74 (wrap64 (x23_3 + ((rd_T54 t224 ((rd_T81 t228 x158_3).f0)).f1))) (wrap64 (x24_3 + t275)) (t228.length : Int) (wrap64 (x158_3 + 1)))) else (none)) else (none)) else (none)) = some r := H
                                                             have A96 := Aside0.mk A960
                                                             clear A960
                                                             by_cases c97 : t276 = true
                                                             · subst c97
                                                               have H1 : (if 0 ≤ x158_3 then (if x158_3 < (t228.length : Int) then (if ((rd_T81 t228 x158_3).f1) < (wrap64 ((wrap64 (((rd_T81 t228 (ji91)).f1) + ((rd_T54 t224 ((rd_T81 t228 (ji91)).f0)).f1))) + t275)) then (none) else (laws_FnPlans.l1 kj74 t224 t227 t228 t232 t236 t240 t241 y263 x22_74 (wrap64 (x23_3 + ((rd_T54 t224 ((rd_T81 t228 x158_3).f0)).f1))) (wrap64 (x24_3 + t275)) (t228.length : Int) (wrap64 (x158_3 + 1)))) else (none)) else (none)) = some r := by rw [if_pos rfl] at H; exact H
                                                               clear H
                                                               have H := H1
                                                               clear H1
                                                               by_cases c98 : 0 ≤ x158_3
                                                               · rw [if_pos c98] at H
                                                                 have c98b0 : decide (0 ≤ x158_3) = true := decide_eq_true c98
                                                                 clear c98
                                                                 by_cases c99 : x158_3 < (t228.length : Int)
                                                                 · rw [if_pos c99] at H
                                                                   have c99b0 : decide (x158_3 < (t228.length : Int)) = true := decide_eq_true c99
                                                                   clear c99
                                                                   by_cases c100 : ((rd_T81 t228 x158_3).f1) < (wrap64 ((wrap64 (((rd_T81 t228 (ji91)).f1) + ((rd_T54 t224 ((rd_T81 t228 (ji91)).f0)).f1))) + t275))
                                                                   · rw [if_pos c100] at H
                                                                     exact absurd H (by simp)
                                                                   · rw [if_neg c100] at H
                                                                     have c100b0 : decide (((rd_T81 t228 x158_3).f1) < (wrap64 ((wrap64 (((rd_T81 t228 (ji91)).f1) + ((rd_T54 t224 ((rd_T81 t228 (ji91)).f0)).f1))) + t275))) = false := decide_eq_false c100
                                                                     clear c100
                                                                     as_aux_lemma =>
                                                                      have H' := Aside0.mk H
                                                                      clear H
                                                                      have p271 : 0 ≤ (((rd_T81 t228 x158_3).f0) : Int) := of_decide_eq_true (by first | (with_reducible assumption) | assumption)
                                                                      have q271 : ((rd_T81 t228 x158_3).f0) < (t224.length : Int) := of_decide_eq_true (by first | (with_reducible assumption) | assumption)
                                                                      obtain ⟨ad271, e271, hx271_0, hx271_1, hx271_2, hx271_3⟩ := at_T54 (Kd.R_reads' HO_5.out).2.2 ((rd_T81 t228 x158_3).f0) p271 q271
                                                                      obtain rfl : ad265 = ad271 := (by injection e271)
                                                                      replace p271 := eq_true p271
                                                                      replace q271 := eq_true q271
                                                                      try go_wp2
                                                                      have n0_ := Aside0.mk (Kd.R_drew HO_5.out)
                                                                      have n1_ := Aside0.mk (Kd.R_drew HO_7.out)
                                                                      have n2_ := Aside0.mk (Kd.R_drew HO_9.out)
                                                                      have n3_ := Aside0.mk (Kd.R_drew HO_11.out)
                                                                      have n4_ := Aside0.mk (Kd.R_drew HO_21.out)
                                                                      have n5_ := Aside0.mk (Kd.R_drew HO_22.out)
                                                                      have n6_ := Aside0.mk (below_drew1 HB.out)
                                                                      clear HO_5
                                                                      clear HO_7
                                                                      clear HO_9
                                                                      clear HO_11
                                                                      clear HO_21
                                                                      clear HO_22
                                                                      clear HB
                                                                      have HO_5 := n0_
                                                                      have HO_7 := n1_
                                                                      have HO_9 := n2_
                                                                      have HO_11 := n3_
                                                                      have HO_21 := n4_
                                                                      have HO_22 := n5_
                                                                      have HB := n6_
                                                                      clear n0_ n1_ n2_ n3_ n4_ n5_ n6_
                                                                      have p272 : 0 ≤ ((ji91) : Int) := of_decide_eq_true (by first | (with_reducible assumption) | assumption)
                                                                      have q272 : (ji91) < (t228.length : Int) := of_decide_eq_true (by first | (with_reducible assumption) | assumption)
                                                                      obtain ⟨ad272, e272, hx272_0, hx272_1⟩ := at_T81 (Kd.R_reads' HO_7.out).2.2 (ji91) p272 q272
                                                                      obtain rfl : ad257 = ad272 := (by injection e272)
                                                                      replace p272 := eq_true p272
                                                                      replace q272 := eq_true q272
                                                                      have p273 : 0 ≤ (((rd_T81 t228 (ji91)).f0) : Int) := of_decide_eq_true (by first | (with_reducible assumption) | assumption)
                                                                      have q273 : ((rd_T81 t228 (ji91)).f0) < (t224.length : Int) := of_decide_eq_true (by first | (with_reducible assumption) | assumption)
                                                                      obtain ⟨ad273, e273, hx273_0, hx273_1, hx273_2, hx273_3⟩ := at_T54 (Kd.R_reads' HO_5.out).2.2 ((rd_T81 t228 (ji91)).f0) p273 q273
                                                                      obtain rfl : ad265 = ad273 := (by injection e273)
                                                                      replace p273 := eq_true p273
                                                                      replace q273 := eq_true q273
                                                                      have p274 : 0 ≤ (((rd_T81 t228 x158_3).f0) : Int) := of_decide_eq_true (by first | (with_reducible assumption) | assumption)
                                                                      have q274 : ((rd_T81 t228 x158_3).f0) < (t224.length : Int) := of_decide_eq_true (by first | (with_reducible assumption) | assumption)
                                                                      obtain ⟨ad274, e274, hx274_0, hx274_1, hx274_2, hx274_3⟩ := at_T54 (Kd.R_reads' HO_5.out).2.2 ((rd_T81 t228 x158_3).f0) p274 q274
                                                                      obtain rfl : ad265 = ad274 := (by injection e274)
                                                                      replace p274 := eq_true p274
                                                                      replace q274 := eq_true q274
                                                                      refine start_ (n := 21) (S := fun w' => w'.cell? (ad257.add (((ji91)).toNat * 2)) = some (.int .i64 ((rd_T81 t228 (ji91)).f0)) ∧ w'.cell? ⟨(ad257.add (((ji91)).toNat * 2)).block, (ad257.add (((ji91)).toNat * 2)).off + 1, none⟩ = some (.int .i64 ((rd_T81 t228 (ji91)).f1)) ∧ w'.cell? (ad265.add ((((rd_T81 t228 (ji91)).f0)).toNat * 4)) = some (.int .i64 ((rd_T54 t224 ((rd_T81 t228 (ji91)).f0)).f0.f0)) ∧ w'.cell? ⟨(ad265.add ((((rd_T81 t228 (ji91)).f0)).toNat * 4)).block, (ad265.add ((((rd_T81 t228 (ji91)).f0)).toNat * 4)).off + 1, none⟩ = some (.int .i64 ((rd_T54 t224 ((rd_T81 t228 (ji91)).f0)).f0.f1)) ∧ w'.cell? ⟨(ad265.add ((((rd_T81 t228 (ji91)).f0)).toNat * 4)).block, (ad265.add ((((rd_T81 t228 (ji91)).f0)).toNat * 4)).off + 2, none⟩ = some (.int .i64 ((rd_T54 t224 ((rd_T81 t228 (ji91)).f0)).f1)) ∧ w'.cell? ⟨(ad265.add ((((rd_T81 t228 (ji91)).f0)).toNat * 4)).block, (ad265.add ((((rd_T81 t228 (ji91)).f0)).toNat * 4)).off + 3, none⟩ = some (.int .i64 ((rd_T54 t224 ((rd_T81 t228 (ji91)).f0)).f2)) ∧ w'.cell? (ad265.add ((((rd_T81 t228 x158_3).f0)).toNat * 4)) = some (.int .i64 ((rd_T54 t224 ((rd_T81 t228 x158_3).f0)).f0.f0)) ∧ w'.cell? ⟨(ad265.add ((((rd_T81 t228 x158_3).f0)).toNat * 4)).block, (ad265.add ((((rd_T81 t228 x158_3).f0)).toNat * 4)).off + 1, none⟩ = some (.int .i64 ((rd_T54 t224 ((rd_T81 t228 x158_3).f0)).f0.f1)) ∧ w'.cell? ⟨(ad265.add ((((rd_T81 t228 x158_3).f0)).toNat * 4)).block, (ad265.add ((((rd_T81 t228 x158_3).f0)).toNat * 4)).off + 2, none⟩ = some (.int .i64 ((rd_T54 t224 ((rd_T81 t228 x158_3).f0)).f1)) ∧ w'.cell? ⟨(ad265.add ((((rd_T81 t228 x158_3).f0)).toNat * 4)).block, (ad265.add ((((rd_T81 t228 x158_3).f0)).toNat * 4)).off + 3, none⟩ = some (.int .i64 ((rd_T54 t224 ((rd_T81 t228 x158_3).f0)).f2))) (ds := []) #[false, false, false, false, false, false, false, false, false, false, false, false, false, false, false, false, false, false, false, false, false] (by kernel_rfl) rfl rfl ⟨hx272_0, hx272_1, hx273_0, hx273_1, hx273_2, hx273_3, hx274_0, hx274_1, hx274_2, hx274_3⟩ (fun hHeld => ?_); refine with_tabW laws_FnPlans.tab38 laws_FnPlans.bits38 (fun HT_ HW_ => ?_)
                                                                      generalize wc.drew = w101 at HO_5 HO_7 HO_9 HO_11 HO_21 HO_22 HB hx272_0 hx272_1 hx273_0 hx273_1 hx273_2 hx273_3 hx274_0 hx274_1 hx274_2 hx274_3 hHeld ⊢
                                                                      refine pure_ (i := 0) (N := some 255) (v := ?_) (a' := ?_) #[true, false, false, false, false, false, false, false, false, false, false, false, false, false, false, false, false, false, false, false, false] rfl rfl (any_of HT_.out (by kernel_rfl)) (fun _ _ _ h => h) (Or.inl ⟨by rfl, ?_⟩) ?_ ?_; rotate_left 4
                                                                      refine pure_ (i := 1) (N := some 256) (v := ?_) (a' := ?_) #[true, true, false, false, false, false, false, false, false, false, false, false, false, false, false, false, false, false, false, false, false] rfl rfl (any_of HT_.out (by kernel_rfl)) (fun _ _ _ h => h) (Or.inl ⟨by rfl, ?_⟩) ?_ ?_; rotate_left 4
                                                                      refine pure_ (i := 2) (N := some 257) (v := ?_) (a' := ?_) #[true, true, true, false, false, false, false, false, false, false, false, false, false, false, false, false, false, false, false, false, false] rfl rfl (any_of HT_.out (by kernel_rfl)) (fun _ _ _ h => h) (Or.inl ⟨by rfl, ?_⟩) ?_ ?_; rotate_left 4
                                                                      refine pure_ (i := 3) (N := some 258) (v := ?_) (a' := ?_) #[true, true, true, true, false, false, false, false, false, false, false, false, false, false, false, false, false, false, false, false, false] rfl rfl (any_of HT_.out (by kernel_rfl)) (fun _ _ _ h => h) (Or.inl ⟨by rfl, ?_⟩) ?_ ?_; rotate_left 4
                                                                      refine pure_ (i := 4) (N := some 259) (v := ?_) (a' := ?_) #[true, true, true, true, true, false, false, false, false, false, false, false, false, false, false, false, false, false, false, false, false] rfl rfl (any_of HT_.out (by kernel_rfl)) (fun _ _ _ h => h) (Or.inl ⟨by rfl, ?_⟩) ?_ ?_; rotate_left 4
                                                                      refine pure_ (i := 5) (N := some 260) (v := ?_) (a' := ?_) #[true, true, true, true, true, true, false, false, false, false, false, false, false, false, false, false, false, false, false, false, false] rfl rfl (any_of HT_.out (by kernel_rfl)) (fun _ _ _ h => h) (Or.inl ⟨by rfl, ?_⟩) ?_ ?_; rotate_left 4
                                                                      refine pure_ (i := 10) (N := some 265) (v := ?_) (a' := ?_) #[true, true, true, true, true, true, false, false, false, false, true, false, false, false, false, false, false, false, false, false, false] rfl rfl (any_of HT_.out (by kernel_rfl)) (fun _ _ _ h => h) (Or.inl ⟨by rfl, ?_⟩) ?_ ?_; rotate_left 4
                                                                      refine pure_ (i := 11) (N := some 266) (v := ?_) (a' := ?_) #[true, true, true, true, true, true, false, false, false, false, true, true, false, false, false, false, false, false, false, false, false] rfl rfl (any_of HT_.out (by kernel_rfl)) (fun _ _ _ h => h) (Or.inl ⟨by rfl, ?_⟩) ?_ ?_; rotate_left 4
                                                                      refine pure_ (i := 12) (N := some 267) (v := ?_) (a' := ?_) #[true, true, true, true, true, true, false, false, false, false, true, true, true, false, false, false, false, false, false, false, false] rfl rfl (any_of HT_.out (by kernel_rfl)) (fun _ _ _ h => h) (Or.inl ⟨by rfl, ?_⟩) ?_ ?_; rotate_left 4
                                                                      refine pure_ (i := 13) (N := some 268) (v := ?_) (a' := ?_) #[true, true, true, true, true, true, false, false, false, false, true, true, true, true, false, false, false, false, false, false, false] rfl rfl (any_of HT_.out (by kernel_rfl)) (fun _ _ _ h => h) (Or.inl ⟨by rfl, ?_⟩) ?_ ?_; rotate_left 4
                                                                      rotate_left; iterate 10 (rotate_left; (intro w'; go_simp; with_reducible rfl); rotate_left; (simp only [Act.put, List.setIfInBounds_toArray, List.set_cons_zero, List.set_cons_succ, i64_w, i32_w]; rfl))
                                                                      refine take_ (i := 6) (N := some 261) (v := ?_) (a' := ?_) #[true, true, true, true, true, true, true, false, false, false, true, true, true, true, false, false, false, false, false, false, false] rfl rfl (take_ofW HT_.out HW_.out (by kernel_rfl)) (fun _ _ _ h => h) (Or.inl ⟨by rfl, ?_⟩) hHeld ?_ ?_
                                                                      rotate_left
                                                                      · rintro w' ⟨s0, s1, s2, s3, s4, s5, s6, s7, s8, s9⟩
                                                                        go_simp
                                                                        with_reducible rfl
                                                                      rotate_left
                                                                      · simp only [Act.put, List.setIfInBounds_toArray, List.set_cons_zero, List.set_cons_succ, i64_w, i32_w]
                                                                        rfl
                                                                      refine pure_ (i := 7) (N := some 262) (v := ?_) (a' := ?_) #[true, true, true, true, true, true, true, true, false, false, true, true, true, true, false, false, false, false, false, false, false] rfl rfl (any_of HT_.out (by kernel_rfl)) (fun _ _ _ h => h) (Or.inl ⟨by rfl, ?_⟩) ?_ ?_; rotate_left 4
                                                                      refine pure_ (i := 8) (N := some 263) (v := ?_) (a' := ?_) #[true, true, true, true, true, true, true, true, true, false, true, true, true, true, false, false, false, false, false, false, false] rfl rfl (any_of HT_.out (by kernel_rfl)) (fun _ _ _ h => h) (Or.inl ⟨by rfl, ?_⟩) ?_ ?_; rotate_left 4
                                                                      rotate_left; iterate 2 (rotate_left; (intro w'; go_simp; with_reducible rfl); rotate_left; (simp only [Act.put, List.setIfInBounds_toArray, List.set_cons_zero, List.set_cons_succ, i64_w, i32_w]; rfl))
                                                                      refine take_ (i := 9) (N := some 264) (v := ?_) (a' := ?_) #[true, true, true, true, true, true, true, true, true, true, true, true, true, true, false, false, false, false, false, false, false] rfl rfl (take_ofW HT_.out HW_.out (by kernel_rfl)) (fun _ _ _ h => h) (Or.inl ⟨by rfl, ?_⟩) hHeld ?_ ?_
                                                                      rotate_left
                                                                      · rintro w' ⟨s0, s1, s2, s3, s4, s5, s6, s7, s8, s9⟩
                                                                        go_simp
                                                                        with_reducible rfl
                                                                      rotate_left
                                                                      · simp only [Act.put, List.setIfInBounds_toArray, List.set_cons_zero, List.set_cons_succ, i64_w, i32_w]
                                                                        rfl
                                                                      refine take_ (i := 14) (N := some 269) (v := ?_) (a' := ?_) #[true, true, true, true, true, true, true, true, true, true, true, true, true, true, true, false, false, false, false, false, false] rfl rfl (take_ofW HT_.out HW_.out (by kernel_rfl)) (fun _ _ _ h => h) (Or.inl ⟨by rfl, ?_⟩) hHeld ?_ ?_
                                                                      rotate_left
                                                                      · rintro w' ⟨s0, s1, s2, s3, s4, s5, s6, s7, s8, s9⟩
                                                                        go_simp
                                                                        with_reducible rfl
                                                                      rotate_left
                                                                      · simp only [Act.put, List.setIfInBounds_toArray, List.set_cons_zero, List.set_cons_succ, i64_w, i32_w]
                                                                        rfl
                                                                      refine one_ (i := 15) (N := some 270) #[true, true, true, true, true, true, true, true, true, true, true, true, true, true, true, true, false, false, false, false, false] rfl rfl (one_of HT_.out (by kernel_rfl)) (by decide) (fun K hK => ?_)
                                                                      refine goes_ Try.func15 (by kernel_rfl) rfl #[.agg #[.int .i64 ((rd_T54 t224 ((rd_T81 t228 (ji91)).f0)).f0.f0), .int .i64 ((rd_T54 t224 ((rd_T81 t228 (ji91)).f0)).f0.f1)], .agg #[.int .i64 ((rd_T54 t224 ((rd_T81 t228 x158_3).f0)).f0.f0), .int .i64 ((rd_T54 t224 ((rd_T81 t228 x158_3).f0)).f0.f1)]] (by rfl) rfl rfl (by (try simp only [List.map_toArray, List.map_cons, List.map_nil]); first | done | (simp only [hji91]; rfl) | rfl | (simp only [List.length_drop, List.length_take]; rfl)) ?_
                                                                      with_reducible refine (impl_SwitchTicks.calls ((rd_T54 t224 ((rd_T81 t228 (ji91)).f0)).f0.f0) ((rd_T54 t224 ((rd_T81 t228 (ji91)).f0)).f0.f1) ((rd_T54 t224 ((rd_T81 t228 x158_3).f0)).f0.f0) ((rd_T54 t224 ((rd_T81 t228 x158_3).f0)).f0.f1) t275 true _ A96.out).mono ?_
                                                                      rintro e w102 ⟨rfl, hb⟩
                                                                      have HS0_ := (hb.cell (World.block_lt_of_cell? _ _ (hHeld.1))).trans (hHeld.1)
                                                                      have HS1_ := (hb.cell (World.block_lt_of_cell? _ _ (hHeld.2.1))).trans (hHeld.2.1)
                                                                      have HS2_ := (hb.cell (World.block_lt_of_cell? _ _ (hHeld.2.2.1))).trans (hHeld.2.2.1)
                                                                      have HS3_ := (hb.cell (World.block_lt_of_cell? _ _ (hHeld.2.2.2.1))).trans (hHeld.2.2.2.1)
                                                                      have HS4_ := (hb.cell (World.block_lt_of_cell? _ _ (hHeld.2.2.2.2.1))).trans (hHeld.2.2.2.2.1)
                                                                      have HS5_ := (hb.cell (World.block_lt_of_cell? _ _ (hHeld.2.2.2.2.2.1))).trans (hHeld.2.2.2.2.2.1)
                                                                      have HS6_ := (hb.cell (World.block_lt_of_cell? _ _ (hHeld.2.2.2.2.2.2.1))).trans (hHeld.2.2.2.2.2.2.1)
                                                                      have HS7_ := (hb.cell (World.block_lt_of_cell? _ _ (hHeld.2.2.2.2.2.2.2.1))).trans (hHeld.2.2.2.2.2.2.2.1)
                                                                      have HS8_ := (hb.cell (World.block_lt_of_cell? _ _ (hHeld.2.2.2.2.2.2.2.2.1))).trans (hHeld.2.2.2.2.2.2.2.2.1)
                                                                      have HS9_ := (hb.cell (World.block_lt_of_cell? _ _ (hHeld.2.2.2.2.2.2.2.2.2))).trans (hHeld.2.2.2.2.2.2.2.2.2)
                                                                      refine ⟨_, rfl, ?_⟩
                                                                      have n0_ := Aside0.mk (Kd.R_below (by (with_reducible repeat (first | apply Kd.R_alloc | apply Kd.R_drewN | apply Kd.R_drew)); exact HO_5.out) hb)
                                                                      have n1_ := Aside0.mk (Kd.R_below (by (with_reducible repeat (first | apply Kd.R_alloc | apply Kd.R_drewN | apply Kd.R_drew)); exact HO_7.out) hb)
                                                                      have n2_ := Aside0.mk (Kd.R_below (by (with_reducible repeat (first | apply Kd.R_alloc | apply Kd.R_drewN | apply Kd.R_drew)); exact HO_9.out) hb)
                                                                      have n3_ := Aside0.mk (Kd.R_below (by (with_reducible repeat (first | apply Kd.R_alloc | apply Kd.R_drewN | apply Kd.R_drew)); exact HO_11.out) hb)
                                                                      have n4_ := Aside0.mk (Kd.R_below (by (with_reducible repeat (first | apply Kd.R_alloc | apply Kd.R_drewN | apply Kd.R_drew)); exact HO_21.out) hb)
                                                                      have n5_ := Aside0.mk (Kd.R_below (by (with_reducible repeat (first | apply Kd.R_alloc | apply Kd.R_drewN | apply Kd.R_drew)); exact HO_22.out) hb)
                                                                      have n6_ := Aside0.mk (below_step (by repeat (first | (with_reducible first | exact HB.out | apply below_alloc | apply pw_below_drewN | apply below_drew1) | exact HB.out)) hb)
                                                                      clear HO_5
                                                                      clear HO_7
                                                                      clear HO_9
                                                                      clear HO_11
                                                                      clear HO_21
                                                                      clear HO_22
                                                                      clear HB
                                                                      have HO_5 := n0_
                                                                      have HO_7 := n1_
                                                                      have HO_9 := n2_
                                                                      have HO_11 := n3_
                                                                      have HO_21 := n4_
                                                                      have HO_22 := n5_
                                                                      have HB := n6_
                                                                      clear n0_ n1_ n2_ n3_ n4_ n5_ n6_
                                                                      (try clear hb)
                                                                      (try clear hb2)
                                                                      (try clear hk)
                                                                      (try clear hi)
                                                                      refine hK.out _ _ ⟨HS0_, HS1_, HS2_, HS3_, HS4_, HS5_, HS6_, HS7_, HS8_, HS9_⟩ (fun hHeld => ?_)
                                                                      clear hK K
                                                                      refine norm_ (a' := ?_) ?_ ?_
                                                                      rotate_left
                                                                      · show Act.put _ (some 270) _ = _
                                                                        simp only [Act.put, List.setIfInBounds_toArray, List.set_cons_zero, List.set_cons_succ, i64_w, i32_w]
                                                                        rfl
                                                                      refine pure_ (i := 16) (N := some 254) (v := ?_) (a' := ?_) #[true, true, true, true, true, true, true, true, true, true, true, true, true, true, true, true, true, false, false, false, false] rfl rfl (any_of HT_.out (by kernel_rfl)) (fun _ _ _ h => h) (Or.inl ⟨by rfl, ?_⟩) ?_ ?_; rotate_left 4
                                                                      refine pure_ (i := 17) (N := some 271) (v := ?_) (a' := ?_) #[true, true, true, true, true, true, true, true, true, true, true, true, true, true, true, true, true, true, false, false, false] rfl rfl (any_of HT_.out (by kernel_rfl)) (fun _ _ _ h => h) (Or.inl ⟨by rfl, ?_⟩) ?_ ?_; rotate_left 4
                                                                      refine pure_ (i := 18) (N := some 272) (v := ?_) (a' := ?_) #[true, true, true, true, true, true, true, true, true, true, true, true, true, true, true, true, true, true, true, false, false] rfl rfl (any_of HT_.out (by kernel_rfl)) (fun _ _ _ h => h) (Or.inl ⟨by rfl, ?_⟩) ?_ ?_; rotate_left 4
                                                                      refine pure_ (i := 19) (N := some 28) (v := ?_) (a' := ?_) #[true, true, true, true, true, true, true, true, true, true, true, true, true, true, true, true, true, true, true, true, false] rfl rfl (any_of HT_.out (by kernel_rfl)) (fun _ _ _ h => h) (Or.inl ⟨by rfl, ?_⟩) ?_ ?_; rotate_left 4
                                                                      refine pure_ (i := 20) (N := some 29) (v := ?_) (a' := ?_) #[true, true, true, true, true, true, true, true, true, true, true, true, true, true, true, true, true, true, true, true, true] rfl rfl (any_of HT_.out (by kernel_rfl)) (fun _ _ _ h => h) (Or.inl ⟨by rfl, ?_⟩) ?_ ?_; rotate_left 4
                                                                      rotate_left; iterate 5 (rotate_left; (intro w'; go_simp; with_reducible rfl); rotate_left; (simp only [Act.put, List.setIfInBounds_toArray, List.set_cons_zero, List.set_cons_succ, i64_w, i32_w]; rfl))
                                                                      refine done_ (done_of HT_.out (by kernel_rfl)) ?_
                                                                      try go_wp2
                                                                      have n0_ := Aside0.mk (Kd.R_drew HO_5.out)
                                                                      have n1_ := Aside0.mk (Kd.R_drew HO_7.out)
                                                                      have n2_ := Aside0.mk (Kd.R_drew HO_9.out)
                                                                      have n3_ := Aside0.mk (Kd.R_drew HO_11.out)
                                                                      have n4_ := Aside0.mk (Kd.R_drew HO_21.out)
                                                                      have n5_ := Aside0.mk (Kd.R_drew HO_22.out)
                                                                      have n6_ := Aside0.mk (below_drew1 HB.out)
                                                                      clear HO_5
                                                                      clear HO_7
                                                                      clear HO_9
                                                                      clear HO_11
                                                                      clear HO_21
                                                                      clear HO_22
                                                                      clear HB
                                                                      have HO_5 := n0_
                                                                      have HO_7 := n1_
                                                                      have HO_9 := n2_
                                                                      have HO_11 := n3_
                                                                      have HO_21 := n4_
                                                                      have HO_22 := n5_
                                                                      have HB := n6_
                                                                      clear n0_ n1_ n2_ n3_ n4_ n5_ n6_
                                                                      have p277 : 0 ≤ (x158_3 : Int) := of_decide_eq_true (by first | (with_reducible assumption) | assumption)
                                                                      have q277 : x158_3 < (t228.length : Int) := of_decide_eq_true (by first | (with_reducible assumption) | assumption)
                                                                      obtain ⟨ad277, e277, hx277_0, hx277_1⟩ := at_T81 (Kd.R_reads' HO_7.out).2.2 x158_3 p277 q277
                                                                      obtain rfl : ad257 = ad277 := (by injection e277)
                                                                      replace p277 := eq_true p277
                                                                      replace q277 := eq_true q277
                                                                      have p278 : 0 ≤ ((ji91) : Int) := of_decide_eq_true (by first | (with_reducible assumption) | assumption)
                                                                      have q278 : (ji91) < (t228.length : Int) := of_decide_eq_true (by first | (with_reducible assumption) | assumption)
                                                                      obtain ⟨ad278, e278, hx278_0, hx278_1⟩ := at_T81 (Kd.R_reads' HO_7.out).2.2 (ji91) p278 q278
                                                                      obtain rfl : ad257 = ad278 := (by injection e278)
                                                                      replace p278 := eq_true p278
                                                                      replace q278 := eq_true q278
                                                                      have p279 : 0 ≤ ((ji91) : Int) := of_decide_eq_true (by first | (with_reducible assumption) | assumption)
                                                                      have q279 : (ji91) < (t228.length : Int) := of_decide_eq_true (by first | (with_reducible assumption) | assumption)
                                                                      obtain ⟨ad279, e279, hx279_0, hx279_1⟩ := at_T81 (Kd.R_reads' HO_7.out).2.2 (ji91) p279 q279
                                                                      obtain rfl : ad257 = ad279 := (by injection e279)
                                                                      replace p279 := eq_true p279
                                                                      replace q279 := eq_true q279
                                                                      have p280 : 0 ≤ (((rd_T81 t228 (ji91)).f0) : Int) := of_decide_eq_true (by first | (with_reducible assumption) | assumption)
                                                                      have q280 : ((rd_T81 t228 (ji91)).f0) < (t224.length : Int) := of_decide_eq_true (by first | (with_reducible assumption) | assumption)
                                                                      obtain ⟨ad280, e280, hx280_0, hx280_1, hx280_2, hx280_3⟩ := at_T54 (Kd.R_reads' HO_5.out).2.2 ((rd_T81 t228 (ji91)).f0) p280 q280
                                                                      obtain rfl : ad265 = ad280 := (by injection e280)
                                                                      replace p280 := eq_true p280
                                                                      replace q280 := eq_true q280
                                                                      refine start_ (n := 29) (S := fun w' => w'.cell? (ad257.add ((x158_3).toNat * 2)) = some (.int .i64 ((rd_T81 t228 x158_3).f0)) ∧ w'.cell? ⟨(ad257.add ((x158_3).toNat * 2)).block, (ad257.add ((x158_3).toNat * 2)).off + 1, none⟩ = some (.int .i64 ((rd_T81 t228 x158_3).f1)) ∧ w'.cell? (ad257.add (((ji91)).toNat * 2)) = some (.int .i64 ((rd_T81 t228 (ji91)).f0)) ∧ w'.cell? ⟨(ad257.add (((ji91)).toNat * 2)).block, (ad257.add (((ji91)).toNat * 2)).off + 1, none⟩ = some (.int .i64 ((rd_T81 t228 (ji91)).f1)) ∧ w'.cell? (ad257.add (((ji91)).toNat * 2)) = some (.int .i64 ((rd_T81 t228 (ji91)).f0)) ∧ w'.cell? ⟨(ad257.add (((ji91)).toNat * 2)).block, (ad257.add (((ji91)).toNat * 2)).off + 1, none⟩ = some (.int .i64 ((rd_T81 t228 (ji91)).f1)) ∧ w'.cell? (ad265.add ((((rd_T81 t228 (ji91)).f0)).toNat * 4)) = some (.int .i64 ((rd_T54 t224 ((rd_T81 t228 (ji91)).f0)).f0.f0)) ∧ w'.cell? ⟨(ad265.add ((((rd_T81 t228 (ji91)).f0)).toNat * 4)).block, (ad265.add ((((rd_T81 t228 (ji91)).f0)).toNat * 4)).off + 1, none⟩ = some (.int .i64 ((rd_T54 t224 ((rd_T81 t228 (ji91)).f0)).f0.f1)) ∧ w'.cell? ⟨(ad265.add ((((rd_T81 t228 (ji91)).f0)).toNat * 4)).block, (ad265.add ((((rd_T81 t228 (ji91)).f0)).toNat * 4)).off + 2, none⟩ = some (.int .i64 ((rd_T54 t224 ((rd_T81 t228 (ji91)).f0)).f1)) ∧ w'.cell? ⟨(ad265.add ((((rd_T81 t228 (ji91)).f0)).toNat * 4)).block, (ad265.add ((((rd_T81 t228 (ji91)).f0)).toNat * 4)).off + 3, none⟩ = some (.int .i64 ((rd_T54 t224 ((rd_T81 t228 (ji91)).f0)).f2))) (ds := []) #[false, false, false, false, false, false, false, false, false, false, false, false, false, false, false, false, false, false, false, false, false, false, false, false, false, false, false, false, false] (by kernel_rfl) rfl rfl ⟨hx277_0, hx277_1, hx278_0, hx278_1, hx279_0, hx279_1, hx280_0, hx280_1, hx280_2, hx280_3⟩ (fun hHeld => ?_); refine with_tabW laws_FnPlans.tab39 laws_FnPlans.bits39 (fun HT_ HW_ => ?_)
                                                                      generalize w102.drew = w103 at HO_5 HO_7 HO_9 HO_11 HO_21 HO_22 HB hx277_0 hx277_1 hx278_0 hx278_1 hx279_0 hx279_1 hx280_0 hx280_1 hx280_2 hx280_3 hHeld ⊢
                                                                      refine pure_ (i := 0) (N := some 273) (v := ?_) (a' := ?_) #[true, false, false, false, false, false, false, false, false, false, false, false, false, false, false, false, false, false, false, false, false, false, false, false, false, false, false, false, false] rfl rfl (any_of HT_.out (by kernel_rfl)) (fun _ _ _ h => h) (Or.inl ⟨by rfl, ?_⟩) ?_ ?_; rotate_left 4
                                                                      refine pure_ (i := 1) (N := some 274) (v := ?_) (a' := ?_) #[true, true, false, false, false, false, false, false, false, false, false, false, false, false, false, false, false, false, false, false, false, false, false, false, false, false, false, false, false] rfl rfl (any_of HT_.out (by kernel_rfl)) (fun _ _ _ h => h) (Or.inl ⟨by rfl, ?_⟩) ?_ ?_; rotate_left 4
                                                                      refine pure_ (i := 2) (N := some 275) (v := ?_) (a' := ?_) #[true, true, true, false, false, false, false, false, false, false, false, false, false, false, false, false, false, false, false, false, false, false, false, false, false, false, false, false, false] rfl rfl (any_of HT_.out (by kernel_rfl)) (fun _ _ _ h => h) (Or.inl ⟨by rfl, ?_⟩) ?_ ?_; rotate_left 4
                                                                      rotate_left; iterate 3 (rotate_left; (intro w'; go_simp; with_reducible rfl); rotate_left; (simp only [Act.put, List.setIfInBounds_toArray, List.set_cons_zero, List.set_cons_succ, i64_w, i32_w]; rfl))
                                                                      refine pure_ (i := 3) (N := some 276) (v := ?_) (a' := ?_) #[true, true, true, true, false, false, false, false, false, false, false, false, false, false, false, false, false, false, false, false, false, false, false, false, false, false, false, false, false] rfl rfl (any_of HT_.out (by kernel_rfl)) (fun _ _ _ h => h) (Or.inl ⟨by rfl, ?_⟩) ?_ ?_; rotate_left; (intro w'; go_simp; with_reducible rfl); rotate_left; (simp only [Act.put, List.setIfInBounds_toArray, List.set_cons_zero, List.set_cons_succ, i64_w, i32_w]; rfl)
                                                                      refine pure_ (i := 4) (N := some 277) (v := ?_) (a' := ?_) #[true, true, true, true, true, false, false, false, false, false, false, false, false, false, false, false, false, false, false, false, false, false, false, false, false, false, false, false, false] rfl rfl (any_of HT_.out (by kernel_rfl)) (fun _ _ _ h => h) (Or.inl ⟨by rfl, ?_⟩) ?_ ?_; rotate_left; (intro w'; go_simp; with_reducible rfl); rotate_left; (simp only [Act.put, List.setIfInBounds_toArray, List.set_cons_zero, List.set_cons_succ, i64_w, i32_w]; rfl)
                                                                      refine pure_ (i := 5) (N := some 278) (v := ?_) (a' := ?_) #[true, true, true, true, true, true, false, false, false, false, false, false, false, false, false, false, false, false, false, false, false, false, false, false, false, false, false, false, false] rfl rfl (any_of HT_.out (by kernel_rfl)) (fun _ _ _ h => h) (Or.inl ⟨by rfl, ?_⟩) ?_ ?_; rotate_left; (intro w'; go_simp; with_reducible rfl); rotate_left; (simp only [Act.put, List.setIfInBounds_toArray, List.set_cons_zero, List.set_cons_succ, i64_w, i32_w]; rfl)
                                                                      refine pure_ (i := 6) (N := some 279) (v := ?_) (a' := ?_) #[true, true, true, true, true, true, true, false, false, false, false, false, false, false, false, false, false, false, false, false, false, false, false, false, false, false, false, false, false] rfl rfl (any_of HT_.out (by kernel_rfl)) (fun _ _ _ h => h) (Or.inl ⟨by rfl, ?_⟩) ?_ ?_; rotate_left; (intro w'; go_simp; with_reducible rfl); rotate_left; (simp only [Act.put, List.setIfInBounds_toArray, List.set_cons_zero, List.set_cons_succ, i64_w, i32_w]; rfl)
                                                                      refine pure_ (i := 8) (N := some 281) (v := ?_) (a' := ?_) #[true, true, true, true, true, true, true, false, true, false, false, false, false, false, false, false, false, false, false, false, false, false, false, false, false, false, false, false, false] rfl rfl (any_of HT_.out (by kernel_rfl)) (fun _ _ _ h => h) (Or.inl ⟨by rfl, ?_⟩) ?_ ?_; rotate_left; (intro w'; go_simp; with_reducible rfl); rotate_left; (simp only [Act.put, List.setIfInBounds_toArray, List.set_cons_zero, List.set_cons_succ, i64_w, i32_w]; rfl)
                                                                      refine pure_ (i := 9) (N := some 282) (v := ?_) (a' := ?_) #[true, true, true, true, true, true, true, false, true, true, false, false, false, false, false, false, false, false, false, false, false, false, false, false, false, false, false, false, false] rfl rfl (any_of HT_.out (by kernel_rfl)) (fun _ _ _ h => h) (Or.inl ⟨by rfl, ?_⟩) ?_ ?_; rotate_left; (intro w'; go_simp; with_reducible rfl); rotate_left; (simp only [Act.put, List.setIfInBounds_toArray, List.set_cons_zero, List.set_cons_succ, i64_w, i32_w]; rfl)
                                                                      refine pure_ (i := 10) (N := some 283) (v := ?_) (a' := ?_) #[true, true, true, true, true, true, true, false, true, true, true, false, false, false, false, false, false, false, false, false, false, false, false, false, false, false, false, false, false] rfl rfl (any_of HT_.out (by kernel_rfl)) (fun _ _ _ h => h) (Or.inl ⟨by rfl, ?_⟩) ?_ ?_; rotate_left; (intro w'; go_simp; with_reducible rfl); rotate_left; (simp only [Act.put, List.setIfInBounds_toArray, List.set_cons_zero, List.set_cons_succ, i64_w, i32_w]; rfl)
                                                                      refine pure_ (i := 11) (N := some 284) (v := ?_) (a' := ?_) #[true, true, true, true, true, true, true, false, true, true, true, true, false, false, false, false, false, false, false, false, false, false, false, false, false, false, false, false, false] rfl rfl (any_of HT_.out (by kernel_rfl)) (fun _ _ _ h => h) (Or.inl ⟨by rfl, ?_⟩) ?_ ?_; rotate_left; (intro w'; go_simp; with_reducible rfl); rotate_left; (simp only [Act.put, List.setIfInBounds_toArray, List.set_cons_zero, List.set_cons_succ, i64_w, i32_w]; rfl)
                                                                      refine pure_ (i := 12) (N := some 285) (v := ?_) (a' := ?_) #[true, true, true, true, true, true, true, false, true, true, true, true, true, false, false, false, false, false, false, false, false, false, false, false, false, false, false, false, false] rfl rfl (any_of HT_.out (by kernel_rfl)) (fun _ _ _ h => h) (Or.inl ⟨by rfl, ?_⟩) ?_ ?_; rotate_left; (intro w'; go_simp; with_reducible rfl); rotate_left; (simp only [Act.put, List.setIfInBounds_toArray, List.set_cons_zero, List.set_cons_succ, i64_w, i32_w]; rfl)
                                                                      refine pure_ (i := 14) (N := some 287) (v := ?_) (a' := ?_) #[true, true, true, true, true, true, true, false, true, true, true, true, true, false, true, false, false, false, false, false, false, false, false, false, false, false, false, false, false] rfl rfl (any_of HT_.out (by kernel_rfl)) (fun _ _ _ h => h) (Or.inl ⟨by rfl, ?_⟩) ?_ ?_; rotate_left; (intro w'; go_simp; with_reducible rfl); rotate_left; (simp only [Act.put, List.setIfInBounds_toArray, List.set_cons_zero, List.set_cons_succ, i64_w, i32_w]; rfl)
                                                                      refine pure_ (i := 15) (N := some 288) (v := ?_) (a' := ?_) #[true, true, true, true, true, true, true, false, true, true, true, true, true, false, true, true, false, false, false, false, false, false, false, false, false, false, false, false, false] rfl rfl (any_of HT_.out (by kernel_rfl)) (fun _ _ _ h => h) (Or.inl ⟨by rfl, ?_⟩) ?_ ?_; rotate_left; (intro w'; go_simp; with_reducible rfl); rotate_left; (simp only [Act.put, List.setIfInBounds_toArray, List.set_cons_zero, List.set_cons_succ, i64_w, i32_w]; rfl)
                                                                      refine pure_ (i := 16) (N := some 289) (v := ?_) (a' := ?_) #[true, true, true, true, true, true, true, false, true, true, true, true, true, false, true, true, true, false, false, false, false, false, false, false, false, false, false, false, false] rfl rfl (any_of HT_.out (by kernel_rfl)) (fun _ _ _ h => h) (Or.inl ⟨by rfl, ?_⟩) ?_ ?_; rotate_left; (intro w'; go_simp; with_reducible rfl); rotate_left; (simp only [Act.put, List.setIfInBounds_toArray, List.set_cons_zero, List.set_cons_succ, i64_w, i32_w]; rfl)
                                                                      refine pure_ (i := 17) (N := some 290) (v := ?_) (a' := ?_) #[true, true, true, true, true, true, true, false, true, true, true, true, true, false, true, true, true, true, false, false, false, false, false, false, false, false, false, false, false] rfl rfl (any_of HT_.out (by kernel_rfl)) (fun _ _ _ h => h) (Or.inl ⟨by rfl, ?_⟩) ?_ ?_; rotate_left; (intro w'; go_simp; with_reducible rfl); rotate_left; (simp only [Act.put, List.setIfInBounds_toArray, List.set_cons_zero, List.set_cons_succ, i64_w, i32_w]; rfl)
                                                                      refine pure_ (i := 18) (N := some 291) (v := ?_) (a' := ?_) #[true, true, true, true, true, true, true, false, true, true, true, true, true, false, true, true, true, true, true, false, false, false, false, false, false, false, false, false, false] rfl rfl (any_of HT_.out (by kernel_rfl)) (fun _ _ _ h => h) (Or.inl ⟨by rfl, ?_⟩) ?_ ?_; rotate_left; (intro w'; go_simp; with_reducible rfl); rotate_left; (simp only [Act.put, List.setIfInBounds_toArray, List.set_cons_zero, List.set_cons_succ, i64_w, i32_w]; rfl)
                                                                      refine pure_ (i := 19) (N := some 292) (v := ?_) (a' := ?_) #[true, true, true, true, true, true, true, false, true, true, true, true, true, false, true, true, true, true, true, true, false, false, false, false, false, false, false, false, false] rfl rfl (any_of HT_.out (by kernel_rfl)) (fun _ _ _ h => h) (Or.inl ⟨by rfl, ?_⟩) ?_ ?_; rotate_left; (intro w'; go_simp; with_reducible rfl); rotate_left; (simp only [Act.put, List.setIfInBounds_toArray, List.set_cons_zero, List.set_cons_succ, i64_w, i32_w]; rfl)
                                                                      refine pure_ (i := 25) (N := some 298) (v := ?_) (a' := ?_) #[true, true, true, true, true, true, true, false, true, true, true, true, true, false, true, true, true, true, true, true, false, false, false, false, false, true, false, false, false] rfl rfl (any_of HT_.out (by kernel_rfl)) (fun _ _ _ h => h) (Or.inl ⟨by rfl, ?_⟩) ?_ ?_; rotate_left; (intro w'; go_simp; with_reducible rfl); rotate_left; (simp only [Act.put, List.setIfInBounds_toArray, List.set_cons_zero, List.set_cons_succ, i64_w, i32_w]; rfl)
                                                                      refine take_ (i := 7) (N := some 280) (v := ?_) (a' := ?_) #[true, true, true, true, true, true, true, true, true, true, true, true, true, false, true, true, true, true, true, true, false, false, false, false, false, true, false, false, false] rfl rfl (take_ofW HT_.out HW_.out (by kernel_rfl)) (fun _ _ _ h => h) (Or.inl ⟨by rfl, ?_⟩) hHeld ?_ ?_
                                                                      rotate_left
                                                                      · rintro w' ⟨s0, s1, s2, s3, s4, s5, s6, s7, s8, s9⟩
                                                                        go_simp
                                                                        with_reducible rfl
                                                                      rotate_left
                                                                      · simp only [Act.put, List.setIfInBounds_toArray, List.set_cons_zero, List.set_cons_succ, i64_w, i32_w]
                                                                        rfl
                                                                      refine take_ (i := 13) (N := some 286) (v := ?_) (a' := ?_) #[true, true, true, true, true, true, true, true, true, true, true, true, true, true, true, true, true, true, true, true, false, false, false, false, false, true, false, false, false] rfl rfl (take_ofW HT_.out HW_.out (by kernel_rfl)) (fun _ _ _ h => h) (Or.inl ⟨by rfl, ?_⟩) hHeld ?_ ?_
                                                                      rotate_left
                                                                      · rintro w' ⟨s0, s1, s2, s3, s4, s5, s6, s7, s8, s9⟩
                                                                        go_simp
                                                                        with_reducible rfl
                                                                      rotate_left
                                                                      · simp only [Act.put, List.setIfInBounds_toArray, List.set_cons_zero, List.set_cons_succ, i64_w, i32_w]
                                                                        rfl
                                                                      refine take_ (i := 20) (N := some 293) (v := ?_) (a' := ?_) #[true, true, true, true, true, true, true, true, true, true, true, true, true, true, true, true, true, true, true, true, true, false, false, false, false, true, false, false, false] rfl rfl (take_ofW HT_.out HW_.out (by kernel_rfl)) (fun _ _ _ h => h) (Or.inl ⟨by rfl, ?_⟩) hHeld ?_ ?_
                                                                      rotate_left
                                                                      · rintro w' ⟨s0, s1, s2, s3, s4, s5, s6, s7, s8, s9⟩
                                                                        go_simp
                                                                        with_reducible rfl
                                                                      rotate_left
                                                                      · simp only [Act.put, List.setIfInBounds_toArray, List.set_cons_zero, List.set_cons_succ, i64_w, i32_w]
                                                                        rfl
                                                                      refine pure_ (i := 21) (N := some 294) (v := ?_) (a' := ?_) #[true, true, true, true, true, true, true, true, true, true, true, true, true, true, true, true, true, true, true, true, true, true, false, false, false, true, false, false, false] rfl rfl (any_of HT_.out (by kernel_rfl)) (fun _ _ _ h => h) (Or.inl ⟨by rfl, ?_⟩) ?_ ?_; rotate_left; (intro w'; go_simp; with_reducible rfl); rotate_left; (simp only [Act.put, List.setIfInBounds_toArray, List.set_cons_zero, List.set_cons_succ, i64_w, i32_w]; rfl)
                                                                      refine pure_ (i := 22) (N := some 295) (v := ?_) (a' := ?_) #[true, true, true, true, true, true, true, true, true, true, true, true, true, true, true, true, true, true, true, true, true, true, true, false, false, true, false, false, false] rfl rfl (any_of HT_.out (by kernel_rfl)) (fun _ _ _ h => h) (Or.inl ⟨by rfl, ?_⟩) ?_ ?_; rotate_left; (intro w'; go_simp; with_reducible rfl); rotate_left; (simp only [Act.put, List.setIfInBounds_toArray, List.set_cons_zero, List.set_cons_succ, i64_w, i32_w]; rfl)
                                                                      refine take_ (i := 23) (N := some 296) (v := ?_) (a' := ?_) #[true, true, true, true, true, true, true, true, true, true, true, true, true, true, true, true, true, true, true, true, true, true, true, true, false, true, false, false, false] rfl rfl (take_ofW HT_.out HW_.out (by kernel_rfl)) (fun _ _ _ h => h) (Or.inl ⟨by rfl, ?_⟩) hHeld ?_ ?_
                                                                      rotate_left
                                                                      · rintro w' ⟨s0, s1, s2, s3, s4, s5, s6, s7, s8, s9⟩
                                                                        go_simp
                                                                        with_reducible rfl
                                                                      rotate_left
                                                                      · simp only [Act.put, List.setIfInBounds_toArray, List.set_cons_zero, List.set_cons_succ, i64_w, i32_w]
                                                                        rfl
                                                                      refine pure_ (i := 24) (N := some 297) (v := ?_) (a' := ?_) #[true, true, true, true, true, true, true, true, true, true, true, true, true, true, true, true, true, true, true, true, true, true, true, true, true, true, false, false, false] rfl rfl (any_of HT_.out (by kernel_rfl)) (fun _ _ _ h => h) (Or.inl ⟨by rfl, ?_⟩) ?_ ?_; rotate_left; (intro w'; go_simp; with_reducible rfl); rotate_left; (simp only [Act.put, List.setIfInBounds_toArray, List.set_cons_zero, List.set_cons_succ, i64_w, i32_w]; rfl)
                                                                      refine pure_ (i := 26) (N := some 299) (v := ?_) (a' := ?_) #[true, true, true, true, true, true, true, true, true, true, true, true, true, true, true, true, true, true, true, true, true, true, true, true, true, true, true, false, false] rfl rfl (any_of HT_.out (by kernel_rfl)) (fun _ _ _ h => h) (Or.inl ⟨by rfl, ?_⟩) ?_ ?_; rotate_left; (intro w'; go_simp; with_reducible rfl); rotate_left; (simp only [Act.put, List.setIfInBounds_toArray, List.set_cons_zero, List.set_cons_succ, i64_w, i32_w]; rfl)
                                                                      refine pure_ (i := 27) (N := some 300) (v := ?_) (a' := ?_) #[true, true, true, true, true, true, true, true, true, true, true, true, true, true, true, true, true, true, true, true, true, true, true, true, true, true, true, true, false] rfl rfl (any_of HT_.out (by kernel_rfl)) (fun _ _ _ h => h) (Or.inl ⟨by rfl, ?_⟩) ?_ ?_; rotate_left; (intro w'; go_simp; with_reducible rfl); rotate_left; (simp only [Act.put, List.setIfInBounds_toArray, List.set_cons_zero, List.set_cons_succ, i64_w, i32_w]; rfl)
                                                                      refine pure_ (i := 28) (N := some 301) (v := ?_) (a' := ?_) #[true, true, true, true, true, true, true, true, true, true, true, true, true, true, true, true, true, true, true, true, true, true, true, true, true, true, true, true, true] rfl rfl (any_of HT_.out (by kernel_rfl)) (fun _ _ _ h => h) (Or.inl ⟨by rfl, ?_⟩) ?_ ?_; rotate_left 4
                                                                      rotate_left; iterate 1 (rotate_left; (intro w'; go_simp; with_reducible rfl); rotate_left; (simp only [Act.put, List.setIfInBounds_toArray, List.set_cons_zero, List.set_cons_succ, i64_w, i32_w]; rfl))
                                                                      refine done_ (done_of HT_.out (by kernel_rfl)) ?_
                                                                      try go_wp2
                                                                      (try simp only [← hl21_74])
                                                                      go_roundg kj74
                                                                      case measure => have := HJ11.out; have := HK2.out; have := HK3.out; have := HJ55.out; have := HJ74.out; omega
                                                                      case rel => exact ⟨(y263), (x22_74), (wrap64 (x23_3 + ((rd_T54 t224 ((rd_T81 t228 x158_3).f0)).f1))), (wrap64 (x24_3 + t275)), (wrap64 (x158_3 + 1)), (by first | rfl | (simp; done) | (simp [*]; done)), (by first | rfl | (simp; done) | (simp [*]; done)), (by first | rfl | (simp; done) | (simp [*]; done)), H', ⟨by have := HJ11.out; have := HK2.out; have := HK3.out; have := HJ55.out; have := HJ74.out; omega⟩, ⟨by (try simp only [hl21_74]); (with_reducible repeat (first | apply Kd.R_alloc | apply Kd.R_drewN | apply Kd.R_drew)); exact HO_5.out⟩, ⟨by (try simp only [hl21_74]); (with_reducible repeat (first | apply Kd.R_alloc | apply Kd.R_drewN | apply Kd.R_drew)); exact HO_7.out⟩, ⟨by (try simp only [hl21_74]); (with_reducible repeat (first | apply Kd.R_alloc | apply Kd.R_drewN | apply Kd.R_drew)); exact HO_9.out⟩, ⟨by (try simp only [hl21_74]); (with_reducible repeat (first | apply Kd.R_alloc | apply Kd.R_drewN | apply Kd.R_drew)); exact HO_11.out⟩, ⟨by (try simp only [hl21_74]); (with_reducible repeat (first | apply Kd.R_alloc | apply Kd.R_drewN | apply Kd.R_drew)); exact HO_21.out⟩, ⟨by (try simp only [hl21_74]); (with_reducible repeat (first | apply Kd.R_alloc | apply Kd.R_drewN | apply Kd.R_drew)); exact HO_22.out⟩, ⟨by repeat (first | (with_reducible first | exact HB.out | apply below_alloc | apply pw_below_drewN | apply below_drew1) | exact HB.out)⟩⟩
                                                                 · rw [if_neg c99] at H
                                                                   exact absurd H (by simp)
                                                               · rw [if_neg c98] at H
                                                                 exact absurd H (by simp)
                                                             · replace c97 := Bool.eq_false_iff.mpr c97
                                                               subst c97
                                                               have H1 : (none) = some r := by rw [if_neg (show ¬ (false = true) by decide)] at H; exact H
                                                               clear H
                                                               have H := H1
                                                               clear H1
                                                               exact absurd H (by simp)
                                                           · rw [if_neg c95] at H
                                                             exact absurd H (by simp)
                                                         · rw [if_neg c94] at H
                                                           exact absurd H (by simp)
                                                       · rw [if_neg c93] at H
                                                         exact absurd H (by simp)
                                                     · rw [if_neg c92] at H
                                                       exact absurd H (by simp)
                                                   · rw [if_neg c90] at H
                                                     have c90b0 : decide (0 < x158_3) = false := decide_eq_false c90
                                                     clear c90
                                                     as_aux_lemma =>
                                                      have H' := Aside0.mk H
                                                      clear H
                                                      have p271 : 0 ≤ (((rd_T81 t228 x158_3).f0) : Int) := of_decide_eq_true (by first | (with_reducible assumption) | assumption)
                                                      have q271 : ((rd_T81 t228 x158_3).f0) < (t224.length : Int) := of_decide_eq_true (by first | (with_reducible assumption) | assumption)
                                                      obtain ⟨ad271, e271, hx271_0, hx271_1, hx271_2, hx271_3⟩ := at_T54 (Kd.R_reads' HO_5.out).2.2 ((rd_T81 t228 x158_3).f0) p271 q271
                                                      obtain rfl : ad265 = ad271 := (by injection e271)
                                                      replace p271 := eq_true p271
                                                      replace q271 := eq_true q271
                                                      go_wp2
                                                      (try simp only [← hl21_74])
                                                      go_roundg kj74
                                                      case measure => have := HJ11.out; have := HK2.out; have := HK3.out; have := HJ55.out; have := HJ74.out; omega
                                                      case rel => exact ⟨(y263), (x22_74), (wrap64 (x23_3 + ((rd_T54 t224 ((rd_T81 t228 x158_3).f0)).f1))), (x24_3), (wrap64 (x158_3 + 1)), (by first | rfl | (simp; done) | (simp [*]; done)), (by first | rfl | (simp; done) | (simp [*]; done)), (by first | rfl | (simp; done) | (simp [*]; done)), H', ⟨by have := HJ11.out; have := HK2.out; have := HK3.out; have := HJ55.out; have := HJ74.out; omega⟩, ⟨by (try simp only [hl21_74]); (with_reducible repeat (first | apply Kd.R_alloc | apply Kd.R_drewN | apply Kd.R_drew)); exact HO_5.out⟩, ⟨by (try simp only [hl21_74]); (with_reducible repeat (first | apply Kd.R_alloc | apply Kd.R_drewN | apply Kd.R_drew)); exact HO_7.out⟩, ⟨by (try simp only [hl21_74]); (with_reducible repeat (first | apply Kd.R_alloc | apply Kd.R_drewN | apply Kd.R_drew)); exact HO_9.out⟩, ⟨by (try simp only [hl21_74]); (with_reducible repeat (first | apply Kd.R_alloc | apply Kd.R_drewN | apply Kd.R_drew)); exact HO_11.out⟩, ⟨by (try simp only [hl21_74]); (with_reducible repeat (first | apply Kd.R_alloc | apply Kd.R_drewN | apply Kd.R_drew)); exact HO_21.out⟩, ⟨by (try simp only [hl21_74]); (with_reducible repeat (first | apply Kd.R_alloc | apply Kd.R_drewN | apply Kd.R_drew)); exact HO_22.out⟩, ⟨by repeat (first | (with_reducible first | exact HB.out | apply below_alloc | apply pw_below_drewN | apply below_drew1) | exact HB.out)⟩⟩
                                                 · rw [if_neg c89] at H
                                                   exact absurd H (by simp)
                                               · rw [if_neg c88] at H
                                                 exact absurd H (by simp)
                                           · rw [if_neg c74] at H
                                             exact absurd H (by simp)
                                         · rw [if_neg c72] at H
                                           exact absurd H (by simp)
                                       · rw [if_neg c71] at H
                                         exact absurd H (by simp)
                                     · rw [if_neg c70] at H
                                       exact absurd H (by simp)
                                   · rw [if_neg c69] at H
                                     exact absurd H (by simp)
                                 · rw [if_neg c67] at H
                                   exact absurd H (by simp)
                               · rw [if_neg c66] at H
                                 exact absurd H (by simp)
                         · rw [if_neg c55] at H
                           exact absurd H (by simp)
                       · rw [if_neg c54] at H
                         exact absurd H (by simp)
                     · rw [if_neg c53] at H
                       have c53b0 : decide (x158_3 < (t228.length : Int)) = false := decide_eq_false c53
                       clear c53
                       have H' := Aside0.mk H
                       clear H
                       go_wp2
                       go_loopg [308] k3 (fun kq v308 w' => ∃ (x308_4 : Int), v308 = .int .i64 x308_4 ∧ Aside0 (laws_FnPlans.l2 kq t224 t227 t236 t240 t241 x22_3 x23_3 x24_3 (t224.length : Int) x308_4 = some r) ∧ Aside0 (kq ≤ k3) ∧ Aside0 (Kd.R k54 54 w' w.heap.size (fun _ => True) (.slice Ao14 t224.length co14) t224) ∧ Aside0 (Kd.R (Kd.int .i64) 2 w' w.heap.size (fun k_ => some k_ ≠ (v255 : Value).ownBlock) v238 t236) ∧ Aside0 (Kd.R (Kd.int .i64) 2 w' w.heap.size (fun k_ => some k_ ≠ (v238 : Value).ownBlock) v255 x22_3) ∧ Aside0 (Below w.heap.size w w'))
                       case atStart => exact ⟨(0), (by first | rfl | (simp; done) | (simp [*]; done)), H', ⟨Nat.le_refl _⟩, ⟨by (with_reducible repeat (first | apply Kd.R_alloc | apply Kd.R_drewN | apply Kd.R_drew)); exact HO_5.out⟩, ⟨by (with_reducible repeat (first | apply Kd.R_alloc | apply Kd.R_drewN | apply Kd.R_drew)); exact Kd.R_mono HO_11.out (fun _ hk => hk.2.2)⟩, ⟨by (with_reducible repeat (first | apply Kd.R_alloc | apply Kd.R_drewN | apply Kd.R_drew)); exact Kd.R_mono HO_22.out (fun _ hk => hk.2.1)⟩, ⟨by repeat (first | (with_reducible first | exact HB.out | apply below_alloc | apply pw_below_drewN | apply below_drew1) | exact HB.out)⟩⟩
                       case round =>
                        clear H'
                        (try clear c1); (try clear p2); (try clear q2); (try clear hx2); (try clear c5); (try clear c6); (try clear p6); (try clear c7); (try clear c8); (try clear c9); (try clear c15); (try clear p27); (try clear q27); (try clear hx27); (try clear p28); (try clear q28); (try clear hx28); (try clear c53); (try clear c53b0); (try clear c54); (try clear c55); (try clear p64); (try clear c66); (try clear c67); (try clear c69); (try clear c70); (try clear c71); (try clear c72); (try clear c74); (try clear c88); (try clear c89); (try clear c90); (try clear c90b0); (try clear c92); (try clear c93); (try clear c94); (try clear c95); (try clear c97); (try clear c98); (try clear c99); (try clear hx271_0); (try clear hx271_1); (try clear hx271_2); (try clear hx271_3); (try clear hx272_0); (try clear hx272_1); (try clear hx273_0); (try clear hx273_1); (try clear hx273_2); (try clear hx273_3); (try clear hx274_0); (try clear hx274_1); (try clear hx274_2); (try clear hx274_3); (try clear hx277_0); (try clear hx277_1); (try clear hx278_0); (try clear hx278_1); (try clear hx279_0); (try clear hx279_1); (try clear hx280_0); (try clear hx280_1); (try clear hx280_2); (try clear hx280_3); (try clear p271); (try clear p272); (try clear p273); (try clear p274); (try clear p277); (try clear p278); (try clear p279); (try clear p280); (try clear q271); (try clear q272); (try clear q273); (try clear q274); (try clear q277); (try clear q278); (try clear q279); (try clear q280)
                        obtain ⟨x308_4, rfl, HA, HK4, HO_5, HO_11, HO_22, HB⟩ := hrel
                        cases gk with
                        | zero => exact absurd HA.out (by simp [laws_FnPlans.l2])
                        | succ k4 =>
                         have H := HA.out
                         clear HA
                         simp only [laws_FnPlans.l2] at H
                         by_cases c104 : x308_4 < (t224.length : Int)
                         · rw [if_pos c104] at H
                           have c104b0 : decide (x308_4 < (t224.length : Int)) = true := decide_eq_true c104
                           clear c104
                           by_cases c105 : 0 ≤ x308_4
                           · rw [if_pos c105] at H
                             have c105b0 : decide (0 ≤ x308_4) = true := decide_eq_true c105
                             clear c105
                             by_cases c106 : x308_4 < (t236.length : Int)
                             · rw [if_pos c106] at H
                               have c106b0 : decide (x308_4 < (t236.length : Int)) = true := decide_eq_true c106
                               clear c106
                               by_cases c107 : x308_4 < (t224.length : Int)
                               · rw [if_pos c107] at H
                                 have c107b0 : decide (x308_4 < (t224.length : Int)) = true := decide_eq_true c107
                                 clear c107
                                 by_cases c108 : ((rd_T54 t224 x308_4).f2) = 0
                                 · rw [if_pos c108] at H
                                   exact absurd H (by simp)
                                 · rw [if_neg c108] at H
                                   have c108b0 : (((rd_T54 t224 x308_4).f2) == 0) = false := beq_eq_false_iff_ne.mpr c108
                                   have c108b1 : (((rd_T54 t224 x308_4).f2) != 0) = true := bne_iff_ne.mpr c108
                                   by_cases c109 : x308_4 < (x22_3.length : Int)
                                   · rw [if_pos c109] at H
                                     have c109b0 : decide (x308_4 < (x22_3.length : Int)) = true := decide_eq_true c109
                                     clear c109
                                     obtain ⟨ji110, hji110⟩ : ∃ j_ : Int, (mx 0 (wrap64 ((wrap64 (Int.tdiv t227 ((rd_T54 t224 x308_4).f2))) - (rd x22_3 x308_4)))) = j_ := ⟨_, rfl⟩
                                     replace H : (if (rd t236 x308_4) = (ji110) then (laws_FnPlans.l2 k4 t224 t227 t236 t240 t241 x22_3 x23_3 x24_3 (t224.length : Int) (wrap64 (x308_4 + 1))) else (none)) = some r := by first | (rw [hji110] at H; exact H) | (simp only [hji110] at H ⊢; exact H)
                                     have hji110_ : (if 0 < (wrap64 ((wrap64 (Int.tdiv t227 ((rd_T54 t224 x308_4).f2))) - (rd x22_3 x308_4))) then (wrap64 ((wrap64 (Int.tdiv t227 ((rd_T54 t224 x308_4).f2))) - (rd x22_3 x308_4))) else 0) = ji110 := hji110
                                     by_cases c111 : (rd t236 x308_4) = (ji110)
                                     · rw [if_pos c111] at H
                                       have c111b0 : ((rd t236 x308_4) == (ji110)) = true := beq_iff_eq.mpr c111
                                       have c111b1 : ((rd t236 x308_4) != (ji110)) = false := bne_eq_false_iff_eq.mpr c111
                                       clear c111
                                       as_aux_lemma =>
                                        have H' := Aside0.mk H
                                        clear H
                                        try go_wp2
                                        have n0_ := Aside0.mk (Kd.R_drew HO_5.out)
                                        have n1_ := Aside0.mk (Kd.R_drew HO_11.out)
                                        have n2_ := Aside0.mk (Kd.R_drew HO_22.out)
                                        have n3_ := Aside0.mk (below_drew1 HB.out)
                                        clear HO_5
                                        clear HO_11
                                        clear HO_22
                                        clear HB
                                        have HO_5 := n0_
                                        have HO_11 := n1_
                                        have HO_22 := n2_
                                        have HB := n3_
                                        clear n0_ n1_ n2_ n3_
                                        obtain ⟨Ao113, co113, eo113⟩ := Kd.R_slice HO_11.out
                                        (first | subst eo113 | (injection eo113 with f1_ f2_ f3_; have f4_ := f1_.symm; have f5_ := f3_.symm; clear f1_ f2_ f3_; subst f4_; subst f5_))
                                        have p281 : 0 ≤ (x308_4 : Int) := of_decide_eq_true (by first | (with_reducible assumption) | assumption)
                                        have q281 : x308_4 < (t236.length : Int) := of_decide_eq_true (by first | (with_reducible assumption) | assumption)
                                        obtain ⟨ad281, e281, hx281_0⟩ := Kd.at_int (Kd.R_reads' HO_11.out).2.2 x308_4 p281 q281
                                        cases e281
                                        replace p281 := eq_true p281
                                        replace q281 := eq_true q281
                                        have p282 : 0 ≤ (x308_4 : Int) := of_decide_eq_true (by first | (with_reducible assumption) | assumption)
                                        have q282 : x308_4 < (t224.length : Int) := of_decide_eq_true (by first | (with_reducible assumption) | assumption)
                                        obtain ⟨ad282, e282, hx282_0, hx282_1, hx282_2, hx282_3⟩ := at_T54 (Kd.R_reads' HO_5.out).2.2 x308_4 p282 q282
                                        cases e282
                                        replace p282 := eq_true p282
                                        replace q282 := eq_true q282
                                        obtain ⟨Ao114, co114, eo114⟩ := Kd.R_slice HO_22.out
                                        (first | subst eo114 | (injection eo114 with f1_ f2_ f3_; have f4_ := f1_.symm; have f5_ := f3_.symm; clear f1_ f2_ f3_; subst f4_; subst f5_))
                                        have p283 : 0 ≤ (x308_4 : Int) := of_decide_eq_true (by first | (with_reducible assumption) | assumption)
                                        have q283 : x308_4 < (x22_3.length : Int) := of_decide_eq_true (by first | (with_reducible assumption) | assumption)
                                        obtain ⟨ad283, e283, hx283_0⟩ := Kd.at_int (Kd.R_reads' HO_22.out).2.2 x308_4 p283 q283
                                        cases e283
                                        replace p283 := eq_true p283
                                        replace q283 := eq_true q283
                                        refine start_ (n := 18) (S := fun w' => w'.cell? (ad281.add (x308_4).toNat) = some (.int .i64 (rd t236 x308_4)) ∧ w'.cell? (ad282.add ((x308_4).toNat * 4)) = some (.int .i64 ((rd_T54 t224 x308_4).f0.f0)) ∧ w'.cell? ⟨(ad282.add ((x308_4).toNat * 4)).block, (ad282.add ((x308_4).toNat * 4)).off + 1, none⟩ = some (.int .i64 ((rd_T54 t224 x308_4).f0.f1)) ∧ w'.cell? ⟨(ad282.add ((x308_4).toNat * 4)).block, (ad282.add ((x308_4).toNat * 4)).off + 2, none⟩ = some (.int .i64 ((rd_T54 t224 x308_4).f1)) ∧ w'.cell? ⟨(ad282.add ((x308_4).toNat * 4)).block, (ad282.add ((x308_4).toNat * 4)).off + 3, none⟩ = some (.int .i64 ((rd_T54 t224 x308_4).f2)) ∧ w'.cell? (ad283.add (x308_4).toNat) = some (.int .i64 (rd x22_3 x308_4))) (ds := []) #[false, false, false, false, false, false, false, false, false, false, false, false, false, false, false, false, false, false] (by kernel_rfl) rfl rfl ⟨hx281_0, hx282_0, hx282_1, hx282_2, hx282_3, hx283_0⟩ (fun hHeld => ?_); refine with_tabW laws_FnPlans.tab46 laws_FnPlans.bits46 (fun HT_ HW_ => ?_)
                                        generalize wr.drew = w112 at HO_5 HO_11 HO_22 HB hx281_0 hx282_0 hx282_1 hx282_2 hx282_3 hx283_0 hHeld ⊢
                                        refine pure_ (i := 0) (N := some 311) (v := ?_) (a' := ?_) #[true, false, false, false, false, false, false, false, false, false, false, false, false, false, false, false, false, false] rfl rfl (any_of HT_.out (by kernel_rfl)) (fun _ _ _ h => h) (Or.inl ⟨by rfl, ?_⟩) ?_ ?_; rotate_left 4
                                        refine pure_ (i := 1) (N := some 312) (v := ?_) (a' := ?_) #[true, true, false, false, false, false, false, false, false, false, false, false, false, false, false, false, false, false] rfl rfl (any_of HT_.out (by kernel_rfl)) (fun _ _ _ h => h) (Or.inl ⟨by rfl, ?_⟩) ?_ ?_; rotate_left 4
                                        refine pure_ (i := 2) (N := some 313) (v := ?_) (a' := ?_) #[true, true, true, false, false, false, false, false, false, false, false, false, false, false, false, false, false, false] rfl rfl (any_of HT_.out (by kernel_rfl)) (fun _ _ _ h => h) (Or.inl ⟨by rfl, ?_⟩) ?_ ?_; rotate_left 4
                                        refine pure_ (i := 4) (N := some 315) (v := ?_) (a' := ?_) #[true, true, true, false, true, false, false, false, false, false, false, false, false, false, false, false, false, false] rfl rfl (any_of HT_.out (by kernel_rfl)) (fun _ _ _ h => h) (Or.inl ⟨by rfl, ?_⟩) ?_ ?_; rotate_left 4
                                        refine pure_ (i := 5) (N := some 316) (v := ?_) (a' := ?_) #[true, true, true, false, true, true, false, false, false, false, false, false, false, false, false, false, false, false] rfl rfl (any_of HT_.out (by kernel_rfl)) (fun _ _ _ h => h) (Or.inl ⟨by rfl, ?_⟩) ?_ ?_; rotate_left 4
                                        refine pure_ (i := 6) (N := some 317) (v := ?_) (a' := ?_) #[true, true, true, false, true, true, true, false, false, false, false, false, false, false, false, false, false, false] rfl rfl (any_of HT_.out (by kernel_rfl)) (fun _ _ _ h => h) (Or.inl ⟨by rfl, ?_⟩) ?_ ?_; rotate_left 4
                                        refine pure_ (i := 7) (N := some 318) (v := ?_) (a' := ?_) #[true, true, true, false, true, true, true, true, false, false, false, false, false, false, false, false, false, false] rfl rfl (any_of HT_.out (by kernel_rfl)) (fun _ _ _ h => h) (Or.inl ⟨by rfl, ?_⟩) ?_ ?_; rotate_left 4
                                        refine pure_ (i := 8) (N := some 319) (v := ?_) (a' := ?_) #[true, true, true, false, true, true, true, true, true, false, false, false, false, false, false, false, false, false] rfl rfl (any_of HT_.out (by kernel_rfl)) (fun _ _ _ h => h) (Or.inl ⟨by rfl, ?_⟩) ?_ ?_; rotate_left 4
                                        refine pure_ (i := 11) (N := some 322) (v := ?_) (a' := ?_) #[true, true, true, false, true, true, true, true, true, false, false, true, false, false, false, false, false, false] rfl rfl (any_of HT_.out (by kernel_rfl)) (fun _ _ _ h => h) (Or.inl ⟨by rfl, ?_⟩) ?_ ?_; rotate_left 4
                                        refine pure_ (i := 12) (N := some 323) (v := ?_) (a' := ?_) #[true, true, true, false, true, true, true, true, true, false, false, true, true, false, false, false, false, false] rfl rfl (any_of HT_.out (by kernel_rfl)) (fun _ _ _ h => h) (Or.inl ⟨by rfl, ?_⟩) ?_ ?_; rotate_left 4
                                        refine pure_ (i := 13) (N := some 324) (v := ?_) (a' := ?_) #[true, true, true, false, true, true, true, true, true, false, false, true, true, true, false, false, false, false] rfl rfl (any_of HT_.out (by kernel_rfl)) (fun _ _ _ h => h) (Or.inl ⟨by rfl, ?_⟩) ?_ ?_; rotate_left 4
                                        rotate_left; iterate 11 (rotate_left; (intro w'; go_simp; with_reducible rfl); rotate_left; (simp only [Act.put, List.setIfInBounds_toArray, List.set_cons_zero, List.set_cons_succ, i64_w, i32_w]; rfl))
                                        refine take_ (i := 3) (N := some 314) (v := ?_) (a' := ?_) #[true, true, true, true, true, true, true, true, true, false, false, true, true, true, false, false, false, false] rfl rfl (take_ofW HT_.out HW_.out (by kernel_rfl)) (fun _ _ _ h => h) (Or.inl ⟨by rfl, ?_⟩) hHeld ?_ ?_
                                        rotate_left
                                        · rintro w' ⟨s0, s1, s2, s3, s4, s5⟩
                                          go_simp
                                          with_reducible rfl
                                        rotate_left
                                        · simp only [Act.put, List.setIfInBounds_toArray, List.set_cons_zero, List.set_cons_succ, i64_w, i32_w]
                                          rfl
                                        refine take_ (i := 9) (N := some 320) (v := ?_) (a' := ?_) #[true, true, true, true, true, true, true, true, true, true, false, true, true, true, false, false, false, false] rfl rfl (take_ofW HT_.out HW_.out (by kernel_rfl)) (fun _ _ _ h => h) (Or.inl ⟨by rfl, ?_⟩) hHeld ?_ ?_
                                        rotate_left
                                        · rintro w' ⟨s0, s1, s2, s3, s4, s5⟩
                                          go_simp
                                          with_reducible rfl
                                        rotate_left
                                        · simp only [Act.put, List.setIfInBounds_toArray, List.set_cons_zero, List.set_cons_succ, i64_w, i32_w]
                                          rfl
                                        refine pure_ (i := 10) (N := some 321) (v := ?_) (a' := ?_) #[true, true, true, true, true, true, true, true, true, true, true, true, true, true, false, false, false, false] rfl rfl (any_of HT_.out (by kernel_rfl)) (fun _ _ _ h => h) (Or.inl ⟨by rfl, ?_⟩) ?_ ?_; rotate_left 4
                                        rotate_left; iterate 1 (rotate_left; (intro w'; go_simp; with_reducible rfl); rotate_left; (simp only [Act.put, List.setIfInBounds_toArray, List.set_cons_zero, List.set_cons_succ, i64_w, i32_w]; rfl))
                                        refine take_ (i := 14) (N := some 325) (v := ?_) (a' := ?_) #[true, true, true, true, true, true, true, true, true, true, true, true, true, true, true, false, false, false] rfl rfl (take_ofW HT_.out HW_.out (by kernel_rfl)) (fun _ _ _ h => h) (Or.inl ⟨by rfl, ?_⟩) hHeld ?_ ?_
                                        rotate_left
                                        · rintro w' ⟨s0, s1, s2, s3, s4, s5⟩
                                          go_simp
                                          with_reducible rfl
                                        rotate_left
                                        · simp only [Act.put, List.setIfInBounds_toArray, List.set_cons_zero, List.set_cons_succ, i64_w, i32_w]
                                          rfl
                                        refine pure_ (i := 15) (N := some 326) (v := ?_) (a' := ?_) #[true, true, true, true, true, true, true, true, true, true, true, true, true, true, true, true, false, false] rfl rfl (any_of HT_.out (by kernel_rfl)) (fun _ _ _ h => h) (Or.inl ⟨by rfl, ?_⟩) ?_ ?_; rotate_left 4
                                        refine pure_ (i := 16) (N := some 327) (v := ?_) (a' := ?_) #[true, true, true, true, true, true, true, true, true, true, true, true, true, true, true, true, true, false] rfl rfl (any_of HT_.out (by kernel_rfl)) (fun _ _ _ h => h) (Or.inl ⟨by rfl, ?_⟩) ?_ ?_; rotate_left 4
                                        refine pure_ (i := 17) (N := some 328) (v := ?_) (a' := ?_) #[true, true, true, true, true, true, true, true, true, true, true, true, true, true, true, true, true, true] rfl rfl (any_of HT_.out (by kernel_rfl)) (fun _ _ _ h => h) (Or.inl ⟨by rfl, ?_⟩) ?_ ?_; rotate_left 4
                                        rotate_left; iterate 3 (rotate_left; (intro w'; go_simp; with_reducible rfl); rotate_left; (simp only [Act.put, List.setIfInBounds_toArray, List.set_cons_zero, List.set_cons_succ, i64_w, i32_w]; rfl))
                                        refine done_ (done_of HT_.out (by kernel_rfl)) ?_
                                        try go_wp2
                                        go_roundg k4
                                        case measure => have := HJ11.out; have := HK2.out; have := HK3.out; have := HK4.out; omega
                                        case rel => exact ⟨(wrap64 (x308_4 + 1)), (by first | rfl | (simp; done) | (simp [*]; done)), H', ⟨by have := HJ11.out; have := HK2.out; have := HK3.out; have := HK4.out; omega⟩, ⟨by (with_reducible repeat (first | apply Kd.R_alloc | apply Kd.R_drewN | apply Kd.R_drew)); exact HO_5.out⟩, ⟨by (with_reducible repeat (first | apply Kd.R_alloc | apply Kd.R_drewN | apply Kd.R_drew)); exact HO_11.out⟩, ⟨by (with_reducible repeat (first | apply Kd.R_alloc | apply Kd.R_drewN | apply Kd.R_drew)); exact HO_22.out⟩, ⟨by repeat (first | (with_reducible first | exact HB.out | apply below_alloc | apply pw_below_drewN | apply below_drew1) | exact HB.out)⟩⟩
                                     · rw [if_neg c111] at H
                                       exact absurd H (by simp)
                                   · rw [if_neg c109] at H
                                     exact absurd H (by simp)
                               · rw [if_neg c107] at H
                                 exact absurd H (by simp)
                             · rw [if_neg c106] at H
                               exact absurd H (by simp)
                           · rw [if_neg c105] at H
                             exact absurd H (by simp)
                         · rw [if_neg c104] at H
                           have c104b0 : decide (x308_4 < (t224.length : Int)) = false := decide_eq_false c104
                           clear c104
                           by_cases c115 : x23_3 = t240
                           · rw [if_pos c115] at H
                             have c115b0 : (x23_3 == t240) = true := beq_iff_eq.mpr c115
                             have c115b1 : (x23_3 != t240) = false := bne_eq_false_iff_eq.mpr c115
                             clear c115
                             as_aux_lemma =>
                              obtain rfl := Option.some.inj H
                              go_wp2
                              go_ret
                              exact ⟨by first | rfl | (simp [errW_none, errW_some] <;> rfl) | (simp [*, errW_none, errW_some] <;> rfl), by repeat (first | (with_reducible first | exact HB.out | apply below_alloc | apply pw_below_drewN | apply below_drew1) | exact HB.out)⟩
                           · rw [if_neg c115] at H
                             exact absurd H (by simp)
                 · rw [if_neg c48] at H
                   exact absurd H (by simp)
               · rw [if_neg c47] at H
                 exact absurd H (by simp)
           · rw [if_neg c44] at H
             exact absurd H (by simp)

/-- THE ONE PURE STATEMENT of laws_FnPlans: yours. -/
def laws_FnPlans.Pure : Prop := ∀ (l0 : List Int) (l1 : List Int), l0.length ≤ maxLen → l0.length * 1 ≤ 140737488351232 → (∀ x ∈ l0, (Lit.int .u8 x).wf = true) → l1.length ≤ maxLen → l1.length * 1 ≤ 140737488351232 → (∀ x ∈ l1, (Lit.int .u8 x).wf = true) → ∃ k, laws_FnPlans.f k l0 l1 = some true
theorem laws_FnPlans.walk (P : laws_FnPlans.Pure) (a0 : Option Addr) (len0 cap0 : Nat) (z0 : List Int) (a1 : Option Addr) (len1 cap1 : Nat) (z1 : List Int) (w : World) (w0 : (a0 = none ∧ len0 = 0 ∧ cap0 = 0 ∧ z0 = []) ∨ ∃ x, a0 = some x ∧ len0 ≤ cap0 ∧ cap0 ≤ maxLen ∧ z0.length = cap0 ∧ (∀ i, i < z0.length → w.cell? (x.add i) = some (.int .u8 (z0.getD i 0))) ∧ ∀ n ∈ z0, (Lit.int .u8 n).wf = true) (y0 : len0 * 1 ≤ 140737488351232) (w1 : (a1 = none ∧ len1 = 0 ∧ cap1 = 0 ∧ z1 = []) ∨ ∃ x, a1 = some x ∧ len1 ≤ cap1 ∧ cap1 ≤ maxLen ∧ z1.length = cap1 ∧ (∀ i, i < z1.length → w.cell? (x.add i) = some (.int .u8 (z1.getD i 0))) ∧ ∀ n ∈ z1, (Lit.int .u8 n).wf = true) (y1 : len1 * 1 ≤ 140737488351232) :
 Calls Try.prog 12 #[.slice a0 len0 cap0, .slice a1 len1 cap1] w fun e w' => e = .returned (.bool true) ∧ Below w.heap.size w w' := by
 obtain ⟨l0, rfl, hr0, hm0, hw0, hc0⟩ := ReadsInt.ofRowC w0
 obtain ⟨l1, rfl, hr1, hm1, hw1, hc1⟩ := ReadsInt.ofRowC w1
 obtain ⟨k, h⟩ := P l0 l1 hm0 y0 hw0 hm1 y1 hw1
 refine (laws_FnPlans.calls k _ _ l0 _ _ l1 true w (Kd.C_of_reads (d := (0 : Int)) (h1 := fun _ => rfl) hr0) hc0 (Kd.C_of_reads (d := (0 : Int)) (h1 := fun _ => rfl) hr1) hc1 h).mono ?_
 rintro e w' ⟨rfl, hd⟩
 exact ⟨rfl, hd⟩

end Go.Proofs.Ytekcngoemeadlaa.Z
