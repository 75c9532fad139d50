/-
  Contracts of the program's functions, each a plain Lean function beside the machine's call: written by this session's program over the kit's print.
-/
import Derived.Test.YtnfcbacdggkfeaaBx0
import Derived.Test.YtnfcbacdggkfeaaBx1
import Derived.Test.YtnfcbacdggkfeaaBx2
namespace Go.Proofs.Ytnfcbacdggkfeaa.B
open Go.RowKit Go.Proofs.YtnfcbacdggkfeaaW.PrintWords Go.Proofs.YtnfcbacdggkfeaaW.PrintLast Go.Proofs.YtnfcbacdggkfeaaW.PrintMore
attribute [local go_sem] max2_int min2_int max_two min_two max_three min_three max_four min_four   -- for this text's walks alone
set_option linter.unusedVariables false
set_option linter.unusedSimpArgs false

/-! ### impl_stepped: function 38 -/
def impl_stepped.l0 : Nat → List C64 → C64 → C64 → List C64 → Int → Int → List C64 → Nat → Nat → List C64 → Nat → Nat → Option (List C64 × Nat × Nat × C64)
 | 0, _, _, _, _, _, _, _, _, _, _, _, _ => none
 | k + 1, x1, x8, x11, x41, x42, x43, x164000, x164001, x164002, x172000, x172001, x172002 => if x43 < x42 then (if 0 ≤ x43 then (if x43 < (x41.length : Int) then (if x43 < (x1.length : Int) then ((impl_MulComplex.f (rdOf c64z x1 x43) x11).bind fun t174 => ((impl_add.f (rdOf c64z x41 x43) t174).bind fun t175 => (if x172000.length < 17592186044416 then (impl_stepped.l0 k x1 x8 x11 x41 x42 (wrap64 (x43 + 1)) x164000 x164001 x164002 (x172000 ++ [t175]) x172001 x172002) else (none)))) else (none)) else (none)) else (none)) else ((impl_PowersOf.f k x172000).bind fun bt179 => (if (FloatKind.f32.format.order bt179.1 x164002 == some .gt) = true then (if FOk .quo .f32 x164002 bt179.1 = true then ((impl_RootNumber.f (fq .quo .f32 x164002 bt179.1)).bind fun t181 => ((impl_scaled.f k x172000 t181).bind fun t182 => (some (t182, x172001, x172002, x8)))) else (none)) else (some (x172000, x172001, x172002, x8))))
def impl_stepped.f (k : Nat) (l0_0 : List C64) (a0_1 : Nat) (a0_2 : Nat) (l1 : List C64) (a2 : C64) : Option (List C64 × Nat × Nat × C64) := (impl_outputOf.f k l0_0 a0_1 a0_2 l1).bind fun t165 => ((impl_less.f a2 t165).bind fun t166 => ((impl_PowersOf.f k l1).bind fun bt167 => ((impl_ConjugateOf.f t166).bind fun t169 => (if FOk .add .f32 1065353216 bt167.1 = true then (if FOk .quo .f32 a0_1 (fq .add .f32 1065353216 bt167.1) = true then ((impl_ScaleComplex.f t169 (fq .quo .f32 a0_1 (fq .add .f32 1065353216 bt167.1))).bind fun t170 => (impl_stepped.l0 k l1 t166 t170 l0_0 (l0_0.length : Int) 0 l0_0 a0_1 a0_2 ([] : List C64) a0_1 a0_2)) else (none)) else (none)))))
theorem impl_stepped.mono_l : ∀ k, (∀ y0 y1 y2 y3 y4 y5 y6 y7 y8 y9 y10 y11, LeO (impl_stepped.l0 k y0 y1 y2 y3 y4 y5 y6 y7 y8 y9 y10 y11) (impl_stepped.l0 (k + 1) y0 y1 y2 y3 y4 y5 y6 y7 y8 y9 y10 y11))
 | 0 => fun _ _ _ _ _ _ _ _ _ _ _ _ r h => by simp [impl_stepped.l0] at h
 | k + 1 => by
  have ih0 := impl_stepped.mono_l k
  · intro y0 y1 y2 y3 y4 y5 y6 y7 y8 y9 y10 y11
    unfold impl_stepped.l0
    repeat' first
    | (with_reducible exact ih0 _ _ _ _ _ _ _ _ _ _ _ _)
    | (with_reducible exact impl_PowersOf.mono _ _)
    | (with_reducible exact impl_outputOf.mono _ _ _ _ _)
    | (with_reducible exact impl_scaled.mono _ _ _)
    | (with_reducible exact LeO.refl _)
    | (with_reducible exact LeO.none _)
    | (with_reducible refine LeO.ite ?_ ?_)
    | (with_reducible refine LeO.bind ?_ (fun _ => ?_))
    | exact ih0 _ _ _ _ _ _ _ _ _ _ _ _
    | exact impl_PowersOf.mono _ _
    | exact impl_outputOf.mono _ _ _ _ _
    | exact impl_scaled.mono _ _ _
    | exact LeO.none _
    | refine LeO.ite ?_ ?_
    | refine LeO.bind ?_ (fun _ => ?_)
theorem impl_stepped.mono : ∀ a0 a1 a2 a3 a4 k, LeO (impl_stepped.f k a0 a1 a2 a3 a4) (impl_stepped.f (k + 1) a0 a1 a2 a3 a4) := by
 intro a0 a1 a2 a3 a4 k
 have ih0 := impl_stepped.mono_l k
 unfold impl_stepped.f
 repeat' first
  | (with_reducible exact ih0 _ _ _ _ _ _ _ _ _ _ _ _)
  | (with_reducible exact impl_PowersOf.mono _ _)
  | (with_reducible exact impl_outputOf.mono _ _ _ _ _)
  | (with_reducible exact impl_scaled.mono _ _ _)
  | (with_reducible exact LeO.refl _)
  | (with_reducible exact LeO.none _)
  | (with_reducible refine LeO.ite ?_ ?_)
  | (with_reducible refine LeO.bind ?_ (fun _ => ?_))
  | exact ih0 _ _ _ _ _ _ _ _ _ _ _ _
  | exact impl_PowersOf.mono _ _
  | exact impl_outputOf.mono _ _ _ _ _
  | exact impl_scaled.mono _ _ _
  | exact LeO.none _
  | refine LeO.ite ?_ ?_
  | refine LeO.bind ?_ (fun _ => ?_)
def impl_stepped.T3 : Bool × List (List Nat × List Nat) := (true, [([], []), ([0], [0]), ([], []), ([2], [2]), ([], []), ([4], [4]), ([3, 5], [3, 5]), ([1, 6, 1], [1, 6]), ([7, 7, 0, 1, 2, 3, 4, 5, 6, 7], [7])])
def impl_stepped.B3 : List Nat := [0, 1, 0, 4, 0, 16, 60, 127, 255]
theorem impl_stepped.tab3 : rtab .any (opsOf Try.f38 3) = impl_stepped.T3 := by kernel_rfl
theorem impl_stepped.bits3 : waitsOk impl_stepped.T3.2 impl_stepped.B3 = true := by kernel_rfl
def impl_stepped.T8 : Bool × List (List Nat × List Nat) := (true, [([], []), ([0], [0]), ([], []), ([], []), ([], []), ([3, 4], [3, 4]), ([5], [5]), ([], []), ([6, 7], [6, 7]), ([2, 8, 8], [2, 8]), ([9], [9]), ([1, 10, 9], [1, 10]), ([0, 1, 2, 3, 4, 5, 6, 7, 8, 9, 10, 11], []), ([12, 11, 11, 0, 1, 2, 3, 4, 5, 6, 7, 8, 9, 10, 11], [11, 12])])
def impl_stepped.B8 : List Nat := [0, 1, 0, 0, 0, 24, 56, 0, 248, 508, 1020, 2047, 4095, 8191]
theorem impl_stepped.tab8 : rtab .any (opsOf Try.f38 8) = impl_stepped.T8 := by kernel_rfl
theorem impl_stepped.bits8 : waitsOk impl_stepped.T8.2 impl_stepped.B8 = true := by kernel_rfl
def impl_stepped.T12 : Bool × List (List Nat × List Nat) := (true, [([], []), ([0], [0]), ([], []), ([2], [2]), ([], []), ([3, 4], [3, 4]), ([5], [5]), ([1, 6, 6], [1, 6]), ([0, 1, 2, 3, 4, 5, 6, 7], []), ([8, 7, 7, 0, 1, 2, 3, 4, 5, 6, 7], [7, 8])])
def impl_stepped.B12 : List Nat := [0, 1, 0, 4, 0, 28, 60, 127, 255, 511]
theorem impl_stepped.tab12 : rtab .any (opsOf Try.f38 12) = impl_stepped.T12 := by kernel_rfl
theorem impl_stepped.bits12 : waitsOk impl_stepped.T12.2 impl_stepped.B12 = true := by kernel_rfl
set_option maxHeartbeats 8000000 in
set_option maxRecDepth 100000 in
theorem impl_stepped.calls (k : Nat) (A0_0 : Option Addr) (c0_0 : Nat) (l0_0 : List C64) (a0_1 : Nat) (a0_2 : Nat) (A1 : Option Addr) (c1 : Nat) (l1 : List C64) (a2 : C64) (r1 : List C64) (r2 : Nat) (r3 : Nat) (r4 : C64) (w : World) (hr0_0 : Kd.C Kd.c64 w A0_0 l0_0.length l0_0) (hc0_0 : l0_0.length ≤ c0_0) (hr1 : Kd.C Kd.c64 w A1 l1.length l1) (hc1 : l1.length ≤ c1) (h : impl_stepped.f k l0_0 a0_1 a0_2 l1 a2 = some (r1, r2, r3, r4)) :
 Calls Try.prog 38 #[.agg #[.slice A0_0 l0_0.length c0_0, .float .f32 a0_1, .float .f32 a0_2], .slice A1 l1.length c1, .complex .f32 a2.re a2.im] w fun e w' => ∃ v0_ : Value, e = .returned (.tuple #[.agg #[v0_, .float .f32 r2, .float .f32 r3], .complex .f32 r4.re r4.im]) ∧ Kd.R Kd.c64 30 w' w.heap.size (fun _ => True) v0_ r1 ∧ Below w.heap.size w w' := by
 have hu44 := Try.underlying44
 have HR0_0 := Aside0.mk hr0_0
 have HC0_0 := Aside0.mk hc0_0
 clear hr0_0 hc0_0
 have HR1 := Aside0.mk hr1
 have HC1 := Aside0.mk hc1
 clear hr1 hc1
 have HB := Aside0.mk (Below.refl w.heap.size w)
 have H : ((impl_outputOf.f k l0_0 a0_1 a0_2 l1).bind fun t165 => ((impl_less.f a2 t165).bind fun t166 => ((impl_PowersOf.f k l1).bind fun bt167 => ((impl_ConjugateOf.f t166).bind fun t169 => (if FOk .add .f32 1065353216 bt167.1 = true then (if FOk .quo .f32 a0_1 (fq .add .f32 1065353216 bt167.1) = true then ((impl_ScaleComplex.f t169 (fq .quo .f32 a0_1 (fq .add .f32 1065353216 bt167.1))).bind fun t170 => (impl_stepped.l0 k l1 t166 t170 l0_0 (l0_0.length : Int) 0 l0_0 a0_1 a0_2 ([] : List C64) a0_1 a0_2)) else (none)) else (none)))))) = some (r1, r2, r3, r4) := h
 clear h
 replace H := Option.bind_eq_some_iff.mp H
 obtain ⟨t165, A40, H⟩ := H
 replace H : ((impl_less.f a2 t165).bind fun t166 => ((impl_PowersOf.f k l1).bind fun bt167 => ((impl_ConjugateOf.f t166).bind fun t169 => (if FOk .add .f32 1065353216 bt167.1 = true then (if FOk .quo .f32 a0_1 (fq .add .f32 1065353216 bt167.1) = true then ((impl_ScaleComplex.f t169 (fq .quo .f32 a0_1 (fq .add .f32 1065353216 bt167.1))).bind fun t170 => (impl_stepped.l0 k l1 t166 t170 l0_0 (l0_0.length : Int) 0 l0_0 a0_1 a0_2 ([] : List C64) a0_1 a0_2)) else (none)) else (none))))) = some (r1, r2, r3, r4) := H
 have A4 := Aside0.mk A40
 clear A40
 replace H := Option.bind_eq_some_iff.mp H
 obtain ⟨t166, A50, H⟩ := H
 replace H : ((impl_PowersOf.f k l1).bind fun bt167 => ((impl_ConjugateOf.f t166).bind fun t169 => (if FOk .add .f32 1065353216 bt167.1 = true then (if FOk .quo .f32 a0_1 (fq .add .f32 1065353216 bt167.1) = true then ((impl_ScaleComplex.f t169 (fq .quo .f32 a0_1 (fq .add .f32 1065353216 bt167.1))).bind fun t170 => (impl_stepped.l0 k l1 t166 t170 l0_0 (l0_0.length : Int) 0 l0_0 a0_1 a0_2 ([] : List C64) a0_1 a0_2)) else (none)) else (none)))) = some (r1, r2, r3, r4) := H
 have A5 := Aside0.mk A50
 clear A50
 replace H := Option.bind_eq_some_iff.mp H
 obtain ⟨⟨t167, t168⟩, A60, H⟩ := H
 replace H : ((impl_ConjugateOf.f t166).bind fun t169 => (if FOk .add .f32 1065353216 t167 = true then (if FOk .quo .f32 a0_1 (fq .add .f32 1065353216 t167) = true then ((impl_ScaleComplex.f t169 (fq .quo .f32 a0_1 (fq .add .f32 1065353216 t167))).bind fun t170 => (impl_stepped.l0 k l1 t166 t170 l0_0 (l0_0.length : Int) 0 l0_0 a0_1 a0_2 ([] : List C64) a0_1 a0_2)) else (none)) else (none))) = some (r1, r2, r3, r4) := H
 have A6 := Aside0.mk A60
 clear A60
 replace H := Option.bind_eq_some_iff.mp H
 obtain ⟨t169, A70, H⟩ := H
 replace H : (if FOk .add .f32 1065353216 t167 = true then (if FOk .quo .f32 a0_1 (fq .add .f32 1065353216 t167) = true then ((impl_ScaleComplex.f t169 (fq .quo .f32 a0_1 (fq .add .f32 1065353216 t167))).bind fun t170 => (impl_stepped.l0 k l1 t166 t170 l0_0 (l0_0.length : Int) 0 l0_0 a0_1 a0_2 ([] : List C64) a0_1 a0_2)) else (none)) else (none)) = some (r1, r2, r3, r4) := H
 have A7 := Aside0.mk A70
 clear A70
 by_cases c8 : FOk .add .f32 1065353216 t167 = true
 · rw [if_pos c8] at H
   have fe8 := fun t w => frun (P := Try.prog) c8 t w
   have c8b0 : FOk .add .f32 1065353216 t167 = true := c8
   clear c8
   by_cases c9 : FOk .quo .f32 a0_1 (fq .add .f32 1065353216 t167) = true
   · rw [if_pos c9] at H
     have fe9 := fun t w => frun (P := Try.prog) c9 t w
     have c9b0 : FOk .quo .f32 a0_1 (fq .add .f32 1065353216 t167) = true := c9
     clear c9
     replace H := Option.bind_eq_some_iff.mp H
     obtain ⟨t170, A100, H⟩ := H
     replace H : (impl_stepped.l0 k l1 t166 t170 l0_0 (l0_0.length : Int) 0 l0_0 a0_1 a0_2 ([] : List C64) a0_1 a0_2) = some (r1, r2, r3, r4) := H
     have A10 := Aside0.mk A100
     clear A100
     have H' := Aside0.mk H
     clear H
     go_enter Try.func38, Try.ntmps38
     try go_wp2_with (first | ((with_reducible refine gate_dst (N := 3) rfl ?_); refine box_event ?hg (N := 3) ?hd (cs := #[.slice A0_0 l0_0.length c0_0, .float .f32 a0_1, .float .f32 a0_2]) (t := 44) ?hr ?_; (case hd => rfl); (case hg => rfl); (case hr => first | (go_simp; done) | (go_simp; rfl)); intro gb163 hg w11 hbox hb; have n0_ := Aside0.mk (below_step (by repeat (first | (with_reducible first | exact HB.out | apply below_alloc | apply pw_below_drewN | apply below_drew1) | exact HB.out)) hb); have n1_ := Aside0.mk (hbox); have n2_ := Aside0.mk ((by rw [hg]; exact (below_size (by repeat (first | (with_reducible first | exact HB.out | apply below_alloc | apply pw_below_drewN | apply below_drew1) | exact HB.out))) : w.heap.size ≤ gb163)); have n3_ := Aside0.mk ((by rw [hg]; exact (below_size (by repeat (first | (with_reducible first | exact HB.out | apply below_alloc | apply pw_below_drewN | apply below_drew1) | exact HB.out))) : w.heap.size ≤ gb163)); clear HB; have HB := n0_; have BK163 := n1_; have GW163 := n2_; have GE163 := n3_; clear n0_ n1_ n2_ n3_; clear hb hbox hg) | ((with_reducible refine gate_dst (N := 6) rfl ?_); refine box_event ?hg (N := 6) ?hd (cs := #[.slice none 0 0, .float .f32 (0 : Nat), .float .f32 (0 : Nat)]) (t := 44) ?hr ?_; (case hd => rfl); (case hg => rfl); (case hr => first | (go_simp; done) | (go_simp; rfl)); intro gb164 hg w12 hbox hb; have n0_ := Aside0.mk (blk_below (g := gb163) (o := .cells #[.slice A0_0 l0_0.length c0_0, .float .f32 a0_1, .float .f32 a0_2] 44 (0, 0)) (by (with_reducible repeat (first | refine blk_drewN ?_ _ | refine blk_drew ?_ | refine blk_alloc ?_ _)); exact BK163.out) hb); have n1_ := Aside0.mk (below_step (by repeat (first | (with_reducible first | exact HB.out | apply below_alloc | apply pw_below_drewN | apply below_drew1 | refine below_set ?_ GE163.out) | exact HB.out)) hb); have n2_ := Aside0.mk (hbox); have n3_ := Aside0.mk ((by rw [hg]; exact (below_size (by repeat (first | (with_reducible first | exact HB.out | apply below_alloc | apply pw_below_drewN | apply below_drew1 | refine below_set ?_ GE163.out) | exact HB.out))) : w.heap.size ≤ gb164)); have n4_ := Aside0.mk ((by rw [hg]; exact (below_size (by repeat (first | (with_reducible first | exact HB.out | apply below_alloc | apply pw_below_drewN | apply below_drew1 | refine below_set ?_ GE163.out) | exact HB.out))) : w.heap.size ≤ gb164)); have n5_ := Aside0.mk ((by rw [hg]; exact Nat.ne_of_lt (blk_lt (g := gb163) (o := .cells #[.slice A0_0 l0_0.length c0_0, .float .f32 a0_1, .float .f32 a0_2] 44 (0, 0)) (by (with_reducible repeat (first | refine blk_drewN ?_ _ | refine blk_drew ?_ | refine blk_alloc ?_ _)); exact BK163.out)) : gb163 ≠ gb164)); have n6_ := Aside0.mk ((by rw [hg]; exact Nat.ne_of_gt (blk_lt (g := gb163) (o := .cells #[.slice A0_0 l0_0.length c0_0, .float .f32 a0_1, .float .f32 a0_2] 44 (0, 0)) (by (with_reducible repeat (first | refine blk_drewN ?_ _ | refine blk_drew ?_ | refine blk_alloc ?_ _)); exact BK163.out)) : gb164 ≠ gb163)); clear BK163; clear HB; have BK163 := n0_; have HB := n1_; have BK164 := n2_; have GW164 := n3_; have GE164 := n4_; have NB163_164 := n5_; have NB164_163 := n6_; clear n0_ n1_ n2_ n3_ n4_ n5_ n6_; clear hb hbox hg; have hnb13 := NB163_164.out; have hnc13 := NB164_163.out; have hcz14_0 : w12.cell? ⟨gb163, 0, none⟩ = some (.slice A0_0 l0_0.length c0_0) := (blk_cell BK163.out 0).trans rfl; have hcz14_1 : w12.cell? ⟨gb163, 1, none⟩ = some (.float .f32 a0_1) := (blk_cell BK163.out 1).trans rfl; have hcz14_2 : w12.cell? ⟨gb163, 2, none⟩ = some (.float .f32 a0_2) := (blk_cell BK163.out 2).trans rfl; have hfz14_0 := blk_frozen BK163.out 0; have hfz14_1 := blk_frozen BK163.out 1; have hfz14_2 := blk_frozen BK163.out 2) | ((with_reducible refine gate_callee (f := 39) rfl ?_); refine goesL_ (some 20) rfl rfl Try.func39 (by kernel_rfl) rfl #[.agg #[.slice A0_0 l0_0.length c0_0, .float .f32 a0_1, .float .f32 a0_2], .slice A1 l1.length c1] rfl (by (try simp only [List.map_toArray, List.map_cons, List.map_nil]); first | done | rfl | (simp only [List.length_drop, List.length_take]; rfl)) ?_; (with_reducible refine (impl_outputOf.calls k _ _ l0_0 a0_1 a0_2 _ _ l1 t165 _ ?side1 ?side2 ?side3 ?side4 A4.out).mono ?_); (case side1 => repeat (first | exact (Kd.C_below HR0_0.out HB.out) | (with_reducible refine Kd.C_alloc ?_ _) | (with_reducible refine Kd.C_drewN ?_ _) | (with_reducible refine Kd.C_drew ?_))); (case side2 => exact HC0_0.out); (case side3 => repeat (first | exact (Kd.C_below HR1.out HB.out) | (with_reducible refine Kd.C_alloc ?_ _) | (with_reducible refine Kd.C_drewN ?_ _) | (with_reducible refine Kd.C_drew ?_))); (case side4 => exact HC1.out); rintro e w15 ⟨rfl, hb⟩; refine ⟨_, rfl, ?_⟩; have n0_ := Aside0.mk (blk_below (g := gb163) (o := .cells #[.slice A0_0 l0_0.length c0_0, .float .f32 a0_1, .float .f32 a0_2] 44 (0, 0)) (by (with_reducible repeat (first | refine blk_drewN ?_ _ | refine blk_drew ?_ | refine blk_alloc ?_ _)); exact BK163.out) hb); have n1_ := Aside0.mk (blk_below (g := gb164) (o := .cells #[.slice none 0 0, .float .f32 (0 : Nat), .float .f32 (0 : Nat)] 44 (0, 0)) (by (with_reducible repeat (first | refine blk_drewN ?_ _ | refine blk_drew ?_ | refine blk_alloc ?_ _)); exact BK164.out) hb); have n2_ := Aside0.mk (below_step (by repeat (first | (with_reducible first | exact HB.out | apply below_alloc | apply pw_below_drewN | apply below_drew1 | refine below_set ?_ GE163.out | refine below_set ?_ GE164.out) | exact HB.out)) hb); clear BK163; clear BK164; clear HB; have BK163 := n0_; have BK164 := n1_; have HB := n2_; clear n0_ n1_ n2_; (try clear hb); (try clear hb2); (try clear hk); (try clear hi)) | ((with_reducible refine gate_callee (f := 26) rfl ?_); refine goesL_ (some 21) rfl rfl Try.func26 (by kernel_rfl) rfl #[.complex .f32 a2.re a2.im, .complex .f32 t165.re t165.im] rfl (by (try simp only [List.map_toArray, List.map_cons, List.map_nil]); first | done | rfl | (simp only [List.length_drop, List.length_take]; rfl)) ?_; (with_reducible refine (impl_less.calls a2 t165 t166 _ A5.out).mono ?_); rintro e w16 ⟨rfl, hb⟩; refine ⟨_, rfl, ?_⟩; have n0_ := Aside0.mk (blk_below (g := gb163) (o := .cells #[.slice A0_0 l0_0.length c0_0, .float .f32 a0_1, .float .f32 a0_2] 44 (0, 0)) (by (with_reducible repeat (first | refine blk_drewN ?_ _ | refine blk_drew ?_ | refine blk_alloc ?_ _)); exact BK163.out) hb); have n1_ := Aside0.mk (blk_below (g := gb164) (o := .cells #[.slice none 0 0, .float .f32 (0 : Nat), .float .f32 (0 : Nat)] 44 (0, 0)) (by (with_reducible repeat (first | refine blk_drewN ?_ _ | refine blk_drew ?_ | refine blk_alloc ?_ _)); exact BK164.out) hb); have n2_ := Aside0.mk (below_step (by repeat (first | (with_reducible first | exact HB.out | apply below_alloc | apply pw_below_drewN | apply below_drew1 | refine below_set ?_ GE163.out | refine below_set ?_ GE164.out) | exact HB.out)) hb); clear BK163; clear BK164; clear HB; have BK163 := n0_; have BK164 := n1_; have HB := n2_; clear n0_ n1_ n2_; (try clear hb); (try clear hb2); (try clear hk); (try clear hi)) | ((with_reducible refine gate_callee (f := 15) rfl ?_); refine goesL_ (some 24) rfl rfl Try.func15 (by kernel_rfl) rfl #[.slice A1 l1.length c1] rfl (by (try simp only [List.map_toArray, List.map_cons, List.map_nil]); first | done | rfl | (simp only [List.length_drop, List.length_take]; rfl)) ?_; (with_reducible refine (impl_PowersOf.calls k _ _ l1 t167 t168 _ ?side1 ?side2 A6.out).mono ?_); (case side1 => repeat (first | exact (Kd.C_below HR1.out HB.out) | (with_reducible refine Kd.C_alloc ?_ _) | (with_reducible refine Kd.C_drewN ?_ _) | (with_reducible refine Kd.C_drew ?_))); (case side2 => exact HC1.out); rintro e w17 ⟨rfl, hb⟩; refine ⟨_, rfl, ?_⟩; have n0_ := Aside0.mk (blk_below (g := gb163) (o := .cells #[.slice A0_0 l0_0.length c0_0, .float .f32 a0_1, .float .f32 a0_2] 44 (0, 0)) (by (with_reducible repeat (first | refine blk_drewN ?_ _ | refine blk_drew ?_ | refine blk_alloc ?_ _)); exact BK163.out) hb); have n1_ := Aside0.mk (blk_below (g := gb164) (o := .cells #[.slice none 0 0, .float .f32 (0 : Nat), .float .f32 (0 : Nat)] 44 (0, 0)) (by (with_reducible repeat (first | refine blk_drewN ?_ _ | refine blk_drew ?_ | refine blk_alloc ?_ _)); exact BK164.out) hb); have n2_ := Aside0.mk (below_step (by repeat (first | (with_reducible first | exact HB.out | apply below_alloc | apply pw_below_drewN | apply below_drew1 | refine below_set ?_ GE163.out | refine below_set ?_ GE164.out) | exact HB.out)) hb); clear BK163; clear BK164; clear HB; have BK163 := n0_; have BK164 := n1_; have HB := n2_; clear n0_ n1_ n2_; (try clear hb); (try clear hb2); (try clear hk); (try clear hi)))
     have n0_ := Aside0.mk (blk_drew BK163.out)
     have n1_ := Aside0.mk (blk_drew BK164.out)
     have n2_ := Aside0.mk (below_drew1 HB.out)
     clear BK163
     clear BK164
     clear HB
     have BK163 := n0_
     have BK164 := n1_
     have HB := n2_
     clear n0_ n1_ n2_
     refine start_ (n := 9) (S := fun w' => w'.cell? ⟨gb163, 0, none⟩ = some (.slice A0_0 l0_0.length c0_0) ∧ w'.cell? ⟨gb163, 1, none⟩ = some (.float .f32 a0_1) ∧ w'.cell? ⟨gb163, 2, none⟩ = some (.float .f32 a0_2)) (ds := []) #[false, false, false, false, false, false, false, false, false] (by kernel_rfl) rfl rfl ⟨(blk_cell BK163.out 0).trans rfl, (blk_cell BK163.out 1).trans rfl, (blk_cell BK163.out 2).trans rfl⟩ (fun hHeld => ?_); refine with_tabW impl_stepped.tab3 impl_stepped.bits3 (fun HT_ HW_ => ?_)
     generalize w17.drew = w18 at BK163 BK164 HB hHeld ⊢
     refine pure_ (i := 0) (N := some 27) (v := ?_) (a' := ?_) #[true, false, false, false, false, false, false, false, false] rfl rfl (any_of HT_.out (by kernel_rfl)) (fun _ _ _ h => h) (Or.inl ⟨by rfl, ?_⟩) ?_ ?_; rotate_left 4
     refine pure_ (i := 2) (N := some 29) (v := ?_) (a' := ?_) #[true, false, true, false, false, false, false, false, false] rfl rfl (any_of HT_.out (by kernel_rfl)) (fun _ _ _ h => h) (Or.inl ⟨by rfl, ?_⟩) ?_ ?_; rotate_left 4
     refine pure_ (i := 4) (N := some 31) (v := ?_) (a' := ?_) #[true, false, true, false, true, false, false, false, false] rfl rfl (any_of HT_.out (by kernel_rfl)) (fun _ _ _ h => h) (Or.inl ⟨by rfl, ?_⟩) ?_ ?_; rotate_left 4
     refine pure_ (i := 5) (N := some 32) (v := ?_) (a' := ?_) #[true, false, true, false, true, true, false, false, false] rfl rfl (any_of HT_.out (by kernel_rfl)) (fun _ _ _ h => h) (Or.inl ⟨by rfl, ?_⟩) ?_ ?_; rotate_left 4
     rotate_left; iterate 4 (rotate_left; (intro w'; go_simp; with_reducible rfl); rotate_left; (simp only [Act.put, List.setIfInBounds_toArray, List.set_cons_zero, List.set_cons_succ, i64_w, i32_w]; rfl))
     refine take_ (i := 3) (N := some 30) (v := ?_) (a' := ?_) #[true, false, true, true, true, true, false, false, false] rfl rfl (take_ofW HT_.out HW_.out (by kernel_rfl)) (fun _ _ _ h => h) (Or.inl ⟨by rfl, ?_⟩) hHeld ?_ ?_
     rotate_left
     · rintro w' ⟨s0, s1, s2⟩
       go_simp
       with_reducible rfl
     rotate_left
     · simp only [Act.put, List.setIfInBounds_toArray, List.set_cons_zero, List.set_cons_succ, i64_w, i32_w]
       rfl
     refine pure_ (i := 6) (N := some 33) (v := ?_) (a' := ?_) #[true, false, true, true, true, true, true, false, false] rfl rfl (any_of HT_.out (by kernel_rfl)) (fun _ _ _ h => h) (Or.inl ⟨by rfl, ?_⟩) ?_ ?_; rotate_left 4
     rotate_left; iterate 1 (rotate_left; (intro w'; go_simp; with_reducible rfl); rotate_left; (simp only [Act.put, List.setIfInBounds_toArray, List.set_cons_zero, List.set_cons_succ, i64_w, i32_w]; rfl))
     refine one_ (i := 1) (N := some 28) #[true, true, true, true, true, true, true, false, false] rfl rfl (one_of HT_.out (by kernel_rfl)) (by decide) (fun K hK => ?_)
     refine goes_ Try.func45 (by kernel_rfl) rfl #[.complex .f32 t166.re t166.im] (by rfl) rfl rfl (by (try simp only [List.map_toArray, List.map_cons, List.map_nil]); first | done | rfl | (simp only [List.length_drop, List.length_take]; rfl)) ?_
     with_reducible refine (impl_ConjugateOf.calls t166 t169 _ A7.out).mono ?_
     rintro e w19 ⟨rfl, hb⟩
     refine ⟨_, rfl, ?_⟩
     have n0_ := Aside0.mk (blk_below (g := gb163) (o := .cells #[.slice A0_0 l0_0.length c0_0, .float .f32 a0_1, .float .f32 a0_2] 44 (0, 0)) (by (with_reducible repeat (first | refine blk_drewN ?_ _ | refine blk_drew ?_ | refine blk_alloc ?_ _)); exact BK163.out) hb)
     have n1_ := Aside0.mk (blk_below (g := gb164) (o := .cells #[.slice none 0 0, .float .f32 (0 : Nat), .float .f32 (0 : Nat)] 44 (0, 0)) (by (with_reducible repeat (first | refine blk_drewN ?_ _ | refine blk_drew ?_ | refine blk_alloc ?_ _)); exact BK164.out) hb)
     have n2_ := Aside0.mk (below_step (by repeat (first | (with_reducible first | exact HB.out | apply below_alloc | apply pw_below_drewN | apply below_drew1 | refine below_set ?_ GE163.out | refine below_set ?_ GE164.out) | exact HB.out)) hb)
     clear BK163
     clear BK164
     clear HB
     have BK163 := n0_
     have BK164 := n1_
     have HB := n2_
     clear n0_ n1_ n2_
     (try clear hb)
     (try clear hb2)
     (try clear hk)
     (try clear hi)
     refine hK.out _ _ ⟨(blk_cell BK163.out 0).trans rfl, (blk_cell BK163.out 1).trans rfl, (blk_cell BK163.out 2).trans rfl⟩ (fun hHeld => ?_)
     clear hK K
     refine norm_ (a' := ?_) ?_ ?_
     rotate_left
     · show Act.put _ (some 28) _ = _
       simp only [Act.put, List.setIfInBounds_toArray, List.set_cons_zero, List.set_cons_succ, i64_w, i32_w]
       rfl
     refine one_ (i := 7) (N := some 34) #[true, true, true, true, true, true, true, true, false] rfl rfl (one_of HT_.out (by kernel_rfl)) (by decide) (fun K hK => ?_)
     refine goes_ Try.func43 (by kernel_rfl) rfl #[.complex .f32 t169.re t169.im, .float .f32 (fq .quo .f32 a0_1 (fq .add .f32 1065353216 t167))] (by rfl) rfl rfl (by (try simp only [List.map_toArray, List.map_cons, List.map_nil]); first | done | rfl | (simp only [List.length_drop, List.length_take]; rfl)) ?_
     with_reducible refine (impl_ScaleComplex.calls t169 (fq .quo .f32 a0_1 (fq .add .f32 1065353216 t167)) t170 _ A10.out).mono ?_
     rintro e w20 ⟨rfl, hb⟩
     refine ⟨_, rfl, ?_⟩
     have n0_ := Aside0.mk (blk_below (g := gb163) (o := .cells #[.slice A0_0 l0_0.length c0_0, .float .f32 a0_1, .float .f32 a0_2] 44 (0, 0)) (by (with_reducible repeat (first | refine blk_drewN ?_ _ | refine blk_drew ?_ | refine blk_alloc ?_ _)); exact BK163.out) hb)
     have n1_ := Aside0.mk (blk_below (g := gb164) (o := .cells #[.slice none 0 0, .float .f32 (0 : Nat), .float .f32 (0 : Nat)] 44 (0, 0)) (by (with_reducible repeat (first | refine blk_drewN ?_ _ | refine blk_drew ?_ | refine blk_alloc ?_ _)); exact BK164.out) hb)
     have n2_ := Aside0.mk (below_step (by repeat (first | (with_reducible first | exact HB.out | apply below_alloc | apply pw_below_drewN | apply below_drew1 | refine below_set ?_ GE163.out | refine below_set ?_ GE164.out) | exact HB.out)) hb)
     clear BK163
     clear BK164
     clear HB
     have BK163 := n0_
     have BK164 := n1_
     have HB := n2_
     clear n0_ n1_ n2_
     (try clear hb)
     (try clear hb2)
     (try clear hk)
     (try clear hi)
     refine hK.out _ _ ⟨(blk_cell BK163.out 0).trans rfl, (blk_cell BK163.out 1).trans rfl, (blk_cell BK163.out 2).trans rfl⟩ (fun hHeld => ?_)
     clear hK K
     refine norm_ (a' := ?_) ?_ ?_
     rotate_left
     · show Act.put _ (some 34) _ = _
       simp only [Act.put, List.setIfInBounds_toArray, List.set_cons_zero, List.set_cons_succ, i64_w, i32_w]
       rfl
     refine pure_ (i := 8) (N := some 11) (v := ?_) (a' := ?_) #[true, true, true, true, true, true, true, true, true] rfl rfl (any_of HT_.out (by kernel_rfl)) (fun _ _ _ h => h) (Or.inl ⟨by rfl, ?_⟩) ?_ ?_; rotate_left 4
     rotate_left; iterate 1 (rotate_left; (intro w'; go_simp; with_reducible rfl); rotate_left; (simp only [Act.put, List.setIfInBounds_toArray, List.set_cons_zero, List.set_cons_succ, i64_w, i32_w]; rfl))
     refine done_ (done_of HT_.out (by kernel_rfl)) ?_
     have hcz21_0 : w20.cell? ⟨gb163, 0, none⟩ = some (.slice A0_0 l0_0.length c0_0) := (blk_cell BK163.out 0).trans rfl
     have hcz21_1 : w20.cell? ⟨gb163, 1, none⟩ = some (.float .f32 a0_1) := (blk_cell BK163.out 1).trans rfl
     have hcz21_2 : w20.cell? ⟨gb163, 2, none⟩ = some (.float .f32 a0_2) := (blk_cell BK163.out 2).trans rfl
     have hfz21_0 := blk_frozen BK163.out 0
     have hfz21_1 := blk_frozen BK163.out 1
     have hfz21_2 := blk_frozen BK163.out 2
     try go_wp2_with (first | ((with_reducible refine gate_dst (N := 12) rfl ?_); refine box_event ?hg (N := 12) ?hd (cs := #[.slice none 0 0, .float .f32 (0 : Nat), .float .f32 (0 : Nat)]) (t := 44) ?hr ?_; (case hd => rfl); (case hg => rfl); (case hr => first | (go_simp; done) | (go_simp; rfl)); intro gb171 hg w22 hbox hb; have n0_ := Aside0.mk (blk_below (g := gb163) (o := .cells #[.slice A0_0 l0_0.length c0_0, .float .f32 a0_1, .float .f32 a0_2] 44 (0, 0)) (by (with_reducible repeat (first | refine blk_drewN ?_ _ | refine blk_drew ?_ | refine blk_alloc ?_ _)); exact BK163.out) hb); have n1_ := Aside0.mk (blk_below (g := gb164) (o := .cells #[.slice none 0 0, .float .f32 (0 : Nat), .float .f32 (0 : Nat)] 44 (0, 0)) (by (with_reducible repeat (first | refine blk_drewN ?_ _ | refine blk_drew ?_ | refine blk_alloc ?_ _)); exact BK164.out) hb); have n2_ := Aside0.mk (below_step (by repeat (first | (with_reducible first | exact HB.out | apply below_alloc | apply pw_below_drewN | apply below_drew1 | refine below_set ?_ GE163.out | refine below_set ?_ GE164.out) | exact HB.out)) hb); have n3_ := Aside0.mk (hbox); have n4_ := Aside0.mk ((by rw [hg]; exact (below_size (by repeat (first | (with_reducible first | exact HB.out | apply below_alloc | apply pw_below_drewN | apply below_drew1 | refine below_set ?_ GE163.out | refine below_set ?_ GE164.out) | exact HB.out))) : w.heap.size ≤ gb171)); have n5_ := Aside0.mk ((by rw [hg]; exact (below_size (by repeat (first | (with_reducible first | exact HB.out | apply below_alloc | apply pw_below_drewN | apply below_drew1 | refine below_set ?_ GE163.out | refine below_set ?_ GE164.out) | exact HB.out))) : w.heap.size ≤ gb171)); have n6_ := Aside0.mk ((by rw [hg]; exact Nat.ne_of_lt (blk_lt (g := gb163) (o := .cells #[.slice A0_0 l0_0.length c0_0, .float .f32 a0_1, .float .f32 a0_2] 44 (0, 0)) (by (with_reducible repeat (first | refine blk_drewN ?_ _ | refine blk_drew ?_ | refine blk_alloc ?_ _)); exact BK163.out)) : gb163 ≠ gb171)); have n7_ := Aside0.mk ((by rw [hg]; exact Nat.ne_of_gt (blk_lt (g := gb163) (o := .cells #[.slice A0_0 l0_0.length c0_0, .float .f32 a0_1, .float .f32 a0_2] 44 (0, 0)) (by (with_reducible repeat (first | refine blk_drewN ?_ _ | refine blk_drew ?_ | refine blk_alloc ?_ _)); exact BK163.out)) : gb171 ≠ gb163)); have n8_ := Aside0.mk ((by rw [hg]; exact Nat.ne_of_lt (blk_lt (g := gb164) (o := .cells #[.slice none 0 0, .float .f32 (0 : Nat), .float .f32 (0 : Nat)] 44 (0, 0)) (by (with_reducible repeat (first | refine blk_drewN ?_ _ | refine blk_drew ?_ | refine blk_alloc ?_ _)); exact BK164.out)) : gb164 ≠ gb171)); have n9_ := Aside0.mk ((by rw [hg]; exact Nat.ne_of_gt (blk_lt (g := gb164) (o := .cells #[.slice none 0 0, .float .f32 (0 : Nat), .float .f32 (0 : Nat)] 44 (0, 0)) (by (with_reducible repeat (first | refine blk_drewN ?_ _ | refine blk_drew ?_ | refine blk_alloc ?_ _)); exact BK164.out)) : gb171 ≠ gb164)); clear BK163; clear BK164; clear HB; have BK163 := n0_; have BK164 := n1_; have HB := n2_; have BK171 := n3_; have GW171 := n4_; have GE171 := n5_; have NB163_171 := n6_; have NB171_163 := n7_; have NB164_171 := n8_; have NB171_164 := n9_; clear n0_ n1_ n2_ n3_ n4_ n5_ n6_ n7_ n8_ n9_; clear hb hbox hg; have hnb23 := NB171_163.out; have hnc23 := NB163_171.out; have hnb24 := NB171_164.out; have hnc24 := NB164_171.out; have hcz25_0 : w22.cell? ⟨gb171, 0, none⟩ = some (.slice none 0 0) := (blk_cell BK171.out 0).trans rfl; have hcz25_1 : w22.cell? ⟨gb171, 1, none⟩ = some (.float .f32 (0 : Nat)) := (blk_cell BK171.out 1).trans rfl; have hcz25_2 : w22.cell? ⟨gb171, 2, none⟩ = some (.float .f32 (0 : Nat)) := (blk_cell BK171.out 2).trans rfl; have hfz25_0 := blk_frozen BK171.out 0; have hfz25_1 := blk_frozen BK171.out 1; have hfz25_2 := blk_frozen BK171.out 2; have hcz26_0 : w22.cell? ⟨gb163, 0, none⟩ = some (.slice A0_0 l0_0.length c0_0) := (blk_cell BK163.out 0).trans rfl; have hcz26_1 : w22.cell? ⟨gb163, 1, none⟩ = some (.float .f32 a0_1) := (blk_cell BK163.out 1).trans rfl; have hcz26_2 : w22.cell? ⟨gb163, 2, none⟩ = some (.float .f32 a0_2) := (blk_cell BK163.out 2).trans rfl; have hfz26_0 := blk_frozen BK163.out 0; have hfz26_1 := blk_frozen BK163.out 1; have hfz26_2 := blk_frozen BK163.out 2))
     go_loopg [43] k (fun kq v43 w' => ∃ (x43_1 : Int) (x172000_1 : List C64) (u172000 : Value), v43 = .int .i64 x43_1 ∧ Aside0 (impl_stepped.l0 kq l1 t166 t170 l0_0 (l0_0.length : Int) x43_1 l0_0 a0_1 a0_2 x172000_1 a0_1 a0_2 = some (r1, r2, r3, r4)) ∧ Aside0 (kq ≤ k) ∧ Aside0 (Kd.R Kd.c64 30 w' w.heap.size (fun _ => True) u172000 x172000_1) ∧ Aside0 (w'.heap[gb163]? = some (.cells #[(.slice A0_0 l0_0.length c0_0), .float .f32 a0_1, .float .f32 a0_2] 44 (0, 0))) ∧ Aside0 (w'.heap[gb164]? = some (.cells #[(.slice none 0 0), .float .f32 (0 : Nat), .float .f32 (0 : Nat)] 44 (0, 0))) ∧ Aside0 (w'.heap[gb171]? = some (.cells #[u172000, .float .f32 a0_1, .float .f32 a0_2] 44 (0, 0))) ∧ Aside0 (Below w.heap.size w w'))
     case atStart => exact ⟨(0), (([] : List C64)), (.slice none 0 0), (by first | rfl | (simp; done) | (simp [*]; done)), H', ⟨Nat.le_refl _⟩, ⟨by first | exact Kd.R_nil _ _ _ _ _ | exact Kd.N_nil _ _ _ _ _ | exact Kd.V_nil _ _ _ _ _ | exact Kd.Q_nil _ _ _ _ _ | exact Kd.S_nil _ _ _ _ _⟩, ⟨by (with_reducible repeat (first | refine blk_drewN ?_ _ | refine blk_drew ?_ | refine blk_alloc ?_ _)); refine blk_far ?_ NB163_171.out _; (with_reducible repeat (first | refine blk_drewN ?_ _ | refine blk_drew ?_ | refine blk_alloc ?_ _)); refine blk_far ?_ NB163_171.out _; (with_reducible repeat (first | refine blk_drewN ?_ _ | refine blk_drew ?_ | refine blk_alloc ?_ _)); refine blk_far ?_ NB163_171.out _; (with_reducible repeat (first | refine blk_drewN ?_ _ | refine blk_drew ?_ | refine blk_alloc ?_ _)); exact BK163.out⟩, ⟨by (with_reducible repeat (first | refine blk_drewN ?_ _ | refine blk_drew ?_ | refine blk_alloc ?_ _)); refine blk_far ?_ NB164_171.out _; (with_reducible repeat (first | refine blk_drewN ?_ _ | refine blk_drew ?_ | refine blk_alloc ?_ _)); refine blk_far ?_ NB164_171.out _; (with_reducible repeat (first | refine blk_drewN ?_ _ | refine blk_drew ?_ | refine blk_alloc ?_ _)); refine blk_far ?_ NB164_171.out _; (with_reducible repeat (first | refine blk_drewN ?_ _ | refine blk_drew ?_ | refine blk_alloc ?_ _)); exact BK164.out⟩, ⟨by (with_reducible repeat (first | refine blk_drewN ?_ _ | refine blk_drew ?_ | refine blk_alloc ?_ _)); refine blk_put (cs := #[.slice none 0 0, .float .f32 a0_1, .float .f32 (0 : Nat)]) ?_ 2 _ rfl; (with_reducible repeat (first | refine blk_drewN ?_ _ | refine blk_drew ?_ | refine blk_alloc ?_ _)); refine blk_put (cs := #[.slice none 0 0, .float .f32 (0 : Nat), .float .f32 (0 : Nat)]) ?_ 1 _ rfl; (with_reducible repeat (first | refine blk_drewN ?_ _ | refine blk_drew ?_ | refine blk_alloc ?_ _)); refine blk_put (cs := #[.slice none 0 0, .float .f32 (0 : Nat), .float .f32 (0 : Nat)]) ?_ 0 _ rfl; (with_reducible repeat (first | refine blk_drewN ?_ _ | refine blk_drew ?_ | refine blk_alloc ?_ _)); exact BK171.out⟩, ⟨by repeat (first | (with_reducible first | exact HB.out | apply below_alloc | apply pw_below_drewN | apply below_drew1 | refine below_set ?_ GE163.out | refine below_set ?_ GE164.out | refine below_set ?_ GE171.out) | exact HB.out)⟩⟩
     case round =>
      clear H'
      (try clear c1); (try clear c2); (try clear p2); (try clear c3); (try clear c4); (try clear c6); (try clear c8); (try clear c8b0); (try clear c9); (try clear c9b0); (try clear c13); (try clear c15); (try clear c23); (try clear c24); (try clear c26); (try clear hcz14_0); (try clear hcz14_1); (try clear hcz14_2); (try clear hcz21_0); (try clear hcz21_1); (try clear hcz21_2); (try clear hcz25_0); (try clear hcz25_1); (try clear hcz25_2); (try clear hcz26_0); (try clear hcz26_1); (try clear hcz26_2); (try clear hfz14_0); (try clear hfz14_1); (try clear hfz14_2); (try clear hfz21_0); (try clear hfz21_1); (try clear hfz21_2); (try clear hfz25_0); (try clear hfz25_1); (try clear hfz25_2); (try clear hfz26_0); (try clear hfz26_1); (try clear hfz26_2)
      obtain ⟨x43_1, x172000_1, u172000, rfl, HA, HK1, HO_172000, BK163, BK164, BK171, HB⟩ := hrel
      cases gk with
      | zero => exact absurd HA.out (by simp [impl_stepped.l0])
      | succ k1 =>
       have H := HA.out
       clear HA
       simp only [impl_stepped.l0] at H
       by_cases c27 : x43_1 < (l0_0.length : Int)
       · rw [if_pos c27] at H
         have c27b0 : decide (x43_1 < (l0_0.length : Int)) = true := decide_eq_true c27
         clear c27
         by_cases c28 : 0 ≤ x43_1
         · rw [if_pos c28] at H
           have c28b0 : decide (0 ≤ x43_1) = true := decide_eq_true c28
           clear c28
           by_cases c29 : x43_1 < (l0_0.length : Int)
           · rw [if_pos c29] at H
             have c29b0 : decide (x43_1 < (l0_0.length : Int)) = true := decide_eq_true c29
             clear c29
             by_cases c30 : x43_1 < (l1.length : Int)
             · rw [if_pos c30] at H
               have c30b0 : decide (x43_1 < (l1.length : Int)) = true := decide_eq_true c30
               clear c30
               replace H := Option.bind_eq_some_iff.mp H
               obtain ⟨t174, A310, H⟩ := H
               replace H : ((impl_add.f (rdOf c64z l0_0 x43_1) t174).bind fun t175 => (if x172000_1.length < 17592186044416 then (impl_stepped.l0 k1 l1 t166 t170 l0_0 (l0_0.length : Int) (wrap64 (x43_1 + 1)) l0_0 a0_1 a0_2 (x172000_1 ++ [t175]) a0_1 a0_2) else (none))) = some (r1, r2, r3, r4) := H
               have A31 := Aside0.mk A310
               clear A310
               replace H := Option.bind_eq_some_iff.mp H
               obtain ⟨t175, A320, H⟩ := H
               replace H : (if x172000_1.length < 17592186044416 then (impl_stepped.l0 k1 l1 t166 t170 l0_0 (l0_0.length : Int) (wrap64 (x43_1 + 1)) l0_0 a0_1 a0_2 (x172000_1 ++ [t175]) a0_1 a0_2) else (none)) = some (r1, r2, r3, r4) := H
               have A32 := Aside0.mk A320
               clear A320
               by_cases c33 : x172000_1.length < 17592186044416
               · rw [if_pos c33] at H
                 have LMc33 := Aside0.mk c33
                 clear c33
                 obtain ⟨y176, hy176⟩ : ∃ y_ : List C64, y_ = (x172000_1 ++ [t175]) := ⟨_, rfl⟩
                 replace H : (impl_stepped.l0 k1 l1 t166 t170 l0_0 (l0_0.length : Int) (wrap64 (x43_1 + 1)) l0_0 a0_1 a0_2 y176 a0_1 a0_2) = some (r1, r2, r3, r4) := by first | (rw [hy176]; with_reducible exact H) | (have H2_ := (Option.bind_some _ _).symm.trans H; rw [hy176]; with_reducible exact H2_) | (have H2_ := (Option.bind_some _ _).symm.trans H; with_reducible exact H2_) | with_reducible exact H | (rw [hy176]; exact H) | exact H
                 have Ny176 := Aside0.mk hy176
                 clear hy176
                 as_aux_lemma =>
                  have H' := Aside0.mk H
                  clear H
                  have p172 : 0 ≤ (x43_1 : Int) := of_decide_eq_true (by first | (with_reducible assumption) | assumption)
                  have q172 : x43_1 < (l0_0.length : Int) := of_decide_eq_true (by first | (with_reducible assumption) | assumption)
                  obtain ⟨ad172, e172, hx172_0⟩ := Kd.at_c64 HR0_0.out x43_1 p172 q172
                  cases e172
                  replace hx172_0 := (HB.out.cell (World.block_lt_of_cell? w _ hx172_0)).trans hx172_0
                  replace p172 := eq_true p172
                  replace q172 := eq_true q172
                  try go_wp2
                  have n0_ := Aside0.mk (Kd.R_drew HO_172000.out)
                  have n1_ := Aside0.mk (blk_drew BK163.out)
                  have n2_ := Aside0.mk (blk_drew BK164.out)
                  have n3_ := Aside0.mk (blk_drew BK171.out)
                  have n4_ := Aside0.mk (below_drew1 HB.out)
                  clear HO_172000
                  clear BK163
                  clear BK164
                  clear BK171
                  clear HB
                  have HO_172000 := n0_
                  have BK163 := n1_
                  have BK164 := n2_
                  have BK171 := n3_
                  have HB := n4_
                  clear n0_ n1_ n2_ n3_ n4_
                  have p173 : 0 ≤ (x43_1 : Int) := of_decide_eq_true (by first | (with_reducible assumption) | assumption)
                  have q173 : x43_1 < (l1.length : Int) := of_decide_eq_true (by first | (with_reducible assumption) | assumption)
                  obtain ⟨ad173, e173, hx173_0⟩ := Kd.at_c64 HR1.out x43_1 p173 q173
                  have hw173_0 := hx173_0
                  cases e173
                  replace hx173_0 := (HB.out.cell (World.block_lt_of_cell? w _ hx173_0)).trans hx173_0
                  replace p173 := eq_true p173
                  replace q173 := eq_true q173
                  refine start_ (n := 14) (S := fun w' => w'.cell? ⟨gb171, 0, none⟩ = some (u172000) ∧ w'.cell? ⟨gb171, 1, none⟩ = some (.float .f32 a0_1) ∧ w'.cell? ⟨gb171, 2, none⟩ = some (.float .f32 a0_2) ∧ w'.cell? (ad173.add (x43_1).toNat) = some (.complex .f32 ((rdOf c64z l1 x43_1).re) ((rdOf c64z l1 x43_1).im))) (ds := [13]) #[false, false, false, false, false, false, false, false, false, false, false, false, false, false] (by kernel_rfl) rfl rfl ⟨(blk_cell BK171.out 0).trans rfl, (blk_cell BK171.out 1).trans rfl, (blk_cell BK171.out 2).trans rfl, ((HB.out.cell (World.block_lt_of_cell? w _ hw173_0)).trans hw173_0)⟩ (fun hHeld => ?_); refine with_tabW impl_stepped.tab8 impl_stepped.bits8 (fun HT_ HW_ => ?_)
                  generalize wr.drew = w34 at HO_172000 BK163 BK164 BK171 HB hx173_0 hHeld ⊢
                  refine pure_ (i := 0) (N := some 48) (v := ?_) (a' := ?_) #[true, false, false, false, false, false, false, false, false, false, false, false, false, false] rfl rfl (any_of HT_.out (by kernel_rfl)) (fun _ _ _ h => h) (Or.inl ⟨by rfl, ?_⟩) ?_ ?_; rotate_left 4
                  refine pure_ (i := 2) (N := some 50) (v := ?_) (a' := ?_) #[true, false, true, false, false, false, false, false, false, false, false, false, false, false] rfl rfl (any_of HT_.out (by kernel_rfl)) (fun _ _ _ h => h) (Or.inl ⟨by rfl, ?_⟩) ?_ ?_; rotate_left 4
                  refine pure_ (i := 3) (N := some 51) (v := ?_) (a' := ?_) #[true, false, true, true, false, false, false, false, false, false, false, false, false, false] rfl rfl (any_of HT_.out (by kernel_rfl)) (fun _ _ _ h => h) (Or.inl ⟨by rfl, ?_⟩) ?_ ?_; rotate_left 4
                  refine pure_ (i := 4) (N := some 52) (v := ?_) (a' := ?_) #[true, false, true, true, true, false, false, false, false, false, false, false, false, false] rfl rfl (any_of HT_.out (by kernel_rfl)) (fun _ _ _ h => h) (Or.inl ⟨by rfl, ?_⟩) ?_ ?_; rotate_left 4
                  refine pure_ (i := 5) (N := some 53) (v := ?_) (a' := ?_) #[true, false, true, true, true, true, false, false, false, false, false, false, false, false] rfl rfl (any_of HT_.out (by kernel_rfl)) (fun _ _ _ h => h) (Or.inl ⟨by rfl, ?_⟩) ?_ ?_; rotate_left 4
                  refine pure_ (i := 7) (N := some 55) (v := ?_) (a' := ?_) #[true, false, true, true, true, true, false, true, false, false, false, false, false, false] rfl rfl (any_of HT_.out (by kernel_rfl)) (fun _ _ _ h => h) (Or.inl ⟨by rfl, ?_⟩) ?_ ?_; rotate_left 4
                  rotate_left; iterate 6 (rotate_left; (intro w'; go_simp; with_reducible rfl); rotate_left; (simp only [Act.put, List.setIfInBounds_toArray, List.set_cons_zero, List.set_cons_succ, i64_w, i32_w]; rfl))
                  refine take_ (i := 1) (N := some 49) (v := ?_) (a' := ?_) #[true, true, true, true, true, true, false, true, false, false, false, false, false, false] rfl rfl (take_ofW HT_.out HW_.out (by kernel_rfl)) (fun _ _ _ h => h) (Or.inl ⟨by rfl, ?_⟩) hHeld ?_ ?_
                  rotate_left
                  · rintro w' ⟨s0, s1, s2, s3⟩
                    go_simp
                    with_reducible rfl
                  rotate_left
                  · simp only [Act.put, List.setIfInBounds_toArray, List.set_cons_zero, List.set_cons_succ, i64_w, i32_w]
                    rfl
                  refine take_ (i := 6) (N := some 54) (v := ?_) (a' := ?_) #[true, true, true, true, true, true, true, true, false, false, false, false, false, false] rfl rfl (take_ofW HT_.out HW_.out (by kernel_rfl)) (fun _ _ _ h => h) (Or.inl ⟨by rfl, ?_⟩) hHeld ?_ ?_
                  rotate_left
                  · rintro w' ⟨s0, s1, s2, s3⟩
                    go_simp
                    with_reducible rfl
                  rotate_left
                  · simp only [Act.put, List.setIfInBounds_toArray, List.set_cons_zero, List.set_cons_succ, i64_w, i32_w]
                    rfl
                  refine one_ (i := 8) (N := some 56) #[true, true, true, true, true, true, true, true, true, false, false, false, false, false] rfl rfl (one_of HT_.out (by kernel_rfl)) (by decide) (fun K hK => ?_)
                  refine goes_ Try.func12 (by kernel_rfl) rfl #[.complex .f32 ((rdOf c64z l1 x43_1).re) ((rdOf c64z l1 x43_1).im), .complex .f32 t170.re t170.im] (by rfl) rfl rfl (by (try simp only [List.map_toArray, List.map_cons, List.map_nil]); first | done | rfl | (simp only [List.length_drop, List.length_take]; rfl)) ?_
                  with_reducible refine (impl_MulComplex.calls (rdOf c64z l1 x43_1) t170 t174 _ A31.out).mono ?_
                  rintro e w35 ⟨rfl, hb⟩
                  refine ⟨_, rfl, ?_⟩
                  have n0_ := Aside0.mk (Kd.R_below (by (with_reducible repeat (first | apply Kd.R_alloc | apply Kd.R_drewN | apply Kd.R_drew)); exact HO_172000.out) hb)
                  have n1_ := Aside0.mk (blk_below (g := gb163) (o := .cells #[.slice (some ad172) l0_0.length c0_0, .float .f32 a0_1, .float .f32 a0_2] 44 (0, 0)) (by (with_reducible repeat (first | refine blk_drewN ?_ _ | refine blk_drew ?_ | refine blk_alloc ?_ _)); exact BK163.out) hb)
                  have n2_ := Aside0.mk (blk_below (g := gb164) (o := .cells #[.slice none 0 0, .float .f32 (0 : Nat), .float .f32 (0 : Nat)] 44 (0, 0)) (by (with_reducible repeat (first | refine blk_drewN ?_ _ | refine blk_drew ?_ | refine blk_alloc ?_ _)); exact BK164.out) hb)
                  have n3_ := Aside0.mk (blk_below (g := gb171) (o := .cells #[u172000, .float .f32 a0_1, .float .f32 a0_2] 44 (0, 0)) (by (with_reducible repeat (first | refine blk_drewN ?_ _ | refine blk_drew ?_ | refine blk_alloc ?_ _)); exact BK171.out) hb)
                  have n4_ := Aside0.mk (below_step (by repeat (first | (with_reducible first | exact HB.out | apply below_alloc | apply pw_below_drewN | apply below_drew1 | refine below_set ?_ GE163.out | refine below_set ?_ GE164.out | refine below_set ?_ GE171.out) | exact HB.out)) hb)
                  clear HO_172000
                  clear BK163
                  clear BK164
                  clear BK171
                  clear HB
                  have HO_172000 := n0_
                  have BK163 := n1_
                  have BK164 := n2_
                  have BK171 := n3_
                  have HB := n4_
                  clear n0_ n1_ n2_ n3_ n4_
                  (try clear hb)
                  (try clear hb2)
                  (try clear hk)
                  (try clear hi)
                  refine hK.out _ _ ⟨(blk_cell BK171.out 0).trans rfl, (blk_cell BK171.out 1).trans rfl, (blk_cell BK171.out 2).trans rfl, ((HB.out.cell (World.block_lt_of_cell? w _ hw173_0)).trans hw173_0)⟩ (fun hHeld => ?_)
                  clear hK K
                  refine norm_ (a' := ?_) ?_ ?_
                  rotate_left
                  · show Act.put _ (some 56) _ = _
                    simp only [Act.put, List.setIfInBounds_toArray, List.set_cons_zero, List.set_cons_succ, i64_w, i32_w]
                    rfl
                  refine one_ (i := 9) (N := some 57) #[true, true, true, true, true, true, true, true, true, true, false, false, false, false] rfl rfl (one_of HT_.out (by kernel_rfl)) (by decide) (fun K hK => ?_)
                  refine goes_ Try.func28 (by kernel_rfl) rfl #[.complex .f32 ((rdOf c64z l0_0 x43_1).re) ((rdOf c64z l0_0 x43_1).im), .complex .f32 t174.re t174.im] (by rfl) rfl rfl (by (try simp only [List.map_toArray, List.map_cons, List.map_nil]); first | done | rfl | (simp only [List.length_drop, List.length_take]; rfl)) ?_
                  with_reducible refine (impl_add.calls (rdOf c64z l0_0 x43_1) t174 t175 _ A32.out).mono ?_
                  rintro e w36 ⟨rfl, hb⟩
                  refine ⟨_, rfl, ?_⟩
                  have n0_ := Aside0.mk (Kd.R_below (by (with_reducible repeat (first | apply Kd.R_alloc | apply Kd.R_drewN | apply Kd.R_drew)); exact HO_172000.out) hb)
                  have n1_ := Aside0.mk (blk_below (g := gb163) (o := .cells #[.slice (some ad172) l0_0.length c0_0, .float .f32 a0_1, .float .f32 a0_2] 44 (0, 0)) (by (with_reducible repeat (first | refine blk_drewN ?_ _ | refine blk_drew ?_ | refine blk_alloc ?_ _)); exact BK163.out) hb)
                  have n2_ := Aside0.mk (blk_below (g := gb164) (o := .cells #[.slice none 0 0, .float .f32 (0 : Nat), .float .f32 (0 : Nat)] 44 (0, 0)) (by (with_reducible repeat (first | refine blk_drewN ?_ _ | refine blk_drew ?_ | refine blk_alloc ?_ _)); exact BK164.out) hb)
                  have n3_ := Aside0.mk (blk_below (g := gb171) (o := .cells #[u172000, .float .f32 a0_1, .float .f32 a0_2] 44 (0, 0)) (by (with_reducible repeat (first | refine blk_drewN ?_ _ | refine blk_drew ?_ | refine blk_alloc ?_ _)); exact BK171.out) hb)
                  have n4_ := Aside0.mk (below_step (by repeat (first | (with_reducible first | exact HB.out | apply below_alloc | apply pw_below_drewN | apply below_drew1 | refine below_set ?_ GE163.out | refine below_set ?_ GE164.out | refine below_set ?_ GE171.out) | exact HB.out)) hb)
                  clear HO_172000
                  clear BK163
                  clear BK164
                  clear BK171
                  clear HB
                  have HO_172000 := n0_
                  have BK163 := n1_
                  have BK164 := n2_
                  have BK171 := n3_
                  have HB := n4_
                  clear n0_ n1_ n2_ n3_ n4_
                  (try clear hb)
                  (try clear hb2)
                  (try clear hk)
                  (try clear hi)
                  refine hK.out _ _ ⟨(blk_cell BK171.out 0).trans rfl, (blk_cell BK171.out 1).trans rfl, (blk_cell BK171.out 2).trans rfl, ((HB.out.cell (World.block_lt_of_cell? w _ hw173_0)).trans hw173_0)⟩ (fun hHeld => ?_)
                  clear hK K
                  refine norm_ (a' := ?_) ?_ ?_
                  rotate_left
                  · show Act.put _ (some 57) _ = _
                    simp only [Act.put, List.setIfInBounds_toArray, List.set_cons_zero, List.set_cons_succ, i64_w, i32_w]
                    rfl
                  refine one_ (i := 10) (N := some 58) #[true, true, true, true, true, true, true, true, true, true, true, false, false, false] rfl rfl (one_of HT_.out (by kernel_rfl)) (by decide) (fun K hK => ?_)
                  refine value_ (w1 := ?_) (v := ?_) (by rfl) rfl ?_ ?_
                  rotate_left 2
                  · go_simp
                    constructor
                    · rfl
                    · rfl
                  refine hK.out _ _ ⟨(blk_cell (blk_alloc BK171.out _) 0).trans rfl, (blk_cell (blk_alloc BK171.out _) 1).trans rfl, (blk_cell (blk_alloc BK171.out _) 2).trans rfl, (World.cell?_alloc_lt _ _ _ (World.block_lt_of_cell? _ _ (((HB.out.cell (World.block_lt_of_cell? w _ hw173_0)).trans hw173_0)))).trans (((HB.out.cell (World.block_lt_of_cell? w _ hw173_0)).trans hw173_0))⟩ (fun hHeld => ?_)
                  clear hK K
                  refine norm_ (a' := ?_) ?_ ?_
                  rotate_left
                  · show Act.put _ (some 58) _ = _
                    simp only [Act.put, List.setIfInBounds_toArray, List.set_cons_zero, List.set_cons_succ, i64_w, i32_w]
                    rfl
                  refine one_ (i := 11) (N := some 59) #[true, true, true, true, true, true, true, true, true, true, true, true, false, false] rfl rfl (one_of HT_.out (by kernel_rfl)) (by decide) (fun K hK => ?_)
                  refine Kd.R_append_step Kd.c64 (w0 := w) w.heap.size (by rfl) (.tmp 49) (.tmp 58) 24 30 (.complex .f32 0 0) 8 rfl Try.underlying24 info30 rfl (by decide) (by omega) u172000 x172000_1 t175 [.complex .f32 t175.re t175.im] (fun _ => True) (fun _ => False) rfl rfl ?aP (fun _ hk => hk.elim) ?aF ?aO ?aB ?aS ?aL ?_
                  (case aP => exact rfl)
                  (case aB => exact (by repeat (first | (with_reducible first | exact HB.out | apply below_alloc | apply pw_below_drewN | apply below_drew1 | refine below_set ?_ GE163.out | refine below_set ?_ GE164.out | refine below_set ?_ GE171.out) | exact HB.out)))
                  (case aF => exact (fun _ _ => trivial))
                  (case aO => exact (by (with_reducible repeat (first | apply Kd.R_alloc | apply Kd.R_drewN | apply Kd.R_drew)); exact HO_172000.out))
                  (case aS => exact (below_size (by repeat (first | (with_reducible first | exact HB.out | apply below_alloc | apply pw_below_drewN | apply below_drew1 | refine below_set ?_ GE163.out | refine below_set ?_ GE164.out | refine below_set ?_ GE171.out) | exact HB.out))))
                  (case aL => have := LMc33.out; omega)
                  intro v177 w37 ho hb hg hat
                  rw [← Ny176.out] at ho
                  have n0_ := Aside0.mk (blk_grown (g := gb163) (o := .cells #[.slice (some ad172) l0_0.length c0_0, .float .f32 a0_1, .float .f32 a0_2] 44 (0, 0)) (by (with_reducible repeat (first | refine blk_drewN ?_ _ | refine blk_drew ?_ | refine blk_alloc ?_ _)); exact BK163.out) hg (Kd.R_ne HO_172000.out BK163.out (by decide)))
                  have n1_ := Aside0.mk (blk_grown (g := gb164) (o := .cells #[.slice none 0 0, .float .f32 (0 : Nat), .float .f32 (0 : Nat)] 44 (0, 0)) (by (with_reducible repeat (first | refine blk_drewN ?_ _ | refine blk_drew ?_ | refine blk_alloc ?_ _)); exact BK164.out) hg (Kd.R_ne HO_172000.out BK164.out (by decide)))
                  have n2_ := Aside0.mk (blk_grown (g := gb171) (o := .cells #[u172000, .float .f32 a0_1, .float .f32 a0_2] 44 (0, 0)) (by (with_reducible repeat (first | refine blk_drewN ?_ _ | refine blk_drew ?_ | refine blk_alloc ?_ _)); exact BK171.out) hg (Kd.R_ne HO_172000.out BK171.out (by decide)))
                  have n3_ := Aside0.mk (hb)
                  have n4_ := Aside0.mk (ho)
                  clear BK163
                  clear BK164
                  clear BK171
                  clear HB
                  clear HO_172000
                  have BK163 := n0_
                  have BK164 := n1_
                  have BK171 := n2_
                  have HB := n3_
                  have HO178 := n4_
                  clear n0_ n1_ n2_ n3_ n4_
                  clear ho hb hg hat
                  obtain ⟨Ao38, co38, eo38⟩ := Kd.R_slice HO178.out
                  (first | subst eo38 | (injection eo38 with f1_ f2_ f3_; have f4_ := f1_.symm; have f5_ := f3_.symm; clear f1_ f2_ f3_; subst f4_; subst f5_))
                  refine hK.out _ _ ⟨(blk_cell BK171.out 0).trans rfl, (blk_cell BK171.out 1).trans rfl, (blk_cell BK171.out 2).trans rfl, ((HB.out.cell (World.block_lt_of_cell? w _ hw173_0)).trans hw173_0)⟩ (fun hHeld => ?_)
                  clear hK K
                  refine norm_ (a' := ?_) ?_ ?_
                  rotate_left
                  · show Act.put _ (some 59) _ = _
                    simp only [Act.put, List.setIfInBounds_toArray, List.set_cons_zero, List.set_cons_succ, i64_w, i32_w]
                    rfl
                  refine pure_ (i := 12) (N := some 60) (v := ?_) (a' := ?_) #[true, true, true, true, true, true, true, true, true, true, true, true, true, false] rfl rfl (any_of HT_.out (by kernel_rfl)) (fun _ _ _ h => h) (Or.inl ⟨by rfl, ?_⟩) ?_ ?_; rotate_left 4
                  rotate_left; iterate 1 (rotate_left; (intro w'; go_simp; with_reducible rfl); rotate_left; (simp only [Act.put, List.setIfInBounds_toArray, List.set_cons_zero, List.set_cons_succ, i64_w, i32_w]; rfl))
                  refine last_ (i := 13) (N := none) #[true, true, true, true, true, true, true, true, true, true, true, true, true, true] rfl rfl (one_of HT_.out (by kernel_rfl)) (by decide) (fun K hK => ?_)
                  have hs39 : w37.cell? ⟨gb171, 0, none⟩ = some (u172000) := (blk_cell BK171.out 0).trans rfl
                  have hfs39 := blk_frozen BK171.out 0
                  have hns39_0 := NB163_171.out
                  have hns39_1 := NB164_171.out
                  have hms39_0 := NB171_163.out
                  have hms39_1 := NB171_164.out
                  refine skip_ (w1 := ?_) (by rfl) rfl ?_ ?_
                  rotate_left
                  · go_simp
                    rfl
                  refine hK.out _ _ ?_
                  clear hK K
                  refine done_ (done_of HT_.out (by kernel_rfl)) ?_
                  try go_wp2
                  go_roundg k1
                  case measure => have := HK1.out; omega
                  case rel => exact ⟨(wrap64 (x43_1 + 1)), (y176), (.slice Ao38 y176.length co38), (by first | rfl | (simp; done) | (simp [*]; done)), H', ⟨by have := HK1.out; omega⟩, ⟨by (with_reducible repeat (first | apply Kd.R_alloc | apply Kd.R_drewN | apply Kd.R_drew)); exact Kd.R_mono (Kd.R_far (p := ⟨gb171, 0, none⟩) (Kd.R_types HO178.out BK171.out (by decide)) (fun _ hk => hk.2) (.slice Ao38 y176.length co38)) (fun _ hk => trivial)⟩, ⟨by (with_reducible repeat (first | refine blk_drewN ?_ _ | refine blk_drew ?_ | refine blk_alloc ?_ _)); refine blk_far ?_ NB163_171.out _; (with_reducible repeat (first | refine blk_drewN ?_ _ | refine blk_drew ?_ | refine blk_alloc ?_ _)); exact BK163.out⟩, ⟨by (with_reducible repeat (first | refine blk_drewN ?_ _ | refine blk_drew ?_ | refine blk_alloc ?_ _)); refine blk_far ?_ NB164_171.out _; (with_reducible repeat (first | refine blk_drewN ?_ _ | refine blk_drew ?_ | refine blk_alloc ?_ _)); exact BK164.out⟩, ⟨by (with_reducible repeat (first | refine blk_drewN ?_ _ | refine blk_drew ?_ | refine blk_alloc ?_ _)); refine blk_put (cs := #[u172000, .float .f32 a0_1, .float .f32 a0_2]) ?_ 0 _ rfl; (with_reducible repeat (first | refine blk_drewN ?_ _ | refine blk_drew ?_ | refine blk_alloc ?_ _)); exact BK171.out⟩, ⟨by repeat (first | (with_reducible first | exact HB.out | apply below_alloc | apply pw_below_drewN | apply below_drew1 | refine below_set ?_ GE163.out | refine below_set ?_ GE164.out | refine below_set ?_ GE171.out) | exact HB.out)⟩⟩
               · rw [if_neg c33] at H
                 exact absurd H (by simp)
             · rw [if_neg c30] at H
               exact absurd H (by simp)
           · rw [if_neg c29] at H
             exact absurd H (by simp)
         · rw [if_neg c28] at H
           exact absurd H (by simp)
       · rw [if_neg c27] at H
         have c27b0 : decide (x43_1 < (l0_0.length : Int)) = false := decide_eq_false c27
         clear c27
         replace H := Option.bind_eq_some_iff.mp H
         obtain ⟨⟨t179, t180⟩, A400, H⟩ := H
         replace H : (if (FloatKind.f32.format.order t179 a0_2 == some .gt) = true then (if FOk .quo .f32 a0_2 t179 = true then ((impl_RootNumber.f (fq .quo .f32 a0_2 t179)).bind fun t181 => ((impl_scaled.f k1 x172000_1 t181).bind fun t182 => (some (t182, a0_1, a0_2, t166)))) else (none)) else (some (x172000_1, a0_1, a0_2, t166))) = some (r1, r2, r3, r4) := H
         have A40 := Aside0.mk A400
         clear A400
         by_cases c41 : (FloatKind.f32.format.order t179 a0_2 == some .gt) = true
         · rw [if_pos c41] at H
           have c41b0 : (FloatKind.f32.format.order t179 a0_2 == some .gt) = true := c41
           (try (have c41b1 : decide (FloatKind.f32.format.order t179 a0_2 = some .gt) = true := by simpa using c41))
           (try (have c41b2 : (FloatKind.f32.format.order t179 a0_2 == some .gt) = true := by simpa using c41))
           clear c41
           by_cases c42 : FOk .quo .f32 a0_2 t179 = true
           · rw [if_pos c42] at H
             have fe42 := fun t w => frun (P := Try.prog) c42 t w
             have c42b0 : FOk .quo .f32 a0_2 t179 = true := c42
             clear c42
             replace H := Option.bind_eq_some_iff.mp H
             obtain ⟨t181, A430, H⟩ := H
             replace H : ((impl_scaled.f k1 x172000_1 t181).bind fun t182 => (some (t182, a0_1, a0_2, t166))) = some (r1, r2, r3, r4) := H
             have A43 := Aside0.mk A430
             clear A430
             replace H := Option.bind_eq_some_iff.mp H
             obtain ⟨t182, A440, H⟩ := H
             replace H : (some (t182, a0_1, a0_2, t166)) = some (r1, r2, r3, r4) := H
             have A44 := Aside0.mk A440
             clear A440
             as_aux_lemma =>
              simp only [Option.some.injEq, Prod.mk.injEq] at H
              obtain ⟨rfl, rfl, rfl, rfl⟩ := H
              have hnb45 := NB171_163.out
              have hnc45 := NB163_171.out
              have hnb46 := NB171_164.out
              have hnc46 := NB164_171.out
              have hcz47_0 : wr.cell? ⟨gb171, 0, none⟩ = some (u172000) := (blk_cell BK171.out 0).trans rfl
              have hcz47_1 : wr.cell? ⟨gb171, 1, none⟩ = some (.float .f32 a0_1) := (blk_cell BK171.out 1).trans rfl
              have hcz47_2 : wr.cell? ⟨gb171, 2, none⟩ = some (.float .f32 a0_2) := (blk_cell BK171.out 2).trans rfl
              have hfz47_0 := blk_frozen BK171.out 0
              have hfz47_1 := blk_frozen BK171.out 1
              have hfz47_2 := blk_frozen BK171.out 2
              obtain ⟨Ao48, co48, eo48⟩ := Kd.R_slice HO_172000.out
              subst eo48
              try go_wp2_with (first | ((with_reducible refine gate_callee (f := 15) rfl ?_); refine goesL_ (some 65) rfl rfl Try.func15 (by kernel_rfl) rfl #[.slice Ao48 x172000_1.length co48] rfl (by (try simp only [List.map_toArray, List.map_cons, List.map_nil]); first | done | rfl | (simp only [List.length_drop, List.length_take]; rfl)) ?_; (with_reducible refine (impl_PowersOf.calls k1 _ _ x172000_1 t179 t180 _ ?side1 ?side2 A40.out).mono ?_); (case side1 => repeat (first | exact (Kd.R_reads' HO_172000.out).2.2 | (with_reducible refine Kd.C_alloc ?_ _) | (with_reducible refine Kd.C_drewN ?_ _) | (with_reducible refine Kd.C_drew ?_))); (case side2 => exact (Kd.R_reads' HO_172000.out).2.1); rintro e w49 ⟨rfl, hb⟩; refine ⟨_, rfl, ?_⟩; have n0_ := Aside0.mk (Kd.R_below (by (with_reducible repeat (first | apply Kd.R_alloc | apply Kd.R_drewN | apply Kd.R_drew)); exact HO_172000.out) hb); have n1_ := Aside0.mk (blk_below (g := gb163) (o := .cells #[.slice A0_0 l0_0.length c0_0, .float .f32 a0_1, .float .f32 a0_2] 44 (0, 0)) (by (with_reducible repeat (first | refine blk_drewN ?_ _ | refine blk_drew ?_ | refine blk_alloc ?_ _)); exact BK163.out) hb); have n2_ := Aside0.mk (blk_below (g := gb164) (o := .cells #[.slice none 0 0, .float .f32 (0 : Nat), .float .f32 (0 : Nat)] 44 (0, 0)) (by (with_reducible repeat (first | refine blk_drewN ?_ _ | refine blk_drew ?_ | refine blk_alloc ?_ _)); exact BK164.out) hb); have n3_ := Aside0.mk (blk_below (g := gb171) (o := .cells #[.slice Ao48 x172000_1.length co48, .float .f32 a0_1, .float .f32 a0_2] 44 (0, 0)) (by (with_reducible repeat (first | refine blk_drewN ?_ _ | refine blk_drew ?_ | refine blk_alloc ?_ _)); exact BK171.out) hb); have n4_ := Aside0.mk (below_step (by repeat (first | (with_reducible first | exact HB.out | apply below_alloc | apply pw_below_drewN | apply below_drew1 | refine below_set ?_ GE163.out | refine below_set ?_ GE164.out | refine below_set ?_ GE171.out) | exact HB.out)) hb); clear HO_172000; clear BK163; clear BK164; clear BK171; clear HB; have HO_172000 := n0_; have BK163 := n1_; have BK164 := n2_; have BK171 := n3_; have HB := n4_; clear n0_ n1_ n2_ n3_ n4_; (try clear hb); (try clear hb2); (try clear hk); (try clear hi); have hnb50 := NB163_164.out; have hnc50 := NB164_163.out; have hcz51_0 : w49.cell? ⟨gb163, 0, none⟩ = some (.slice A0_0 l0_0.length c0_0) := (blk_cell BK163.out 0).trans rfl; have hcz51_1 : w49.cell? ⟨gb163, 1, none⟩ = some (.float .f32 a0_1) := (blk_cell BK163.out 1).trans rfl; have hcz51_2 : w49.cell? ⟨gb163, 2, none⟩ = some (.float .f32 a0_2) := (blk_cell BK163.out 2).trans rfl; have hfz51_0 := blk_frozen BK163.out 0; have hfz51_1 := blk_frozen BK163.out 1; have hfz51_2 := blk_frozen BK163.out 2))
              have n0_ := Aside0.mk (Kd.R_drew HO_172000.out)
              have n1_ := Aside0.mk (blk_drew BK163.out)
              have n2_ := Aside0.mk (blk_drew BK164.out)
              have n3_ := Aside0.mk (blk_drew BK171.out)
              have n4_ := Aside0.mk (below_drew1 HB.out)
              clear HO_172000
              clear BK163
              clear BK164
              clear BK171
              clear HB
              have HO_172000 := n0_
              have BK163 := n1_
              have BK164 := n2_
              have BK171 := n3_
              have HB := n4_
              clear n0_ n1_ n2_ n3_ n4_
              refine start_ (n := 10) (S := fun w' => w'.cell? ⟨gb171, 0, none⟩ = some (.slice Ao48 x172000_1.length co48) ∧ w'.cell? ⟨gb171, 1, none⟩ = some (.float .f32 a0_1) ∧ w'.cell? ⟨gb171, 2, none⟩ = some (.float .f32 a0_2) ∧ w'.cell? ⟨gb163, 0, none⟩ = some (.slice A0_0 l0_0.length c0_0) ∧ w'.cell? ⟨gb163, 1, none⟩ = some (.float .f32 a0_1) ∧ w'.cell? ⟨gb163, 2, none⟩ = some (.float .f32 a0_2)) (ds := [9]) #[false, false, false, false, false, false, false, false, false, false] (by kernel_rfl) rfl rfl ⟨(blk_cell BK171.out 0).trans rfl, (blk_cell BK171.out 1).trans rfl, (blk_cell BK171.out 2).trans rfl, (blk_cell BK163.out 0).trans rfl, (blk_cell BK163.out 1).trans rfl, (blk_cell BK163.out 2).trans rfl⟩ (fun hHeld => ?_); refine with_tabW impl_stepped.tab12 impl_stepped.bits12 (fun HT_ HW_ => ?_)
              generalize w49.drew = w52 at HO_172000 BK163 BK164 BK171 HB hHeld ⊢
              refine pure_ (i := 0) (N := some 72) (v := ?_) (a' := ?_) #[true, false, false, false, false, false, false, false, false, false] rfl rfl (any_of HT_.out (by kernel_rfl)) (fun _ _ _ h => h) (Or.inl ⟨by rfl, ?_⟩) ?_ ?_; rotate_left 4
              refine pure_ (i := 2) (N := some 74) (v := ?_) (a' := ?_) #[true, false, true, false, false, false, false, false, false, false] rfl rfl (any_of HT_.out (by kernel_rfl)) (fun _ _ _ h => h) (Or.inl ⟨by rfl, ?_⟩) ?_ ?_; rotate_left 4
              refine pure_ (i := 4) (N := some 76) (v := ?_) (a' := ?_) #[true, false, true, false, true, false, false, false, false, false] rfl rfl (any_of HT_.out (by kernel_rfl)) (fun _ _ _ h => h) (Or.inl ⟨by rfl, ?_⟩) ?_ ?_; rotate_left 4
              rotate_left; iterate 3 (rotate_left; (intro w'; go_simp; with_reducible rfl); rotate_left; (simp only [Act.put, List.setIfInBounds_toArray, List.set_cons_zero, List.set_cons_succ, i64_w, i32_w]; rfl))
              refine take_ (i := 1) (N := some 73) (v := ?_) (a' := ?_) #[true, true, true, false, true, false, false, false, false, false] rfl rfl (take_ofW HT_.out HW_.out (by kernel_rfl)) (fun _ _ _ h => h) (Or.inl ⟨by rfl, ?_⟩) hHeld ?_ ?_
              rotate_left
              · rintro w' ⟨s0, s1, s2, s3, s4, s5⟩
                go_simp
                with_reducible rfl
              rotate_left
              · simp only [Act.put, List.setIfInBounds_toArray, List.set_cons_zero, List.set_cons_succ, i64_w, i32_w]
                rfl
              refine take_ (i := 3) (N := some 75) (v := ?_) (a' := ?_) #[true, true, true, true, true, false, false, false, false, false] rfl rfl (take_ofW HT_.out HW_.out (by kernel_rfl)) (fun _ _ _ h => h) (Or.inl ⟨by rfl, ?_⟩) hHeld ?_ ?_
              rotate_left
              · rintro w' ⟨s0, s1, s2, s3, s4, s5⟩
                go_simp
                with_reducible rfl
              rotate_left
              · simp only [Act.put, List.setIfInBounds_toArray, List.set_cons_zero, List.set_cons_succ, i64_w, i32_w]
                rfl
              refine pure_ (i := 5) (N := some 77) (v := ?_) (a' := ?_) #[true, true, true, true, true, true, false, false, false, false] rfl rfl (any_of HT_.out (by kernel_rfl)) (fun _ _ _ h => h) (Or.inl ⟨by rfl, ?_⟩) ?_ ?_; rotate_left 4
              rotate_left; iterate 1 (rotate_left; (intro w'; go_simp; with_reducible rfl); rotate_left; (simp only [Act.put, List.setIfInBounds_toArray, List.set_cons_zero, List.set_cons_succ, i64_w, i32_w]; rfl))
              refine one_ (i := 6) (N := some 78) #[true, true, true, true, true, true, true, false, false, false] rfl rfl (one_of HT_.out (by kernel_rfl)) (by decide) (fun K hK => ?_)
              refine goes_ Try.func32 (by kernel_rfl) rfl #[.float .f32 (fq .quo .f32 a0_2 t179)] (by rfl) rfl rfl (by (try simp only [List.map_toArray, List.map_cons, List.map_nil]); first | done | rfl | (simp only [List.length_drop, List.length_take]; rfl)) ?_
              with_reducible refine (impl_RootNumber.calls (fq .quo .f32 a0_2 t179) t181 _ A43.out).mono ?_
              rintro e w' ⟨rfl, ⟨nd, rfl⟩⟩
              refine ⟨_, rfl, ?_⟩
              refine hK.out _ _ ⟨(blk_cell BK171.out 0).trans rfl, (blk_cell BK171.out 1).trans rfl, (blk_cell BK171.out 2).trans rfl, (blk_cell BK163.out 0).trans rfl, (blk_cell BK163.out 1).trans rfl, (blk_cell BK163.out 2).trans rfl⟩ (fun hHeld => ?_)
              clear hK K
              refine norm_ (a' := ?_) ?_ ?_
              rotate_left
              · show Act.put _ (some 78) _ = _
                simp only [Act.put, List.setIfInBounds_toArray, List.set_cons_zero, List.set_cons_succ, i64_w, i32_w]
                rfl
              refine one_ (i := 7) (N := some 79) #[true, true, true, true, true, true, true, true, false, false] rfl rfl (one_of HT_.out (by kernel_rfl)) (by decide) (fun K hK => ?_)
              refine goes_ Try.func34 (by kernel_rfl) rfl #[.slice Ao48 x172000_1.length co48, .float .f32 t181] (by rfl) rfl rfl (by (try simp only [List.map_toArray, List.map_cons, List.map_nil]); first | done | rfl | (simp only [List.length_drop, List.length_take]; rfl)) ?_
              with_reducible refine (impl_scaled.calls k1 _ _ x172000_1 t181 t182 _ ?side1 ?side2 A44.out).mono ?_
              (case side1 => repeat (first | exact (Kd.R_reads' HO_172000.out).2.2 | (with_reducible refine Kd.C_alloc ?_ _) | (with_reducible refine Kd.C_drewN ?_ _) | (with_reducible refine Kd.C_drew ?_)))
              (case side2 => exact (Kd.R_reads' HO_172000.out).2.1)
              rintro e w53 ⟨v183, rfl, ho0, hb⟩
              refine ⟨_, rfl, ?_⟩
              have n0_ := Aside0.mk (Kd.R_elder' (by (with_reducible repeat (first | apply Kd.R_alloc | apply Kd.R_drewN | apply Kd.R_drew)); exact HO_172000.out) (Kd.R_base ho0) hb)
              have n1_ := Aside0.mk (Kd.R_lower (Kd.R_new' ho0 (Kd.R_lt (by (with_reducible repeat (first | apply Kd.R_alloc | apply Kd.R_drewN | apply Kd.R_drew)); exact HO_172000.out))) (below_size (by repeat (first | (with_reducible first | exact HB.out | apply below_alloc | apply pw_below_drewN | apply below_drew1 | refine below_set ?_ GE163.out | refine below_set ?_ GE164.out | refine below_set ?_ GE171.out) | exact HB.out))))
              have n2_ := Aside0.mk (blk_below (g := gb163) (o := .cells #[.slice A0_0 l0_0.length c0_0, .float .f32 a0_1, .float .f32 a0_2] 44 (0, 0)) (by (with_reducible repeat (first | refine blk_drewN ?_ _ | refine blk_drew ?_ | refine blk_alloc ?_ _)); exact BK163.out) hb)
              have n3_ := Aside0.mk (blk_below (g := gb164) (o := .cells #[.slice none 0 0, .float .f32 (0 : Nat), .float .f32 (0 : Nat)] 44 (0, 0)) (by (with_reducible repeat (first | refine blk_drewN ?_ _ | refine blk_drew ?_ | refine blk_alloc ?_ _)); exact BK164.out) hb)
              have n4_ := Aside0.mk (blk_below (g := gb171) (o := .cells #[.slice Ao48 x172000_1.length co48, .float .f32 a0_1, .float .f32 a0_2] 44 (0, 0)) (by (with_reducible repeat (first | refine blk_drewN ?_ _ | refine blk_drew ?_ | refine blk_alloc ?_ _)); exact BK171.out) hb)
              have n5_ := Aside0.mk (below_step (by repeat (first | (with_reducible first | exact HB.out | apply below_alloc | apply pw_below_drewN | apply below_drew1 | refine below_set ?_ GE163.out | refine below_set ?_ GE164.out | refine below_set ?_ GE171.out) | exact HB.out)) hb)
              clear HO_172000
              clear BK163
              clear BK164
              clear BK171
              clear HB
              have HO_172000 := n0_
              have HO184 := n1_
              have BK163 := n2_
              have BK164 := n3_
              have BK171 := n4_
              have HB := n5_
              clear n0_ n1_ n2_ n3_ n4_ n5_
              (try clear hb)
              (try clear hb2)
              (try clear hk)
              (try clear hi)
              (try clear ho0)
              obtain ⟨Ao54, co54, eo54⟩ := Kd.R_slice HO184.out
              (first | subst eo54 | (injection eo54 with f1_ f2_ f3_; have f4_ := f1_.symm; have f5_ := f3_.symm; clear f1_ f2_ f3_; subst f4_; subst f5_))
              refine hK.out _ _ ⟨(blk_cell BK171.out 0).trans rfl, (blk_cell BK171.out 1).trans rfl, (blk_cell BK171.out 2).trans rfl, (blk_cell BK163.out 0).trans rfl, (blk_cell BK163.out 1).trans rfl, (blk_cell BK163.out 2).trans rfl⟩ (fun hHeld => ?_)
              clear hK K
              refine norm_ (a' := ?_) ?_ ?_
              rotate_left
              · show Act.put _ (some 79) _ = _
                simp only [Act.put, List.setIfInBounds_toArray, List.set_cons_zero, List.set_cons_succ, i64_w, i32_w]
                rfl
              refine pure_ (i := 8) (N := some 80) (v := ?_) (a' := ?_) #[true, true, true, true, true, true, true, true, true, false] rfl rfl (any_of HT_.out (by kernel_rfl)) (fun _ _ _ h => h) (Or.inl ⟨by rfl, ?_⟩) ?_ ?_; rotate_left 4
              rotate_left; iterate 1 (rotate_left; (intro w'; go_simp; with_reducible rfl); rotate_left; (simp only [Act.put, List.setIfInBounds_toArray, List.set_cons_zero, List.set_cons_succ, i64_w, i32_w]; rfl))
              refine last_ (i := 9) (N := none) #[true, true, true, true, true, true, true, true, true, true] rfl rfl (one_of HT_.out (by kernel_rfl)) (by decide) (fun K hK => ?_)
              have hs55 : w53.cell? ⟨gb171, 0, none⟩ = some (.slice Ao48 x172000_1.length co48) := (blk_cell BK171.out 0).trans rfl
              have hfs55 := blk_frozen BK171.out 0
              have hns55_0 := NB163_171.out
              have hns55_1 := NB164_171.out
              have hms55_0 := NB171_163.out
              have hms55_1 := NB171_164.out
              refine skip_ (w1 := ?_) (by rfl) rfl ?_ ?_
              rotate_left
              · go_simp
                rfl
              refine hK.out _ _ ?_
              clear hK K
              refine done_ (done_of HT_.out (by kernel_rfl)) ?_
              have hcz56_0 : w53.cell? ⟨gb171, 0, none⟩ = some (.slice Ao48 x172000_1.length co48) := (blk_cell BK171.out 0).trans rfl
              have hcz56_1 : w53.cell? ⟨gb171, 1, none⟩ = some (.float .f32 a0_1) := (blk_cell BK171.out 1).trans rfl
              have hcz56_2 : w53.cell? ⟨gb171, 2, none⟩ = some (.float .f32 a0_2) := (blk_cell BK171.out 2).trans rfl
              have hfz56_0 := blk_frozen BK171.out 0
              have hfz56_1 := blk_frozen BK171.out 1
              have hfz56_2 := blk_frozen BK171.out 2
              have hcz57_0 : w53.cell? ⟨gb164, 0, none⟩ = some (.slice none 0 0) := (blk_cell BK164.out 0).trans rfl
              have hcz57_1 : w53.cell? ⟨gb164, 1, none⟩ = some (.float .f32 (0 : Nat)) := (blk_cell BK164.out 1).trans rfl
              have hcz57_2 : w53.cell? ⟨gb164, 2, none⟩ = some (.float .f32 (0 : Nat)) := (blk_cell BK164.out 2).trans rfl
              have hfz57_0 := blk_frozen BK164.out 0
              have hfz57_1 := blk_frozen BK164.out 1
              have hfz57_2 := blk_frozen BK164.out 2
              try go_wp2
              refine bodyPost_ret (results_ct rfl _ _ gb164 44 #[.slice Ao54 t182.length co54, .float .f32 a0_1, .float .f32 a0_2] (0, 0) _ rfl (by (with_reducible repeat (first | refine blk_drewN ?_ _ | refine blk_drew ?_ | refine blk_alloc ?_ _)); refine blk_put (cs := #[.slice Ao54 t182.length co54, .float .f32 a0_1, .float .f32 (0 : Nat)]) ?_ 2 _ rfl; (with_reducible repeat (first | refine blk_drewN ?_ _ | refine blk_drew ?_ | refine blk_alloc ?_ _)); refine blk_put (cs := #[.slice Ao54 t182.length co54, .float .f32 (0 : Nat), .float .f32 (0 : Nat)]) ?_ 1 _ rfl; (with_reducible repeat (first | refine blk_drewN ?_ _ | refine blk_drew ?_ | refine blk_alloc ?_ _)); refine blk_put (cs := #[.slice none 0 0, .float .f32 (0 : Nat), .float .f32 (0 : Nat)]) ?_ 0 _ rfl; (with_reducible repeat (first | refine blk_drewN ?_ _ | refine blk_drew ?_ | refine blk_alloc ?_ _)); refine blk_far ?_ NB164_171.out _; (with_reducible repeat (first | refine blk_drewN ?_ _ | refine blk_drew ?_ | refine blk_alloc ?_ _)); exact BK164.out) Try.underlying44 rfl (by kernel_rfl)) rfl ?_
              exact ⟨_, by first | rfl | (simp [errW_none, errW_some] <;> rfl) | (simp [*, errW_none, errW_some] <;> rfl), by (with_reducible repeat (first | apply Kd.R_alloc | apply Kd.R_drewN | apply Kd.R_drew)); exact Kd.R_mono (Kd.R_far (p := ⟨gb164, 2, none⟩) (Kd.R_far (p := ⟨gb164, 1, none⟩) (Kd.R_far (p := ⟨gb164, 0, none⟩) (Kd.R_far (p := ⟨gb171, 0, none⟩) (Kd.R_types (Kd.R_types HO184.out BK171.out (by decide)) BK164.out (by decide)) (fun _ hk => hk.1.2) (.slice Ao54 t182.length co54)) (fun _ hk => hk.2) (.slice Ao54 t182.length co54)) (fun _ hk => hk.2) (.float .f32 a0_1)) (fun _ hk => hk.2) (.float .f32 a0_2)) (fun _ hk => trivial), by repeat (first | (with_reducible first | exact HB.out | apply below_alloc | apply pw_below_drewN | apply below_drew1 | refine below_set ?_ GE163.out | refine below_set ?_ GE164.out | refine below_set ?_ GE171.out) | exact HB.out)⟩
           · rw [if_neg c42] at H
             exact absurd H (by simp)
         · rw [if_neg c41] at H
           have c41b0 : (FloatKind.f32.format.order t179 a0_2 == some .gt) = false := by simpa using c41
           (try (have c41b1 : decide (FloatKind.f32.format.order t179 a0_2 = some .gt) = false := by simpa using c41))
           (try (have c41b2 : (FloatKind.f32.format.order t179 a0_2 == some .gt) = false := by simpa using c41))
           (try (have c41b3 : ¬ (FloatKind.f32.format.order t179 a0_2 = some .gt) := by simpa using c41))
           clear c41
           as_aux_lemma =>
            simp only [Option.some.injEq, Prod.mk.injEq] at H
            obtain ⟨rfl, rfl, rfl, rfl⟩ := H
            have hnb58 := NB171_163.out
            have hnc58 := NB163_171.out
            have hnb59 := NB171_164.out
            have hnc59 := NB164_171.out
            have hcz60_0 : wr.cell? ⟨gb171, 0, none⟩ = some (u172000) := (blk_cell BK171.out 0).trans rfl
            have hcz60_1 : wr.cell? ⟨gb171, 1, none⟩ = some (.float .f32 a0_1) := (blk_cell BK171.out 1).trans rfl
            have hcz60_2 : wr.cell? ⟨gb171, 2, none⟩ = some (.float .f32 a0_2) := (blk_cell BK171.out 2).trans rfl
            have hfz60_0 := blk_frozen BK171.out 0
            have hfz60_1 := blk_frozen BK171.out 1
            have hfz60_2 := blk_frozen BK171.out 2
            obtain ⟨Ao61, co61, eo61⟩ := Kd.R_slice HO_172000.out
            subst eo61
            go_wp2_with (first | ((with_reducible refine gate_callee (f := 15) rfl ?_); refine goesL_ (some 65) rfl rfl Try.func15 (by kernel_rfl) rfl #[.slice Ao61 x172000_1.length co61] rfl (by (try simp only [List.map_toArray, List.map_cons, List.map_nil]); first | done | rfl | (simp only [List.length_drop, List.length_take]; rfl)) ?_; (with_reducible refine (impl_PowersOf.calls k1 _ _ x172000_1 t179 t180 _ ?side1 ?side2 A40.out).mono ?_); (case side1 => repeat (first | exact (Kd.R_reads' HO_172000.out).2.2 | (with_reducible refine Kd.C_alloc ?_ _) | (with_reducible refine Kd.C_drewN ?_ _) | (with_reducible refine Kd.C_drew ?_))); (case side2 => exact (Kd.R_reads' HO_172000.out).2.1); rintro e w62 ⟨rfl, hb⟩; refine ⟨_, rfl, ?_⟩; have n0_ := Aside0.mk (Kd.R_below (by (with_reducible repeat (first | apply Kd.R_alloc | apply Kd.R_drewN | apply Kd.R_drew)); exact HO_172000.out) hb); have n1_ := Aside0.mk (blk_below (g := gb163) (o := .cells #[.slice A0_0 l0_0.length c0_0, .float .f32 a0_1, .float .f32 a0_2] 44 (0, 0)) (by (with_reducible repeat (first | refine blk_drewN ?_ _ | refine blk_drew ?_ | refine blk_alloc ?_ _)); exact BK163.out) hb); have n2_ := Aside0.mk (blk_below (g := gb164) (o := .cells #[.slice none 0 0, .float .f32 (0 : Nat), .float .f32 (0 : Nat)] 44 (0, 0)) (by (with_reducible repeat (first | refine blk_drewN ?_ _ | refine blk_drew ?_ | refine blk_alloc ?_ _)); exact BK164.out) hb); have n3_ := Aside0.mk (blk_below (g := gb171) (o := .cells #[.slice Ao61 x172000_1.length co61, .float .f32 a0_1, .float .f32 a0_2] 44 (0, 0)) (by (with_reducible repeat (first | refine blk_drewN ?_ _ | refine blk_drew ?_ | refine blk_alloc ?_ _)); exact BK171.out) hb); have n4_ := Aside0.mk (below_step (by repeat (first | (with_reducible first | exact HB.out | apply below_alloc | apply pw_below_drewN | apply below_drew1 | refine below_set ?_ GE163.out | refine below_set ?_ GE164.out | refine below_set ?_ GE171.out) | exact HB.out)) hb); clear HO_172000; clear BK163; clear BK164; clear BK171; clear HB; have HO_172000 := n0_; have BK163 := n1_; have BK164 := n2_; have BK171 := n3_; have HB := n4_; clear n0_ n1_ n2_ n3_ n4_; (try clear hb); (try clear hb2); (try clear hk); (try clear hi); have hnb63 := NB163_164.out; have hnc63 := NB164_163.out; have hcz64_0 : w62.cell? ⟨gb163, 0, none⟩ = some (.slice A0_0 l0_0.length c0_0) := (blk_cell BK163.out 0).trans rfl; have hcz64_1 : w62.cell? ⟨gb163, 1, none⟩ = some (.float .f32 a0_1) := (blk_cell BK163.out 1).trans rfl; have hcz64_2 : w62.cell? ⟨gb163, 2, none⟩ = some (.float .f32 a0_2) := (blk_cell BK163.out 2).trans rfl; have hfz64_0 := blk_frozen BK163.out 0; have hfz64_1 := blk_frozen BK163.out 1; have hfz64_2 := blk_frozen BK163.out 2; have hcz65_0 : w62.cell? ⟨gb171, 0, none⟩ = some (.slice Ao61 x172000_1.length co61) := (blk_cell BK171.out 0).trans rfl; have hcz65_1 : w62.cell? ⟨gb171, 1, none⟩ = some (.float .f32 a0_1) := (blk_cell BK171.out 1).trans rfl; have hcz65_2 : w62.cell? ⟨gb171, 2, none⟩ = some (.float .f32 a0_2) := (blk_cell BK171.out 2).trans rfl; have hfz65_0 := blk_frozen BK171.out 0; have hfz65_1 := blk_frozen BK171.out 1; have hfz65_2 := blk_frozen BK171.out 2; have hcz66_0 : w62.cell? ⟨gb164, 0, none⟩ = some (.slice none 0 0) := (blk_cell BK164.out 0).trans rfl; have hcz66_1 : w62.cell? ⟨gb164, 1, none⟩ = some (.float .f32 (0 : Nat)) := (blk_cell BK164.out 1).trans rfl; have hcz66_2 : w62.cell? ⟨gb164, 2, none⟩ = some (.float .f32 (0 : Nat)) := (blk_cell BK164.out 2).trans rfl; have hfz66_0 := blk_frozen BK164.out 0; have hfz66_1 := blk_frozen BK164.out 1; have hfz66_2 := blk_frozen BK164.out 2))
            refine bodyPost_ret (results_ct rfl _ _ gb164 44 #[.slice Ao61 x172000_1.length co61, .float .f32 a0_1, .float .f32 a0_2] (0, 0) _ rfl (by (with_reducible repeat (first | refine blk_drewN ?_ _ | refine blk_drew ?_ | refine blk_alloc ?_ _)); refine blk_put (cs := #[.slice Ao61 x172000_1.length co61, .float .f32 a0_1, .float .f32 (0 : Nat)]) ?_ 2 _ rfl; (with_reducible repeat (first | refine blk_drewN ?_ _ | refine blk_drew ?_ | refine blk_alloc ?_ _)); refine blk_put (cs := #[.slice Ao61 x172000_1.length co61, .float .f32 (0 : Nat), .float .f32 (0 : Nat)]) ?_ 1 _ rfl; (with_reducible repeat (first | refine blk_drewN ?_ _ | refine blk_drew ?_ | refine blk_alloc ?_ _)); refine blk_put (cs := #[.slice none 0 0, .float .f32 (0 : Nat), .float .f32 (0 : Nat)]) ?_ 0 _ rfl; (with_reducible repeat (first | refine blk_drewN ?_ _ | refine blk_drew ?_ | refine blk_alloc ?_ _)); exact BK164.out) Try.underlying44 rfl (by kernel_rfl)) rfl ?_
            exact ⟨_, by first | rfl | (simp [errW_none, errW_some] <;> rfl) | (simp [*, errW_none, errW_some] <;> rfl), by (with_reducible repeat (first | apply Kd.R_alloc | apply Kd.R_drewN | apply Kd.R_drew)); exact Kd.R_mono (Kd.R_far (p := ⟨gb164, 2, none⟩) (Kd.R_far (p := ⟨gb164, 1, none⟩) (Kd.R_far (p := ⟨gb164, 0, none⟩) (Kd.R_types HO_172000.out BK164.out (by decide)) (fun _ hk => hk.2) (.slice Ao61 x172000_1.length co61)) (fun _ hk => hk.2) (.float .f32 a0_1)) (fun _ hk => hk.2) (.float .f32 a0_2)) (fun _ hk => trivial), by repeat (first | (with_reducible first | exact HB.out | apply below_alloc | apply pw_below_drewN | apply below_drew1 | refine below_set ?_ GE163.out | refine below_set ?_ GE164.out | refine below_set ?_ GE171.out) | exact HB.out)⟩
   · rw [if_neg c9] at H
     exact absurd H (by simp)
 · rw [if_neg c8] at H
   exact absurd H (by simp)

/-! ### impl_StepAdapter: function 20 -/
def impl_StepAdapter.f (k : Nat) (l0_0 : List C64) (a0_1 : Nat) (a0_2 : Nat) (l1 : List C64) (a2 : C64) : Option (List C64 × Nat × Nat × C64 × Bool) := (impl_ValidAdapter.f l0_0 a0_1 a0_2).bind fun t187 => (if t187 = true then (if (l1.length : Int) = (l0_0.length : Int) then ((impl_stepped.f k l0_0 a0_1 a0_2 l1 a2).bind fun bt188 => (some (bt188.1, bt188.2.1, bt188.2.2.1, bt188.2.2.2, true))) else (none)) else (none))
theorem impl_StepAdapter.mono : ∀ a0 a1 a2 a3 a4 k, LeO (impl_StepAdapter.f k a0 a1 a2 a3 a4) (impl_StepAdapter.f (k + 1) a0 a1 a2 a3 a4) := by
 intro a0 a1 a2 a3 a4 k
 unfold impl_StepAdapter.f
 repeat' first
  | (with_reducible exact impl_stepped.mono _ _ _ _ _ _)
  | (with_reducible exact LeO.refl _)
  | (with_reducible exact LeO.none _)
  | (with_reducible refine LeO.ite ?_ ?_)
  | (with_reducible refine LeO.bind ?_ (fun _ => ?_))
  | exact impl_stepped.mono _ _ _ _ _ _
  | exact LeO.none _
  | refine LeO.ite ?_ ?_
  | refine LeO.bind ?_ (fun _ => ?_)
set_option maxHeartbeats 8000000 in
set_option maxRecDepth 100000 in
theorem impl_StepAdapter.calls (k : Nat) (A0_0 : Option Addr) (c0_0 : Nat) (l0_0 : List C64) (a0_1 : Nat) (a0_2 : Nat) (A1 : Option Addr) (c1 : Nat) (l1 : List C64) (a2 : C64) (r1 : List C64) (r2 : Nat) (r3 : Nat) (r4 : C64) (r5 : Bool) (w : World) (hr0_0 : Kd.C Kd.c64 w A0_0 l0_0.length l0_0) (hc0_0 : l0_0.length ≤ c0_0) (hr1 : Kd.C Kd.c64 w A1 l1.length l1) (hc1 : l1.length ≤ c1) (h : impl_StepAdapter.f k l0_0 a0_1 a0_2 l1 a2 = some (r1, r2, r3, r4, r5)) :
 Calls Try.prog 20 #[.agg #[.slice A0_0 l0_0.length c0_0, .float .f32 a0_1, .float .f32 a0_2], .slice A1 l1.length c1, .complex .f32 a2.re a2.im] w fun e w' => ∃ v0_ : Value, e = .returned (.tuple #[.agg #[v0_, .float .f32 r2, .float .f32 r3], .complex .f32 r4.re r4.im, .bool r5]) ∧ Kd.R Kd.c64 30 w' w.heap.size (fun _ => True) v0_ r1 ∧ Below w.heap.size w w' := by
 have hu44 := Try.underlying44
 have HR0_0 := Aside0.mk hr0_0
 have HC0_0 := Aside0.mk hc0_0
 clear hr0_0 hc0_0
 have HR1 := Aside0.mk hr1
 have HC1 := Aside0.mk hc1
 clear hr1 hc1
 have HB := Aside0.mk (Below.refl w.heap.size w)
 have H : ((impl_ValidAdapter.f l0_0 a0_1 a0_2).bind fun t187 => (if t187 = true then (if (l1.length : Int) = (l0_0.length : Int) then ((impl_stepped.f k l0_0 a0_1 a0_2 l1 a2).bind fun bt188 => (some (bt188.1, bt188.2.1, bt188.2.2.1, bt188.2.2.2, true))) else (none)) else (none))) = some (r1, r2, r3, r4, r5) := h
 clear h
 replace H := Option.bind_eq_some_iff.mp H
 obtain ⟨t187, A40, H⟩ := H
 replace H : (if t187 = true then (if (l1.length : Int) = (l0_0.length : Int) then ((impl_stepped.f k l0_0 a0_1 a0_2 l1 a2).bind fun bt188 => (some (bt188.1, bt188.2.1, bt188.2.2.1, bt188.2.2.2, true))) else (none)) else (none)) = some (r1, r2, r3, r4, r5) := H
 have A4 := Aside0.mk A40
 clear A40
 by_cases c5 : t187 = true
 · subst c5
   have H1 : (if (l1.length : Int) = (l0_0.length : Int) then ((impl_stepped.f k l0_0 a0_1 a0_2 l1 a2).bind fun bt188 => (some (bt188.1, bt188.2.1, bt188.2.2.1, bt188.2.2.2, true))) else (none)) = some (r1, r2, r3, r4, r5) := by rw [if_pos rfl] at H; exact H
   clear H
   have H := H1
   clear H1
   by_cases c6 : (l1.length : Int) = (l0_0.length : Int)
   · rw [if_pos c6] at H
     have c6b0 : ((l1.length : Int) == (l0_0.length : Int)) = true := beq_iff_eq.mpr c6
     have c6b1 : ((l1.length : Int) != (l0_0.length : Int)) = false := bne_eq_false_iff_eq.mpr c6
     have c6b2 : (l1.length == l0_0.length) = true := by first | simpa using c6 | (simp at c6 ⊢; omega)
     clear c6
     replace H := Option.bind_eq_some_iff.mp H
     obtain ⟨⟨t188, t191, t192, t193⟩, A70, H⟩ := H
     replace H : (some (t188, t191, t192, t193, true)) = some (r1, r2, r3, r4, r5) := H
     have A7 := Aside0.mk A70
     clear A70
     as_aux_lemma =>
      simp only [Option.some.injEq, Prod.mk.injEq] at H
      obtain ⟨rfl, rfl, rfl, rfl, rfl⟩ := H
      go_enter Try.func20, Try.ntmps20
      go_wp2_with (first | ((with_reducible refine gate_dst (N := 3) rfl ?_); (try (refine gate_guard (by rfl) ?_; dsimp only)); refine box_event ?hg (N := 3) ?hd (cs := #[.slice A0_0 l0_0.length c0_0, .float .f32 a0_1, .float .f32 a0_2]) (t := 44) ?hr ?_; (case hd => rfl); (case hg => rfl); (case hr => first | (go_simp; done) | (go_simp; rfl)); intro gb185 hg w8 hbox hb; have n0_ := Aside0.mk (below_step (by repeat (first | (with_reducible first | exact HB.out | apply below_alloc | apply pw_below_drewN | apply below_drew1) | exact HB.out)) hb); have n1_ := Aside0.mk (hbox); have n2_ := Aside0.mk ((by rw [hg]; exact (below_size (by repeat (first | (with_reducible first | exact HB.out | apply below_alloc | apply pw_below_drewN | apply below_drew1) | exact HB.out))) : w.heap.size ≤ gb185)); have n3_ := Aside0.mk ((by rw [hg]; exact (below_size (by repeat (first | (with_reducible first | exact HB.out | apply below_alloc | apply pw_below_drewN | apply below_drew1) | exact HB.out))) : w.heap.size ≤ gb185)); clear HB; have HB := n0_; have BK185 := n1_; have GW185 := n2_; have GE185 := n3_; clear n0_ n1_ n2_ n3_; clear hb hbox hg) | ((with_reducible refine gate_dst (N := 6) rfl ?_); (try (refine gate_guard (by rfl) ?_; dsimp only)); refine box_event ?hg (N := 6) ?hd (cs := #[.slice none 0 0, .float .f32 (0 : Nat), .float .f32 (0 : Nat)]) (t := 44) ?hr ?_; (case hd => rfl); (case hg => rfl); (case hr => first | (go_simp; done) | (go_simp; rfl)); intro gb186 hg w9 hbox hb; have n0_ := Aside0.mk (blk_below (g := gb185) (o := .cells #[.slice A0_0 l0_0.length c0_0, .float .f32 a0_1, .float .f32 a0_2] 44 (0, 0)) (by (with_reducible repeat (first | refine blk_drewN ?_ _ | refine blk_drew ?_ | refine blk_alloc ?_ _)); exact BK185.out) hb); have n1_ := Aside0.mk (below_step (by repeat (first | (with_reducible first | exact HB.out | apply below_alloc | apply pw_below_drewN | apply below_drew1 | refine below_set ?_ GE185.out) | exact HB.out)) hb); have n2_ := Aside0.mk (hbox); have n3_ := Aside0.mk ((by rw [hg]; exact (below_size (by repeat (first | (with_reducible first | exact HB.out | apply below_alloc | apply pw_below_drewN | apply below_drew1 | refine below_set ?_ GE185.out) | exact HB.out))) : w.heap.size ≤ gb186)); have n4_ := Aside0.mk ((by rw [hg]; exact (below_size (by repeat (first | (with_reducible first | exact HB.out | apply below_alloc | apply pw_below_drewN | apply below_drew1 | refine below_set ?_ GE185.out) | exact HB.out))) : w.heap.size ≤ gb186)); have n5_ := Aside0.mk ((by rw [hg]; exact Nat.ne_of_lt (blk_lt (g := gb185) (o := .cells #[.slice A0_0 l0_0.length c0_0, .float .f32 a0_1, .float .f32 a0_2] 44 (0, 0)) (by (with_reducible repeat (first | refine blk_drewN ?_ _ | refine blk_drew ?_ | refine blk_alloc ?_ _)); exact BK185.out)) : gb185 ≠ gb186)); have n6_ := Aside0.mk ((by rw [hg]; exact Nat.ne_of_gt (blk_lt (g := gb185) (o := .cells #[.slice A0_0 l0_0.length c0_0, .float .f32 a0_1, .float .f32 a0_2] 44 (0, 0)) (by (with_reducible repeat (first | refine blk_drewN ?_ _ | refine blk_drew ?_ | refine blk_alloc ?_ _)); exact BK185.out)) : gb186 ≠ gb185)); clear BK185; clear HB; have BK185 := n0_; have HB := n1_; have BK186 := n2_; have GW186 := n3_; have GE186 := n4_; have NB185_186 := n5_; have NB186_185 := n6_; clear n0_ n1_ n2_ n3_ n4_ n5_ n6_; clear hb hbox hg; have hnb10 := NB185_186.out; have hnc10 := NB186_185.out; have hcz11_0 : w9.cell? ⟨gb185, 0, none⟩ = some (.slice A0_0 l0_0.length c0_0) := (blk_cell BK185.out 0).trans rfl; have hcz11_1 : w9.cell? ⟨gb185, 1, none⟩ = some (.float .f32 a0_1) := (blk_cell BK185.out 1).trans rfl; have hcz11_2 : w9.cell? ⟨gb185, 2, none⟩ = some (.float .f32 a0_2) := (blk_cell BK185.out 2).trans rfl; have hfz11_0 := blk_frozen BK185.out 0; have hfz11_1 := blk_frozen BK185.out 1; have hfz11_2 := blk_frozen BK185.out 2) | ((with_reducible refine gate_callee (f := 22) rfl ?_); refine goesL_ (some 12) rfl rfl Try.func22 (by kernel_rfl) rfl #[.agg #[.slice A0_0 l0_0.length c0_0, .float .f32 a0_1, .float .f32 a0_2]] rfl (by (try simp only [List.map_toArray, List.map_cons, List.map_nil]); first | done | rfl | (simp only [List.length_drop, List.length_take]; rfl)) ?_; (with_reducible refine (impl_ValidAdapter.calls _ _ l0_0 a0_1 a0_2 true _ ?side1 ?side2 A4.out).mono ?_); (case side1 => repeat (first | exact (Kd.C_below HR0_0.out HB.out) | (with_reducible refine Kd.C_alloc ?_ _) | (with_reducible refine Kd.C_drewN ?_ _) | (with_reducible refine Kd.C_drew ?_))); (case side2 => exact HC0_0.out); rintro e w12 ⟨rfl, hb⟩; refine ⟨_, rfl, ?_⟩; have n0_ := Aside0.mk (blk_below (g := gb185) (o := .cells #[.slice A0_0 l0_0.length c0_0, .float .f32 a0_1, .float .f32 a0_2] 44 (0, 0)) (by (with_reducible repeat (first | refine blk_drewN ?_ _ | refine blk_drew ?_ | refine blk_alloc ?_ _)); exact BK185.out) hb); have n1_ := Aside0.mk (blk_below (g := gb186) (o := .cells #[.slice none 0 0, .float .f32 (0 : Nat), .float .f32 (0 : Nat)] 44 (0, 0)) (by (with_reducible repeat (first | refine blk_drewN ?_ _ | refine blk_drew ?_ | refine blk_alloc ?_ _)); exact BK186.out) hb); have n2_ := Aside0.mk (below_step (by repeat (first | (with_reducible first | exact HB.out | apply below_alloc | apply pw_below_drewN | apply below_drew1 | refine below_set ?_ GE185.out | refine below_set ?_ GE186.out) | exact HB.out)) hb); clear BK185; clear BK186; clear HB; have BK185 := n0_; have BK186 := n1_; have HB := n2_; clear n0_ n1_ n2_; (try clear hb); (try clear hb2); (try clear hk); (try clear hi); have hcz13_0 : w12.cell? ⟨gb185, 0, none⟩ = some (.slice A0_0 l0_0.length c0_0) := (blk_cell BK185.out 0).trans rfl; have hcz13_1 : w12.cell? ⟨gb185, 1, none⟩ = some (.float .f32 a0_1) := (blk_cell BK185.out 1).trans rfl; have hcz13_2 : w12.cell? ⟨gb185, 2, none⟩ = some (.float .f32 a0_2) := (blk_cell BK185.out 2).trans rfl; have hfz13_0 := blk_frozen BK185.out 0; have hfz13_1 := blk_frozen BK185.out 1; have hfz13_2 := blk_frozen BK185.out 2) | ((with_reducible refine gate_callee (f := 38) rfl ?_); refine goesL_ (some 27) rfl rfl Try.func38 (by kernel_rfl) rfl #[.agg #[.slice A0_0 l0_0.length c0_0, .float .f32 a0_1, .float .f32 a0_2], .slice A1 l1.length c1, .complex .f32 a2.re a2.im] rfl (by (try simp only [List.map_toArray, List.map_cons, List.map_nil]); first | done | rfl | (simp only [List.length_drop, List.length_take]; rfl)) ?_; (with_reducible refine (impl_stepped.calls k _ _ l0_0 a0_1 a0_2 _ _ l1 a2 t188 t191 t192 t193 _ ?side1 ?side2 ?side3 ?side4 A7.out).mono ?_); (case side1 => repeat (first | exact (Kd.C_below HR0_0.out HB.out) | (with_reducible refine Kd.C_alloc ?_ _) | (with_reducible refine Kd.C_drewN ?_ _) | (with_reducible refine Kd.C_drew ?_))); (case side2 => exact HC0_0.out); (case side3 => repeat (first | exact (Kd.C_below HR1.out HB.out) | (with_reducible refine Kd.C_alloc ?_ _) | (with_reducible refine Kd.C_drewN ?_ _) | (with_reducible refine Kd.C_drew ?_))); (case side4 => exact HC1.out); rintro e w14 ⟨v189, rfl, ho0, hb⟩; refine ⟨_, rfl, ?_⟩; have n0_ := Aside0.mk (Kd.R_lower ho0 (below_size (by repeat (first | (with_reducible first | exact HB.out | apply below_alloc | apply pw_below_drewN | apply below_drew1 | refine below_set ?_ GE185.out | refine below_set ?_ GE186.out) | exact HB.out)))); have n1_ := Aside0.mk (blk_below (g := gb185) (o := .cells #[.slice A0_0 l0_0.length c0_0, .float .f32 a0_1, .float .f32 a0_2] 44 (0, 0)) (by (with_reducible repeat (first | refine blk_drewN ?_ _ | refine blk_drew ?_ | refine blk_alloc ?_ _)); exact BK185.out) hb); have n2_ := Aside0.mk (blk_below (g := gb186) (o := .cells #[.slice none 0 0, .float .f32 (0 : Nat), .float .f32 (0 : Nat)] 44 (0, 0)) (by (with_reducible repeat (first | refine blk_drewN ?_ _ | refine blk_drew ?_ | refine blk_alloc ?_ _)); exact BK186.out) hb); have n3_ := Aside0.mk (below_step (by repeat (first | (with_reducible first | exact HB.out | apply below_alloc | apply pw_below_drewN | apply below_drew1 | refine below_set ?_ GE185.out | refine below_set ?_ GE186.out) | exact HB.out)) hb); clear BK185; clear BK186; clear HB; have HO190 := n0_; have BK185 := n1_; have BK186 := n2_; have HB := n3_; clear n0_ n1_ n2_ n3_; (try clear hb); (try clear hb2); (try clear hk); (try clear hi); (try clear ho0)) | ((with_reducible refine gate_dst (N := 9) rfl ?_); (try (refine gate_guard (by rfl) ?_; dsimp only)); refine box_event ?hg (N := 9) ?hd (cs := #[.slice none 0 0, .float .f32 (0 : Nat), .float .f32 (0 : Nat)]) (t := 44) ?hr ?_; (case hd => rfl); (case hg => rfl); (case hr => first | (go_simp; done) | (go_simp; rfl)); intro gb194 hg w15 hbox hb; have n0_ := Aside0.mk (Kd.R_below (by (with_reducible repeat (first | apply Kd.R_alloc | apply Kd.R_drewN | apply Kd.R_drew)); exact HO190.out) hb); have n1_ := Aside0.mk (blk_below (g := gb185) (o := .cells #[.slice A0_0 l0_0.length c0_0, .float .f32 a0_1, .float .f32 a0_2] 44 (0, 0)) (by (with_reducible repeat (first | refine blk_drewN ?_ _ | refine blk_drew ?_ | refine blk_alloc ?_ _)); exact BK185.out) hb); have n2_ := Aside0.mk (blk_below (g := gb186) (o := .cells #[.slice none 0 0, .float .f32 (0 : Nat), .float .f32 (0 : Nat)] 44 (0, 0)) (by (with_reducible repeat (first | refine blk_drewN ?_ _ | refine blk_drew ?_ | refine blk_alloc ?_ _)); exact BK186.out) hb); have n3_ := Aside0.mk (below_step (by repeat (first | (with_reducible first | exact HB.out | apply below_alloc | apply pw_below_drewN | apply below_drew1 | refine below_set ?_ GE185.out | refine below_set ?_ GE186.out) | exact HB.out)) hb); have n4_ := Aside0.mk (hbox); have n5_ := Aside0.mk ((by rw [hg]; exact (below_size (by repeat (first | (with_reducible first | exact HB.out | apply below_alloc | apply pw_below_drewN | apply below_drew1 | refine below_set ?_ GE185.out | refine below_set ?_ GE186.out) | exact HB.out))) : w.heap.size ≤ gb194)); have n6_ := Aside0.mk ((by rw [hg]; exact (below_size (by repeat (first | (with_reducible first | exact HB.out | apply below_alloc | apply pw_below_drewN | apply below_drew1 | refine below_set ?_ GE185.out | refine below_set ?_ GE186.out) | exact HB.out))) : w.heap.size ≤ gb194)); have n7_ := Aside0.mk ((by rw [hg]; exact Nat.ne_of_lt (blk_lt (g := gb185) (o := .cells #[.slice A0_0 l0_0.length c0_0, .float .f32 a0_1, .float .f32 a0_2] 44 (0, 0)) (by (with_reducible repeat (first | refine blk_drewN ?_ _ | refine blk_drew ?_ | refine blk_alloc ?_ _)); exact BK185.out)) : gb185 ≠ gb194)); have n8_ := Aside0.mk ((by rw [hg]; exact Nat.ne_of_gt (blk_lt (g := gb185) (o := .cells #[.slice A0_0 l0_0.length c0_0, .float .f32 a0_1, .float .f32 a0_2] 44 (0, 0)) (by (with_reducible repeat (first | refine blk_drewN ?_ _ | refine blk_drew ?_ | refine blk_alloc ?_ _)); exact BK185.out)) : gb194 ≠ gb185)); have n9_ := Aside0.mk ((by rw [hg]; exact Nat.ne_of_lt (blk_lt (g := gb186) (o := .cells #[.slice none 0 0, .float .f32 (0 : Nat), .float .f32 (0 : Nat)] 44 (0, 0)) (by (with_reducible repeat (first | refine blk_drewN ?_ _ | refine blk_drew ?_ | refine blk_alloc ?_ _)); exact BK186.out)) : gb186 ≠ gb194)); have n10_ := Aside0.mk ((by rw [hg]; exact Nat.ne_of_gt (blk_lt (g := gb186) (o := .cells #[.slice none 0 0, .float .f32 (0 : Nat), .float .f32 (0 : Nat)] 44 (0, 0)) (by (with_reducible repeat (first | refine blk_drewN ?_ _ | refine blk_drew ?_ | refine blk_alloc ?_ _)); exact BK186.out)) : gb194 ≠ gb186)); clear HO190; clear BK185; clear BK186; clear HB; have HO190 := n0_; have BK185 := n1_; have BK186 := n2_; have HB := n3_; have BK194 := n4_; have GW194 := n5_; have GE194 := n6_; have NB185_194 := n7_; have NB194_185 := n8_; have NB186_194 := n9_; have NB194_186 := n10_; clear n0_ n1_ n2_ n3_ n4_ n5_ n6_ n7_ n8_ n9_ n10_; clear hb hbox hg; obtain ⟨Ao16, co16, eo16⟩ := Kd.R_slice HO190.out; subst eo16; have hnb17 := NB194_185.out; have hnc17 := NB185_194.out; have hnb18 := NB194_186.out; have hnc18 := NB186_194.out; have hcz19_0 : w15.cell? ⟨gb194, 0, none⟩ = some (.slice none 0 0) := (blk_cell BK194.out 0).trans rfl; have hcz19_1 : w15.cell? ⟨gb194, 1, none⟩ = some (.float .f32 (0 : Nat)) := (blk_cell BK194.out 1).trans rfl; have hcz19_2 : w15.cell? ⟨gb194, 2, none⟩ = some (.float .f32 (0 : Nat)) := (blk_cell BK194.out 2).trans rfl; have hfz19_0 := blk_frozen BK194.out 0; have hfz19_1 := blk_frozen BK194.out 1; have hfz19_2 := blk_frozen BK194.out 2; have hcz20_0 : w15.cell? ⟨gb186, 0, none⟩ = some (.slice none 0 0) := (blk_cell BK186.out 0).trans rfl; have hcz20_1 : w15.cell? ⟨gb186, 1, none⟩ = some (.float .f32 (0 : Nat)) := (blk_cell BK186.out 1).trans rfl; have hcz20_2 : w15.cell? ⟨gb186, 2, none⟩ = some (.float .f32 (0 : Nat)) := (blk_cell BK186.out 2).trans rfl; have hfz20_0 := blk_frozen BK186.out 0; have hfz20_1 := blk_frozen BK186.out 1; have hfz20_2 := blk_frozen BK186.out 2))
      refine bodyPost_ret (results_ctt rfl _ _ gb186 44 #[.slice Ao16 t188.length co16, .float .f32 t191, .float .f32 t192] (0, 0) _ rfl (by (with_reducible repeat (first | refine blk_drewN ?_ _ | refine blk_drew ?_ | refine blk_alloc ?_ _)); refine blk_put (cs := #[.slice Ao16 t188.length co16, .float .f32 t191, .float .f32 (0 : Nat)]) ?_ 2 _ rfl; (with_reducible repeat (first | refine blk_drewN ?_ _ | refine blk_drew ?_ | refine blk_alloc ?_ _)); refine blk_put (cs := #[.slice Ao16 t188.length co16, .float .f32 (0 : Nat), .float .f32 (0 : Nat)]) ?_ 1 _ rfl; (with_reducible repeat (first | refine blk_drewN ?_ _ | refine blk_drew ?_ | refine blk_alloc ?_ _)); refine blk_put (cs := #[.slice none 0 0, .float .f32 (0 : Nat), .float .f32 (0 : Nat)]) ?_ 0 _ rfl; (with_reducible repeat (first | refine blk_drewN ?_ _ | refine blk_drew ?_ | refine blk_alloc ?_ _)); refine blk_far ?_ NB186_194.out _; (with_reducible repeat (first | refine blk_drewN ?_ _ | refine blk_drew ?_ | refine blk_alloc ?_ _)); refine blk_far ?_ NB186_194.out _; (with_reducible repeat (first | refine blk_drewN ?_ _ | refine blk_drew ?_ | refine blk_alloc ?_ _)); refine blk_far ?_ NB186_194.out _; (with_reducible repeat (first | refine blk_drewN ?_ _ | refine blk_drew ?_ | refine blk_alloc ?_ _)); exact BK186.out) Try.underlying44 rfl (by kernel_rfl)) rfl ?_
      exact ⟨_, by first | rfl | (simp [errW_none, errW_some] <;> rfl) | (simp [*, errW_none, errW_some] <;> rfl), by (with_reducible repeat (first | apply Kd.R_alloc | apply Kd.R_drewN | apply Kd.R_drew)); exact Kd.R_mono (Kd.R_far (p := ⟨gb186, 2, none⟩) (Kd.R_far (p := ⟨gb186, 1, none⟩) (Kd.R_far (p := ⟨gb186, 0, none⟩) (Kd.R_far (p := ⟨gb194, 2, none⟩) (Kd.R_far (p := ⟨gb194, 1, none⟩) (Kd.R_far (p := ⟨gb194, 0, none⟩) (Kd.R_types (Kd.R_types HO190.out BK194.out (by decide)) BK186.out (by decide)) (fun _ hk => hk.1.2) (.slice Ao16 t188.length co16)) (fun _ hk => hk.1.2) (.float .f32 t191)) (fun _ hk => hk.1.2) (.float .f32 t192)) (fun _ hk => hk.2) (.slice Ao16 t188.length co16)) (fun _ hk => hk.2) (.float .f32 t191)) (fun _ hk => hk.2) (.float .f32 t192)) (fun _ hk => trivial), by repeat (first | (with_reducible first | exact HB.out | apply below_alloc | apply pw_below_drewN | apply below_drew1 | refine below_set ?_ GE185.out | refine below_set ?_ GE186.out | refine below_set ?_ GE194.out) | exact HB.out)⟩
   · rw [if_neg c6] at H
     have c6b0 : ((l1.length : Int) == (l0_0.length : Int)) = false := beq_eq_false_iff_ne.mpr c6
     have c6b1 : ((l1.length : Int) != (l0_0.length : Int)) = true := bne_iff_ne.mpr c6
     have c6b2 : (l1.length == l0_0.length) = false := by first | simpa using c6 | (simp at c6 ⊢; omega)
     exact absurd H (by simp)
 · replace c5 := Bool.eq_false_iff.mpr c5
   subst c5
   have H1 : (none) = some (r1, r2, r3, r4, r5) := by rw [if_neg (show ¬ (false = true) by decide)] at H; exact H
   clear H
   have H := H1
   clear H1
   exact absurd H (by simp)

/-! ### impl_OutputOf: function 21 -/
def impl_OutputOf.f (k : Nat) (l0_0 : List C64) (a0_1 : Nat) (a0_2 : Nat) (l1 : List C64) : Option (C64 × Bool) := (impl_ValidAdapter.f l0_0 a0_1 a0_2).bind fun t196 => (if t196 = true then (if (l1.length : Int) = (l0_0.length : Int) then ((impl_outputOf.f k l0_0 a0_1 a0_2 l1).bind fun t197 => (some (t197, true))) else (none)) else (none))
theorem impl_OutputOf.mono : ∀ a0 a1 a2 a3 k, LeO (impl_OutputOf.f k a0 a1 a2 a3) (impl_OutputOf.f (k + 1) a0 a1 a2 a3) := by
 intro a0 a1 a2 a3 k
 unfold impl_OutputOf.f
 repeat' first
  | (with_reducible exact impl_outputOf.mono _ _ _ _ _)
  | (with_reducible exact LeO.refl _)
  | (with_reducible exact LeO.none _)
  | (with_reducible refine LeO.ite ?_ ?_)
  | (with_reducible refine LeO.bind ?_ (fun _ => ?_))
  | exact impl_outputOf.mono _ _ _ _ _
  | exact LeO.none _
  | refine LeO.ite ?_ ?_
  | refine LeO.bind ?_ (fun _ => ?_)
set_option maxHeartbeats 8000000 in
set_option maxRecDepth 100000 in
theorem impl_OutputOf.calls (k : Nat) (A0_0 : Option Addr) (c0_0 : Nat) (l0_0 : List C64) (a0_1 : Nat) (a0_2 : Nat) (A1 : Option Addr) (c1 : Nat) (l1 : List C64) (r1 : C64) (r2 : Bool) (w : World) (hr0_0 : Kd.C Kd.c64 w A0_0 l0_0.length l0_0) (hc0_0 : l0_0.length ≤ c0_0) (hr1 : Kd.C Kd.c64 w A1 l1.length l1) (hc1 : l1.length ≤ c1) (h : impl_OutputOf.f k l0_0 a0_1 a0_2 l1 = some (r1, r2)) :
 Calls Try.prog 21 #[.agg #[.slice A0_0 l0_0.length c0_0, .float .f32 a0_1, .float .f32 a0_2], .slice A1 l1.length c1] w fun e w' => e = .returned (.tuple #[.complex .f32 r1.re r1.im, .bool r2]) ∧ Below w.heap.size w w' := by
 have hu44 := Try.underlying44
 have HR0_0 := Aside0.mk hr0_0
 have HC0_0 := Aside0.mk hc0_0
 clear hr0_0 hc0_0
 have HR1 := Aside0.mk hr1
 have HC1 := Aside0.mk hc1
 clear hr1 hc1
 have HB := Aside0.mk (Below.refl w.heap.size w)
 have H : ((impl_ValidAdapter.f l0_0 a0_1 a0_2).bind fun t196 => (if t196 = true then (if (l1.length : Int) = (l0_0.length : Int) then ((impl_outputOf.f k l0_0 a0_1 a0_2 l1).bind fun t197 => (some (t197, true))) else (none)) else (none))) = some (r1, r2) := h
 clear h
 replace H := Option.bind_eq_some_iff.mp H
 obtain ⟨t196, A30, H⟩ := H
 replace H : (if t196 = true then (if (l1.length : Int) = (l0_0.length : Int) then ((impl_outputOf.f k l0_0 a0_1 a0_2 l1).bind fun t197 => (some (t197, true))) else (none)) else (none)) = some (r1, r2) := H
 have A3 := Aside0.mk A30
 clear A30
 by_cases c4 : t196 = true
 · subst c4
   have H1 : (if (l1.length : Int) = (l0_0.length : Int) then ((impl_outputOf.f k l0_0 a0_1 a0_2 l1).bind fun t197 => (some (t197, true))) else (none)) = some (r1, r2) := by rw [if_pos rfl] at H; exact H
   clear H
   have H := H1
   clear H1
   by_cases c5 : (l1.length : Int) = (l0_0.length : Int)
   · rw [if_pos c5] at H
     have c5b0 : ((l1.length : Int) == (l0_0.length : Int)) = true := beq_iff_eq.mpr c5
     have c5b1 : ((l1.length : Int) != (l0_0.length : Int)) = false := bne_eq_false_iff_eq.mpr c5
     have c5b2 : (l1.length == l0_0.length) = true := by first | simpa using c5 | (simp at c5 ⊢; omega)
     clear c5
     replace H := Option.bind_eq_some_iff.mp H
     obtain ⟨t197, A60, H⟩ := H
     replace H : (some (t197, true)) = some (r1, r2) := H
     have A6 := Aside0.mk A60
     clear A60
     as_aux_lemma =>
      simp only [Option.some.injEq, Prod.mk.injEq] at H
      obtain ⟨rfl, rfl⟩ := H
      go_enter Try.func21, Try.ntmps21
      go_wp2_with (first | ((with_reducible refine gate_dst (N := 2) rfl ?_); (try (refine gate_guard (by rfl) ?_; dsimp only)); refine box_event ?hg (N := 2) ?hd (cs := #[.slice A0_0 l0_0.length c0_0, .float .f32 a0_1, .float .f32 a0_2]) (t := 44) ?hr ?_; (case hd => rfl); (case hg => rfl); (case hr => first | (go_simp; done) | (go_simp; rfl)); intro gb195 hg w7 hbox hb; have n0_ := Aside0.mk (below_step (by repeat (first | (with_reducible first | exact HB.out | apply below_alloc | apply pw_below_drewN | apply below_drew1) | exact HB.out)) hb); have n1_ := Aside0.mk (hbox); have n2_ := Aside0.mk ((by rw [hg]; exact (below_size (by repeat (first | (with_reducible first | exact HB.out | apply below_alloc | apply pw_below_drewN | apply below_drew1) | exact HB.out))) : w.heap.size ≤ gb195)); have n3_ := Aside0.mk ((by rw [hg]; exact (below_size (by repeat (first | (with_reducible first | exact HB.out | apply below_alloc | apply pw_below_drewN | apply below_drew1) | exact HB.out))) : w.heap.size ≤ gb195)); clear HB; have HB := n0_; have BK195 := n1_; have GW195 := n2_; have GE195 := n3_; clear n0_ n1_ n2_ n3_; clear hb hbox hg; have hcz8_0 : w7.cell? ⟨gb195, 0, none⟩ = some (.slice A0_0 l0_0.length c0_0) := (blk_cell BK195.out 0).trans rfl; have hcz8_1 : w7.cell? ⟨gb195, 1, none⟩ = some (.float .f32 a0_1) := (blk_cell BK195.out 1).trans rfl; have hcz8_2 : w7.cell? ⟨gb195, 2, none⟩ = some (.float .f32 a0_2) := (blk_cell BK195.out 2).trans rfl; have hfz8_0 := blk_frozen BK195.out 0; have hfz8_1 := blk_frozen BK195.out 1; have hfz8_2 := blk_frozen BK195.out 2) | ((with_reducible refine gate_callee (f := 22) rfl ?_); refine goesL_ (some 7) rfl rfl Try.func22 (by kernel_rfl) rfl #[.agg #[.slice A0_0 l0_0.length c0_0, .float .f32 a0_1, .float .f32 a0_2]] rfl (by (try simp only [List.map_toArray, List.map_cons, List.map_nil]); first | done | rfl | (simp only [List.length_drop, List.length_take]; rfl)) ?_; (with_reducible refine (impl_ValidAdapter.calls _ _ l0_0 a0_1 a0_2 true _ ?side1 ?side2 A3.out).mono ?_); (case side1 => repeat (first | exact (Kd.C_below HR0_0.out HB.out) | (with_reducible refine Kd.C_alloc ?_ _) | (with_reducible refine Kd.C_drewN ?_ _) | (with_reducible refine Kd.C_drew ?_))); (case side2 => exact HC0_0.out); rintro e w9 ⟨rfl, hb⟩; refine ⟨_, rfl, ?_⟩; have n0_ := Aside0.mk (blk_below (g := gb195) (o := .cells #[.slice A0_0 l0_0.length c0_0, .float .f32 a0_1, .float .f32 a0_2] 44 (0, 0)) (by (with_reducible repeat (first | refine blk_drewN ?_ _ | refine blk_drew ?_ | refine blk_alloc ?_ _)); exact BK195.out) hb); have n1_ := Aside0.mk (below_step (by repeat (first | (with_reducible first | exact HB.out | apply below_alloc | apply pw_below_drewN | apply below_drew1 | refine below_set ?_ GE195.out) | exact HB.out)) hb); clear BK195; clear HB; have BK195 := n0_; have HB := n1_; clear n0_ n1_; (try clear hb); (try clear hb2); (try clear hk); (try clear hi); have hcz10_0 : w9.cell? ⟨gb195, 0, none⟩ = some (.slice A0_0 l0_0.length c0_0) := (blk_cell BK195.out 0).trans rfl; have hcz10_1 : w9.cell? ⟨gb195, 1, none⟩ = some (.float .f32 a0_1) := (blk_cell BK195.out 1).trans rfl; have hcz10_2 : w9.cell? ⟨gb195, 2, none⟩ = some (.float .f32 a0_2) := (blk_cell BK195.out 2).trans rfl; have hfz10_0 := blk_frozen BK195.out 0; have hfz10_1 := blk_frozen BK195.out 1; have hfz10_2 := blk_frozen BK195.out 2) | ((with_reducible refine gate_callee (f := 39) rfl ?_); refine goesL_ (some 19) rfl rfl Try.func39 (by kernel_rfl) rfl #[.agg #[.slice A0_0 l0_0.length c0_0, .float .f32 a0_1, .float .f32 a0_2], .slice A1 l1.length c1] rfl (by (try simp only [List.map_toArray, List.map_cons, List.map_nil]); first | done | rfl | (simp only [List.length_drop, List.length_take]; rfl)) ?_; (with_reducible refine (impl_outputOf.calls k _ _ l0_0 a0_1 a0_2 _ _ l1 t197 _ ?side1 ?side2 ?side3 ?side4 A6.out).mono ?_); (case side1 => repeat (first | exact (Kd.C_below HR0_0.out HB.out) | (with_reducible refine Kd.C_alloc ?_ _) | (with_reducible refine Kd.C_drewN ?_ _) | (with_reducible refine Kd.C_drew ?_))); (case side2 => exact HC0_0.out); (case side3 => repeat (first | exact (Kd.C_below HR1.out HB.out) | (with_reducible refine Kd.C_alloc ?_ _) | (with_reducible refine Kd.C_drewN ?_ _) | (with_reducible refine Kd.C_drew ?_))); (case side4 => exact HC1.out); rintro e w11 ⟨rfl, hb⟩; refine ⟨_, rfl, ?_⟩; have n0_ := Aside0.mk (blk_below (g := gb195) (o := .cells #[.slice A0_0 l0_0.length c0_0, .float .f32 a0_1, .float .f32 a0_2] 44 (0, 0)) (by (with_reducible repeat (first | refine blk_drewN ?_ _ | refine blk_drew ?_ | refine blk_alloc ?_ _)); exact BK195.out) hb); have n1_ := Aside0.mk (below_step (by repeat (first | (with_reducible first | exact HB.out | apply below_alloc | apply pw_below_drewN | apply below_drew1 | refine below_set ?_ GE195.out) | exact HB.out)) hb); clear BK195; clear HB; have BK195 := n0_; have HB := n1_; clear n0_ n1_; (try clear hb); (try clear hb2); (try clear hk); (try clear hi)))
      go_ret2
      exact ⟨by first | rfl | (simp [errW_none, errW_some] <;> rfl) | (simp [*, errW_none, errW_some] <;> rfl), by repeat (first | (with_reducible first | exact HB.out | apply below_alloc | apply pw_below_drewN | apply below_drew1 | refine below_set ?_ GE195.out) | exact HB.out)⟩
   · rw [if_neg c5] at H
     exact absurd H (by simp)
 · replace c4 := Bool.eq_false_iff.mpr c4
   subst c4
   have H1 : (none) = some (r1, r2) := by rw [if_neg (show ¬ (false = true) by decide)] at H; exact H
   clear H
   have H := H1
   clear H1
   exact absurd H (by simp)

/-! ### impl_PowerOf: function 23 -/
def impl_PowerOf.f (a0 : C64) : Option (Nat) := (impl_power.f a0).bind fun t198 => (if FC 37 34 .f64 .f32 t198 = true then (some (fc .f64 .f32 t198)) else (none))
set_option maxHeartbeats 8000000 in
set_option maxRecDepth 100000 in
theorem impl_PowerOf.calls (a0 : C64) (r : Nat) (w : World) (h : impl_PowerOf.f a0 = some r) :
 Calls Try.prog 23 #[.complex .f32 a0.re a0.im] w fun e w' => e = .returned (.float .f32 r) ∧ Below w.heap.size w w' := by
 have hu34 := Try.underlying34
 have hu37 := Try.underlying37
 have HB := Aside0.mk (Below.refl w.heap.size w)
 have H : ((impl_power.f a0).bind fun t198 => (if FC 37 34 .f64 .f32 t198 = true then (some (fc .f64 .f32 t198)) else (none))) = some r := h
 clear h
 replace H := Option.bind_eq_some_iff.mp H
 obtain ⟨t198, A20, H⟩ := H
 replace H : (if FC 37 34 .f64 .f32 t198 = true then (some (fc .f64 .f32 t198)) else (none)) = some r := H
 have A2 := Aside0.mk A20
 clear A20
 by_cases c3 : FC 37 34 .f64 .f32 t198 = true
 · rw [if_pos c3] at H
   have fe3 := fun w => frunc (P := Try.prog) (src := 37) (dst := 34) (by kernel_rfl) Try.underlying34 c3 w
   have c3b0 : FC 37 34 .f64 .f32 t198 = true := c3
   clear c3
   as_aux_lemma =>
    obtain rfl := Option.some.inj H
    go_enter Try.func23, Try.ntmps23
    go_wp2_with (first | ((with_reducible refine gate_callee (f := 35) rfl ?_); refine goesL_ (some 4) rfl rfl Try.func35 (by kernel_rfl) rfl #[.complex .f32 a0.re a0.im] rfl (by (try simp only [List.map_toArray, List.map_cons, List.map_nil]); first | done | rfl | (simp only [List.length_drop, List.length_take]; rfl)) ?_; (with_reducible refine (impl_power.calls a0 t198 _ A2.out).mono ?_); rintro e w4 ⟨rfl, hb⟩; refine ⟨_, rfl, ?_⟩; have n0_ := Aside0.mk (below_step (by repeat (first | (with_reducible first | exact HB.out | apply below_alloc | apply pw_below_drewN | apply below_drew1) | exact HB.out)) hb); clear HB; have HB := n0_; clear n0_; (try clear hb); (try clear hb2); (try clear hk); (try clear hi)))
    go_ret
    exact ⟨by first | rfl | (simp [errW_none, errW_some] <;> rfl) | (simp [*, errW_none, errW_some] <;> rfl), by repeat (first | (with_reducible first | exact HB.out | apply below_alloc | apply pw_below_drewN | apply below_drew1) | exact HB.out)⟩
 · rw [if_neg c3] at H
   exact absurd H (by simp)

end Go.Proofs.Ytnfcbacdggkfeaa.B
