/-
  Contracts of the program's functions, each a plain Lean function beside the machine's call: written by this session's program over the kit's print.
-/
import Derived.Test.YtnfcbacdggkfeaaBx0
import Derived.Test.YtnfcbacdggkfeaaBx1
namespace Go.Proofs.Ytnfcbacdggkfeaa.B
open Go.RowKit Go.Proofs.YtnfcbacdggkfeaaW.PrintWords Go.Proofs.YtnfcbacdggkfeaaW.PrintLast Go.Proofs.YtnfcbacdggkfeaaW.PrintMore
attribute [local go_sem] max2_int min2_int max_two min_two max_three min_three max_four min_four   -- for this text's walks alone
set_option linter.unusedVariables false
set_option linter.unusedSimpArgs false

/-! ### impl_ValidAdapter: function 22 -/
def impl_ValidAdapter.f (l0_0 : List C64) (a0_1 : Nat) (a0_2 : Nat) : Option (Bool) := (impl_areWeights.f l0_0).bind fun t136 => (if t136 = true then ((impl_IsFinite.f a0_2).bind fun t137 => (if t137 = true then (some (FloatKind.f32.format.order a0_2 0 == some .gt)) else (none))) else (none))
set_option maxHeartbeats 8000000 in
set_option maxRecDepth 100000 in
theorem impl_ValidAdapter.calls (A0_0 : Option Addr) (c0_0 : Nat) (l0_0 : List C64) (a0_1 : Nat) (a0_2 : Nat) (r : Bool) (w : World) (hr0_0 : Kd.C Kd.c64 w A0_0 l0_0.length l0_0) (hc0_0 : l0_0.length ≤ c0_0) (h : impl_ValidAdapter.f l0_0 a0_1 a0_2 = some r) :
 Calls Try.prog 22 #[.agg #[.slice A0_0 l0_0.length c0_0, .float .f32 a0_1, .float .f32 a0_2]] w fun e w' => e = .returned (.bool r) ∧ Below w.heap.size w w' := by
 have hu44 := Try.underlying44
 have HR0_0 := Aside0.mk hr0_0
 have HC0_0 := Aside0.mk hc0_0
 clear hr0_0 hc0_0
 have HB := Aside0.mk (Below.refl w.heap.size w)
 have H : ((impl_areWeights.f l0_0).bind fun t136 => (if t136 = true then ((impl_IsFinite.f a0_2).bind fun t137 => (if t137 = true then (some (FloatKind.f32.format.order a0_2 0 == some .gt)) else (none))) else (none))) = some r := h
 clear h
 replace H := Option.bind_eq_some_iff.mp H
 obtain ⟨t136, A20, H⟩ := H
 replace H : (if t136 = true then ((impl_IsFinite.f a0_2).bind fun t137 => (if t137 = true then (some (FloatKind.f32.format.order a0_2 0 == some .gt)) else (none))) else (none)) = some r := H
 have A2 := Aside0.mk A20
 clear A20
 by_cases c3 : t136 = true
 · subst c3
   have H1 : ((impl_IsFinite.f a0_2).bind fun t137 => (if t137 = true then (some (FloatKind.f32.format.order a0_2 0 == some .gt)) else (none))) = some r := by rw [if_pos rfl] at H; exact H
   clear H
   have H := H1
   clear H1
   replace H := Option.bind_eq_some_iff.mp H
   obtain ⟨t137, A40, H⟩ := H
   replace H : (if t137 = true then (some (FloatKind.f32.format.order a0_2 0 == some .gt)) else (none)) = some r := H
   have A4 := Aside0.mk A40
   clear A40
   by_cases c5 : t137 = true
   · subst c5
     have H1 : (some (FloatKind.f32.format.order a0_2 0 == some .gt)) = some r := by rw [if_pos rfl] at H; exact H
     clear H
     have H := H1
     clear H1
     as_aux_lemma =>
      obtain rfl := Option.some.inj H
      go_enter Try.func22, Try.ntmps22
      go_wp2_with (first | ((with_reducible refine gate_dst (N := 1) rfl ?_); refine box_event ?hg (N := 1) ?hd (cs := #[.slice A0_0 l0_0.length c0_0, .float .f32 a0_1, .float .f32 a0_2]) (t := 44) ?hr ?_; (case hd => rfl); (case hg => rfl); (case hr => first | (go_simp; done) | (go_simp; rfl)); intro gb135 hg w6 hbox hb; have n0_ := Aside0.mk (below_step (by repeat (first | (with_reducible first | exact HB.out | apply below_alloc | apply pw_below_drewN | apply below_drew1) | exact HB.out)) hb); have n1_ := Aside0.mk (hbox); have n2_ := Aside0.mk ((by rw [hg]; exact (below_size (by repeat (first | (with_reducible first | exact HB.out | apply below_alloc | apply pw_below_drewN | apply below_drew1) | exact HB.out))) : w.heap.size ≤ gb135)); have n3_ := Aside0.mk ((by rw [hg]; exact (below_size (by repeat (first | (with_reducible first | exact HB.out | apply below_alloc | apply pw_below_drewN | apply below_drew1) | exact HB.out))) : w.heap.size ≤ gb135)); clear HB; have HB := n0_; have BK135 := n1_; have GW135 := n2_; have GE135 := n3_; clear n0_ n1_ n2_ n3_; clear hb hbox hg; have hcz7_0 : w6.cell? ⟨gb135, 0, none⟩ = some (.slice A0_0 l0_0.length c0_0) := (blk_cell BK135.out 0).trans rfl; have hcz7_1 : w6.cell? ⟨gb135, 1, none⟩ = some (.float .f32 a0_1) := (blk_cell BK135.out 1).trans rfl; have hcz7_2 : w6.cell? ⟨gb135, 2, none⟩ = some (.float .f32 a0_2) := (blk_cell BK135.out 2).trans rfl; have hfz7_0 := blk_frozen BK135.out 0; have hfz7_1 := blk_frozen BK135.out 1; have hfz7_2 := blk_frozen BK135.out 2) | ((with_reducible refine gate_callee (f := 27) rfl ?_); refine goesL_ (some 5) rfl rfl Try.func27 (by kernel_rfl) rfl #[.slice A0_0 l0_0.length c0_0] rfl (by (try simp only [List.map_toArray, List.map_cons, List.map_nil]); first | done | rfl | (simp only [List.length_drop, List.length_take]; rfl)) ?_; (with_reducible refine (impl_areWeights.calls _ _ l0_0 true _ ?side1 ?side2 A2.out).mono ?_); (case side1 => repeat (first | exact (Kd.C_below HR0_0.out HB.out) | (with_reducible refine Kd.C_alloc ?_ _) | (with_reducible refine Kd.C_drewN ?_ _) | (with_reducible refine Kd.C_drew ?_))); (case side2 => exact HC0_0.out); rintro e w' ⟨rfl, ⟨nd, rfl⟩⟩; refine ⟨_, rfl, ?_⟩) | (go_at_call 33; (with_reducible refine (impl_IsFinite.calls a0_2 true _ A4.out).mono ?_); rintro e w' ⟨rfl, ⟨nd, rfl⟩⟩))
      go_ret
      exact ⟨by first | rfl | (simp [errW_none, errW_some] <;> rfl) | (simp [*, errW_none, errW_some] <;> rfl), by repeat (first | (with_reducible first | exact HB.out | apply below_alloc | apply pw_below_drewN | apply below_drew1 | refine below_set ?_ GE135.out) | exact HB.out)⟩
   · replace c5 := Bool.eq_false_iff.mpr c5
     subst c5
     have H1 : (none) = some r := by rw [if_neg (show ¬ (false = true) by decide)] at H; exact H
     clear H
     have H := H1
     clear H1
     exact absurd H (by simp)
 · replace c3 := Bool.eq_false_iff.mpr c3
   subst c3
   have H1 : (none) = some r := by rw [if_neg (show ¬ (false = true) by decide)] at H; exact H
   clear H
   have H := H1
   clear H1
   exact absurd H (by simp)

/-! ### impl_times: function 30 -/
def impl_times.f (a0 : Nat) (a1 : Nat) (a2 : Nat) (a3 : Nat) : Option (Nat × Nat) := if FOk .mul .f64 a0 a2 = true then (if FOk .mul .f64 a1 a3 = true then (if FOk .sub .f64 (fq .mul .f64 a0 a2) (fq .mul .f64 a1 a3) = true then (if FOk .mul .f64 a0 a3 = true then (if FOk .mul .f64 a1 a2 = true then (if FOk .add .f64 (fq .mul .f64 a0 a3) (fq .mul .f64 a1 a2) = true then (some (fq .sub .f64 (fq .mul .f64 a0 a2) (fq .mul .f64 a1 a3), fq .add .f64 (fq .mul .f64 a0 a3) (fq .mul .f64 a1 a2))) else (none)) else (none)) else (none)) else (none)) else (none)) else (none)
set_option maxHeartbeats 8000000 in
set_option maxRecDepth 100000 in
theorem impl_times.calls (a0 : Nat) (a1 : Nat) (a2 : Nat) (a3 : Nat) (r1 : Nat) (r2 : Nat) (w : World) (h : impl_times.f a0 a1 a2 a3 = some (r1, r2)) :
 Calls Try.prog 30 #[.float .f64 a0, .float .f64 a1, .float .f64 a2, .float .f64 a3] w fun e w' => e = .returned (.tuple #[.float .f64 r1, .float .f64 r2]) ∧ Drawn0 w w' := by
 have H : (if FOk .mul .f64 a0 a2 = true then (if FOk .mul .f64 a1 a3 = true then (if FOk .sub .f64 (fq .mul .f64 a0 a2) (fq .mul .f64 a1 a3) = true then (if FOk .mul .f64 a0 a3 = true then (if FOk .mul .f64 a1 a2 = true then (if FOk .add .f64 (fq .mul .f64 a0 a3) (fq .mul .f64 a1 a2) = true then (some (fq .sub .f64 (fq .mul .f64 a0 a2) (fq .mul .f64 a1 a3), fq .add .f64 (fq .mul .f64 a0 a3) (fq .mul .f64 a1 a2))) else (none)) else (none)) else (none)) else (none)) else (none)) else (none)) = some (r1, r2) := h
 clear h
 by_cases c5 : FOk .mul .f64 a0 a2 = true
 · rw [if_pos c5] at H
   have fe5 := fun t w => frun (P := Try.prog) c5 t w
   have c5b0 : FOk .mul .f64 a0 a2 = true := c5
   clear c5
   by_cases c6 : FOk .mul .f64 a1 a3 = true
   · rw [if_pos c6] at H
     have fe6 := fun t w => frun (P := Try.prog) c6 t w
     have c6b0 : FOk .mul .f64 a1 a3 = true := c6
     clear c6
     by_cases c7 : FOk .sub .f64 (fq .mul .f64 a0 a2) (fq .mul .f64 a1 a3) = true
     · rw [if_pos c7] at H
       have fe7 := fun t w => frun (P := Try.prog) c7 t w
       have c7b0 : FOk .sub .f64 (fq .mul .f64 a0 a2) (fq .mul .f64 a1 a3) = true := c7
       clear c7
       by_cases c8 : FOk .mul .f64 a0 a3 = true
       · rw [if_pos c8] at H
         have fe8 := fun t w => frun (P := Try.prog) c8 t w
         have c8b0 : FOk .mul .f64 a0 a3 = true := c8
         clear c8
         by_cases c9 : FOk .mul .f64 a1 a2 = true
         · rw [if_pos c9] at H
           have fe9 := fun t w => frun (P := Try.prog) c9 t w
           have c9b0 : FOk .mul .f64 a1 a2 = true := c9
           clear c9
           by_cases c10 : FOk .add .f64 (fq .mul .f64 a0 a3) (fq .mul .f64 a1 a2) = true
           · rw [if_pos c10] at H
             have fe10 := fun t w => frun (P := Try.prog) c10 t w
             have c10b0 : FOk .add .f64 (fq .mul .f64 a0 a3) (fq .mul .f64 a1 a2) = true := c10
             clear c10
             as_aux_lemma =>
              simp only [Option.some.injEq, Prod.mk.injEq] at H
              obtain ⟨rfl, rfl⟩ := H
              go_enter Try.func30, Try.ntmps30
              go_wp2
              go_ret2
              exact ⟨by first | rfl | (simp; done) | (simp [*]; done), by repeat (first | exact Drawn0.refl _ | apply Drawn0.step)⟩
           · rw [if_neg c10] at H
             exact absurd H (by simp)
         · rw [if_neg c9] at H
           exact absurd H (by simp)
       · rw [if_neg c8] at H
         exact absurd H (by simp)
     · rw [if_neg c7] at H
       exact absurd H (by simp)
   · rw [if_neg c6] at H
     exact absurd H (by simp)
 · rw [if_neg c5] at H
   exact absurd H (by simp)

/-! ### impl_MulComplex: function 12 -/
def impl_MulComplex.f (a0 : C64) (a1 : C64) : Option (C64) := (impl_parts.f a0).bind fun bt138 => ((impl_parts.f a1).bind fun bt140 => ((impl_times.f bt138.1 bt138.2 bt140.1 bt140.2).bind fun bt142 => (if FC 37 34 .f64 .f32 bt142.1 = true then (if FC 37 34 .f64 .f32 bt142.2 = true then (some (⟨fc .f64 .f32 bt142.1, fc .f64 .f32 bt142.2⟩ : C64)) else (none)) else (none))))
set_option maxHeartbeats 8000000 in
set_option maxRecDepth 100000 in
theorem impl_MulComplex.calls (a0 : C64) (a1 : C64) (r : C64) (w : World) (h : impl_MulComplex.f a0 a1 = some r) :
 Calls Try.prog 12 #[.complex .f32 a0.re a0.im, .complex .f32 a1.re a1.im] w fun e w' => e = .returned (.complex .f32 r.re r.im) ∧ Below w.heap.size w w' := by
 have hu34 := Try.underlying34
 have hu37 := Try.underlying37
 have HB := Aside0.mk (Below.refl w.heap.size w)
 have H : ((impl_parts.f a0).bind fun bt138 => ((impl_parts.f a1).bind fun bt140 => ((impl_times.f bt138.1 bt138.2 bt140.1 bt140.2).bind fun bt142 => (if FC 37 34 .f64 .f32 bt142.1 = true then (if FC 37 34 .f64 .f32 bt142.2 = true then (some (⟨fc .f64 .f32 bt142.1, fc .f64 .f32 bt142.2⟩ : C64)) else (none)) else (none))))) = some r := h
 clear h
 replace H := Option.bind_eq_some_iff.mp H
 obtain ⟨⟨t138, t139⟩, A30, H⟩ := H
 replace H : ((impl_parts.f a1).bind fun bt140 => ((impl_times.f t138 t139 bt140.1 bt140.2).bind fun bt142 => (if FC 37 34 .f64 .f32 bt142.1 = true then (if FC 37 34 .f64 .f32 bt142.2 = true then (some (⟨fc .f64 .f32 bt142.1, fc .f64 .f32 bt142.2⟩ : C64)) else (none)) else (none)))) = some r := H
 have A3 := Aside0.mk A30
 clear A30
 replace H := Option.bind_eq_some_iff.mp H
 obtain ⟨⟨t140, t141⟩, A40, H⟩ := H
 replace H : ((impl_times.f t138 t139 t140 t141).bind fun bt142 => (if FC 37 34 .f64 .f32 bt142.1 = true then (if FC 37 34 .f64 .f32 bt142.2 = true then (some (⟨fc .f64 .f32 bt142.1, fc .f64 .f32 bt142.2⟩ : C64)) else (none)) else (none))) = some r := H
 have A4 := Aside0.mk A40
 clear A40
 replace H := Option.bind_eq_some_iff.mp H
 obtain ⟨⟨t142, t143⟩, A50, H⟩ := H
 replace H : (if FC 37 34 .f64 .f32 t142 = true then (if FC 37 34 .f64 .f32 t143 = true then (some (⟨fc .f64 .f32 t142, fc .f64 .f32 t143⟩ : C64)) else (none)) else (none)) = some r := H
 have A5 := Aside0.mk A50
 clear A50
 by_cases c6 : FC 37 34 .f64 .f32 t142 = true
 · rw [if_pos c6] at H
   have fe6 := fun w => frunc (P := Try.prog) (src := 37) (dst := 34) (by kernel_rfl) Try.underlying34 c6 w
   have c6b0 : FC 37 34 .f64 .f32 t142 = true := c6
   clear c6
   by_cases c7 : FC 37 34 .f64 .f32 t143 = true
   · rw [if_pos c7] at H
     have fe7 := fun w => frunc (P := Try.prog) (src := 37) (dst := 34) (by kernel_rfl) Try.underlying34 c7 w
     have c7b0 : FC 37 34 .f64 .f32 t143 = true := c7
     clear c7
     as_aux_lemma =>
      obtain rfl := Option.some.inj H
      go_enter Try.func12, Try.ntmps12
      go_wp2_with (first | ((with_reducible refine gate_callee (f := 29) rfl ?_); refine goesL_ (some 13) rfl rfl Try.func29 (by kernel_rfl) rfl #[.complex .f32 a0.re a0.im] rfl (by (try simp only [List.map_toArray, List.map_cons, List.map_nil]); first | done | rfl | (simp only [List.length_drop, List.length_take]; rfl)) ?_; (with_reducible refine (impl_parts.calls a0 t138 t139 _ A3.out).mono ?_); rintro e w8 ⟨rfl, hb⟩; refine ⟨_, rfl, ?_⟩; have n0_ := Aside0.mk (below_step (by repeat (first | (with_reducible first | exact HB.out | apply below_alloc | apply pw_below_drewN | apply below_drew1) | exact HB.out)) hb); clear HB; have HB := n0_; clear n0_; (try clear hb); (try clear hb2); (try clear hk); (try clear hi)) | ((with_reducible refine gate_callee (f := 29) rfl ?_); refine goesL_ (some 18) rfl rfl Try.func29 (by kernel_rfl) rfl #[.complex .f32 a1.re a1.im] rfl (by (try simp only [List.map_toArray, List.map_cons, List.map_nil]); first | done | rfl | (simp only [List.length_drop, List.length_take]; rfl)) ?_; (with_reducible refine (impl_parts.calls a1 t140 t141 _ A4.out).mono ?_); rintro e w9 ⟨rfl, hb⟩; refine ⟨_, rfl, ?_⟩; have n0_ := Aside0.mk (below_step (by repeat (first | (with_reducible first | exact HB.out | apply below_alloc | apply pw_below_drewN | apply below_drew1) | exact HB.out)) hb); clear HB; have HB := n0_; clear n0_; (try clear hb); (try clear hb2); (try clear hk); (try clear hi)) | ((with_reducible refine gate_callee (f := 30) rfl ?_); refine goesL_ (some 26) rfl rfl Try.func30 (by kernel_rfl) rfl #[.float .f64 t138, .float .f64 t139, .float .f64 t140, .float .f64 t141] rfl (by (try simp only [List.map_toArray, List.map_cons, List.map_nil]); first | done | rfl | (simp only [List.length_drop, List.length_take]; rfl)) ?_; (with_reducible refine (impl_times.calls t138 t139 t140 t141 t142 t143 _ A5.out).mono ?_); rintro e w' ⟨rfl, ⟨nd, rfl⟩⟩; refine ⟨_, rfl, ?_⟩))
      go_ret
      exact ⟨by first | rfl | (simp [errW_none, errW_some] <;> rfl) | (simp [*, errW_none, errW_some] <;> rfl), by repeat (first | (with_reducible first | exact HB.out | apply below_alloc | apply pw_below_drewN | apply below_drew1) | exact HB.out)⟩
   · rw [if_neg c7] at H
     exact absurd H (by simp)
 · rw [if_neg c6] at H
   exact absurd H (by simp)

/-! ### impl_less: function 26 -/
def impl_less.f (a0 : C64) (a1 : C64) : Option (C64) := if FOk .sub .f32 a0.re a1.re = true then (if FOk .sub .f32 a0.im a1.im = true then (some (⟨fq .sub .f32 a0.re a1.re, fq .sub .f32 a0.im a1.im⟩ : C64)) else (none)) else (none)
set_option maxHeartbeats 8000000 in
set_option maxRecDepth 100000 in
theorem impl_less.calls (a0 : C64) (a1 : C64) (r : C64) (w : World) (h : impl_less.f a0 a1 = some r) :
 Calls Try.prog 26 #[.complex .f32 a0.re a0.im, .complex .f32 a1.re a1.im] w fun e w' => e = .returned (.complex .f32 r.re r.im) ∧ Below w.heap.size w w' := by
 have HB := Aside0.mk (Below.refl w.heap.size w)
 have H : (if FOk .sub .f32 a0.re a1.re = true then (if FOk .sub .f32 a0.im a1.im = true then (some (⟨fq .sub .f32 a0.re a1.re, fq .sub .f32 a0.im a1.im⟩ : C64)) else (none)) else (none)) = some r := h
 clear h
 by_cases c3 : FOk .sub .f32 a0.re a1.re = true
 · rw [if_pos c3] at H
   have fe3 := fun t w => frun (P := Try.prog) c3 t w
   have c3b0 : FOk .sub .f32 a0.re a1.re = true := c3
   clear c3
   by_cases c4 : FOk .sub .f32 a0.im a1.im = true
   · rw [if_pos c4] at H
     have fe4 := fun t w => frun (P := Try.prog) c4 t w
     have c4b0 : FOk .sub .f32 a0.im a1.im = true := c4
     clear c4
     as_aux_lemma =>
      obtain rfl := Option.some.inj H
      go_enter Try.func26, Try.ntmps26
      go_wp2
      go_ret
      exact ⟨by first | rfl | (simp [errW_none, errW_some] <;> rfl) | (simp [*, errW_none, errW_some] <;> rfl), by repeat (first | (with_reducible first | exact HB.out | apply below_alloc | apply pw_below_drewN | apply below_drew1) | exact HB.out)⟩
   · rw [if_neg c4] at H
     exact absurd H (by simp)
 · rw [if_neg c3] at H
   exact absurd H (by simp)

/-! ### impl_add: function 28 -/
def impl_add.f (a0 : C64) (a1 : C64) : Option (C64) := if FOk .add .f32 a0.re a1.re = true then (if FOk .add .f32 a0.im a1.im = true then (some (⟨fq .add .f32 a0.re a1.re, fq .add .f32 a0.im a1.im⟩ : C64)) else (none)) else (none)
set_option maxHeartbeats 8000000 in
set_option maxRecDepth 100000 in
theorem impl_add.calls (a0 : C64) (a1 : C64) (r : C64) (w : World) (h : impl_add.f a0 a1 = some r) :
 Calls Try.prog 28 #[.complex .f32 a0.re a0.im, .complex .f32 a1.re a1.im] w fun e w' => e = .returned (.complex .f32 r.re r.im) ∧ Below w.heap.size w w' := by
 have HB := Aside0.mk (Below.refl w.heap.size w)
 have H : (if FOk .add .f32 a0.re a1.re = true then (if FOk .add .f32 a0.im a1.im = true then (some (⟨fq .add .f32 a0.re a1.re, fq .add .f32 a0.im a1.im⟩ : C64)) else (none)) else (none)) = some r := h
 clear h
 by_cases c3 : FOk .add .f32 a0.re a1.re = true
 · rw [if_pos c3] at H
   have fe3 := fun t w => frun (P := Try.prog) c3 t w
   have c3b0 : FOk .add .f32 a0.re a1.re = true := c3
   clear c3
   by_cases c4 : FOk .add .f32 a0.im a1.im = true
   · rw [if_pos c4] at H
     have fe4 := fun t w => frun (P := Try.prog) c4 t w
     have c4b0 : FOk .add .f32 a0.im a1.im = true := c4
     clear c4
     as_aux_lemma =>
      obtain rfl := Option.some.inj H
      go_enter Try.func28, Try.ntmps28
      go_wp2
      go_ret
      exact ⟨by first | rfl | (simp [errW_none, errW_some] <;> rfl) | (simp [*, errW_none, errW_some] <;> rfl), by repeat (first | (with_reducible first | exact HB.out | apply below_alloc | apply pw_below_drewN | apply below_drew1) | exact HB.out)⟩
   · rw [if_neg c4] at H
     exact absurd H (by simp)
 · rw [if_neg c3] at H
   exact absurd H (by simp)

-- NOT PRINTED: function 47 (math_sqrt)

/-! ### math_Sqrt: function 42 -/
-- quiet
def math_Sqrt.f (a0 : Nat) : Option Nat := FloatKind.f64.format.sqrt a0
theorem run_sqrt {x r : Nat} (h : FloatKind.f64.format.sqrt x = some r) (W : World) : (callFunc 47 #[.float .f64 x]).run Try.prog W = .ok (.value (.float .f64 r)) W := by
  have he : Extern.MathSqrt.sqrt #[.float .f64 x] = pure (.float .f64 r) := by
    show (match FloatKind.f64.format.sqrt x with
      | some r => (pure (.float .f64 r) : Sem Value)
      | none => do pure (.float .f64 (← choose (.nanBits .f64 x x)))) = _
    rw [h]
  rw [run_callFunc_extern (fn := Try.f47) (e := Extern.MathSqrt.sqrt) Try.func47 (by kernel_rfl) (by kernel_rfl) (by kernel_rfl) (by kernel_rfl), he]
  rfl
set_option maxRecDepth 100000 in
theorem math_Sqrt.calls (a0 : Nat) (r : Nat) (w : World) (h : math_Sqrt.f a0 = some r) :
    Calls Try.prog 42 #[.float .f64 a0] w fun e w' => e = .returned (.float .f64 r) ∧ Drawn0 w w' := by
  have hd := fun W => run_sqrt (show FloatKind.f64.format.sqrt a0 = some r from h) W
  go_enter Try.func42, Try.ntmps42
  go_wp2
  go_ret
  exact ⟨rfl, ⟨⟨0, rfl⟩⟩⟩

/-! ### impl_RootNumber: function 32 -/
def impl_RootNumber.f (a0 : Nat) : Option (Nat) := if FC 34 37 .f32 .f64 a0 = true then ((math_Sqrt.f (fc .f32 .f64 a0)).bind fun t144 => (if FC 37 34 .f64 .f32 t144 = true then (some (fc .f64 .f32 t144)) else (none))) else (none)
set_option maxHeartbeats 8000000 in
set_option maxRecDepth 100000 in
theorem impl_RootNumber.calls (a0 : Nat) (r : Nat) (w : World) (h : impl_RootNumber.f a0 = some r) :
 Calls Try.prog 32 #[.float .f32 a0] w fun e w' => e = .returned (.float .f32 r) ∧ Drawn0 w w' := by
 have hu34 := Try.underlying34
 have hu37 := Try.underlying37
 have H : (if FC 34 37 .f32 .f64 a0 = true then ((math_Sqrt.f (fc .f32 .f64 a0)).bind fun t144 => (if FC 37 34 .f64 .f32 t144 = true then (some (fc .f64 .f32 t144)) else (none))) else (none)) = some r := h
 clear h
 by_cases c2 : FC 34 37 .f32 .f64 a0 = true
 · rw [if_pos c2] at H
   have fe2 := fun w => frunc (P := Try.prog) (src := 34) (dst := 37) (by kernel_rfl) Try.underlying37 c2 w
   have c2b0 : FC 34 37 .f32 .f64 a0 = true := c2
   clear c2
   replace H := Option.bind_eq_some_iff.mp H
   obtain ⟨t144, A30, H⟩ := H
   replace H : (if FC 37 34 .f64 .f32 t144 = true then (some (fc .f64 .f32 t144)) else (none)) = some r := H
   have A3 := Aside0.mk A30
   clear A30
   by_cases c4 : FC 37 34 .f64 .f32 t144 = true
   · rw [if_pos c4] at H
     have fe4 := fun w => frunc (P := Try.prog) (src := 37) (dst := 34) (by kernel_rfl) Try.underlying34 c4 w
     have c4b0 : FC 37 34 .f64 .f32 t144 = true := c4
     clear c4
     as_aux_lemma =>
      obtain rfl := Option.some.inj H
      go_enter Try.func32, Try.ntmps32
      go_wp2_with (first | ((with_reducible refine gate_callee (f := 42) rfl ?_); refine goesL_ (some 5) rfl rfl Try.func42 (by kernel_rfl) rfl #[.float .f64 (fc .f32 .f64 a0)] rfl (by (try simp only [List.map_toArray, List.map_cons, List.map_nil]); first | done | rfl | (simp only [List.length_drop, List.length_take]; rfl)) ?_; (with_reducible refine (math_Sqrt.calls (fc .f32 .f64 a0) t144 _ A3.out).mono ?_); rintro e w' ⟨rfl, ⟨nd, rfl⟩⟩; refine ⟨_, rfl, ?_⟩))
      go_ret
      exact ⟨by first | rfl | (simp; done) | (simp [*]; done), by repeat (first | exact Drawn0.refl _ | apply Drawn0.step)⟩
   · rw [if_neg c4] at H
     exact absurd H (by simp)
 · rw [if_neg c2] at H
   exact absurd H (by simp)

/-! ### impl_ScaleComplex: function 43 -/
def impl_ScaleComplex.f (a0 : C64) (a1 : Nat) : Option (C64) := if FOk .mul .f32 a0.re a1 = true then (if FOk .mul .f32 a0.im a1 = true then (some (⟨fq .mul .f32 a0.re a1, fq .mul .f32 a0.im a1⟩ : C64)) else (none)) else (none)
set_option maxHeartbeats 8000000 in
set_option maxRecDepth 100000 in
theorem impl_ScaleComplex.calls (a0 : C64) (a1 : Nat) (r : C64) (w : World) (h : impl_ScaleComplex.f a0 a1 = some r) :
 Calls Try.prog 43 #[.complex .f32 a0.re a0.im, .float .f32 a1] w fun e w' => e = .returned (.complex .f32 r.re r.im) ∧ Below w.heap.size w w' := by
 have HB := Aside0.mk (Below.refl w.heap.size w)
 have H : (if FOk .mul .f32 a0.re a1 = true then (if FOk .mul .f32 a0.im a1 = true then (some (⟨fq .mul .f32 a0.re a1, fq .mul .f32 a0.im a1⟩ : C64)) else (none)) else (none)) = some r := h
 clear h
 by_cases c3 : FOk .mul .f32 a0.re a1 = true
 · rw [if_pos c3] at H
   have fe3 := fun t w => frun (P := Try.prog) c3 t w
   have c3b0 : FOk .mul .f32 a0.re a1 = true := c3
   clear c3
   by_cases c4 : FOk .mul .f32 a0.im a1 = true
   · rw [if_pos c4] at H
     have fe4 := fun t w => frun (P := Try.prog) c4 t w
     have c4b0 : FOk .mul .f32 a0.im a1 = true := c4
     clear c4
     as_aux_lemma =>
      obtain rfl := Option.some.inj H
      go_enter Try.func43, Try.ntmps43
      go_wp2
      go_ret
      exact ⟨by first | rfl | (simp [errW_none, errW_some] <;> rfl) | (simp [*, errW_none, errW_some] <;> rfl), by repeat (first | (with_reducible first | exact HB.out | apply below_alloc | apply pw_below_drewN | apply below_drew1) | exact HB.out)⟩
   · rw [if_neg c4] at H
     exact absurd H (by simp)
 · rw [if_neg c3] at H
   exact absurd H (by simp)

/-! ### impl_scaled: function 34 -/
def impl_scaled.l0 : Nat → Nat → List C64 → List C64 → Int → Int → Option (List C64)
 | 0, _, _, _, _, _ => none
 | k + 1, x1, x5, x9, x10, x11 => if x11 < x10 then (if 0 ≤ x11 then (if x11 < (x9.length : Int) then ((impl_ScaleComplex.f (rdOf c64z x9 x11) x1).bind fun t149 => (if x5.length < 17592186044416 then (impl_scaled.l0 k x1 (x5 ++ [t149]) x9 x10 (wrap64 (x11 + 1))) else (none))) else (none)) else (none)) else (some x5)
def impl_scaled.f (k : Nat) (l0 : List C64) (a1 : Nat) : Option (List C64) := impl_scaled.l0 k a1 (([] : List C64)) l0 (l0.length : Int) 0
theorem impl_scaled.mono_l : ∀ k, (∀ y0 y1 y2 y3 y4, LeO (impl_scaled.l0 k y0 y1 y2 y3 y4) (impl_scaled.l0 (k + 1) y0 y1 y2 y3 y4))
 | 0 => fun _ _ _ _ _ r h => by simp [impl_scaled.l0] at h
 | k + 1 => by
  have ih0 := impl_scaled.mono_l k
  · intro y0 y1 y2 y3 y4
    unfold impl_scaled.l0
    repeat' first
    | (with_reducible exact ih0 _ _ _ _ _)
    | (with_reducible exact LeO.refl _)
    | (with_reducible exact LeO.none _)
    | (with_reducible refine LeO.ite ?_ ?_)
    | (with_reducible refine LeO.bind ?_ (fun _ => ?_))
    | exact ih0 _ _ _ _ _
    | exact LeO.none _
    | refine LeO.ite ?_ ?_
    | refine LeO.bind ?_ (fun _ => ?_)
theorem impl_scaled.mono : ∀ a0 a1 k, LeO (impl_scaled.f k a0 a1) (impl_scaled.f (k + 1) a0 a1) := by
 intro a0 a1 k
 have ih0 := impl_scaled.mono_l k
 unfold impl_scaled.f
 repeat' first
  | (with_reducible exact ih0 _ _ _ _ _)
  | (with_reducible exact LeO.refl _)
  | (with_reducible exact LeO.none _)
  | (with_reducible refine LeO.ite ?_ ?_)
  | (with_reducible refine LeO.bind ?_ (fun _ => ?_))
  | exact ih0 _ _ _ _ _
  | exact LeO.none _
  | refine LeO.ite ?_ ?_
  | refine LeO.bind ?_ (fun _ => ?_)
set_option maxHeartbeats 8000000 in
set_option maxRecDepth 100000 in
theorem impl_scaled.calls (k : Nat) (A0 : Option Addr) (c0 : Nat) (l0 : List C64) (a1 : Nat) (r : List C64) (w : World) (hr0 : Kd.C Kd.c64 w A0 l0.length l0) (hc0 : l0.length ≤ c0) (h : impl_scaled.f k l0 a1 = some r) :
 Calls Try.prog 34 #[.slice A0 l0.length c0, .float .f32 a1] w fun e w' => ∃ v0_ : Value, e = .returned (v0_) ∧ Kd.R Kd.c64 30 w' w.heap.size (fun _ => True) v0_ r ∧ Below w.heap.size w w' := by
 have HR0 := Aside0.mk hr0
 have HC0 := Aside0.mk hc0
 clear hr0 hc0
 have HB := Aside0.mk (Below.refl w.heap.size w)
 have H : (impl_scaled.l0 k a1 (([] : List C64)) l0 (l0.length : Int) 0) = some r := h
 clear h
 obtain ⟨y145, hy145⟩ : ∃ y_ : List C64, y_ = (([] : List C64)) := ⟨_, rfl⟩
 replace H : (impl_scaled.l0 k a1 y145 l0 (l0.length : Int) 0) = some r := by first | (rw [hy145]; with_reducible exact H) | (have H2_ := (Option.bind_some _ _).symm.trans H; rw [hy145]; with_reducible exact H2_) | (have H2_ := (Option.bind_some _ _).symm.trans H; with_reducible exact H2_) | with_reducible exact H | (rw [hy145]; exact H) | exact H
 have Ny145 := Aside0.mk hy145
 clear hy145
 have H' := Aside0.mk H
 clear H
 go_enter Try.func34, Try.ntmps34
 go_wp2_with (first | ((with_reducible refine gate_dst (N := 8) rfl ?_); refine Kd.R_lit Kd.c64 _ 30 ?hg (N := 8) ?hd (xs := ([] : List C64)) (inner := []) (ok := fun _ => True) (okp := fun _ => True) ?hr ?hp (fun _ hk => hk) trivial (Below.refl _ _) (Nat.le_refl _) (by simp) ?_; (case hd => rfl); (case hg => rfl); (case hr => first | (go_simp; done) | (go_simp; rfl)); (case hp => exact (Reps.none _ _)); intro v146 w3 ho4 hb hg_ hnew_; clear hg_ hnew_; (first | rw [← Ny145.out] at ho4 | (simp only [Int.reduceToNat] at ho4; rw [← Ny145.out] at ho4)); have n0_ := Aside0.mk (Kd.R_lower ho4 (below_size (by repeat (first | (with_reducible first | exact HB.out | apply below_alloc | apply pw_below_drewN | apply below_drew1) | exact HB.out)))); have n1_ := Aside0.mk (below_step (by repeat (first | (with_reducible first | exact HB.out | apply below_alloc | apply pw_below_drewN | apply below_drew1) | exact HB.out)) hb); clear HB; have HO147 := n0_; have HB := n1_; clear n0_ n1_; clear hb ho4))
 go_loopg [5, 11] k (fun kq v5 v11 w' => ∃ (x5_1 : List C64) (x11_1 : Int), v11 = .int .i64 x11_1 ∧ Aside0 (impl_scaled.l0 kq a1 x5_1 l0 (l0.length : Int) x11_1 = some r) ∧ Aside0 (kq ≤ k) ∧ Aside0 (Kd.R Kd.c64 30 w' w.heap.size (fun _ => True) v5 x5_1) ∧ Aside0 (Below w.heap.size w w'))
 case atStart => exact ⟨(y145), (0), (by first | rfl | (simp; done) | (simp [*]; done)), H', ⟨Nat.le_refl _⟩, ⟨by (with_reducible repeat (first | apply Kd.R_alloc | apply Kd.R_drewN | apply Kd.R_drew)); exact HO147.out⟩, ⟨by repeat (first | (with_reducible first | exact HB.out | apply below_alloc | apply pw_below_drewN | apply below_drew1) | exact HB.out)⟩⟩
 case round =>
  clear H'
  (try clear p2); (try clear c3)
  obtain ⟨x5_1, x11_1, rfl, HA, HK1, HO_5, HB⟩ := hrel
  cases gk with
  | zero => exact absurd HA.out (by simp [impl_scaled.l0])
  | succ k1 =>
   have H := HA.out
   clear HA
   simp only [impl_scaled.l0] at H
   by_cases c5 : x11_1 < (l0.length : Int)
   · rw [if_pos c5] at H
     have c5b0 : decide (x11_1 < (l0.length : Int)) = true := decide_eq_true c5
     clear c5
     by_cases c6 : 0 ≤ x11_1
     · rw [if_pos c6] at H
       have c6b0 : decide (0 ≤ x11_1) = true := decide_eq_true c6
       clear c6
       by_cases c7 : x11_1 < (l0.length : Int)
       · rw [if_pos c7] at H
         have c7b0 : decide (x11_1 < (l0.length : Int)) = true := decide_eq_true c7
         clear c7
         replace H := Option.bind_eq_some_iff.mp H
         obtain ⟨t149, A80, H⟩ := H
         replace H : (if x5_1.length < 17592186044416 then (impl_scaled.l0 k1 a1 (x5_1 ++ [t149]) l0 (l0.length : Int) (wrap64 (x11_1 + 1))) else (none)) = some r := H
         have A8 := Aside0.mk A80
         clear A80
         by_cases c9 : x5_1.length < 17592186044416
         · rw [if_pos c9] at H
           have LMc9 := Aside0.mk c9
           clear c9
           obtain ⟨y150, hy150⟩ : ∃ y_ : List C64, y_ = (x5_1 ++ [t149]) := ⟨_, rfl⟩
           replace H : (impl_scaled.l0 k1 a1 y150 l0 (l0.length : Int) (wrap64 (x11_1 + 1))) = some r := by first | (rw [hy150]; with_reducible exact H) | (have H2_ := (Option.bind_some _ _).symm.trans H; rw [hy150]; with_reducible exact H2_) | (have H2_ := (Option.bind_some _ _).symm.trans H; with_reducible exact H2_) | with_reducible exact H | (rw [hy150]; exact H) | exact H
           have Ny150 := Aside0.mk hy150
           clear hy150
           as_aux_lemma =>
            have H' := Aside0.mk H
            clear H
            have p148 : 0 ≤ (x11_1 : Int) := of_decide_eq_true (by first | (with_reducible assumption) | assumption)
            have q148 : x11_1 < (l0.length : Int) := of_decide_eq_true (by first | (with_reducible assumption) | assumption)
            obtain ⟨ad148, e148, hx148_0⟩ := Kd.at_c64 HR0.out x11_1 p148 q148
            cases e148
            replace hx148_0 := (HB.out.cell (World.block_lt_of_cell? w _ hx148_0)).trans hx148_0
            replace p148 := eq_true p148
            replace q148 := eq_true q148
            go_wp2_with (first | ((with_reducible refine gate_callee (f := 43) rfl ?_); refine goesL_ (some 18) rfl rfl Try.func43 (by kernel_rfl) rfl #[.complex .f32 ((rdOf c64z l0 x11_1).re) ((rdOf c64z l0 x11_1).im), .float .f32 a1] rfl (by (try simp only [List.map_toArray, List.map_cons, List.map_nil]); first | done | rfl | (simp only [List.length_drop, List.length_take]; rfl)) ?_; (with_reducible refine (impl_ScaleComplex.calls (rdOf c64z l0 x11_1) a1 t149 _ A8.out).mono ?_); rintro e w10 ⟨rfl, hb⟩; refine ⟨_, rfl, ?_⟩; have n0_ := Aside0.mk (Kd.R_below (by (with_reducible repeat (first | apply Kd.R_alloc | apply Kd.R_drewN | apply Kd.R_drew)); exact HO_5.out) hb); have n1_ := Aside0.mk (below_step (by repeat (first | (with_reducible first | exact HB.out | apply below_alloc | apply pw_below_drewN | apply below_drew1) | exact HB.out)) hb); clear HO_5; clear HB; have HO_5 := n0_; have HB := n1_; clear n0_ n1_; (try clear hb); (try clear hb2); (try clear hk); (try clear hi)) | ((with_reducible refine gate_builtin (b := .append) (xs := #[.tmp 15, .tmp 19]) rfl ?_); at_builtin; refine Kd.R_append Kd.c64 (w0 := w) w.heap.size rfl (.tmp 15) (.tmp 19) 24 30 (.complex .f32 0 0) 8 rfl Try.underlying24 info30 rfl (by decide) (by omega) u5 x5_1 t149 [.complex .f32 t149.re t149.im] (fun _ => True) (fun _ => False) rfl rfl ?aP (fun _ hk => hk.elim) ?aF ?aO ?aB ?aS ?aL ?_; (case aP => exact rfl); (case aB => exact (by repeat (first | (with_reducible first | exact HB.out | apply below_alloc | apply pw_below_drewN | apply below_drew1) | exact HB.out))); (case aF => exact (fun _ _ => trivial)); (case aO => exact (by (with_reducible repeat (first | apply Kd.R_alloc | apply Kd.R_drewN | apply Kd.R_drew)); exact HO_5.out)); (case aS => exact (below_size (by repeat (first | (with_reducible first | exact HB.out | apply below_alloc | apply pw_below_drewN | apply below_drew1) | exact HB.out)))); (case aL => have := LMc9.out; omega); intro v151 w11 ho hb hg hat; rw [← Ny150.out] at ho; have n0_ := Aside0.mk (hb); have n1_ := Aside0.mk (ho); clear HB; clear HO_5; have HB := n0_; have HO152 := n1_; clear n0_ n1_; clear ho hb hg hat))
            go_roundg k1
            case measure => have := HK1.out; omega
            case rel => exact ⟨(y150), (wrap64 (x11_1 + 1)), (by first | rfl | (simp; done) | (simp [*]; done)), H', ⟨by have := HK1.out; omega⟩, ⟨by (with_reducible repeat (first | apply Kd.R_alloc | apply Kd.R_drewN | apply Kd.R_drew)); exact HO152.out⟩, ⟨by repeat (first | (with_reducible first | exact HB.out | apply below_alloc | apply pw_below_drewN | apply below_drew1) | exact HB.out)⟩⟩
         · rw [if_neg c9] at H
           exact absurd H (by simp)
       · rw [if_neg c7] at H
         exact absurd H (by simp)
     · rw [if_neg c6] at H
       exact absurd H (by simp)
   · rw [if_neg c5] at H
     have c5b0 : decide (x11_1 < (l0.length : Int)) = false := decide_eq_false c5
     clear c5
     as_aux_lemma =>
      obtain rfl := Option.some.inj H
      go_wp2
      go_ret
      exact ⟨_, by first | rfl | (simp [errW_none, errW_some] <;> rfl) | (simp [*, errW_none, errW_some] <;> rfl), by (with_reducible repeat (first | apply Kd.R_alloc | apply Kd.R_drewN | apply Kd.R_drew)); exact HO_5.out, by repeat (first | (with_reducible first | exact HB.out | apply below_alloc | apply pw_below_drewN | apply below_drew1) | exact HB.out)⟩

/-! ### impl_ConjugateOf: function 45 -/
def impl_ConjugateOf.f (a0 : C64) : Option (C64) := some (⟨a0.re, Go.Op.negFloat .f32 a0.im⟩ : C64)
set_option maxHeartbeats 8000000 in
set_option maxRecDepth 100000 in
theorem impl_ConjugateOf.calls (a0 : C64) (r : C64) (w : World) (h : impl_ConjugateOf.f a0 = some r) :
 Calls Try.prog 45 #[.complex .f32 a0.re a0.im] w fun e w' => e = .returned (.complex .f32 r.re r.im) ∧ Below w.heap.size w w' := by
 have HB := Aside0.mk (Below.refl w.heap.size w)
 have H : (some (⟨a0.re, Go.Op.negFloat .f32 a0.im⟩ : C64)) = some r := h
 clear h
 as_aux_lemma =>
  obtain rfl := Option.some.inj H
  go_enter Try.func45, Try.ntmps45
  go_wp2
  go_ret
  exact ⟨by first | rfl | (simp [errW_none, errW_some] <;> rfl) | (simp [*, errW_none, errW_some] <;> rfl), by repeat (first | (with_reducible first | exact HB.out | apply below_alloc | apply pw_below_drewN | apply below_drew1) | exact HB.out)⟩

/-! ### impl_dotWith: function 49 -/
mutual
def impl_dotWith.j0 : Nat → List C64 → List C64 → Bool → Option (C64 × Bool)
 | 0, _, _, _ => none
 | k + 1, x0, x1, x19 => if x19 = true then (none) else (impl_dotWith.l0 k x0 x1 (⟨0, 0⟩ : C64) (x0.length : Int) 0)
def impl_dotWith.l0 : Nat → List C64 → List C64 → C64 → Int → Int → Option (C64 × Bool)
 | 0, _, _, _, _, _ => none
 | k + 1, x0, x1, x8, x21, x22 => if x22 < x21 then (if 0 ≤ x22 then (if x22 < (x0.length : Int) then ((impl_ConjugateOf.f (rdOf c64z x0 x22)).bind fun t154 => (if x22 < (x1.length : Int) then ((impl_MulComplex.f t154 (rdOf c64z x1 x22)).bind fun t156 => ((impl_add.f x8 t156).bind fun t157 => (impl_dotWith.l0 k x0 x1 t157 x21 (wrap64 (x22 + 1))))) else (none))) else (none)) else (none)) else (some (x8, true))
end
def impl_dotWith.f (k : Nat) (l0 : List C64) (l1 : List C64) : Option (C64 × Bool) := if (l0.length : Int) > 64 then (none) else (impl_dotWith.j0 k l0 l1 ((l0.length : Int) != (l1.length : Int)))
theorem impl_dotWith.mono_l : ∀ k, (∀ y0 y1 y2, LeO (impl_dotWith.j0 k y0 y1 y2) (impl_dotWith.j0 (k + 1) y0 y1 y2)) ∧ (∀ y0 y1 y2 y3 y4, LeO (impl_dotWith.l0 k y0 y1 y2 y3 y4) (impl_dotWith.l0 (k + 1) y0 y1 y2 y3 y4))
 | 0 => ⟨fun _ _ _ r h => by simp [impl_dotWith.j0] at h, fun _ _ _ _ _ r h => by simp [impl_dotWith.l0] at h⟩
 | k + 1 => by
  obtain ⟨ih0, ih1⟩ := impl_dotWith.mono_l k
  refine ⟨?_, ?_⟩
  · intro y0 y1 y2
    unfold impl_dotWith.j0
    repeat' first
    | (with_reducible exact ih0 _ _ _)
    | (with_reducible exact ih1 _ _ _ _ _)
    | (with_reducible exact LeO.refl _)
    | (with_reducible exact LeO.none _)
    | (with_reducible refine LeO.ite ?_ ?_)
    | (with_reducible refine LeO.bind ?_ (fun _ => ?_))
    | exact ih0 _ _ _
    | exact ih1 _ _ _ _ _
    | exact LeO.none _
    | refine LeO.ite ?_ ?_
    | refine LeO.bind ?_ (fun _ => ?_)
  · intro y0 y1 y2 y3 y4
    unfold impl_dotWith.l0
    repeat' first
    | (with_reducible exact ih0 _ _ _)
    | (with_reducible exact ih1 _ _ _ _ _)
    | (with_reducible exact LeO.refl _)
    | (with_reducible exact LeO.none _)
    | (with_reducible refine LeO.ite ?_ ?_)
    | (with_reducible refine LeO.bind ?_ (fun _ => ?_))
    | exact ih0 _ _ _
    | exact ih1 _ _ _ _ _
    | exact LeO.none _
    | refine LeO.ite ?_ ?_
    | refine LeO.bind ?_ (fun _ => ?_)
theorem impl_dotWith.mono : ∀ a0 a1 k, LeO (impl_dotWith.f k a0 a1) (impl_dotWith.f (k + 1) a0 a1) := by
 intro a0 a1 k
 obtain ⟨ih0, ih1⟩ := impl_dotWith.mono_l k
 unfold impl_dotWith.f
 repeat' first
  | (with_reducible exact ih0 _ _ _)
  | (with_reducible exact ih1 _ _ _ _ _)
  | (with_reducible exact LeO.refl _)
  | (with_reducible exact LeO.none _)
  | (with_reducible refine LeO.ite ?_ ?_)
  | (with_reducible refine LeO.bind ?_ (fun _ => ?_))
  | exact ih0 _ _ _
  | exact ih1 _ _ _ _ _
  | exact LeO.none _
  | refine LeO.ite ?_ ?_
  | refine LeO.bind ?_ (fun _ => ?_)
def impl_dotWith.T7 : Bool × List (List Nat × List Nat) := (true, [([], []), ([], []), ([], []), ([], []), ([2, 3], [2, 3]), ([4], [4]), ([1, 5], [1, 5]), ([], []), ([], []), ([7, 8], [7, 8]), ([9], [9]), ([6, 10, 6], [6, 10]), ([0, 11, 11], [0, 11]), ([12, 12, 0, 1, 2, 3, 4, 5, 6, 7, 8, 9, 10, 11, 12], [0, 12])])
def impl_dotWith.B7 : List Nat := [0, 0, 0, 0, 12, 28, 62, 0, 0, 384, 896, 2046, 4095, 8191]
theorem impl_dotWith.tab7 : rtab .any (opsOf Try.f49 7) = impl_dotWith.T7 := by kernel_rfl
theorem impl_dotWith.bits7 : waitsOk impl_dotWith.T7.2 impl_dotWith.B7 = true := by kernel_rfl
set_option maxHeartbeats 8000000 in
set_option maxRecDepth 100000 in
theorem impl_dotWith.calls (k : Nat) (A0 : Option Addr) (c0 : Nat) (l0 : List C64) (A1 : Option Addr) (c1 : Nat) (l1 : List C64) (r1 : C64) (r2 : Bool) (w : World) (hr0 : Kd.C Kd.c64 w A0 l0.length l0) (hc0 : l0.length ≤ c0) (hr1 : Kd.C Kd.c64 w A1 l1.length l1) (hc1 : l1.length ≤ c1) (h : impl_dotWith.f k l0 l1 = some (r1, r2)) :
 Calls Try.prog 49 #[.slice A0 l0.length c0, .slice A1 l1.length c1, .func (.func 45) #[] #[]] w fun e w' => e = .returned (.tuple #[.complex .f32 r1.re r1.im, .bool r2]) ∧ Below w.heap.size w w' := by
 have HR0 := Aside0.mk hr0
 have HC0 := Aside0.mk hc0
 clear hr0 hc0
 have HR1 := Aside0.mk hr1
 have HC1 := Aside0.mk hc1
 clear hr1 hc1
 have HB := Aside0.mk (Below.refl w.heap.size w)
 have H : (if (l0.length : Int) > 64 then (none) else (impl_dotWith.j0 k l0 l1 ((l0.length : Int) != (l1.length : Int)))) = some (r1, r2) := h
 clear h
 have HC3 := Aside0.mk H
 clear H
 go_enter Try.func49, Try.ntmps49
 go_upto_region 1 with (fail)
 go_cut [19] (fun v19 wc => ∃ (kq : Nat) (x19_2 : Bool), v19 = .bool x19_2 ∧ Aside0 (impl_dotWith.j0 kq l0 l1 x19_2 = some (r1, r2)) ∧ Aside0 (kq ≤ k) ∧ Aside0 (Below w.heap.size w wc))
 case first =>
  have H := HC3.out
  clear HC3
  by_cases c4 : (l0.length : Int) > 64
  · rw [if_pos c4] at H
    exact absurd H (by simp)
  · rw [if_neg c4] at H
    have c4b0 : decide (64 < (l0.length : Int)) = false := decide_eq_false c4
    have c4b1 : decide (64 < l0.length) = false := decide_eq_false (by omega)
    clear c4
    (first | rw [c4b0] | (simp only [i64_w, i32_w]; rw [c4b0]) | skip)
    as_aux_lemma =>
     have H' := Aside0.mk H
     clear H
     go_wp2
     go_meet
     case rel => exact ⟨_, (((l0.length : Int) != (l1.length : Int))), (by first | rfl | (simp; done) | (simp [*]; done)), H', ⟨by first | omega | exact Nat.le_refl _⟩, ⟨by repeat (first | (with_reducible first | exact HB.out | apply below_alloc | apply pw_below_drewN | apply below_drew1) | exact HB.out)⟩⟩
 case rest =>
  clear HC3
  (try clear c1); (try clear p2); (try clear c4); (try clear c4b0); (try clear c4b1)
  obtain ⟨kq, x19_2, rfl, HA, HJ2, HB⟩ := hcut
  cases kq with
  | zero => exact absurd HA.out (by simp [impl_dotWith.j0])
  | succ kj2 =>
   have H := HA.out
   clear HA
   simp only [impl_dotWith.j0] at H
   by_cases c5 : x19_2 = true
   · subst c5
     have H1 : (none) = some (r1, r2) := by rw [if_pos rfl] at H; exact H
     clear H
     have H := H1
     clear H1
     exact absurd H (by simp)
   · replace c5 := Bool.eq_false_iff.mpr c5
     subst c5
     have H1 : (impl_dotWith.l0 kj2 l0 l1 (⟨0, 0⟩ : C64) (l0.length : Int) 0) = some (r1, r2) := by rw [if_neg (show ¬ (false = true) by decide)] at H; exact H
     clear H
     have H := H1
     clear H1
     have H' := Aside0.mk H
     clear H
     go_wp2
     go_loopg [8, 22] kj2 (fun kq v8 v22 w' => ∃ (x8_2 : C64) (x22_2 : Int), v8 = .complex .f32 x8_2.re x8_2.im ∧ v22 = .int .i64 x22_2 ∧ Aside0 (impl_dotWith.l0 kq l0 l1 x8_2 (l0.length : Int) x22_2 = some (r1, r2)) ∧ Aside0 (kq ≤ kj2) ∧ Aside0 (Below w.heap.size w w'))
     case atStart => exact ⟨((⟨0, 0⟩ : C64)), (0), (by first | rfl | (simp; done) | (simp [*]; done)), (by first | rfl | (simp; done) | (simp [*]; done)), H', ⟨Nat.le_refl _⟩, ⟨by repeat (first | (with_reducible first | exact HB.out | apply below_alloc | apply pw_below_drewN | apply below_drew1) | exact HB.out)⟩⟩
     case round =>
      clear H'
      (try clear c1); (try clear p2); (try clear c4); (try clear c4b0); (try clear c4b1); (try clear c5); (try clear p2)
      obtain ⟨x8_2, x22_2, rfl, rfl, HA, HK2, HB⟩ := hrel
      cases gk with
      | zero => exact absurd HA.out (by simp [impl_dotWith.l0])
      | succ k2 =>
       have H := HA.out
       clear HA
       simp only [impl_dotWith.l0] at H
       by_cases c6 : x22_2 < (l0.length : Int)
       · rw [if_pos c6] at H
         have c6b0 : decide (x22_2 < (l0.length : Int)) = true := decide_eq_true c6
         clear c6
         by_cases c7 : 0 ≤ x22_2
         · rw [if_pos c7] at H
           have c7b0 : decide (0 ≤ x22_2) = true := decide_eq_true c7
           clear c7
           by_cases c8 : x22_2 < (l0.length : Int)
           · rw [if_pos c8] at H
             have c8b0 : decide (x22_2 < (l0.length : Int)) = true := decide_eq_true c8
             clear c8
             replace H := Option.bind_eq_some_iff.mp H
             obtain ⟨t154, A90, H⟩ := H
             replace H : (if x22_2 < (l1.length : Int) then ((impl_MulComplex.f t154 (rdOf c64z l1 x22_2)).bind fun t156 => ((impl_add.f x8_2 t156).bind fun t157 => (impl_dotWith.l0 k2 l0 l1 t157 (l0.length : Int) (wrap64 (x22_2 + 1))))) else (none)) = some (r1, r2) := H
             have A9 := Aside0.mk A90
             clear A90
             by_cases c10 : x22_2 < (l1.length : Int)
             · rw [if_pos c10] at H
               have c10b0 : decide (x22_2 < (l1.length : Int)) = true := decide_eq_true c10
               clear c10
               replace H := Option.bind_eq_some_iff.mp H
               obtain ⟨t156, A110, H⟩ := H
               replace H : ((impl_add.f x8_2 t156).bind fun t157 => (impl_dotWith.l0 k2 l0 l1 t157 (l0.length : Int) (wrap64 (x22_2 + 1)))) = some (r1, r2) := H
               have A11 := Aside0.mk A110
               clear A110
               replace H := Option.bind_eq_some_iff.mp H
               obtain ⟨t157, A120, H⟩ := H
               replace H : (impl_dotWith.l0 k2 l0 l1 t157 (l0.length : Int) (wrap64 (x22_2 + 1))) = some (r1, r2) := H
               have A12 := Aside0.mk A120
               clear A120
               as_aux_lemma =>
                have H' := Aside0.mk H
                clear H
                try go_wp2
                have n0_ := Aside0.mk (below_drew1 HB.out)
                clear HB
                have HB := n0_
                clear n0_
                have p153 : 0 ≤ (x22_2 : Int) := of_decide_eq_true (by first | (with_reducible assumption) | assumption)
                have q153 : x22_2 < (l0.length : Int) := of_decide_eq_true (by first | (with_reducible assumption) | assumption)
                obtain ⟨ad153, e153, hx153_0⟩ := Kd.at_c64 HR0.out x22_2 p153 q153
                have hw153_0 := hx153_0
                cases e153
                replace hx153_0 := (HB.out.cell (World.block_lt_of_cell? w _ hx153_0)).trans hx153_0
                replace p153 := eq_true p153
                replace q153 := eq_true q153
                have p155 : 0 ≤ (x22_2 : Int) := of_decide_eq_true (by first | (with_reducible assumption) | assumption)
                have q155 : x22_2 < (l1.length : Int) := of_decide_eq_true (by first | (with_reducible assumption) | assumption)
                obtain ⟨ad155, e155, hx155_0⟩ := Kd.at_c64 HR1.out x22_2 p155 q155
                have hw155_0 := hx155_0
                cases e155
                replace hx155_0 := (HB.out.cell (World.block_lt_of_cell? w _ hx155_0)).trans hx155_0
                replace p155 := eq_true p155
                replace q155 := eq_true q155
                refine start_ (n := 14) (S := fun w' => w'.cell? (ad153.add (x22_2).toNat) = some (.complex .f32 ((rdOf c64z l0 x22_2).re) ((rdOf c64z l0 x22_2).im)) ∧ w'.cell? (ad155.add (x22_2).toNat) = some (.complex .f32 ((rdOf c64z l1 x22_2).re) ((rdOf c64z l1 x22_2).im))) (ds := []) #[false, false, false, false, false, false, false, false, false, false, false, false, false, false] (by kernel_rfl) rfl rfl ⟨((HB.out.cell (World.block_lt_of_cell? w _ hw153_0)).trans hw153_0), ((HB.out.cell (World.block_lt_of_cell? w _ hw155_0)).trans hw155_0)⟩ (fun hHeld => ?_); refine with_tabW impl_dotWith.tab7 impl_dotWith.bits7 (fun HT_ HW_ => ?_)
                generalize wr.drew = w13 at HB hx153_0 hx155_0 hHeld ⊢
                refine pure_ (i := 0) (N := some 25) (v := ?_) (a' := ?_) #[true, false, false, false, false, false, false, false, false, false, false, false, false, false] rfl rfl (any_of HT_.out (by kernel_rfl)) (fun _ _ _ h => h) (Or.inl ⟨by rfl, ?_⟩) ?_ ?_; rotate_left 4
                refine pure_ (i := 1) (N := some 26) (v := ?_) (a' := ?_) #[true, true, false, false, false, false, false, false, false, false, false, false, false, false] rfl rfl (any_of HT_.out (by kernel_rfl)) (fun _ _ _ h => h) (Or.inl ⟨by rfl, ?_⟩) ?_ ?_; rotate_left 4
                refine pure_ (i := 2) (N := some 27) (v := ?_) (a' := ?_) #[true, true, true, false, false, false, false, false, false, false, false, false, false, false] rfl rfl (any_of HT_.out (by kernel_rfl)) (fun _ _ _ h => h) (Or.inl ⟨by rfl, ?_⟩) ?_ ?_; rotate_left 4
                refine pure_ (i := 3) (N := some 28) (v := ?_) (a' := ?_) #[true, true, true, true, false, false, false, false, false, false, false, false, false, false] rfl rfl (any_of HT_.out (by kernel_rfl)) (fun _ _ _ h => h) (Or.inl ⟨by rfl, ?_⟩) ?_ ?_; rotate_left 4
                refine pure_ (i := 4) (N := some 29) (v := ?_) (a' := ?_) #[true, true, true, true, true, false, false, false, false, false, false, false, false, false] rfl rfl (any_of HT_.out (by kernel_rfl)) (fun _ _ _ h => h) (Or.inl ⟨by rfl, ?_⟩) ?_ ?_; rotate_left 4
                refine pure_ (i := 7) (N := some 32) (v := ?_) (a' := ?_) #[true, true, true, true, true, false, false, true, false, false, false, false, false, false] rfl rfl (any_of HT_.out (by kernel_rfl)) (fun _ _ _ h => h) (Or.inl ⟨by rfl, ?_⟩) ?_ ?_; rotate_left 4
                refine pure_ (i := 8) (N := some 33) (v := ?_) (a' := ?_) #[true, true, true, true, true, false, false, true, true, false, false, false, false, false] rfl rfl (any_of HT_.out (by kernel_rfl)) (fun _ _ _ h => h) (Or.inl ⟨by rfl, ?_⟩) ?_ ?_; rotate_left 4
                refine pure_ (i := 9) (N := some 34) (v := ?_) (a' := ?_) #[true, true, true, true, true, false, false, true, true, true, false, false, false, false] rfl rfl (any_of HT_.out (by kernel_rfl)) (fun _ _ _ h => h) (Or.inl ⟨by rfl, ?_⟩) ?_ ?_; rotate_left 4
                rotate_left; iterate 8 (rotate_left; (intro w'; go_simp; with_reducible rfl); rotate_left; (simp only [Act.put, List.setIfInBounds_toArray, List.set_cons_zero, List.set_cons_succ, i64_w, i32_w]; rfl))
                refine take_ (i := 5) (N := some 30) (v := ?_) (a' := ?_) #[true, true, true, true, true, true, false, true, true, true, false, false, false, false] rfl rfl (take_ofW HT_.out HW_.out (by kernel_rfl)) (fun _ _ _ h => h) (Or.inl ⟨by rfl, ?_⟩) hHeld ?_ ?_
                rotate_left
                · rintro w' ⟨s0, s1⟩
                  go_simp
                  with_reducible rfl
                rotate_left
                · simp only [Act.put, List.setIfInBounds_toArray, List.set_cons_zero, List.set_cons_succ, i64_w, i32_w]
                  rfl
                refine take_ (i := 10) (N := some 35) (v := ?_) (a' := ?_) #[true, true, true, true, true, true, false, true, true, true, true, false, false, false] rfl rfl (take_ofW HT_.out HW_.out (by kernel_rfl)) (fun _ _ _ h => h) (Or.inl ⟨by rfl, ?_⟩) hHeld ?_ ?_
                rotate_left
                · rintro w' ⟨s0, s1⟩
                  go_simp
                  with_reducible rfl
                rotate_left
                · simp only [Act.put, List.setIfInBounds_toArray, List.set_cons_zero, List.set_cons_succ, i64_w, i32_w]
                  rfl
                refine one_ (i := 6) (N := some 31) #[true, true, true, true, true, true, true, true, true, true, true, false, false, false] rfl rfl (one_of HT_.out (by kernel_rfl)) (by decide) (fun K hK => ?_)
                refine goesV_ Try.func45 (by kernel_rfl) rfl #[.complex .f32 ((rdOf c64z l0 x22_2).re) ((rdOf c64z l0 x22_2).im)] (by rfl) rfl rfl (by rfl) (by (try simp only [List.map_toArray, List.map_cons, List.map_nil]); first | done | rfl | (simp only [List.length_drop, List.length_take]; rfl)) ?_
                with_reducible refine (impl_ConjugateOf.calls (rdOf c64z l0 x22_2) t154 _ A9.out).mono ?_
                rintro e w14 ⟨rfl, hb⟩
                refine ⟨_, rfl, ?_⟩
                have n0_ := Aside0.mk (below_step (by repeat (first | (with_reducible first | exact HB.out | apply below_alloc | apply pw_below_drewN | apply below_drew1) | exact HB.out)) hb)
                clear HB
                have HB := n0_
                clear n0_
                (try clear hb)
                (try clear hb2)
                (try clear hk)
                (try clear hi)
                refine hK.out _ _ ⟨((HB.out.cell (World.block_lt_of_cell? w _ hw153_0)).trans hw153_0), ((HB.out.cell (World.block_lt_of_cell? w _ hw155_0)).trans hw155_0)⟩ (fun hHeld => ?_)
                clear hK K
                refine norm_ (a' := ?_) ?_ ?_
                rotate_left
                · show Act.put _ (some 31) _ = _
                  simp only [Act.put, List.setIfInBounds_toArray, List.set_cons_zero, List.set_cons_succ, i64_w, i32_w]
                  rfl
                refine one_ (i := 11) (N := some 36) #[true, true, true, true, true, true, true, true, true, true, true, true, false, false] rfl rfl (one_of HT_.out (by kernel_rfl)) (by decide) (fun K hK => ?_)
                refine goes_ Try.func12 (by kernel_rfl) rfl #[.complex .f32 t154.re t154.im, .complex .f32 ((rdOf c64z l1 x22_2).re) ((rdOf c64z l1 x22_2).im)] (by rfl) rfl rfl (by (try simp only [List.map_toArray, List.map_cons, List.map_nil]); first | done | rfl | (simp only [List.length_drop, List.length_take]; rfl)) ?_
                with_reducible refine (impl_MulComplex.calls t154 (rdOf c64z l1 x22_2) t156 _ A11.out).mono ?_
                rintro e w15 ⟨rfl, hb⟩
                refine ⟨_, rfl, ?_⟩
                have n0_ := Aside0.mk (below_step (by repeat (first | (with_reducible first | exact HB.out | apply below_alloc | apply pw_below_drewN | apply below_drew1) | exact HB.out)) hb)
                clear HB
                have HB := n0_
                clear n0_
                (try clear hb)
                (try clear hb2)
                (try clear hk)
                (try clear hi)
                refine hK.out _ _ ⟨((HB.out.cell (World.block_lt_of_cell? w _ hw153_0)).trans hw153_0), ((HB.out.cell (World.block_lt_of_cell? w _ hw155_0)).trans hw155_0)⟩ (fun hHeld => ?_)
                clear hK K
                refine norm_ (a' := ?_) ?_ ?_
                rotate_left
                · show Act.put _ (some 36) _ = _
                  simp only [Act.put, List.setIfInBounds_toArray, List.set_cons_zero, List.set_cons_succ, i64_w, i32_w]
                  rfl
                refine one_ (i := 12) (N := some 37) #[true, true, true, true, true, true, true, true, true, true, true, true, true, false] rfl rfl (one_of HT_.out (by kernel_rfl)) (by decide) (fun K hK => ?_)
                refine goes_ Try.func28 (by kernel_rfl) rfl #[.complex .f32 x8_2.re x8_2.im, .complex .f32 t156.re t156.im] (by rfl) rfl rfl (by (try simp only [List.map_toArray, List.map_cons, List.map_nil]); first | done | rfl | (simp only [List.length_drop, List.length_take]; rfl)) ?_
                with_reducible refine (impl_add.calls x8_2 t156 t157 _ A12.out).mono ?_
                rintro e w16 ⟨rfl, hb⟩
                refine ⟨_, rfl, ?_⟩
                have n0_ := Aside0.mk (below_step (by repeat (first | (with_reducible first | exact HB.out | apply below_alloc | apply pw_below_drewN | apply below_drew1) | exact HB.out)) hb)
                clear HB
                have HB := n0_
                clear n0_
                (try clear hb)
                (try clear hb2)
                (try clear hk)
                (try clear hi)
                refine hK.out _ _ ⟨((HB.out.cell (World.block_lt_of_cell? w _ hw153_0)).trans hw153_0), ((HB.out.cell (World.block_lt_of_cell? w _ hw155_0)).trans hw155_0)⟩ (fun hHeld => ?_)
                clear hK K
                refine norm_ (a' := ?_) ?_ ?_
                rotate_left
                · show Act.put _ (some 37) _ = _
                  simp only [Act.put, List.setIfInBounds_toArray, List.set_cons_zero, List.set_cons_succ, i64_w, i32_w]
                  rfl
                refine pure_ (i := 13) (N := some 8) (v := ?_) (a' := ?_) #[true, true, true, true, true, true, true, true, true, true, true, true, true, true] rfl rfl (any_of HT_.out (by kernel_rfl)) (fun _ _ _ h => h) (Or.inl ⟨by rfl, ?_⟩) ?_ ?_; rotate_left 4
                rotate_left; iterate 1 (rotate_left; (intro w'; go_simp; with_reducible rfl); rotate_left; (simp only [Act.put, List.setIfInBounds_toArray, List.set_cons_zero, List.set_cons_succ, i64_w, i32_w]; rfl))
                refine done_ (done_of HT_.out (by kernel_rfl)) ?_
                try go_wp2
                go_roundg k2
                case measure => have := HJ2.out; have := HK2.out; omega
                case rel => exact ⟨(t157), (wrap64 (x22_2 + 1)), (by first | rfl | (simp; done) | (simp [*]; done)), (by first | rfl | (simp; done) | (simp [*]; done)), H', ⟨by have := HJ2.out; have := HK2.out; omega⟩, ⟨by repeat (first | (with_reducible first | exact HB.out | apply below_alloc | apply pw_below_drewN | apply below_drew1) | exact HB.out)⟩⟩
             · rw [if_neg c10] at H
               exact absurd H (by simp)
           · rw [if_neg c8] at H
             exact absurd H (by simp)
         · rw [if_neg c7] at H
           exact absurd H (by simp)
       · rw [if_neg c6] at H
         have c6b0 : decide (x22_2 < (l0.length : Int)) = false := decide_eq_false c6
         clear c6
         as_aux_lemma =>
          simp only [Option.some.injEq, Prod.mk.injEq] at H
          obtain ⟨rfl, rfl⟩ := H
          go_wp2
          go_ret2
          exact ⟨by first | rfl | (simp [errW_none, errW_some] <;> rfl) | (simp [*, errW_none, errW_some] <;> rfl), by repeat (first | (with_reducible first | exact HB.out | apply below_alloc | apply pw_below_drewN | apply below_drew1) | exact HB.out)⟩

/-! ### impl_DotConjugate: function 46 -/
def impl_DotConjugate.f (k : Nat) (l0 : List C64) (l1 : List C64) : Option (C64 × Bool) := (impl_dotWith.f k l0 l1).bind fun bt158 => (some (bt158.1, bt158.2))
theorem impl_DotConjugate.mono : ∀ a0 a1 k, LeO (impl_DotConjugate.f k a0 a1) (impl_DotConjugate.f (k + 1) a0 a1) := by
 intro a0 a1 k
 unfold impl_DotConjugate.f
 repeat' first
  | (with_reducible exact impl_dotWith.mono _ _ _)
  | (with_reducible exact LeO.refl _)
  | (with_reducible exact LeO.none _)
  | (with_reducible refine LeO.ite ?_ ?_)
  | (with_reducible refine LeO.bind ?_ (fun _ => ?_))
  | exact impl_dotWith.mono _ _ _
  | exact LeO.none _
  | refine LeO.ite ?_ ?_
  | refine LeO.bind ?_ (fun _ => ?_)
set_option maxHeartbeats 8000000 in
set_option maxRecDepth 100000 in
theorem impl_DotConjugate.calls (k : Nat) (A0 : Option Addr) (c0 : Nat) (l0 : List C64) (A1 : Option Addr) (c1 : Nat) (l1 : List C64) (r1 : C64) (r2 : Bool) (w : World) (hr0 : Kd.C Kd.c64 w A0 l0.length l0) (hc0 : l0.length ≤ c0) (hr1 : Kd.C Kd.c64 w A1 l1.length l1) (hc1 : l1.length ≤ c1) (h : impl_DotConjugate.f k l0 l1 = some (r1, r2)) :
 Calls Try.prog 46 #[.slice A0 l0.length c0, .slice A1 l1.length c1] w fun e w' => e = .returned (.tuple #[.complex .f32 r1.re r1.im, .bool r2]) ∧ Below w.heap.size w w' := by
 have HR0 := Aside0.mk hr0
 have HC0 := Aside0.mk hc0
 clear hr0 hc0
 have HR1 := Aside0.mk hr1
 have HC1 := Aside0.mk hc1
 clear hr1 hc1
 have HB := Aside0.mk (Below.refl w.heap.size w)
 have H : ((impl_dotWith.f k l0 l1).bind fun bt158 => (some (bt158.1, bt158.2))) = some (r1, r2) := h
 clear h
 replace H := Option.bind_eq_some_iff.mp H
 obtain ⟨⟨t158, t159⟩, A30, H⟩ := H
 replace H : (some (t158, t159)) = some (r1, r2) := H
 have A3 := Aside0.mk A30
 clear A30
 as_aux_lemma =>
  simp only [Option.some.injEq, Prod.mk.injEq] at H
  obtain ⟨rfl, rfl⟩ := H
  go_enter Try.func46, Try.ntmps46
  go_wp2_with (first | ((with_reducible refine gate_callee (f := 49) rfl ?_); refine goesL_ (some 8) rfl rfl Try.func49 (by kernel_rfl) rfl #[.slice A0 l0.length c0, .slice A1 l1.length c1, .func (.func 45) #[] #[]] rfl (by (try simp only [List.map_toArray, List.map_cons, List.map_nil]); first | done | rfl | (simp only [List.length_drop, List.length_take]; rfl)) ?_; (with_reducible refine (impl_dotWith.calls k _ _ l0 _ _ l1 t158 t159 _ ?side1 ?side2 ?side3 ?side4 A3.out).mono ?_); (case side1 => repeat (first | exact HR0.out | (with_reducible refine Kd.C_alloc ?_ _) | (with_reducible refine Kd.C_drewN ?_ _) | (with_reducible refine Kd.C_drew ?_))); (case side2 => exact HC0.out); (case side3 => repeat (first | exact HR1.out | (with_reducible refine Kd.C_alloc ?_ _) | (with_reducible refine Kd.C_drewN ?_ _) | (with_reducible refine Kd.C_drew ?_))); (case side4 => exact HC1.out); rintro e w4 ⟨rfl, hb⟩; refine ⟨_, rfl, ?_⟩; have n0_ := Aside0.mk (below_step (by repeat (first | (with_reducible first | exact HB.out | apply below_alloc | apply pw_below_drewN | apply below_drew1) | exact HB.out)) hb); clear HB; have HB := n0_; clear n0_; (try clear hb); (try clear hb2); (try clear hk); (try clear hi)))
  go_ret2
  exact ⟨by first | rfl | (simp [errW_none, errW_some] <;> rfl) | (simp [*, errW_none, errW_some] <;> rfl), by repeat (first | (with_reducible first | exact HB.out | apply below_alloc | apply pw_below_drewN | apply below_drew1) | exact HB.out)⟩

/-! ### impl_outputOf: function 39 -/
def impl_outputOf.f (k : Nat) (l0_0 : List C64) (a0_1 : Nat) (a0_2 : Nat) (l1 : List C64) : Option (C64) := (impl_DotConjugate.f k l0_0 l1).bind fun bt161 => (some bt161.1)
theorem impl_outputOf.mono : ∀ a0 a1 a2 a3 k, LeO (impl_outputOf.f k a0 a1 a2 a3) (impl_outputOf.f (k + 1) a0 a1 a2 a3) := by
 intro a0 a1 a2 a3 k
 unfold impl_outputOf.f
 repeat' first
  | (with_reducible exact impl_DotConjugate.mono _ _ _)
  | (with_reducible exact LeO.refl _)
  | (with_reducible exact LeO.none _)
  | (with_reducible refine LeO.ite ?_ ?_)
  | (with_reducible refine LeO.bind ?_ (fun _ => ?_))
  | exact impl_DotConjugate.mono _ _ _
  | exact LeO.none _
  | refine LeO.ite ?_ ?_
  | refine LeO.bind ?_ (fun _ => ?_)
set_option maxHeartbeats 8000000 in
set_option maxRecDepth 100000 in
theorem impl_outputOf.calls (k : Nat) (A0_0 : Option Addr) (c0_0 : Nat) (l0_0 : List C64) (a0_1 : Nat) (a0_2 : Nat) (A1 : Option Addr) (c1 : Nat) (l1 : List C64) (r : C64) (w : World) (hr0_0 : Kd.C Kd.c64 w A0_0 l0_0.length l0_0) (hc0_0 : l0_0.length ≤ c0_0) (hr1 : Kd.C Kd.c64 w A1 l1.length l1) (hc1 : l1.length ≤ c1) (h : impl_outputOf.f k l0_0 a0_1 a0_2 l1 = some r) :
 Calls Try.prog 39 #[.agg #[.slice A0_0 l0_0.length c0_0, .float .f32 a0_1, .float .f32 a0_2], .slice A1 l1.length c1] w fun e w' => e = .returned (.complex .f32 r.re r.im) ∧ Below w.heap.size w w' := by
 have hu44 := Try.underlying44
 have HR0_0 := Aside0.mk hr0_0
 have HC0_0 := Aside0.mk hc0_0
 clear hr0_0 hc0_0
 have HR1 := Aside0.mk hr1
 have HC1 := Aside0.mk hc1
 clear hr1 hc1
 have HB := Aside0.mk (Below.refl w.heap.size w)
 have H : ((impl_DotConjugate.f k l0_0 l1).bind fun bt161 => (some bt161.1)) = some r := h
 clear h
 replace H := Option.bind_eq_some_iff.mp H
 obtain ⟨⟨t161, t162⟩, A30, H⟩ := H
 replace H : (some t161) = some r := H
 have A3 := Aside0.mk A30
 clear A30
 as_aux_lemma =>
  obtain rfl := Option.some.inj H
  go_enter Try.func39, Try.ntmps39
  go_wp2_with (first | ((with_reducible refine gate_dst (N := 2) rfl ?_); refine box_event ?hg (N := 2) ?hd (cs := #[.slice A0_0 l0_0.length c0_0, .float .f32 a0_1, .float .f32 a0_2]) (t := 44) ?hr ?_; (case hd => rfl); (case hg => rfl); (case hr => first | (go_simp; done) | (go_simp; rfl)); intro gb160 hg w4 hbox hb; have n0_ := Aside0.mk (below_step (by repeat (first | (with_reducible first | exact HB.out | apply below_alloc | apply pw_below_drewN | apply below_drew1) | exact HB.out)) hb); have n1_ := Aside0.mk (hbox); have n2_ := Aside0.mk ((by rw [hg]; exact (below_size (by repeat (first | (with_reducible first | exact HB.out | apply below_alloc | apply pw_below_drewN | apply below_drew1) | exact HB.out))) : w.heap.size ≤ gb160)); have n3_ := Aside0.mk ((by rw [hg]; exact (below_size (by repeat (first | (with_reducible first | exact HB.out | apply below_alloc | apply pw_below_drewN | apply below_drew1) | exact HB.out))) : w.heap.size ≤ gb160)); clear HB; have HB := n0_; have BK160 := n1_; have GW160 := n2_; have GE160 := n3_; clear n0_ n1_ n2_ n3_; clear hb hbox hg; have hcz5_0 : w4.cell? ⟨gb160, 0, none⟩ = some (.slice A0_0 l0_0.length c0_0) := (blk_cell BK160.out 0).trans rfl; have hcz5_1 : w4.cell? ⟨gb160, 1, none⟩ = some (.float .f32 a0_1) := (blk_cell BK160.out 1).trans rfl; have hcz5_2 : w4.cell? ⟨gb160, 2, none⟩ = some (.float .f32 a0_2) := (blk_cell BK160.out 2).trans rfl; have hfz5_0 := blk_frozen BK160.out 0; have hfz5_1 := blk_frozen BK160.out 1; have hfz5_2 := blk_frozen BK160.out 2) | ((with_reducible refine gate_callee (f := 46) rfl ?_); refine goesL_ (some 11) rfl rfl Try.func46 (by kernel_rfl) rfl #[.slice A0_0 l0_0.length c0_0, .slice A1 l1.length c1] rfl (by (try simp only [List.map_toArray, List.map_cons, List.map_nil]); first | done | rfl | (simp only [List.length_drop, List.length_take]; rfl)) ?_; (with_reducible refine (impl_DotConjugate.calls k _ _ l0_0 _ _ l1 t161 t162 _ ?side1 ?side2 ?side3 ?side4 A3.out).mono ?_); (case side1 => repeat (first | exact (Kd.C_below HR0_0.out HB.out) | (with_reducible refine Kd.C_alloc ?_ _) | (with_reducible refine Kd.C_drewN ?_ _) | (with_reducible refine Kd.C_drew ?_))); (case side2 => exact HC0_0.out); (case side3 => repeat (first | exact (Kd.C_below HR1.out HB.out) | (with_reducible refine Kd.C_alloc ?_ _) | (with_reducible refine Kd.C_drewN ?_ _) | (with_reducible refine Kd.C_drew ?_))); (case side4 => exact HC1.out); rintro e w6 ⟨rfl, hb⟩; refine ⟨_, rfl, ?_⟩; have n0_ := Aside0.mk (blk_below (g := gb160) (o := .cells #[.slice A0_0 l0_0.length c0_0, .float .f32 a0_1, .float .f32 a0_2] 44 (0, 0)) (by (with_reducible repeat (first | refine blk_drewN ?_ _ | refine blk_drew ?_ | refine blk_alloc ?_ _)); exact BK160.out) hb); have n1_ := Aside0.mk (below_step (by repeat (first | (with_reducible first | exact HB.out | apply below_alloc | apply pw_below_drewN | apply below_drew1 | refine below_set ?_ GE160.out) | exact HB.out)) hb); clear BK160; clear HB; have BK160 := n0_; have HB := n1_; clear n0_ n1_; (try clear hb); (try clear hb2); (try clear hk); (try clear hi)))
  go_ret
  exact ⟨by first | rfl | (simp [errW_none, errW_some] <;> rfl) | (simp [*, errW_none, errW_some] <;> rfl), by repeat (first | (with_reducible first | exact HB.out | apply below_alloc | apply pw_below_drewN | apply below_drew1 | refine below_set ?_ GE160.out) | exact HB.out)⟩

end Go.Proofs.Ytnfcbacdggkfeaa.B
