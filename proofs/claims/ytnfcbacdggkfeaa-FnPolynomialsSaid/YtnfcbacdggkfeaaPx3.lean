/-
  Contracts of the program's functions, each a plain Lean function beside the machine's call: written by this session's program over the kit's print.
-/
import Derived.Test.YtnfcbacdggkfeaaPx0
import Derived.Test.YtnfcbacdggkfeaaPx1
import Derived.Test.YtnfcbacdggkfeaaPx2
namespace Go.Proofs.Ytnfcbacdggkfeaa.P
open Go.RowKit Go.Proofs.YtnfcbacdggkfeaaW.PrintWords Go.Proofs.YtnfcbacdggkfeaaW.PrintLast Go.Proofs.YtnfcbacdggkfeaaW.PrintMore
attribute [local go_sem] max2_int min2_int max_two min_two max_three min_three max_four min_four   -- for this text's walks alone
set_option linter.unusedVariables false
set_option linter.unusedSimpArgs false

/-! ### impl_ValueAt: function 11 -/
def impl_ValueAt.l0 : Nat → List C64 → C64 → C64 → Int → Option (C64 × Bool)
 | 0, _, _, _, _ => none
 | k + 1, x0, x1, x7, x8 => if x8 ≥ 0 then ((impl_MulComplex.f x7 x1).bind fun t164 => (if 0 ≤ x8 then (if x8 < (x0.length : Int) then ((impl_add.f t164 (rdOf c64z x0 x8)).bind fun t166 => (impl_ValueAt.l0 k x0 x1 t166 (wrap64 (x8 - 1)))) else (none)) else (none))) else (some (x7, true))
def impl_ValueAt.f (k : Nat) (l0 : List C64) (a1 : C64) : Option (C64 × Bool) := (impl_areWeights.f l0).bind fun t162 => (if t162 = true then (if 0 ≤ (wrap64 ((l0.length : Int) - 1)) then (if (wrap64 ((l0.length : Int) - 1)) < (l0.length : Int) then (impl_ValueAt.l0 k l0 a1 (rdOf c64z l0 (wrap64 ((l0.length : Int) - 1))) (wrap64 ((wrap64 ((l0.length : Int) - 1)) - 1))) else (none)) else (none)) else (none))
theorem impl_ValueAt.mono_l : ∀ k, (∀ y0 y1 y2 y3, LeO (impl_ValueAt.l0 k y0 y1 y2 y3) (impl_ValueAt.l0 (k + 1) y0 y1 y2 y3))
 | 0 => fun _ _ _ _ r h => by simp [impl_ValueAt.l0] at h
 | k + 1 => by
  have ih0 := impl_ValueAt.mono_l k
  · intro y0 y1 y2 y3
    unfold impl_ValueAt.l0
    repeat' first
    | (with_reducible exact ih0 _ _ _ _)
    | (with_reducible exact LeO.refl _)
    | (with_reducible exact LeO.none _)
    | (with_reducible refine LeO.ite ?_ ?_)
    | (with_reducible refine LeO.bind ?_ (fun _ => ?_))
    | exact ih0 _ _ _ _
    | exact LeO.none _
    | refine LeO.ite ?_ ?_
    | refine LeO.bind ?_ (fun _ => ?_)
theorem impl_ValueAt.mono : ∀ a0 a1 k, LeO (impl_ValueAt.f k a0 a1) (impl_ValueAt.f (k + 1) a0 a1) := by
 intro a0 a1 k
 have ih0 := impl_ValueAt.mono_l k
 unfold impl_ValueAt.f
 repeat' first
  | (with_reducible exact ih0 _ _ _ _)
  | (with_reducible exact LeO.refl _)
  | (with_reducible exact LeO.none _)
  | (with_reducible refine LeO.ite ?_ ?_)
  | (with_reducible refine LeO.bind ?_ (fun _ => ?_))
  | exact ih0 _ _ _ _
  | exact LeO.none _
  | refine LeO.ite ?_ ?_
  | refine LeO.bind ?_ (fun _ => ?_)
def impl_ValueAt.T8 : Bool × List (List Nat × List Nat) := (true, [([], []), ([], []), ([0, 1], [0, 1]), ([], []), ([], []), ([3, 4], [3, 4]), ([5], [5]), ([2, 6, 2], [2, 6]), ([7, 7, 0, 1, 2, 3, 4, 5, 6, 7], [0, 7])])
def impl_ValueAt.B8 : List Nat := [0, 0, 3, 0, 0, 24, 56, 127, 255]
theorem impl_ValueAt.tab8 : rtab .any (opsOf Try.f11 8) = impl_ValueAt.T8 := by kernel_rfl
theorem impl_ValueAt.bits8 : waitsOk impl_ValueAt.T8.2 impl_ValueAt.B8 = true := by kernel_rfl
set_option maxHeartbeats 8000000 in
set_option maxRecDepth 100000 in
theorem impl_ValueAt.calls (k : Nat) (A0 : Option Addr) (c0 : Nat) (l0 : List C64) (a1 : C64) (r1 : C64) (r2 : Bool) (w : World) (hr0 : Kd.C Kd.c64 w A0 l0.length l0) (hc0 : l0.length ≤ c0) (h : impl_ValueAt.f k l0 a1 = some (r1, r2)) :
 Calls Try.prog 11 #[.slice A0 l0.length c0, .complex .f32 a1.re a1.im] w fun e w' => e = .returned (.tuple #[.complex .f32 r1.re r1.im, .bool r2]) ∧ Below w.heap.size w w' := by
 have HR0 := Aside0.mk hr0
 have HC0 := Aside0.mk hc0
 clear hr0 hc0
 have HB := Aside0.mk (Below.refl w.heap.size w)
 have H : ((impl_areWeights.f l0).bind fun t162 => (if t162 = true then (if 0 ≤ (wrap64 ((l0.length : Int) - 1)) then (if (wrap64 ((l0.length : Int) - 1)) < (l0.length : Int) then (impl_ValueAt.l0 k l0 a1 (rdOf c64z l0 (wrap64 ((l0.length : Int) - 1))) (wrap64 ((wrap64 ((l0.length : Int) - 1)) - 1))) else (none)) else (none)) else (none))) = some (r1, r2) := h
 clear h
 replace H := Option.bind_eq_some_iff.mp H
 obtain ⟨t162, A30, H⟩ := H
 replace H : (if t162 = true then (if 0 ≤ (wrap64 ((l0.length : Int) - 1)) then (if (wrap64 ((l0.length : Int) - 1)) < (l0.length : Int) then (impl_ValueAt.l0 k l0 a1 (rdOf c64z l0 (wrap64 ((l0.length : Int) - 1))) (wrap64 ((wrap64 ((l0.length : Int) - 1)) - 1))) else (none)) else (none)) else (none)) = some (r1, r2) := H
 have A3 := Aside0.mk A30
 clear A30
 by_cases c4 : t162 = true
 · subst c4
   have H1 : (if 0 ≤ (wrap64 ((l0.length : Int) - 1)) then (if (wrap64 ((l0.length : Int) - 1)) < (l0.length : Int) then (impl_ValueAt.l0 k l0 a1 (rdOf c64z l0 (wrap64 ((l0.length : Int) - 1))) (wrap64 ((wrap64 ((l0.length : Int) - 1)) - 1))) else (none)) else (none)) = some (r1, r2) := by rw [if_pos rfl] at H; exact H
   clear H
   have H := H1
   clear H1
   obtain ⟨ji5, hji5⟩ : ∃ j_ : Int, (wrap64 ((l0.length : Int) - 1)) = j_ := ⟨_, rfl⟩
   replace H : (if 0 ≤ (ji5) then (if (ji5) < (l0.length : Int) then (impl_ValueAt.l0 k l0 a1 (rdOf c64z l0 (ji5)) (wrap64 ((ji5) - 1))) else (none)) else (none)) = some (r1, r2) := by first | (rw [hji5] at H; exact H) | (simp only [hji5] at H ⊢; exact H)
   (try rw [hji5] at A3)
   have hji5w : (IntKind.i64.wrap ((l0.length : Int) - 1)) = ji5 := (i64_w _).trans hji5
   by_cases c6 : 0 ≤ (ji5)
   · rw [if_pos c6] at H
     have c6b0 : decide (0 ≤ (ji5)) = true := decide_eq_true c6
     clear c6
     by_cases c7 : (ji5) < (l0.length : Int)
     · rw [if_pos c7] at H
       have c7b0 : decide ((ji5) < (l0.length : Int)) = true := decide_eq_true c7
       clear c7
       have H' := Aside0.mk H
       clear H
       go_enter Try.func11, Try.ntmps11
       go_wp2_with (first | ((with_reducible refine gate_callee (f := 27) rfl ?_); refine goesL_ (some 10) rfl rfl Try.func27 (by kernel_rfl) rfl #[.slice A0 l0.length c0] rfl (by (try simp only [List.map_toArray, List.map_cons, List.map_nil]); first | done | rfl | (simp only [List.length_drop, List.length_take]; rfl)) ?_; (with_reducible refine (impl_areWeights.calls _ _ l0 true _ ?side1 ?side2 A3.out).mono ?_); (case side1 => repeat (first | exact HR0.out | (with_reducible refine Kd.C_alloc ?_ _) | (with_reducible refine Kd.C_drewN ?_ _) | (with_reducible refine Kd.C_drew ?_))); (case side2 => exact HC0.out); rintro e w' ⟨rfl, ⟨nd, rfl⟩⟩; refine ⟨_, rfl, ?_⟩; have p163 : 0 ≤ ((ji5) : Int) := of_decide_eq_true (by first | (with_reducible assumption) | assumption); have q163 : (ji5) < (l0.length : Int) := of_decide_eq_true (by first | (with_reducible assumption) | assumption); obtain ⟨ad163, e163, hx163_0⟩ := Kd.at_c64 HR0.out (ji5) p163 q163; cases e163; replace p163 := eq_true p163; replace q163 := eq_true q163))
       go_loopg [7, 8] k (fun kq v7 v8 w' => ∃ (x7_1 : C64) (x8_1 : Int), v7 = .complex .f32 x7_1.re x7_1.im ∧ v8 = .int .i64 x8_1 ∧ Aside0 (impl_ValueAt.l0 kq l0 a1 x7_1 x8_1 = some (r1, r2)) ∧ Aside0 (kq ≤ k) ∧ Aside0 (Below w.heap.size w w'))
       case atStart => exact ⟨(rdOf c64z l0 (ji5)), (wrap64 ((ji5) - 1)), (by first | rfl | (simp; done) | (simp only [← hji5] <;> (first | rfl | simp)) | (simp [*]; done)), (by first | rfl | (simp; done) | (simp only [← hji5] <;> (first | rfl | simp)) | (simp [*]; done)), H', ⟨Nat.le_refl _⟩, ⟨by repeat (first | (with_reducible first | exact HB.out | apply below_alloc | apply pw_below_drewN | apply below_drew1) | exact HB.out)⟩⟩
       case round =>
        clear H'
        (try clear c1); (try clear p1); (try clear q1); (try clear hx1); (try clear c2); (try clear p2); (try clear c4); (try clear c6); (try clear c6b0); (try clear p6); (try clear c7); (try clear c7b0); (try clear hx163_0); (try clear p163); (try clear q163)
        obtain ⟨x7_1, x8_1, rfl, rfl, HA, HK1, HB⟩ := hrel
        cases gk with
        | zero => exact absurd HA.out (by simp [impl_ValueAt.l0])
        | succ k1 =>
         have H := HA.out
         clear HA
         simp only [impl_ValueAt.l0] at H
         by_cases c8 : x8_1 ≥ 0
         · rw [if_pos c8] at H
           have c8b0 : decide (0 ≤ x8_1) = true := decide_eq_true c8
           clear c8
           replace H := Option.bind_eq_some_iff.mp H
           obtain ⟨t164, A90, H⟩ := H
           replace H : (if 0 ≤ x8_1 then (if x8_1 < (l0.length : Int) then ((impl_add.f t164 (rdOf c64z l0 x8_1)).bind fun t166 => (impl_ValueAt.l0 k1 l0 a1 t166 (wrap64 (x8_1 - 1)))) else (none)) else (none)) = some (r1, r2) := H
           have A9 := Aside0.mk A90
           clear A90
           by_cases c10 : 0 ≤ x8_1
           · rw [if_pos c10] at H
             have c10b0 : decide (0 ≤ x8_1) = true := decide_eq_true c10
             clear c10
             by_cases c11 : x8_1 < (l0.length : Int)
             · rw [if_pos c11] at H
               have c11b0 : decide (x8_1 < (l0.length : Int)) = true := decide_eq_true c11
               clear c11
               replace H := Option.bind_eq_some_iff.mp H
               obtain ⟨t166, A120, H⟩ := H
               replace H : (impl_ValueAt.l0 k1 l0 a1 t166 (wrap64 (x8_1 - 1))) = some (r1, r2) := H
               have A12 := Aside0.mk A120
               clear A120
               as_aux_lemma =>
                have H' := Aside0.mk H
                clear H
                try go_wp2
                have n0_ := Aside0.mk (below_drew1 HB.out)
                clear HB
                have HB := n0_
                clear n0_
                have p165 : 0 ≤ (x8_1 : Int) := of_decide_eq_true (by first | (with_reducible assumption) | assumption)
                have q165 : x8_1 < (l0.length : Int) := of_decide_eq_true (by first | (with_reducible assumption) | assumption)
                obtain ⟨ad165, e165, hx165_0⟩ := Kd.at_c64 HR0.out x8_1 p165 q165
                have hw165_0 := hx165_0
                obtain rfl : ad163 = ad165 := (by injection e165)
                replace hx165_0 := (HB.out.cell (World.block_lt_of_cell? w _ hx165_0)).trans hx165_0
                replace p165 := eq_true p165
                replace q165 := eq_true q165
                refine start_ (n := 9) (S := fun w' => w'.cell? (ad163.add (x8_1).toNat) = some (.complex .f32 ((rdOf c64z l0 x8_1).re) ((rdOf c64z l0 x8_1).im))) (ds := []) #[false, false, false, false, false, false, false, false, false] (by kernel_rfl) rfl rfl (((HB.out.cell (World.block_lt_of_cell? w _ hw165_0)).trans hw165_0)) (fun hHeld => ?_); refine with_tabW impl_ValueAt.tab8 impl_ValueAt.bits8 (fun HT_ HW_ => ?_)
                generalize wr.drew = w13 at HB hx165_0 hHeld ⊢
                refine pure_ (i := 0) (N := some 25) (v := ?_) (a' := ?_) #[true, false, false, false, false, false, false, false, false] rfl rfl (any_of HT_.out (by kernel_rfl)) (fun _ _ _ h => h) (Or.inl ⟨by rfl, ?_⟩) ?_ ?_; rotate_left 4
                refine pure_ (i := 1) (N := some 26) (v := ?_) (a' := ?_) #[true, true, false, false, false, false, false, false, false] rfl rfl (any_of HT_.out (by kernel_rfl)) (fun _ _ _ h => h) (Or.inl ⟨by rfl, ?_⟩) ?_ ?_; rotate_left 4
                refine pure_ (i := 3) (N := some 28) (v := ?_) (a' := ?_) #[true, true, false, true, false, false, false, false, false] rfl rfl (any_of HT_.out (by kernel_rfl)) (fun _ _ _ h => h) (Or.inl ⟨by rfl, ?_⟩) ?_ ?_; rotate_left 4
                refine pure_ (i := 4) (N := some 29) (v := ?_) (a' := ?_) #[true, true, false, true, true, false, false, false, false] rfl rfl (any_of HT_.out (by kernel_rfl)) (fun _ _ _ h => h) (Or.inl ⟨by rfl, ?_⟩) ?_ ?_; rotate_left 4
                refine pure_ (i := 5) (N := some 30) (v := ?_) (a' := ?_) #[true, true, false, true, true, true, false, false, false] rfl rfl (any_of HT_.out (by kernel_rfl)) (fun _ _ _ h => h) (Or.inl ⟨by rfl, ?_⟩) ?_ ?_; rotate_left 4
                rotate_left; iterate 5 (rotate_left; (intro w'; go_simp; with_reducible rfl); rotate_left; (simp only [Act.put, List.setIfInBounds_toArray, List.set_cons_zero, List.set_cons_succ, i64_w, i32_w]; rfl))
                refine take_ (i := 6) (N := some 31) (v := ?_) (a' := ?_) #[true, true, false, true, true, true, true, false, false] rfl rfl (take_ofW HT_.out HW_.out (by kernel_rfl)) (fun _ _ _ h => h) (Or.inl ⟨by rfl, ?_⟩) hHeld ?_ ?_
                rotate_left
                · intro w' s0
                  go_simp
                  with_reducible rfl
                rotate_left
                · simp only [Act.put, List.setIfInBounds_toArray, List.set_cons_zero, List.set_cons_succ, i64_w, i32_w]
                  rfl
                refine one_ (i := 2) (N := some 27) #[true, true, true, true, true, true, true, false, false] rfl rfl (one_of HT_.out (by kernel_rfl)) (by decide) (fun K hK => ?_)
                refine goes_ Try.func12 (by kernel_rfl) rfl #[.complex .f32 x7_1.re x7_1.im, .complex .f32 a1.re a1.im] (by rfl) rfl rfl (by (try simp only [List.map_toArray, List.map_cons, List.map_nil]); first | done | rfl | (simp only [List.length_drop, List.length_take]; rfl)) ?_
                with_reducible refine (impl_MulComplex.calls x7_1 a1 t164 _ A9.out).mono ?_
                rintro e w14 ⟨rfl, hb⟩
                refine ⟨_, rfl, ?_⟩
                have n0_ := Aside0.mk (below_step (by repeat (first | (with_reducible first | exact HB.out | apply below_alloc | apply pw_below_drewN | apply below_drew1) | exact HB.out)) hb)
                clear HB
                have HB := n0_
                clear n0_
                (try clear hb)
                (try clear hb2)
                (try clear hk)
                (try clear hi)
                refine hK.out _ _ (((HB.out.cell (World.block_lt_of_cell? w _ hw165_0)).trans hw165_0)) (fun hHeld => ?_)
                clear hK K
                refine norm_ (a' := ?_) ?_ ?_
                rotate_left
                · show Act.put _ (some 27) _ = _
                  simp only [Act.put, List.setIfInBounds_toArray, List.set_cons_zero, List.set_cons_succ, i64_w, i32_w]
                  rfl
                refine one_ (i := 7) (N := some 32) #[true, true, true, true, true, true, true, true, false] rfl rfl (one_of HT_.out (by kernel_rfl)) (by decide) (fun K hK => ?_)
                refine goes_ Try.func28 (by kernel_rfl) rfl #[.complex .f32 t164.re t164.im, .complex .f32 ((rdOf c64z l0 x8_1).re) ((rdOf c64z l0 x8_1).im)] (by rfl) rfl rfl (by (try simp only [List.map_toArray, List.map_cons, List.map_nil]); first | done | rfl | (simp only [List.length_drop, List.length_take]; rfl)) ?_
                with_reducible refine (impl_add.calls t164 (rdOf c64z l0 x8_1) t166 _ A12.out).mono ?_
                rintro e w15 ⟨rfl, hb⟩
                refine ⟨_, rfl, ?_⟩
                have n0_ := Aside0.mk (below_step (by repeat (first | (with_reducible first | exact HB.out | apply below_alloc | apply pw_below_drewN | apply below_drew1) | exact HB.out)) hb)
                clear HB
                have HB := n0_
                clear n0_
                (try clear hb)
                (try clear hb2)
                (try clear hk)
                (try clear hi)
                refine hK.out _ _ (((HB.out.cell (World.block_lt_of_cell? w _ hw165_0)).trans hw165_0)) (fun hHeld => ?_)
                clear hK K
                refine norm_ (a' := ?_) ?_ ?_
                rotate_left
                · show Act.put _ (some 32) _ = _
                  simp only [Act.put, List.setIfInBounds_toArray, List.set_cons_zero, List.set_cons_succ, i64_w, i32_w]
                  rfl
                refine pure_ (i := 8) (N := some 7) (v := ?_) (a' := ?_) #[true, true, true, true, true, true, true, true, true] rfl rfl (any_of HT_.out (by kernel_rfl)) (fun _ _ _ h => h) (Or.inl ⟨by rfl, ?_⟩) ?_ ?_; rotate_left 4
                rotate_left; iterate 1 (rotate_left; (intro w'; go_simp; with_reducible rfl); rotate_left; (simp only [Act.put, List.setIfInBounds_toArray, List.set_cons_zero, List.set_cons_succ, i64_w, i32_w]; rfl))
                refine done_ (done_of HT_.out (by kernel_rfl)) ?_
                try go_wp2
                go_roundg k1
                case measure => have := HK1.out; omega
                case rel => exact ⟨(t166), (wrap64 (x8_1 - 1)), (by first | rfl | (simp; done) | (simp [*]; done)), (by first | rfl | (simp; done) | (simp [*]; done)), H', ⟨by have := HK1.out; omega⟩, ⟨by repeat (first | (with_reducible first | exact HB.out | apply below_alloc | apply pw_below_drewN | apply below_drew1) | exact HB.out)⟩⟩
             · rw [if_neg c11] at H
               exact absurd H (by simp)
           · rw [if_neg c10] at H
             exact absurd H (by simp)
         · rw [if_neg c8] at H
           have c8b0 : decide (0 ≤ x8_1) = false := decide_eq_false c8
           clear c8
           as_aux_lemma =>
            simp only [Option.some.injEq, Prod.mk.injEq] at H
            obtain ⟨rfl, rfl⟩ := H
            go_wp2
            go_ret2
            exact ⟨by first | rfl | (simp [errW_none, errW_some] <;> rfl) | (simp only [← hji5]; first | rfl | (simp [errW_none, errW_some] <;> rfl)) | (simp [*, errW_none, errW_some] <;> rfl), by repeat (first | (with_reducible first | exact HB.out | apply below_alloc | apply pw_below_drewN | apply below_drew1) | exact HB.out)⟩
     · rw [if_neg c7] at H
       exact absurd H (by simp)
   · rw [if_neg c6] at H
     exact absurd H (by simp)
 · replace c4 := Bool.eq_false_iff.mpr c4
   subst c4
   have H1 : (none) = some (r1, r2) := by rw [if_neg (show ¬ (false = true) by decide)] at H; exact H
   clear H
   have H := H1
   clear H1
   exact absurd H (by simp)

/-! ### laws_FnPolynomials: function 3 -/
mutual
def laws_FnPolynomials.j0 : Nat → List Int → List C64 → List C64 → List C64 → Bool → Option (Bool)
 | 0, _, _, _, _, _ => none
 | k + 1, x1, x5, x7, x13, x98 => if x98 = true then (none) else (laws_FnPolynomials.l0 k x1 x5 x7 x13 0)
def laws_FnPolynomials.l0 : Nat → List Int → List C64 → List C64 → List C64 → Int → Option (Bool)
 | 0, _, _, _, _, _ => none
 | k + 1, x1, x5, x7, x13, x15 => if x15 < (x7.length : Int) then (if 0 ≤ x15 then (if x15 < (x13.length : Int) then (if ((FloatKind.f32.format.order ((rdOf c64z x7 x15).re) ((rdOf c64z x13 x15).re) == some .eq) && (FloatKind.f32.format.order ((rdOf c64z x7 x15).im) ((rdOf c64z x13 x15).im) == some .eq)) = true then (laws_FnPolynomials.l0 k x1 x5 x7 x13 (wrap64 (x15 + 1))) else (none)) else (none)) else (none)) else (laws_FnPolynomials.l1 k x1 x5 x7 0)
def laws_FnPolynomials.l1 : Nat → List Int → List C64 → List C64 → Int → Option (Bool)
 | 0, _, _, _, _ => none
 | k + 1, x1, x5, x7, x16 => if x16 < (x5.length : Int) then (if 0 ≤ x16 then ((impl_ValueAt.f k x7 (rdOf c64z x5 x16)).bind fun bt201 => (if bt201.2 = true then (if ((FloatKind.f32.format.order bt201.1.re 0 == some .eq) && (FloatKind.f32.format.order bt201.1.im 0 == some .eq)) = true then (laws_FnPolynomials.l1 k x1 x5 x7 (wrap64 (x16 + 1))) else (none)) else (none))) else (none)) else ((spec_R8Whole.f k x1 1).bind fun t203 => (if 0 < (t203.length : Int) then ((impl_ValueAt.f k x7 (rdOf c64z t203 0)).bind fun bt207 => (laws_FnPolynomials.l2 k x5 (rdOf c64z t203 0) bt207.1 bt207.2 (⟨1065353216, 0⟩ : C64) 0)) else (none)))
def laws_FnPolynomials.l2 : Nat → List C64 → C64 → C64 → Bool → C64 → Int → Option (Bool)
 | 0, _, _, _, _, _, _ => none
 | k + 1, x5, x19, x20, x21, x22, x23 => if x23 < (x5.length : Int) then (if 0 ≤ x23 then (if FOk .sub .f32 x19.re ((rdOf c64z x5 x23).re) = true then (if FOk .sub .f32 x19.im ((rdOf c64z x5 x23).im) = true then ((impl_MulComplex.f x22 (⟨fq .sub .f32 x19.re ((rdOf c64z x5 x23).re), fq .sub .f32 x19.im ((rdOf c64z x5 x23).im)⟩ : C64)).bind fun t210 => (laws_FnPolynomials.l2 k x5 x19 x20 x21 t210 (wrap64 (x23 + 1)))) else (none)) else (none)) else (none)) else (if x21 = true then (some ((FloatKind.f32.format.order x20.re x22.re == some .eq) && (FloatKind.f32.format.order x20.im x22.im == some .eq))) else (none))
end
def laws_FnPolynomials.f (k : Nat) (l0 : List Int) (l1 : List Int) : Option (Bool) := (laws_r8Long.f l0 l1).bind fun t167 => (if t167 = true then (some true) else ((laws_r8At.f l1 40 6).bind fun t168 => ((spec_R8Whole.f k l0 t168).bind fun t169 => ((laws_r8At.f l1 41 (wrap64 ((t169.length : Int) + 1))).bind fun t172 => ((impl_PolynomialOf.f k t169).bind fun bt173 => (if 0 ≤ t172 then (if t172 ≤ (t169.length : Int) then ((impl_PolynomialOf.f k (t169.take (t172 : Int).toNat)).bind fun bt181 => ((impl_PolynomialOf.f k (t169.drop (t172 : Int).toNat)).bind fun bt189 => ((impl_MulPolynomials.f k bt181.1 bt189.1).bind fun bt193 => (if bt173.2 = true then (if bt181.2 = true then (if bt189.2 = true then (if bt193.2 = true then (if (bt173.1.length : Int) = (wrap64 ((t169.length : Int) + 1)) then (if (bt193.1.length : Int) = (bt173.1.length : Int) then (if 0 ≤ (wrap64 ((bt173.1.length : Int) - 1)) then (if (wrap64 ((bt173.1.length : Int) - 1)) < (bt173.1.length : Int) then (laws_FnPolynomials.j0 k l1 t169 bt173.1 bt193.1 (!((FloatKind.f32.format.order ((rdOf c64z bt173.1 (wrap64 ((bt173.1.length : Int) - 1))).re) 1065353216 == some .eq) && (FloatKind.f32.format.order ((rdOf c64z bt173.1 (wrap64 ((bt173.1.length : Int) - 1))).im) 0 == some .eq)))) else (none)) else (none)) else (none)) else (none)) else (none)) else (none)) else (none)) else (none))))) else (none)) else (none)))))))
theorem laws_FnPolynomials.mono_l : ∀ k, (∀ y0 y1 y2 y3 y4, LeO (laws_FnPolynomials.j0 k y0 y1 y2 y3 y4) (laws_FnPolynomials.j0 (k + 1) y0 y1 y2 y3 y4)) ∧ (∀ y0 y1 y2 y3 y4, LeO (laws_FnPolynomials.l0 k y0 y1 y2 y3 y4) (laws_FnPolynomials.l0 (k + 1) y0 y1 y2 y3 y4)) ∧ (∀ y0 y1 y2 y3, LeO (laws_FnPolynomials.l1 k y0 y1 y2 y3) (laws_FnPolynomials.l1 (k + 1) y0 y1 y2 y3)) ∧ (∀ y0 y1 y2 y3 y4 y5, LeO (laws_FnPolynomials.l2 k y0 y1 y2 y3 y4 y5) (laws_FnPolynomials.l2 (k + 1) y0 y1 y2 y3 y4 y5))
 | 0 => ⟨fun _ _ _ _ _ r h => by simp [laws_FnPolynomials.j0] at h, fun _ _ _ _ _ r h => by simp [laws_FnPolynomials.l0] at h, fun _ _ _ _ r h => by simp [laws_FnPolynomials.l1] at h, fun _ _ _ _ _ _ r h => by simp [laws_FnPolynomials.l2] at h⟩
 | k + 1 => by
  obtain ⟨ih0, ih1, ih2, ih3⟩ := laws_FnPolynomials.mono_l k
  refine ⟨?_, ?_, ?_, ?_⟩
  · intro y0 y1 y2 y3 y4
    unfold laws_FnPolynomials.j0
    repeat' first
    | (with_reducible exact ih0 _ _ _ _ _)
    | (with_reducible exact ih1 _ _ _ _ _)
    | (with_reducible exact ih2 _ _ _ _)
    | (with_reducible exact ih3 _ _ _ _ _ _)
    | (with_reducible exact impl_MulPolynomials.mono _ _ _)
    | (with_reducible exact impl_PolynomialOf.mono _ _)
    | (with_reducible exact impl_ValueAt.mono _ _ _)
    | (with_reducible exact spec_R8Whole.mono _ _ _)
    | (with_reducible exact LeO.refl _)
    | (with_reducible exact LeO.none _)
    | (with_reducible refine LeO.ite ?_ ?_)
    | (with_reducible refine LeO.bind ?_ (fun _ => ?_))
    | exact ih0 _ _ _ _ _
    | exact ih1 _ _ _ _ _
    | exact ih2 _ _ _ _
    | exact ih3 _ _ _ _ _ _
    | exact impl_MulPolynomials.mono _ _ _
    | exact impl_PolynomialOf.mono _ _
    | exact impl_ValueAt.mono _ _ _
    | exact spec_R8Whole.mono _ _ _
    | exact LeO.none _
    | refine LeO.ite ?_ ?_
    | refine LeO.bind ?_ (fun _ => ?_)
  · intro y0 y1 y2 y3 y4
    unfold laws_FnPolynomials.l0
    repeat' first
    | (with_reducible exact ih0 _ _ _ _ _)
    | (with_reducible exact ih1 _ _ _ _ _)
    | (with_reducible exact ih2 _ _ _ _)
    | (with_reducible exact ih3 _ _ _ _ _ _)
    | (with_reducible exact impl_MulPolynomials.mono _ _ _)
    | (with_reducible exact impl_PolynomialOf.mono _ _)
    | (with_reducible exact impl_ValueAt.mono _ _ _)
    | (with_reducible exact spec_R8Whole.mono _ _ _)
    | (with_reducible exact LeO.refl _)
    | (with_reducible exact LeO.none _)
    | (with_reducible refine LeO.ite ?_ ?_)
    | (with_reducible refine LeO.bind ?_ (fun _ => ?_))
    | exact ih0 _ _ _ _ _
    | exact ih1 _ _ _ _ _
    | exact ih2 _ _ _ _
    | exact ih3 _ _ _ _ _ _
    | exact impl_MulPolynomials.mono _ _ _
    | exact impl_PolynomialOf.mono _ _
    | exact impl_ValueAt.mono _ _ _
    | exact spec_R8Whole.mono _ _ _
    | exact LeO.none _
    | refine LeO.ite ?_ ?_
    | refine LeO.bind ?_ (fun _ => ?_)
  · intro y0 y1 y2 y3
    unfold laws_FnPolynomials.l1
    repeat' first
    | (with_reducible exact ih0 _ _ _ _ _)
    | (with_reducible exact ih1 _ _ _ _ _)
    | (with_reducible exact ih2 _ _ _ _)
    | (with_reducible exact ih3 _ _ _ _ _ _)
    | (with_reducible exact impl_MulPolynomials.mono _ _ _)
    | (with_reducible exact impl_PolynomialOf.mono _ _)
    | (with_reducible exact impl_ValueAt.mono _ _ _)
    | (with_reducible exact spec_R8Whole.mono _ _ _)
    | (with_reducible exact LeO.refl _)
    | (with_reducible exact LeO.none _)
    | (with_reducible refine LeO.ite ?_ ?_)
    | (with_reducible refine LeO.bind ?_ (fun _ => ?_))
    | exact ih0 _ _ _ _ _
    | exact ih1 _ _ _ _ _
    | exact ih2 _ _ _ _
    | exact ih3 _ _ _ _ _ _
    | exact impl_MulPolynomials.mono _ _ _
    | exact impl_PolynomialOf.mono _ _
    | exact impl_ValueAt.mono _ _ _
    | exact spec_R8Whole.mono _ _ _
    | exact LeO.none _
    | refine LeO.ite ?_ ?_
    | refine LeO.bind ?_ (fun _ => ?_)
  · intro y0 y1 y2 y3 y4 y5
    unfold laws_FnPolynomials.l2
    repeat' first
    | (with_reducible exact ih0 _ _ _ _ _)
    | (with_reducible exact ih1 _ _ _ _ _)
    | (with_reducible exact ih2 _ _ _ _)
    | (with_reducible exact ih3 _ _ _ _ _ _)
    | (with_reducible exact impl_MulPolynomials.mono _ _ _)
    | (with_reducible exact impl_PolynomialOf.mono _ _)
    | (with_reducible exact impl_ValueAt.mono _ _ _)
    | (with_reducible exact spec_R8Whole.mono _ _ _)
    | (with_reducible exact LeO.refl _)
    | (with_reducible exact LeO.none _)
    | (with_reducible refine LeO.ite ?_ ?_)
    | (with_reducible refine LeO.bind ?_ (fun _ => ?_))
    | exact ih0 _ _ _ _ _
    | exact ih1 _ _ _ _ _
    | exact ih2 _ _ _ _
    | exact ih3 _ _ _ _ _ _
    | exact impl_MulPolynomials.mono _ _ _
    | exact impl_PolynomialOf.mono _ _
    | exact impl_ValueAt.mono _ _ _
    | exact spec_R8Whole.mono _ _ _
    | exact LeO.none _
    | refine LeO.ite ?_ ?_
    | refine LeO.bind ?_ (fun _ => ?_)
theorem laws_FnPolynomials.mono : ∀ a0 a1 k, LeO (laws_FnPolynomials.f k a0 a1) (laws_FnPolynomials.f (k + 1) a0 a1) := by
 intro a0 a1 k
 obtain ⟨ih0, ih1, ih2, ih3⟩ := laws_FnPolynomials.mono_l k
 unfold laws_FnPolynomials.f
 repeat' first
  | (with_reducible exact ih0 _ _ _ _ _)
  | (with_reducible exact ih1 _ _ _ _ _)
  | (with_reducible exact ih2 _ _ _ _)
  | (with_reducible exact ih3 _ _ _ _ _ _)
  | (with_reducible exact impl_MulPolynomials.mono _ _ _)
  | (with_reducible exact impl_PolynomialOf.mono _ _)
  | (with_reducible exact impl_ValueAt.mono _ _ _)
  | (with_reducible exact spec_R8Whole.mono _ _ _)
  | (with_reducible exact LeO.refl _)
  | (with_reducible exact LeO.none _)
  | (with_reducible refine LeO.ite ?_ ?_)
  | (with_reducible refine LeO.bind ?_ (fun _ => ?_))
  | exact ih0 _ _ _ _ _
  | exact ih1 _ _ _ _ _
  | exact ih2 _ _ _ _
  | exact ih3 _ _ _ _ _ _
  | exact impl_MulPolynomials.mono _ _ _
  | exact impl_PolynomialOf.mono _ _
  | exact impl_ValueAt.mono _ _ _
  | exact spec_R8Whole.mono _ _ _
  | exact LeO.none _
  | refine LeO.ite ?_ ?_
  | refine LeO.bind ?_ (fun _ => ?_)
set_option maxHeartbeats 8000000 in
set_option maxRecDepth 100000 in
theorem laws_FnPolynomials.calls (k : Nat) (A0 : Option Addr) (c0 : Nat) (l0 : List Int) (A1 : Option Addr) (c1 : Nat) (l1 : List Int) (r : Bool) (w : World) (hr0 : Kd.C (Kd.int .u8) w A0 l0.length l0) (hc0 : l0.length ≤ c0) (hr1 : Kd.C (Kd.int .u8) w A1 l1.length l1) (hc1 : l1.length ≤ c1) (h : laws_FnPolynomials.f k l0 l1 = some r) :
 Calls Try.prog 3 #[.slice A0 l0.length c0, .slice A1 l1.length c1] w fun e w' => e = .returned (.bool r) ∧ Below w.heap.size w w' := by
 have HR0 := Aside0.mk hr0
 have HC0 := Aside0.mk hc0
 clear hr0 hc0
 have HR1 := Aside0.mk hr1
 have HC1 := Aside0.mk hc1
 clear hr1 hc1
 have HB := Aside0.mk (Below.refl w.heap.size w)
 have H : ((laws_r8Long.f l0 l1).bind fun t167 => (if t167 = true then (some true) else ((laws_r8At.f l1 40 6).bind fun t168 => ((spec_R8Whole.f k l0 t168).bind fun t169 => ((laws_r8At.f l1 41 (wrap64 ((t169.length : Int) + 1))).bind fun t172 => ((impl_PolynomialOf.f k t169).bind fun bt173 => (if 0 ≤ t172 then (if t172 ≤ (t169.length : Int) then ((impl_PolynomialOf.f k (t169.take (t172 : Int).toNat)).bind fun bt181 => ((impl_PolynomialOf.f k (t169.drop (t172 : Int).toNat)).bind fun bt189 => ((impl_MulPolynomials.f k bt181.1 bt189.1).bind fun bt193 => (if bt173.2 = true then (if bt181.2 = true then (if bt189.2 = true then (if bt193.2 = true then (if (bt173.1.length : Int) = (wrap64 ((t169.length : Int) + 1)) then (if (bt193.1.length : Int) = (bt173.1.length : Int) then (if 0 ≤ (wrap64 ((bt173.1.length : Int) - 1)) then (if (wrap64 ((bt173.1.length : Int) - 1)) < (bt173.1.length : Int) then (laws_FnPolynomials.j0 k l1 t169 bt173.1 bt193.1 (!((FloatKind.f32.format.order ((rdOf c64z bt173.1 (wrap64 ((bt173.1.length : Int) - 1))).re) 1065353216 == some .eq) && (FloatKind.f32.format.order ((rdOf c64z bt173.1 (wrap64 ((bt173.1.length : Int) - 1))).im) 0 == some .eq)))) else (none)) else (none)) else (none)) else (none)) else (none)) else (none)) else (none)) else (none))))) else (none)) else (none)))))))) = some r := h
 clear h
 replace H := Option.bind_eq_some_iff.mp H
 obtain ⟨t167, A30, H⟩ := H
 replace H : (if t167 = true then (some true) else ((laws_r8At.f l1 40 6).bind fun t168 => ((spec_R8Whole.f k l0 t168).bind fun t169 => ((laws_r8At.f l1 41 (wrap64 ((t169.length : Int) + 1))).bind fun t172 => ((impl_PolynomialOf.f k t169).bind fun bt173 => (if 0 ≤ t172 then (if t172 ≤ (t169.length : Int) then ((impl_PolynomialOf.f k (t169.take (t172 : Int).toNat)).bind fun bt181 => ((impl_PolynomialOf.f k (t169.drop (t172 : Int).toNat)).bind fun bt189 => ((impl_MulPolynomials.f k bt181.1 bt189.1).bind fun bt193 => (if bt173.2 = true then (if bt181.2 = true then (if bt189.2 = true then (if bt193.2 = true then (if (bt173.1.length : Int) = (wrap64 ((t169.length : Int) + 1)) then (if (bt193.1.length : Int) = (bt173.1.length : Int) then (if 0 ≤ (wrap64 ((bt173.1.length : Int) - 1)) then (if (wrap64 ((bt173.1.length : Int) - 1)) < (bt173.1.length : Int) then (laws_FnPolynomials.j0 k l1 t169 bt173.1 bt193.1 (!((FloatKind.f32.format.order ((rdOf c64z bt173.1 (wrap64 ((bt173.1.length : Int) - 1))).re) 1065353216 == some .eq) && (FloatKind.f32.format.order ((rdOf c64z bt173.1 (wrap64 ((bt173.1.length : Int) - 1))).im) 0 == some .eq)))) else (none)) else (none)) else (none)) else (none)) else (none)) else (none)) else (none)) else (none))))) else (none)) else (none))))))) = some r := H
 have A3 := Aside0.mk A30
 clear A30
 by_cases c4 : t167 = true
 · subst c4
   have H1 : (some true) = some r := by rw [if_pos rfl] at H; exact H
   clear H
   have H := H1
   clear H1
   as_aux_lemma =>
    obtain rfl := Option.some.inj H
    go_enter Try.func3, Try.ntmps3
    go_wp2_with (first | (go_at_call 6; (with_reducible refine (laws_r8Long.calls _ _ l0 _ _ l1 true _ ?side1 ?side2 ?side3 ?side4 A3.out).mono ?_); (case side1 => repeat (first | exact HR0.out | (with_reducible refine Kd.C_alloc ?_ _) | (with_reducible refine Kd.C_drewN ?_ _) | (with_reducible refine Kd.C_drew ?_))); (case side2 => exact HC0.out); (case side3 => repeat (first | exact HR1.out | (with_reducible refine Kd.C_alloc ?_ _) | (with_reducible refine Kd.C_drewN ?_ _) | (with_reducible refine Kd.C_drew ?_))); (case side4 => exact HC1.out); rintro e w' ⟨rfl, ⟨nd, rfl⟩⟩; (try first | exact ⟨rfl, _, World.drewN_drewN _ _ _⟩ | exact ⟨rfl, _, Eq.trans (World.drewN_drewN _ _ _) (congrArg (World.drewN _) (Nat.add_assoc _ _ _))⟩)))
    repeat (go_quiet (first | (go_at_call 6; (with_reducible refine (laws_r8Long.calls _ _ l0 _ _ l1 true _ ?side1 ?side2 ?side3 ?side4 A3.out).mono ?_); (case side1 => repeat (first | exact HR0.out | (with_reducible refine Kd.C_alloc ?_ _) | (with_reducible refine Kd.C_drewN ?_ _) | (with_reducible refine Kd.C_drew ?_))); (case side2 => exact HC0.out); (case side3 => repeat (first | exact HR1.out | (with_reducible refine Kd.C_alloc ?_ _) | (with_reducible refine Kd.C_drewN ?_ _) | (with_reducible refine Kd.C_drew ?_))); (case side4 => exact HC1.out); rintro e w' ⟨rfl, ⟨nd, rfl⟩⟩; (try first | exact ⟨rfl, _, World.drewN_drewN _ _ _⟩ | exact ⟨rfl, _, Eq.trans (World.drewN_drewN _ _ _) (congrArg (World.drewN _) (Nat.add_assoc _ _ _))⟩))); try go_wp2_with (first | (go_at_call 6; (with_reducible refine (laws_r8Long.calls _ _ l0 _ _ l1 true _ ?side1 ?side2 ?side3 ?side4 A3.out).mono ?_); (case side1 => repeat (first | exact HR0.out | (with_reducible refine Kd.C_alloc ?_ _) | (with_reducible refine Kd.C_drewN ?_ _) | (with_reducible refine Kd.C_drew ?_))); (case side2 => exact HC0.out); (case side3 => repeat (first | exact HR1.out | (with_reducible refine Kd.C_alloc ?_ _) | (with_reducible refine Kd.C_drewN ?_ _) | (with_reducible refine Kd.C_drew ?_))); (case side4 => exact HC1.out); rintro e w' ⟨rfl, ⟨nd, rfl⟩⟩; (try first | exact ⟨rfl, _, World.drewN_drewN _ _ _⟩ | exact ⟨rfl, _, Eq.trans (World.drewN_drewN _ _ _) (congrArg (World.drewN _) (Nat.add_assoc _ _ _))⟩))))
    go_ret
    exact ⟨by first | rfl | (simp [errW_none, errW_some] <;> rfl) | (simp [*, errW_none, errW_some] <;> rfl), by repeat (first | (with_reducible first | exact HB.out | apply below_alloc | apply pw_below_drewN | apply below_drew1) | exact HB.out)⟩
 · replace c4 := Bool.eq_false_iff.mpr c4
   subst c4
   have H1 : ((laws_r8At.f l1 40 6).bind fun t168 => ((spec_R8Whole.f k l0 t168).bind fun t169 => ((laws_r8At.f l1 41 (wrap64 ((t169.length : Int) + 1))).bind fun t172 => ((impl_PolynomialOf.f k t169).bind fun bt173 => (if 0 ≤ t172 then (if t172 ≤ (t169.length : Int) then ((impl_PolynomialOf.f k (t169.take (t172 : Int).toNat)).bind fun bt181 => ((impl_PolynomialOf.f k (t169.drop (t172 : Int).toNat)).bind fun bt189 => ((impl_MulPolynomials.f k bt181.1 bt189.1).bind fun bt193 => (if bt173.2 = true then (if bt181.2 = true then (if bt189.2 = true then (if bt193.2 = true then (if (bt173.1.length : Int) = (wrap64 ((t169.length : Int) + 1)) then (if (bt193.1.length : Int) = (bt173.1.length : Int) then (if 0 ≤ (wrap64 ((bt173.1.length : Int) - 1)) then (if (wrap64 ((bt173.1.length : Int) - 1)) < (bt173.1.length : Int) then (laws_FnPolynomials.j0 k l1 t169 bt173.1 bt193.1 (!((FloatKind.f32.format.order ((rdOf c64z bt173.1 (wrap64 ((bt173.1.length : Int) - 1))).re) 1065353216 == some .eq) && (FloatKind.f32.format.order ((rdOf c64z bt173.1 (wrap64 ((bt173.1.length : Int) - 1))).im) 0 == some .eq)))) else (none)) else (none)) else (none)) else (none)) else (none)) else (none)) else (none)) else (none))))) else (none)) else (none)))))) = some r := by rw [if_neg (show ¬ (false = true) by decide)] at H; exact H
   clear H
   have H := H1
   clear H1
   replace H := Option.bind_eq_some_iff.mp H
   obtain ⟨t168, A50, H⟩ := H
   replace H : ((spec_R8Whole.f k l0 t168).bind fun t169 => ((laws_r8At.f l1 41 (wrap64 ((t169.length : Int) + 1))).bind fun t172 => ((impl_PolynomialOf.f k t169).bind fun bt173 => (if 0 ≤ t172 then (if t172 ≤ (t169.length : Int) then ((impl_PolynomialOf.f k (t169.take (t172 : Int).toNat)).bind fun bt181 => ((impl_PolynomialOf.f k (t169.drop (t172 : Int).toNat)).bind fun bt189 => ((impl_MulPolynomials.f k bt181.1 bt189.1).bind fun bt193 => (if bt173.2 = true then (if bt181.2 = true then (if bt189.2 = true then (if bt193.2 = true then (if (bt173.1.length : Int) = (wrap64 ((t169.length : Int) + 1)) then (if (bt193.1.length : Int) = (bt173.1.length : Int) then (if 0 ≤ (wrap64 ((bt173.1.length : Int) - 1)) then (if (wrap64 ((bt173.1.length : Int) - 1)) < (bt173.1.length : Int) then (laws_FnPolynomials.j0 k l1 t169 bt173.1 bt193.1 (!((FloatKind.f32.format.order ((rdOf c64z bt173.1 (wrap64 ((bt173.1.length : Int) - 1))).re) 1065353216 == some .eq) && (FloatKind.f32.format.order ((rdOf c64z bt173.1 (wrap64 ((bt173.1.length : Int) - 1))).im) 0 == some .eq)))) else (none)) else (none)) else (none)) else (none)) else (none)) else (none)) else (none)) else (none))))) else (none)) else (none))))) = some r := H
   have A5 := Aside0.mk A50
   clear A50
   replace H := Option.bind_eq_some_iff.mp H
   obtain ⟨t169, A60, H⟩ := H
   replace H : ((laws_r8At.f l1 41 (wrap64 ((t169.length : Int) + 1))).bind fun t172 => ((impl_PolynomialOf.f k t169).bind fun bt173 => (if 0 ≤ t172 then (if t172 ≤ (t169.length : Int) then ((impl_PolynomialOf.f k (t169.take (t172 : Int).toNat)).bind fun bt181 => ((impl_PolynomialOf.f k (t169.drop (t172 : Int).toNat)).bind fun bt189 => ((impl_MulPolynomials.f k bt181.1 bt189.1).bind fun bt193 => (if bt173.2 = true then (if bt181.2 = true then (if bt189.2 = true then (if bt193.2 = true then (if (bt173.1.length : Int) = (wrap64 ((t169.length : Int) + 1)) then (if (bt193.1.length : Int) = (bt173.1.length : Int) then (if 0 ≤ (wrap64 ((bt173.1.length : Int) - 1)) then (if (wrap64 ((bt173.1.length : Int) - 1)) < (bt173.1.length : Int) then (laws_FnPolynomials.j0 k l1 t169 bt173.1 bt193.1 (!((FloatKind.f32.format.order ((rdOf c64z bt173.1 (wrap64 ((bt173.1.length : Int) - 1))).re) 1065353216 == some .eq) && (FloatKind.f32.format.order ((rdOf c64z bt173.1 (wrap64 ((bt173.1.length : Int) - 1))).im) 0 == some .eq)))) else (none)) else (none)) else (none)) else (none)) else (none)) else (none)) else (none)) else (none))))) else (none)) else (none)))) = some r := H
   have A6 := Aside0.mk A60
   clear A60
   replace H := Option.bind_eq_some_iff.mp H
   obtain ⟨t172, A70, H⟩ := H
   replace H : ((impl_PolynomialOf.f k t169).bind fun bt173 => (if 0 ≤ t172 then (if t172 ≤ (t169.length : Int) then ((impl_PolynomialOf.f k (t169.take (t172 : Int).toNat)).bind fun bt181 => ((impl_PolynomialOf.f k (t169.drop (t172 : Int).toNat)).bind fun bt189 => ((impl_MulPolynomials.f k bt181.1 bt189.1).bind fun bt193 => (if bt173.2 = true then (if bt181.2 = true then (if bt189.2 = true then (if bt193.2 = true then (if (bt173.1.length : Int) = (wrap64 ((t169.length : Int) + 1)) then (if (bt193.1.length : Int) = (bt173.1.length : Int) then (if 0 ≤ (wrap64 ((bt173.1.length : Int) - 1)) then (if (wrap64 ((bt173.1.length : Int) - 1)) < (bt173.1.length : Int) then (laws_FnPolynomials.j0 k l1 t169 bt173.1 bt193.1 (!((FloatKind.f32.format.order ((rdOf c64z bt173.1 (wrap64 ((bt173.1.length : Int) - 1))).re) 1065353216 == some .eq) && (FloatKind.f32.format.order ((rdOf c64z bt173.1 (wrap64 ((bt173.1.length : Int) - 1))).im) 0 == some .eq)))) else (none)) else (none)) else (none)) else (none)) else (none)) else (none)) else (none)) else (none))))) else (none)) else (none))) = some r := H
   have A7 := Aside0.mk A70
   clear A70
   replace H := Option.bind_eq_some_iff.mp H
   obtain ⟨⟨t173, t174⟩, A80, H⟩ := H
   replace H : (if 0 ≤ t172 then (if t172 ≤ (t169.length : Int) then ((impl_PolynomialOf.f k (t169.take (t172 : Int).toNat)).bind fun bt181 => ((impl_PolynomialOf.f k (t169.drop (t172 : Int).toNat)).bind fun bt189 => ((impl_MulPolynomials.f k bt181.1 bt189.1).bind fun bt193 => (if t174 = true then (if bt181.2 = true then (if bt189.2 = true then (if bt193.2 = true then (if (t173.length : Int) = (wrap64 ((t169.length : Int) + 1)) then (if (bt193.1.length : Int) = (t173.length : Int) then (if 0 ≤ (wrap64 ((t173.length : Int) - 1)) then (if (wrap64 ((t173.length : Int) - 1)) < (t173.length : Int) then (laws_FnPolynomials.j0 k l1 t169 t173 bt193.1 (!((FloatKind.f32.format.order ((rdOf c64z t173 (wrap64 ((t173.length : Int) - 1))).re) 1065353216 == some .eq) && (FloatKind.f32.format.order ((rdOf c64z t173 (wrap64 ((t173.length : Int) - 1))).im) 0 == some .eq)))) else (none)) else (none)) else (none)) else (none)) else (none)) else (none)) else (none)) else (none))))) else (none)) else (none)) = some r := H
   have A8 := Aside0.mk A80
   clear A80
   by_cases c9 : 0 ≤ t172
   · rw [if_pos c9] at H
     have c9b0 := eq_true c9
     have c9b1 : decide (0 ≤ t172) = true := decide_eq_true c9
     clear c9
     by_cases c10 : t172 ≤ (t169.length : Int)
     · rw [if_pos c10] at H
       have c10b0 := eq_true c10
       have c10b1 : decide (t172 ≤ (t169.length : Int)) = true := decide_eq_true c10
       clear c10
       obtain ⟨y177, hy177⟩ : ∃ y_ : List C64, y_ = (t169.take (t172 : Int).toNat) := ⟨_, rfl⟩
       replace H : ((impl_PolynomialOf.f k y177).bind fun bt181 => ((impl_PolynomialOf.f k (t169.drop (t172 : Int).toNat)).bind fun bt189 => ((impl_MulPolynomials.f k bt181.1 bt189.1).bind fun bt193 => (if t174 = true then (if bt181.2 = true then (if bt189.2 = true then (if bt193.2 = true then (if (t173.length : Int) = (wrap64 ((t169.length : Int) + 1)) then (if (bt193.1.length : Int) = (t173.length : Int) then (if 0 ≤ (wrap64 ((t173.length : Int) - 1)) then (if (wrap64 ((t173.length : Int) - 1)) < (t173.length : Int) then (laws_FnPolynomials.j0 k l1 t169 t173 bt193.1 (!((FloatKind.f32.format.order ((rdOf c64z t173 (wrap64 ((t173.length : Int) - 1))).re) 1065353216 == some .eq) && (FloatKind.f32.format.order ((rdOf c64z t173 (wrap64 ((t173.length : Int) - 1))).im) 0 == some .eq)))) else (none)) else (none)) else (none)) else (none)) else (none)) else (none)) else (none)) else (none))))) = some r := by first | (rw [hy177]; with_reducible exact H) | (have H2_ := (Option.bind_some _ _).symm.trans H; rw [hy177]; with_reducible exact H2_) | (have H2_ := (Option.bind_some _ _).symm.trans H; with_reducible exact H2_) | with_reducible exact H | (rw [hy177]; exact H) | exact H
       have Ny177 := Aside0.mk hy177
       clear hy177
       replace H := Option.bind_eq_some_iff.mp H
       obtain ⟨⟨t181, t182⟩, A110, H⟩ := H
       replace H : ((impl_PolynomialOf.f k (t169.drop (t172 : Int).toNat)).bind fun bt189 => ((impl_MulPolynomials.f k t181 bt189.1).bind fun bt193 => (if t174 = true then (if t182 = true then (if bt189.2 = true then (if bt193.2 = true then (if (t173.length : Int) = (wrap64 ((t169.length : Int) + 1)) then (if (bt193.1.length : Int) = (t173.length : Int) then (if 0 ≤ (wrap64 ((t173.length : Int) - 1)) then (if (wrap64 ((t173.length : Int) - 1)) < (t173.length : Int) then (laws_FnPolynomials.j0 k l1 t169 t173 bt193.1 (!((FloatKind.f32.format.order ((rdOf c64z t173 (wrap64 ((t173.length : Int) - 1))).re) 1065353216 == some .eq) && (FloatKind.f32.format.order ((rdOf c64z t173 (wrap64 ((t173.length : Int) - 1))).im) 0 == some .eq)))) else (none)) else (none)) else (none)) else (none)) else (none)) else (none)) else (none)) else (none)))) = some r := H
       have A11 := Aside0.mk A110
       clear A110
       have c12b0 := eq_true (of_decide_eq_true (by first | (with_reducible assumption) | assumption) : 0 ≤ t172)
       have c13b0 := eq_true (of_decide_eq_true (by first | (with_reducible assumption) | assumption) : t172 ≤ (t169.length : Int))
       obtain ⟨y185, hy185⟩ : ∃ y_ : List C64, y_ = (t169.drop (t172 : Int).toNat) := ⟨_, rfl⟩
       replace H : ((impl_PolynomialOf.f k y185).bind fun bt189 => ((impl_MulPolynomials.f k t181 bt189.1).bind fun bt193 => (if t174 = true then (if t182 = true then (if bt189.2 = true then (if bt193.2 = true then (if (t173.length : Int) = (wrap64 ((t169.length : Int) + 1)) then (if (bt193.1.length : Int) = (t173.length : Int) then (if 0 ≤ (wrap64 ((t173.length : Int) - 1)) then (if (wrap64 ((t173.length : Int) - 1)) < (t173.length : Int) then (laws_FnPolynomials.j0 k l1 t169 t173 bt193.1 (!((FloatKind.f32.format.order ((rdOf c64z t173 (wrap64 ((t173.length : Int) - 1))).re) 1065353216 == some .eq) && (FloatKind.f32.format.order ((rdOf c64z t173 (wrap64 ((t173.length : Int) - 1))).im) 0 == some .eq)))) else (none)) else (none)) else (none)) else (none)) else (none)) else (none)) else (none)) else (none)))) = some r := by first | (rw [hy185]; with_reducible exact H) | (have H2_ := (Option.bind_some _ _).symm.trans H; rw [hy185]; with_reducible exact H2_) | (have H2_ := (Option.bind_some _ _).symm.trans H; with_reducible exact H2_) | with_reducible exact H | (rw [hy185]; exact H) | exact H
       have Ny185 := Aside0.mk hy185
       clear hy185
       replace H := Option.bind_eq_some_iff.mp H
       obtain ⟨⟨t189, t190⟩, A140, H⟩ := H
       replace H : ((impl_MulPolynomials.f k t181 t189).bind fun bt193 => (if t174 = true then (if t182 = true then (if t190 = true then (if bt193.2 = true then (if (t173.length : Int) = (wrap64 ((t169.length : Int) + 1)) then (if (bt193.1.length : Int) = (t173.length : Int) then (if 0 ≤ (wrap64 ((t173.length : Int) - 1)) then (if (wrap64 ((t173.length : Int) - 1)) < (t173.length : Int) then (laws_FnPolynomials.j0 k l1 t169 t173 bt193.1 (!((FloatKind.f32.format.order ((rdOf c64z t173 (wrap64 ((t173.length : Int) - 1))).re) 1065353216 == some .eq) && (FloatKind.f32.format.order ((rdOf c64z t173 (wrap64 ((t173.length : Int) - 1))).im) 0 == some .eq)))) else (none)) else (none)) else (none)) else (none)) else (none)) else (none)) else (none)) else (none))) = some r := H
       have A14 := Aside0.mk A140
       clear A140
       replace H := Option.bind_eq_some_iff.mp H
       obtain ⟨⟨t193, t194⟩, A150, H⟩ := H
       replace H : (if t174 = true then (if t182 = true then (if t190 = true then (if t194 = true then (if (t173.length : Int) = (wrap64 ((t169.length : Int) + 1)) then (if (t193.length : Int) = (t173.length : Int) then (if 0 ≤ (wrap64 ((t173.length : Int) - 1)) then (if (wrap64 ((t173.length : Int) - 1)) < (t173.length : Int) then (laws_FnPolynomials.j0 k l1 t169 t173 t193 (!((FloatKind.f32.format.order ((rdOf c64z t173 (wrap64 ((t173.length : Int) - 1))).re) 1065353216 == some .eq) && (FloatKind.f32.format.order ((rdOf c64z t173 (wrap64 ((t173.length : Int) - 1))).im) 0 == some .eq)))) else (none)) else (none)) else (none)) else (none)) else (none)) else (none)) else (none)) else (none)) = some r := H
       have A15 := Aside0.mk A150
       clear A150
       have HC16 := Aside0.mk H
       clear H
       go_enter Try.func3, Try.ntmps3
       go_upto_region 9 with (first | (go_at_call 6; (with_reducible refine (laws_r8Long.calls _ _ l0 _ _ l1 false _ ?side1 ?side2 ?side3 ?side4 A3.out).mono ?_); (case side1 => repeat (first | exact HR0.out | (with_reducible refine Kd.C_alloc ?_ _) | (with_reducible refine Kd.C_drewN ?_ _) | (with_reducible refine Kd.C_drew ?_))); (case side2 => exact HC0.out); (case side3 => repeat (first | exact HR1.out | (with_reducible refine Kd.C_alloc ?_ _) | (with_reducible refine Kd.C_drewN ?_ _) | (with_reducible refine Kd.C_drew ?_))); (case side4 => exact HC1.out); rintro e w' ⟨rfl, ⟨nd, rfl⟩⟩; (try first | exact ⟨rfl, _, World.drewN_drewN _ _ _⟩ | exact ⟨rfl, _, Eq.trans (World.drewN_drewN _ _ _) (congrArg (World.drewN _) (Nat.add_assoc _ _ _))⟩)) | (go_at_call 8; (with_reducible refine (laws_r8At.calls _ _ l1 40 6 t168 _ ?side1 ?side2 A5.out).mono ?_); (case side1 => repeat (first | exact HR1.out | (with_reducible refine Kd.C_alloc ?_ _) | (with_reducible refine Kd.C_drewN ?_ _) | (with_reducible refine Kd.C_drew ?_))); (case side2 => exact HC1.out); rintro e w' ⟨rfl, ⟨nd, rfl⟩⟩; (try first | exact ⟨rfl, _, World.drewN_drewN _ _ _⟩ | exact ⟨rfl, _, Eq.trans (World.drewN_drewN _ _ _) (congrArg (World.drewN _) (Nat.add_assoc _ _ _))⟩)) | (go_at_call 7; (with_reducible refine (spec_R8Whole.calls k _ _ l0 t168 t169 _ ?side1 ?side2 A6.out).mono ?_); (case side1 => repeat (first | exact HR0.out | (with_reducible refine Kd.C_alloc ?_ _) | (with_reducible refine Kd.C_drewN ?_ _) | (with_reducible refine Kd.C_drew ?_))); (case side2 => exact HC0.out); rintro e w17 ⟨v170, rfl, ho0, hb⟩; have n0_ := Aside0.mk (Kd.R_lower ho0 (below_size (by repeat (first | (with_reducible first | exact HB.out | apply below_alloc | apply pw_below_drewN | apply below_drew1) | exact HB.out)))); have n1_ := Aside0.mk (below_step (by repeat (first | (with_reducible first | exact HB.out | apply below_alloc | apply pw_below_drewN | apply below_drew1) | exact HB.out)) hb); clear HB; have HO171 := n0_; have HB := n1_; clear n0_ n1_; (try clear hb); (try clear hb2); (try clear hk); (try clear hi); (try clear ho0); obtain ⟨Ao18, co18, eo18⟩ := Kd.R_slice HO171.out; subst eo18) | (go_at_call 8; (with_reducible refine (laws_r8At.calls _ _ l1 41 (wrap64 ((t169.length : Int) + 1)) t172 _ ?side1 ?side2 A7.out).mono ?_); (case side1 => repeat (first | exact (Kd.C_below HR1.out HB.out) | (with_reducible refine Kd.C_alloc ?_ _) | (with_reducible refine Kd.C_drewN ?_ _) | (with_reducible refine Kd.C_drew ?_))); (case side2 => exact HC1.out); rintro e w' ⟨rfl, ⟨nd, rfl⟩⟩; (try first | exact ⟨rfl, _, World.drewN_drewN _ _ _⟩ | exact ⟨rfl, _, Eq.trans (World.drewN_drewN _ _ _) (congrArg (World.drewN _) (Nat.add_assoc _ _ _))⟩)) | (go_at_call 9; (with_reducible refine (impl_PolynomialOf.calls k _ _ t169 t173 t174 _ ?side1 ?side2 A8.out).mono ?_); (case side1 => repeat (first | exact (Kd.R_reads' HO171.out).2.2 | (with_reducible refine Kd.C_alloc ?_ _) | (with_reducible refine Kd.C_drewN ?_ _) | (with_reducible refine Kd.C_drew ?_))); (case side2 => exact (Kd.R_reads' HO171.out).2.1); rintro e w19 ⟨v175, rfl, ho0, hb⟩; have n0_ := Aside0.mk (Kd.R_elder' (by (with_reducible repeat (first | apply Kd.R_alloc | apply Kd.R_drewN | apply Kd.R_drew)); exact HO171.out) (Kd.R_base ho0) hb); have n1_ := Aside0.mk (Kd.R_lower (Kd.R_new' ho0 (Kd.R_lt (by (with_reducible repeat (first | apply Kd.R_alloc | apply Kd.R_drewN | apply Kd.R_drew)); exact HO171.out))) (below_size (by repeat (first | (with_reducible first | exact HB.out | apply below_alloc | apply pw_below_drewN | apply below_drew1) | exact HB.out)))); have n2_ := Aside0.mk (below_step (by repeat (first | (with_reducible first | exact HB.out | apply below_alloc | apply pw_below_drewN | apply below_drew1) | exact HB.out)) hb); clear HO171; clear HB; have HO171 := n0_; have HO176 := n1_; have HB := n2_; clear n0_ n1_ n2_; (try clear hb); (try clear hb2); (try clear hk); (try clear hi); (try clear ho0); have q20 : (t172 : Int) ≤ ((t169.length : Int) : Int) := of_decide_eq_true (by first | (with_reducible assumption) | assumption); obtain ⟨i020, hi020, _, hsz20, _⟩ := info_parts info30; have hroom20 : t169.length ≤ co18 := (Kd.R_reads' HO171.out).2.1; have hC20 : Kd.C Kd.c64 _ Ao18 t169.length t169 := (Kd.R_reads' HO171.out).2.2; have hcut20 := cut_to (P := Try.prog) 24 30 .i64 Try.underlying24 hi020 Ao18 t169.length co18 t172 (of_decide_eq_true (by first | (with_reducible assumption) | assumption)) q20 hroom20; have hr20 := Kd.C_take (m := (t172 : Int).toNat) hC20 (by omega); have hy20 : y177.length = (t172 : Int).toNat := (by rw [Ny177.out, List.length_take]; omega); rw [← Ny177.out] at hr20; rw [← hy20] at hcut20; have HR180 := Aside0.mk hr20; have HC180 := Aside0.mk (show y177.length ≤ co18 from by omega); clear hr20 hC20 hroom20 hi020 hsz20; have KY20 := Aside0.mk hy20; clear hy20; have KL20 := Aside0.mk (show (t172 : Int).toNat ≤ t169.length from by omega); replace q20 := eq_true q20) | (go_at_call 9; (with_reducible refine (impl_PolynomialOf.calls k _ _ y177 t181 t182 _ ?side1 ?side2 A11.out).mono ?_); (case side1 => repeat (first | exact (by repeat (first | (with_reducible exact HR180.out) | (with_reducible refine Kd.C_alloc ?_ _) | (with_reducible refine Kd.C_drewN ?_ _) | (with_reducible refine Kd.C_drew ?_) | exact HR180.out)) | (with_reducible refine Kd.C_alloc ?_ _) | (with_reducible refine Kd.C_drewN ?_ _) | (with_reducible refine Kd.C_drew ?_))); (case side2 => exact HC180.out); rintro e w21 ⟨v183, rfl, ho0, hb⟩; have n0_ := Aside0.mk (Kd.R_elder' (by (with_reducible repeat (first | apply Kd.R_alloc | apply Kd.R_drewN | apply Kd.R_drew)); exact HO171.out) (Kd.R_base ho0) hb); have n1_ := Aside0.mk (Kd.R_elder' (by (with_reducible repeat (first | apply Kd.R_alloc | apply Kd.R_drewN | apply Kd.R_drew)); exact HO176.out) (Kd.R_base ho0) hb); have n2_ := Aside0.mk (Kd.R_lower (Kd.R_new' (Kd.R_new' ho0 (Kd.R_lt (by (with_reducible repeat (first | apply Kd.R_alloc | apply Kd.R_drewN | apply Kd.R_drew)); exact HO171.out))) (Kd.R_lt (by (with_reducible repeat (first | apply Kd.R_alloc | apply Kd.R_drewN | apply Kd.R_drew)); exact HO176.out))) (below_size (by repeat (first | (with_reducible first | exact HB.out | apply below_alloc | apply pw_below_drewN | apply below_drew1) | exact HB.out)))); have n3_ := Aside0.mk (Kd.C_below (by repeat (first | (with_reducible exact HR180.out) | (with_reducible refine Kd.C_alloc ?_ _) | (with_reducible refine Kd.C_drewN ?_ _) | (with_reducible refine Kd.C_drew ?_) | exact HR180.out)) hb); have n4_ := Aside0.mk (below_step (by repeat (first | (with_reducible first | exact HB.out | apply below_alloc | apply pw_below_drewN | apply below_drew1) | exact HB.out)) hb); clear HO171; clear HO176; clear HR180; clear HB; have HO171 := n0_; have HO176 := n1_; have HO184 := n2_; have HR180 := n3_; have HB := n4_; clear n0_ n1_ n2_ n3_ n4_; (try clear hb); (try clear hb2); (try clear hk); (try clear hi); (try clear ho0); have q22 : (t172 : Int) ≤ ((t169.length : Int) : Int) := of_decide_eq_true (by first | (with_reducible assumption) | assumption); obtain ⟨i022, hi022, _, hsz22, _⟩ := info_parts info30; have hroom22 : t169.length ≤ co18 := (Kd.R_reads' HO171.out).2.1; have hC22 : Kd.C Kd.c64 _ Ao18 t169.length t169 := (Kd.R_reads' HO171.out).2.2; have q022 : (0 : Int) ≤ (t172 : Int) := of_decide_eq_true (by first | (with_reducible assumption) | assumption); have hcut22 := cut_from (P := Try.prog) 24 30 .i64 Try.underlying24 hi022 1 hsz22 Ao18 t169.length co18 t172 q022 q22; have hr22 := Kd.C_drop (m := (t172 : Int).toNat) (c := co18) hC22 (by omega) hroom22; obtain ⟨A22, hA22⟩ : ∃ A1, A1 = (if co18 = (t172 : Int).toNat then Ao18 else (Ao18 : Option Addr).map (·.add ((t172 : Int).toNat * 1))) := ⟨_, rfl⟩; obtain ⟨c22, hc22⟩ : ∃ c1, c1 = co18 - (t172 : Int).toNat := ⟨_, rfl⟩; have hy22 : y185.length = t169.length - (t172 : Int).toNat := (by rw [Ny185.out, List.length_drop] <;> omega); rw [show (t169).drop (t172 : Int).toNat = y185 from Ny185.out.symm] at hr22; replace hr22 : Kd.C Kd.c64 _ A22 y185.length y185 := (by rw [hA22]; exact hr22); rw [← hy22, ← hA22, ← hc22] at hcut22; have HR188 := Aside0.mk hr22; have HC188 := Aside0.mk (show y185.length ≤ c22 from by rw [hy22, hc22]; exact Nat.sub_le_sub_right hroom22 _); clear hr22 hC22 hroom22 hi022 hsz22 hc22; have KY22 := Aside0.mk hy22; have KA22 := Aside0.mk hA22; clear hy22 hA22; have KL22 := Aside0.mk (show (t172 : Int).toNat ≤ t169.length from by omega); replace q22 := eq_true q22) | (go_at_call 9; (with_reducible refine (impl_PolynomialOf.calls k _ _ y185 t189 t190 _ ?side1 ?side2 A14.out).mono ?_); (case side1 => repeat (first | exact (by repeat (first | (with_reducible exact HR188.out) | (with_reducible refine Kd.C_alloc ?_ _) | (with_reducible refine Kd.C_drewN ?_ _) | (with_reducible refine Kd.C_drew ?_) | exact HR188.out)) | (with_reducible refine Kd.C_alloc ?_ _) | (with_reducible refine Kd.C_drewN ?_ _) | (with_reducible refine Kd.C_drew ?_))); (case side2 => exact HC188.out); rintro e w23 ⟨v191, rfl, ho0, hb⟩; have n0_ := Aside0.mk (Kd.R_elder' (by (with_reducible repeat (first | apply Kd.R_alloc | apply Kd.R_drewN | apply Kd.R_drew)); exact HO171.out) (Kd.R_base ho0) hb); have n1_ := Aside0.mk (Kd.R_elder' (by (with_reducible repeat (first | apply Kd.R_alloc | apply Kd.R_drewN | apply Kd.R_drew)); exact HO176.out) (Kd.R_base ho0) hb); have n2_ := Aside0.mk (Kd.R_elder' (by (with_reducible repeat (first | apply Kd.R_alloc | apply Kd.R_drewN | apply Kd.R_drew)); exact HO184.out) (Kd.R_base ho0) hb); have n3_ := Aside0.mk (Kd.R_lower (Kd.R_new' (Kd.R_new' (Kd.R_new' ho0 (Kd.R_lt (by (with_reducible repeat (first | apply Kd.R_alloc | apply Kd.R_drewN | apply Kd.R_drew)); exact HO171.out))) (Kd.R_lt (by (with_reducible repeat (first | apply Kd.R_alloc | apply Kd.R_drewN | apply Kd.R_drew)); exact HO176.out))) (Kd.R_lt (by (with_reducible repeat (first | apply Kd.R_alloc | apply Kd.R_drewN | apply Kd.R_drew)); exact HO184.out))) (below_size (by repeat (first | (with_reducible first | exact HB.out | apply below_alloc | apply pw_below_drewN | apply below_drew1) | exact HB.out)))); have n4_ := Aside0.mk (Kd.C_below (by repeat (first | (with_reducible exact HR180.out) | (with_reducible refine Kd.C_alloc ?_ _) | (with_reducible refine Kd.C_drewN ?_ _) | (with_reducible refine Kd.C_drew ?_) | exact HR180.out)) hb); have n5_ := Aside0.mk (Kd.C_below (by repeat (first | (with_reducible exact HR188.out) | (with_reducible refine Kd.C_alloc ?_ _) | (with_reducible refine Kd.C_drewN ?_ _) | (with_reducible refine Kd.C_drew ?_) | exact HR188.out)) hb); have n6_ := Aside0.mk (below_step (by repeat (first | (with_reducible first | exact HB.out | apply below_alloc | apply pw_below_drewN | apply below_drew1) | exact HB.out)) hb); clear HO171; clear HO176; clear HO184; clear HR180; clear HR188; clear HB; have HO171 := n0_; have HO176 := n1_; have HO184 := n2_; have HO192 := n3_; have HR180 := n4_; have HR188 := n5_; have HB := n6_; clear n0_ n1_ n2_ n3_ n4_ n5_ n6_; (try clear hb); (try clear hb2); (try clear hk); (try clear hi); (try clear ho0); obtain ⟨Ao24, co24, eo24⟩ := Kd.R_slice HO184.out; subst eo24; obtain ⟨Ao25, co25, eo25⟩ := Kd.R_slice HO192.out; subst eo25) | (go_at_call 10; (with_reducible refine (impl_MulPolynomials.calls k _ _ t181 _ _ t189 t193 t194 _ ?side1 ?side2 ?side3 ?side4 A15.out).mono ?_); (case side1 => repeat (first | exact (Kd.R_reads' HO184.out).2.2 | (with_reducible refine Kd.C_alloc ?_ _) | (with_reducible refine Kd.C_drewN ?_ _) | (with_reducible refine Kd.C_drew ?_))); (case side2 => exact (Kd.R_reads' HO184.out).2.1); (case side3 => repeat (first | exact (Kd.R_reads' HO192.out).2.2 | (with_reducible refine Kd.C_alloc ?_ _) | (with_reducible refine Kd.C_drewN ?_ _) | (with_reducible refine Kd.C_drew ?_))); (case side4 => exact (Kd.R_reads' HO192.out).2.1); rintro e w26 ⟨v195, rfl, ho0, hb⟩; have n0_ := Aside0.mk (Kd.R_elder' (by (with_reducible repeat (first | apply Kd.R_alloc | apply Kd.R_drewN | apply Kd.R_drew)); exact HO171.out) (Kd.R_base ho0) hb); have n1_ := Aside0.mk (Kd.R_elder' (by (with_reducible repeat (first | apply Kd.R_alloc | apply Kd.R_drewN | apply Kd.R_drew)); exact HO176.out) (Kd.R_base ho0) hb); have n2_ := Aside0.mk (Kd.R_elder' (by (with_reducible repeat (first | apply Kd.R_alloc | apply Kd.R_drewN | apply Kd.R_drew)); exact HO184.out) (Kd.R_base ho0) hb); have n3_ := Aside0.mk (Kd.R_elder' (by (with_reducible repeat (first | apply Kd.R_alloc | apply Kd.R_drewN | apply Kd.R_drew)); exact HO192.out) (Kd.R_base ho0) hb); have n4_ := Aside0.mk (Kd.R_lower (Kd.R_new' (Kd.R_new' (Kd.R_new' (Kd.R_new' ho0 (Kd.R_lt (by (with_reducible repeat (first | apply Kd.R_alloc | apply Kd.R_drewN | apply Kd.R_drew)); exact HO171.out))) (Kd.R_lt (by (with_reducible repeat (first | apply Kd.R_alloc | apply Kd.R_drewN | apply Kd.R_drew)); exact HO176.out))) (Kd.R_lt (by (with_reducible repeat (first | apply Kd.R_alloc | apply Kd.R_drewN | apply Kd.R_drew)); exact HO184.out))) (Kd.R_lt (by (with_reducible repeat (first | apply Kd.R_alloc | apply Kd.R_drewN | apply Kd.R_drew)); exact HO192.out))) (below_size (by repeat (first | (with_reducible first | exact HB.out | apply below_alloc | apply pw_below_drewN | apply below_drew1) | exact HB.out)))); have n5_ := Aside0.mk (Kd.C_below (by repeat (first | (with_reducible exact HR180.out) | (with_reducible refine Kd.C_alloc ?_ _) | (with_reducible refine Kd.C_drewN ?_ _) | (with_reducible refine Kd.C_drew ?_) | exact HR180.out)) hb); have n6_ := Aside0.mk (Kd.C_below (by repeat (first | (with_reducible exact HR188.out) | (with_reducible refine Kd.C_alloc ?_ _) | (with_reducible refine Kd.C_drewN ?_ _) | (with_reducible refine Kd.C_drew ?_) | exact HR188.out)) hb); have n7_ := Aside0.mk (below_step (by repeat (first | (with_reducible first | exact HB.out | apply below_alloc | apply pw_below_drewN | apply below_drew1) | exact HB.out)) hb); clear HO171; clear HO176; clear HO184; clear HO192; clear HR180; clear HR188; clear HB; have HO171 := n0_; have HO176 := n1_; have HO184 := n2_; have HO192 := n3_; have HO196 := n4_; have HR180 := n5_; have HR188 := n6_; have HB := n7_; clear n0_ n1_ n2_ n3_ n4_ n5_ n6_ n7_; (try clear hb); (try clear hb2); (try clear hk); (try clear hi); (try clear ho0)))
       repeat (go_quiet (first | (go_at_call 6; (with_reducible refine (laws_r8Long.calls _ _ l0 _ _ l1 false _ ?side1 ?side2 ?side3 ?side4 A3.out).mono ?_); (case side1 => repeat (first | exact HR0.out | (with_reducible refine Kd.C_alloc ?_ _) | (with_reducible refine Kd.C_drewN ?_ _) | (with_reducible refine Kd.C_drew ?_))); (case side2 => exact HC0.out); (case side3 => repeat (first | exact HR1.out | (with_reducible refine Kd.C_alloc ?_ _) | (with_reducible refine Kd.C_drewN ?_ _) | (with_reducible refine Kd.C_drew ?_))); (case side4 => exact HC1.out); rintro e w' ⟨rfl, ⟨nd, rfl⟩⟩; (try first | exact ⟨rfl, _, World.drewN_drewN _ _ _⟩ | exact ⟨rfl, _, Eq.trans (World.drewN_drewN _ _ _) (congrArg (World.drewN _) (Nat.add_assoc _ _ _))⟩)) | (go_at_call 8; (with_reducible refine (laws_r8At.calls _ _ l1 40 6 t168 _ ?side1 ?side2 A5.out).mono ?_); (case side1 => repeat (first | exact HR1.out | (with_reducible refine Kd.C_alloc ?_ _) | (with_reducible refine Kd.C_drewN ?_ _) | (with_reducible refine Kd.C_drew ?_))); (case side2 => exact HC1.out); rintro e w' ⟨rfl, ⟨nd, rfl⟩⟩; (try first | exact ⟨rfl, _, World.drewN_drewN _ _ _⟩ | exact ⟨rfl, _, Eq.trans (World.drewN_drewN _ _ _) (congrArg (World.drewN _) (Nat.add_assoc _ _ _))⟩)) | (go_at_call 7; (with_reducible refine (spec_R8Whole.calls k _ _ l0 t168 t169 _ ?side1 ?side2 A6.out).mono ?_); (case side1 => repeat (first | exact HR0.out | (with_reducible refine Kd.C_alloc ?_ _) | (with_reducible refine Kd.C_drewN ?_ _) | (with_reducible refine Kd.C_drew ?_))); (case side2 => exact HC0.out); rintro e w17 ⟨v170, rfl, ho0, hb⟩; have n0_ := Aside0.mk (Kd.R_lower ho0 (below_size (by repeat (first | (with_reducible first | exact HB.out | apply below_alloc | apply pw_below_drewN | apply below_drew1) | exact HB.out)))); have n1_ := Aside0.mk (below_step (by repeat (first | (with_reducible first | exact HB.out | apply below_alloc | apply pw_below_drewN | apply below_drew1) | exact HB.out)) hb); clear HB; have HO171 := n0_; have HB := n1_; clear n0_ n1_; (try clear hb); (try clear hb2); (try clear hk); (try clear hi); (try clear ho0); obtain ⟨Ao18, co18, eo18⟩ := Kd.R_slice HO171.out; subst eo18) | (go_at_call 8; (with_reducible refine (laws_r8At.calls _ _ l1 41 (wrap64 ((t169.length : Int) + 1)) t172 _ ?side1 ?side2 A7.out).mono ?_); (case side1 => repeat (first | exact (Kd.C_below HR1.out HB.out) | (with_reducible refine Kd.C_alloc ?_ _) | (with_reducible refine Kd.C_drewN ?_ _) | (with_reducible refine Kd.C_drew ?_))); (case side2 => exact HC1.out); rintro e w' ⟨rfl, ⟨nd, rfl⟩⟩; (try first | exact ⟨rfl, _, World.drewN_drewN _ _ _⟩ | exact ⟨rfl, _, Eq.trans (World.drewN_drewN _ _ _) (congrArg (World.drewN _) (Nat.add_assoc _ _ _))⟩)) | (go_at_call 9; (with_reducible refine (impl_PolynomialOf.calls k _ _ t169 t173 t174 _ ?side1 ?side2 A8.out).mono ?_); (case side1 => repeat (first | exact (Kd.R_reads' HO171.out).2.2 | (with_reducible refine Kd.C_alloc ?_ _) | (with_reducible refine Kd.C_drewN ?_ _) | (with_reducible refine Kd.C_drew ?_))); (case side2 => exact (Kd.R_reads' HO171.out).2.1); rintro e w19 ⟨v175, rfl, ho0, hb⟩; have n0_ := Aside0.mk (Kd.R_elder' (by (with_reducible repeat (first | apply Kd.R_alloc | apply Kd.R_drewN | apply Kd.R_drew)); exact HO171.out) (Kd.R_base ho0) hb); have n1_ := Aside0.mk (Kd.R_lower (Kd.R_new' ho0 (Kd.R_lt (by (with_reducible repeat (first | apply Kd.R_alloc | apply Kd.R_drewN | apply Kd.R_drew)); exact HO171.out))) (below_size (by repeat (first | (with_reducible first | exact HB.out | apply below_alloc | apply pw_below_drewN | apply below_drew1) | exact HB.out)))); have n2_ := Aside0.mk (below_step (by repeat (first | (with_reducible first | exact HB.out | apply below_alloc | apply pw_below_drewN | apply below_drew1) | exact HB.out)) hb); clear HO171; clear HB; have HO171 := n0_; have HO176 := n1_; have HB := n2_; clear n0_ n1_ n2_; (try clear hb); (try clear hb2); (try clear hk); (try clear hi); (try clear ho0); have q20 : (t172 : Int) ≤ ((t169.length : Int) : Int) := of_decide_eq_true (by first | (with_reducible assumption) | assumption); obtain ⟨i020, hi020, _, hsz20, _⟩ := info_parts info30; have hroom20 : t169.length ≤ co18 := (Kd.R_reads' HO171.out).2.1; have hC20 : Kd.C Kd.c64 _ Ao18 t169.length t169 := (Kd.R_reads' HO171.out).2.2; have hcut20 := cut_to (P := Try.prog) 24 30 .i64 Try.underlying24 hi020 Ao18 t169.length co18 t172 (of_decide_eq_true (by first | (with_reducible assumption) | assumption)) q20 hroom20; have hr20 := Kd.C_take (m := (t172 : Int).toNat) hC20 (by omega); have hy20 : y177.length = (t172 : Int).toNat := (by rw [Ny177.out, List.length_take]; omega); rw [← Ny177.out] at hr20; rw [← hy20] at hcut20; have HR180 := Aside0.mk hr20; have HC180 := Aside0.mk (show y177.length ≤ co18 from by omega); clear hr20 hC20 hroom20 hi020 hsz20; have KY20 := Aside0.mk hy20; clear hy20; have KL20 := Aside0.mk (show (t172 : Int).toNat ≤ t169.length from by omega); replace q20 := eq_true q20) | (go_at_call 9; (with_reducible refine (impl_PolynomialOf.calls k _ _ y177 t181 t182 _ ?side1 ?side2 A11.out).mono ?_); (case side1 => repeat (first | exact (by repeat (first | (with_reducible exact HR180.out) | (with_reducible refine Kd.C_alloc ?_ _) | (with_reducible refine Kd.C_drewN ?_ _) | (with_reducible refine Kd.C_drew ?_) | exact HR180.out)) | (with_reducible refine Kd.C_alloc ?_ _) | (with_reducible refine Kd.C_drewN ?_ _) | (with_reducible refine Kd.C_drew ?_))); (case side2 => exact HC180.out); rintro e w21 ⟨v183, rfl, ho0, hb⟩; have n0_ := Aside0.mk (Kd.R_elder' (by (with_reducible repeat (first | apply Kd.R_alloc | apply Kd.R_drewN | apply Kd.R_drew)); exact HO171.out) (Kd.R_base ho0) hb); have n1_ := Aside0.mk (Kd.R_elder' (by (with_reducible repeat (first | apply Kd.R_alloc | apply Kd.R_drewN | apply Kd.R_drew)); exact HO176.out) (Kd.R_base ho0) hb); have n2_ := Aside0.mk (Kd.R_lower (Kd.R_new' (Kd.R_new' ho0 (Kd.R_lt (by (with_reducible repeat (first | apply Kd.R_alloc | apply Kd.R_drewN | apply Kd.R_drew)); exact HO171.out))) (Kd.R_lt (by (with_reducible repeat (first | apply Kd.R_alloc | apply Kd.R_drewN | apply Kd.R_drew)); exact HO176.out))) (below_size (by repeat (first | (with_reducible first | exact HB.out | apply below_alloc | apply pw_below_drewN | apply below_drew1) | exact HB.out)))); have n3_ := Aside0.mk (Kd.C_below (by repeat (first | (with_reducible exact HR180.out) | (with_reducible refine Kd.C_alloc ?_ _) | (with_reducible refine Kd.C_drewN ?_ _) | (with_reducible refine Kd.C_drew ?_) | exact HR180.out)) hb); have n4_ := Aside0.mk (below_step (by repeat (first | (with_reducible first | exact HB.out | apply below_alloc | apply pw_below_drewN | apply below_drew1) | exact HB.out)) hb); clear HO171; clear HO176; clear HR180; clear HB; have HO171 := n0_; have HO176 := n1_; have HO184 := n2_; have HR180 := n3_; have HB := n4_; clear n0_ n1_ n2_ n3_ n4_; (try clear hb); (try clear hb2); (try clear hk); (try clear hi); (try clear ho0); have q22 : (t172 : Int) ≤ ((t169.length : Int) : Int) := of_decide_eq_true (by first | (with_reducible assumption) | assumption); obtain ⟨i022, hi022, _, hsz22, _⟩ := info_parts info30; have hroom22 : t169.length ≤ co18 := (Kd.R_reads' HO171.out).2.1; have hC22 : Kd.C Kd.c64 _ Ao18 t169.length t169 := (Kd.R_reads' HO171.out).2.2; have q022 : (0 : Int) ≤ (t172 : Int) := of_decide_eq_true (by first | (with_reducible assumption) | assumption); have hcut22 := cut_from (P := Try.prog) 24 30 .i64 Try.underlying24 hi022 1 hsz22 Ao18 t169.length co18 t172 q022 q22; have hr22 := Kd.C_drop (m := (t172 : Int).toNat) (c := co18) hC22 (by omega) hroom22; obtain ⟨A22, hA22⟩ : ∃ A1, A1 = (if co18 = (t172 : Int).toNat then Ao18 else (Ao18 : Option Addr).map (·.add ((t172 : Int).toNat * 1))) := ⟨_, rfl⟩; obtain ⟨c22, hc22⟩ : ∃ c1, c1 = co18 - (t172 : Int).toNat := ⟨_, rfl⟩; have hy22 : y185.length = t169.length - (t172 : Int).toNat := (by rw [Ny185.out, List.length_drop] <;> omega); rw [show (t169).drop (t172 : Int).toNat = y185 from Ny185.out.symm] at hr22; replace hr22 : Kd.C Kd.c64 _ A22 y185.length y185 := (by rw [hA22]; exact hr22); rw [← hy22, ← hA22, ← hc22] at hcut22; have HR188 := Aside0.mk hr22; have HC188 := Aside0.mk (show y185.length ≤ c22 from by rw [hy22, hc22]; exact Nat.sub_le_sub_right hroom22 _); clear hr22 hC22 hroom22 hi022 hsz22 hc22; have KY22 := Aside0.mk hy22; have KA22 := Aside0.mk hA22; clear hy22 hA22; have KL22 := Aside0.mk (show (t172 : Int).toNat ≤ t169.length from by omega); replace q22 := eq_true q22) | (go_at_call 9; (with_reducible refine (impl_PolynomialOf.calls k _ _ y185 t189 t190 _ ?side1 ?side2 A14.out).mono ?_); (case side1 => repeat (first | exact (by repeat (first | (with_reducible exact HR188.out) | (with_reducible refine Kd.C_alloc ?_ _) | (with_reducible refine Kd.C_drewN ?_ _) | (with_reducible refine Kd.C_drew ?_) | exact HR188.out)) | (with_reducible refine Kd.C_alloc ?_ _) | (with_reducible refine Kd.C_drewN ?_ _) | (with_reducible refine Kd.C_drew ?_))); (case side2 => exact HC188.out); rintro e w23 ⟨v191, rfl, ho0, hb⟩; have n0_ := Aside0.mk (Kd.R_elder' (by (with_reducible repeat (first | apply Kd.R_alloc | apply Kd.R_drewN | apply Kd.R_drew)); exact HO171.out) (Kd.R_base ho0) hb); have n1_ := Aside0.mk (Kd.R_elder' (by (with_reducible repeat (first | apply Kd.R_alloc | apply Kd.R_drewN | apply Kd.R_drew)); exact HO176.out) (Kd.R_base ho0) hb); have n2_ := Aside0.mk (Kd.R_elder' (by (with_reducible repeat (first | apply Kd.R_alloc | apply Kd.R_drewN | apply Kd.R_drew)); exact HO184.out) (Kd.R_base ho0) hb); have n3_ := Aside0.mk (Kd.R_lower (Kd.R_new' (Kd.R_new' (Kd.R_new' ho0 (Kd.R_lt (by (with_reducible repeat (first | apply Kd.R_alloc | apply Kd.R_drewN | apply Kd.R_drew)); exact HO171.out))) (Kd.R_lt (by (with_reducible repeat (first | apply Kd.R_alloc | apply Kd.R_drewN | apply Kd.R_drew)); exact HO176.out))) (Kd.R_lt (by (with_reducible repeat (first | apply Kd.R_alloc | apply Kd.R_drewN | apply Kd.R_drew)); exact HO184.out))) (below_size (by repeat (first | (with_reducible first | exact HB.out | apply below_alloc | apply pw_below_drewN | apply below_drew1) | exact HB.out)))); have n4_ := Aside0.mk (Kd.C_below (by repeat (first | (with_reducible exact HR180.out) | (with_reducible refine Kd.C_alloc ?_ _) | (with_reducible refine Kd.C_drewN ?_ _) | (with_reducible refine Kd.C_drew ?_) | exact HR180.out)) hb); have n5_ := Aside0.mk (Kd.C_below (by repeat (first | (with_reducible exact HR188.out) | (with_reducible refine Kd.C_alloc ?_ _) | (with_reducible refine Kd.C_drewN ?_ _) | (with_reducible refine Kd.C_drew ?_) | exact HR188.out)) hb); have n6_ := Aside0.mk (below_step (by repeat (first | (with_reducible first | exact HB.out | apply below_alloc | apply pw_below_drewN | apply below_drew1) | exact HB.out)) hb); clear HO171; clear HO176; clear HO184; clear HR180; clear HR188; clear HB; have HO171 := n0_; have HO176 := n1_; have HO184 := n2_; have HO192 := n3_; have HR180 := n4_; have HR188 := n5_; have HB := n6_; clear n0_ n1_ n2_ n3_ n4_ n5_ n6_; (try clear hb); (try clear hb2); (try clear hk); (try clear hi); (try clear ho0); obtain ⟨Ao24, co24, eo24⟩ := Kd.R_slice HO184.out; subst eo24; obtain ⟨Ao25, co25, eo25⟩ := Kd.R_slice HO192.out; subst eo25) | (go_at_call 10; (with_reducible refine (impl_MulPolynomials.calls k _ _ t181 _ _ t189 t193 t194 _ ?side1 ?side2 ?side3 ?side4 A15.out).mono ?_); (case side1 => repeat (first | exact (Kd.R_reads' HO184.out).2.2 | (with_reducible refine Kd.C_alloc ?_ _) | (with_reducible refine Kd.C_drewN ?_ _) | (with_reducible refine Kd.C_drew ?_))); (case side2 => exact (Kd.R_reads' HO184.out).2.1); (case side3 => repeat (first | exact (Kd.R_reads' HO192.out).2.2 | (with_reducible refine Kd.C_alloc ?_ _) | (with_reducible refine Kd.C_drewN ?_ _) | (with_reducible refine Kd.C_drew ?_))); (case side4 => exact (Kd.R_reads' HO192.out).2.1); rintro e w26 ⟨v195, rfl, ho0, hb⟩; have n0_ := Aside0.mk (Kd.R_elder' (by (with_reducible repeat (first | apply Kd.R_alloc | apply Kd.R_drewN | apply Kd.R_drew)); exact HO171.out) (Kd.R_base ho0) hb); have n1_ := Aside0.mk (Kd.R_elder' (by (with_reducible repeat (first | apply Kd.R_alloc | apply Kd.R_drewN | apply Kd.R_drew)); exact HO176.out) (Kd.R_base ho0) hb); have n2_ := Aside0.mk (Kd.R_elder' (by (with_reducible repeat (first | apply Kd.R_alloc | apply Kd.R_drewN | apply Kd.R_drew)); exact HO184.out) (Kd.R_base ho0) hb); have n3_ := Aside0.mk (Kd.R_elder' (by (with_reducible repeat (first | apply Kd.R_alloc | apply Kd.R_drewN | apply Kd.R_drew)); exact HO192.out) (Kd.R_base ho0) hb); have n4_ := Aside0.mk (Kd.R_lower (Kd.R_new' (Kd.R_new' (Kd.R_new' (Kd.R_new' ho0 (Kd.R_lt (by (with_reducible repeat (first | apply Kd.R_alloc | apply Kd.R_drewN | apply Kd.R_drew)); exact HO171.out))) (Kd.R_lt (by (with_reducible repeat (first | apply Kd.R_alloc | apply Kd.R_drewN | apply Kd.R_drew)); exact HO176.out))) (Kd.R_lt (by (with_reducible repeat (first | apply Kd.R_alloc | apply Kd.R_drewN | apply Kd.R_drew)); exact HO184.out))) (Kd.R_lt (by (with_reducible repeat (first | apply Kd.R_alloc | apply Kd.R_drewN | apply Kd.R_drew)); exact HO192.out))) (below_size (by repeat (first | (with_reducible first | exact HB.out | apply below_alloc | apply pw_below_drewN | apply below_drew1) | exact HB.out)))); have n5_ := Aside0.mk (Kd.C_below (by repeat (first | (with_reducible exact HR180.out) | (with_reducible refine Kd.C_alloc ?_ _) | (with_reducible refine Kd.C_drewN ?_ _) | (with_reducible refine Kd.C_drew ?_) | exact HR180.out)) hb); have n6_ := Aside0.mk (Kd.C_below (by repeat (first | (with_reducible exact HR188.out) | (with_reducible refine Kd.C_alloc ?_ _) | (with_reducible refine Kd.C_drewN ?_ _) | (with_reducible refine Kd.C_drew ?_) | exact HR188.out)) hb); have n7_ := Aside0.mk (below_step (by repeat (first | (with_reducible first | exact HB.out | apply below_alloc | apply pw_below_drewN | apply below_drew1) | exact HB.out)) hb); clear HO171; clear HO176; clear HO184; clear HO192; clear HR180; clear HR188; clear HB; have HO171 := n0_; have HO176 := n1_; have HO184 := n2_; have HO192 := n3_; have HO196 := n4_; have HR180 := n5_; have HR188 := n6_; have HB := n7_; clear n0_ n1_ n2_ n3_ n4_ n5_ n6_ n7_; (try clear hb); (try clear hb2); (try clear hk); (try clear hi); (try clear ho0))); go_upto_region 9 with (first | (go_at_call 6; (with_reducible refine (laws_r8Long.calls _ _ l0 _ _ l1 false _ ?side1 ?side2 ?side3 ?side4 A3.out).mono ?_); (case side1 => repeat (first | exact HR0.out | (with_reducible refine Kd.C_alloc ?_ _) | (with_reducible refine Kd.C_drewN ?_ _) | (with_reducible refine Kd.C_drew ?_))); (case side2 => exact HC0.out); (case side3 => repeat (first | exact HR1.out | (with_reducible refine Kd.C_alloc ?_ _) | (with_reducible refine Kd.C_drewN ?_ _) | (with_reducible refine Kd.C_drew ?_))); (case side4 => exact HC1.out); rintro e w' ⟨rfl, ⟨nd, rfl⟩⟩; (try first | exact ⟨rfl, _, World.drewN_drewN _ _ _⟩ | exact ⟨rfl, _, Eq.trans (World.drewN_drewN _ _ _) (congrArg (World.drewN _) (Nat.add_assoc _ _ _))⟩)) | (go_at_call 8; (with_reducible refine (laws_r8At.calls _ _ l1 40 6 t168 _ ?side1 ?side2 A5.out).mono ?_); (case side1 => repeat (first | exact HR1.out | (with_reducible refine Kd.C_alloc ?_ _) | (with_reducible refine Kd.C_drewN ?_ _) | (with_reducible refine Kd.C_drew ?_))); (case side2 => exact HC1.out); rintro e w' ⟨rfl, ⟨nd, rfl⟩⟩; (try first | exact ⟨rfl, _, World.drewN_drewN _ _ _⟩ | exact ⟨rfl, _, Eq.trans (World.drewN_drewN _ _ _) (congrArg (World.drewN _) (Nat.add_assoc _ _ _))⟩)) | (go_at_call 7; (with_reducible refine (spec_R8Whole.calls k _ _ l0 t168 t169 _ ?side1 ?side2 A6.out).mono ?_); (case side1 => repeat (first | exact HR0.out | (with_reducible refine Kd.C_alloc ?_ _) | (with_reducible refine Kd.C_drewN ?_ _) | (with_reducible refine Kd.C_drew ?_))); (case side2 => exact HC0.out); rintro e w17 ⟨v170, rfl, ho0, hb⟩; have n0_ := Aside0.mk (Kd.R_lower ho0 (below_size (by repeat (first | (with_reducible first | exact HB.out | apply below_alloc | apply pw_below_drewN | apply below_drew1) | exact HB.out)))); have n1_ := Aside0.mk (below_step (by repeat (first | (with_reducible first | exact HB.out | apply below_alloc | apply pw_below_drewN | apply below_drew1) | exact HB.out)) hb); clear HB; have HO171 := n0_; have HB := n1_; clear n0_ n1_; (try clear hb); (try clear hb2); (try clear hk); (try clear hi); (try clear ho0); obtain ⟨Ao18, co18, eo18⟩ := Kd.R_slice HO171.out; subst eo18) | (go_at_call 8; (with_reducible refine (laws_r8At.calls _ _ l1 41 (wrap64 ((t169.length : Int) + 1)) t172 _ ?side1 ?side2 A7.out).mono ?_); (case side1 => repeat (first | exact (Kd.C_below HR1.out HB.out) | (with_reducible refine Kd.C_alloc ?_ _) | (with_reducible refine Kd.C_drewN ?_ _) | (with_reducible refine Kd.C_drew ?_))); (case side2 => exact HC1.out); rintro e w' ⟨rfl, ⟨nd, rfl⟩⟩; (try first | exact ⟨rfl, _, World.drewN_drewN _ _ _⟩ | exact ⟨rfl, _, Eq.trans (World.drewN_drewN _ _ _) (congrArg (World.drewN _) (Nat.add_assoc _ _ _))⟩)) | (go_at_call 9; (with_reducible refine (impl_PolynomialOf.calls k _ _ t169 t173 t174 _ ?side1 ?side2 A8.out).mono ?_); (case side1 => repeat (first | exact (Kd.R_reads' HO171.out).2.2 | (with_reducible refine Kd.C_alloc ?_ _) | (with_reducible refine Kd.C_drewN ?_ _) | (with_reducible refine Kd.C_drew ?_))); (case side2 => exact (Kd.R_reads' HO171.out).2.1); rintro e w19 ⟨v175, rfl, ho0, hb⟩; have n0_ := Aside0.mk (Kd.R_elder' (by (with_reducible repeat (first | apply Kd.R_alloc | apply Kd.R_drewN | apply Kd.R_drew)); exact HO171.out) (Kd.R_base ho0) hb); have n1_ := Aside0.mk (Kd.R_lower (Kd.R_new' ho0 (Kd.R_lt (by (with_reducible repeat (first | apply Kd.R_alloc | apply Kd.R_drewN | apply Kd.R_drew)); exact HO171.out))) (below_size (by repeat (first | (with_reducible first | exact HB.out | apply below_alloc | apply pw_below_drewN | apply below_drew1) | exact HB.out)))); have n2_ := Aside0.mk (below_step (by repeat (first | (with_reducible first | exact HB.out | apply below_alloc | apply pw_below_drewN | apply below_drew1) | exact HB.out)) hb); clear HO171; clear HB; have HO171 := n0_; have HO176 := n1_; have HB := n2_; clear n0_ n1_ n2_; (try clear hb); (try clear hb2); (try clear hk); (try clear hi); (try clear ho0); have q20 : (t172 : Int) ≤ ((t169.length : Int) : Int) := of_decide_eq_true (by first | (with_reducible assumption) | assumption); obtain ⟨i020, hi020, _, hsz20, _⟩ := info_parts info30; have hroom20 : t169.length ≤ co18 := (Kd.R_reads' HO171.out).2.1; have hC20 : Kd.C Kd.c64 _ Ao18 t169.length t169 := (Kd.R_reads' HO171.out).2.2; have hcut20 := cut_to (P := Try.prog) 24 30 .i64 Try.underlying24 hi020 Ao18 t169.length co18 t172 (of_decide_eq_true (by first | (with_reducible assumption) | assumption)) q20 hroom20; have hr20 := Kd.C_take (m := (t172 : Int).toNat) hC20 (by omega); have hy20 : y177.length = (t172 : Int).toNat := (by rw [Ny177.out, List.length_take]; omega); rw [← Ny177.out] at hr20; rw [← hy20] at hcut20; have HR180 := Aside0.mk hr20; have HC180 := Aside0.mk (show y177.length ≤ co18 from by omega); clear hr20 hC20 hroom20 hi020 hsz20; have KY20 := Aside0.mk hy20; clear hy20; have KL20 := Aside0.mk (show (t172 : Int).toNat ≤ t169.length from by omega); replace q20 := eq_true q20) | (go_at_call 9; (with_reducible refine (impl_PolynomialOf.calls k _ _ y177 t181 t182 _ ?side1 ?side2 A11.out).mono ?_); (case side1 => repeat (first | exact (by repeat (first | (with_reducible exact HR180.out) | (with_reducible refine Kd.C_alloc ?_ _) | (with_reducible refine Kd.C_drewN ?_ _) | (with_reducible refine Kd.C_drew ?_) | exact HR180.out)) | (with_reducible refine Kd.C_alloc ?_ _) | (with_reducible refine Kd.C_drewN ?_ _) | (with_reducible refine Kd.C_drew ?_))); (case side2 => exact HC180.out); rintro e w21 ⟨v183, rfl, ho0, hb⟩; have n0_ := Aside0.mk (Kd.R_elder' (by (with_reducible repeat (first | apply Kd.R_alloc | apply Kd.R_drewN | apply Kd.R_drew)); exact HO171.out) (Kd.R_base ho0) hb); have n1_ := Aside0.mk (Kd.R_elder' (by (with_reducible repeat (first | apply Kd.R_alloc | apply Kd.R_drewN | apply Kd.R_drew)); exact HO176.out) (Kd.R_base ho0) hb); have n2_ := Aside0.mk (Kd.R_lower (Kd.R_new' (Kd.R_new' ho0 (Kd.R_lt (by (with_reducible repeat (first | apply Kd.R_alloc | apply Kd.R_drewN | apply Kd.R_drew)); exact HO171.out))) (Kd.R_lt (by (with_reducible repeat (first | apply Kd.R_alloc | apply Kd.R_drewN | apply Kd.R_drew)); exact HO176.out))) (below_size (by repeat (first | (with_reducible first | exact HB.out | apply below_alloc | apply pw_below_drewN | apply below_drew1) | exact HB.out)))); have n3_ := Aside0.mk (Kd.C_below (by repeat (first | (with_reducible exact HR180.out) | (with_reducible refine Kd.C_alloc ?_ _) | (with_reducible refine Kd.C_drewN ?_ _) | (with_reducible refine Kd.C_drew ?_) | exact HR180.out)) hb); have n4_ := Aside0.mk (below_step (by repeat (first | (with_reducible first | exact HB.out | apply below_alloc | apply pw_below_drewN | apply below_drew1) | exact HB.out)) hb); clear HO171; clear HO176; clear HR180; clear HB; have HO171 := n0_; have HO176 := n1_; have HO184 := n2_; have HR180 := n3_; have HB := n4_; clear n0_ n1_ n2_ n3_ n4_; (try clear hb); (try clear hb2); (try clear hk); (try clear hi); (try clear ho0); have q22 : (t172 : Int) ≤ ((t169.length : Int) : Int) := of_decide_eq_true (by first | (with_reducible assumption) | assumption); obtain ⟨i022, hi022, _, hsz22, _⟩ := info_parts info30; have hroom22 : t169.length ≤ co18 := (Kd.R_reads' HO171.out).2.1; have hC22 : Kd.C Kd.c64 _ Ao18 t169.length t169 := (Kd.R_reads' HO171.out).2.2; have q022 : (0 : Int) ≤ (t172 : Int) := of_decide_eq_true (by first | (with_reducible assumption) | assumption); have hcut22 := cut_from (P := Try.prog) 24 30 .i64 Try.underlying24 hi022 1 hsz22 Ao18 t169.length co18 t172 q022 q22; have hr22 := Kd.C_drop (m := (t172 : Int).toNat) (c := co18) hC22 (by omega) hroom22; obtain ⟨A22, hA22⟩ : ∃ A1, A1 = (if co18 = (t172 : Int).toNat then Ao18 else (Ao18 : Option Addr).map (·.add ((t172 : Int).toNat * 1))) := ⟨_, rfl⟩; obtain ⟨c22, hc22⟩ : ∃ c1, c1 = co18 - (t172 : Int).toNat := ⟨_, rfl⟩; have hy22 : y185.length = t169.length - (t172 : Int).toNat := (by rw [Ny185.out, List.length_drop] <;> omega); rw [show (t169).drop (t172 : Int).toNat = y185 from Ny185.out.symm] at hr22; replace hr22 : Kd.C Kd.c64 _ A22 y185.length y185 := (by rw [hA22]; exact hr22); rw [← hy22, ← hA22, ← hc22] at hcut22; have HR188 := Aside0.mk hr22; have HC188 := Aside0.mk (show y185.length ≤ c22 from by rw [hy22, hc22]; exact Nat.sub_le_sub_right hroom22 _); clear hr22 hC22 hroom22 hi022 hsz22 hc22; have KY22 := Aside0.mk hy22; have KA22 := Aside0.mk hA22; clear hy22 hA22; have KL22 := Aside0.mk (show (t172 : Int).toNat ≤ t169.length from by omega); replace q22 := eq_true q22) | (go_at_call 9; (with_reducible refine (impl_PolynomialOf.calls k _ _ y185 t189 t190 _ ?side1 ?side2 A14.out).mono ?_); (case side1 => repeat (first | exact (by repeat (first | (with_reducible exact HR188.out) | (with_reducible refine Kd.C_alloc ?_ _) | (with_reducible refine Kd.C_drewN ?_ _) | (with_reducible refine Kd.C_drew ?_) | exact HR188.out)) | (with_reducible refine Kd.C_alloc ?_ _) | (with_reducible refine Kd.C_drewN ?_ _) | (with_reducible refine Kd.C_drew ?_))); (case side2 => exact HC188.out); rintro e w23 ⟨v191, rfl, ho0, hb⟩; have n0_ := Aside0.mk (Kd.R_elder' (by (with_reducible repeat (first | apply Kd.R_alloc | apply Kd.R_drewN | apply Kd.R_drew)); exact HO171.out) (Kd.R_base ho0) hb); have n1_ := Aside0.mk (Kd.R_elder' (by (with_reducible repeat (first | apply Kd.R_alloc | apply Kd.R_drewN | apply Kd.R_drew)); exact HO176.out) (Kd.R_base ho0) hb); have n2_ := Aside0.mk (Kd.R_elder' (by (with_reducible repeat (first | apply Kd.R_alloc | apply Kd.R_drewN | apply Kd.R_drew)); exact HO184.out) (Kd.R_base ho0) hb); have n3_ := Aside0.mk (Kd.R_lower (Kd.R_new' (Kd.R_new' (Kd.R_new' ho0 (Kd.R_lt (by (with_reducible repeat (first | apply Kd.R_alloc | apply Kd.R_drewN | apply Kd.R_drew)); exact HO171.out))) (Kd.R_lt (by (with_reducible repeat (first | apply Kd.R_alloc | apply Kd.R_drewN | apply Kd.R_drew)); exact HO176.out))) (Kd.R_lt (by (with_reducible repeat (first | apply Kd.R_alloc | apply Kd.R_drewN | apply Kd.R_drew)); exact HO184.out))) (below_size (by repeat (first | (with_reducible first | exact HB.out | apply below_alloc | apply pw_below_drewN | apply below_drew1) | exact HB.out)))); have n4_ := Aside0.mk (Kd.C_below (by repeat (first | (with_reducible exact HR180.out) | (with_reducible refine Kd.C_alloc ?_ _) | (with_reducible refine Kd.C_drewN ?_ _) | (with_reducible refine Kd.C_drew ?_) | exact HR180.out)) hb); have n5_ := Aside0.mk (Kd.C_below (by repeat (first | (with_reducible exact HR188.out) | (with_reducible refine Kd.C_alloc ?_ _) | (with_reducible refine Kd.C_drewN ?_ _) | (with_reducible refine Kd.C_drew ?_) | exact HR188.out)) hb); have n6_ := Aside0.mk (below_step (by repeat (first | (with_reducible first | exact HB.out | apply below_alloc | apply pw_below_drewN | apply below_drew1) | exact HB.out)) hb); clear HO171; clear HO176; clear HO184; clear HR180; clear HR188; clear HB; have HO171 := n0_; have HO176 := n1_; have HO184 := n2_; have HO192 := n3_; have HR180 := n4_; have HR188 := n5_; have HB := n6_; clear n0_ n1_ n2_ n3_ n4_ n5_ n6_; (try clear hb); (try clear hb2); (try clear hk); (try clear hi); (try clear ho0); obtain ⟨Ao24, co24, eo24⟩ := Kd.R_slice HO184.out; subst eo24; obtain ⟨Ao25, co25, eo25⟩ := Kd.R_slice HO192.out; subst eo25) | (go_at_call 10; (with_reducible refine (impl_MulPolynomials.calls k _ _ t181 _ _ t189 t193 t194 _ ?side1 ?side2 ?side3 ?side4 A15.out).mono ?_); (case side1 => repeat (first | exact (Kd.R_reads' HO184.out).2.2 | (with_reducible refine Kd.C_alloc ?_ _) | (with_reducible refine Kd.C_drewN ?_ _) | (with_reducible refine Kd.C_drew ?_))); (case side2 => exact (Kd.R_reads' HO184.out).2.1); (case side3 => repeat (first | exact (Kd.R_reads' HO192.out).2.2 | (with_reducible refine Kd.C_alloc ?_ _) | (with_reducible refine Kd.C_drewN ?_ _) | (with_reducible refine Kd.C_drew ?_))); (case side4 => exact (Kd.R_reads' HO192.out).2.1); rintro e w26 ⟨v195, rfl, ho0, hb⟩; have n0_ := Aside0.mk (Kd.R_elder' (by (with_reducible repeat (first | apply Kd.R_alloc | apply Kd.R_drewN | apply Kd.R_drew)); exact HO171.out) (Kd.R_base ho0) hb); have n1_ := Aside0.mk (Kd.R_elder' (by (with_reducible repeat (first | apply Kd.R_alloc | apply Kd.R_drewN | apply Kd.R_drew)); exact HO176.out) (Kd.R_base ho0) hb); have n2_ := Aside0.mk (Kd.R_elder' (by (with_reducible repeat (first | apply Kd.R_alloc | apply Kd.R_drewN | apply Kd.R_drew)); exact HO184.out) (Kd.R_base ho0) hb); have n3_ := Aside0.mk (Kd.R_elder' (by (with_reducible repeat (first | apply Kd.R_alloc | apply Kd.R_drewN | apply Kd.R_drew)); exact HO192.out) (Kd.R_base ho0) hb); have n4_ := Aside0.mk (Kd.R_lower (Kd.R_new' (Kd.R_new' (Kd.R_new' (Kd.R_new' ho0 (Kd.R_lt (by (with_reducible repeat (first | apply Kd.R_alloc | apply Kd.R_drewN | apply Kd.R_drew)); exact HO171.out))) (Kd.R_lt (by (with_reducible repeat (first | apply Kd.R_alloc | apply Kd.R_drewN | apply Kd.R_drew)); exact HO176.out))) (Kd.R_lt (by (with_reducible repeat (first | apply Kd.R_alloc | apply Kd.R_drewN | apply Kd.R_drew)); exact HO184.out))) (Kd.R_lt (by (with_reducible repeat (first | apply Kd.R_alloc | apply Kd.R_drewN | apply Kd.R_drew)); exact HO192.out))) (below_size (by repeat (first | (with_reducible first | exact HB.out | apply below_alloc | apply pw_below_drewN | apply below_drew1) | exact HB.out)))); have n5_ := Aside0.mk (Kd.C_below (by repeat (first | (with_reducible exact HR180.out) | (with_reducible refine Kd.C_alloc ?_ _) | (with_reducible refine Kd.C_drewN ?_ _) | (with_reducible refine Kd.C_drew ?_) | exact HR180.out)) hb); have n6_ := Aside0.mk (Kd.C_below (by repeat (first | (with_reducible exact HR188.out) | (with_reducible refine Kd.C_alloc ?_ _) | (with_reducible refine Kd.C_drewN ?_ _) | (with_reducible refine Kd.C_drew ?_) | exact HR188.out)) hb); have n7_ := Aside0.mk (below_step (by repeat (first | (with_reducible first | exact HB.out | apply below_alloc | apply pw_below_drewN | apply below_drew1) | exact HB.out)) hb); clear HO171; clear HO176; clear HO184; clear HO192; clear HR180; clear HR188; clear HB; have HO171 := n0_; have HO176 := n1_; have HO184 := n2_; have HO192 := n3_; have HO196 := n4_; have HR180 := n5_; have HR188 := n6_; have HB := n7_; clear n0_ n1_ n2_ n3_ n4_ n5_ n6_ n7_; (try clear hb); (try clear hb2); (try clear hk); (try clear hi); (try clear ho0))))
       (try simp only [Act.put, List.setIfInBounds_toArray, List.set_cons_zero, List.set_cons_succ])
       go_cut [98] (fun v98 wc => ∃ (kq : Nat) (x98_15 : Bool), v98 = .bool x98_15 ∧ Aside0 (laws_FnPolynomials.j0 kq l1 t169 t173 t193 x98_15 = some r) ∧ Aside0 (kq ≤ k) ∧ Aside0 (Kd.R Kd.c64 30 wc w.heap.size (fun k_ => some k_ ≠ (v175 : Value).ownBlock ∧ some k_ ≠ (v195 : Value).ownBlock) (.slice Ao18 t169.length co18) t169) ∧ Aside0 (Kd.R Kd.c64 30 wc w.heap.size (fun k_ => some k_ ≠ ((.slice Ao18 t169.length co18) : Value).ownBlock ∧ some k_ ≠ (v195 : Value).ownBlock) v175 t173) ∧ Aside0 (Kd.R Kd.c64 30 wc w.heap.size (fun k_ => some k_ ≠ ((.slice Ao18 t169.length co18) : Value).ownBlock ∧ some k_ ≠ (v175 : Value).ownBlock) v195 t193) ∧ Aside0 (Below w.heap.size w wc))
       case first =>
        have H := HC16.out
        clear HC16
        by_cases c27 : t174 = true
        · subst c27
          have H1 : (if t182 = true then (if t190 = true then (if t194 = true then (if (t173.length : Int) = (wrap64 ((t169.length : Int) + 1)) then (if (t193.length : Int) = (t173.length : Int) then (if 0 ≤ (wrap64 ((t173.length : Int) - 1)) then (if (wrap64 ((t173.length : Int) - 1)) < (t173.length : Int) then (laws_FnPolynomials.j0 k l1 t169 t173 t193 (!((FloatKind.f32.format.order ((rdOf c64z t173 (wrap64 ((t173.length : Int) - 1))).re) 1065353216 == some .eq) && (FloatKind.f32.format.order ((rdOf c64z t173 (wrap64 ((t173.length : Int) - 1))).im) 0 == some .eq)))) else (none)) else (none)) else (none)) else (none)) else (none)) else (none)) else (none)) = some r := by rw [if_pos rfl] at H; exact H
          clear H
          have H := H1
          clear H1
          by_cases c28 : t182 = true
          · subst c28
            have H1 : (if t190 = true then (if t194 = true then (if (t173.length : Int) = (wrap64 ((t169.length : Int) + 1)) then (if (t193.length : Int) = (t173.length : Int) then (if 0 ≤ (wrap64 ((t173.length : Int) - 1)) then (if (wrap64 ((t173.length : Int) - 1)) < (t173.length : Int) then (laws_FnPolynomials.j0 k l1 t169 t173 t193 (!((FloatKind.f32.format.order ((rdOf c64z t173 (wrap64 ((t173.length : Int) - 1))).re) 1065353216 == some .eq) && (FloatKind.f32.format.order ((rdOf c64z t173 (wrap64 ((t173.length : Int) - 1))).im) 0 == some .eq)))) else (none)) else (none)) else (none)) else (none)) else (none)) else (none)) = some r := by rw [if_pos rfl] at H; exact H
            clear H
            have H := H1
            clear H1
            by_cases c29 : t190 = true
            · subst c29
              have H1 : (if t194 = true then (if (t173.length : Int) = (wrap64 ((t169.length : Int) + 1)) then (if (t193.length : Int) = (t173.length : Int) then (if 0 ≤ (wrap64 ((t173.length : Int) - 1)) then (if (wrap64 ((t173.length : Int) - 1)) < (t173.length : Int) then (laws_FnPolynomials.j0 k l1 t169 t173 t193 (!((FloatKind.f32.format.order ((rdOf c64z t173 (wrap64 ((t173.length : Int) - 1))).re) 1065353216 == some .eq) && (FloatKind.f32.format.order ((rdOf c64z t173 (wrap64 ((t173.length : Int) - 1))).im) 0 == some .eq)))) else (none)) else (none)) else (none)) else (none)) else (none)) = some r := by rw [if_pos rfl] at H; exact H
              clear H
              have H := H1
              clear H1
              by_cases c30 : t194 = true
              · subst c30
                have H1 : (if (t173.length : Int) = (wrap64 ((t169.length : Int) + 1)) then (if (t193.length : Int) = (t173.length : Int) then (if 0 ≤ (wrap64 ((t173.length : Int) - 1)) then (if (wrap64 ((t173.length : Int) - 1)) < (t173.length : Int) then (laws_FnPolynomials.j0 k l1 t169 t173 t193 (!((FloatKind.f32.format.order ((rdOf c64z t173 (wrap64 ((t173.length : Int) - 1))).re) 1065353216 == some .eq) && (FloatKind.f32.format.order ((rdOf c64z t173 (wrap64 ((t173.length : Int) - 1))).im) 0 == some .eq)))) else (none)) else (none)) else (none)) else (none)) = some r := by rw [if_pos rfl] at H; exact H
                clear H
                have H := H1
                clear H1
                by_cases c31 : (t173.length : Int) = (wrap64 ((t169.length : Int) + 1))
                · rw [if_pos c31] at H
                  have c31b0 : ((t173.length : Int) == (wrap64 ((t169.length : Int) + 1))) = true := beq_iff_eq.mpr c31
                  have c31b1 : ((t173.length : Int) != (wrap64 ((t169.length : Int) + 1))) = false := bne_eq_false_iff_eq.mpr c31
                  clear c31
                  (first | rw [c31b0] | (simp only [i64_w, i32_w]; rw [c31b0]) | skip)
                  by_cases c32 : (t193.length : Int) = (t173.length : Int)
                  · rw [if_pos c32] at H
                    have c32b0 : ((t193.length : Int) == (t173.length : Int)) = true := beq_iff_eq.mpr c32
                    have c32b1 : ((t193.length : Int) != (t173.length : Int)) = false := bne_eq_false_iff_eq.mpr c32
                    have c32b2 : (t193.length == t173.length) = true := by first | simpa using c32 | (simp at c32 ⊢; omega)
                    clear c32
                    obtain ⟨ji33, hji33⟩ : ∃ j_ : Int, (wrap64 ((t173.length : Int) - 1)) = j_ := ⟨_, rfl⟩
                    replace H : (if 0 ≤ (ji33) then (if (ji33) < (t173.length : Int) then (laws_FnPolynomials.j0 k l1 t169 t173 t193 (!((FloatKind.f32.format.order ((rdOf c64z t173 (ji33)).re) 1065353216 == some .eq) && (FloatKind.f32.format.order ((rdOf c64z t173 (ji33)).im) 0 == some .eq)))) else (none)) else (none)) = some r := by first | (rw [hji33] at H; exact H) | (simp only [hji33] at H ⊢; exact H)
                    have hji33w : (IntKind.i64.wrap ((t173.length : Int) - 1)) = ji33 := (i64_w _).trans hji33
                    by_cases c34 : 0 ≤ (ji33)
                    · rw [if_pos c34] at H
                      have c34b0 : decide (0 ≤ (ji33)) = true := decide_eq_true c34
                      clear c34
                      by_cases c35 : (ji33) < (t173.length : Int)
                      · rw [if_pos c35] at H
                        have c35b0 : decide ((ji33) < (t173.length : Int)) = true := decide_eq_true c35
                        clear c35
                        as_aux_lemma =>
                         have H' := Aside0.mk H
                         clear H
                         obtain ⟨Ao36, co36, eo36⟩ := Kd.R_slice HO176.out
                         subst eo36
                         obtain ⟨Ao37, co37, eo37⟩ := Kd.R_slice HO196.out
                         subst eo37
                         have p197 : 0 ≤ ((ji33) : Int) := of_decide_eq_true (by first | (with_reducible assumption) | assumption)
                         have q197 : (ji33) < (t173.length : Int) := of_decide_eq_true (by first | (with_reducible assumption) | assumption)
                         obtain ⟨ad197, e197, hx197_0⟩ := Kd.at_c64 (Kd.R_reads' HO176.out).2.2 (ji33) p197 q197
                         cases e197
                         replace p197 := eq_true p197
                         replace q197 := eq_true q197
                         go_wp2
                         repeat (go_quiet (fail); try go_wp2)
                         go_meet
                         case rel => exact ⟨_, (!((FloatKind.f32.format.order ((rdOf c64z t173 (ji33)).re) 1065353216 == some .eq) && (FloatKind.f32.format.order ((rdOf c64z t173 (ji33)).im) 0 == some .eq))), (by first | rfl | (simp; done) | (simp only [← hji33] <;> (first | rfl | simp)) | (simp [*]; done)), H', ⟨by first | omega | exact Nat.le_refl _⟩, ⟨by (with_reducible repeat (first | apply Kd.R_alloc | apply Kd.R_drewN | apply Kd.R_drew)); exact Kd.R_mono HO171.out (fun _ hk => ⟨hk.1.1.1.2, hk.2⟩)⟩, ⟨by (with_reducible repeat (first | apply Kd.R_alloc | apply Kd.R_drewN | apply Kd.R_drew)); exact Kd.R_mono HO176.out (fun _ hk => ⟨hk.1.1.1.2, hk.2⟩)⟩, ⟨by (with_reducible repeat (first | apply Kd.R_alloc | apply Kd.R_drewN | apply Kd.R_drew)); exact Kd.R_mono HO196.out (fun _ hk => ⟨hk.1.1.1.2, hk.1.1.2⟩)⟩, ⟨by repeat (first | (with_reducible first | exact HB.out | apply below_alloc | apply pw_below_drewN | apply below_drew1) | exact HB.out)⟩⟩
                      · rw [if_neg c35] at H
                        exact absurd H (by simp)
                    · rw [if_neg c34] at H
                      exact absurd H (by simp)
                  · rw [if_neg c32] at H
                    exact absurd H (by simp)
                · rw [if_neg c31] at H
                  exact absurd H (by simp)
              · replace c30 := Bool.eq_false_iff.mpr c30
                subst c30
                have H1 : (none) = some r := by rw [if_neg (show ¬ (false = true) by decide)] at H; exact H
                clear H
                have H := H1
                clear H1
                exact absurd H (by simp)
            · replace c29 := Bool.eq_false_iff.mpr c29
              subst c29
              have H1 : (none) = some r := by rw [if_neg (show ¬ (false = true) by decide)] at H; exact H
              clear H
              have H := H1
              clear H1
              exact absurd H (by simp)
          · replace c28 := Bool.eq_false_iff.mpr c28
            subst c28
            have H1 : (none) = some r := by rw [if_neg (show ¬ (false = true) by decide)] at H; exact H
            clear H
            have H := H1
            clear H1
            exact absurd H (by simp)
        · replace c27 := Bool.eq_false_iff.mpr c27
          subst c27
          have H1 : (none) = some r := by rw [if_neg (show ¬ (false = true) by decide)] at H; exact H
          clear H
          have H := H1
          clear H1
          exact absurd H (by simp)
       case rest =>
        clear HC16
        (try clear c1); (try clear p1); (try clear q1); (try clear hx1); (try clear c2); (try clear p2); (try clear q2); (try clear c3); (try clear c4); (try clear c6); (try clear p6); (try clear c9); (try clear c9b0); (try clear c9b1); (try clear c10); (try clear c10b0); (try clear c10b1); (try clear c12); (try clear c12b0); (try clear c13); (try clear c13b0); (try clear p19); (try clear q19); (try clear hx19); (try clear q20); (try clear c22); (try clear q22); (try clear c27); (try clear c28); (try clear c29); (try clear c30); (try clear c31); (try clear c31b0); (try clear c31b1); (try clear c32); (try clear c32b0); (try clear c32b1); (try clear c32b2); (try clear c34); (try clear c34b0); (try clear c35); (try clear c35b0); (try clear hx197_0); (try clear p197); (try clear q022); (try clear q197); (try clear q20); (try clear q22)
        obtain ⟨kq, x98_15, rfl, HA, HJ15, HO_5, HO_7, HO_13, HB⟩ := hcut
        cases kq with
        | zero => exact absurd HA.out (by simp [laws_FnPolynomials.j0])
        | succ kj15 =>
         have H := HA.out
         clear HA
         simp only [laws_FnPolynomials.j0] at H
         by_cases c38 : x98_15 = true
         · subst c38
           have H1 : (none) = some r := by rw [if_pos rfl] at H; exact H
           clear H
           have H := H1
           clear H1
           exact absurd H (by simp)
         · replace c38 := Bool.eq_false_iff.mpr c38
           subst c38
           have H1 : (laws_FnPolynomials.l0 kj15 l1 t169 t173 t193 0) = some r := by rw [if_neg (show ¬ (false = true) by decide)] at H; exact H
           clear H
           have H := H1
           clear H1
           have H' := Aside0.mk H
           clear H
           go_wp2
           repeat (go_quiet (fail); try go_wp2)
           go_loopg [15] kj15 (fun kq v15 w' => ∃ (x15_2 : Int), v15 = .int .i64 x15_2 ∧ Aside0 (laws_FnPolynomials.l0 kq l1 t169 t173 t193 x15_2 = some r) ∧ Aside0 (kq ≤ kj15) ∧ Aside0 (Kd.R Kd.c64 30 w' w.heap.size (fun k_ => some k_ ≠ (v175 : Value).ownBlock ∧ some k_ ≠ (v195 : Value).ownBlock) (.slice Ao18 t169.length co18) t169) ∧ Aside0 (Kd.R Kd.c64 30 w' w.heap.size (fun k_ => some k_ ≠ ((.slice Ao18 t169.length co18) : Value).ownBlock ∧ some k_ ≠ (v195 : Value).ownBlock) v175 t173) ∧ Aside0 (Kd.R Kd.c64 30 w' w.heap.size (fun k_ => some k_ ≠ ((.slice Ao18 t169.length co18) : Value).ownBlock ∧ some k_ ≠ (v175 : Value).ownBlock) v195 t193) ∧ Aside0 (Below w.heap.size w w'))
           case atStart => exact ⟨(0), (by first | rfl | (simp; done) | (simp [*]; done)), H', ⟨Nat.le_refl _⟩, ⟨by (with_reducible repeat (first | apply Kd.R_alloc | apply Kd.R_drewN | apply Kd.R_drew)); exact HO_5.out⟩, ⟨by (with_reducible repeat (first | apply Kd.R_alloc | apply Kd.R_drewN | apply Kd.R_drew)); exact HO_7.out⟩, ⟨by (with_reducible repeat (first | apply Kd.R_alloc | apply Kd.R_drewN | apply Kd.R_drew)); exact HO_13.out⟩, ⟨by repeat (first | (with_reducible first | exact HB.out | apply below_alloc | apply pw_below_drewN | apply below_drew1) | exact HB.out)⟩⟩
           case round =>
            clear H'
            (try clear c1); (try clear p1); (try clear q1); (try clear hx1); (try clear c2); (try clear p2); (try clear q2); (try clear c3); (try clear c4); (try clear c6); (try clear p6); (try clear c9); (try clear c9b0); (try clear c9b1); (try clear c10); (try clear c10b0); (try clear c10b1); (try clear c12); (try clear c12b0); (try clear c13); (try clear c13b0); (try clear p19); (try clear q19); (try clear hx19); (try clear q20); (try clear c22); (try clear q22); (try clear c27); (try clear c28); (try clear c29); (try clear c30); (try clear c31); (try clear c31b0); (try clear c31b1); (try clear c32); (try clear c32b0); (try clear c32b1); (try clear c32b2); (try clear c34); (try clear c34b0); (try clear c35); (try clear c35b0); (try clear c38); (try clear hx197_0); (try clear p1); (try clear p19); (try clear p197); (try clear p2); (try clear p6); (try clear q022); (try clear q1); (try clear q19); (try clear q197); (try clear q2); (try clear q20); (try clear q22)
            obtain ⟨x15_2, rfl, HA, HK2, HO_5, HO_7, HO_13, HB⟩ := hrel
            cases gk with
            | zero => exact absurd HA.out (by simp [laws_FnPolynomials.l0])
            | succ k2 =>
             have H := HA.out
             clear HA
             simp only [laws_FnPolynomials.l0] at H
             by_cases c39 : x15_2 < (t173.length : Int)
             · rw [if_pos c39] at H
               have c39b0 : decide (x15_2 < (t173.length : Int)) = true := decide_eq_true c39
               clear c39
               by_cases c40 : 0 ≤ x15_2
               · rw [if_pos c40] at H
                 have c40b0 : decide (0 ≤ x15_2) = true := decide_eq_true c40
                 clear c40
                 by_cases c41 : x15_2 < (t193.length : Int)
                 · rw [if_pos c41] at H
                   have c41b0 : decide (x15_2 < (t193.length : Int)) = true := decide_eq_true c41
                   clear c41
                   by_cases c42 : ((FloatKind.f32.format.order ((rdOf c64z t173 x15_2).re) ((rdOf c64z t193 x15_2).re) == some .eq) && (FloatKind.f32.format.order ((rdOf c64z t173 x15_2).im) ((rdOf c64z t193 x15_2).im) == some .eq)) = true
                   · rw [if_pos c42] at H
                     have c42b0 : ((FloatKind.f32.format.order ((rdOf c64z t173 x15_2).re) ((rdOf c64z t193 x15_2).re) == some .eq) && (FloatKind.f32.format.order ((rdOf c64z t173 x15_2).im) ((rdOf c64z t193 x15_2).im) == some .eq)) = true := c42
                     clear c42
                     as_aux_lemma =>
                      have H' := Aside0.mk H
                      clear H
                      obtain ⟨Ao43, co43, eo43⟩ := Kd.R_slice HO_7.out
                      subst eo43
                      have p198 : 0 ≤ (x15_2 : Int) := of_decide_eq_true (by first | (with_reducible assumption) | assumption)
                      have q198 : x15_2 < (t173.length : Int) := of_decide_eq_true (by first | (with_reducible assumption) | assumption)
                      obtain ⟨ad198, e198, hx198_0⟩ := Kd.at_c64 (Kd.R_reads' HO_7.out).2.2 x15_2 p198 q198
                      cases e198
                      replace p198 := eq_true p198
                      replace q198 := eq_true q198
                      obtain ⟨Ao44, co44, eo44⟩ := Kd.R_slice HO_13.out
                      subst eo44
                      have p199 : 0 ≤ (x15_2 : Int) := of_decide_eq_true (by first | (with_reducible assumption) | assumption)
                      have q199 : x15_2 < (t193.length : Int) := of_decide_eq_true (by first | (with_reducible assumption) | assumption)
                      obtain ⟨ad199, e199, hx199_0⟩ := Kd.at_c64 (Kd.R_reads' HO_13.out).2.2 x15_2 p199 q199
                      cases e199
                      replace p199 := eq_true p199
                      replace q199 := eq_true q199
                      go_wp2
                      repeat (go_quiet (fail); try go_wp2)
                      go_roundg k2
                      case measure => have := HJ15.out; have := HK2.out; omega
                      case rel => exact ⟨(wrap64 (x15_2 + 1)), (by first | rfl | (simp; done) | (simp [*]; done)), H', ⟨by have := HJ15.out; have := HK2.out; omega⟩, ⟨by (with_reducible repeat (first | apply Kd.R_alloc | apply Kd.R_drewN | apply Kd.R_drew)); exact HO_5.out⟩, ⟨by (with_reducible repeat (first | apply Kd.R_alloc | apply Kd.R_drewN | apply Kd.R_drew)); exact HO_7.out⟩, ⟨by (with_reducible repeat (first | apply Kd.R_alloc | apply Kd.R_drewN | apply Kd.R_drew)); exact HO_13.out⟩, ⟨by repeat (first | (with_reducible first | exact HB.out | apply below_alloc | apply pw_below_drewN | apply below_drew1) | exact HB.out)⟩⟩
                   · rw [if_neg c42] at H
                     exact absurd H (by simp)
                 · rw [if_neg c41] at H
                   exact absurd H (by simp)
               · rw [if_neg c40] at H
                 exact absurd H (by simp)
             · rw [if_neg c39] at H
               have c39b0 : decide (x15_2 < (t173.length : Int)) = false := decide_eq_false c39
               clear c39
               have H' := Aside0.mk H
               clear H
               obtain ⟨Ao45, co45, eo45⟩ := Kd.R_slice HO_7.out
               subst eo45
               go_wp2
               repeat (go_quiet (fail); try go_wp2)
               go_loopg [16] k2 (fun kq v16 w' => ∃ (x16_3 : Int), v16 = .int .i64 x16_3 ∧ Aside0 (laws_FnPolynomials.l1 kq l1 t169 t173 x16_3 = some r) ∧ Aside0 (kq ≤ k2) ∧ Aside0 (Kd.R Kd.c64 30 w' w.heap.size (fun k_ => some k_ ≠ ((.slice Ao45 t173.length co45) : Value).ownBlock) (.slice Ao18 t169.length co18) t169) ∧ Aside0 (Kd.R Kd.c64 30 w' w.heap.size (fun k_ => some k_ ≠ ((.slice Ao18 t169.length co18) : Value).ownBlock) (.slice Ao45 t173.length co45) t173) ∧ Aside0 (Below w.heap.size w w'))
               case atStart => exact ⟨(0), (by first | rfl | (simp; done) | (simp [*]; done)), H', ⟨Nat.le_refl _⟩, ⟨by (with_reducible repeat (first | apply Kd.R_alloc | apply Kd.R_drewN | apply Kd.R_drew)); exact Kd.R_mono HO_5.out (fun _ hk => hk.1)⟩, ⟨by (with_reducible repeat (first | apply Kd.R_alloc | apply Kd.R_drewN | apply Kd.R_drew)); exact Kd.R_mono HO_7.out (fun _ hk => hk.1)⟩, ⟨by repeat (first | (with_reducible first | exact HB.out | apply below_alloc | apply pw_below_drewN | apply below_drew1) | exact HB.out)⟩⟩
               case round =>
                clear H'
                (try clear c1); (try clear p1); (try clear q1); (try clear hx1); (try clear c2); (try clear p2); (try clear q2); (try clear c3); (try clear c4); (try clear c6); (try clear p6); (try clear c9); (try clear c9b0); (try clear c9b1); (try clear c10); (try clear c10b0); (try clear c10b1); (try clear c12); (try clear c12b0); (try clear c13); (try clear c13b0); (try clear p19); (try clear q19); (try clear hx19); (try clear q20); (try clear c22); (try clear q22); (try clear c27); (try clear c28); (try clear c29); (try clear c30); (try clear c31); (try clear c31b0); (try clear c31b1); (try clear c32); (try clear c32b0); (try clear c32b1); (try clear c32b2); (try clear c34); (try clear c34b0); (try clear c35); (try clear c35b0); (try clear c38); (try clear c39); (try clear c39b0); (try clear c40); (try clear c40b0); (try clear c41); (try clear c41b0); (try clear c42); (try clear c42b0); (try clear hx197_0); (try clear hx198_0); (try clear hx199_0); (try clear p1); (try clear p19); (try clear p197); (try clear p198); (try clear p199); (try clear p2); (try clear p6); (try clear q022); (try clear q1); (try clear q19); (try clear q197); (try clear q198); (try clear q199); (try clear q2); (try clear q20); (try clear q22)
                obtain ⟨x16_3, rfl, HA, HK3, HO_5, HO_7, HB⟩ := hrel
                cases gk with
                | zero => exact absurd HA.out (by simp [laws_FnPolynomials.l1])
                | succ k3 =>
                 have H := HA.out
                 clear HA
                 simp only [laws_FnPolynomials.l1] at H
                 by_cases c46 : x16_3 < (t169.length : Int)
                 · rw [if_pos c46] at H
                   have c46b0 : decide (x16_3 < (t169.length : Int)) = true := decide_eq_true c46
                   clear c46
                   by_cases c47 : 0 ≤ x16_3
                   · rw [if_pos c47] at H
                     have c47b0 : decide (0 ≤ x16_3) = true := decide_eq_true c47
                     clear c47
                     replace H := Option.bind_eq_some_iff.mp H
                     obtain ⟨⟨t201, t202⟩, A480, H⟩ := H
                     replace H : (if t202 = true then (if ((FloatKind.f32.format.order t201.re 0 == some .eq) && (FloatKind.f32.format.order t201.im 0 == some .eq)) = true then (laws_FnPolynomials.l1 k3 l1 t169 t173 (wrap64 (x16_3 + 1))) else (none)) else (none)) = some r := H
                     have A48 := Aside0.mk A480
                     clear A480
                     by_cases c49 : t202 = true
                     · subst c49
                       have H1 : (if ((FloatKind.f32.format.order t201.re 0 == some .eq) && (FloatKind.f32.format.order t201.im 0 == some .eq)) = true then (laws_FnPolynomials.l1 k3 l1 t169 t173 (wrap64 (x16_3 + 1))) else (none)) = some r := by rw [if_pos rfl] at H; exact H
                       clear H
                       have H := H1
                       clear H1
                       by_cases c50 : ((FloatKind.f32.format.order t201.re 0 == some .eq) && (FloatKind.f32.format.order t201.im 0 == some .eq)) = true
                       · rw [if_pos c50] at H
                         have c50b0 : ((FloatKind.f32.format.order t201.re 0 == some .eq) && (FloatKind.f32.format.order t201.im 0 == some .eq)) = true := c50
                         clear c50
                         as_aux_lemma =>
                          have H' := Aside0.mk H
                          clear H
                          have p200 : 0 ≤ (x16_3 : Int) := of_decide_eq_true (by first | (with_reducible assumption) | assumption)
                          have q200 : x16_3 < (t169.length : Int) := of_decide_eq_true (by first | (with_reducible assumption) | assumption)
                          obtain ⟨ad200, e200, hx200_0⟩ := Kd.at_c64 (Kd.R_reads' HO_5.out).2.2 x16_3 p200 q200
                          cases e200
                          replace p200 := eq_true p200
                          replace q200 := eq_true q200
                          go_wp2_with (first | (go_at_call 11; (with_reducible refine (impl_ValueAt.calls k3 _ _ t173 (rdOf c64z t169 x16_3) t201 true _ ?side1 ?side2 A48.out).mono ?_); (case side1 => repeat (first | exact (Kd.R_reads' HO_7.out).2.2 | (with_reducible refine Kd.C_alloc ?_ _) | (with_reducible refine Kd.C_drewN ?_ _) | (with_reducible refine Kd.C_drew ?_))); (case side2 => exact (Kd.R_reads' HO_7.out).2.1); rintro e w51 ⟨rfl, hb⟩; have n0_ := Aside0.mk (Kd.R_below (by (with_reducible repeat (first | apply Kd.R_alloc | apply Kd.R_drewN | apply Kd.R_drew)); exact HO_5.out) hb); have n1_ := Aside0.mk (Kd.R_below (by (with_reducible repeat (first | apply Kd.R_alloc | apply Kd.R_drewN | apply Kd.R_drew)); exact HO_7.out) hb); have n2_ := Aside0.mk (below_step (by repeat (first | (with_reducible first | exact HB.out | apply below_alloc | apply pw_below_drewN | apply below_drew1) | exact HB.out)) hb); clear HO_5; clear HO_7; clear HB; have HO_5 := n0_; have HO_7 := n1_; have HB := n2_; clear n0_ n1_ n2_; (try clear hb); (try clear hb2); (try clear hk); (try clear hi)))
                          repeat (go_quiet (first | (go_at_call 11; (with_reducible refine (impl_ValueAt.calls k3 _ _ t173 (rdOf c64z t169 x16_3) t201 true _ ?side1 ?side2 A48.out).mono ?_); (case side1 => repeat (first | exact (Kd.R_reads' HO_7.out).2.2 | (with_reducible refine Kd.C_alloc ?_ _) | (with_reducible refine Kd.C_drewN ?_ _) | (with_reducible refine Kd.C_drew ?_))); (case side2 => exact (Kd.R_reads' HO_7.out).2.1); rintro e w51 ⟨rfl, hb⟩; have n0_ := Aside0.mk (Kd.R_below (by (with_reducible repeat (first | apply Kd.R_alloc | apply Kd.R_drewN | apply Kd.R_drew)); exact HO_5.out) hb); have n1_ := Aside0.mk (Kd.R_below (by (with_reducible repeat (first | apply Kd.R_alloc | apply Kd.R_drewN | apply Kd.R_drew)); exact HO_7.out) hb); have n2_ := Aside0.mk (below_step (by repeat (first | (with_reducible first | exact HB.out | apply below_alloc | apply pw_below_drewN | apply below_drew1) | exact HB.out)) hb); clear HO_5; clear HO_7; clear HB; have HO_5 := n0_; have HO_7 := n1_; have HB := n2_; clear n0_ n1_ n2_; (try clear hb); (try clear hb2); (try clear hk); (try clear hi))); try go_wp2_with (first | (go_at_call 11; (with_reducible refine (impl_ValueAt.calls k3 _ _ t173 (rdOf c64z t169 x16_3) t201 true _ ?side1 ?side2 A48.out).mono ?_); (case side1 => repeat (first | exact (Kd.R_reads' HO_7.out).2.2 | (with_reducible refine Kd.C_alloc ?_ _) | (with_reducible refine Kd.C_drewN ?_ _) | (with_reducible refine Kd.C_drew ?_))); (case side2 => exact (Kd.R_reads' HO_7.out).2.1); rintro e w51 ⟨rfl, hb⟩; have n0_ := Aside0.mk (Kd.R_below (by (with_reducible repeat (first | apply Kd.R_alloc | apply Kd.R_drewN | apply Kd.R_drew)); exact HO_5.out) hb); have n1_ := Aside0.mk (Kd.R_below (by (with_reducible repeat (first | apply Kd.R_alloc | apply Kd.R_drewN | apply Kd.R_drew)); exact HO_7.out) hb); have n2_ := Aside0.mk (below_step (by repeat (first | (with_reducible first | exact HB.out | apply below_alloc | apply pw_below_drewN | apply below_drew1) | exact HB.out)) hb); clear HO_5; clear HO_7; clear HB; have HO_5 := n0_; have HO_7 := n1_; have HB := n2_; clear n0_ n1_ n2_; (try clear hb); (try clear hb2); (try clear hk); (try clear hi))))
                          go_roundg k3
                          case measure => have := HJ15.out; have := HK2.out; have := HK3.out; omega
                          case rel => exact ⟨(wrap64 (x16_3 + 1)), (by first | rfl | (simp; done) | (simp [*]; done)), H', ⟨by have := HJ15.out; have := HK2.out; have := HK3.out; omega⟩, ⟨by (with_reducible repeat (first | apply Kd.R_alloc | apply Kd.R_drewN | apply Kd.R_drew)); exact HO_5.out⟩, ⟨by (with_reducible repeat (first | apply Kd.R_alloc | apply Kd.R_drewN | apply Kd.R_drew)); exact HO_7.out⟩, ⟨by repeat (first | (with_reducible first | exact HB.out | apply below_alloc | apply pw_below_drewN | apply below_drew1) | exact HB.out)⟩⟩
                       · rw [if_neg c50] at H
                         exact absurd H (by simp)
                     · replace c49 := Bool.eq_false_iff.mpr c49
                       subst c49
                       have H1 : (none) = some r := by rw [if_neg (show ¬ (false = true) by decide)] at H; exact H
                       clear H
                       have H := H1
                       clear H1
                       exact absurd H (by simp)
                   · rw [if_neg c47] at H
                     exact absurd H (by simp)
                 · rw [if_neg c46] at H
                   have c46b0 : decide (x16_3 < (t169.length : Int)) = false := decide_eq_false c46
                   clear c46
                   replace H := Option.bind_eq_some_iff.mp H
                   obtain ⟨t203, A520, H⟩ := H
                   replace H : (if 0 < (t203.length : Int) then ((impl_ValueAt.f k3 t173 (rdOf c64z t203 0)).bind fun bt207 => (laws_FnPolynomials.l2 k3 t169 (rdOf c64z t203 0) bt207.1 bt207.2 (⟨1065353216, 0⟩ : C64) 0)) else (none)) = some r := H
                   have A52 := Aside0.mk A520
                   clear A520
                   by_cases c53 : 0 < (t203.length : Int)
                   · rw [if_pos c53] at H
                     have c53b0 : decide (0 < (t203.length : Int)) = true := decide_eq_true c53
                     have c53b1 : decide (0 < t203.length) = true := decide_eq_true (by omega)
                     clear c53
                     replace H := Option.bind_eq_some_iff.mp H
                     obtain ⟨⟨t207, t208⟩, A540, H⟩ := H
                     replace H : (laws_FnPolynomials.l2 k3 t169 (rdOf c64z t203 0) t207 t208 (⟨1065353216, 0⟩ : C64) 0) = some r := H
                     have A54 := Aside0.mk A540
                     clear A540
                     have H' := Aside0.mk H
                     clear H
                     go_wp2_with (first | (go_at_call 7; (with_reducible refine (spec_R8Whole.calls k3 _ _ l1 1 t203 _ ?side1 ?side2 A52.out).mono ?_); (case side1 => repeat (first | exact (Kd.C_below HR1.out HB.out) | (with_reducible refine Kd.C_alloc ?_ _) | (with_reducible refine Kd.C_drewN ?_ _) | (with_reducible refine Kd.C_drew ?_))); (case side2 => exact HC1.out); rintro e w55 ⟨v204, rfl, ho0, hb⟩; have n0_ := Aside0.mk (Kd.R_elder' (by (with_reducible repeat (first | apply Kd.R_alloc | apply Kd.R_drewN | apply Kd.R_drew)); exact HO_5.out) (Kd.R_base ho0) hb); have n1_ := Aside0.mk (Kd.R_elder' (by (with_reducible repeat (first | apply Kd.R_alloc | apply Kd.R_drewN | apply Kd.R_drew)); exact HO_7.out) (Kd.R_base ho0) hb); have n2_ := Aside0.mk (Kd.R_lower (Kd.R_new' (Kd.R_new' ho0 (Kd.R_lt (by (with_reducible repeat (first | apply Kd.R_alloc | apply Kd.R_drewN | apply Kd.R_drew)); exact HO_5.out))) (Kd.R_lt (by (with_reducible repeat (first | apply Kd.R_alloc | apply Kd.R_drewN | apply Kd.R_drew)); exact HO_7.out))) (below_size (by repeat (first | (with_reducible first | exact HB.out | apply below_alloc | apply pw_below_drewN | apply below_drew1) | exact HB.out)))); have n3_ := Aside0.mk (below_step (by repeat (first | (with_reducible first | exact HB.out | apply below_alloc | apply pw_below_drewN | apply below_drew1) | exact HB.out)) hb); clear HO_5; clear HO_7; clear HB; have HO_5 := n0_; have HO_7 := n1_; have HO205 := n2_; have HB := n3_; clear n0_ n1_ n2_ n3_; (try clear hb); (try clear hb2); (try clear hk); (try clear hi); (try clear ho0); obtain ⟨Ao56, co56, eo56⟩ := Kd.R_slice HO205.out; subst eo56; have p206 : 0 ≤ (0 : Int) := (by omega); have q206 : 0 < (t203.length : Int) := of_decide_eq_true (by first | (with_reducible assumption) | assumption); obtain ⟨ad206, e206, hx206_0⟩ := Kd.at_c64 (Kd.R_reads' HO205.out).2.2 0 p206 q206; cases e206; have qi206 : (0 < t203.length) = True := eq_true (by omega); (try rw [show ((0 : Int)).toNat = 0 from rfl] at hx206_0); (try rw [Addr.add_zero'] at hx206_0); replace p206 := eq_true p206; replace q206 := eq_true q206) | (go_at_call 11; (with_reducible refine (impl_ValueAt.calls k3 _ _ t173 (rdOf c64z t203 0) t207 t208 _ ?side1 ?side2 A54.out).mono ?_); (case side1 => repeat (first | exact (Kd.R_reads' HO_7.out).2.2 | (with_reducible refine Kd.C_alloc ?_ _) | (with_reducible refine Kd.C_drewN ?_ _) | (with_reducible refine Kd.C_drew ?_))); (case side2 => exact (Kd.R_reads' HO_7.out).2.1); rintro e w57 ⟨rfl, hb⟩; have n0_ := Aside0.mk (Kd.R_below (by (with_reducible repeat (first | apply Kd.R_alloc | apply Kd.R_drewN | apply Kd.R_drew)); exact HO_5.out) hb); have n1_ := Aside0.mk (Kd.R_below (by (with_reducible repeat (first | apply Kd.R_alloc | apply Kd.R_drewN | apply Kd.R_drew)); exact HO_7.out) hb); have n2_ := Aside0.mk (Kd.R_below (by (with_reducible repeat (first | apply Kd.R_alloc | apply Kd.R_drewN | apply Kd.R_drew)); exact HO205.out) hb); have n3_ := Aside0.mk (below_step (by repeat (first | (with_reducible first | exact HB.out | apply below_alloc | apply pw_below_drewN | apply below_drew1) | exact HB.out)) hb); clear HO_5; clear HO_7; clear HO205; clear HB; have HO_5 := n0_; have HO_7 := n1_; have HO205 := n2_; have HB := n3_; clear n0_ n1_ n2_ n3_; (try clear hb); (try clear hb2); (try clear hk); (try clear hi)))
                     repeat (go_quiet (first | (go_at_call 7; (with_reducible refine (spec_R8Whole.calls k3 _ _ l1 1 t203 _ ?side1 ?side2 A52.out).mono ?_); (case side1 => repeat (first | exact (Kd.C_below HR1.out HB.out) | (with_reducible refine Kd.C_alloc ?_ _) | (with_reducible refine Kd.C_drewN ?_ _) | (with_reducible refine Kd.C_drew ?_))); (case side2 => exact HC1.out); rintro e w55 ⟨v204, rfl, ho0, hb⟩; have n0_ := Aside0.mk (Kd.R_elder' (by (with_reducible repeat (first | apply Kd.R_alloc | apply Kd.R_drewN | apply Kd.R_drew)); exact HO_5.out) (Kd.R_base ho0) hb); have n1_ := Aside0.mk (Kd.R_elder' (by (with_reducible repeat (first | apply Kd.R_alloc | apply Kd.R_drewN | apply Kd.R_drew)); exact HO_7.out) (Kd.R_base ho0) hb); have n2_ := Aside0.mk (Kd.R_lower (Kd.R_new' (Kd.R_new' ho0 (Kd.R_lt (by (with_reducible repeat (first | apply Kd.R_alloc | apply Kd.R_drewN | apply Kd.R_drew)); exact HO_5.out))) (Kd.R_lt (by (with_reducible repeat (first | apply Kd.R_alloc | apply Kd.R_drewN | apply Kd.R_drew)); exact HO_7.out))) (below_size (by repeat (first | (with_reducible first | exact HB.out | apply below_alloc | apply pw_below_drewN | apply below_drew1) | exact HB.out)))); have n3_ := Aside0.mk (below_step (by repeat (first | (with_reducible first | exact HB.out | apply below_alloc | apply pw_below_drewN | apply below_drew1) | exact HB.out)) hb); clear HO_5; clear HO_7; clear HB; have HO_5 := n0_; have HO_7 := n1_; have HO205 := n2_; have HB := n3_; clear n0_ n1_ n2_ n3_; (try clear hb); (try clear hb2); (try clear hk); (try clear hi); (try clear ho0); obtain ⟨Ao56, co56, eo56⟩ := Kd.R_slice HO205.out; subst eo56; have p206 : 0 ≤ (0 : Int) := (by omega); have q206 : 0 < (t203.length : Int) := of_decide_eq_true (by first | (with_reducible assumption) | assumption); obtain ⟨ad206, e206, hx206_0⟩ := Kd.at_c64 (Kd.R_reads' HO205.out).2.2 0 p206 q206; cases e206; have qi206 : (0 < t203.length) = True := eq_true (by omega); (try rw [show ((0 : Int)).toNat = 0 from rfl] at hx206_0); (try rw [Addr.add_zero'] at hx206_0); replace p206 := eq_true p206; replace q206 := eq_true q206) | (go_at_call 11; (with_reducible refine (impl_ValueAt.calls k3 _ _ t173 (rdOf c64z t203 0) t207 t208 _ ?side1 ?side2 A54.out).mono ?_); (case side1 => repeat (first | exact (Kd.R_reads' HO_7.out).2.2 | (with_reducible refine Kd.C_alloc ?_ _) | (with_reducible refine Kd.C_drewN ?_ _) | (with_reducible refine Kd.C_drew ?_))); (case side2 => exact (Kd.R_reads' HO_7.out).2.1); rintro e w57 ⟨rfl, hb⟩; have n0_ := Aside0.mk (Kd.R_below (by (with_reducible repeat (first | apply Kd.R_alloc | apply Kd.R_drewN | apply Kd.R_drew)); exact HO_5.out) hb); have n1_ := Aside0.mk (Kd.R_below (by (with_reducible repeat (first | apply Kd.R_alloc | apply Kd.R_drewN | apply Kd.R_drew)); exact HO_7.out) hb); have n2_ := Aside0.mk (Kd.R_below (by (with_reducible repeat (first | apply Kd.R_alloc | apply Kd.R_drewN | apply Kd.R_drew)); exact HO205.out) hb); have n3_ := Aside0.mk (below_step (by repeat (first | (with_reducible first | exact HB.out | apply below_alloc | apply pw_below_drewN | apply below_drew1) | exact HB.out)) hb); clear HO_5; clear HO_7; clear HO205; clear HB; have HO_5 := n0_; have HO_7 := n1_; have HO205 := n2_; have HB := n3_; clear n0_ n1_ n2_ n3_; (try clear hb); (try clear hb2); (try clear hk); (try clear hi))); try go_wp2_with (first | (go_at_call 7; (with_reducible refine (spec_R8Whole.calls k3 _ _ l1 1 t203 _ ?side1 ?side2 A52.out).mono ?_); (case side1 => repeat (first | exact (Kd.C_below HR1.out HB.out) | (with_reducible refine Kd.C_alloc ?_ _) | (with_reducible refine Kd.C_drewN ?_ _) | (with_reducible refine Kd.C_drew ?_))); (case side2 => exact HC1.out); rintro e w55 ⟨v204, rfl, ho0, hb⟩; have n0_ := Aside0.mk (Kd.R_elder' (by (with_reducible repeat (first | apply Kd.R_alloc | apply Kd.R_drewN | apply Kd.R_drew)); exact HO_5.out) (Kd.R_base ho0) hb); have n1_ := Aside0.mk (Kd.R_elder' (by (with_reducible repeat (first | apply Kd.R_alloc | apply Kd.R_drewN | apply Kd.R_drew)); exact HO_7.out) (Kd.R_base ho0) hb); have n2_ := Aside0.mk (Kd.R_lower (Kd.R_new' (Kd.R_new' ho0 (Kd.R_lt (by (with_reducible repeat (first | apply Kd.R_alloc | apply Kd.R_drewN | apply Kd.R_drew)); exact HO_5.out))) (Kd.R_lt (by (with_reducible repeat (first | apply Kd.R_alloc | apply Kd.R_drewN | apply Kd.R_drew)); exact HO_7.out))) (below_size (by repeat (first | (with_reducible first | exact HB.out | apply below_alloc | apply pw_below_drewN | apply below_drew1) | exact HB.out)))); have n3_ := Aside0.mk (below_step (by repeat (first | (with_reducible first | exact HB.out | apply below_alloc | apply pw_below_drewN | apply below_drew1) | exact HB.out)) hb); clear HO_5; clear HO_7; clear HB; have HO_5 := n0_; have HO_7 := n1_; have HO205 := n2_; have HB := n3_; clear n0_ n1_ n2_ n3_; (try clear hb); (try clear hb2); (try clear hk); (try clear hi); (try clear ho0); obtain ⟨Ao56, co56, eo56⟩ := Kd.R_slice HO205.out; subst eo56; have p206 : 0 ≤ (0 : Int) := (by omega); have q206 : 0 < (t203.length : Int) := of_decide_eq_true (by first | (with_reducible assumption) | assumption); obtain ⟨ad206, e206, hx206_0⟩ := Kd.at_c64 (Kd.R_reads' HO205.out).2.2 0 p206 q206; cases e206; have qi206 : (0 < t203.length) = True := eq_true (by omega); (try rw [show ((0 : Int)).toNat = 0 from rfl] at hx206_0); (try rw [Addr.add_zero'] at hx206_0); replace p206 := eq_true p206; replace q206 := eq_true q206) | (go_at_call 11; (with_reducible refine (impl_ValueAt.calls k3 _ _ t173 (rdOf c64z t203 0) t207 t208 _ ?side1 ?side2 A54.out).mono ?_); (case side1 => repeat (first | exact (Kd.R_reads' HO_7.out).2.2 | (with_reducible refine Kd.C_alloc ?_ _) | (with_reducible refine Kd.C_drewN ?_ _) | (with_reducible refine Kd.C_drew ?_))); (case side2 => exact (Kd.R_reads' HO_7.out).2.1); rintro e w57 ⟨rfl, hb⟩; have n0_ := Aside0.mk (Kd.R_below (by (with_reducible repeat (first | apply Kd.R_alloc | apply Kd.R_drewN | apply Kd.R_drew)); exact HO_5.out) hb); have n1_ := Aside0.mk (Kd.R_below (by (with_reducible repeat (first | apply Kd.R_alloc | apply Kd.R_drewN | apply Kd.R_drew)); exact HO_7.out) hb); have n2_ := Aside0.mk (Kd.R_below (by (with_reducible repeat (first | apply Kd.R_alloc | apply Kd.R_drewN | apply Kd.R_drew)); exact HO205.out) hb); have n3_ := Aside0.mk (below_step (by repeat (first | (with_reducible first | exact HB.out | apply below_alloc | apply pw_below_drewN | apply below_drew1) | exact HB.out)) hb); clear HO_5; clear HO_7; clear HO205; clear HB; have HO_5 := n0_; have HO_7 := n1_; have HO205 := n2_; have HB := n3_; clear n0_ n1_ n2_ n3_; (try clear hb); (try clear hb2); (try clear hk); (try clear hi))))
                     go_loopg [22, 23] k3 (fun kq v22 v23 w' => ∃ (x22_4 : C64) (x23_4 : Int), v22 = .complex .f32 x22_4.re x22_4.im ∧ v23 = .int .i64 x23_4 ∧ Aside0 (laws_FnPolynomials.l2 kq t169 (rdOf c64z t203 0) t207 t208 x22_4 x23_4 = some r) ∧ Aside0 (kq ≤ k3) ∧ Aside0 (Kd.R Kd.c64 30 w' w.heap.size (fun _ => True) (.slice Ao18 t169.length co18) t169) ∧ Aside0 (Below w.heap.size w w'))
                     case atStart => exact ⟨((⟨1065353216, 0⟩ : C64)), (0), (by first | rfl | (simp; done) | (simp [*]; done)), (by first | rfl | (simp; done) | (simp [*]; done)), H', ⟨Nat.le_refl _⟩, ⟨by (with_reducible repeat (first | apply Kd.R_alloc | apply Kd.R_drewN | apply Kd.R_drew)); exact Kd.R_mono HO_5.out (fun _ hk => trivial)⟩, ⟨by repeat (first | (with_reducible first | exact HB.out | apply below_alloc | apply pw_below_drewN | apply below_drew1) | exact HB.out)⟩⟩
                     case round =>
                      clear H'
                      (try clear c1); (try clear p1); (try clear q1); (try clear hx1); (try clear c2); (try clear p2); (try clear q2); (try clear hx2); (try clear qi2); (try clear c3); (try clear c4); (try clear c5); (try clear c6); (try clear p6); (try clear c9); (try clear c9b0); (try clear c9b1); (try clear c10); (try clear c10b0); (try clear c10b1); (try clear c12); (try clear c12b0); (try clear c13); (try clear c13b0); (try clear p19); (try clear q19); (try clear hx19); (try clear p20); (try clear q20); (try clear hx20); (try clear qi20); (try clear c22); (try clear q22); (try clear c27); (try clear c28); (try clear c29); (try clear c30); (try clear c31); (try clear c31b0); (try clear c31b1); (try clear c32); (try clear c32b0); (try clear c32b1); (try clear c32b2); (try clear c34); (try clear c34b0); (try clear c35); (try clear c35b0); (try clear c38); (try clear c39); (try clear c39b0); (try clear c40); (try clear c40b0); (try clear c41); (try clear c41b0); (try clear c42); (try clear c42b0); (try clear c46); (try clear c46b0); (try clear c47); (try clear c47b0); (try clear c49); (try clear c50); (try clear c50b0); (try clear c53); (try clear c53b0); (try clear c53b1); (try clear hx197_0); (try clear hx198_0); (try clear hx199_0); (try clear hx200_0); (try clear hx206_0); (try clear p1); (try clear p19); (try clear p197); (try clear p198); (try clear p199); (try clear p2); (try clear p200); (try clear p206); (try clear p6); (try clear q022); (try clear q1); (try clear q19); (try clear q197); (try clear q198); (try clear q199); (try clear q2); (try clear q20); (try clear q200); (try clear q206); (try clear q22)
                      obtain ⟨x22_4, x23_4, rfl, rfl, HA, HK4, HO_5, HB⟩ := hrel
                      cases gk with
                      | zero => exact absurd HA.out (by simp [laws_FnPolynomials.l2])
                      | succ k4 =>
                       have H := HA.out
                       clear HA
                       simp only [laws_FnPolynomials.l2] at H
                       by_cases c58 : x23_4 < (t169.length : Int)
                       · rw [if_pos c58] at H
                         have c58b0 : decide (x23_4 < (t169.length : Int)) = true := decide_eq_true c58
                         clear c58
                         by_cases c59 : 0 ≤ x23_4
                         · rw [if_pos c59] at H
                           have c59b0 : decide (0 ≤ x23_4) = true := decide_eq_true c59
                           clear c59
                           by_cases c60 : FOk .sub .f32 (rdOf c64z t203 0).re ((rdOf c64z t169 x23_4).re) = true
                           · rw [if_pos c60] at H
                             have fe60 := fun t w => frun (P := Try.prog) c60 t w
                             have c60b0 : FOk .sub .f32 (rdOf c64z t203 0).re ((rdOf c64z t169 x23_4).re) = true := c60
                             clear c60
                             by_cases c61 : FOk .sub .f32 (rdOf c64z t203 0).im ((rdOf c64z t169 x23_4).im) = true
                             · rw [if_pos c61] at H
                               have fe61 := fun t w => frun (P := Try.prog) c61 t w; have fc61 := fun t w => crun (P := Try.prog) (.inr rfl) c60b0 c61 t w
                               have c61b0 : FOk .sub .f32 (rdOf c64z t203 0).im ((rdOf c64z t169 x23_4).im) = true := c61
                               clear c61
                               replace H := Option.bind_eq_some_iff.mp H
                               obtain ⟨t210, A620, H⟩ := H
                               replace H : (laws_FnPolynomials.l2 k4 t169 (rdOf c64z t203 0) t207 t208 t210 (wrap64 (x23_4 + 1))) = some r := H
                               have A62 := Aside0.mk A620
                               clear A620
                               as_aux_lemma =>
                                have H' := Aside0.mk H
                                clear H
                                have p209 : 0 ≤ (x23_4 : Int) := of_decide_eq_true (by first | (with_reducible assumption) | assumption)
                                have q209 : x23_4 < (t169.length : Int) := of_decide_eq_true (by first | (with_reducible assumption) | assumption)
                                obtain ⟨ad209, e209, hx209_0⟩ := Kd.at_c64 (Kd.R_reads' HO_5.out).2.2 x23_4 p209 q209
                                cases e209
                                replace p209 := eq_true p209
                                replace q209 := eq_true q209
                                go_wp2_with (first | (go_at_call 12; (with_reducible refine (impl_MulComplex.calls x22_4 (⟨fq .sub .f32 (rdOf c64z t203 0).re ((rdOf c64z t169 x23_4).re), fq .sub .f32 (rdOf c64z t203 0).im ((rdOf c64z t169 x23_4).im)⟩ : C64) t210 _ A62.out).mono ?_); rintro e w63 ⟨rfl, hb⟩; have n0_ := Aside0.mk (Kd.R_below (by (with_reducible repeat (first | apply Kd.R_alloc | apply Kd.R_drewN | apply Kd.R_drew)); exact HO_5.out) hb); have n1_ := Aside0.mk (below_step (by repeat (first | (with_reducible first | exact HB.out | apply below_alloc | apply pw_below_drewN | apply below_drew1) | exact HB.out)) hb); clear HO_5; clear HB; have HO_5 := n0_; have HB := n1_; clear n0_ n1_; (try clear hb); (try clear hb2); (try clear hk); (try clear hi)))
                                repeat (go_quiet (first | (go_at_call 12; (with_reducible refine (impl_MulComplex.calls x22_4 (⟨fq .sub .f32 (rdOf c64z t203 0).re ((rdOf c64z t169 x23_4).re), fq .sub .f32 (rdOf c64z t203 0).im ((rdOf c64z t169 x23_4).im)⟩ : C64) t210 _ A62.out).mono ?_); rintro e w63 ⟨rfl, hb⟩; have n0_ := Aside0.mk (Kd.R_below (by (with_reducible repeat (first | apply Kd.R_alloc | apply Kd.R_drewN | apply Kd.R_drew)); exact HO_5.out) hb); have n1_ := Aside0.mk (below_step (by repeat (first | (with_reducible first | exact HB.out | apply below_alloc | apply pw_below_drewN | apply below_drew1) | exact HB.out)) hb); clear HO_5; clear HB; have HO_5 := n0_; have HB := n1_; clear n0_ n1_; (try clear hb); (try clear hb2); (try clear hk); (try clear hi))); try go_wp2_with (first | (go_at_call 12; (with_reducible refine (impl_MulComplex.calls x22_4 (⟨fq .sub .f32 (rdOf c64z t203 0).re ((rdOf c64z t169 x23_4).re), fq .sub .f32 (rdOf c64z t203 0).im ((rdOf c64z t169 x23_4).im)⟩ : C64) t210 _ A62.out).mono ?_); rintro e w63 ⟨rfl, hb⟩; have n0_ := Aside0.mk (Kd.R_below (by (with_reducible repeat (first | apply Kd.R_alloc | apply Kd.R_drewN | apply Kd.R_drew)); exact HO_5.out) hb); have n1_ := Aside0.mk (below_step (by repeat (first | (with_reducible first | exact HB.out | apply below_alloc | apply pw_below_drewN | apply below_drew1) | exact HB.out)) hb); clear HO_5; clear HB; have HO_5 := n0_; have HB := n1_; clear n0_ n1_; (try clear hb); (try clear hb2); (try clear hk); (try clear hi))))
                                go_roundg k4
                                case measure => have := HJ15.out; have := HK2.out; have := HK3.out; have := HK4.out; omega
                                case rel => exact ⟨(t210), (wrap64 (x23_4 + 1)), (by first | rfl | (simp; done) | (simp [*]; done)), (by first | rfl | (simp; done) | (simp [*]; done)), H', ⟨by have := HJ15.out; have := HK2.out; have := HK3.out; have := HK4.out; omega⟩, ⟨by (with_reducible repeat (first | apply Kd.R_alloc | apply Kd.R_drewN | apply Kd.R_drew)); exact HO_5.out⟩, ⟨by repeat (first | (with_reducible first | exact HB.out | apply below_alloc | apply pw_below_drewN | apply below_drew1) | exact HB.out)⟩⟩
                             · rw [if_neg c61] at H
                               exact absurd H (by simp)
                           · rw [if_neg c60] at H
                             exact absurd H (by simp)
                         · rw [if_neg c59] at H
                           exact absurd H (by simp)
                       · rw [if_neg c58] at H
                         have c58b0 : decide (x23_4 < (t169.length : Int)) = false := decide_eq_false c58
                         clear c58
                         by_cases c64 : t208 = true
                         · subst c64
                           have H1 : (some ((FloatKind.f32.format.order t207.re x22_4.re == some .eq) && (FloatKind.f32.format.order t207.im x22_4.im == some .eq))) = some r := by rw [if_pos rfl] at H; exact H
                           clear H
                           have H := H1
                           clear H1
                           as_aux_lemma =>
                            obtain rfl := Option.some.inj H
                            go_wp2
                            repeat (go_quiet (fail); try go_wp2)
                            go_ret
                            exact ⟨by first | rfl | (simp [errW_none, errW_some] <;> rfl) | (simp [*, errW_none, errW_some] <;> rfl), by repeat (first | (with_reducible first | exact HB.out | apply below_alloc | apply pw_below_drewN | apply below_drew1) | exact HB.out)⟩
                         · replace c64 := Bool.eq_false_iff.mpr c64
                           subst c64
                           have H1 : (none) = some r := by rw [if_neg (show ¬ (false = true) by decide)] at H; exact H
                           clear H
                           have H := H1
                           clear H1
                           exact absurd H (by simp)
                   · rw [if_neg c53] at H
                     exact absurd H (by simp)
     · rw [if_neg c10] at H
       exact absurd H (by simp)
   · rw [if_neg c9] at H
     exact absurd H (by simp)

/-- THE ONE PURE STATEMENT of laws_FnPolynomials: yours. -/
def laws_FnPolynomials.Pure : Prop := ∀ (l0 : List Int) (l1 : List Int), l0.length ≤ maxLen → l0.length * 1 ≤ 140737488351232 → (∀ x ∈ l0, (Lit.int .u8 x).wf = true) → l1.length ≤ maxLen → l1.length * 1 ≤ 140737488351232 → (∀ x ∈ l1, (Lit.int .u8 x).wf = true) → ∃ k, laws_FnPolynomials.f k l0 l1 = some true
theorem laws_FnPolynomials.walk (P : laws_FnPolynomials.Pure) (a0 : Option Addr) (len0 cap0 : Nat) (z0 : List Int) (a1 : Option Addr) (len1 cap1 : Nat) (z1 : List Int) (w : World) (w0 : (a0 = none ∧ len0 = 0 ∧ cap0 = 0 ∧ z0 = []) ∨ ∃ x, a0 = some x ∧ len0 ≤ cap0 ∧ cap0 ≤ maxLen ∧ z0.length = cap0 ∧ (∀ i, i < z0.length → w.cell? (x.add i) = some (.int .u8 (z0.getD i 0))) ∧ ∀ n ∈ z0, (Lit.int .u8 n).wf = true) (y0 : len0 * 1 ≤ 140737488351232) (w1 : (a1 = none ∧ len1 = 0 ∧ cap1 = 0 ∧ z1 = []) ∨ ∃ x, a1 = some x ∧ len1 ≤ cap1 ∧ cap1 ≤ maxLen ∧ z1.length = cap1 ∧ (∀ i, i < z1.length → w.cell? (x.add i) = some (.int .u8 (z1.getD i 0))) ∧ ∀ n ∈ z1, (Lit.int .u8 n).wf = true) (y1 : len1 * 1 ≤ 140737488351232) :
 Calls Try.prog 3 #[.slice a0 len0 cap0, .slice a1 len1 cap1] w fun e w' => e = .returned (.bool true) ∧ Below w.heap.size w w' := by
 obtain ⟨l0, rfl, hr0, hm0, hw0, hc0⟩ := ReadsInt.ofRowC w0
 obtain ⟨l1, rfl, hr1, hm1, hw1, hc1⟩ := ReadsInt.ofRowC w1
 obtain ⟨k, h⟩ := P l0 l1 hm0 y0 hw0 hm1 y1 hw1
 refine (laws_FnPolynomials.calls k _ _ l0 _ _ l1 true w (Kd.C_of_reads (d := (0 : Int)) (h1 := fun _ => rfl) hr0) hc0 (Kd.C_of_reads (d := (0 : Int)) (h1 := fun _ => rfl) hr1) hc1 h).mono ?_
 rintro e w' ⟨rfl, hd⟩
 exact ⟨rfl, hd⟩

end Go.Proofs.Ytnfcbacdggkfeaa.P
