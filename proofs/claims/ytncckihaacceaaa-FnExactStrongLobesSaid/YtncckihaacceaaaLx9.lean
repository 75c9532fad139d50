/-
  Contracts of the program's functions, each a plain Lean function beside the machine's call: written by this session's program over the kit's print.
-/
import Derived.Test.YtncckihaacceaaaLx0
import Derived.Test.YtncckihaacceaaaLx1
import Derived.Test.YtncckihaacceaaaLx3
import Derived.Test.YtncckihaacceaaaLx8
namespace Go.Proofs.Ytncckihaacceaaa.L
open Go.RowKit Go.Proofs.YtncckihaacceaaaW.PrintWords Go.Proofs.YtncckihaacceaaaW.PrintLast Go.Proofs.YtncckihaacceaaaW.PrintMore
attribute [local go_sem] max2_int min2_int max_two min_two max_three min_three max_four min_four   -- for this text's walks alone
set_option linter.unusedVariables false
set_option linter.unusedSimpArgs false

/-! ### laws_heldInt64S: function 22 -/
def laws_heldInt64S.l0 : Nat → List Int → Int → Int → Option (Int)
 | 0, _, _, _ => none
 | k + 1, x0, x1, x5 => if x5 < (x0.length : Int) then (if 0 ≤ x5 then (if (rd x0 x5) = x1 then (laws_heldInt64S.l0 k x0 (wrap64 (x1 + 1)) (wrap64 (x5 + 1))) else (some (-1))) else (none)) else (some x1)
def laws_heldInt64S.f (k : Nat) (l0 : List Int) (a1 : Int) : Option (Int) := laws_heldInt64S.l0 k l0 a1 0
theorem laws_heldInt64S.mono_l : ∀ k, (∀ y0 y1 y2, LeO (laws_heldInt64S.l0 k y0 y1 y2) (laws_heldInt64S.l0 (k + 1) y0 y1 y2))
 | 0 => fun _ _ _ r h => by simp [laws_heldInt64S.l0] at h
 | k + 1 => by
  have ih0 := laws_heldInt64S.mono_l k
  · intro y0 y1 y2
    unfold laws_heldInt64S.l0
    repeat' first
    | (with_reducible exact ih0 _ _ _)
    | (with_reducible exact LeO.refl _)
    | (with_reducible exact LeO.none _)
    | (with_reducible refine LeO.ite ?_ ?_)
    | (with_reducible refine LeO.bind ?_ (fun _ => ?_))
    | exact ih0 _ _ _
    | exact LeO.none _
    | refine LeO.ite ?_ ?_
    | refine LeO.bind ?_ (fun _ => ?_)
theorem laws_heldInt64S.mono : ∀ a0 a1 k, LeO (laws_heldInt64S.f k a0 a1) (laws_heldInt64S.f (k + 1) a0 a1) := by
 intro a0 a1 k
 have ih0 := laws_heldInt64S.mono_l k
 unfold laws_heldInt64S.f
 repeat' first
  | (with_reducible exact ih0 _ _ _)
  | (with_reducible exact LeO.refl _)
  | (with_reducible exact LeO.none _)
  | (with_reducible refine LeO.ite ?_ ?_)
  | (with_reducible refine LeO.bind ?_ (fun _ => ?_))
  | exact ih0 _ _ _
  | exact LeO.none _
  | refine LeO.ite ?_ ?_
  | refine LeO.bind ?_ (fun _ => ?_)
set_option maxHeartbeats 8000000 in
set_option maxRecDepth 100000 in
theorem laws_heldInt64S.calls (k : Nat) (A0 : Option Addr) (c0 : Nat) (l0 : List Int) (a1 : Int) (r : Int) (w : World) (hr0 : Kd.C (Kd.int .i64) w A0 l0.length l0) (hc0 : l0.length ≤ c0) (h : laws_heldInt64S.f k l0 a1 = some r) :
 Calls Try.prog 22 #[.slice A0 l0.length c0, .int .i64 a1] w fun e w' => e = .returned (.int .i64 r) ∧ Drawn0 w w' := by
 have HR0 := Aside0.mk hr0
 have HC0 := Aside0.mk hc0
 clear hr0 hc0
 have H : (laws_heldInt64S.l0 k l0 a1 0) = some r := h
 clear h
 have H' := Aside0.mk H
 clear H
 go_enter Try.func22, Try.ntmps22
 go_wp2
 go_loopg [1, 5] k (fun kq v1 v5 w' => ∃ (x1_1 : Int) (x5_1 : Int), v1 = .int .i64 x1_1 ∧ v5 = .int .i64 x5_1 ∧ Aside0 (laws_heldInt64S.l0 kq l0 x1_1 x5_1 = some r) ∧ Aside0 (kq ≤ k) ∧ Drawn0 w w')
 case atStart => exact ⟨(a1), (0), (by first | rfl | (simp; done) | (simp [*]; done)), (by first | rfl | (simp; done) | (simp [*]; done)), H', ⟨Nat.le_refl _⟩, by repeat (first | exact Drawn0.refl _ | apply Drawn0.step)⟩
 case round =>
  clear H'
  (try clear c2); (try clear p2)
  obtain ⟨x1_1, x5_1, rfl, rfl, HA, HK1, ⟨m1, rfl⟩⟩ := hrel
  cases gk with
  | zero => exact absurd HA.out (by simp [laws_heldInt64S.l0])
  | succ k1 =>
   have H := HA.out
   clear HA
   simp only [laws_heldInt64S.l0] at H
   by_cases c3 : x5_1 < (l0.length : Int)
   · rw [if_pos c3] at H
     have c3b0 : decide (x5_1 < (l0.length : Int)) = true := decide_eq_true c3
     clear c3
     by_cases c4 : 0 ≤ x5_1
     · rw [if_pos c4] at H
       have c4b0 : decide (0 ≤ x5_1) = true := decide_eq_true c4
       clear c4
       by_cases c5 : (rd l0 x5_1) = x1_1
       · rw [if_pos c5] at H
         have c5b0 : ((rd l0 x5_1) == x1_1) = true := beq_iff_eq.mpr c5
         have c5b1 : ((rd l0 x5_1) != x1_1) = false := bne_eq_false_iff_eq.mpr c5
         clear c5
         as_aux_lemma =>
          have H' := Aside0.mk H
          clear H
          have p246 : 0 ≤ (x5_1 : Int) := of_decide_eq_true (by first | (with_reducible assumption) | assumption)
          have q246 : x5_1 < (l0.length : Int) := of_decide_eq_true (by first | (with_reducible assumption) | assumption)
          obtain ⟨ad246, e246, hx246_0⟩ := Kd.at_int HR0.out x5_1 p246 q246
          cases e246
          replace p246 := eq_true p246
          replace q246 := eq_true q246
          go_wp2
          go_roundg k1
          case measure => have := HK1.out; omega
          case rel => exact ⟨(wrap64 (x1_1 + 1)), (wrap64 (x5_1 + 1)), (by first | rfl | (simp; done) | (simp [*]; done)), (by first | rfl | (simp; done) | (simp [*]; done)), H', ⟨by have := HK1.out; omega⟩, by repeat (first | exact Drawn0.refl _ | apply Drawn0.step)⟩
       · rw [if_neg c5] at H
         have c5b0 : ((rd l0 x5_1) == x1_1) = false := beq_eq_false_iff_ne.mpr c5
         have c5b1 : ((rd l0 x5_1) != x1_1) = true := bne_iff_ne.mpr c5
         as_aux_lemma =>
          obtain rfl := Option.some.inj H
          have p246 : 0 ≤ (x5_1 : Int) := of_decide_eq_true (by first | (with_reducible assumption) | assumption)
          have q246 : x5_1 < (l0.length : Int) := of_decide_eq_true (by first | (with_reducible assumption) | assumption)
          obtain ⟨ad246, e246, hx246_0⟩ := Kd.at_int HR0.out x5_1 p246 q246
          cases e246
          replace p246 := eq_true p246
          replace q246 := eq_true q246
          go_wp2
          go_ret
          exact ⟨by first | rfl | (simp; done) | (simp [*]; done), by repeat (first | exact Drawn0.refl _ | apply Drawn0.step)⟩
     · rw [if_neg c4] at H
       exact absurd H (by simp)
   · rw [if_neg c3] at H
     have c3b0 : decide (x5_1 < (l0.length : Int)) = false := decide_eq_false c3
     clear c3
     as_aux_lemma =>
      obtain rfl := Option.some.inj H
      go_wp2
      go_ret
      exact ⟨by first | rfl | (simp; done) | (simp [*]; done), by repeat (first | exact Drawn0.refl _ | apply Drawn0.step)⟩

/-! ### laws_FnExactStrongLobes: function 5 -/
mutual
def laws_FnExactStrongLobes.j0 : Nat → List Nat → Int → List Int → Bool → List Nat → List Int → Bool → Bool → Option (Bool)
 | 0, _, _, _, _, _, _, _, _ => none
 | k + 1, x0, x1, x5, x6, x7, x8, x9, x41 => if x41 = true then (none) else ((laws_toFloat32S.f k x0).bind fun t262 => ((laws_eqFloat32S.f x7 t262).bind fun t265 => (if t265 = true then ((laws_markFloat32S.f k x7 1).bind fun bt266 => (if bt266.1 < 0 then (none) else ((laws_eqInt64S.f k x8 x5).bind fun t268 => (if t268 = true then (laws_FnExactStrongLobes.j1 k x0 x1 x5 x6 x8 (x9 != x6)) else (none))))) else (none))))
def laws_FnExactStrongLobes.j1 : Nat → List Nat → Int → List Int → Bool → List Int → Bool → Option (Bool)
 | 0, _, _, _, _, _, _ => none
 | k + 1, x0, x1, x5, x6, x8, x62 => if x62 = true then (none) else ((laws_markInt64S.f k x8 1).bind fun bt269 => ((laws_heldInt64S.f k bt269.2 1).bind fun t271 => (if t271 < 0 then (none) else (if t271 = bt269.1 then ((laws_toFloat32S.f k x0).bind fun t272 => ((impl_StrongLobes.f k t272 x1).bind fun bt275 => ((laws_eqInt64S.f k bt275.1 x5).bind fun t279 => (if t279 = true then (laws_FnExactStrongLobes.j2 k bt269.2 bt269.1 (bt275.2 != x6)) else (none))))) else (none)))))
def laws_FnExactStrongLobes.j2 : Nat → List Int → Int → Bool → Option (Bool)
 | 0, _, _, _ => none
 | k + 1, x8, x11, x89 => if x89 = true then (none) else ((laws_heldInt64S.f k x8 1).bind fun t280 => (if t280 < 0 then (none) else (if t280 = x11 then (some true) else (none))))
end
def laws_FnExactStrongLobes.f (k : Nat) (l0 : List Nat) (a1 : Int) : Option (Bool) := if (l0.length : Int) > 1048576 then (some true) else ((laws_toFloat32S.f k l0).bind fun t247 => ((spec_StrongLobes.f k t247 a1).bind fun bt250 => ((laws_toFloat32S.f k l0).bind fun t254 => ((impl_StrongLobes.f k t254 a1).bind fun bt257 => ((laws_eqInt64S.f k bt257.1 bt250.1).bind fun t261 => (if t261 = true then (laws_FnExactStrongLobes.j0 k l0 a1 bt250.1 bt250.2 t254 bt257.1 bt257.2 (bt257.2 != bt250.2)) else (none)))))))
theorem laws_FnExactStrongLobes.mono_l : ∀ k, (∀ y0 y1 y2 y3 y4 y5 y6 y7, LeO (laws_FnExactStrongLobes.j0 k y0 y1 y2 y3 y4 y5 y6 y7) (laws_FnExactStrongLobes.j0 (k + 1) y0 y1 y2 y3 y4 y5 y6 y7)) ∧ (∀ y0 y1 y2 y3 y4 y5, LeO (laws_FnExactStrongLobes.j1 k y0 y1 y2 y3 y4 y5) (laws_FnExactStrongLobes.j1 (k + 1) y0 y1 y2 y3 y4 y5)) ∧ (∀ y0 y1 y2, LeO (laws_FnExactStrongLobes.j2 k y0 y1 y2) (laws_FnExactStrongLobes.j2 (k + 1) y0 y1 y2))
 | 0 => ⟨fun _ _ _ _ _ _ _ _ r h => by simp [laws_FnExactStrongLobes.j0] at h, fun _ _ _ _ _ _ r h => by simp [laws_FnExactStrongLobes.j1] at h, fun _ _ _ r h => by simp [laws_FnExactStrongLobes.j2] at h⟩
 | k + 1 => by
  obtain ⟨ih0, ih1, ih2⟩ := laws_FnExactStrongLobes.mono_l k
  refine ⟨?_, ?_, ?_⟩
  · intro y0 y1 y2 y3 y4 y5 y6 y7
    unfold laws_FnExactStrongLobes.j0
    repeat' first
    | (with_reducible exact ih0 _ _ _ _ _ _ _ _)
    | (with_reducible exact ih1 _ _ _ _ _ _)
    | (with_reducible exact ih2 _ _ _)
    | (with_reducible exact impl_StrongLobes.mono _ _ _)
    | (with_reducible exact laws_eqInt64S.mono _ _ _)
    | (with_reducible exact laws_heldInt64S.mono _ _ _)
    | (with_reducible exact laws_markFloat32S.mono _ _ _)
    | (with_reducible exact laws_markInt64S.mono _ _ _)
    | (with_reducible exact laws_toFloat32S.mono _ _)
    | (with_reducible exact spec_StrongLobes.mono _ _ _)
    | (with_reducible exact LeO.refl _)
    | (with_reducible exact LeO.none _)
    | (with_reducible refine LeO.ite ?_ ?_)
    | (with_reducible refine LeO.bind ?_ (fun _ => ?_))
    | exact ih0 _ _ _ _ _ _ _ _
    | exact ih1 _ _ _ _ _ _
    | exact ih2 _ _ _
    | exact impl_StrongLobes.mono _ _ _
    | exact laws_eqInt64S.mono _ _ _
    | exact laws_heldInt64S.mono _ _ _
    | exact laws_markFloat32S.mono _ _ _
    | exact laws_markInt64S.mono _ _ _
    | exact laws_toFloat32S.mono _ _
    | exact spec_StrongLobes.mono _ _ _
    | exact LeO.none _
    | refine LeO.ite ?_ ?_
    | refine LeO.bind ?_ (fun _ => ?_)
  · intro y0 y1 y2 y3 y4 y5
    unfold laws_FnExactStrongLobes.j1
    repeat' first
    | (with_reducible exact ih0 _ _ _ _ _ _ _ _)
    | (with_reducible exact ih1 _ _ _ _ _ _)
    | (with_reducible exact ih2 _ _ _)
    | (with_reducible exact impl_StrongLobes.mono _ _ _)
    | (with_reducible exact laws_eqInt64S.mono _ _ _)
    | (with_reducible exact laws_heldInt64S.mono _ _ _)
    | (with_reducible exact laws_markFloat32S.mono _ _ _)
    | (with_reducible exact laws_markInt64S.mono _ _ _)
    | (with_reducible exact laws_toFloat32S.mono _ _)
    | (with_reducible exact spec_StrongLobes.mono _ _ _)
    | (with_reducible exact LeO.refl _)
    | (with_reducible exact LeO.none _)
    | (with_reducible refine LeO.ite ?_ ?_)
    | (with_reducible refine LeO.bind ?_ (fun _ => ?_))
    | exact ih0 _ _ _ _ _ _ _ _
    | exact ih1 _ _ _ _ _ _
    | exact ih2 _ _ _
    | exact impl_StrongLobes.mono _ _ _
    | exact laws_eqInt64S.mono _ _ _
    | exact laws_heldInt64S.mono _ _ _
    | exact laws_markFloat32S.mono _ _ _
    | exact laws_markInt64S.mono _ _ _
    | exact laws_toFloat32S.mono _ _
    | exact spec_StrongLobes.mono _ _ _
    | exact LeO.none _
    | refine LeO.ite ?_ ?_
    | refine LeO.bind ?_ (fun _ => ?_)
  · intro y0 y1 y2
    unfold laws_FnExactStrongLobes.j2
    repeat' first
    | (with_reducible exact ih0 _ _ _ _ _ _ _ _)
    | (with_reducible exact ih1 _ _ _ _ _ _)
    | (with_reducible exact ih2 _ _ _)
    | (with_reducible exact impl_StrongLobes.mono _ _ _)
    | (with_reducible exact laws_eqInt64S.mono _ _ _)
    | (with_reducible exact laws_heldInt64S.mono _ _ _)
    | (with_reducible exact laws_markFloat32S.mono _ _ _)
    | (with_reducible exact laws_markInt64S.mono _ _ _)
    | (with_reducible exact laws_toFloat32S.mono _ _)
    | (with_reducible exact spec_StrongLobes.mono _ _ _)
    | (with_reducible exact LeO.refl _)
    | (with_reducible exact LeO.none _)
    | (with_reducible refine LeO.ite ?_ ?_)
    | (with_reducible refine LeO.bind ?_ (fun _ => ?_))
    | exact ih0 _ _ _ _ _ _ _ _
    | exact ih1 _ _ _ _ _ _
    | exact ih2 _ _ _
    | exact impl_StrongLobes.mono _ _ _
    | exact laws_eqInt64S.mono _ _ _
    | exact laws_heldInt64S.mono _ _ _
    | exact laws_markFloat32S.mono _ _ _
    | exact laws_markInt64S.mono _ _ _
    | exact laws_toFloat32S.mono _ _
    | exact spec_StrongLobes.mono _ _ _
    | exact LeO.none _
    | refine LeO.ite ?_ ?_
    | refine LeO.bind ?_ (fun _ => ?_)
theorem laws_FnExactStrongLobes.mono : ∀ a0 a1 k, LeO (laws_FnExactStrongLobes.f k a0 a1) (laws_FnExactStrongLobes.f (k + 1) a0 a1) := by
 intro a0 a1 k
 obtain ⟨ih0, ih1, ih2⟩ := laws_FnExactStrongLobes.mono_l k
 unfold laws_FnExactStrongLobes.f
 repeat' first
  | (with_reducible exact ih0 _ _ _ _ _ _ _ _)
  | (with_reducible exact ih1 _ _ _ _ _ _)
  | (with_reducible exact ih2 _ _ _)
  | (with_reducible exact impl_StrongLobes.mono _ _ _)
  | (with_reducible exact laws_eqInt64S.mono _ _ _)
  | (with_reducible exact laws_heldInt64S.mono _ _ _)
  | (with_reducible exact laws_markFloat32S.mono _ _ _)
  | (with_reducible exact laws_markInt64S.mono _ _ _)
  | (with_reducible exact laws_toFloat32S.mono _ _)
  | (with_reducible exact spec_StrongLobes.mono _ _ _)
  | (with_reducible exact LeO.refl _)
  | (with_reducible exact LeO.none _)
  | (with_reducible refine LeO.ite ?_ ?_)
  | (with_reducible refine LeO.bind ?_ (fun _ => ?_))
  | exact ih0 _ _ _ _ _ _ _ _
  | exact ih1 _ _ _ _ _ _
  | exact ih2 _ _ _
  | exact impl_StrongLobes.mono _ _ _
  | exact laws_eqInt64S.mono _ _ _
  | exact laws_heldInt64S.mono _ _ _
  | exact laws_markFloat32S.mono _ _ _
  | exact laws_markInt64S.mono _ _ _
  | exact laws_toFloat32S.mono _ _
  | exact spec_StrongLobes.mono _ _ _
  | exact LeO.none _
  | refine LeO.ite ?_ ?_
  | refine LeO.bind ?_ (fun _ => ?_)
set_option maxHeartbeats 8000000 in
set_option maxRecDepth 100000 in
theorem laws_FnExactStrongLobes.calls (k : Nat) (A0 : Option Addr) (c0 : Nat) (l0 : List Nat) (a1 : Int) (r : Bool) (w : World) (hr0 : Kd.C Kd.f32 w A0 l0.length l0) (hc0 : l0.length ≤ c0) (h : laws_FnExactStrongLobes.f k l0 a1 = some r) :
 Calls Try.prog 5 #[.slice A0 l0.length c0, .int .i64 a1] w fun e w' => e = .returned (.bool r) ∧ Below w.heap.size w w' := by
 have HR0 := Aside0.mk hr0
 have HC0 := Aside0.mk hc0
 clear hr0 hc0
 have HB := Aside0.mk (Below.refl w.heap.size w)
 have H : (if (l0.length : Int) > 1048576 then (some true) else ((laws_toFloat32S.f k l0).bind fun t247 => ((spec_StrongLobes.f k t247 a1).bind fun bt250 => ((laws_toFloat32S.f k l0).bind fun t254 => ((impl_StrongLobes.f k t254 a1).bind fun bt257 => ((laws_eqInt64S.f k bt257.1 bt250.1).bind fun t261 => (if t261 = true then (laws_FnExactStrongLobes.j0 k l0 a1 bt250.1 bt250.2 t254 bt257.1 bt257.2 (bt257.2 != bt250.2)) else (none)))))))) = some r := h
 clear h
 by_cases c3 : (l0.length : Int) > 1048576
 · rw [if_pos c3] at H
   have c3b0 : decide (1048576 < (l0.length : Int)) = true := decide_eq_true c3
   have c3b1 : decide (1048576 < l0.length) = true := decide_eq_true (by omega)
   clear c3
   as_aux_lemma =>
    obtain rfl := Option.some.inj H
    go_enter Try.func5, Try.ntmps5
    go_wp2
    go_ret
    exact ⟨by first | rfl | (simp [errW_none, errW_some] <;> rfl) | (simp [*, errW_none, errW_some] <;> rfl), by repeat (first | (with_reducible first | exact HB.out | apply below_alloc | apply pw_below_drewN | apply below_drew1) | exact HB.out)⟩
 · rw [if_neg c3] at H
   have c3b0 : decide (1048576 < (l0.length : Int)) = false := decide_eq_false c3
   have c3b1 : decide (1048576 < l0.length) = false := decide_eq_false (by omega)
   clear c3
   replace H := Option.bind_eq_some_iff.mp H
   obtain ⟨t247, A40, H⟩ := H
   replace H : ((spec_StrongLobes.f k t247 a1).bind fun bt250 => ((laws_toFloat32S.f k l0).bind fun t254 => ((impl_StrongLobes.f k t254 a1).bind fun bt257 => ((laws_eqInt64S.f k bt257.1 bt250.1).bind fun t261 => (if t261 = true then (laws_FnExactStrongLobes.j0 k l0 a1 bt250.1 bt250.2 t254 bt257.1 bt257.2 (bt257.2 != bt250.2)) else (none)))))) = some r := H
   have A4 := Aside0.mk A40
   clear A40
   replace H := Option.bind_eq_some_iff.mp H
   obtain ⟨⟨t250, t251⟩, A50, H⟩ := H
   replace H : ((laws_toFloat32S.f k l0).bind fun t254 => ((impl_StrongLobes.f k t254 a1).bind fun bt257 => ((laws_eqInt64S.f k bt257.1 t250).bind fun t261 => (if t261 = true then (laws_FnExactStrongLobes.j0 k l0 a1 t250 t251 t254 bt257.1 bt257.2 (bt257.2 != t251)) else (none))))) = some r := H
   have A5 := Aside0.mk A50
   clear A50
   replace H := Option.bind_eq_some_iff.mp H
   obtain ⟨t254, A60, H⟩ := H
   replace H : ((impl_StrongLobes.f k t254 a1).bind fun bt257 => ((laws_eqInt64S.f k bt257.1 t250).bind fun t261 => (if t261 = true then (laws_FnExactStrongLobes.j0 k l0 a1 t250 t251 t254 bt257.1 bt257.2 (bt257.2 != t251)) else (none)))) = some r := H
   have A6 := Aside0.mk A60
   clear A60
   replace H := Option.bind_eq_some_iff.mp H
   obtain ⟨⟨t257, t258⟩, A70, H⟩ := H
   replace H : ((laws_eqInt64S.f k t257 t250).bind fun t261 => (if t261 = true then (laws_FnExactStrongLobes.j0 k l0 a1 t250 t251 t254 t257 t258 (t258 != t251)) else (none))) = some r := H
   have A7 := Aside0.mk A70
   clear A70
   have HC8 := Aside0.mk H
   clear H
   go_enter Try.func5, Try.ntmps5
   go_upto_region 6 with (first | ((with_reducible refine gate_callee (f := 9) rfl ?_); refine goesL_ (some 20) rfl rfl Try.func9 (by kernel_rfl) rfl #[.slice A0 l0.length c0] rfl (by (try simp only [List.map_toArray, List.map_cons, List.map_nil]); first | done | rfl | (simp only [List.length_drop, List.length_take]; rfl)) ?_; (with_reducible refine (laws_toFloat32S.calls k _ _ l0 t247 _ ?side1 ?side2 A4.out).mono ?_); (case side1 => repeat (first | exact HR0.out | (with_reducible refine Kd.C_alloc ?_ _) | (with_reducible refine Kd.C_drewN ?_ _) | (with_reducible refine Kd.C_drew ?_))); (case side2 => exact HC0.out); rintro e w9 ⟨v248, rfl, ho0, hb⟩; refine ⟨_, rfl, ?_⟩; have n0_ := Aside0.mk (Kd.R_lower ho0 (below_size (by repeat (first | (with_reducible first | exact HB.out | apply below_alloc | apply pw_below_drewN | apply below_drew1) | exact HB.out)))); have n1_ := Aside0.mk (below_step (by repeat (first | (with_reducible first | exact HB.out | apply below_alloc | apply pw_below_drewN | apply below_drew1) | exact HB.out)) hb); clear HB; have HO249 := n0_; have HB := n1_; clear n0_ n1_; (try clear hb); (try clear hb2); (try clear hk); (try clear hi); (try clear ho0); obtain ⟨Ao10, co10, eo10⟩ := Kd.R_slice HO249.out; subst eo10) | ((with_reducible refine gate_callee (f := 17) rfl ?_); refine goesL_ (some 22) rfl rfl Try.func17 (by kernel_rfl) rfl #[.slice Ao10 t247.length co10, .int .i64 a1] rfl (by (try simp only [List.map_toArray, List.map_cons, List.map_nil]); first | done | rfl | (simp only [List.length_drop, List.length_take]; rfl)) ?_; (with_reducible refine (spec_StrongLobes.calls k _ _ t247 a1 t250 t251 _ ?side1 ?side2 A5.out).mono ?_); (case side1 => repeat (first | exact (Kd.R_reads' HO249.out).2.2 | (with_reducible refine Kd.C_alloc ?_ _) | (with_reducible refine Kd.C_drewN ?_ _) | (with_reducible refine Kd.C_drew ?_))); (case side2 => exact (Kd.R_reads' HO249.out).2.1); rintro e w11 ⟨v252, rfl, ho0, hb⟩; refine ⟨_, rfl, ?_⟩; have n0_ := Aside0.mk (Kd.R_below (by (with_reducible repeat (first | apply Kd.R_alloc | apply Kd.R_drewN | apply Kd.R_drew)); exact HO249.out) hb); have n1_ := Aside0.mk (Kd.R_lower ho0 (below_size (by repeat (first | (with_reducible first | exact HB.out | apply below_alloc | apply pw_below_drewN | apply below_drew1) | exact HB.out)))); have n2_ := Aside0.mk (below_step (by repeat (first | (with_reducible first | exact HB.out | apply below_alloc | apply pw_below_drewN | apply below_drew1) | exact HB.out)) hb); clear HO249; clear HB; have HO249 := n0_; have HO253 := n1_; have HB := n2_; clear n0_ n1_ n2_; (try clear hb); (try clear hb2); (try clear hk); (try clear hi); (try clear ho0)) | ((with_reducible refine gate_callee (f := 9) rfl ?_); refine goesL_ (some 26) rfl rfl Try.func9 (by kernel_rfl) rfl #[.slice A0 l0.length c0] rfl (by (try simp only [List.map_toArray, List.map_cons, List.map_nil]); first | done | rfl | (simp only [List.length_drop, List.length_take]; rfl)) ?_; (with_reducible refine (laws_toFloat32S.calls k _ _ l0 t254 _ ?side1 ?side2 A6.out).mono ?_); (case side1 => repeat (first | exact (Kd.C_below HR0.out HB.out) | (with_reducible refine Kd.C_alloc ?_ _) | (with_reducible refine Kd.C_drewN ?_ _) | (with_reducible refine Kd.C_drew ?_))); (case side2 => exact HC0.out); rintro e w12 ⟨v255, rfl, ho0, hb⟩; refine ⟨_, rfl, ?_⟩; have n0_ := Aside0.mk (Kd.R_elder' (by (with_reducible repeat (first | apply Kd.R_alloc | apply Kd.R_drewN | apply Kd.R_drew)); exact HO249.out) (Kd.R_base ho0) hb); have n1_ := Aside0.mk (Kd.R_below (by (with_reducible repeat (first | apply Kd.R_alloc | apply Kd.R_drewN | apply Kd.R_drew)); exact HO253.out) hb); have n2_ := Aside0.mk (Kd.R_lower (Kd.R_new' ho0 (Kd.R_lt (by (with_reducible repeat (first | apply Kd.R_alloc | apply Kd.R_drewN | apply Kd.R_drew)); exact HO249.out))) (below_size (by repeat (first | (with_reducible first | exact HB.out | apply below_alloc | apply pw_below_drewN | apply below_drew1) | exact HB.out)))); have n3_ := Aside0.mk (below_step (by repeat (first | (with_reducible first | exact HB.out | apply below_alloc | apply pw_below_drewN | apply below_drew1) | exact HB.out)) hb); clear HO249; clear HO253; clear HB; have HO249 := n0_; have HO253 := n1_; have HO256 := n2_; have HB := n3_; clear n0_ n1_ n2_ n3_; (try clear hb); (try clear hb2); (try clear hk); (try clear hi); (try clear ho0); obtain ⟨Ao13, co13, eo13⟩ := Kd.R_slice HO256.out; subst eo13) | ((with_reducible refine gate_callee (f := 18) rfl ?_); refine goesL_ (some 30) rfl rfl Try.func18 (by kernel_rfl) rfl #[.slice Ao13 t254.length co13, .int .i64 a1] rfl (by (try simp only [List.map_toArray, List.map_cons, List.map_nil]); first | done | rfl | (simp only [List.length_drop, List.length_take]; rfl)) ?_; (with_reducible refine (impl_StrongLobes.calls k _ _ t254 a1 t257 t258 _ ?side1 ?side2 A7.out).mono ?_); (case side1 => repeat (first | exact (Kd.R_reads' HO256.out).2.2 | (with_reducible refine Kd.C_alloc ?_ _) | (with_reducible refine Kd.C_drewN ?_ _) | (with_reducible refine Kd.C_drew ?_))); (case side2 => exact (Kd.R_reads' HO256.out).2.1); rintro e w14 ⟨v259, rfl, ho0, hb⟩; refine ⟨_, rfl, ?_⟩; have n0_ := Aside0.mk (Kd.R_below (by (with_reducible repeat (first | apply Kd.R_alloc | apply Kd.R_drewN | apply Kd.R_drew)); exact HO249.out) hb); have n1_ := Aside0.mk (Kd.R_elder' (by (with_reducible repeat (first | apply Kd.R_alloc | apply Kd.R_drewN | apply Kd.R_drew)); exact HO253.out) (Kd.R_base ho0) hb); have n2_ := Aside0.mk (Kd.R_below (by (with_reducible repeat (first | apply Kd.R_alloc | apply Kd.R_drewN | apply Kd.R_drew)); exact HO256.out) hb); have n3_ := Aside0.mk (Kd.R_lower (Kd.R_new' ho0 (Kd.R_lt (by (with_reducible repeat (first | apply Kd.R_alloc | apply Kd.R_drewN | apply Kd.R_drew)); exact HO253.out))) (below_size (by repeat (first | (with_reducible first | exact HB.out | apply below_alloc | apply pw_below_drewN | apply below_drew1) | exact HB.out)))); have n4_ := Aside0.mk (below_step (by repeat (first | (with_reducible first | exact HB.out | apply below_alloc | apply pw_below_drewN | apply below_drew1) | exact HB.out)) hb); clear HO249; clear HO253; clear HO256; clear HB; have HO249 := n0_; have HO253 := n1_; have HO256 := n2_; have HO260 := n3_; have HB := n4_; clear n0_ n1_ n2_ n3_ n4_; (try clear hb); (try clear hb2); (try clear hk); (try clear hi); (try clear ho0)))
   (try simp only [Act.put, List.setIfInBounds_toArray, List.set_cons_zero, List.set_cons_succ])
   go_cut [41] (fun v41 wc => ∃ (kq : Nat) (x41_7 : Bool), v41 = .bool x41_7 ∧ Aside0 (laws_FnExactStrongLobes.j0 kq l0 a1 t250 t251 t254 t257 t258 x41_7 = some r) ∧ Aside0 (kq ≤ k) ∧ Aside0 (Kd.R (Kd.int .i64) 2 wc w.heap.size (fun k_ => some k_ ≠ (v259 : Value).ownBlock) v252 t250) ∧ Aside0 (Kd.R Kd.f32 23 wc w.heap.size (fun _ => True) (.slice Ao13 t254.length co13) t254) ∧ Aside0 (Kd.R (Kd.int .i64) 2 wc w.heap.size (fun k_ => some k_ ≠ (v252 : Value).ownBlock) v259 t257) ∧ Aside0 (Below w.heap.size w wc))
   case first =>
    have H := HC8.out
    clear HC8
    replace H := Option.bind_eq_some_iff.mp H
    obtain ⟨t261, A150, H⟩ := H
    replace H : (if t261 = true then (laws_FnExactStrongLobes.j0 k l0 a1 t250 t251 t254 t257 t258 (t258 != t251)) else (none)) = some r := H
    have A15 := Aside0.mk A150
    clear A150
    by_cases c16 : t261 = true
    · subst c16
      have H1 : (laws_FnExactStrongLobes.j0 k l0 a1 t250 t251 t254 t257 t258 (t258 != t251)) = some r := by rw [if_pos rfl] at H; exact H
      clear H
      have H := H1
      clear H1
      as_aux_lemma =>
       have H' := Aside0.mk H
       clear H
       obtain ⟨Ao17, co17, eo17⟩ := Kd.R_slice HO260.out
       subst eo17
       obtain ⟨Ao18, co18, eo18⟩ := Kd.R_slice HO253.out
       subst eo18
       go_wp2_with (first | ((with_reducible refine gate_callee (f := 19) rfl ?_); refine goesL_ (some 35) rfl rfl Try.func19 (by kernel_rfl) rfl #[.slice Ao17 t257.length co17, .slice Ao18 t250.length co18] rfl (by (try simp only [List.map_toArray, List.map_cons, List.map_nil]); first | done | rfl | (simp only [List.length_drop, List.length_take]; rfl)) ?_; (with_reducible refine (laws_eqInt64S.calls k _ _ t257 _ _ t250 true _ ?side1 ?side2 ?side3 ?side4 A15.out).mono ?_); (case side1 => repeat (first | exact (Kd.R_reads' HO260.out).2.2 | (with_reducible refine Kd.C_alloc ?_ _) | (with_reducible refine Kd.C_drewN ?_ _) | (with_reducible refine Kd.C_drew ?_))); (case side2 => exact (Kd.R_reads' HO260.out).2.1); (case side3 => repeat (first | exact (Kd.R_reads' HO253.out).2.2 | (with_reducible refine Kd.C_alloc ?_ _) | (with_reducible refine Kd.C_drewN ?_ _) | (with_reducible refine Kd.C_drew ?_))); (case side4 => exact (Kd.R_reads' HO253.out).2.1); rintro e w' ⟨rfl, ⟨nd, rfl⟩⟩; refine ⟨_, rfl, ?_⟩))
       go_meet
       case rel => exact ⟨_, ((t258 != t251)), (by first | rfl | (simp; done) | (simp [*]; done)), H', ⟨by first | omega | exact Nat.le_refl _⟩, ⟨by (with_reducible repeat (first | apply Kd.R_alloc | apply Kd.R_drewN | apply Kd.R_drew)); exact Kd.R_mono HO253.out (fun _ hk => hk.2)⟩, ⟨by (with_reducible repeat (first | apply Kd.R_alloc | apply Kd.R_drewN | apply Kd.R_drew)); exact Kd.R_mono HO256.out (fun _ hk => trivial)⟩, ⟨by (with_reducible repeat (first | apply Kd.R_alloc | apply Kd.R_drewN | apply Kd.R_drew)); exact Kd.R_mono HO260.out (fun _ hk => hk.2)⟩, ⟨by repeat (first | (with_reducible first | exact HB.out | apply below_alloc | apply pw_below_drewN | apply below_drew1) | exact HB.out)⟩⟩
    · replace c16 := Bool.eq_false_iff.mpr c16
      subst c16
      have H1 : (none) = some r := by rw [if_neg (show ¬ (false = true) by decide)] at H; exact H
      clear H
      have H := H1
      clear H1
      exact absurd H (by simp)
   case rest =>
    clear HC8
    (try clear c1); (try clear p2); (try clear c3); (try clear c3b0); (try clear c3b1); (try clear c5); (try clear c9); (try clear c16); (try clear c17); (try clear c18)
    obtain ⟨kq, x41_7, rfl, HA, HJ7, HO_5, HO_7, HO_8, HB⟩ := hcut
    cases kq with
    | zero => exact absurd HA.out (by simp [laws_FnExactStrongLobes.j0])
    | succ kj7 =>
     have H := HA.out
     clear HA
     simp only [laws_FnExactStrongLobes.j0] at H
     by_cases c19 : x41_7 = true
     · subst c19
       have H1 : (none) = some r := by rw [if_pos rfl] at H; exact H
       clear H
       have H := H1
       clear H1
       exact absurd H (by simp)
     · replace c19 := Bool.eq_false_iff.mpr c19
       subst c19
       have H1 : ((laws_toFloat32S.f kj7 l0).bind fun t262 => ((laws_eqFloat32S.f t254 t262).bind fun t265 => (if t265 = true then ((laws_markFloat32S.f kj7 t254 1).bind fun bt266 => (if bt266.1 < 0 then (none) else ((laws_eqInt64S.f kj7 t257 t250).bind fun t268 => (if t268 = true then (laws_FnExactStrongLobes.j1 kj7 l0 a1 t250 t251 t257 (t258 != t251)) else (none))))) else (none)))) = some r := by rw [if_neg (show ¬ (false = true) by decide)] at H; exact H
       clear H
       have H := H1
       clear H1
       replace H := Option.bind_eq_some_iff.mp H
       obtain ⟨t262, A200, H⟩ := H
       replace H : ((laws_eqFloat32S.f t254 t262).bind fun t265 => (if t265 = true then ((laws_markFloat32S.f kj7 t254 1).bind fun bt266 => (if bt266.1 < 0 then (none) else ((laws_eqInt64S.f kj7 t257 t250).bind fun t268 => (if t268 = true then (laws_FnExactStrongLobes.j1 kj7 l0 a1 t250 t251 t257 (t258 != t251)) else (none))))) else (none))) = some r := H
       have A20 := Aside0.mk A200
       clear A200
       replace H := Option.bind_eq_some_iff.mp H
       obtain ⟨t265, A210, H⟩ := H
       replace H : (if t265 = true then ((laws_markFloat32S.f kj7 t254 1).bind fun bt266 => (if bt266.1 < 0 then (none) else ((laws_eqInt64S.f kj7 t257 t250).bind fun t268 => (if t268 = true then (laws_FnExactStrongLobes.j1 kj7 l0 a1 t250 t251 t257 (t258 != t251)) else (none))))) else (none)) = some r := H
       have A21 := Aside0.mk A210
       clear A210
       by_cases c22 : t265 = true
       · subst c22
         have H1 : ((laws_markFloat32S.f kj7 t254 1).bind fun bt266 => (if bt266.1 < 0 then (none) else ((laws_eqInt64S.f kj7 t257 t250).bind fun t268 => (if t268 = true then (laws_FnExactStrongLobes.j1 kj7 l0 a1 t250 t251 t257 (t258 != t251)) else (none))))) = some r := by rw [if_pos rfl] at H; exact H
         clear H
         have H := H1
         clear H1
         replace H := Option.bind_eq_some_iff.mp H
         obtain ⟨⟨t266, t267⟩, A230, H⟩ := H
         replace H : (if t266 < 0 then (none) else ((laws_eqInt64S.f kj7 t257 t250).bind fun t268 => (if t268 = true then (laws_FnExactStrongLobes.j1 kj7 l0 a1 t250 t251 t257 (t258 != t251)) else (none)))) = some r := H
         have A23 := Aside0.mk A230
         clear A230
         have HC24 := Aside0.mk H
         clear H
         go_upto_region 12 with (first | ((with_reducible refine gate_callee (f := 9) rfl ?_); refine goesL_ (some 44) rfl rfl Try.func9 (by kernel_rfl) rfl #[.slice A0 l0.length c0] rfl (by (try simp only [List.map_toArray, List.map_cons, List.map_nil]); first | done | rfl | (simp only [List.length_drop, List.length_take]; rfl)) ?_; (with_reducible refine (laws_toFloat32S.calls kj7 _ _ l0 t262 _ ?side1 ?side2 A20.out).mono ?_); (case side1 => repeat (first | exact (Kd.C_below HR0.out HB.out) | (with_reducible refine Kd.C_alloc ?_ _) | (with_reducible refine Kd.C_drewN ?_ _) | (with_reducible refine Kd.C_drew ?_))); (case side2 => exact HC0.out); rintro e w25 ⟨v263, rfl, ho0, hb⟩; refine ⟨_, rfl, ?_⟩; have n0_ := Aside0.mk (Kd.R_below (by (with_reducible repeat (first | apply Kd.R_alloc | apply Kd.R_drewN | apply Kd.R_drew)); exact HO_5.out) hb); have n1_ := Aside0.mk (Kd.R_elder' (by (with_reducible repeat (first | apply Kd.R_alloc | apply Kd.R_drewN | apply Kd.R_drew)); exact HO_7.out) (Kd.R_base ho0) hb); have n2_ := Aside0.mk (Kd.R_below (by (with_reducible repeat (first | apply Kd.R_alloc | apply Kd.R_drewN | apply Kd.R_drew)); exact HO_8.out) hb); have n3_ := Aside0.mk (Kd.R_lower (Kd.R_new' ho0 (Kd.R_lt (by (with_reducible repeat (first | apply Kd.R_alloc | apply Kd.R_drewN | apply Kd.R_drew)); exact HO_7.out))) (below_size (by repeat (first | (with_reducible first | exact HB.out | apply below_alloc | apply pw_below_drewN | apply below_drew1) | exact HB.out)))); have n4_ := Aside0.mk (below_step (by repeat (first | (with_reducible first | exact HB.out | apply below_alloc | apply pw_below_drewN | apply below_drew1) | exact HB.out)) hb); clear HO_5; clear HO_7; clear HO_8; clear HB; have HO_5 := n0_; have HO_7 := n1_; have HO_8 := n2_; have HO264 := n3_; have HB := n4_; clear n0_ n1_ n2_ n3_ n4_; (try clear hb); (try clear hb2); (try clear hk); (try clear hi); (try clear ho0); obtain ⟨Ao26, co26, eo26⟩ := Kd.R_slice HO264.out; subst eo26) | ((with_reducible refine gate_callee (f := 11) rfl ?_); refine goesL_ (some 45) rfl rfl Try.func11 (by kernel_rfl) rfl #[.slice Ao13 t254.length co13, .slice Ao26 t262.length co26] rfl (by (try simp only [List.map_toArray, List.map_cons, List.map_nil]); first | done | rfl | (simp only [List.length_drop, List.length_take]; rfl)) ?_; (with_reducible refine (laws_eqFloat32S.calls _ _ t254 _ _ t262 true _ ?side1 ?side2 ?side3 ?side4 A21.out).mono ?_); (case side1 => repeat (first | exact (Kd.R_reads' HO_7.out).2.2 | (with_reducible refine Kd.C_alloc ?_ _) | (with_reducible refine Kd.C_drewN ?_ _) | (with_reducible refine Kd.C_drew ?_))); (case side2 => exact (Kd.R_reads' HO_7.out).2.1); (case side3 => repeat (first | exact (Kd.R_reads' HO264.out).2.2 | (with_reducible refine Kd.C_alloc ?_ _) | (with_reducible refine Kd.C_drewN ?_ _) | (with_reducible refine Kd.C_drew ?_))); (case side4 => exact (Kd.R_reads' HO264.out).2.1); rintro e w' ⟨rfl, ⟨nd, rfl⟩⟩; refine ⟨_, rfl, ?_⟩) | ((with_reducible refine gate_callee (f := 20) rfl ?_); refine goesL_ (some 49) rfl rfl Try.func20 (by kernel_rfl) rfl #[.slice Ao13 t254.length co13, .int .i64 1] rfl (by (try simp only [List.map_toArray, List.map_cons, List.map_nil]); first | done | rfl | (simp only [List.length_drop, List.length_take]; rfl)) ?_; (with_reducible refine (laws_markFloat32S.calls kj7 (fun k_ => some k_ = (.slice Ao13 t254.length co13 : Value).ownBlock) (.slice Ao13 t254.length co13) t254 1 t266 t267 w _ ?side1 ?side2 A23.out).mono ?_); (case side1 => repeat (first | (with_reducible first | exact HB.out | apply below_alloc | apply pw_below_drewN | apply below_drew1) | exact HB.out)); (case side2 => exact Kd.R_tight rfl HO_7.out); rintro e w27 ⟨rfl, hy0, hb, hkp⟩; refine ⟨_, rfl, ?_⟩; have n0_ := Aside0.mk (Kd.R_mono (ok' := fun k_ => some k_ ≠ (v259 : Value).ownBlock) (Kd.R_keptB ((Kd.R_apart' HO_5.out (Kd.R_typed HO_7.out) (by decide))) hkp (fun k_ hk_ hs_ => (hk_.2) hs_)) (fun k_ hk_ => hk_.1.1)); have n1_ := Aside0.mk (Kd.R_reok rfl hy0 (fun k_ e_ => HO_7.out.1 k_ e_)); have n2_ := Aside0.mk (Kd.R_mono (ok' := fun k_ => some k_ ≠ (v252 : Value).ownBlock) (Kd.R_keptB ((Kd.R_apart' HO_8.out (Kd.R_typed HO_7.out) (by decide))) hkp (fun k_ hk_ hs_ => (hk_.2) hs_)) (fun k_ hk_ => hk_.1.1)); have n3_ := Aside0.mk (Kd.R_mono (ok' := fun k_ => some k_ ≠ (.slice Ao13 t254.length co13 : Value).ownBlock) (Kd.R_keptB (HO264.out) hkp (fun k_ hk_ hs_ => (hk_.2) hs_)) (fun k_ hk_ => hk_.1.2)); have n4_ := Aside0.mk (hb); clear HO_5; clear HO_7; clear HO_8; clear HO264; clear HB; have HO_5 := n0_; have HO_7 := n1_; have HO_8 := n2_; have HO264 := n3_; have HB := n4_; clear n0_ n1_ n2_ n3_ n4_; (try clear hb); (try clear hkp); (try clear hy0)))
         (try simp only [Act.put, List.setIfInBounds_toArray, List.set_cons_zero, List.set_cons_succ])
         go_cut [62] (fun v62 wc => ∃ (kq : Nat) (x62_23 : Bool), v62 = .bool x62_23 ∧ Aside0 (laws_FnExactStrongLobes.j1 kq l0 a1 t250 t251 t257 x62_23 = some r) ∧ Aside0 (kq ≤ kj7) ∧ Aside0 (Kd.R (Kd.int .i64) 2 wc w.heap.size (fun k_ => some k_ ≠ (v259 : Value).ownBlock) v252 t250) ∧ Aside0 (Kd.R (Kd.int .i64) 2 wc w.heap.size (fun k_ => some k_ ≠ (v252 : Value).ownBlock) v259 t257) ∧ Aside0 (Below w.heap.size w wc))
         case first =>
          have H := HC24.out
          clear HC24
          by_cases c28 : t266 < 0
          · rw [if_pos c28] at H
            exact absurd H (by simp)
          · rw [if_neg c28] at H
            have c28b0 : decide (t266 < 0) = false := decide_eq_false c28
            clear c28
            (first | rw [c28b0] | (simp only [i64_w, i32_w]; rw [c28b0]) | skip)
            replace H := Option.bind_eq_some_iff.mp H
            obtain ⟨t268, A290, H⟩ := H
            replace H : (if t268 = true then (laws_FnExactStrongLobes.j1 kj7 l0 a1 t250 t251 t257 (t258 != t251)) else (none)) = some r := H
            have A29 := Aside0.mk A290
            clear A290
            by_cases c30 : t268 = true
            · subst c30
              have H1 : (laws_FnExactStrongLobes.j1 kj7 l0 a1 t250 t251 t257 (t258 != t251)) = some r := by rw [if_pos rfl] at H; exact H
              clear H
              have H := H1
              clear H1
              as_aux_lemma =>
               have H' := Aside0.mk H
               clear H
               obtain ⟨Ao31, co31, eo31⟩ := Kd.R_slice HO_8.out
               subst eo31
               obtain ⟨Ao32, co32, eo32⟩ := Kd.R_slice HO_5.out
               subst eo32
               go_wp2_with (first | (go_at_call 19; (with_reducible refine (laws_eqInt64S.calls kj7 _ _ t257 _ _ t250 true _ ?side1 ?side2 ?side3 ?side4 A29.out).mono ?_); (case side1 => repeat (first | exact (Kd.R_reads' HO_8.out).2.2 | (with_reducible refine Kd.C_alloc ?_ _) | (with_reducible refine Kd.C_drewN ?_ _) | (with_reducible refine Kd.C_drew ?_))); (case side2 => exact (Kd.R_reads' HO_8.out).2.1); (case side3 => repeat (first | exact (Kd.R_reads' HO_5.out).2.2 | (with_reducible refine Kd.C_alloc ?_ _) | (with_reducible refine Kd.C_drewN ?_ _) | (with_reducible refine Kd.C_drew ?_))); (case side4 => exact (Kd.R_reads' HO_5.out).2.1); rintro e w' ⟨rfl, ⟨nd, rfl⟩⟩))
               go_meet
               case rel => exact ⟨_, ((t258 != t251)), (by first | rfl | (simp; done) | (simp [*]; done)), H', ⟨by have := HJ7.out; first | omega | exact Nat.le_refl _⟩, ⟨by (with_reducible repeat (first | apply Kd.R_alloc | apply Kd.R_drewN | apply Kd.R_drew)); exact HO_5.out⟩, ⟨by (with_reducible repeat (first | apply Kd.R_alloc | apply Kd.R_drewN | apply Kd.R_drew)); exact HO_8.out⟩, ⟨by repeat (first | (with_reducible first | exact HB.out | apply below_alloc | apply pw_below_drewN | apply below_drew1) | exact HB.out)⟩⟩
            · replace c30 := Bool.eq_false_iff.mpr c30
              subst c30
              have H1 : (none) = some r := by rw [if_neg (show ¬ (false = true) by decide)] at H; exact H
              clear H
              have H := H1
              clear H1
              exact absurd H (by simp)
         case rest =>
          clear HC24
          (try clear c1); (try clear c2); (try clear p2); (try clear c3); (try clear c3b0); (try clear c3b1); (try clear c5); (try clear c9); (try clear c11); (try clear c16); (try clear c17); (try clear c18); (try clear c19); (try clear c20); (try clear c22); (try clear c28); (try clear c28b0); (try clear c30); (try clear p2)
          obtain ⟨kq, x62_23, rfl, HA, HJ23, HO_5, HO_8, HB⟩ := hcut
          cases kq with
          | zero => exact absurd HA.out (by simp [laws_FnExactStrongLobes.j1])
          | succ kj23 =>
           have H := HA.out
           clear HA
           simp only [laws_FnExactStrongLobes.j1] at H
           by_cases c33 : x62_23 = true
           · subst c33
             have H1 : (none) = some r := by rw [if_pos rfl] at H; exact H
             clear H
             have H := H1
             clear H1
             exact absurd H (by simp)
           · replace c33 := Bool.eq_false_iff.mpr c33
             subst c33
             have H1 : ((laws_markInt64S.f kj23 t257 1).bind fun bt269 => ((laws_heldInt64S.f kj23 bt269.2 1).bind fun t271 => (if t271 < 0 then (none) else (if t271 = bt269.1 then ((laws_toFloat32S.f kj23 l0).bind fun t272 => ((impl_StrongLobes.f kj23 t272 a1).bind fun bt275 => ((laws_eqInt64S.f kj23 bt275.1 t250).bind fun t279 => (if t279 = true then (laws_FnExactStrongLobes.j2 kj23 bt269.2 bt269.1 (bt275.2 != t251)) else (none))))) else (none))))) = some r := by rw [if_neg (show ¬ (false = true) by decide)] at H; exact H
             clear H
             have H := H1
             clear H1
             replace H := Option.bind_eq_some_iff.mp H
             obtain ⟨⟨t269, t270⟩, A340, H⟩ := H
             replace H : ((laws_heldInt64S.f kj23 t270 1).bind fun t271 => (if t271 < 0 then (none) else (if t271 = t269 then ((laws_toFloat32S.f kj23 l0).bind fun t272 => ((impl_StrongLobes.f kj23 t272 a1).bind fun bt275 => ((laws_eqInt64S.f kj23 bt275.1 t250).bind fun t279 => (if t279 = true then (laws_FnExactStrongLobes.j2 kj23 t270 t269 (bt275.2 != t251)) else (none))))) else (none)))) = some r := H
             have A34 := Aside0.mk A340
             clear A340
             replace H := Option.bind_eq_some_iff.mp H
             obtain ⟨t271, A350, H⟩ := H
             replace H : (if t271 < 0 then (none) else (if t271 = t269 then ((laws_toFloat32S.f kj23 l0).bind fun t272 => ((impl_StrongLobes.f kj23 t272 a1).bind fun bt275 => ((laws_eqInt64S.f kj23 bt275.1 t250).bind fun t279 => (if t279 = true then (laws_FnExactStrongLobes.j2 kj23 t270 t269 (bt275.2 != t251)) else (none))))) else (none))) = some r := H
             have A35 := Aside0.mk A350
             clear A350
             by_cases c36 : t271 < 0
             · rw [if_pos c36] at H
               exact absurd H (by simp)
             · rw [if_neg c36] at H
               have c36b0 : decide (t271 < 0) = false := decide_eq_false c36
               clear c36
               by_cases c37 : t271 = t269
               · rw [if_pos c37] at H
                 have c37b0 : (t271 == t269) = true := beq_iff_eq.mpr c37
                 have c37b1 : (t271 != t269) = false := bne_eq_false_iff_eq.mpr c37
                 clear c37
                 replace H := Option.bind_eq_some_iff.mp H
                 obtain ⟨t272, A380, H⟩ := H
                 replace H : ((impl_StrongLobes.f kj23 t272 a1).bind fun bt275 => ((laws_eqInt64S.f kj23 bt275.1 t250).bind fun t279 => (if t279 = true then (laws_FnExactStrongLobes.j2 kj23 t270 t269 (bt275.2 != t251)) else (none)))) = some r := H
                 have A38 := Aside0.mk A380
                 clear A380
                 replace H := Option.bind_eq_some_iff.mp H
                 obtain ⟨⟨t275, t276⟩, A390, H⟩ := H
                 replace H : ((laws_eqInt64S.f kj23 t275 t250).bind fun t279 => (if t279 = true then (laws_FnExactStrongLobes.j2 kj23 t270 t269 (t276 != t251)) else (none))) = some r := H
                 have A39 := Aside0.mk A390
                 clear A390
                 have HC40 := Aside0.mk H
                 clear H
                 obtain ⟨Ao41, co41, eo41⟩ := Kd.R_slice HO_8.out
                 subst eo41
                 go_upto_region 23 with (first | ((with_reducible refine gate_callee (f := 21) rfl ?_); refine goesL_ (some 65) rfl rfl Try.func21 (by kernel_rfl) rfl #[.slice Ao41 t257.length co41, .int .i64 1] rfl (by (try simp only [List.map_toArray, List.map_cons, List.map_nil]); first | done | rfl | (simp only [List.length_drop, List.length_take]; rfl)) ?_; (with_reducible refine (laws_markInt64S.calls kj23 (fun k_ => some k_ = (.slice Ao41 t257.length co41 : Value).ownBlock) (.slice Ao41 t257.length co41) t257 1 t269 t270 w _ ?side1 ?side2 A34.out).mono ?_); (case side1 => repeat (first | (with_reducible first | exact HB.out | apply below_alloc | apply pw_below_drewN | apply below_drew1) | exact HB.out)); (case side2 => exact Kd.R_tight rfl HO_8.out); rintro e w42 ⟨rfl, hy0, hb, hkp⟩; refine ⟨_, rfl, ?_⟩; have n0_ := Aside0.mk (Kd.R_mono (ok' := fun k_ => some k_ ≠ (.slice Ao41 t257.length co41 : Value).ownBlock) (Kd.R_keptB (HO_5.out) hkp (fun k_ hk_ hs_ => (hk_) hs_)) (fun k_ hk_ => hk_.1)); have n1_ := Aside0.mk (Kd.R_reok rfl hy0 (fun k_ e_ => HO_8.out.1 k_ e_)); have n2_ := Aside0.mk (hb); clear HO_5; clear HO_8; clear HB; have HO_5 := n0_; have HO_8 := n1_; have HB := n2_; clear n0_ n1_ n2_; (try clear hb); (try clear hkp); (try clear hy0)) | ((with_reducible refine gate_callee (f := 22) rfl ?_); refine goesL_ (some 68) rfl rfl Try.func22 (by kernel_rfl) rfl #[.slice Ao41 t270.length co41, .int .i64 1] rfl (by (try simp only [List.map_toArray, List.map_cons, List.map_nil]); first | done | (rw [show t270.length = t257.length from (Kd.R_reads' HO_8.out).1.symm] <;> rfl) | rfl | (simp only [List.length_drop, List.length_take]; rfl)) ?_; (with_reducible refine (laws_heldInt64S.calls kj23 _ _ t270 1 t271 _ ?side1 ?side2 A35.out).mono ?_); (case side1 => repeat (first | exact (Kd.R_reads' HO_8.out).2.2 | (with_reducible refine Kd.C_alloc ?_ _) | (with_reducible refine Kd.C_drewN ?_ _) | (with_reducible refine Kd.C_drew ?_))); (case side2 => rw [show t270.length = t257.length from (Kd.R_reads' HO_8.out).1.symm]; exact (Kd.R_reads' HO_8.out).2.1); rintro e w' ⟨rfl, ⟨nd, rfl⟩⟩; refine ⟨_, rfl, ?_⟩) | ((with_reducible refine gate_callee (f := 9) rfl ?_); refine goesL_ (some 76) rfl rfl Try.func9 (by kernel_rfl) rfl #[.slice A0 l0.length c0] rfl (by (try simp only [List.map_toArray, List.map_cons, List.map_nil]); first | done | rfl | (simp only [List.length_drop, List.length_take]; rfl)) ?_; (with_reducible refine (laws_toFloat32S.calls kj23 _ _ l0 t272 _ ?side1 ?side2 A38.out).mono ?_); (case side1 => repeat (first | exact (Kd.C_below HR0.out (by repeat (first | (with_reducible first | exact HB.out | apply below_alloc | apply pw_below_drewN | apply below_drew1) | exact HB.out))) | (with_reducible refine Kd.C_alloc ?_ _) | (with_reducible refine Kd.C_drewN ?_ _) | (with_reducible refine Kd.C_drew ?_))); (case side2 => exact HC0.out); rintro e w43 ⟨v273, rfl, ho0, hb⟩; refine ⟨_, rfl, ?_⟩; have n0_ := Aside0.mk (Kd.R_below (by (with_reducible repeat (first | apply Kd.R_alloc | apply Kd.R_drewN | apply Kd.R_drew)); exact HO_5.out) hb); have n1_ := Aside0.mk (Kd.R_below (by (with_reducible repeat (first | apply Kd.R_alloc | apply Kd.R_drewN | apply Kd.R_drew)); exact HO_8.out) hb); have n2_ := Aside0.mk (Kd.R_lower ho0 (below_size (by repeat (first | (with_reducible first | exact HB.out | apply below_alloc | apply pw_below_drewN | apply below_drew1) | exact HB.out)))); have n3_ := Aside0.mk (below_step (by repeat (first | (with_reducible first | exact HB.out | apply below_alloc | apply pw_below_drewN | apply below_drew1) | exact HB.out)) hb); clear HO_5; clear HO_8; clear HB; have HO_5 := n0_; have HO_8 := n1_; have HO274 := n2_; have HB := n3_; clear n0_ n1_ n2_ n3_; (try clear hb); (try clear hb2); (try clear hk); (try clear hi); (try clear ho0); obtain ⟨Ao44, co44, eo44⟩ := Kd.R_slice HO274.out; subst eo44) | ((with_reducible refine gate_callee (f := 18) rfl ?_); refine goesL_ (some 78) rfl rfl Try.func18 (by kernel_rfl) rfl #[.slice Ao44 t272.length co44, .int .i64 a1] rfl (by (try simp only [List.map_toArray, List.map_cons, List.map_nil]); first | done | rfl | (simp only [List.length_drop, List.length_take]; rfl)) ?_; (with_reducible refine (impl_StrongLobes.calls kj23 _ _ t272 a1 t275 t276 _ ?side1 ?side2 A39.out).mono ?_); (case side1 => repeat (first | exact (Kd.R_reads' HO274.out).2.2 | (with_reducible refine Kd.C_alloc ?_ _) | (with_reducible refine Kd.C_drewN ?_ _) | (with_reducible refine Kd.C_drew ?_))); (case side2 => exact (Kd.R_reads' HO274.out).2.1); rintro e w45 ⟨v277, rfl, ho0, hb⟩; refine ⟨_, rfl, ?_⟩; have n0_ := Aside0.mk (Kd.R_elder' (by (with_reducible repeat (first | apply Kd.R_alloc | apply Kd.R_drewN | apply Kd.R_drew)); exact HO_5.out) (Kd.R_base ho0) hb); have n1_ := Aside0.mk (Kd.R_elder' (by (with_reducible repeat (first | apply Kd.R_alloc | apply Kd.R_drewN | apply Kd.R_drew)); exact HO_8.out) (Kd.R_base ho0) hb); have n2_ := Aside0.mk (Kd.R_below (by (with_reducible repeat (first | apply Kd.R_alloc | apply Kd.R_drewN | apply Kd.R_drew)); exact HO274.out) hb); have n3_ := Aside0.mk (Kd.R_lower (Kd.R_new' (Kd.R_new' ho0 (Kd.R_lt (by (with_reducible repeat (first | apply Kd.R_alloc | apply Kd.R_drewN | apply Kd.R_drew)); exact HO_5.out))) (Kd.R_lt (by (with_reducible repeat (first | apply Kd.R_alloc | apply Kd.R_drewN | apply Kd.R_drew)); exact HO_8.out))) (below_size (by repeat (first | (with_reducible first | exact HB.out | apply below_alloc | apply pw_below_drewN | apply below_drew1) | exact HB.out)))); have n4_ := Aside0.mk (below_step (by repeat (first | (with_reducible first | exact HB.out | apply below_alloc | apply pw_below_drewN | apply below_drew1) | exact HB.out)) hb); clear HO_5; clear HO_8; clear HO274; clear HB; have HO_5 := n0_; have HO_8 := n1_; have HO274 := n2_; have HO278 := n3_; have HB := n4_; clear n0_ n1_ n2_ n3_ n4_; (try clear hb); (try clear hb2); (try clear hk); (try clear hi); (try clear ho0)))
                 (try simp only [Act.put, List.setIfInBounds_toArray, List.set_cons_zero, List.set_cons_succ])
                 go_cut [89] (fun v89 wc => ∃ (kq : Nat) (x89_39 : Bool), v89 = .bool x89_39 ∧ Aside0 (laws_FnExactStrongLobes.j2 kq t270 t269 x89_39 = some r) ∧ Aside0 (kq ≤ kj23) ∧ Aside0 (Kd.R (Kd.int .i64) 2 wc w.heap.size (fun _ => True) (.slice Ao41 t257.length co41) t270) ∧ Aside0 (Below w.heap.size w wc))
                 case first =>
                  have H := HC40.out
                  clear HC40
                  replace H := Option.bind_eq_some_iff.mp H
                  obtain ⟨t279, A460, H⟩ := H
                  replace H : (if t279 = true then (laws_FnExactStrongLobes.j2 kj23 t270 t269 (t276 != t251)) else (none)) = some r := H
                  have A46 := Aside0.mk A460
                  clear A460
                  by_cases c47 : t279 = true
                  · subst c47
                    have H1 : (laws_FnExactStrongLobes.j2 kj23 t270 t269 (t276 != t251)) = some r := by rw [if_pos rfl] at H; exact H
                    clear H
                    have H := H1
                    clear H1
                    as_aux_lemma =>
                     have H' := Aside0.mk H
                     clear H
                     obtain ⟨Ao48, co48, eo48⟩ := Kd.R_slice HO278.out
                     subst eo48
                     obtain ⟨Ao49, co49, eo49⟩ := Kd.R_slice HO_5.out
                     subst eo49
                     go_wp2_with (first | ((with_reducible refine gate_callee (f := 19) rfl ?_); refine goesL_ (some 83) rfl rfl Try.func19 (by kernel_rfl) rfl #[.slice Ao48 t275.length co48, .slice Ao49 t250.length co49] rfl (by (try simp only [List.map_toArray, List.map_cons, List.map_nil]); first | done | rfl | (simp only [List.length_drop, List.length_take]; rfl)) ?_; (with_reducible refine (laws_eqInt64S.calls kj23 _ _ t275 _ _ t250 true _ ?side1 ?side2 ?side3 ?side4 A46.out).mono ?_); (case side1 => repeat (first | exact (Kd.R_reads' HO278.out).2.2 | (with_reducible refine Kd.C_alloc ?_ _) | (with_reducible refine Kd.C_drewN ?_ _) | (with_reducible refine Kd.C_drew ?_))); (case side2 => exact (Kd.R_reads' HO278.out).2.1); (case side3 => repeat (first | exact (Kd.R_reads' HO_5.out).2.2 | (with_reducible refine Kd.C_alloc ?_ _) | (with_reducible refine Kd.C_drewN ?_ _) | (with_reducible refine Kd.C_drew ?_))); (case side4 => exact (Kd.R_reads' HO_5.out).2.1); rintro e w' ⟨rfl, ⟨nd, rfl⟩⟩; refine ⟨_, rfl, ?_⟩))
                     go_meet
                     case rel => exact ⟨_, ((t276 != t251)), (by first | rfl | (simp; done) | (simp [*]; done)), H', ⟨by have := HJ7.out; have := HJ23.out; first | omega | exact Nat.le_refl _⟩, ⟨by (with_reducible repeat (first | apply Kd.R_alloc | apply Kd.R_drewN | apply Kd.R_drew)); exact Kd.R_mono HO_8.out (fun _ hk => trivial)⟩, ⟨by repeat (first | (with_reducible first | exact HB.out | apply below_alloc | apply pw_below_drewN | apply below_drew1) | exact HB.out)⟩⟩
                  · replace c47 := Bool.eq_false_iff.mpr c47
                    subst c47
                    have H1 : (none) = some r := by rw [if_neg (show ¬ (false = true) by decide)] at H; exact H
                    clear H
                    have H := H1
                    clear H1
                    exact absurd H (by simp)
                 case rest =>
                  clear HC40
                  (try clear c1); (try clear c2); (try clear p2); (try clear c3); (try clear c3b0); (try clear c3b1); (try clear c4); (try clear c5); (try clear c9); (try clear c11); (try clear c16); (try clear c17); (try clear c18); (try clear c19); (try clear c20); (try clear c21); (try clear c22); (try clear c28); (try clear c28b0); (try clear c30); (try clear c33); (try clear c36); (try clear c36b0); (try clear c37); (try clear c37b0); (try clear c37b1); (try clear c47); (try clear p2)
                  obtain ⟨kq, x89_39, rfl, HA, HJ39, HO_8, HB⟩ := hcut
                  have hl8_39 := (Kd.R_reads' HO_8.out).1
                  rw [hl8_39] at HO_8
                  (try simp only [hl8_39])
                  cases kq with
                  | zero => exact absurd HA.out (by simp [laws_FnExactStrongLobes.j2])
                  | succ kj39 =>
                   have H := HA.out
                   clear HA
                   simp only [laws_FnExactStrongLobes.j2] at H
                   by_cases c50 : x89_39 = true
                   · subst c50
                     have H1 : (none) = some r := by rw [if_pos rfl] at H; exact H
                     clear H
                     have H := H1
                     clear H1
                     exact absurd H (by simp)
                   · replace c50 := Bool.eq_false_iff.mpr c50
                     subst c50
                     have H1 : ((laws_heldInt64S.f kj39 t270 1).bind fun t280 => (if t280 < 0 then (none) else (if t280 = t269 then (some true) else (none)))) = some r := by rw [if_neg (show ¬ (false = true) by decide)] at H; exact H
                     clear H
                     have H := H1
                     clear H1
                     replace H := Option.bind_eq_some_iff.mp H
                     obtain ⟨t280, A510, H⟩ := H
                     replace H : (if t280 < 0 then (none) else (if t280 = t269 then (some true) else (none))) = some r := H
                     have A51 := Aside0.mk A510
                     clear A510
                     by_cases c52 : t280 < 0
                     · rw [if_pos c52] at H
                       exact absurd H (by simp)
                     · rw [if_neg c52] at H
                       have c52b0 : decide (t280 < 0) = false := decide_eq_false c52
                       clear c52
                       by_cases c53 : t280 = t269
                       · rw [if_pos c53] at H
                         have c53b0 : (t280 == t269) = true := beq_iff_eq.mpr c53
                         have c53b1 : (t280 != t269) = false := bne_eq_false_iff_eq.mpr c53
                         clear c53
                         as_aux_lemma =>
                          obtain rfl := Option.some.inj H
                          go_wp2_with (first | ((with_reducible refine gate_callee (f := 22) rfl ?_); refine goesL_ (some 92) rfl rfl Try.func22 (by kernel_rfl) rfl #[.slice Ao41 t270.length co41, .int .i64 1] rfl (by (try simp only [List.map_toArray, List.map_cons, List.map_nil]); first | done | rfl | (simp only [List.length_drop, List.length_take]; rfl)) ?_; (with_reducible refine (laws_heldInt64S.calls kj39 _ _ t270 1 t280 _ ?side1 ?side2 A51.out).mono ?_); (case side1 => repeat (first | exact (Kd.R_reads' HO_8.out).2.2 | (with_reducible refine Kd.C_alloc ?_ _) | (with_reducible refine Kd.C_drewN ?_ _) | (with_reducible refine Kd.C_drew ?_))); (case side2 => exact (Kd.R_reads' HO_8.out).2.1); rintro e w' ⟨rfl, ⟨nd, rfl⟩⟩; refine ⟨_, rfl, ?_⟩))
                          go_ret
                          exact ⟨by first | rfl | (simp [errW_none, errW_some] <;> rfl) | (simp [*, errW_none, errW_some] <;> rfl), by repeat (first | (with_reducible first | exact HB.out | apply below_alloc | apply pw_below_drewN | apply below_drew1) | exact HB.out)⟩
                       · rw [if_neg c53] at H
                         exact absurd H (by simp)
               · rw [if_neg c37] at H
                 exact absurd H (by simp)
       · replace c22 := Bool.eq_false_iff.mpr c22
         subst c22
         have H1 : (none) = some r := by rw [if_neg (show ¬ (false = true) by decide)] at H; exact H
         clear H
         have H := H1
         clear H1
         exact absurd H (by simp)

end Go.Proofs.Ytncckihaacceaaa.L
