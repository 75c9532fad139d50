/-
  Contracts of the program's functions, each a plain Lean function beside the machine's call: written by this session's program over the kit's print.
-/
import Derived.Test.YtncckihaacceaaaLx0
import Derived.Test.YtncckihaacceaaaLx3
import Derived.Test.YtncckihaacceaaaLx5
import Derived.Test.YtncckihaacceaaaLx7
namespace Go.Proofs.Ytncckihaacceaaa.L
open Go.RowKit Go.Proofs.YtncckihaacceaaaW.PrintWords Go.Proofs.YtncckihaacceaaaW.PrintLast Go.Proofs.YtncckihaacceaaaW.PrintMore
attribute [local go_sem] max2_int min2_int max_two min_two max_three min_three max_four min_four   -- for this text's walks alone
set_option linter.unusedVariables false
set_option linter.unusedSimpArgs false

/-! ### slices_stableCmpFunc_int64: function 73 -/
mutual
def slices_stableCmpFunc_int64.l0 : Nat → List Int → Int → List Nat → Int → Int → Int → Option (List Int)
 | 0, _, _, _, _, _, _ => none
 | k + 1, x0, x1, x2, x6, x7, x8 => if x8 ≤ x1 then ((slices_insertionSortCmpFunc_int64.f k x0 x7 x8 x2).bind fun t237 => (slices_stableCmpFunc_int64.l0 k t237 x1 x2 x6 x8 (wrap64 (x8 + x6)))) else ((slices_insertionSortCmpFunc_int64.f k x0 x7 x1 x2).bind fun t238 => (slices_stableCmpFunc_int64.l1 k t238 x1 x2 x6))
def slices_stableCmpFunc_int64.l1 : Nat → List Int → Int → List Nat → Int → Option (List Int)
 | 0, _, _, _, _ => none
 | k + 1, x0, x1, x2, x6 => if x6 < x1 then (slices_stableCmpFunc_int64.l2 k x0 x1 x2 x6 0 (wrap64 (2 * x6))) else (some x0)
def slices_stableCmpFunc_int64.l2 : Nat → List Int → Int → List Nat → Int → Int → Int → Option (List Int)
 | 0, _, _, _, _, _, _ => none
 | k + 1, x0, x1, x2, x6, x7, x8 => if x8 ≤ x1 then ((slices_symMergeCmpFunc_int64.f k x0 x7 (wrap64 (x7 + x6)) x8 x2).bind fun t239 => (slices_stableCmpFunc_int64.l2 k t239 x1 x2 x6 x8 (wrap64 (x8 + (wrap64 (2 * x6)))))) else (if (wrap64 (x7 + x6)) < x1 then ((slices_symMergeCmpFunc_int64.f k x0 x7 (wrap64 (x7 + x6)) x1 x2).bind fun t240 => (slices_stableCmpFunc_int64.l1 k t240 x1 x2 (wrap64 (x6 * 2)))) else (slices_stableCmpFunc_int64.l1 k x0 x1 x2 (wrap64 (x6 * 2))))
end
def slices_stableCmpFunc_int64.f (k : Nat) (l0 : List Int) (a1 : Int) (l2 : List Nat) : Option (List Int) := slices_stableCmpFunc_int64.l0 k l0 a1 l2 20 0 20
theorem slices_stableCmpFunc_int64.mono_l : ∀ k, (∀ y0 y1 y2 y3 y4 y5, LeO (slices_stableCmpFunc_int64.l0 k y0 y1 y2 y3 y4 y5) (slices_stableCmpFunc_int64.l0 (k + 1) y0 y1 y2 y3 y4 y5)) ∧ (∀ y0 y1 y2 y3, LeO (slices_stableCmpFunc_int64.l1 k y0 y1 y2 y3) (slices_stableCmpFunc_int64.l1 (k + 1) y0 y1 y2 y3)) ∧ (∀ y0 y1 y2 y3 y4 y5, LeO (slices_stableCmpFunc_int64.l2 k y0 y1 y2 y3 y4 y5) (slices_stableCmpFunc_int64.l2 (k + 1) y0 y1 y2 y3 y4 y5))
 | 0 => ⟨fun _ _ _ _ _ _ r h => by simp [slices_stableCmpFunc_int64.l0] at h, fun _ _ _ _ r h => by simp [slices_stableCmpFunc_int64.l1] at h, fun _ _ _ _ _ _ r h => by simp [slices_stableCmpFunc_int64.l2] at h⟩
 | k + 1 => by
  obtain ⟨ih0, ih1, ih2⟩ := slices_stableCmpFunc_int64.mono_l k
  refine ⟨?_, ?_, ?_⟩
  · intro y0 y1 y2 y3 y4 y5
    unfold slices_stableCmpFunc_int64.l0
    repeat' first
    | (with_reducible exact ih0 _ _ _ _ _ _)
    | (with_reducible exact ih1 _ _ _ _)
    | (with_reducible exact ih2 _ _ _ _ _ _)
    | (with_reducible exact slices_insertionSortCmpFunc_int64.mono _ _ _ _ _)
    | (with_reducible exact slices_symMergeCmpFunc_int64.mono _ _ _ _ _ _)
    | (with_reducible exact LeO.refl _)
    | (with_reducible exact LeO.none _)
    | (with_reducible refine LeO.ite ?_ ?_)
    | (with_reducible refine LeO.bind ?_ (fun _ => ?_))
    | exact ih0 _ _ _ _ _ _
    | exact ih1 _ _ _ _
    | exact ih2 _ _ _ _ _ _
    | exact slices_insertionSortCmpFunc_int64.mono _ _ _ _ _
    | exact slices_symMergeCmpFunc_int64.mono _ _ _ _ _ _
    | exact LeO.none _
    | refine LeO.ite ?_ ?_
    | refine LeO.bind ?_ (fun _ => ?_)
  · intro y0 y1 y2 y3
    unfold slices_stableCmpFunc_int64.l1
    repeat' first
    | (with_reducible exact ih0 _ _ _ _ _ _)
    | (with_reducible exact ih1 _ _ _ _)
    | (with_reducible exact ih2 _ _ _ _ _ _)
    | (with_reducible exact slices_insertionSortCmpFunc_int64.mono _ _ _ _ _)
    | (with_reducible exact slices_symMergeCmpFunc_int64.mono _ _ _ _ _ _)
    | (with_reducible exact LeO.refl _)
    | (with_reducible exact LeO.none _)
    | (with_reducible refine LeO.ite ?_ ?_)
    | (with_reducible refine LeO.bind ?_ (fun _ => ?_))
    | exact ih0 _ _ _ _ _ _
    | exact ih1 _ _ _ _
    | exact ih2 _ _ _ _ _ _
    | exact slices_insertionSortCmpFunc_int64.mono _ _ _ _ _
    | exact slices_symMergeCmpFunc_int64.mono _ _ _ _ _ _
    | exact LeO.none _
    | refine LeO.ite ?_ ?_
    | refine LeO.bind ?_ (fun _ => ?_)
  · intro y0 y1 y2 y3 y4 y5
    unfold slices_stableCmpFunc_int64.l2
    repeat' first
    | (with_reducible exact ih0 _ _ _ _ _ _)
    | (with_reducible exact ih1 _ _ _ _)
    | (with_reducible exact ih2 _ _ _ _ _ _)
    | (with_reducible exact slices_insertionSortCmpFunc_int64.mono _ _ _ _ _)
    | (with_reducible exact slices_symMergeCmpFunc_int64.mono _ _ _ _ _ _)
    | (with_reducible exact LeO.refl _)
    | (with_reducible exact LeO.none _)
    | (with_reducible refine LeO.ite ?_ ?_)
    | (with_reducible refine LeO.bind ?_ (fun _ => ?_))
    | exact ih0 _ _ _ _ _ _
    | exact ih1 _ _ _ _
    | exact ih2 _ _ _ _ _ _
    | exact slices_insertionSortCmpFunc_int64.mono _ _ _ _ _
    | exact slices_symMergeCmpFunc_int64.mono _ _ _ _ _ _
    | exact LeO.none _
    | refine LeO.ite ?_ ?_
    | refine LeO.bind ?_ (fun _ => ?_)
theorem slices_stableCmpFunc_int64.mono : ∀ a0 a1 a2 k, LeO (slices_stableCmpFunc_int64.f k a0 a1 a2) (slices_stableCmpFunc_int64.f (k + 1) a0 a1 a2) := by
 intro a0 a1 a2 k
 obtain ⟨ih0, ih1, ih2⟩ := slices_stableCmpFunc_int64.mono_l k
 unfold slices_stableCmpFunc_int64.f
 repeat' first
  | (with_reducible exact ih0 _ _ _ _ _ _)
  | (with_reducible exact ih1 _ _ _ _)
  | (with_reducible exact ih2 _ _ _ _ _ _)
  | (with_reducible exact slices_insertionSortCmpFunc_int64.mono _ _ _ _ _)
  | (with_reducible exact slices_symMergeCmpFunc_int64.mono _ _ _ _ _ _)
  | (with_reducible exact LeO.refl _)
  | (with_reducible exact LeO.none _)
  | (with_reducible refine LeO.ite ?_ ?_)
  | (with_reducible refine LeO.bind ?_ (fun _ => ?_))
  | exact ih0 _ _ _ _ _ _
  | exact ih1 _ _ _ _
  | exact ih2 _ _ _ _ _ _
  | exact slices_insertionSortCmpFunc_int64.mono _ _ _ _ _
  | exact slices_symMergeCmpFunc_int64.mono _ _ _ _ _ _
  | exact LeO.none _
  | refine LeO.ite ?_ ?_
  | refine LeO.bind ?_ (fun _ => ?_)
set_option maxHeartbeats 8000000 in
set_option maxRecDepth 100000 in
theorem slices_stableCmpFunc_int64.calls (k : Nat) (P0_ : Nat → Prop) (u9000_ : Value) (l0 : List Int) (a1 : Int) (F2 : Value) (l2 : List Nat) (r : List Int) (w0 w : World) (hB : Below w0.heap.size w0 w) (ho0 : Kd.R (Kd.int .i64) 2 w w0.heap.size P0_ u9000_ l0) (hr2 : ∀ W_, Kept w W_ (fun k_ => P0_ k_) → Clo W_ F2 l2) (h : slices_stableCmpFunc_int64.f k l0 a1 l2 = some r) :
 Calls Try.prog 73 #[u9000_, .int .i64 a1, F2] w fun e w' => e = .returned (.tuple #[]) ∧ Kd.R (Kd.int .i64) 2 w' w0.heap.size (fun k_ => (P0_ k_ ∨ w.heap.size ≤ k_)) u9000_ r ∧ Below w0.heap.size w0 w' ∧ Kept w w' (fun k_ => P0_ k_) := by
 have HO0 := Aside0.mk (show Kd.R (Kd.int .i64) 2 w w0.heap.size (fun k_ => (P0_ k_ ∨ w.heap.size ≤ k_)) u9000_ l0 from Kd.R_mono ho0 (fun k_ hk => (.inl hk)))
 have HR2 := Aside0.mk hr2
 clear hr2
 have HK := Aside0.mk (Kept.refl w (fun k_ => P0_ k_))
 have HW0 := Aside0.mk hB.size
 have HB := Aside0.mk hB
 clear hB
 have H : (slices_stableCmpFunc_int64.l0 k l0 a1 l2 20 0 20) = some r := h
 clear h
 have H' := Aside0.mk H
 clear H
 go_enter Try.func73, Try.ntmps73
 go_wp2
 (try simp only [Act.put, List.setIfInBounds_toArray, List.set_cons_zero, List.set_cons_succ])
 go_loopg [7, 8] k (fun kq v7 v8 w' => ∃ (x0_1 : List Int) (x7_1 : Int) (x8_1 : Int), v7 = .int .i64 x7_1 ∧ v8 = .int .i64 x8_1 ∧ Aside0 (slices_stableCmpFunc_int64.l0 kq x0_1 a1 l2 20 x7_1 x8_1 = some r) ∧ Aside0 (kq ≤ k) ∧ Aside0 (Kd.R (Kd.int .i64) 2 w' w0.heap.size (fun k_ => (P0_ k_ ∨ w.heap.size ≤ k_)) u9000_ x0_1) ∧ Aside0 (Kept w w' (fun k_ => P0_ k_)) ∧ Aside0 (Below w0.heap.size w0 w'))
 case atStart => exact ⟨(l0), (0), (20), (by first | rfl | (simp; done) | (simp [*]; done)), (by first | rfl | (simp; done) | (simp [*]; done)), H', ⟨Nat.le_refl _⟩, ⟨by (with_reducible repeat (first | apply Kd.R_alloc | apply Kd.R_drewN | apply Kd.R_drew)); exact HO0.out⟩, ⟨by repeat (first | (with_reducible first | exact HK.out | apply Kept.alloc | apply Kept.drewN | apply Kept.drew) | exact HK.out)⟩, ⟨by repeat (first | (with_reducible first | exact HB.out | apply below_alloc | apply pw_below_drewN | apply below_drew1) | exact HB.out)⟩⟩
 case round =>
  clear H'
  (try clear c2); (try clear p2)
  obtain ⟨x0_1, x7_1, x8_1, rfl, rfl, HA, HK1, HO_0, HK, HB⟩ := hrel
  cases gk with
  | zero => exact absurd HA.out (by simp [slices_stableCmpFunc_int64.l0])
  | succ k1 =>
   have H := HA.out
   clear HA
   simp only [slices_stableCmpFunc_int64.l0] at H
   by_cases c4 : x8_1 ≤ a1
   · rw [if_pos c4] at H
     have c4b0 : decide (x8_1 ≤ a1) = true := decide_eq_true c4
     clear c4
     replace H := Option.bind_eq_some_iff.mp H
     obtain ⟨t237, A50, H⟩ := H
     replace H : (slices_stableCmpFunc_int64.l0 k1 t237 a1 l2 20 x8_1 (wrap64 (x8_1 + 20))) = some r := H
     have A5 := Aside0.mk A50
     clear A50
     as_aux_lemma =>
      have H' := Aside0.mk H
      clear H
      obtain ⟨Ao6, co6, eo6⟩ := Kd.R_slice HO_0.out
      subst eo6
      go_wp2_with (first | ((with_reducible refine gate_callee (f := 91) rfl ?_); refine goesL_ (some 18) rfl rfl Try.func91 (by kernel_rfl) rfl #[.slice Ao6 x0_1.length co6, .int .i64 x7_1, .int .i64 x8_1, F2] rfl (by (try simp only [List.map_toArray, List.map_cons, List.map_nil]); first | done | rfl | (simp only [List.length_drop, List.length_take]; rfl)) ?_; (with_reducible refine (slices_insertionSortCmpFunc_int64.calls k1 (fun k_ => some k_ = (.slice Ao6 x0_1.length co6 : Value).ownBlock) (.slice Ao6 x0_1.length co6) x0_1 x7_1 x8_1 _ l2 t237 w0 _ ?side1 ?side2 ?side3 A5.out).mono ?_); (case side1 => repeat (first | (with_reducible first | exact HB.out | apply below_alloc | apply pw_below_drewN | apply below_drew1) | exact HB.out)); (case side2 => exact Kd.R_tight rfl HO_0.out); (case side3 => exact P_kept_call HR2.out (by repeat (first | (with_reducible first | exact HK.out | apply Kept.alloc | apply Kept.drewN | apply Kept.drew) | exact HK.out)) (fun k_ hs_ => (fun e_ => (HO_0.out.1 k_ e_.symm)) hs_)); rintro e w7 ⟨rfl, hy0, hb, hkp⟩; refine ⟨_, rfl, ?_⟩; have n0_ := Aside0.mk (Kd.R_reok rfl hy0 (fun k_ e_ => HO_0.out.1 k_ e_)); have n1_ := Aside0.mk (Kept.then_ (S := (fun k_ => P0_ k_)) (by repeat (first | (with_reducible first | exact HK.out | apply Kept.alloc | apply Kept.drewN | apply Kept.drew) | exact HK.out)) hkp (fun k_ hs_ => (fun e_ => (HO_0.out.1 k_ e_.symm)) hs_)); have n2_ := Aside0.mk (hb); clear HO_0; clear HK; clear HB; have HO_0 := n0_; have HK := n1_; have HB := n2_; clear n0_ n1_ n2_; (try clear hb); (try clear hkp); (try clear hy0)))
      go_roundg k1
      case measure => have := HK1.out; omega
      case rel => exact ⟨(t237), (x8_1), (wrap64 (x8_1 + 20)), (by first | rfl | (simp; done) | (simp [*]; done)), (by first | rfl | (simp; done) | (simp [*]; done)), H', ⟨by have := HK1.out; omega⟩, ⟨by (with_reducible repeat (first | apply Kd.R_alloc | apply Kd.R_drewN | apply Kd.R_drew)); exact HO_0.out⟩, ⟨by repeat (first | (with_reducible first | exact HK.out | apply Kept.alloc | apply Kept.drewN | apply Kept.drew) | exact HK.out)⟩, ⟨by repeat (first | (with_reducible first | exact HB.out | apply below_alloc | apply pw_below_drewN | apply below_drew1) | exact HB.out)⟩⟩
   · rw [if_neg c4] at H
     have c4b0 : decide (x8_1 ≤ a1) = false := decide_eq_false c4
     clear c4
     replace H := Option.bind_eq_some_iff.mp H
     obtain ⟨t238, A80, H⟩ := H
     replace H : (slices_stableCmpFunc_int64.l1 k1 t238 a1 l2 20) = some r := H
     have A8 := Aside0.mk A80
     clear A80
     have H' := Aside0.mk H
     clear H
     obtain ⟨Ao9, co9, eo9⟩ := Kd.R_slice HO_0.out
     subst eo9
     go_wp2_with (first | ((with_reducible refine gate_callee (f := 91) rfl ?_); refine goesL_ (some 27) rfl rfl Try.func91 (by kernel_rfl) rfl #[.slice Ao9 x0_1.length co9, .int .i64 x7_1, .int .i64 a1, F2] rfl (by (try simp only [List.map_toArray, List.map_cons, List.map_nil]); first | done | rfl | (simp only [List.length_drop, List.length_take]; rfl)) ?_; (with_reducible refine (slices_insertionSortCmpFunc_int64.calls k1 (fun k_ => some k_ = (.slice Ao9 x0_1.length co9 : Value).ownBlock) (.slice Ao9 x0_1.length co9) x0_1 x7_1 a1 _ l2 t238 w0 _ ?side1 ?side2 ?side3 A8.out).mono ?_); (case side1 => repeat (first | (with_reducible first | exact HB.out | apply below_alloc | apply pw_below_drewN | apply below_drew1) | exact HB.out)); (case side2 => exact Kd.R_tight rfl HO_0.out); (case side3 => exact P_kept_call HR2.out (by repeat (first | (with_reducible first | exact HK.out | apply Kept.alloc | apply Kept.drewN | apply Kept.drew) | exact HK.out)) (fun k_ hs_ => (fun e_ => (HO_0.out.1 k_ e_.symm)) hs_)); rintro e w10 ⟨rfl, hy0, hb, hkp⟩; refine ⟨_, rfl, ?_⟩; have n0_ := Aside0.mk (Kd.R_reok rfl hy0 (fun k_ e_ => HO_0.out.1 k_ e_)); have n1_ := Aside0.mk (Kept.then_ (S := (fun k_ => P0_ k_)) (by repeat (first | (with_reducible first | exact HK.out | apply Kept.alloc | apply Kept.drewN | apply Kept.drew) | exact HK.out)) hkp (fun k_ hs_ => (fun e_ => (HO_0.out.1 k_ e_.symm)) hs_)); have n2_ := Aside0.mk (hb); clear HO_0; clear HK; clear HB; have HO_0 := n0_; have HK := n1_; have HB := n2_; clear n0_ n1_ n2_; (try clear hb); (try clear hkp); (try clear hy0)))
     (try simp only [Act.put, List.setIfInBounds_toArray, List.set_cons_zero, List.set_cons_succ])
     go_loopg [6] k1 (fun kq v6 w' => ∃ (x0_2 : List Int) (x6_2 : Int), v6 = .int .i64 x6_2 ∧ Aside0 (slices_stableCmpFunc_int64.l1 kq x0_2 a1 l2 x6_2 = some r) ∧ Aside0 (kq ≤ k1) ∧ Aside0 (Kd.R (Kd.int .i64) 2 w' w0.heap.size (fun k_ => (P0_ k_ ∨ w.heap.size ≤ k_)) (.slice Ao9 x0_1.length co9) x0_2) ∧ Aside0 (Kept w w' (fun k_ => P0_ k_)) ∧ Aside0 (Below w0.heap.size w0 w'))
     case atStart => exact ⟨(t238), (20), (by first | rfl | (simp; done) | (simp [*]; done)), H', ⟨Nat.le_refl _⟩, ⟨by (with_reducible repeat (first | apply Kd.R_alloc | apply Kd.R_drewN | apply Kd.R_drew)); exact HO_0.out⟩, ⟨by repeat (first | (with_reducible first | exact HK.out | apply Kept.alloc | apply Kept.drewN | apply Kept.drew) | exact HK.out)⟩, ⟨by repeat (first | (with_reducible first | exact HB.out | apply below_alloc | apply pw_below_drewN | apply below_drew1) | exact HB.out)⟩⟩
     case round =>
      clear H'
      (try clear c2); (try clear p2); (try clear c4); (try clear c4b0); (try clear p6); (try clear c7); (try clear c9); (try clear p2)
      obtain ⟨x0_2, x6_2, rfl, HA, HK2, HO_0, HK, HB⟩ := hrel
      have hl0_2 := (Kd.R_reads' HO_0.out).1
      rw [hl0_2] at HO_0
      (try simp only [hl0_2])
      cases gk with
      | zero => exact absurd HA.out (by simp [slices_stableCmpFunc_int64.l1])
      | succ k2 =>
       have H := HA.out
       clear HA
       simp only [slices_stableCmpFunc_int64.l1] at H
       by_cases c11 : x6_2 < a1
       · rw [if_pos c11] at H
         have c11b0 : decide (x6_2 < a1) = true := decide_eq_true c11
         clear c11
         have H' := Aside0.mk H
         clear H
         go_wp2
         (try simp only [Act.put, List.setIfInBounds_toArray, List.set_cons_zero, List.set_cons_succ])
         go_loopg [7, 8] k2 (fun kq v7 v8 w' => ∃ (x0_3 : List Int) (x7_3 : Int) (x8_3 : Int), v7 = .int .i64 x7_3 ∧ v8 = .int .i64 x8_3 ∧ Aside0 (slices_stableCmpFunc_int64.l2 kq x0_3 a1 l2 x6_2 x7_3 x8_3 = some r) ∧ Aside0 (kq ≤ k2) ∧ Aside0 (Kd.R (Kd.int .i64) 2 w' w0.heap.size (fun k_ => (P0_ k_ ∨ w.heap.size ≤ k_)) (.slice Ao9 x0_2.length co9) x0_3) ∧ Aside0 (Kept w w' (fun k_ => P0_ k_)) ∧ Aside0 (Below w0.heap.size w0 w'))
         case atStart => exact ⟨(x0_2), (0), (wrap64 (2 * x6_2)), (by first | rfl | (simp; done) | (simp [*]; done)), (by first | rfl | (simp; done) | (simp [*]; done)), H', ⟨Nat.le_refl _⟩, ⟨by (try simp only [hl0_2]); (with_reducible repeat (first | apply Kd.R_alloc | apply Kd.R_drewN | apply Kd.R_drew)); exact HO_0.out⟩, ⟨by repeat (first | (with_reducible first | exact HK.out | apply Kept.alloc | apply Kept.drewN | apply Kept.drew) | exact HK.out)⟩, ⟨by repeat (first | (with_reducible first | exact HB.out | apply below_alloc | apply pw_below_drewN | apply below_drew1) | exact HB.out)⟩⟩
         case round =>
          clear H'
          (try clear c1); (try clear c2); (try clear p2); (try clear c4); (try clear c4b0); (try clear p6); (try clear c7); (try clear c9); (try clear c11); (try clear c11b0); (try clear p2); (try clear p6)
          obtain ⟨x0_3, x7_3, x8_3, rfl, rfl, HA, HK3, HO_0, HK, HB⟩ := hrel
          have hl0_3 := (Kd.R_reads' HO_0.out).1
          rw [hl0_3] at HO_0
          (try simp only [hl0_3])
          cases gk with
          | zero => exact absurd HA.out (by simp [slices_stableCmpFunc_int64.l2])
          | succ k3 =>
           have H := HA.out
           clear HA
           simp only [slices_stableCmpFunc_int64.l2] at H
           by_cases c12 : x8_3 ≤ a1
           · rw [if_pos c12] at H
             have c12b0 : decide (x8_3 ≤ a1) = true := decide_eq_true c12
             clear c12
             replace H := Option.bind_eq_some_iff.mp H
             obtain ⟨t239, A130, H⟩ := H
             replace H : (slices_stableCmpFunc_int64.l2 k3 t239 a1 l2 x6_2 x8_3 (wrap64 (x8_3 + (wrap64 (2 * x6_2))))) = some r := H
             have A13 := Aside0.mk A130
             clear A130
             as_aux_lemma =>
              have H' := Aside0.mk H
              clear H
              go_wp2_with (first | ((with_reducible refine gate_callee (f := 92) rfl ?_); refine goesL_ (some 43) rfl rfl Try.func92 (by kernel_rfl) rfl #[.slice Ao9 x0_3.length co9, .int .i64 x7_3, .int .i64 (wrap64 (x7_3 + x6_2)), .int .i64 x8_3, F2] rfl (by (try simp only [List.map_toArray, List.map_cons, List.map_nil]); first | done | rfl | (simp only [List.length_drop, List.length_take]; rfl)) ?_; (with_reducible refine (slices_symMergeCmpFunc_int64.calls k3 (fun k_ => some k_ = (.slice Ao9 x0_3.length co9 : Value).ownBlock) (.slice Ao9 x0_3.length co9) x0_3 x7_3 (wrap64 (x7_3 + x6_2)) x8_3 _ l2 t239 w0 _ ?side1 ?side2 ?side3 A13.out).mono ?_); (case side1 => repeat (first | (with_reducible first | exact HB.out | apply below_alloc | apply pw_below_drewN | apply below_drew1) | exact HB.out)); (case side2 => exact Kd.R_tight rfl HO_0.out); (case side3 => exact P_kept_call HR2.out (by repeat (first | (with_reducible first | exact HK.out | apply Kept.alloc | apply Kept.drewN | apply Kept.drew) | exact HK.out)) (fun k_ hs_ => (fun e_ => (HO_0.out.1 k_ e_.symm)) hs_)); rintro e w14 ⟨rfl, hy0, hb, hkp⟩; refine ⟨_, rfl, ?_⟩; have n0_ := Aside0.mk (Kd.R_reok rfl hy0 (fun k_ e_ => HO_0.out.1 k_ e_)); have n1_ := Aside0.mk (Kept.then_ (S := (fun k_ => P0_ k_)) (by repeat (first | (with_reducible first | exact HK.out | apply Kept.alloc | apply Kept.drewN | apply Kept.drew) | exact HK.out)) hkp (fun k_ hs_ => (fun e_ => (HO_0.out.1 k_ e_.symm)) hs_)); have n2_ := Aside0.mk (hb); clear HO_0; clear HK; clear HB; have HO_0 := n0_; have HK := n1_; have HB := n2_; clear n0_ n1_ n2_; (try clear hb); (try clear hkp); (try clear hy0)))
              (try simp only [← hl0_3])
              go_roundg k3
              case measure => have := HK1.out; have := HK2.out; have := HK3.out; omega
              case rel => exact ⟨(t239), (x8_3), (wrap64 (x8_3 + (wrap64 (2 * x6_2)))), (by first | rfl | (simp; done) | (simp [*]; done)), (by first | rfl | (simp; done) | (simp [*]; done)), H', ⟨by have := HK1.out; have := HK2.out; have := HK3.out; omega⟩, ⟨by (try simp only [hl0_2]); (try simp only [hl0_3]); (with_reducible repeat (first | apply Kd.R_alloc | apply Kd.R_drewN | apply Kd.R_drew)); exact HO_0.out⟩, ⟨by repeat (first | (with_reducible first | exact HK.out | apply Kept.alloc | apply Kept.drewN | apply Kept.drew) | exact HK.out)⟩, ⟨by repeat (first | (with_reducible first | exact HB.out | apply below_alloc | apply pw_below_drewN | apply below_drew1) | exact HB.out)⟩⟩
           · rw [if_neg c12] at H
             have c12b0 : decide (x8_3 ≤ a1) = false := decide_eq_false c12
             clear c12
             by_cases c15 : (wrap64 (x7_3 + x6_2)) < a1
             · rw [if_pos c15] at H
               have c15b0 : decide ((wrap64 (x7_3 + x6_2)) < a1) = true := decide_eq_true c15
               clear c15
               replace H := Option.bind_eq_some_iff.mp H
               obtain ⟨t240, A160, H⟩ := H
               replace H : (slices_stableCmpFunc_int64.l1 k3 t240 a1 l2 (wrap64 (x6_2 * 2))) = some r := H
               have A16 := Aside0.mk A160
               clear A160
               as_aux_lemma =>
                have H' := Aside0.mk H
                clear H
                go_wp2_with (first | ((with_reducible refine gate_callee (f := 92) rfl ?_); refine goesL_ (some 60) rfl rfl Try.func92 (by kernel_rfl) rfl #[.slice Ao9 x0_3.length co9, .int .i64 x7_3, .int .i64 (wrap64 (x7_3 + x6_2)), .int .i64 a1, F2] rfl (by (try simp only [List.map_toArray, List.map_cons, List.map_nil]); first | done | rfl | (simp only [List.length_drop, List.length_take]; rfl)) ?_; (with_reducible refine (slices_symMergeCmpFunc_int64.calls k3 (fun k_ => some k_ = (.slice Ao9 x0_3.length co9 : Value).ownBlock) (.slice Ao9 x0_3.length co9) x0_3 x7_3 (wrap64 (x7_3 + x6_2)) a1 _ l2 t240 w0 _ ?side1 ?side2 ?side3 A16.out).mono ?_); (case side1 => repeat (first | (with_reducible first | exact HB.out | apply below_alloc | apply pw_below_drewN | apply below_drew1) | exact HB.out)); (case side2 => exact Kd.R_tight rfl HO_0.out); (case side3 => exact P_kept_call HR2.out (by repeat (first | (with_reducible first | exact HK.out | apply Kept.alloc | apply Kept.drewN | apply Kept.drew) | exact HK.out)) (fun k_ hs_ => (fun e_ => (HO_0.out.1 k_ e_.symm)) hs_)); rintro e w17 ⟨rfl, hy0, hb, hkp⟩; refine ⟨_, rfl, ?_⟩; have n0_ := Aside0.mk (Kd.R_reok rfl hy0 (fun k_ e_ => HO_0.out.1 k_ e_)); have n1_ := Aside0.mk (Kept.then_ (S := (fun k_ => P0_ k_)) (by repeat (first | (with_reducible first | exact HK.out | apply Kept.alloc | apply Kept.drewN | apply Kept.drew) | exact HK.out)) hkp (fun k_ hs_ => (fun e_ => (HO_0.out.1 k_ e_.symm)) hs_)); have n2_ := Aside0.mk (hb); clear HO_0; clear HK; clear HB; have HO_0 := n0_; have HK := n1_; have HB := n2_; clear n0_ n1_ n2_; (try clear hb); (try clear hkp); (try clear hy0)))
                (try simp only [← hl0_2, ← hl0_3])
                go_roundg k3
                case measure => have := HK1.out; have := HK2.out; have := HK3.out; omega
                case rel => exact ⟨(t240), (wrap64 (x6_2 * 2)), (by first | rfl | (simp; done) | (simp [*]; done)), H', ⟨by have := HK1.out; have := HK2.out; have := HK3.out; omega⟩, ⟨by (try simp only [hl0_2]); (try simp only [hl0_3]); (with_reducible repeat (first | apply Kd.R_alloc | apply Kd.R_drewN | apply Kd.R_drew)); exact HO_0.out⟩, ⟨by repeat (first | (with_reducible first | exact HK.out | apply Kept.alloc | apply Kept.drewN | apply Kept.drew) | exact HK.out)⟩, ⟨by repeat (first | (with_reducible first | exact HB.out | apply below_alloc | apply pw_below_drewN | apply below_drew1) | exact HB.out)⟩⟩
             · rw [if_neg c15] at H
               have c15b0 : decide ((wrap64 (x7_3 + x6_2)) < a1) = false := decide_eq_false c15
               clear c15
               as_aux_lemma =>
                have H' := Aside0.mk H
                clear H
                go_wp2
                (try simp only [← hl0_2, ← hl0_3])
                go_roundg k3
                case measure => have := HK1.out; have := HK2.out; have := HK3.out; omega
                case rel => exact ⟨(x0_3), (wrap64 (x6_2 * 2)), (by first | rfl | (simp; done) | (simp [*]; done)), H', ⟨by have := HK1.out; have := HK2.out; have := HK3.out; omega⟩, ⟨by (try simp only [hl0_2]); (try simp only [hl0_3]); (with_reducible repeat (first | apply Kd.R_alloc | apply Kd.R_drewN | apply Kd.R_drew)); exact HO_0.out⟩, ⟨by repeat (first | (with_reducible first | exact HK.out | apply Kept.alloc | apply Kept.drewN | apply Kept.drew) | exact HK.out)⟩, ⟨by repeat (first | (with_reducible first | exact HB.out | apply below_alloc | apply pw_below_drewN | apply below_drew1) | exact HB.out)⟩⟩
       · rw [if_neg c11] at H
         have c11b0 : decide (x6_2 < a1) = false := decide_eq_false c11
         clear c11
         as_aux_lemma =>
          obtain rfl := Option.some.inj H
          go_wp2
          first | go_end0 | ((try simp only [Exit.inBlock, Exit.then]); refine bodyPost_ret (results_none rfl _ _ _) rfl ?_)
          exact ⟨by first | rfl | (simp [errW_none, errW_some] <;> rfl) | (simp [*, errW_none, errW_some] <;> rfl), (by first | exact (by (with_reducible repeat (first | apply Kd.R_alloc | apply Kd.R_drewN | apply Kd.R_drew)); exact HO_0.out) | (simp only [hl0_2]; exact (by (with_reducible repeat (first | apply Kd.R_alloc | apply Kd.R_drewN | apply Kd.R_drew)); exact HO_0.out))), by repeat (first | (with_reducible first | exact HB.out | apply below_alloc | apply pw_below_drewN | apply below_drew1) | exact HB.out), by repeat (first | (with_reducible first | exact HK.out | apply Kept.alloc | apply Kept.drewN | apply Kept.drew) | exact HK.out)⟩

/-! ### slices_SortStableFunc_int64_int64: function 53 -/
def slices_SortStableFunc_int64_int64.f (k : Nat) (l0 : List Int) (l1 : List Nat) : Option (List Int) := (slices_stableCmpFunc_int64.f k l0 (l0.length : Int) l1).bind fun t241 => (some t241)
theorem slices_SortStableFunc_int64_int64.mono : ∀ a0 a1 k, LeO (slices_SortStableFunc_int64_int64.f k a0 a1) (slices_SortStableFunc_int64_int64.f (k + 1) a0 a1) := by
 intro a0 a1 k
 unfold slices_SortStableFunc_int64_int64.f
 repeat' first
  | (with_reducible exact slices_stableCmpFunc_int64.mono _ _ _ _)
  | (with_reducible exact LeO.refl _)
  | (with_reducible exact LeO.none _)
  | (with_reducible refine LeO.ite ?_ ?_)
  | (with_reducible refine LeO.bind ?_ (fun _ => ?_))
  | exact slices_stableCmpFunc_int64.mono _ _ _ _
  | exact LeO.none _
  | refine LeO.ite ?_ ?_
  | refine LeO.bind ?_ (fun _ => ?_)
set_option maxHeartbeats 8000000 in
set_option maxRecDepth 100000 in
theorem slices_SortStableFunc_int64_int64.calls (k : Nat) (P0_ : Nat → Prop) (u9000_ : Value) (l0 : List Int) (F1 : Value) (l1 : List Nat) (r : List Int) (w0 w : World) (hB : Below w0.heap.size w0 w) (ho0 : Kd.R (Kd.int .i64) 2 w w0.heap.size P0_ u9000_ l0) (hr1 : ∀ W_, Kept w W_ (fun k_ => P0_ k_) → Clo W_ F1 l1) (h : slices_SortStableFunc_int64_int64.f k l0 l1 = some r) :
 Calls Try.prog 53 #[u9000_, F1] w fun e w' => e = .returned (.tuple #[]) ∧ Kd.R (Kd.int .i64) 2 w' w0.heap.size (fun k_ => (P0_ k_ ∨ w.heap.size ≤ k_)) u9000_ r ∧ Below w0.heap.size w0 w' ∧ Kept w w' (fun k_ => P0_ k_) := by
 have HO0 := Aside0.mk (show Kd.R (Kd.int .i64) 2 w w0.heap.size (fun k_ => (P0_ k_ ∨ w.heap.size ≤ k_)) u9000_ l0 from Kd.R_mono ho0 (fun k_ hk => (.inl hk)))
 have HR1 := Aside0.mk hr1
 clear hr1
 have HK := Aside0.mk (Kept.refl w (fun k_ => P0_ k_))
 have HW0 := Aside0.mk hB.size
 have HB := Aside0.mk hB
 clear hB
 have H : ((slices_stableCmpFunc_int64.f k l0 (l0.length : Int) l1).bind fun t241 => (some t241)) = some r := h
 clear h
 replace H := Option.bind_eq_some_iff.mp H
 obtain ⟨t241, A30, H⟩ := H
 replace H : (some t241) = some r := H
 have A3 := Aside0.mk A30
 clear A30
 as_aux_lemma =>
  obtain rfl := Option.some.inj H
  obtain ⟨Ao4, co4, eo4⟩ := Kd.R_slice HO0.out
  subst eo4
  go_enter Try.func53, Try.ntmps53
  go_wp2_with (first | ((with_reducible refine gate_callee (f := 73) rfl ?_); refine goesL_ (some 8) rfl rfl Try.func73 (by kernel_rfl) rfl #[.slice Ao4 l0.length co4, .int .i64 (l0.length : Int), F1] rfl (by (try simp only [List.map_toArray, List.map_cons, List.map_nil]); first | done | rfl | (simp only [List.length_drop, List.length_take]; rfl)) ?_; (with_reducible refine (slices_stableCmpFunc_int64.calls k (fun k_ => some k_ = (.slice Ao4 l0.length co4 : Value).ownBlock) (.slice Ao4 l0.length co4) l0 (l0.length : Int) _ l1 t241 w0 _ ?side1 ?side2 ?side3 A3.out).mono ?_); (case side1 => repeat (first | (with_reducible first | exact HB.out | apply below_alloc | apply pw_below_drewN | apply below_drew1) | exact HB.out)); (case side2 => exact Kd.R_tight rfl HO0.out); (case side3 => exact P_kept_call HR1.out (by repeat (first | (with_reducible first | exact HK.out | apply Kept.alloc | apply Kept.drewN | apply Kept.drew) | exact HK.out)) (fun k_ hs_ => (fun e_ => (HO0.out.1 k_ e_.symm)) hs_)); rintro e w5 ⟨rfl, hy0, hb, hkp⟩; refine ⟨_, rfl, ?_⟩; have n0_ := Aside0.mk (Kd.R_reok rfl hy0 (fun k_ e_ => HO0.out.1 k_ e_)); have n1_ := Aside0.mk (Kept.then_ (S := (fun k_ => P0_ k_)) (by repeat (first | (with_reducible first | exact HK.out | apply Kept.alloc | apply Kept.drewN | apply Kept.drew) | exact HK.out)) hkp (fun k_ hs_ => (fun e_ => (HO0.out.1 k_ e_.symm)) hs_)); have n2_ := Aside0.mk (hb); clear HO0; clear HK; clear HB; have HO0 := n0_; have HK := n1_; have HB := n2_; clear n0_ n1_ n2_; (try clear hb); (try clear hkp); (try clear hy0)))
  first | go_end0 | ((try simp only [Exit.inBlock, Exit.then]); refine bodyPost_ret (results_none rfl _ _ _) rfl ?_)
  exact ⟨by first | rfl | (simp [errW_none, errW_some] <;> rfl) | (simp [*, errW_none, errW_some] <;> rfl), by (with_reducible repeat (first | apply Kd.R_alloc | apply Kd.R_drewN | apply Kd.R_drew)); exact HO0.out, by repeat (first | (with_reducible first | exact HB.out | apply below_alloc | apply pw_below_drewN | apply below_drew1) | exact HB.out), by repeat (first | (with_reducible first | exact HK.out | apply Kept.alloc | apply Kept.drewN | apply Kept.drew) | exact HK.out)⟩

/-! ### slices_Sort_int64_int64: function 55 -/
-- quiet
def slices_Sort_int64_int64.f (l0 : List Int) : Option (List Int) := if l0.length < 4611686018427387904 then some (l0.mergeSort fun x y => decide (x ≤ y)) else none
shelf_lay_g SlLaysM.n5 Slgm 5 at Try 55 as L.sortLays
theorem slices_Sort_int64_int64.calls (P0_ : Nat → Prop) (u9000_ : Value) (l0 : List Int) (r : List Int) (w0 w : World) (hB : Below w0.heap.size w0 w) (ho0 : Kd.R (Kd.int .i64) 2 w w0.heap.size P0_ u9000_ l0) (h : slices_Sort_int64_int64.f l0 = some r) :
    Calls Try.prog 55 #[u9000_] w fun e w' => e = .returned (.tuple #[]) ∧ Kd.R (Kd.int .i64) 2 w' w0.heap.size (fun k_ => (P0_ k_ ∨ w.heap.size ≤ k_)) u9000_ r ∧ Below w0.heap.size w0 w' ∧ Kept w w' (fun k_ => P0_ k_) := by
  unfold slices_Sort_int64_int64.f at h
  by_cases hsz : l0.length < 4611686018427387904
  case neg => rw [if_neg hsz] at h; cases h
  rw [if_pos hsz] at h
  obtain rfl := Option.some.inj h
  have hown := Kd.own_of_R ho0
  have hown2 := hown.2
  rcases hown2 with ⟨hnil, he⟩ | ⟨g, cap, cur, rfl, hbase, hb, h1, h2, h3, h4⟩
  · subst hnil
    have hl : l0 = [] := by
      have := ho0.2.choose_spec.1.1
      cases l0 with
      | nil => rfl
      | cons a t => simp [encs] at he
    subst hl
    refine (AnyM.slices_Sort_int_none L.sortLays none 0 w).mono ?_
    rintro e w' ⟨rfl, rfl⟩
    refine ⟨rfl, ?_, hB, Kept.refl _ _⟩
    simpa using Kd.R_mono ho0 (fun k_ hk => (.inl hk))
  · refine (AnyM.slices_Sort_int L.sortLays g 0 cap l0 w (holds_of_blockI hb (by simpa [encs] using h4)) (Array.getElem?_eq_some_iff.1 hb).1 hsz).mono ?_
    rintro e w' ⟨rfl, n, os, rfl⟩
    have hg := grownBy_sortedI (w := w) (g := g) (n := n) (os := os) (l0.mergeSort fun x y => decide (x ≤ y)).toArray
    have hl : (l0.mergeSort fun x y => decide (x ≤ y)).length = l0.length := List.length_mergeSort l0
    refine ⟨rfl, ?_, ?_, ?_⟩
    · refine Kd.R_of_own ?_ (fun k hk => .inl (ho0.1 k hk))
      rw [hl]
      simpa [encs] using ownsRow_sortedI (os := os) (n := n) hl hbase hb h1 h2 h3
    · exact hB.grown hg hB.size (fun k hk => by cases hk; exact hbase)
    · refine ⟨hg.size, fun i hi hn => hg.block i hi (fun hh => hn ?_)⟩
      cases hh
      exact ho0.1 g (by simp [Value.ownBlock])

/-! ### impl_StrongLobes: function 18 -/
-- rounds
theorem Clo_box {g : Nat} {wc : World} {A0 : Option Addr} {c0 : Nat} {l0 : List Nat} {P0 : Nat → Prop} (hg : wc.heap[g]? = some (.cells #[.slice A0 l0.length c0] 22 (0, 0))) (hC : ∀ W_, Kept wc W_ P0 → Kd.C Kd.f32 W_ A0 l0.length l0) (hc : l0.length ≤ c0) (hne : ¬ P0 g) : ∀ W_, Kept wc W_ P0 → Clo W_ (.func (.func 54) #[] #[.pointer (some ⟨g, 0, none⟩)]) l0 := by
  intro W_ hk
  have hlt : g < wc.heap.size := (Array.getElem?_eq_some_iff.1 hg).1
  refine ⟨g, A0, c0, rfl, ?_, hC W_ hk, hc⟩
  have h2 := (hk.2 g hlt hne).trans hg
  simp [World.cell?, h2]
def impl_StrongLobes.j0 : Nat → List Nat → Int → List Int → Bool → Option (List Int × Bool)
 | 0, _, _, _, _ => none
 | k + 1, x0, x1, x6, x20 => if x20 = true then (some (([] : List Int), false)) else ((slices_SortStableFunc_int64_int64.f k x6 x0).bind fun t247 => ((some (([] : List Int) : List Int)).bind fun y248 => (if 0 ≤ (mn x1 (x6.length : Int)) then (if (mn x1 (x6.length : Int)) ≤ (x6.length : Int) then ((some (t247.take ((mn x1 (x6.length : Int)) : Int).toNat : List Int)).bind fun y251 => (if y248.length + y251.length < 17592186044416 then ((some (y248 ++ y251 : List Int)).bind fun y255 => ((slices_Sort_int64_int64.f y255).bind fun y300 => (some (y300, true)))) else (none))) else (none)) else (none))))
def impl_StrongLobes.f (k : Nat) (l0 : List Nat) (a1 : Int) : Option (List Int × Bool) := (impl_LobesOf.f k l0).bind fun bt242 => (if bt242.2 = true then ((impl_within.f a1 0 129).bind fun t246 => (impl_StrongLobes.j0 k l0 a1 bt242.1 (!t246))) else (impl_StrongLobes.j0 k l0 a1 bt242.1 true))
theorem impl_StrongLobes.mono_l : ∀ k, (∀ y0 y1 y2 y3, LeO (impl_StrongLobes.j0 k y0 y1 y2 y3) (impl_StrongLobes.j0 (k + 1) y0 y1 y2 y3))
 | 0 => fun _ _ _ _ r h => by simp [impl_StrongLobes.j0] at h
 | k + 1 => by
  have ih0 := impl_StrongLobes.mono_l k
  · intro y0 y1 y2 y3
    unfold impl_StrongLobes.j0
    repeat' first
    | (with_reducible exact ih0 _ _ _ _)
    | (with_reducible exact impl_LobesOf.mono _ _)
    | (with_reducible exact slices_SortStableFunc_int64_int64.mono _ _ _)
    | (with_reducible exact LeO.refl _)
    | (with_reducible exact LeO.none _)
    | (with_reducible refine LeO.ite ?_ ?_)
    | (with_reducible refine LeO.bind ?_ (fun _ => ?_))
    | exact ih0 _ _ _ _
    | exact impl_LobesOf.mono _ _
    | exact slices_SortStableFunc_int64_int64.mono _ _ _
    | exact LeO.none _
    | refine LeO.ite ?_ ?_
    | refine LeO.bind ?_ (fun _ => ?_)
theorem impl_StrongLobes.mono : ∀ a0 a1 k, LeO (impl_StrongLobes.f k a0 a1) (impl_StrongLobes.f (k + 1) a0 a1) := by
 intro a0 a1 k
 have ih0 := impl_StrongLobes.mono_l k
 unfold impl_StrongLobes.f
 repeat' first
  | (with_reducible exact ih0 _ _ _ _)
  | (with_reducible exact impl_LobesOf.mono _ _)
  | (with_reducible exact slices_SortStableFunc_int64_int64.mono _ _ _)
  | (with_reducible exact LeO.refl _)
  | (with_reducible exact LeO.none _)
  | (with_reducible refine LeO.ite ?_ ?_)
  | (with_reducible refine LeO.bind ?_ (fun _ => ?_))
  | exact ih0 _ _ _ _
  | exact impl_LobesOf.mono _ _
  | exact slices_SortStableFunc_int64_int64.mono _ _ _
  | exact LeO.none _
  | refine LeO.ite ?_ ?_
  | refine LeO.bind ?_ (fun _ => ?_)
set_option maxHeartbeats 8000000 in
set_option maxRecDepth 100000 in
theorem impl_StrongLobes.calls (k : Nat) (A0 : Option Addr) (c0 : Nat) (l0 : List Nat) (a1 : Int) (r1 : List Int) (r2 : Bool) (w : World) (hr0 : Kd.C Kd.f32 w A0 l0.length l0) (hc0 : l0.length ≤ c0) (h : impl_StrongLobes.f k l0 a1 = some (r1, r2)) :
 Calls Try.prog 18 #[.slice A0 l0.length c0, .int .i64 a1] w fun e w' => ∃ v0_ : Value, e = .returned (.tuple #[v0_, .bool r2]) ∧ Kd.R (Kd.int .i64) 2 w' w.heap.size (fun _ => True) v0_ r1 ∧ Below w.heap.size w w' := by
 have HR0 := Aside0.mk hr0
 have HC0 := Aside0.mk hc0
 clear hr0 hc0
 have HB := Aside0.mk (Below.refl w.heap.size w)
 have H : ((impl_LobesOf.f k l0).bind fun bt242 => (if bt242.2 = true then ((impl_within.f a1 0 129).bind fun t246 => (impl_StrongLobes.j0 k l0 a1 bt242.1 (!t246))) else (impl_StrongLobes.j0 k l0 a1 bt242.1 true))) = some (r1, r2) := h
 clear h
 replace H := Option.bind_eq_some_iff.mp H
 obtain ⟨⟨t242, t243⟩, A30, H⟩ := H
 replace H : (if t243 = true then ((impl_within.f a1 0 129).bind fun t246 => (impl_StrongLobes.j0 k l0 a1 t242 (!t246))) else (impl_StrongLobes.j0 k l0 a1 t242 true)) = some (r1, r2) := H
 have A3 := Aside0.mk A30
 clear A30
 have HC4 := Aside0.mk H
 clear H
 go_enter Try.func18, Try.ntmps18
 go_upto_region 2 with (first | ((with_reducible refine gate_callee (f := 52) rfl ?_); refine goesL_ (some 11) rfl rfl Try.func52 (by kernel_rfl) rfl #[.slice A0 l0.length c0] rfl (by (try simp only [List.map_toArray, List.map_cons, List.map_nil]); first | done | rfl | (simp only [List.length_drop, List.length_take]; rfl)) ?_; (with_reducible refine (impl_LobesOf.calls k _ _ l0 t242 t243 _ ?side1 ?side2 A3.out).mono ?_); (case side1 => repeat (first | exact HR0.out | (with_reducible refine Kd.C_alloc ?_ _) | (with_reducible refine Kd.C_drewN ?_ _) | (with_reducible refine Kd.C_drew ?_))); (case side2 => exact HC0.out); rintro e w5 ⟨v244, rfl, ho0, hb⟩; refine ⟨_, rfl, ?_⟩; have n0_ := Aside0.mk (Kd.R_lower ho0 (below_size (by repeat (first | (with_reducible first | exact HB.out | apply below_alloc | apply pw_below_drewN | apply below_drew1) | exact HB.out)))); have n1_ := Aside0.mk (below_step (by repeat (first | (with_reducible first | exact HB.out | apply below_alloc | apply pw_below_drewN | apply below_drew1) | exact HB.out)) hb); clear HB; have HO245 := n0_; have HB := n1_; clear n0_ n1_; have HX := Aside0.mk (show w5.heap[w.heap.size]? = some (.cells #[.slice A0 l0.length c0] 22 (0, 0)) from by exact (hb.block _ (Nat.lt_of_lt_of_eq (Nat.lt_succ_self _) (Array.size_push _).symm)).trans (Array.getElem?_push_size)); (try clear hb); (try clear hb2); (try clear hk); (try clear hi); (try clear ho0)))
 (try simp only [Act.put, List.setIfInBounds_toArray, List.set_cons_zero, List.set_cons_succ])
 go_cut [20] (fun v20 wc => ∃ (kq : Nat) (x20_3 : Bool), v20 = .bool x20_3 ∧ Aside0 (impl_StrongLobes.j0 kq l0 a1 t242 x20_3 = some (r1, r2)) ∧ Aside0 (kq ≤ k) ∧ Aside0 (Kd.R (Kd.int .i64) 2 wc w.heap.size (fun _ => True) v244 t242) ∧ Aside0 (Below w.heap.size w wc) ∧ Aside0 (wc.heap[w.heap.size]? = some (.cells #[.slice A0 l0.length c0] 22 (0, 0))))
 case first =>
  have H := HC4.out
  clear HC4
  by_cases c6 : t243 = true
  · subst c6
    have H1 : ((impl_within.f a1 0 129).bind fun t246 => (impl_StrongLobes.j0 k l0 a1 t242 (!t246))) = some (r1, r2) := by rw [if_pos rfl] at H; exact H
    clear H
    have H := H1
    clear H1
    replace H := Option.bind_eq_some_iff.mp H
    obtain ⟨t246, A70, H⟩ := H
    replace H : (impl_StrongLobes.j0 k l0 a1 t242 (!t246)) = some (r1, r2) := H
    have A7 := Aside0.mk A70
    clear A70
    as_aux_lemma =>
     have H' := Aside0.mk H
     clear H
     go_wp2_with (first | (go_at_call 39; (with_reducible refine (impl_within.calls a1 0 129 t246 _ A7.out).mono ?_); rintro e w' ⟨rfl, ⟨nd, rfl⟩⟩))
     go_meet
     case rel => exact ⟨_, (!t246), (by first | rfl | (simp; done) | (simp [*]; done)), H', ⟨by first | omega | exact Nat.le_refl _⟩, ⟨by (with_reducible repeat (first | apply Kd.R_alloc | apply Kd.R_drewN | apply Kd.R_drew)); exact HO245.out⟩, ⟨by repeat (first | (with_reducible first | exact HB.out | apply below_alloc | apply pw_below_drewN | apply below_drew1) | exact HB.out)⟩, ⟨HX.out⟩⟩
  · replace c6 := Bool.eq_false_iff.mpr c6
    subst c6
    have H1 : (impl_StrongLobes.j0 k l0 a1 t242 true) = some (r1, r2) := by rw [if_neg (show ¬ (false = true) by decide)] at H; exact H
    clear H
    have H := H1
    clear H1
    as_aux_lemma =>
     have H' := Aside0.mk H
     clear H
     go_wp2
     go_meet
     case rel => exact ⟨_, (true), (by first | rfl | (simp; done) | (simp [*]; done)), H', ⟨by first | omega | exact Nat.le_refl _⟩, ⟨by (with_reducible repeat (first | apply Kd.R_alloc | apply Kd.R_drewN | apply Kd.R_drew)); exact HO245.out⟩, ⟨by repeat (first | (with_reducible first | exact HB.out | apply below_alloc | apply pw_below_drewN | apply below_drew1) | exact HB.out)⟩, ⟨HX.out⟩⟩
 case rest =>
  clear HC4
  (try clear c1); (try clear p2); (try clear c5); (try clear c6)
  obtain ⟨kq, x20_3, rfl, HA, HJ3, HO_6, HB, HX⟩ := hcut
  cases kq with
  | zero => exact absurd HA.out (by simp [impl_StrongLobes.j0])
  | succ kj3 =>
   have H := HA.out
   clear HA
   simp only [impl_StrongLobes.j0] at H
   by_cases c8 : x20_3 = true
   · subst c8
     have H1 : (some (([] : List Int), false)) = some (r1, r2) := by rw [if_pos rfl] at H; exact H
     clear H
     have H := H1
     clear H1
     as_aux_lemma =>
      simp only [Option.some.injEq, Prod.mk.injEq] at H
      obtain ⟨rfl, rfl⟩ := H
      go_wp2
      go_ret2
      exact ⟨_, by first | rfl | (simp [errW_none, errW_some] <;> rfl) | (simp [*, errW_none, errW_some] <;> rfl), by first | exact Kd.R_nil _ _ _ _ _ | exact Kd.N_nil _ _ _ _ _ | exact Kd.V_nil _ _ _ _ _ | exact Kd.Q_nil _ _ _ _ _ | exact Kd.S_nil _ _ _ _ _, by repeat (first | (with_reducible first | exact HB.out | apply below_alloc | apply pw_below_drewN | apply below_drew1) | exact HB.out)⟩
   · replace c8 := Bool.eq_false_iff.mpr c8
     subst c8
     have H1 : ((slices_SortStableFunc_int64_int64.f kj3 t242 l0).bind fun t247 => ((some (([] : List Int) : List Int)).bind fun y248 => (if 0 ≤ (mn a1 (t242.length : Int)) then (if (mn a1 (t242.length : Int)) ≤ (t242.length : Int) then ((some (t247.take ((mn a1 (t242.length : Int)) : Int).toNat : List Int)).bind fun y251 => (if y248.length + y251.length < 17592186044416 then ((some (y248 ++ y251 : List Int)).bind fun y255 => ((slices_Sort_int64_int64.f y255).bind fun y300 => (some (y300, true)))) else (none))) else (none)) else (none)))) = some (r1, r2) := by rw [if_neg (show ¬ (false = true) by decide)] at H; exact H
     clear H
     have H := H1
     clear H1
     replace H := Option.bind_eq_some_iff.mp H
     obtain ⟨t247, A90, H⟩ := H
     replace H : ((some (([] : List Int) : List Int)).bind fun y248 => (if 0 ≤ (mn a1 (t242.length : Int)) then (if (mn a1 (t242.length : Int)) ≤ (t242.length : Int) then ((some (t247.take ((mn a1 (t242.length : Int)) : Int).toNat : List Int)).bind fun y251 => (if y248.length + y251.length < 17592186044416 then ((some (y248 ++ y251 : List Int)).bind fun y255 => ((slices_Sort_int64_int64.f y255).bind fun y300 => (some (y300, true)))) else (none))) else (none)) else (none))) = some (r1, r2) := H
     have A9 := Aside0.mk A90
     clear A90
     obtain ⟨y248, hy248⟩ : ∃ y_ : List Int, y_ = (([] : List Int)) := ⟨_, rfl⟩
     replace H : (if 0 ≤ (mn a1 (t242.length : Int)) then (if (mn a1 (t242.length : Int)) ≤ (t242.length : Int) then ((some (t247.take ((mn a1 (t242.length : Int)) : Int).toNat : List Int)).bind fun y251 => (if y248.length + y251.length < 17592186044416 then ((some (y248 ++ y251 : List Int)).bind fun y255 => ((slices_Sort_int64_int64.f y255).bind fun y300 => (some (y300, true)))) else (none))) else (none)) else (none)) = some (r1, r2) := by first | (rw [hy248]; with_reducible exact H) | (have H2_ := (Option.bind_some _ _).symm.trans H; rw [hy248]; with_reducible exact H2_) | (have H2_ := (Option.bind_some _ _).symm.trans H; with_reducible exact H2_) | with_reducible exact H | (rw [hy248]; exact H) | exact H
     have Ny248 := Aside0.mk hy248
     clear hy248
     obtain ⟨ji10, hji10⟩ : ∃ j_ : Int, (mn a1 (t242.length : Int)) = j_ := ⟨_, rfl⟩
     replace H : (if 0 ≤ (ji10) then (if (ji10) ≤ (t242.length : Int) then ((some (t247.take ((ji10) : Int).toNat : List Int)).bind fun y251 => (if y248.length + y251.length < 17592186044416 then ((some (y248 ++ y251 : List Int)).bind fun y255 => ((slices_Sort_int64_int64.f y255).bind fun y300 => (some (y300, true)))) else (none))) else (none)) else (none)) = some (r1, r2) := by first | (rw [hji10] at H; exact H) | (simp only [hji10] at H ⊢; exact H)
     (try rw [hji10] at A9)
     have hji10_ : (if (t242.length : Int) < a1 then (t242.length : Int) else a1) = ji10 := hji10
     by_cases c11 : 0 ≤ (ji10)
     · rw [if_pos c11] at H
       have c11b0 := eq_true c11
       have c11b1 : decide (0 ≤ (ji10)) = true := decide_eq_true c11
       clear c11
       by_cases c12 : (ji10) ≤ (t242.length : Int)
       · rw [if_pos c12] at H
         have c12b0 := eq_true c12
         have c12b1 : decide ((ji10) ≤ (t242.length : Int)) = true := decide_eq_true c12
         clear c12
         obtain ⟨y251, hy251⟩ : ∃ y_ : List Int, y_ = (t247.take ((ji10) : Int).toNat) := ⟨_, rfl⟩
         replace H : (if y248.length + y251.length < 17592186044416 then ((some (y248 ++ y251 : List Int)).bind fun y255 => ((slices_Sort_int64_int64.f y255).bind fun y300 => (some (y300, true)))) else (none)) = some (r1, r2) := by first | (rw [hy251]; with_reducible exact H) | (have H2_ := (Option.bind_some _ _).symm.trans H; rw [hy251]; with_reducible exact H2_) | (have H2_ := (Option.bind_some _ _).symm.trans H; with_reducible exact H2_) | with_reducible exact H | (rw [hy251]; exact H) | exact H
         have Ny251 := Aside0.mk hy251
         clear hy251
         by_cases c13 : y248.length + y251.length < 17592186044416
         · rw [if_pos c13] at H
           have LMc13 := Aside0.mk c13
           clear c13
           obtain ⟨y255, hy255⟩ : ∃ y_ : List Int, y_ = (y248 ++ y251) := ⟨_, rfl⟩
           replace H : ((slices_Sort_int64_int64.f y255).bind fun y300 => (some (y300, true))) = some (r1, r2) := by first | (rw [hy255]; with_reducible exact H) | (have H2_ := (Option.bind_some _ _).symm.trans H; rw [hy255]; with_reducible exact H2_) | (have H2_ := (Option.bind_some _ _).symm.trans H; with_reducible exact H2_) | with_reducible exact H | (rw [hy255]; exact H) | exact H
           have Ny255 := Aside0.mk hy255
           clear hy255
           replace H := Option.bind_eq_some_iff.mp H
           obtain ⟨y300, A140, H⟩ := H
           replace H : (some (y300, true)) = some (r1, r2) := H
           have A14 := Aside0.mk A140
           clear A140
           as_aux_lemma =>
            simp only [Option.some.injEq, Prod.mk.injEq] at H
            obtain ⟨rfl, rfl⟩ := H
            obtain ⟨Ao15, co15, eo15⟩ := Kd.R_slice HO_6.out
            subst eo15
            go_wp2_with (first | ((with_reducible refine gate_callee (f := 53) rfl ?_); refine goesL_ (some 23) rfl rfl Try.func53 (by kernel_rfl) rfl #[.slice Ao15 t242.length co15, (.func (.func 54) #[] #[.pointer (some ⟨w.heap.size, 0, none⟩)])] rfl (by (try simp only [List.map_toArray, List.map_cons, List.map_nil]); first | done | rfl | (simp only [List.length_drop, List.length_take]; rfl)) ?_; (with_reducible refine (slices_SortStableFunc_int64_int64.calls kj3 (fun k_ => some k_ = (.slice Ao15 t242.length co15 : Value).ownBlock) (.slice Ao15 t242.length co15) t242 _ l0 t247 w _ ?side1 ?side2 ?side3 A9.out).mono ?_); (case side1 => repeat (first | (with_reducible first | exact HB.out | apply below_alloc | apply pw_below_drewN | apply below_drew1) | exact HB.out)); (case side2 => exact Kd.R_tight rfl HO_6.out); (case side3 => exact Clo_box HX.out (Kd.C_kept_came Kd.heap_f32 HR0.out (by repeat (first | (with_reducible first | exact HB.out | apply below_alloc | apply pw_below_drewN | apply below_drew1) | exact HB.out)) (fun k_ hs_ => (fun e_ => Kd.R_base HO_6.out k_ e_.symm) hs_)) HC0.out (Kd.R_ne HO_6.out HX.out (by decide))); rintro e w16 ⟨rfl, hy0, hb, hkp⟩; refine ⟨_, rfl, ?_⟩; have n0_ := Aside0.mk (Kd.R_reok rfl hy0 (fun k_ e_ => HO_6.out.1 k_ e_)); have n1_ := Aside0.mk (hb); clear HO_6; clear HB; have HO_6 := n0_; have HB := n1_; clear n0_ n1_; (try clear hb); (try clear hkp); (try clear hy0)) | ((with_reducible refine gate_dst (N := 24) rfl ?_); refine Kd.R_lit (Kd.int .i64) _ 2 ?hg (N := 24) ?hd (xs := ([] : List Int)) (inner := []) (ok := fun _ => True) (okp := fun _ => True) ?hr ?hp (fun _ hk => hk) trivial (Below.refl _ _) (Nat.le_refl _) (by simp) ?_; (case hd => rfl); (case hg => rfl); (case hr => first | (go_simp; done) | (go_simp; rfl)); (case hp => exact (Reps.none _ _)); intro v249 w17 ho18 hb hg_ hnew_; clear hg_ hnew_; (first | rw [← Ny248.out] at ho18 | (simp only [Int.reduceToNat] at ho18; rw [← Ny248.out] at ho18)); have n0_ := Aside0.mk (Kd.R_elder' (by (with_reducible repeat (first | apply Kd.R_alloc | apply Kd.R_drewN | apply Kd.R_drew)); exact HO_6.out) (Kd.R_base ho18) hb); have n1_ := Aside0.mk (Kd.R_lower (Kd.R_new' ho18 (Kd.R_lt (by (with_reducible repeat (first | apply Kd.R_alloc | apply Kd.R_drewN | apply Kd.R_drew)); exact HO_6.out))) (below_size (by repeat (first | (with_reducible first | exact HB.out | apply below_alloc | apply pw_below_drewN | apply below_drew1) | exact HB.out)))); have n2_ := Aside0.mk (below_step (by repeat (first | (with_reducible first | exact HB.out | apply below_alloc | apply pw_below_drewN | apply below_drew1) | exact HB.out)) hb); clear HO_6; clear HB; have HO_6 := n0_; have HO250 := n1_; have HB := n2_; clear n0_ n1_ n2_; clear hb ho18; have hlx19 := (Kd.R_reads' HO_6.out).1; have q19 : ((ji10) : Int) ≤ ((t242.length : Int) : Int) := of_decide_eq_true (by first | (with_reducible assumption) | assumption); obtain ⟨i019, hi019, _, hsz19, _⟩ := info_parts info2; have hroom19 : t242.length ≤ co15 := (Kd.R_reads' HO_6.out).2.1; have hroomc19 : t247.length ≤ co15 := (by rw [← hlx19]; exact hroom19); have hC19 : Kd.C (Kd.int .i64) _ Ao15 t247.length t247 := (Kd.R_reads' HO_6.out).2.2; have hcut19 := cut_to (P := Try.prog) 36 2 .i64 Try.underlying36 hi019 Ao15 t242.length co15 (ji10) (of_decide_eq_true (by first | (with_reducible assumption) | assumption)) q19 hroom19; have hr19 := Kd.C_take (m := ((ji10) : Int).toNat) hC19 (by omega); have hy19 : y251.length = ((ji10) : Int).toNat := (by rw [Ny251.out, List.length_take]; omega); rw [← Ny251.out] at hr19; rw [← hy19] at hcut19; have HR254 := Aside0.mk hr19; have HC254 := Aside0.mk (show y251.length ≤ co15 from by omega); clear hr19 hC19 hroom19 hi019 hsz19 hroomc19; have KY19 := Aside0.mk hy19; clear hy19; have KE19 := Aside0.mk hlx19; have KL19 := Aside0.mk (show ((ji10) : Int).toNat ≤ t247.length from by omega); clear hlx19; replace q19 := eq_true q19) | ((with_reducible refine gate_builtin (b := .append) (xs := #[.tmp 24, .tmp 30]) rfl ?_); at_builtin; refine Kd.R_append_rows (Kd.int .i64) (w0 := w) w.heap.size rfl (.tmp 24) (.tmp 30) 36 2 (.int .i64 0) 8 rfl Try.underlying36 info2 rfl (by decide) (by omega) v249 y248 y251 _ _ _ (fun k_ => some k_ ≠ (.slice Ao15 t242.length co15 : Value).ownBlock) (fun _ => False) rfl rfl ?aO ?aR (fun _ _ h => h) (fun _ h => h.elim) ?aF ?aB ?aS ?aL ?_; (case aR => repeat (first | exact (by repeat (first | (with_reducible exact HR254.out) | (with_reducible refine Kd.C_alloc ?_ _) | (with_reducible refine Kd.C_drewN ?_ _) | (with_reducible refine Kd.C_drew ?_) | exact HR254.out)) | (with_reducible refine Kd.C_alloc ?_ _) | (with_reducible refine Kd.C_drewN ?_ _) | (with_reducible refine Kd.C_drew ?_))); (case aB => exact (by repeat (first | (with_reducible first | exact HB.out | apply below_alloc | apply pw_below_drewN | apply below_drew1) | exact HB.out))); (case aF => exact (fun k_ hk => Kd.fresh' (Kd.R_lt (by (with_reducible repeat (first | apply Kd.R_alloc | apply Kd.R_drewN | apply Kd.R_drew)); exact HO_6.out)) k_ hk)); (case aO => exact (by (with_reducible repeat (first | apply Kd.R_alloc | apply Kd.R_drewN | apply Kd.R_drew)); exact Kd.R_mono HO250.out (fun _ hk => hk.2))); (case aS => exact (below_size (by repeat (first | (with_reducible first | exact HB.out | apply below_alloc | apply pw_below_drewN | apply below_drew1) | exact HB.out)))); (case aL => have := LMc13.out; omega); intro v256 w20 ho hb hg hat; rw [← Ny255.out] at ho; have n0_ := Aside0.mk (Kd.R_after (ok := (fun _ => True)) (by (with_reducible repeat (first | apply Kd.R_alloc | apply Kd.R_drewN | apply Kd.R_drew)); exact HO_6.out) hg hat); have n1_ := Aside0.mk (hb); have n2_ := Aside0.mk ((show Kd.C (Kd.int .i64) w20 Ao15 y251.length y251 from by rw [Ny251.out]; exact Kd.C_take (m := ((ji10) : Int).toNat) ((Kd.R_reads' (Kd.R_after (ok := (fun _ => True)) (by (with_reducible repeat (first | apply Kd.R_alloc | apply Kd.R_drewN | apply Kd.R_drew)); exact HO_6.out) hg hat)).2.2) KL19.out)); have n3_ := Aside0.mk (ho); clear HO_6; clear HB; clear HR254; clear HO250; have HO_6 := n0_; have HB := n1_; have HR254 := n2_; have HO257 := n3_; clear n0_ n1_ n2_ n3_; clear ho hb hg hat; obtain ⟨Ao21, co21, eo21⟩ := Kd.R_slice HO257.out; subst eo21) | ((with_reducible refine gate_callee (f := 55) rfl ?_); refine goesL_ (some 33) rfl rfl Try.func55 (by kernel_rfl) rfl #[.slice Ao21 y255.length co21] rfl (by (try simp only [List.map_toArray, List.map_cons, List.map_nil]); first | done | rfl | (simp only [List.length_drop, List.length_take]; rfl)) ?_; (with_reducible refine (slices_Sort_int64_int64.calls (fun k_ => some k_ = (.slice Ao21 y255.length co21 : Value).ownBlock) (.slice Ao21 y255.length co21) y255 y300 w _ ?side1 ?side2 A14.out).mono ?_); (case side1 => exact (by repeat (first | (with_reducible first | exact HB.out | apply below_alloc | apply pw_below_drewN | apply below_drew1) | exact HB.out))); (case side2 => exact Kd.R_tight rfl (by (with_reducible repeat (first | apply Kd.R_alloc | apply Kd.R_drewN | apply Kd.R_drew)); exact HO257.out)); rintro e w22 ⟨rfl, hy0, hb, hkp⟩; refine ⟨_, rfl, ?_⟩; have n0_ := Aside0.mk (Kd.R_reok rfl hy0 (fun k_ e_ => HO257.out.1 k_ e_)); have n1_ := Aside0.mk (hb); clear HO257; clear HB; have HO257 := n0_; have HB := n1_; clear n0_ n1_; (try clear hb); (try clear hkp); (try clear hy0)))
            go_ret2
            exact ⟨_, by first | rfl | (simp [errW_none, errW_some] <;> rfl) | (simp only [← hji10]; first | rfl | (simp [errW_none, errW_some] <;> rfl)) | (simp [*, errW_none, errW_some] <;> rfl), by (with_reducible repeat (first | apply Kd.R_alloc | apply Kd.R_drewN | apply Kd.R_drew)); exact Kd.R_mono HO257.out (fun _ hk => trivial), by repeat (first | (with_reducible first | exact HB.out | apply below_alloc | apply pw_below_drewN | apply below_drew1) | exact HB.out)⟩
         · rw [if_neg c13] at H
           exact absurd H (by simp)
       · rw [if_neg c12] at H
         exact absurd H (by simp)
     · rw [if_neg c11] at H
       exact absurd H (by simp)

/-! ### laws_eqInt64S: function 19 -/
def laws_eqInt64S.l0 : Nat → List Int → List Int → Int → Option (Bool)
 | 0, _, _, _ => none
 | k + 1, x0, x1, x5 => if x5 < (x0.length : Int) then (if 0 ≤ x5 then (if x5 < (x1.length : Int) then (if (rd x0 x5) = (rd x1 x5) then (laws_eqInt64S.l0 k x0 x1 (wrap64 (x5 + 1))) else (some false)) else (none)) else (none)) else (some true)
def laws_eqInt64S.f (k : Nat) (l0 : List Int) (l1 : List Int) : Option (Bool) := if (l0.length : Int) = (l1.length : Int) then (laws_eqInt64S.l0 k l0 l1 0) else (some false)
theorem laws_eqInt64S.mono_l : ∀ k, (∀ y0 y1 y2, LeO (laws_eqInt64S.l0 k y0 y1 y2) (laws_eqInt64S.l0 (k + 1) y0 y1 y2))
 | 0 => fun _ _ _ r h => by simp [laws_eqInt64S.l0] at h
 | k + 1 => by
  have ih0 := laws_eqInt64S.mono_l k
  · intro y0 y1 y2
    unfold laws_eqInt64S.l0
    repeat' first
    | (with_reducible exact ih0 _ _ _)
    | (with_reducible exact LeO.refl _)
    | (with_reducible exact LeO.none _)
    | (with_reducible refine LeO.ite ?_ ?_)
    | (with_reducible refine LeO.bind ?_ (fun _ => ?_))
    | exact ih0 _ _ _
    | exact LeO.none _
    | refine LeO.ite ?_ ?_
    | refine LeO.bind ?_ (fun _ => ?_)
theorem laws_eqInt64S.mono : ∀ a0 a1 k, LeO (laws_eqInt64S.f k a0 a1) (laws_eqInt64S.f (k + 1) a0 a1) := by
 intro a0 a1 k
 have ih0 := laws_eqInt64S.mono_l k
 unfold laws_eqInt64S.f
 repeat' first
  | (with_reducible exact ih0 _ _ _)
  | (with_reducible exact LeO.refl _)
  | (with_reducible exact LeO.none _)
  | (with_reducible refine LeO.ite ?_ ?_)
  | (with_reducible refine LeO.bind ?_ (fun _ => ?_))
  | exact ih0 _ _ _
  | exact LeO.none _
  | refine LeO.ite ?_ ?_
  | refine LeO.bind ?_ (fun _ => ?_)
set_option maxHeartbeats 8000000 in
set_option maxRecDepth 100000 in
theorem laws_eqInt64S.calls (k : Nat) (A0 : Option Addr) (c0 : Nat) (l0 : List Int) (A1 : Option Addr) (c1 : Nat) (l1 : List Int) (r : Bool) (w : World) (hr0 : Kd.C (Kd.int .i64) w A0 l0.length l0) (hc0 : l0.length ≤ c0) (hr1 : Kd.C (Kd.int .i64) w A1 l1.length l1) (hc1 : l1.length ≤ c1) (h : laws_eqInt64S.f k l0 l1 = some r) :
 Calls Try.prog 19 #[.slice A0 l0.length c0, .slice A1 l1.length c1] w fun e w' => e = .returned (.bool r) ∧ Drawn0 w w' := by
 have HR0 := Aside0.mk hr0
 have HC0 := Aside0.mk hc0
 clear hr0 hc0
 have HR1 := Aside0.mk hr1
 have HC1 := Aside0.mk hc1
 clear hr1 hc1
 have H : (if (l0.length : Int) = (l1.length : Int) then (laws_eqInt64S.l0 k l0 l1 0) else (some false)) = some r := h
 clear h
 by_cases c3 : (l0.length : Int) = (l1.length : Int)
 · rw [if_pos c3] at H
   have c3b0 : ((l0.length : Int) == (l1.length : Int)) = true := beq_iff_eq.mpr c3
   have c3b1 : ((l0.length : Int) != (l1.length : Int)) = false := bne_eq_false_iff_eq.mpr c3
   have c3b2 : (l0.length == l1.length) = true := by first | simpa using c3 | (simp at c3 ⊢; omega)
   clear c3
   have H' := Aside0.mk H
   clear H
   go_enter Try.func19, Try.ntmps19
   go_wp2
   repeat (go_quiet (fail); try go_wp2)
   go_loopg [5] k (fun kq v5 w' => ∃ (x5_1 : Int), v5 = .int .i64 x5_1 ∧ Aside0 (laws_eqInt64S.l0 kq l0 l1 x5_1 = some r) ∧ Aside0 (kq ≤ k) ∧ Drawn0 w w')
   case atStart => exact ⟨(0), (by first | rfl | (simp; done) | (simp [*]; done)), H', ⟨Nat.le_refl _⟩, by repeat (first | exact Drawn0.refl _ | apply Drawn0.step)⟩
   case round =>
    clear H'
    (try clear c1); (try clear p2); (try clear c3); (try clear c3b0); (try clear c3b1); (try clear c3b2)
    obtain ⟨x5_1, rfl, HA, HK1, ⟨m1, rfl⟩⟩ := hrel
    cases gk with
    | zero => exact absurd HA.out (by simp [laws_eqInt64S.l0])
    | succ k1 =>
     have H := HA.out
     clear HA
     simp only [laws_eqInt64S.l0] at H
     by_cases c4 : x5_1 < (l0.length : Int)
     · rw [if_pos c4] at H
       have c4b0 : decide (x5_1 < (l0.length : Int)) = true := decide_eq_true c4
       clear c4
       by_cases c5 : 0 ≤ x5_1
       · rw [if_pos c5] at H
         have c5b0 : decide (0 ≤ x5_1) = true := decide_eq_true c5
         clear c5
         by_cases c6 : x5_1 < (l1.length : Int)
         · rw [if_pos c6] at H
           have c6b0 : decide (x5_1 < (l1.length : Int)) = true := decide_eq_true c6
           clear c6
           by_cases c7 : (rd l0 x5_1) = (rd l1 x5_1)
           · rw [if_pos c7] at H
             have c7b0 : ((rd l0 x5_1) == (rd l1 x5_1)) = true := beq_iff_eq.mpr c7
             have c7b1 : ((rd l0 x5_1) != (rd l1 x5_1)) = false := bne_eq_false_iff_eq.mpr c7
             clear c7
             as_aux_lemma =>
              have H' := Aside0.mk H
              clear H
              have p242 : 0 ≤ (x5_1 : Int) := of_decide_eq_true (by first | (with_reducible assumption) | assumption)
              have q242 : x5_1 < (l0.length : Int) := of_decide_eq_true (by first | (with_reducible assumption) | assumption)
              obtain ⟨ad242, e242, hx242_0⟩ := Kd.at_int HR0.out x5_1 p242 q242
              cases e242
              replace p242 := eq_true p242
              replace q242 := eq_true q242
              have p243 : 0 ≤ (x5_1 : Int) := of_decide_eq_true (by first | (with_reducible assumption) | assumption)
              have q243 : x5_1 < (l1.length : Int) := of_decide_eq_true (by first | (with_reducible assumption) | assumption)
              obtain ⟨ad243, e243, hx243_0⟩ := Kd.at_int HR1.out x5_1 p243 q243
              cases e243
              replace p243 := eq_true p243
              replace q243 := eq_true q243
              go_wp2
              repeat (go_quiet (fail); try go_wp2)
              go_roundg k1
              case measure => have := HK1.out; omega
              case rel => exact ⟨(wrap64 (x5_1 + 1)), (by first | rfl | (simp; done) | (simp [*]; done)), H', ⟨by have := HK1.out; omega⟩, by repeat (first | exact Drawn0.refl _ | apply Drawn0.step)⟩
           · rw [if_neg c7] at H
             have c7b0 : ((rd l0 x5_1) == (rd l1 x5_1)) = false := beq_eq_false_iff_ne.mpr c7
             have c7b1 : ((rd l0 x5_1) != (rd l1 x5_1)) = true := bne_iff_ne.mpr c7
             as_aux_lemma =>
              obtain rfl := Option.some.inj H
              have p242 : 0 ≤ (x5_1 : Int) := of_decide_eq_true (by first | (with_reducible assumption) | assumption)
              have q242 : x5_1 < (l0.length : Int) := of_decide_eq_true (by first | (with_reducible assumption) | assumption)
              obtain ⟨ad242, e242, hx242_0⟩ := Kd.at_int HR0.out x5_1 p242 q242
              cases e242
              replace p242 := eq_true p242
              replace q242 := eq_true q242
              have p243 : 0 ≤ (x5_1 : Int) := of_decide_eq_true (by first | (with_reducible assumption) | assumption)
              have q243 : x5_1 < (l1.length : Int) := of_decide_eq_true (by first | (with_reducible assumption) | assumption)
              obtain ⟨ad243, e243, hx243_0⟩ := Kd.at_int HR1.out x5_1 p243 q243
              cases e243
              replace p243 := eq_true p243
              replace q243 := eq_true q243
              go_wp2
              repeat (go_quiet (fail); try go_wp2)
              go_ret
              exact ⟨by first | rfl | (simp; done) | (simp [*]; done), by repeat (first | exact Drawn0.refl _ | apply Drawn0.step)⟩
         · rw [if_neg c6] at H
           exact absurd H (by simp)
       · rw [if_neg c5] at H
         exact absurd H (by simp)
     · rw [if_neg c4] at H
       have c4b0 : decide (x5_1 < (l0.length : Int)) = false := decide_eq_false c4
       clear c4
       as_aux_lemma =>
        obtain rfl := Option.some.inj H
        go_wp2
        repeat (go_quiet (fail); try go_wp2)
        go_ret
        exact ⟨by first | rfl | (simp; done) | (simp [*]; done), by repeat (first | exact Drawn0.refl _ | apply Drawn0.step)⟩
 · rw [if_neg c3] at H
   have c3b0 : ((l0.length : Int) == (l1.length : Int)) = false := beq_eq_false_iff_ne.mpr c3
   have c3b1 : ((l0.length : Int) != (l1.length : Int)) = true := bne_iff_ne.mpr c3
   have c3b2 : (l0.length == l1.length) = false := by first | simpa using c3 | (simp at c3 ⊢; omega)
   as_aux_lemma =>
    obtain rfl := Option.some.inj H
    go_enter Try.func19, Try.ntmps19
    go_wp2
    repeat (go_quiet (fail); try go_wp2)
    go_ret
    exact ⟨by first | rfl | (simp; done) | (simp [*]; done), by repeat (first | exact Drawn0.refl _ | apply Drawn0.step)⟩

/-! ### laws_markFloat32S: function 20 -/
def laws_markFloat32S.l0 : Nat → List Nat → Int → Int → Option (Int × List Nat)
 | 0, _, _, _ => none
 | k + 1, x0, x1, x5 => if x5 < (x0.length : Int) then (if 0 ≤ x5 then (laws_markFloat32S.l0 k (x0.set (x5 : Int).toNat (floatOfInt .f32 x1)) (wrap64 (x1 + 1)) (wrap64 (x5 + 1))) else (none)) else (some (x1, x0))
def laws_markFloat32S.f (k : Nat) (l0 : List Nat) (a1 : Int) : Option (Int × List Nat) := laws_markFloat32S.l0 k l0 a1 0
theorem laws_markFloat32S.mono_l : ∀ k, (∀ y0 y1 y2, LeO (laws_markFloat32S.l0 k y0 y1 y2) (laws_markFloat32S.l0 (k + 1) y0 y1 y2))
 | 0 => fun _ _ _ r h => by simp [laws_markFloat32S.l0] at h
 | k + 1 => by
  have ih0 := laws_markFloat32S.mono_l k
  · intro y0 y1 y2
    unfold laws_markFloat32S.l0
    repeat' first
    | (with_reducible exact ih0 _ _ _)
    | (with_reducible exact LeO.refl _)
    | (with_reducible exact LeO.none _)
    | (with_reducible refine LeO.ite ?_ ?_)
    | (with_reducible refine LeO.bind ?_ (fun _ => ?_))
    | exact ih0 _ _ _
    | exact LeO.none _
    | refine LeO.ite ?_ ?_
    | refine LeO.bind ?_ (fun _ => ?_)
theorem laws_markFloat32S.mono : ∀ a0 a1 k, LeO (laws_markFloat32S.f k a0 a1) (laws_markFloat32S.f (k + 1) a0 a1) := by
 intro a0 a1 k
 have ih0 := laws_markFloat32S.mono_l k
 unfold laws_markFloat32S.f
 repeat' first
  | (with_reducible exact ih0 _ _ _)
  | (with_reducible exact LeO.refl _)
  | (with_reducible exact LeO.none _)
  | (with_reducible refine LeO.ite ?_ ?_)
  | (with_reducible refine LeO.bind ?_ (fun _ => ?_))
  | exact ih0 _ _ _
  | exact LeO.none _
  | refine LeO.ite ?_ ?_
  | refine LeO.bind ?_ (fun _ => ?_)
set_option maxHeartbeats 8000000 in
set_option maxRecDepth 100000 in
theorem laws_markFloat32S.calls (k : Nat) (P0_ : Nat → Prop) (u9000_ : Value) (l0 : List Nat) (a1 : Int) (r1 : Int) (r2 : List Nat) (w0 w : World) (hB : Below w0.heap.size w0 w) (ho0 : Kd.R Kd.f32 23 w w0.heap.size P0_ u9000_ l0) (h : laws_markFloat32S.f k l0 a1 = some (r1, r2)) :
 Calls Try.prog 20 #[u9000_, .int .i64 a1] w fun e w' => e = .returned (.int .i64 r1) ∧ Kd.R Kd.f32 23 w' w0.heap.size (fun k_ => (P0_ k_ ∨ w.heap.size ≤ k_)) u9000_ r2 ∧ Below w0.heap.size w0 w' ∧ Kept w w' (fun k_ => P0_ k_) := by
 have hu3 := Try.underlying3
 have hu23 := Try.underlying23
 have HO0 := Aside0.mk (show Kd.R Kd.f32 23 w w0.heap.size (fun k_ => (P0_ k_ ∨ w.heap.size ≤ k_)) u9000_ l0 from Kd.R_mono ho0 (fun k_ hk => (.inl hk)))
 have HK := Aside0.mk (Kept.refl w (fun k_ => P0_ k_))
 have HW0 := Aside0.mk hB.size
 have HB := Aside0.mk hB
 clear hB
 have H : (laws_markFloat32S.l0 k l0 a1 0) = some (r1, r2) := h
 clear h
 have H' := Aside0.mk H
 clear H
 go_enter Try.func20, Try.ntmps20
 go_wp2
 go_loopg [1, 5] k (fun kq v1 v5 w' => ∃ (x0_1 : List Nat) (x1_1 : Int) (x5_1 : Int), v1 = .int .i64 x1_1 ∧ v5 = .int .i64 x5_1 ∧ Aside0 (laws_markFloat32S.l0 kq x0_1 x1_1 x5_1 = some (r1, r2)) ∧ Aside0 (kq ≤ k) ∧ Aside0 (Kd.R Kd.f32 23 w' w0.heap.size (fun k_ => (P0_ k_ ∨ w.heap.size ≤ k_)) u9000_ x0_1) ∧ Aside0 (Kept w w' (fun k_ => P0_ k_)) ∧ Aside0 (Below w0.heap.size w0 w'))
 case atStart => exact ⟨(l0), (a1), (0), (by first | rfl | (simp; done) | (simp [*]; done)), (by first | rfl | (simp; done) | (simp [*]; done)), H', ⟨Nat.le_refl _⟩, ⟨by (with_reducible repeat (first | apply Kd.R_alloc | apply Kd.R_drewN | apply Kd.R_drew)); exact HO0.out⟩, ⟨by repeat (first | (with_reducible first | exact HK.out | apply Kept.alloc | apply Kept.drewN | apply Kept.drew) | exact HK.out)⟩, ⟨by repeat (first | (with_reducible first | exact HB.out | apply below_alloc | apply pw_below_drewN | apply below_drew1) | exact HB.out)⟩⟩
 case round =>
  clear H'
  (try clear c2); (try clear p2)
  obtain ⟨x0_1, x1_1, x5_1, rfl, rfl, HA, HK1, HO_0, HK, HB⟩ := hrel
  cases gk with
  | zero => exact absurd HA.out (by simp [laws_markFloat32S.l0])
  | succ k1 =>
   have H := HA.out
   clear HA
   simp only [laws_markFloat32S.l0] at H
   by_cases c3 : x5_1 < (x0_1.length : Int)
   · rw [if_pos c3] at H
     have c3b0 : decide (x5_1 < (x0_1.length : Int)) = true := decide_eq_true c3
     clear c3
     by_cases c4 : 0 ≤ x5_1
     · rw [if_pos c4] at H
       have c4b0 : decide (0 ≤ x5_1) = true := decide_eq_true c4
       clear c4
       obtain ⟨y244, hy244⟩ : ∃ y_ : List Nat, y_ = (x0_1.set (x5_1 : Int).toNat (floatOfInt .f32 x1_1)) := ⟨_, rfl⟩
       replace H : (laws_markFloat32S.l0 k1 y244 (wrap64 (x1_1 + 1)) (wrap64 (x5_1 + 1))) = some (r1, r2) := by first | (rw [hy244]; with_reducible exact H) | (have H2_ := (Option.bind_some _ _).symm.trans H; rw [hy244]; with_reducible exact H2_) | (have H2_ := (Option.bind_some _ _).symm.trans H; with_reducible exact H2_) | with_reducible exact H | (rw [hy244]; exact H) | exact H
       have Ny244 := Aside0.mk hy244
       clear hy244
       as_aux_lemma =>
        have H' := Aside0.mk H
        clear H
        obtain ⟨Ao6, co6, eo6⟩ := Kd.R_slice HO_0.out
        subst eo6
        have p5 : 0 ≤ (x5_1 : Int) := of_decide_eq_true (by first | (with_reducible assumption) | assumption)
        have q5 : (x5_1 : Int) < ((x0_1.length : Int) : Int) := of_decide_eq_true (by first | (with_reducible assumption) | assumption)
        obtain ⟨go5, co5, eo5, gb5, gl5, cl5, HG5⟩ := Kd.R_form HO_0.out (by omega)
        (first | cases eo5 | (injection eo5 with ea_ en_ ec_; (first | subst ea_ | (injection ea_ with ea_; subst ea_)); subst ec_; clear en_))
        have GB5 := Aside0.mk gb5
        have GG5 := Aside0.mk HG5
        clear gb5 gl5 HG5
        have HMgo5 := Aside0.mk (show (P0_ go5 ∨ w.heap.size ≤ go5) from (HO_0.out.1 _ rfl))
        obtain ⟨hx5_0, hf5_0⟩ := Kd.R_celln (0 : Nat) HO_0.out (x5_1 : Int) p5 q5
        replace p5 := eq_true p5
        replace q5 := eq_true q5
        have HP7 := Kd.R_putg HO_0.out (x5_1 : Int) (floatOfInt .f32 x1_1)
        go_wp2_with (first | ((with_reducible refine gate_store (t := 23) (p := 16) rfl ?_); refine store_event (t := 23) (p := 16) (v := ?vo_w8) (w1 := (wr.setCell ⟨go5, (x5_1 : Int).toNat, none⟩ (.float .f32 (floatOfInt .f32 x1_1)))) ?hg ?ho ?hn ?hr ?_; (case ho => rfl); (case hg => rfl); (case hn => rfl); (case hr => first | (go_simp; done) | (go_simp; rfl)); intro w8 hw; have hg : wr.grownBy w8 (some go5) := (by rw [hw]; exact HP7.2); have hp_ : Kd.R Kd.f32 23 w8 w0.heap.size (fun k_ => (P0_ k_ ∨ w.heap.size ≤ k_)) (.slice (some ⟨go5, 0, none⟩) x0_1.length co6) y244 := (by rw [hw, Ny244.out]; exact HP7.1); clear HP7; have n0_ := Aside0.mk (hp_); have n1_ := Aside0.mk ((by rw [hw]; exact below_set (HB.out) GB5.out : Below w0.heap.size w0 w8)); have n2_ := Aside0.mk (Kept.of_grown (S := (fun k_ => P0_ k_)) hg (by repeat (first | (with_reducible first | exact HK.out | apply Kept.alloc | apply Kept.drewN | apply Kept.drew) | exact HK.out)) (fun k_ e_ => (HO_0.out.1 k_ e_))); clear HO_0; clear HB; clear HK; have HO_0 := n0_; have HB := n1_; have HK := n2_; clear n0_ n1_ n2_; clear hg hw hp_))
        go_roundg k1
        case measure => have := HK1.out; omega
        case rel => exact ⟨(y244), (wrap64 (x1_1 + 1)), (wrap64 (x5_1 + 1)), (by first | rfl | (simp; done) | (simp [*]; done)), (by first | rfl | (simp; done) | (simp [*]; done)), H', ⟨by have := HK1.out; omega⟩, ⟨by (with_reducible repeat (first | apply Kd.R_alloc | apply Kd.R_drewN | apply Kd.R_drew)); exact HO_0.out⟩, ⟨by repeat (first | (with_reducible first | exact HK.out | apply Kept.alloc | apply Kept.drewN | apply Kept.drew) | exact HK.out)⟩, ⟨by repeat (first | (with_reducible first | exact HB.out | apply below_alloc | apply pw_below_drewN | apply below_drew1) | exact HB.out)⟩⟩
     · rw [if_neg c4] at H
       exact absurd H (by simp)
   · rw [if_neg c3] at H
     have c3b0 : decide (x5_1 < (x0_1.length : Int)) = false := decide_eq_false c3
     clear c3
     as_aux_lemma =>
      simp only [Option.some.injEq, Prod.mk.injEq] at H
      obtain ⟨rfl, rfl⟩ := H
      obtain ⟨Ao9, co9, eo9⟩ := Kd.R_slice HO_0.out
      subst eo9
      go_wp2
      go_ret
      exact ⟨by first | rfl | (simp [errW_none, errW_some] <;> rfl) | (simp [*, errW_none, errW_some] <;> rfl), by (with_reducible repeat (first | apply Kd.R_alloc | apply Kd.R_drewN | apply Kd.R_drew)); exact HO_0.out, by repeat (first | (with_reducible first | exact HB.out | apply below_alloc | apply pw_below_drewN | apply below_drew1) | exact HB.out), by repeat (first | (with_reducible first | exact HK.out | apply Kept.alloc | apply Kept.drewN | apply Kept.drew) | exact HK.out)⟩

/-! ### laws_markInt64S: function 21 -/
def laws_markInt64S.l0 : Nat → List Int → Int → Int → Option (Int × List Int)
 | 0, _, _, _ => none
 | k + 1, x0, x1, x5 => if x5 < (x0.length : Int) then (if 0 ≤ x5 then (laws_markInt64S.l0 k (x0.set (x5 : Int).toNat x1) (wrap64 (x1 + 1)) (wrap64 (x5 + 1))) else (none)) else (some (x1, x0))
def laws_markInt64S.f (k : Nat) (l0 : List Int) (a1 : Int) : Option (Int × List Int) := laws_markInt64S.l0 k l0 a1 0
theorem laws_markInt64S.mono_l : ∀ k, (∀ y0 y1 y2, LeO (laws_markInt64S.l0 k y0 y1 y2) (laws_markInt64S.l0 (k + 1) y0 y1 y2))
 | 0 => fun _ _ _ r h => by simp [laws_markInt64S.l0] at h
 | k + 1 => by
  have ih0 := laws_markInt64S.mono_l k
  · intro y0 y1 y2
    unfold laws_markInt64S.l0
    repeat' first
    | (with_reducible exact ih0 _ _ _)
    | (with_reducible exact LeO.refl _)
    | (with_reducible exact LeO.none _)
    | (with_reducible refine LeO.ite ?_ ?_)
    | (with_reducible refine LeO.bind ?_ (fun _ => ?_))
    | exact ih0 _ _ _
    | exact LeO.none _
    | refine LeO.ite ?_ ?_
    | refine LeO.bind ?_ (fun _ => ?_)
theorem laws_markInt64S.mono : ∀ a0 a1 k, LeO (laws_markInt64S.f k a0 a1) (laws_markInt64S.f (k + 1) a0 a1) := by
 intro a0 a1 k
 have ih0 := laws_markInt64S.mono_l k
 unfold laws_markInt64S.f
 repeat' first
  | (with_reducible exact ih0 _ _ _)
  | (with_reducible exact LeO.refl _)
  | (with_reducible exact LeO.none _)
  | (with_reducible refine LeO.ite ?_ ?_)
  | (with_reducible refine LeO.bind ?_ (fun _ => ?_))
  | exact ih0 _ _ _
  | exact LeO.none _
  | refine LeO.ite ?_ ?_
  | refine LeO.bind ?_ (fun _ => ?_)
set_option maxHeartbeats 8000000 in
set_option maxRecDepth 100000 in
theorem laws_markInt64S.calls (k : Nat) (P0_ : Nat → Prop) (u9000_ : Value) (l0 : List Int) (a1 : Int) (r1 : Int) (r2 : List Int) (w0 w : World) (hB : Below w0.heap.size w0 w) (ho0 : Kd.R (Kd.int .i64) 2 w w0.heap.size P0_ u9000_ l0) (h : laws_markInt64S.f k l0 a1 = some (r1, r2)) :
 Calls Try.prog 21 #[u9000_, .int .i64 a1] w fun e w' => e = .returned (.int .i64 r1) ∧ Kd.R (Kd.int .i64) 2 w' w0.heap.size (fun k_ => (P0_ k_ ∨ w.heap.size ≤ k_)) u9000_ r2 ∧ Below w0.heap.size w0 w' ∧ Kept w w' (fun k_ => P0_ k_) := by
 have HO0 := Aside0.mk (show Kd.R (Kd.int .i64) 2 w w0.heap.size (fun k_ => (P0_ k_ ∨ w.heap.size ≤ k_)) u9000_ l0 from Kd.R_mono ho0 (fun k_ hk => (.inl hk)))
 have HK := Aside0.mk (Kept.refl w (fun k_ => P0_ k_))
 have HW0 := Aside0.mk hB.size
 have HB := Aside0.mk hB
 clear hB
 have H : (laws_markInt64S.l0 k l0 a1 0) = some (r1, r2) := h
 clear h
 have H' := Aside0.mk H
 clear H
 go_enter Try.func21, Try.ntmps21
 go_wp2
 go_loopg [1, 5] k (fun kq v1 v5 w' => ∃ (x0_1 : List Int) (x1_1 : Int) (x5_1 : Int), v1 = .int .i64 x1_1 ∧ v5 = .int .i64 x5_1 ∧ Aside0 (laws_markInt64S.l0 kq x0_1 x1_1 x5_1 = some (r1, r2)) ∧ Aside0 (kq ≤ k) ∧ Aside0 (Kd.R (Kd.int .i64) 2 w' w0.heap.size (fun k_ => (P0_ k_ ∨ w.heap.size ≤ k_)) u9000_ x0_1) ∧ Aside0 (Kept w w' (fun k_ => P0_ k_)) ∧ Aside0 (Below w0.heap.size w0 w'))
 case atStart => exact ⟨(l0), (a1), (0), (by first | rfl | (simp; done) | (simp [*]; done)), (by first | rfl | (simp; done) | (simp [*]; done)), H', ⟨Nat.le_refl _⟩, ⟨by (with_reducible repeat (first | apply Kd.R_alloc | apply Kd.R_drewN | apply Kd.R_drew)); exact HO0.out⟩, ⟨by repeat (first | (with_reducible first | exact HK.out | apply Kept.alloc | apply Kept.drewN | apply Kept.drew) | exact HK.out)⟩, ⟨by repeat (first | (with_reducible first | exact HB.out | apply below_alloc | apply pw_below_drewN | apply below_drew1) | exact HB.out)⟩⟩
 case round =>
  clear H'
  (try clear c2); (try clear p2)
  obtain ⟨x0_1, x1_1, x5_1, rfl, rfl, HA, HK1, HO_0, HK, HB⟩ := hrel
  cases gk with
  | zero => exact absurd HA.out (by simp [laws_markInt64S.l0])
  | succ k1 =>
   have H := HA.out
   clear HA
   simp only [laws_markInt64S.l0] at H
   by_cases c3 : x5_1 < (x0_1.length : Int)
   · rw [if_pos c3] at H
     have c3b0 : decide (x5_1 < (x0_1.length : Int)) = true := decide_eq_true c3
     clear c3
     by_cases c4 : 0 ≤ x5_1
     · rw [if_pos c4] at H
       have c4b0 : decide (0 ≤ x5_1) = true := decide_eq_true c4
       clear c4
       obtain ⟨y245, hy245⟩ : ∃ y_ : List Int, y_ = (x0_1.set (x5_1 : Int).toNat x1_1) := ⟨_, rfl⟩
       replace H : (laws_markInt64S.l0 k1 y245 (wrap64 (x1_1 + 1)) (wrap64 (x5_1 + 1))) = some (r1, r2) := by first | (rw [hy245]; with_reducible exact H) | (have H2_ := (Option.bind_some _ _).symm.trans H; rw [hy245]; with_reducible exact H2_) | (have H2_ := (Option.bind_some _ _).symm.trans H; with_reducible exact H2_) | with_reducible exact H | (rw [hy245]; exact H) | exact H
       have Ny245 := Aside0.mk hy245
       clear hy245
       as_aux_lemma =>
        have H' := Aside0.mk H
        clear H
        obtain ⟨Ao6, co6, eo6⟩ := Kd.R_slice HO_0.out
        subst eo6
        have p5 : 0 ≤ (x5_1 : Int) := of_decide_eq_true (by first | (with_reducible assumption) | assumption)
        have q5 : (x5_1 : Int) < ((x0_1.length : Int) : Int) := of_decide_eq_true (by first | (with_reducible assumption) | assumption)
        obtain ⟨go5, co5, eo5, gb5, gl5, cl5, HG5⟩ := Kd.R_form HO_0.out (by omega)
        (first | cases eo5 | (injection eo5 with ea_ en_ ec_; (first | subst ea_ | (injection ea_ with ea_; subst ea_)); subst ec_; clear en_))
        have GB5 := Aside0.mk gb5
        have GG5 := Aside0.mk HG5
        clear gb5 gl5 HG5
        have HMgo5 := Aside0.mk (show (P0_ go5 ∨ w.heap.size ≤ go5) from (HO_0.out.1 _ rfl))
        obtain ⟨hx5_0, hf5_0⟩ := Kd.R_celln 0 HO_0.out (x5_1 : Int) p5 q5
        replace p5 := eq_true p5
        replace q5 := eq_true q5
        have HP7 := Kd.R_putg HO_0.out (x5_1 : Int) x1_1
        go_wp2_with (first | ((with_reducible refine gate_store (t := 2) (p := 15) rfl ?_); refine store_event (t := 2) (p := 15) (v := ?vo_w8) (w1 := (wr.setCell ⟨go5, (x5_1 : Int).toNat, none⟩ (.int .i64 x1_1))) ?hg ?ho ?hn ?hr ?_; (case ho => rfl); (case hg => rfl); (case hn => rfl); (case hr => first | (go_simp; done) | (go_simp; rfl)); intro w8 hw; have hg : wr.grownBy w8 (some go5) := (by rw [hw]; exact HP7.2); have hp_ : Kd.R (Kd.int .i64) 2 w8 w0.heap.size (fun k_ => (P0_ k_ ∨ w.heap.size ≤ k_)) (.slice (some ⟨go5, 0, none⟩) x0_1.length co6) y245 := (by rw [hw, Ny245.out]; exact HP7.1); clear HP7; have n0_ := Aside0.mk (hp_); have n1_ := Aside0.mk ((by rw [hw]; exact below_set (HB.out) GB5.out : Below w0.heap.size w0 w8)); have n2_ := Aside0.mk (Kept.of_grown (S := (fun k_ => P0_ k_)) hg (by repeat (first | (with_reducible first | exact HK.out | apply Kept.alloc | apply Kept.drewN | apply Kept.drew) | exact HK.out)) (fun k_ e_ => (HO_0.out.1 k_ e_))); clear HO_0; clear HB; clear HK; have HO_0 := n0_; have HB := n1_; have HK := n2_; clear n0_ n1_ n2_; clear hg hw hp_))
        go_roundg k1
        case measure => have := HK1.out; omega
        case rel => exact ⟨(y245), (wrap64 (x1_1 + 1)), (wrap64 (x5_1 + 1)), (by first | rfl | (simp; done) | (simp [*]; done)), (by first | rfl | (simp; done) | (simp [*]; done)), H', ⟨by have := HK1.out; omega⟩, ⟨by (with_reducible repeat (first | apply Kd.R_alloc | apply Kd.R_drewN | apply Kd.R_drew)); exact HO_0.out⟩, ⟨by repeat (first | (with_reducible first | exact HK.out | apply Kept.alloc | apply Kept.drewN | apply Kept.drew) | exact HK.out)⟩, ⟨by repeat (first | (with_reducible first | exact HB.out | apply below_alloc | apply pw_below_drewN | apply below_drew1) | exact HB.out)⟩⟩
     · rw [if_neg c4] at H
       exact absurd H (by simp)
   · rw [if_neg c3] at H
     have c3b0 : decide (x5_1 < (x0_1.length : Int)) = false := decide_eq_false c3
     clear c3
     as_aux_lemma =>
      simp only [Option.some.injEq, Prod.mk.injEq] at H
      obtain ⟨rfl, rfl⟩ := H
      obtain ⟨Ao9, co9, eo9⟩ := Kd.R_slice HO_0.out
      subst eo9
      go_wp2
      go_ret
      exact ⟨by first | rfl | (simp [errW_none, errW_some] <;> rfl) | (simp [*, errW_none, errW_some] <;> rfl), by (with_reducible repeat (first | apply Kd.R_alloc | apply Kd.R_drewN | apply Kd.R_drew)); exact HO_0.out, by repeat (first | (with_reducible first | exact HB.out | apply below_alloc | apply pw_below_drewN | apply below_drew1) | exact HB.out), by repeat (first | (with_reducible first | exact HK.out | apply Kept.alloc | apply Kept.drewN | apply Kept.drew) | exact HK.out)⟩

end Go.Proofs.Ytncckihaacceaaa.L
