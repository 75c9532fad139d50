/-
  Contracts of the program's functions, each a plain Lean function beside the machine's call: written by this session's program over the kit's print.
-/
import Derived.Test.YtnfcbacdggkfeaaPx0
import Derived.Test.YtnfcbacdggkfeaaPx1
namespace Go.Proofs.Ytnfcbacdggkfeaa.P
open Go.RowKit Go.Proofs.YtnfcbacdggkfeaaW.PrintWords Go.Proofs.YtnfcbacdggkfeaaW.PrintLast Go.Proofs.YtnfcbacdggkfeaaW.PrintMore
attribute [local go_sem] max2_int min2_int max_two min_two max_three min_three max_four min_four   -- for this text's walks alone
set_option linter.unusedVariables false
set_option linter.unusedSimpArgs false

/-! ### impl_PolynomialOf: function 9 -/
mutual
def impl_PolynomialOf.l0 : Nat → List C64 → List C64 → Int → Int → Option (List C64 × Bool)
 | 0, _, _, _, _ => none
 | k + 1, x4, x13, x14, x15 => if x15 < x14 then (if 0 ≤ x15 then (if x15 < (x13.length : Int) then (if x4.length < 17592186044416 then ((some (x4 ++ [(⟨0, 0⟩ : C64)] : List C64)).bind fun y136 => (impl_PolynomialOf.l1 k y136 (rdOf c64z x13 x15) (wrap64 ((y136.length : Int) - 1)) x13 x14 x15)) else (none)) else (none)) else (none)) else (some (x4, true))
def impl_PolynomialOf.l1 : Nat → List C64 → C64 → Int → List C64 → Int → Int → Option (List C64 × Bool)
 | 0, _, _, _, _, _, _ => none
 | k + 1, x4, x6, x7, x13, x14, x15 => if x7 ≥ 0 then (if x7 > 0 then (if 0 ≤ (wrap64 (x7 - 1)) then (if (wrap64 (x7 - 1)) < (x4.length : Int) then (if 0 ≤ x7 then (if x7 < (x4.length : Int) then ((impl_MulComplex.f x6 (rdOf c64z x4 x7)).bind fun t141 => ((impl_less.f (rdOf c64z x4 (wrap64 (x7 - 1))) t141).bind fun t142 => (impl_PolynomialOf.l1 k (x4.set (x7 : Int).toNat t142) x6 (wrap64 (x7 - 1)) x13 x14 x15))) else (none)) else (none)) else (none)) else (none)) else (if 0 ≤ x7 then (if x7 < (x4.length : Int) then ((impl_MulComplex.f x6 (rdOf c64z x4 x7)).bind fun t145 => ((impl_less.f (⟨0, 0⟩ : C64) t145).bind fun t146 => (impl_PolynomialOf.l1 k (x4.set (x7 : Int).toNat t146) x6 (wrap64 (x7 - 1)) x13 x14 x15))) else (none)) else (none))) else (impl_PolynomialOf.l0 k x4 x13 x14 (wrap64 (x15 + 1)))
end
def impl_PolynomialOf.f (k : Nat) (l0 : List C64) : Option (List C64 × Bool) := if (l0.length : Int) > 15 then (none) else (impl_PolynomialOf.l0 k (([(⟨1065353216, 0⟩ : C64)] : List C64)) l0 (l0.length : Int) 0)
theorem impl_PolynomialOf.mono_l : ∀ k, (∀ y0 y1 y2 y3, LeO (impl_PolynomialOf.l0 k y0 y1 y2 y3) (impl_PolynomialOf.l0 (k + 1) y0 y1 y2 y3)) ∧ (∀ y0 y1 y2 y3 y4 y5, LeO (impl_PolynomialOf.l1 k y0 y1 y2 y3 y4 y5) (impl_PolynomialOf.l1 (k + 1) y0 y1 y2 y3 y4 y5))
 | 0 => ⟨fun _ _ _ _ r h => by simp [impl_PolynomialOf.l0] at h, fun _ _ _ _ _ _ r h => by simp [impl_PolynomialOf.l1] at h⟩
 | k + 1 => by
  obtain ⟨ih0, ih1⟩ := impl_PolynomialOf.mono_l k
  refine ⟨?_, ?_⟩
  · intro y0 y1 y2 y3
    unfold impl_PolynomialOf.l0
    repeat' first
    | (with_reducible exact ih0 _ _ _ _)
    | (with_reducible exact ih1 _ _ _ _ _ _)
    | (with_reducible exact LeO.refl _)
    | (with_reducible exact LeO.none _)
    | (with_reducible refine LeO.ite ?_ ?_)
    | (with_reducible refine LeO.bind ?_ (fun _ => ?_))
    | exact ih0 _ _ _ _
    | exact ih1 _ _ _ _ _ _
    | exact LeO.none _
    | refine LeO.ite ?_ ?_
    | refine LeO.bind ?_ (fun _ => ?_)
  · intro y0 y1 y2 y3 y4 y5
    unfold impl_PolynomialOf.l1
    repeat' first
    | (with_reducible exact ih0 _ _ _ _)
    | (with_reducible exact ih1 _ _ _ _ _ _)
    | (with_reducible exact LeO.refl _)
    | (with_reducible exact LeO.none _)
    | (with_reducible refine LeO.ite ?_ ?_)
    | (with_reducible refine LeO.bind ?_ (fun _ => ?_))
    | exact ih0 _ _ _ _
    | exact ih1 _ _ _ _ _ _
    | exact LeO.none _
    | refine LeO.ite ?_ ?_
    | refine LeO.bind ?_ (fun _ => ?_)
theorem impl_PolynomialOf.mono : ∀ a0 k, LeO (impl_PolynomialOf.f k a0) (impl_PolynomialOf.f (k + 1) a0) := by
 intro a0 k
 obtain ⟨ih0, ih1⟩ := impl_PolynomialOf.mono_l k
 unfold impl_PolynomialOf.f
 repeat' first
  | (with_reducible exact ih0 _ _ _ _)
  | (with_reducible exact ih1 _ _ _ _ _ _)
  | (with_reducible exact LeO.refl _)
  | (with_reducible exact LeO.none _)
  | (with_reducible refine LeO.ite ?_ ?_)
  | (with_reducible refine LeO.bind ?_ (fun _ => ?_))
  | exact ih0 _ _ _ _
  | exact ih1 _ _ _ _ _ _
  | exact LeO.none _
  | refine LeO.ite ?_ ?_
  | refine LeO.bind ?_ (fun _ => ?_)
set_option maxHeartbeats 8000000 in
set_option maxRecDepth 100000 in
theorem impl_PolynomialOf.calls (k : Nat) (A0 : Option Addr) (c0 : Nat) (l0 : List C64) (r1 : List C64) (r2 : Bool) (w : World) (hr0 : Kd.C Kd.c64 w A0 l0.length l0) (hc0 : l0.length ≤ c0) (h : impl_PolynomialOf.f k l0 = some (r1, r2)) :
 Calls Try.prog 9 #[.slice A0 l0.length c0] w fun e w' => ∃ v0_ : Value, e = .returned (.tuple #[v0_, .bool r2]) ∧ Kd.R Kd.c64 30 w' w.heap.size (fun _ => True) v0_ r1 ∧ Below w.heap.size w w' := by
 have HR0 := Aside0.mk hr0
 have HC0 := Aside0.mk hc0
 clear hr0 hc0
 have HB := Aside0.mk (Below.refl w.heap.size w)
 have H : (if (l0.length : Int) > 15 then (none) else (impl_PolynomialOf.l0 k (([(⟨1065353216, 0⟩ : C64)] : List C64)) l0 (l0.length : Int) 0)) = some (r1, r2) := h
 clear h
 by_cases c2 : (l0.length : Int) > 15
 · rw [if_pos c2] at H
   exact absurd H (by simp)
 · rw [if_neg c2] at H
   have c2b0 : decide (15 < (l0.length : Int)) = false := decide_eq_false c2
   have c2b1 : decide (15 < l0.length) = false := decide_eq_false (by omega)
   clear c2
   obtain ⟨y132, hy132⟩ : ∃ y_ : List C64, y_ = (([(⟨1065353216, 0⟩ : C64)] : List C64)) := ⟨_, rfl⟩
   replace H : (impl_PolynomialOf.l0 k y132 l0 (l0.length : Int) 0) = some (r1, r2) := by first | (rw [hy132]; with_reducible exact H) | (have H2_ := (Option.bind_some _ _).symm.trans H; rw [hy132]; with_reducible exact H2_) | (have H2_ := (Option.bind_some _ _).symm.trans H; with_reducible exact H2_) | with_reducible exact H | (rw [hy132]; exact H) | exact H
   have Ny132 := Aside0.mk hy132
   clear hy132
   have H' := Aside0.mk H
   clear H
   go_enter Try.func9, Try.ntmps9
   go_wp2_with (first | ((with_reducible refine gate_dst (N := 12) rfl ?_); refine Kd.R_lit Kd.c64 _ 30 ?hg (N := 12) ?hd (xs := ([(⟨1065353216, 0⟩ : C64)] : List C64)) (inner := [.complex .f32 1065353216 0]) (ok := fun _ => True) (okp := fun _ => True) ?hr ?hp (fun _ hk => hk) trivial (Below.refl _ _) (Nat.le_refl _) (by simp) ?_; (case hd => rfl); (case hg => rfl); (case hr => first | (go_simp; done) | (go_simp; rfl)); (case hp => exact (Reps.one (show Kd.M Kd.c64 _ _ _ (⟨1065353216, 0⟩ : C64) [.complex .f32 1065353216 0] from rfl) (Reps.none _ _))); intro v133 w3 ho4 hb hg_ hnew_; clear hg_ hnew_; (first | rw [← Ny132.out] at ho4 | (simp only [Int.reduceToNat] at ho4; rw [← Ny132.out] at ho4)); have n0_ := Aside0.mk (Kd.R_lower ho4 (below_size (by repeat (first | (with_reducible first | exact HB.out | apply below_alloc | apply pw_below_drewN | apply below_drew1) | exact HB.out)))); have n1_ := Aside0.mk (below_step (by repeat (first | (with_reducible first | exact HB.out | apply below_alloc | apply pw_below_drewN | apply below_drew1) | exact HB.out)) hb); clear HB; have HO134 := n0_; have HB := n1_; clear n0_ n1_; clear hb ho4))
   go_loopg [4, 15] k (fun kq v4 v15 w' => ∃ (x4_1 : List C64) (x15_1 : Int), v15 = .int .i64 x15_1 ∧ Aside0 (impl_PolynomialOf.l0 kq x4_1 l0 (l0.length : Int) x15_1 = some (r1, r2)) ∧ Aside0 (kq ≤ k) ∧ Aside0 (Kd.R Kd.c64 30 w' w.heap.size (fun _ => True) v4 x4_1) ∧ Aside0 (Below w.heap.size w w'))
   case atStart => exact ⟨(y132), (0), (by first | rfl | (simp; done) | (simp [*]; done)), H', ⟨Nat.le_refl _⟩, ⟨by (with_reducible repeat (first | apply Kd.R_alloc | apply Kd.R_drewN | apply Kd.R_drew)); exact HO134.out⟩, ⟨by repeat (first | (with_reducible first | exact HB.out | apply below_alloc | apply pw_below_drewN | apply below_drew1) | exact HB.out)⟩⟩
   case round =>
    clear H'
    (try clear c2); (try clear c2b0); (try clear c2b1); (try clear p2)
    obtain ⟨x4_1, x15_1, rfl, HA, HK1, HO_4, HB⟩ := hrel
    cases gk with
    | zero => exact absurd HA.out (by simp [impl_PolynomialOf.l0])
    | succ k1 =>
     have H := HA.out
     clear HA
     simp only [impl_PolynomialOf.l0] at H
     by_cases c5 : x15_1 < (l0.length : Int)
     · rw [if_pos c5] at H
       have c5b0 : decide (x15_1 < (l0.length : Int)) = true := decide_eq_true c5
       clear c5
       by_cases c6 : 0 ≤ x15_1
       · rw [if_pos c6] at H
         have c6b0 : decide (0 ≤ x15_1) = true := decide_eq_true c6
         clear c6
         by_cases c7 : x15_1 < (l0.length : Int)
         · rw [if_pos c7] at H
           have c7b0 : decide (x15_1 < (l0.length : Int)) = true := decide_eq_true c7
           clear c7
           by_cases c8 : x4_1.length < 17592186044416
           · rw [if_pos c8] at H
             have LMc8 := Aside0.mk c8
             clear c8
             obtain ⟨y136, hy136⟩ : ∃ y_ : List C64, y_ = (x4_1 ++ [(⟨0, 0⟩ : C64)]) := ⟨_, rfl⟩
             replace H : (impl_PolynomialOf.l1 k1 y136 (rdOf c64z l0 x15_1) (wrap64 ((y136.length : Int) - 1)) l0 (l0.length : Int) x15_1) = some (r1, r2) := by first | (rw [hy136]; with_reducible exact H) | (have H2_ := (Option.bind_some _ _).symm.trans H; rw [hy136]; with_reducible exact H2_) | (have H2_ := (Option.bind_some _ _).symm.trans H; with_reducible exact H2_) | with_reducible exact H | (rw [hy136]; exact H) | exact H
             have Ny136 := Aside0.mk hy136
             clear hy136
             have H' := Aside0.mk H
             clear H
             have p135 : 0 ≤ (x15_1 : Int) := of_decide_eq_true (by first | (with_reducible assumption) | assumption)
             have q135 : x15_1 < (l0.length : Int) := of_decide_eq_true (by first | (with_reducible assumption) | assumption)
             obtain ⟨ad135, e135, hx135_0⟩ := Kd.at_c64 HR0.out x15_1 p135 q135
             cases e135
             replace hx135_0 := (HB.out.cell (World.block_lt_of_cell? w _ hx135_0)).trans hx135_0
             replace p135 := eq_true p135
             replace q135 := eq_true q135
             go_wp2_with (first | ((with_reducible refine gate_builtin (b := .append) (xs := #[.tmp 19, .tmp 20]) rfl ?_); at_builtin; refine Kd.R_append Kd.c64 (w0 := w) w.heap.size rfl (.tmp 19) (.tmp 20) 24 30 (.complex .f32 0 0) 8 rfl Try.underlying24 info30 rfl (by decide) (by omega) u4 x4_1 (⟨0, 0⟩ : C64) [.complex .f32 0 0] (fun _ => True) (fun _ => False) rfl rfl ?aP (fun _ hk => hk.elim) ?aF ?aO ?aB ?aS ?aL ?_; (case aP => exact rfl); (case aB => exact (by repeat (first | (with_reducible first | exact HB.out | apply below_alloc | apply pw_below_drewN | apply below_drew1) | exact HB.out))); (case aF => exact (fun _ _ => trivial)); (case aO => exact (by (with_reducible repeat (first | apply Kd.R_alloc | apply Kd.R_drewN | apply Kd.R_drew)); exact HO_4.out)); (case aS => exact (below_size (by repeat (first | (with_reducible first | exact HB.out | apply below_alloc | apply pw_below_drewN | apply below_drew1) | exact HB.out)))); (case aL => have := LMc8.out; omega); intro v137 w9 ho hb hg hat; rw [← Ny136.out] at ho; have n0_ := Aside0.mk (hb); have n1_ := Aside0.mk (ho); clear HB; clear HO_4; have HB := n0_; have HO138 := n1_; clear n0_ n1_; clear ho hb hg hat; obtain ⟨Ao10, co10, eo10⟩ := Kd.R_slice HO138.out; subst eo10))
             go_loopg [7] k1 (fun kq v7 w' => ∃ (x4_2 : List C64) (x7_2 : Int), v7 = .int .i64 x7_2 ∧ Aside0 (impl_PolynomialOf.l1 kq x4_2 (rdOf c64z l0 x15_1) x7_2 l0 (l0.length : Int) x15_1 = some (r1, r2)) ∧ Aside0 (kq ≤ k1) ∧ Aside0 (Kd.R Kd.c64 30 w' w.heap.size (fun _ => True) (.slice Ao10 y136.length co10) x4_2) ∧ Aside0 (Below w.heap.size w w'))
             case atStart => exact ⟨(y136), (wrap64 ((y136.length : Int) - 1)), (by first | rfl | (simp; done) | (simp [*]; done)), H', ⟨Nat.le_refl _⟩, ⟨by (with_reducible repeat (first | apply Kd.R_alloc | apply Kd.R_drewN | apply Kd.R_drew)); exact HO138.out⟩, ⟨by repeat (first | (with_reducible first | exact HB.out | apply below_alloc | apply pw_below_drewN | apply below_drew1) | exact HB.out)⟩⟩
             case round =>
              clear H'
              (try clear p1); (try clear q1); (try clear hx1); (try clear c2); (try clear c2b0); (try clear c2b1); (try clear p2); (try clear c5); (try clear c5b0); (try clear c6); (try clear c6b0); (try clear p6); (try clear c7); (try clear c7b0); (try clear c8); (try clear c9); (try clear hx135_0); (try clear p135); (try clear p2); (try clear q135)
              obtain ⟨x4_2, x7_2, rfl, HA, HK2, HO_4, HB⟩ := hrel
              have hl4_2 := (Kd.R_reads' HO_4.out).1
              rw [hl4_2] at HO_4
              (try simp only [hl4_2])
              cases gk with
              | zero => exact absurd HA.out (by simp [impl_PolynomialOf.l1])
              | succ k2 =>
               have H := HA.out
               clear HA
               simp only [impl_PolynomialOf.l1] at H
               by_cases c11 : x7_2 ≥ 0
               · rw [if_pos c11] at H
                 have c11b0 : decide (0 ≤ x7_2) = true := decide_eq_true c11
                 clear c11
                 by_cases c12 : x7_2 > 0
                 · rw [if_pos c12] at H
                   have c12b0 : decide (0 < x7_2) = true := decide_eq_true c12
                   clear c12
                   obtain ⟨ji13, hji13⟩ : ∃ j_ : Int, (wrap64 (x7_2 - 1)) = j_ := ⟨_, rfl⟩
                   replace H : (if 0 ≤ (ji13) then (if (ji13) < (x4_2.length : Int) then (if 0 ≤ x7_2 then (if x7_2 < (x4_2.length : Int) then ((impl_MulComplex.f (rdOf c64z l0 x15_1) (rdOf c64z x4_2 x7_2)).bind fun t141 => ((impl_less.f (rdOf c64z x4_2 (ji13)) t141).bind fun t142 => (impl_PolynomialOf.l1 k2 (x4_2.set (x7_2 : Int).toNat t142) (rdOf c64z l0 x15_1) ji13 l0 (l0.length : Int) x15_1))) else (none)) else (none)) else (none)) else (none)) = some (r1, r2) := by first | (rw [hji13] at H; exact H) | (simp only [hji13] at H ⊢; exact H)
                   have hji13w : (IntKind.i64.wrap (x7_2 - 1)) = ji13 := (i64_w _).trans hji13
                   by_cases c14 : 0 ≤ (ji13)
                   · rw [if_pos c14] at H
                     have c14b0 : decide (0 ≤ (ji13)) = true := decide_eq_true c14
                     clear c14
                     by_cases c15 : (ji13) < (x4_2.length : Int)
                     · rw [if_pos c15] at H
                       have c15b0 : decide ((ji13) < (x4_2.length : Int)) = true := decide_eq_true c15
                       clear c15
                       by_cases c16 : 0 ≤ x7_2
                       · rw [if_pos c16] at H
                         have c16b0 : decide (0 ≤ x7_2) = true := decide_eq_true c16
                         clear c16
                         by_cases c17 : x7_2 < (x4_2.length : Int)
                         · rw [if_pos c17] at H
                           have c17b0 : decide (x7_2 < (x4_2.length : Int)) = true := decide_eq_true c17
                           clear c17
                           replace H := Option.bind_eq_some_iff.mp H
                           obtain ⟨t141, A180, H⟩ := H
                           replace H : ((impl_less.f (rdOf c64z x4_2 (ji13)) t141).bind fun t142 => (impl_PolynomialOf.l1 k2 (x4_2.set (x7_2 : Int).toNat t142) (rdOf c64z l0 x15_1) ji13 l0 (l0.length : Int) x15_1)) = some (r1, r2) := H
                           have A18 := Aside0.mk A180
                           clear A180
                           replace H := Option.bind_eq_some_iff.mp H
                           obtain ⟨t142, A190, H⟩ := H
                           replace H : (impl_PolynomialOf.l1 k2 (x4_2.set (x7_2 : Int).toNat t142) (rdOf c64z l0 x15_1) ji13 l0 (l0.length : Int) x15_1) = some (r1, r2) := H
                           have A19 := Aside0.mk A190
                           clear A190
                           obtain ⟨y143, hy143⟩ : ∃ y_ : List C64, y_ = (x4_2.set (x7_2 : Int).toNat t142) := ⟨_, rfl⟩
                           replace H : (impl_PolynomialOf.l1 k2 y143 (rdOf c64z l0 x15_1) ji13 l0 (l0.length : Int) x15_1) = some (r1, r2) := by first | (rw [hy143]; with_reducible exact H) | (have H2_ := (Option.bind_some _ _).symm.trans H; rw [hy143]; with_reducible exact H2_) | (have H2_ := (Option.bind_some _ _).symm.trans H; with_reducible exact H2_) | with_reducible exact H | (rw [hy143]; exact H) | exact H
                           have Ny143 := Aside0.mk hy143
                           clear hy143
                           as_aux_lemma =>
                            have H' := Aside0.mk H
                            clear H
                            have p139 : 0 ≤ ((ji13) : Int) := of_decide_eq_true (by first | (with_reducible assumption) | assumption)
                            have q139 : (ji13) < (x4_2.length : Int) := of_decide_eq_true (by first | (with_reducible assumption) | assumption)
                            obtain ⟨ad139, e139, hx139_0⟩ := Kd.at_c64 (Kd.R_reads' HO_4.out).2.2 (ji13) p139 q139
                            cases e139
                            replace p139 := eq_true p139
                            replace q139 := eq_true q139
                            have p140 : 0 ≤ (x7_2 : Int) := of_decide_eq_true (by first | (with_reducible assumption) | assumption)
                            have q140 : x7_2 < (x4_2.length : Int) := of_decide_eq_true (by first | (with_reducible assumption) | assumption)
                            obtain ⟨ad140, e140, hx140_0⟩ := Kd.at_c64 (Kd.R_reads' HO_4.out).2.2 x7_2 p140 q140
                            obtain rfl : ad139 = ad140 := (by injection e140)
                            replace p140 := eq_true p140
                            replace q140 := eq_true q140
                            go_wp2_with (first | ((with_reducible refine gate_callee (f := 12) rfl ?_); refine goesL_ (some 44) rfl rfl Try.func12 (by kernel_rfl) rfl #[.complex .f32 ((rdOf c64z l0 x15_1).re) ((rdOf c64z l0 x15_1).im), .complex .f32 ((rdOf c64z x4_2 x7_2).re) ((rdOf c64z x4_2 x7_2).im)] rfl (by (try simp only [List.map_toArray, List.map_cons, List.map_nil]); first | done | rfl | (simp only [List.length_drop, List.length_take]; rfl)) ?_; (with_reducible refine (impl_MulComplex.calls (rdOf c64z l0 x15_1) (rdOf c64z x4_2 x7_2) t141 _ A18.out).mono ?_); rintro e w21 ⟨rfl, hb⟩; refine ⟨_, rfl, ?_⟩; have n0_ := Aside0.mk (Kd.R_below (by (with_reducible repeat (first | apply Kd.R_alloc | apply Kd.R_drewN | apply Kd.R_drew)); exact HO_4.out) hb); have n1_ := Aside0.mk (below_step (by repeat (first | (with_reducible first | exact HB.out | apply below_alloc | apply pw_below_drewN | apply below_drew1) | exact HB.out)) hb); clear HO_4; clear HB; have HO_4 := n0_; have HB := n1_; clear n0_ n1_; (try clear hb); (try clear hb2); (try clear hk); (try clear hi)) | ((with_reducible refine gate_callee (f := 26) rfl ?_); refine goesL_ (some 45) rfl rfl Try.func26 (by kernel_rfl) rfl #[.complex .f32 ((rdOf c64z x4_2 (ji13)).re) ((rdOf c64z x4_2 (ji13)).im), .complex .f32 t141.re t141.im] rfl (by (try simp only [List.map_toArray, List.map_cons, List.map_nil]); first | done | (simp only [hji13]; rfl) | rfl | (simp only [List.length_drop, List.length_take]; rfl)) ?_; (with_reducible refine (impl_less.calls (rdOf c64z x4_2 (ji13)) t141 t142 _ A19.out).mono ?_); rintro e w22 ⟨rfl, hb⟩; refine ⟨_, rfl, ?_⟩; have n0_ := Aside0.mk (Kd.R_below (by (with_reducible repeat (first | apply Kd.R_alloc | apply Kd.R_drewN | apply Kd.R_drew)); exact HO_4.out) hb); have n1_ := Aside0.mk (below_step (by repeat (first | (with_reducible first | exact HB.out | apply below_alloc | apply pw_below_drewN | apply below_drew1) | exact HB.out)) hb); clear HO_4; clear HB; have HO_4 := n0_; have HB := n1_; clear n0_ n1_; (try clear hb); (try clear hb2); (try clear hk); (try clear hi); have p20 : 0 ≤ (x7_2 : Int) := of_decide_eq_true (by first | (with_reducible assumption) | assumption); have q20 : (x7_2 : Int) < ((x4_2.length : Int) : Int) := of_decide_eq_true (by first | (with_reducible assumption) | assumption); obtain ⟨go20, co20, eo20, gb20, gl20, cl20, HG20⟩ := Kd.R_form HO_4.out (by omega); (first | cases eo20 | (injection eo20 with ea_ en_ ec_; (first | subst ea_ | (injection ea_ with ea_; subst ea_)); subst ec_; clear en_)); have GB20 := Aside0.mk gb20; have GG20 := Aside0.mk HG20; clear gb20 gl20 HG20; (first | simp only [add_plain] at hx139_0 | skip); (first | simp only [add_plain] at hx140_0 | skip); obtain ⟨hx20_0, hf20_0⟩ := Kd.R_celln c64z HO_4.out (x7_2 : Int) p20 q20; replace p20 := eq_true p20; replace q20 := eq_true q20; obtain ⟨hy23_, hz23_⟩ := Kd.R_celln c64z HO_4.out (x7_2 : Int) (of_decide_eq_true (by first | (with_reducible assumption) | assumption)) (of_decide_eq_true (by first | (with_reducible assumption) | assumption)); have HP23 := Kd.R_putg HO_4.out (x7_2 : Int) t142) | ((with_reducible refine gate_store (t := 30) (p := 46) rfl ?_); refine store_event (t := 30) (p := 46) (v := ?vo_w24) (w1 := (w22.setCell ⟨go20, (x7_2 : Int).toNat, none⟩ (.complex .f32 t142.re t142.im))) ?hg ?ho ?hn ?hr ?_; (case ho => rfl); (case hg => rfl); (case hn => rfl); (case hr => first | (go_simp; done) | (go_simp; rfl)); intro w24 hw; have hg : w22.grownBy w24 (some go20) := (by rw [hw]; exact HP23.2); have hp_ : Kd.R Kd.c64 30 w24 w.heap.size (fun _ => True) (.slice (some ⟨go20, 0, none⟩) x4_2.length co10) y143 := (by rw [hw, Ny143.out]; exact HP23.1); clear HP23; have n0_ := Aside0.mk (hp_); have n1_ := Aside0.mk ((by rw [hw]; exact below_set (HB.out) GB20.out : Below w.heap.size w w24)); clear HO_4; clear HB; have HO_4 := n0_; have HB := n1_; clear n0_ n1_; clear hg hw hp_))
                            (try simp only [← hl4_2])
                            go_roundg k2
                            case measure => have := HK1.out; have := HK2.out; omega
                            case rel => exact ⟨(y143), (ji13), (by first | rfl | (simp; done) | (simp only [← hji13] <;> (first | rfl | simp)) | (simp [*]; done)), H', ⟨by have := HK1.out; have := HK2.out; omega⟩, ⟨by (try simp only [hl4_2]); (with_reducible repeat (first | apply Kd.R_alloc | apply Kd.R_drewN | apply Kd.R_drew)); exact HO_4.out⟩, ⟨by repeat (first | (with_reducible first | exact HB.out | apply below_alloc | apply pw_below_drewN | apply below_drew1) | exact HB.out)⟩⟩
                         · rw [if_neg c17] at H
                           exact absurd H (by simp)
                       · rw [if_neg c16] at H
                         exact absurd H (by simp)
                     · rw [if_neg c15] at H
                       exact absurd H (by simp)
                   · rw [if_neg c14] at H
                     exact absurd H (by simp)
                 · rw [if_neg c12] at H
                   have c12b0 : decide (0 < x7_2) = false := decide_eq_false c12
                   clear c12
                   by_cases c25 : 0 ≤ x7_2
                   · rw [if_pos c25] at H
                     have c25b0 : decide (0 ≤ x7_2) = true := decide_eq_true c25
                     clear c25
                     by_cases c26 : x7_2 < (x4_2.length : Int)
                     · rw [if_pos c26] at H
                       have c26b0 : decide (x7_2 < (x4_2.length : Int)) = true := decide_eq_true c26
                       clear c26
                       replace H := Option.bind_eq_some_iff.mp H
                       obtain ⟨t145, A270, H⟩ := H
                       replace H : ((impl_less.f (⟨0, 0⟩ : C64) t145).bind fun t146 => (impl_PolynomialOf.l1 k2 (x4_2.set (x7_2 : Int).toNat t146) (rdOf c64z l0 x15_1) (wrap64 (x7_2 - 1)) l0 (l0.length : Int) x15_1)) = some (r1, r2) := H
                       have A27 := Aside0.mk A270
                       clear A270
                       replace H := Option.bind_eq_some_iff.mp H
                       obtain ⟨t146, A280, H⟩ := H
                       replace H : (impl_PolynomialOf.l1 k2 (x4_2.set (x7_2 : Int).toNat t146) (rdOf c64z l0 x15_1) (wrap64 (x7_2 - 1)) l0 (l0.length : Int) x15_1) = some (r1, r2) := H
                       have A28 := Aside0.mk A280
                       clear A280
                       obtain ⟨y147, hy147⟩ : ∃ y_ : List C64, y_ = (x4_2.set (x7_2 : Int).toNat t146) := ⟨_, rfl⟩
                       replace H : (impl_PolynomialOf.l1 k2 y147 (rdOf c64z l0 x15_1) (wrap64 (x7_2 - 1)) l0 (l0.length : Int) x15_1) = some (r1, r2) := by first | (rw [hy147]; with_reducible exact H) | (have H2_ := (Option.bind_some _ _).symm.trans H; rw [hy147]; with_reducible exact H2_) | (have H2_ := (Option.bind_some _ _).symm.trans H; with_reducible exact H2_) | with_reducible exact H | (rw [hy147]; exact H) | exact H
                       have Ny147 := Aside0.mk hy147
                       clear hy147
                       as_aux_lemma =>
                        have H' := Aside0.mk H
                        clear H
                        have p144 : 0 ≤ (x7_2 : Int) := of_decide_eq_true (by first | (with_reducible assumption) | assumption)
                        have q144 : x7_2 < (x4_2.length : Int) := of_decide_eq_true (by first | (with_reducible assumption) | assumption)
                        obtain ⟨ad144, e144, hx144_0⟩ := Kd.at_c64 (Kd.R_reads' HO_4.out).2.2 x7_2 p144 q144
                        cases e144
                        replace p144 := eq_true p144
                        replace q144 := eq_true q144
                        go_wp2_with (first | ((with_reducible refine gate_callee (f := 12) rfl ?_); refine goesL_ (some 44) rfl rfl Try.func12 (by kernel_rfl) rfl #[.complex .f32 ((rdOf c64z l0 x15_1).re) ((rdOf c64z l0 x15_1).im), .complex .f32 ((rdOf c64z x4_2 x7_2).re) ((rdOf c64z x4_2 x7_2).im)] rfl (by (try simp only [List.map_toArray, List.map_cons, List.map_nil]); first | done | rfl | (simp only [List.length_drop, List.length_take]; rfl)) ?_; (with_reducible refine (impl_MulComplex.calls (rdOf c64z l0 x15_1) (rdOf c64z x4_2 x7_2) t145 _ A27.out).mono ?_); rintro e w30 ⟨rfl, hb⟩; refine ⟨_, rfl, ?_⟩; have n0_ := Aside0.mk (Kd.R_below (by (with_reducible repeat (first | apply Kd.R_alloc | apply Kd.R_drewN | apply Kd.R_drew)); exact HO_4.out) hb); have n1_ := Aside0.mk (below_step (by repeat (first | (with_reducible first | exact HB.out | apply below_alloc | apply pw_below_drewN | apply below_drew1) | exact HB.out)) hb); clear HO_4; clear HB; have HO_4 := n0_; have HB := n1_; clear n0_ n1_; (try clear hb); (try clear hb2); (try clear hk); (try clear hi)) | ((with_reducible refine gate_callee (f := 26) rfl ?_); refine goesL_ (some 45) rfl rfl Try.func26 (by kernel_rfl) rfl #[.complex .f32 0 0, .complex .f32 t145.re t145.im] rfl (by (try simp only [List.map_toArray, List.map_cons, List.map_nil]); first | done | rfl | (simp only [List.length_drop, List.length_take]; rfl)) ?_; (with_reducible refine (impl_less.calls (⟨0, 0⟩ : C64) t145 t146 _ A28.out).mono ?_); rintro e w31 ⟨rfl, hb⟩; refine ⟨_, rfl, ?_⟩; have n0_ := Aside0.mk (Kd.R_below (by (with_reducible repeat (first | apply Kd.R_alloc | apply Kd.R_drewN | apply Kd.R_drew)); exact HO_4.out) hb); have n1_ := Aside0.mk (below_step (by repeat (first | (with_reducible first | exact HB.out | apply below_alloc | apply pw_below_drewN | apply below_drew1) | exact HB.out)) hb); clear HO_4; clear HB; have HO_4 := n0_; have HB := n1_; clear n0_ n1_; (try clear hb); (try clear hb2); (try clear hk); (try clear hi); have p29 : 0 ≤ (x7_2 : Int) := of_decide_eq_true (by first | (with_reducible assumption) | assumption); have q29 : (x7_2 : Int) < ((x4_2.length : Int) : Int) := of_decide_eq_true (by first | (with_reducible assumption) | assumption); obtain ⟨go29, co29, eo29, gb29, gl29, cl29, HG29⟩ := Kd.R_form HO_4.out (by omega); (first | cases eo29 | (injection eo29 with ea_ en_ ec_; (first | subst ea_ | (injection ea_ with ea_; subst ea_)); subst ec_; clear en_)); have GB29 := Aside0.mk gb29; have GG29 := Aside0.mk HG29; clear gb29 gl29 HG29; (first | simp only [add_plain] at hx144_0 | skip); obtain ⟨hx29_0, hf29_0⟩ := Kd.R_celln c64z HO_4.out (x7_2 : Int) p29 q29; replace p29 := eq_true p29; replace q29 := eq_true q29; obtain ⟨hy32_, hz32_⟩ := Kd.R_celln c64z HO_4.out (x7_2 : Int) (of_decide_eq_true (by first | (with_reducible assumption) | assumption)) (of_decide_eq_true (by first | (with_reducible assumption) | assumption)); have HP32 := Kd.R_putg HO_4.out (x7_2 : Int) t146) | ((with_reducible refine gate_store (t := 30) (p := 46) rfl ?_); refine store_event (t := 30) (p := 46) (v := ?vo_w33) (w1 := (w31.setCell ⟨go29, (x7_2 : Int).toNat, none⟩ (.complex .f32 t146.re t146.im))) ?hg ?ho ?hn ?hr ?_; (case ho => rfl); (case hg => rfl); (case hn => rfl); (case hr => first | (go_simp; done) | (go_simp; rfl)); intro w33 hw; have hg : w31.grownBy w33 (some go29) := (by rw [hw]; exact HP32.2); have hp_ : Kd.R Kd.c64 30 w33 w.heap.size (fun _ => True) (.slice (some ⟨go29, 0, none⟩) x4_2.length co10) y147 := (by rw [hw, Ny147.out]; exact HP32.1); clear HP32; have n0_ := Aside0.mk (hp_); have n1_ := Aside0.mk ((by rw [hw]; exact below_set (HB.out) GB29.out : Below w.heap.size w w33)); clear HO_4; clear HB; have HO_4 := n0_; have HB := n1_; clear n0_ n1_; clear hg hw hp_))
                        (try simp only [← hl4_2])
                        go_roundg k2
                        case measure => have := HK1.out; have := HK2.out; omega
                        case rel => exact ⟨(y147), (wrap64 (x7_2 - 1)), (by first | rfl | (simp; done) | (simp [*]; done)), H', ⟨by have := HK1.out; have := HK2.out; omega⟩, ⟨by (try simp only [hl4_2]); (with_reducible repeat (first | apply Kd.R_alloc | apply Kd.R_drewN | apply Kd.R_drew)); exact HO_4.out⟩, ⟨by repeat (first | (with_reducible first | exact HB.out | apply below_alloc | apply pw_below_drewN | apply below_drew1) | exact HB.out)⟩⟩
                     · rw [if_neg c26] at H
                       exact absurd H (by simp)
                   · rw [if_neg c25] at H
                     exact absurd H (by simp)
               · rw [if_neg c11] at H
                 have c11b0 : decide (0 ≤ x7_2) = false := decide_eq_false c11
                 clear c11
                 as_aux_lemma =>
                  have H' := Aside0.mk H
                  clear H
                  go_wp2
                  (try simp only [← hl4_2])
                  go_roundg k2
                  case measure => have := HK1.out; have := HK2.out; omega
                  case rel => exact ⟨(x4_2), (wrap64 (x15_1 + 1)), (by first | rfl | (simp; done) | (simp [*]; done)), H', ⟨by have := HK1.out; have := HK2.out; omega⟩, ⟨by (try simp only [hl4_2]); (with_reducible repeat (first | apply Kd.R_alloc | apply Kd.R_drewN | apply Kd.R_drew)); exact HO_4.out⟩, ⟨by repeat (first | (with_reducible first | exact HB.out | apply below_alloc | apply pw_below_drewN | apply below_drew1) | exact HB.out)⟩⟩
           · rw [if_neg c8] at H
             exact absurd H (by simp)
         · rw [if_neg c7] at H
           exact absurd H (by simp)
       · rw [if_neg c6] at H
         exact absurd H (by simp)
     · rw [if_neg c5] at H
       have c5b0 : decide (x15_1 < (l0.length : Int)) = false := decide_eq_false c5
       clear c5
       as_aux_lemma =>
        simp only [Option.some.injEq, Prod.mk.injEq] at H
        obtain ⟨rfl, rfl⟩ := H
        go_wp2
        go_ret2
        exact ⟨_, by first | rfl | (simp [errW_none, errW_some] <;> rfl) | (simp [*, errW_none, errW_some] <;> rfl), by (with_reducible repeat (first | apply Kd.R_alloc | apply Kd.R_drewN | apply Kd.R_drew)); exact HO_4.out, by repeat (first | (with_reducible first | exact HB.out | apply below_alloc | apply pw_below_drewN | apply below_drew1) | exact HB.out)⟩

/-! ### impl_within: function 36 -/
def impl_within.f (a0 : Int) (a1 : Int) (a2 : Int) : Option (Bool) := if a0 ≥ a1 then (some (decide (a0 ≤ a2))) else (some false)
set_option maxHeartbeats 8000000 in
set_option maxRecDepth 100000 in
theorem impl_within.calls (a0 : Int) (a1 : Int) (a2 : Int) (r : Bool) (w : World) (h : impl_within.f a0 a1 a2 = some r) :
 Calls Try.prog 36 #[.int .i64 a0, .int .i64 a1, .int .i64 a2] w fun e w' => e = .returned (.bool r) ∧ Drawn0 w w' := by
 have H : (if a0 ≥ a1 then (some (decide (a0 ≤ a2))) else (some false)) = some r := h
 clear h
 by_cases c4 : a0 ≥ a1
 · rw [if_pos c4] at H
   have c4b0 : decide (a1 ≤ a0) = true := decide_eq_true c4
   clear c4
   as_aux_lemma =>
    obtain rfl := Option.some.inj H
    go_enter Try.func36, Try.ntmps36
    go_wp2
    go_ret
    exact ⟨by first | rfl | (simp; done) | (simp [*]; done), by repeat (first | exact Drawn0.refl _ | apply Drawn0.step)⟩
 · rw [if_neg c4] at H
   have c4b0 : decide (a1 ≤ a0) = false := decide_eq_false c4
   clear c4
   as_aux_lemma =>
    obtain rfl := Option.some.inj H
    go_enter Try.func36, Try.ntmps36
    go_wp2
    go_ret
    exact ⟨by first | rfl | (simp; done) | (simp [*]; done), by repeat (first | exact Drawn0.refl _ | apply Drawn0.step)⟩

/-! ### impl_isCount: function 41 -/
def impl_isCount.f (a0 : Int) : Option (Bool) := (impl_within.f a0 1 16).bind fun t148 => (some t148)
set_option maxHeartbeats 8000000 in
set_option maxRecDepth 100000 in
theorem impl_isCount.calls (a0 : Int) (r : Bool) (w : World) (h : impl_isCount.f a0 = some r) :
 Calls Try.prog 41 #[.int .i64 a0] w fun e w' => e = .returned (.bool r) ∧ Drawn0 w w' := by
 have H : ((impl_within.f a0 1 16).bind fun t148 => (some t148)) = some r := h
 clear h
 replace H := Option.bind_eq_some_iff.mp H
 obtain ⟨t148, A20, H⟩ := H
 replace H : (some t148) = some r := H
 have A2 := Aside0.mk A20
 clear A20
 as_aux_lemma =>
  obtain rfl := Option.some.inj H
  go_enter Try.func41, Try.ntmps41
  go_wp2_with (first | ((with_reducible refine gate_callee (f := 36) rfl ?_); refine goesL_ (some 4) rfl rfl Try.func36 (by kernel_rfl) rfl #[.int .i64 a0, .int .i64 1, .int .i64 16] rfl (by (try simp only [List.map_toArray, List.map_cons, List.map_nil]); first | done | rfl | (simp only [List.length_drop, List.length_take]; rfl)) ?_; (with_reducible refine (impl_within.calls a0 1 16 t148 _ A2.out).mono ?_); rintro e w' ⟨rfl, ⟨nd, rfl⟩⟩; refine ⟨_, rfl, ?_⟩))
  go_ret
  exact ⟨by first | rfl | (simp; done) | (simp [*]; done), by repeat (first | exact Drawn0.refl _ | apply Drawn0.step)⟩

/-! ### impl_areWeights: function 27 -/
def impl_areWeights.f (l0 : List C64) : Option (Bool) := (impl_isCount.f (l0.length : Int)).bind fun t149 => (some t149)
set_option maxHeartbeats 8000000 in
set_option maxRecDepth 100000 in
theorem impl_areWeights.calls (A0 : Option Addr) (c0 : Nat) (l0 : List C64) (r : Bool) (w : World) (hr0 : Kd.C Kd.c64 w A0 l0.length l0) (hc0 : l0.length ≤ c0) (h : impl_areWeights.f l0 = some r) :
 Calls Try.prog 27 #[.slice A0 l0.length c0] w fun e w' => e = .returned (.bool r) ∧ Drawn0 w w' := by
 have HR0 := Aside0.mk hr0
 have HC0 := Aside0.mk hc0
 clear hr0 hc0
 have H : ((impl_isCount.f (l0.length : Int)).bind fun t149 => (some t149)) = some r := h
 clear h
 replace H := Option.bind_eq_some_iff.mp H
 obtain ⟨t149, A20, H⟩ := H
 replace H : (some t149) = some r := H
 have A2 := Aside0.mk A20
 clear A20
 as_aux_lemma =>
  obtain rfl := Option.some.inj H
  go_enter Try.func27, Try.ntmps27
  go_wp2_with (first | ((with_reducible refine gate_callee (f := 41) rfl ?_); refine goesL_ (some 5) rfl rfl Try.func41 (by kernel_rfl) rfl #[.int .i64 (l0.length : Int)] rfl (by (try simp only [List.map_toArray, List.map_cons, List.map_nil]); first | done | rfl | (simp only [List.length_drop, List.length_take]; rfl)) ?_; (with_reducible refine (impl_isCount.calls (l0.length : Int) t149 _ A2.out).mono ?_); rintro e w' ⟨rfl, ⟨nd, rfl⟩⟩; refine ⟨_, rfl, ?_⟩))
  go_ret
  exact ⟨by first | rfl | (simp; done) | (simp [*]; done), by repeat (first | exact Drawn0.refl _ | apply Drawn0.step)⟩

/-! ### impl_add: function 28 -/
def impl_add.f (a0 : C64) (a1 : C64) : Option (C64) := if FOk .add .f32 a0.re a1.re = true then (if FOk .add .f32 a0.im a1.im = true then (some (⟨fq .add .f32 a0.re a1.re, fq .add .f32 a0.im a1.im⟩ : C64)) else (none)) else (none)
set_option maxHeartbeats 8000000 in
set_option maxRecDepth 100000 in
theorem impl_add.calls (a0 : C64) (a1 : C64) (r : C64) (w : World) (h : impl_add.f a0 a1 = some r) :
 Calls Try.prog 28 #[.complex .f32 a0.re a0.im, .complex .f32 a1.re a1.im] w fun e w' => e = .returned (.complex .f32 r.re r.im) ∧ Below w.heap.size w w' := by
 have HB := Aside0.mk (Below.refl w.heap.size w)
 have H : (if FOk .add .f32 a0.re a1.re = true then (if FOk .add .f32 a0.im a1.im = true then (some (⟨fq .add .f32 a0.re a1.re, fq .add .f32 a0.im a1.im⟩ : C64)) else (none)) else (none)) = some r := h
 clear h
 by_cases c3 : FOk .add .f32 a0.re a1.re = true
 · rw [if_pos c3] at H
   have fe3 := fun t w => frun (P := Try.prog) c3 t w
   have c3b0 : FOk .add .f32 a0.re a1.re = true := c3
   clear c3
   by_cases c4 : FOk .add .f32 a0.im a1.im = true
   · rw [if_pos c4] at H
     have fe4 := fun t w => frun (P := Try.prog) c4 t w
     have c4b0 : FOk .add .f32 a0.im a1.im = true := c4
     clear c4
     as_aux_lemma =>
      obtain rfl := Option.some.inj H
      go_enter Try.func28, Try.ntmps28
      go_wp2
      go_ret
      exact ⟨by first | rfl | (simp [errW_none, errW_some] <;> rfl) | (simp [*, errW_none, errW_some] <;> rfl), by repeat (first | (with_reducible first | exact HB.out | apply below_alloc | apply pw_below_drewN | apply below_drew1) | exact HB.out)⟩
   · rw [if_neg c4] at H
     exact absurd H (by simp)
 · rw [if_neg c3] at H
   exact absurd H (by simp)

/-! ### impl_MulPolynomials: function 10 -/
mutual
def impl_MulPolynomials.j0 : Nat → List C64 → List C64 → Bool → Option (List C64 × Bool)
 | 0, _, _, _ => none
 | k + 1, x0, x1, x28 => if x28 = true then (none) else (impl_MulPolynomials.l0 k x0 x1 (([] : List C64)) (wrap64 ((wrap64 ((x0.length : Int) + (x1.length : Int))) - 1)) 0)
def impl_MulPolynomials.l0 : Nat → List C64 → List C64 → List C64 → Int → Int → Option (List C64 × Bool)
 | 0, _, _, _, _, _ => none
 | k + 1, x0, x1, x6, x35, x36 => if x36 < x35 then (impl_MulPolynomials.l1 k x0 x1 x6 x36 (⟨0, 0⟩ : C64) x35 x36 x0 (x0.length : Int) 0) else (some (x6, true))
def impl_MulPolynomials.l1 : Nat → List C64 → List C64 → List C64 → Int → C64 → Int → Int → List C64 → Int → Int → Option (List C64 × Bool)
 | 0, _, _, _, _, _, _, _, _, _, _ => none
 | k + 1, x0, x1, x6, x7, x8, x35, x36, x39, x40, x41 => if x41 < x40 then (if 0 ≤ x41 then (if x41 < (x39.length : Int) then (if (wrap64 (x7 - x41)) ≥ 0 then (impl_MulPolynomials.j3 k x0 x1 x6 x7 x8 (rdOf c64z x39 x41) (wrap64 (x7 - x41)) x35 x36 x39 x40 x41 (decide ((wrap64 (x7 - x41)) < (x1.length : Int)))) else (impl_MulPolynomials.j3 k x0 x1 x6 x7 x8 (rdOf c64z x39 x41) (wrap64 (x7 - x41)) x35 x36 x39 x40 x41 false)) else (none)) else (none)) else (if x6.length < 17592186044416 then (impl_MulPolynomials.l0 k x0 x1 (x6 ++ [x8]) x35 (wrap64 (x36 + 1))) else (none))
def impl_MulPolynomials.j3 : Nat → List C64 → List C64 → List C64 → Int → C64 → C64 → Int → Int → Int → List C64 → Int → Int → Bool → Option (List C64 × Bool)
 | 0, _, _, _, _, _, _, _, _, _, _, _, _, _ => none
 | k + 1, x0, x1, x6, x7, x8, x10, x11, x35, x36, x39, x40, x41, x56 => if x56 = true then (if 0 ≤ x11 then (if x11 < (x1.length : Int) then ((impl_MulComplex.f x10 (rdOf c64z x1 x11)).bind fun t160 => ((impl_add.f x8 t160).bind fun t161 => (impl_MulPolynomials.l1 k x0 x1 x6 x7 t161 x35 x36 x39 x40 (wrap64 (x41 + 1))))) else (none)) else (none)) else (impl_MulPolynomials.l1 k x0 x1 x6 x7 x8 x35 x36 x39 x40 (wrap64 (x41 + 1)))
end
def impl_MulPolynomials.f (k : Nat) (l0 : List C64) (l1 : List C64) : Option (List C64 × Bool) := (impl_areWeights.f l0).bind fun t150 => (if t150 = true then ((impl_areWeights.f l1).bind fun t151 => (if t151 = true then (impl_MulPolynomials.j0 k l0 l1 (decide ((wrap64 ((wrap64 ((l0.length : Int) + (l1.length : Int))) - 1)) > 16))) else (none))) else (none))
theorem impl_MulPolynomials.mono_l : ∀ k, (∀ y0 y1 y2, LeO (impl_MulPolynomials.j0 k y0 y1 y2) (impl_MulPolynomials.j0 (k + 1) y0 y1 y2)) ∧ (∀ y0 y1 y2 y3 y4, LeO (impl_MulPolynomials.l0 k y0 y1 y2 y3 y4) (impl_MulPolynomials.l0 (k + 1) y0 y1 y2 y3 y4)) ∧ (∀ y0 y1 y2 y3 y4 y5 y6 y7 y8 y9, LeO (impl_MulPolynomials.l1 k y0 y1 y2 y3 y4 y5 y6 y7 y8 y9) (impl_MulPolynomials.l1 (k + 1) y0 y1 y2 y3 y4 y5 y6 y7 y8 y9)) ∧ (∀ y0 y1 y2 y3 y4 y5 y6 y7 y8 y9 y10 y11 y12, LeO (impl_MulPolynomials.j3 k y0 y1 y2 y3 y4 y5 y6 y7 y8 y9 y10 y11 y12) (impl_MulPolynomials.j3 (k + 1) y0 y1 y2 y3 y4 y5 y6 y7 y8 y9 y10 y11 y12))
 | 0 => ⟨fun _ _ _ r h => by simp [impl_MulPolynomials.j0] at h, fun _ _ _ _ _ r h => by simp [impl_MulPolynomials.l0] at h, fun _ _ _ _ _ _ _ _ _ _ r h => by simp [impl_MulPolynomials.l1] at h, fun _ _ _ _ _ _ _ _ _ _ _ _ _ r h => by simp [impl_MulPolynomials.j3] at h⟩
 | k + 1 => by
  obtain ⟨ih0, ih1, ih2, ih3⟩ := impl_MulPolynomials.mono_l k
  refine ⟨?_, ?_, ?_, ?_⟩
  · intro y0 y1 y2
    unfold impl_MulPolynomials.j0
    repeat' first
    | (with_reducible exact ih0 _ _ _)
    | (with_reducible exact ih1 _ _ _ _ _)
    | (with_reducible exact ih2 _ _ _ _ _ _ _ _ _ _)
    | (with_reducible exact ih3 _ _ _ _ _ _ _ _ _ _ _ _ _)
    | (with_reducible exact LeO.refl _)
    | (with_reducible exact LeO.none _)
    | (with_reducible refine LeO.ite ?_ ?_)
    | (with_reducible refine LeO.bind ?_ (fun _ => ?_))
    | exact ih0 _ _ _
    | exact ih1 _ _ _ _ _
    | exact ih2 _ _ _ _ _ _ _ _ _ _
    | exact ih3 _ _ _ _ _ _ _ _ _ _ _ _ _
    | exact LeO.none _
    | refine LeO.ite ?_ ?_
    | refine LeO.bind ?_ (fun _ => ?_)
  · intro y0 y1 y2 y3 y4
    unfold impl_MulPolynomials.l0
    repeat' first
    | (with_reducible exact ih0 _ _ _)
    | (with_reducible exact ih1 _ _ _ _ _)
    | (with_reducible exact ih2 _ _ _ _ _ _ _ _ _ _)
    | (with_reducible exact ih3 _ _ _ _ _ _ _ _ _ _ _ _ _)
    | (with_reducible exact LeO.refl _)
    | (with_reducible exact LeO.none _)
    | (with_reducible refine LeO.ite ?_ ?_)
    | (with_reducible refine LeO.bind ?_ (fun _ => ?_))
    | exact ih0 _ _ _
    | exact ih1 _ _ _ _ _
    | exact ih2 _ _ _ _ _ _ _ _ _ _
    | exact ih3 _ _ _ _ _ _ _ _ _ _ _ _ _
    | exact LeO.none _
    | refine LeO.ite ?_ ?_
    | refine LeO.bind ?_ (fun _ => ?_)
  · intro y0 y1 y2 y3 y4 y5 y6 y7 y8 y9
    unfold impl_MulPolynomials.l1
    repeat' first
    | (with_reducible exact ih0 _ _ _)
    | (with_reducible exact ih1 _ _ _ _ _)
    | (with_reducible exact ih2 _ _ _ _ _ _ _ _ _ _)
    | (with_reducible exact ih3 _ _ _ _ _ _ _ _ _ _ _ _ _)
    | (with_reducible exact LeO.refl _)
    | (with_reducible exact LeO.none _)
    | (with_reducible refine LeO.ite ?_ ?_)
    | (with_reducible refine LeO.bind ?_ (fun _ => ?_))
    | exact ih0 _ _ _
    | exact ih1 _ _ _ _ _
    | exact ih2 _ _ _ _ _ _ _ _ _ _
    | exact ih3 _ _ _ _ _ _ _ _ _ _ _ _ _
    | exact LeO.none _
    | refine LeO.ite ?_ ?_
    | refine LeO.bind ?_ (fun _ => ?_)
  · intro y0 y1 y2 y3 y4 y5 y6 y7 y8 y9 y10 y11 y12
    unfold impl_MulPolynomials.j3
    repeat' first
    | (with_reducible exact ih0 _ _ _)
    | (with_reducible exact ih1 _ _ _ _ _)
    | (with_reducible exact ih2 _ _ _ _ _ _ _ _ _ _)
    | (with_reducible exact ih3 _ _ _ _ _ _ _ _ _ _ _ _ _)
    | (with_reducible exact LeO.refl _)
    | (with_reducible exact LeO.none _)
    | (with_reducible refine LeO.ite ?_ ?_)
    | (with_reducible refine LeO.bind ?_ (fun _ => ?_))
    | exact ih0 _ _ _
    | exact ih1 _ _ _ _ _
    | exact ih2 _ _ _ _ _ _ _ _ _ _
    | exact ih3 _ _ _ _ _ _ _ _ _ _ _ _ _
    | exact LeO.none _
    | refine LeO.ite ?_ ?_
    | refine LeO.bind ?_ (fun _ => ?_)
theorem impl_MulPolynomials.mono : ∀ a0 a1 k, LeO (impl_MulPolynomials.f k a0 a1) (impl_MulPolynomials.f (k + 1) a0 a1) := by
 intro a0 a1 k
 obtain ⟨ih0, ih1, ih2, ih3⟩ := impl_MulPolynomials.mono_l k
 unfold impl_MulPolynomials.f
 repeat' first
  | (with_reducible exact ih0 _ _ _)
  | (with_reducible exact ih1 _ _ _ _ _)
  | (with_reducible exact ih2 _ _ _ _ _ _ _ _ _ _)
  | (with_reducible exact ih3 _ _ _ _ _ _ _ _ _ _ _ _ _)
  | (with_reducible exact LeO.refl _)
  | (with_reducible exact LeO.none _)
  | (with_reducible refine LeO.ite ?_ ?_)
  | (with_reducible refine LeO.bind ?_ (fun _ => ?_))
  | exact ih0 _ _ _
  | exact ih1 _ _ _ _ _
  | exact ih2 _ _ _ _ _ _ _ _ _ _
  | exact ih3 _ _ _ _ _ _ _ _ _ _ _ _ _
  | exact LeO.none _
  | refine LeO.ite ?_ ?_
  | refine LeO.bind ?_ (fun _ => ?_)
set_option maxHeartbeats 8000000 in
set_option maxRecDepth 100000 in
theorem impl_MulPolynomials.calls (k : Nat) (A0 : Option Addr) (c0 : Nat) (l0 : List C64) (A1 : Option Addr) (c1 : Nat) (l1 : List C64) (r1 : List C64) (r2 : Bool) (w : World) (hr0 : Kd.C Kd.c64 w A0 l0.length l0) (hc0 : l0.length ≤ c0) (hr1 : Kd.C Kd.c64 w A1 l1.length l1) (hc1 : l1.length ≤ c1) (h : impl_MulPolynomials.f k l0 l1 = some (r1, r2)) :
 Calls Try.prog 10 #[.slice A0 l0.length c0, .slice A1 l1.length c1] w fun e w' => ∃ v0_ : Value, e = .returned (.tuple #[v0_, .bool r2]) ∧ Kd.R Kd.c64 30 w' w.heap.size (fun _ => True) v0_ r1 ∧ Below w.heap.size w w' := by
 have HR0 := Aside0.mk hr0
 have HC0 := Aside0.mk hc0
 clear hr0 hc0
 have HR1 := Aside0.mk hr1
 have HC1 := Aside0.mk hc1
 clear hr1 hc1
 have HB := Aside0.mk (Below.refl w.heap.size w)
 have H : ((impl_areWeights.f l0).bind fun t150 => (if t150 = true then ((impl_areWeights.f l1).bind fun t151 => (if t151 = true then (impl_MulPolynomials.j0 k l0 l1 (decide ((wrap64 ((wrap64 ((l0.length : Int) + (l1.length : Int))) - 1)) > 16))) else (none))) else (none))) = some (r1, r2) := h
 clear h
 have HC3 := Aside0.mk H
 clear H
 go_enter Try.func10, Try.ntmps10
 go_upto_region 1 with (fail)
 go_cut [28] (fun v28 wc => ∃ (kq : Nat) (x28_2 : Bool), v28 = .bool x28_2 ∧ Aside0 (impl_MulPolynomials.j0 kq l0 l1 x28_2 = some (r1, r2)) ∧ Aside0 (kq ≤ k) ∧ Aside0 (Below w.heap.size w wc))
 case first =>
  have H := HC3.out
  clear HC3
  replace H := Option.bind_eq_some_iff.mp H
  obtain ⟨t150, A40, H⟩ := H
  replace H : (if t150 = true then ((impl_areWeights.f l1).bind fun t151 => (if t151 = true then (impl_MulPolynomials.j0 k l0 l1 (decide ((wrap64 ((wrap64 ((l0.length : Int) + (l1.length : Int))) - 1)) > 16))) else (none))) else (none)) = some (r1, r2) := H
  have A4 := Aside0.mk A40
  clear A40
  by_cases c5 : t150 = true
  · subst c5
    have H1 : ((impl_areWeights.f l1).bind fun t151 => (if t151 = true then (impl_MulPolynomials.j0 k l0 l1 (decide ((wrap64 ((wrap64 ((l0.length : Int) + (l1.length : Int))) - 1)) > 16))) else (none))) = some (r1, r2) := by rw [if_pos rfl] at H; exact H
    clear H
    have H := H1
    clear H1
    replace H := Option.bind_eq_some_iff.mp H
    obtain ⟨t151, A60, H⟩ := H
    replace H : (if t151 = true then (impl_MulPolynomials.j0 k l0 l1 (decide ((wrap64 ((wrap64 ((l0.length : Int) + (l1.length : Int))) - 1)) > 16))) else (none)) = some (r1, r2) := H
    have A6 := Aside0.mk A60
    clear A60
    by_cases c7 : t151 = true
    · subst c7
      have H1 : (impl_MulPolynomials.j0 k l0 l1 (decide ((wrap64 ((wrap64 ((l0.length : Int) + (l1.length : Int))) - 1)) > 16))) = some (r1, r2) := by rw [if_pos rfl] at H; exact H
      clear H
      have H := H1
      clear H1
      as_aux_lemma =>
       have H' := Aside0.mk H
       clear H
       go_wp2_with (first | ((with_reducible refine gate_callee (f := 27) rfl ?_); refine goesL_ (some 13) rfl rfl Try.func27 (by kernel_rfl) rfl #[.slice A0 l0.length c0] rfl (by (try simp only [List.map_toArray, List.map_cons, List.map_nil]); first | done | rfl | (simp only [List.length_drop, List.length_take]; rfl)) ?_; (with_reducible refine (impl_areWeights.calls _ _ l0 true _ ?side1 ?side2 A4.out).mono ?_); (case side1 => repeat (first | exact (Kd.C_below HR0.out HB.out) | (with_reducible refine Kd.C_alloc ?_ _) | (with_reducible refine Kd.C_drewN ?_ _) | (with_reducible refine Kd.C_drew ?_))); (case side2 => exact HC0.out); rintro e w' ⟨rfl, ⟨nd, rfl⟩⟩; refine ⟨_, rfl, ?_⟩) | (go_at_call 27; (with_reducible refine (impl_areWeights.calls _ _ l1 true _ ?side1 ?side2 A6.out).mono ?_); (case side1 => repeat (first | exact (Kd.C_below HR1.out (by repeat (first | (with_reducible first | exact HB.out | apply below_alloc | apply pw_below_drewN | apply below_drew1) | exact HB.out))) | (with_reducible refine Kd.C_alloc ?_ _) | (with_reducible refine Kd.C_drewN ?_ _) | (with_reducible refine Kd.C_drew ?_))); (case side2 => exact HC1.out); rintro e w' ⟨rfl, ⟨nd, rfl⟩⟩))
       go_meet
       case rel => exact ⟨_, (decide ((wrap64 ((wrap64 ((l0.length : Int) + (l1.length : Int))) - 1)) > 16)), (by first | rfl | (simp; done) | (simp [*]; done)), H', ⟨by first | omega | exact Nat.le_refl _⟩, ⟨by repeat (first | (with_reducible first | exact HB.out | apply below_alloc | apply pw_below_drewN | apply below_drew1) | exact HB.out)⟩⟩
    · replace c7 := Bool.eq_false_iff.mpr c7
      subst c7
      have H1 : (none) = some (r1, r2) := by rw [if_neg (show ¬ (false = true) by decide)] at H; exact H
      clear H
      have H := H1
      clear H1
      exact absurd H (by simp)
  · replace c5 := Bool.eq_false_iff.mpr c5
    subst c5
    have H1 : (none) = some (r1, r2) := by rw [if_neg (show ¬ (false = true) by decide)] at H; exact H
    clear H
    have H := H1
    clear H1
    exact absurd H (by simp)
 case rest =>
  clear HC3
  (try clear c1); (try clear c2); (try clear p2); (try clear c5); (try clear p6); (try clear c7)
  obtain ⟨kq, x28_2, rfl, HA, HJ2, HB⟩ := hcut
  cases kq with
  | zero => exact absurd HA.out (by simp [impl_MulPolynomials.j0])
  | succ kj2 =>
   have H := HA.out
   clear HA
   simp only [impl_MulPolynomials.j0] at H
   by_cases c8 : x28_2 = true
   · subst c8
     have H1 : (none) = some (r1, r2) := by rw [if_pos rfl] at H; exact H
     clear H
     have H := H1
     clear H1
     exact absurd H (by simp)
   · replace c8 := Bool.eq_false_iff.mpr c8
     subst c8
     have H1 : (impl_MulPolynomials.l0 kj2 l0 l1 (([] : List C64)) (wrap64 ((wrap64 ((l0.length : Int) + (l1.length : Int))) - 1)) 0) = some (r1, r2) := by rw [if_neg (show ¬ (false = true) by decide)] at H; exact H
     clear H
     have H := H1
     clear H1
     obtain ⟨y152, hy152⟩ : ∃ y_ : List C64, y_ = (([] : List C64)) := ⟨_, rfl⟩
     replace H : (impl_MulPolynomials.l0 kj2 l0 l1 y152 (wrap64 ((wrap64 ((l0.length : Int) + (l1.length : Int))) - 1)) 0) = some (r1, r2) := by first | (rw [hy152]; with_reducible exact H) | (have H2_ := (Option.bind_some _ _).symm.trans H; rw [hy152]; with_reducible exact H2_) | (have H2_ := (Option.bind_some _ _).symm.trans H; with_reducible exact H2_) | with_reducible exact H | (rw [hy152]; exact H) | exact H
     have Ny152 := Aside0.mk hy152
     clear hy152
     have H' := Aside0.mk H
     clear H
     go_wp2_with (first | ((with_reducible refine gate_dst (N := 29) rfl ?_); (try (refine gate_guard (by rfl) ?_; dsimp only)); refine Kd.R_lit Kd.c64 _ 30 ?hg (N := 29) ?hd (xs := ([] : List C64)) (inner := []) (ok := fun _ => True) (okp := fun _ => True) ?hr ?hp (fun _ hk => hk) trivial (Below.refl _ _) (Nat.le_refl _) (by simp) ?_; (case hd => rfl); (case hg => rfl); (case hr => first | (go_simp; done) | (go_simp; rfl)); (case hp => exact (Reps.none _ _)); intro v153 w9 ho10 hb hg_ hnew_; clear hg_ hnew_; (first | rw [← Ny152.out] at ho10 | (simp only [Int.reduceToNat] at ho10; rw [← Ny152.out] at ho10)); have n0_ := Aside0.mk (Kd.R_lower ho10 (below_size (by repeat (first | (with_reducible first | exact HB.out | apply below_alloc | apply pw_below_drewN | apply below_drew1) | exact HB.out)))); have n1_ := Aside0.mk (below_step (by repeat (first | (with_reducible first | exact HB.out | apply below_alloc | apply pw_below_drewN | apply below_drew1) | exact HB.out)) hb); clear HB; have HO154 := n0_; have HB := n1_; clear n0_ n1_; clear hb ho10))
     go_loopg [6, 36] kj2 (fun kq v6 v36 w' => ∃ (x6_2 : List C64) (x36_2 : Int), v36 = .int .i64 x36_2 ∧ Aside0 (impl_MulPolynomials.l0 kq l0 l1 x6_2 (wrap64 ((wrap64 ((l0.length : Int) + (l1.length : Int))) - 1)) x36_2 = some (r1, r2)) ∧ Aside0 (kq ≤ kj2) ∧ Aside0 (Kd.R Kd.c64 30 w' w.heap.size (fun _ => True) v6 x6_2) ∧ Aside0 (Below w.heap.size w w'))
     case atStart => exact ⟨(y152), (0), (by first | rfl | (simp; done) | (simp [*]; done)), H', ⟨Nat.le_refl _⟩, ⟨by (with_reducible repeat (first | apply Kd.R_alloc | apply Kd.R_drewN | apply Kd.R_drew)); exact HO154.out⟩, ⟨by repeat (first | (with_reducible first | exact HB.out | apply below_alloc | apply pw_below_drewN | apply below_drew1) | exact HB.out)⟩⟩
     case round =>
      clear H'
      (try clear c1); (try clear c2); (try clear p2); (try clear c5); (try clear c6); (try clear p6); (try clear c7); (try clear c8); (try clear c10); (try clear p2); (try clear p6)
      obtain ⟨x6_2, x36_2, rfl, HA, HK2, HO_6, HB⟩ := hrel
      cases gk with
      | zero => exact absurd HA.out (by simp [impl_MulPolynomials.l0])
      | succ k2 =>
       have H := HA.out
       clear HA
       simp only [impl_MulPolynomials.l0] at H
       by_cases c11 : x36_2 < (wrap64 ((wrap64 ((l0.length : Int) + (l1.length : Int))) - 1))
       · rw [if_pos c11] at H
         have c11b0 : decide (x36_2 < (wrap64 ((wrap64 ((l0.length : Int) + (l1.length : Int))) - 1))) = true := decide_eq_true c11
         clear c11
         have H' := Aside0.mk H
         clear H
         go_wp2
         go_loopg [8, 41] k2 (fun kq v8 v41 w' => ∃ (x8_3 : C64) (x41_3 : Int), v8 = .complex .f32 x8_3.re x8_3.im ∧ v41 = .int .i64 x41_3 ∧ Aside0 (impl_MulPolynomials.l1 kq l0 l1 x6_2 x36_2 x8_3 (wrap64 ((wrap64 ((l0.length : Int) + (l1.length : Int))) - 1)) x36_2 l0 (l0.length : Int) x41_3 = some (r1, r2)) ∧ Aside0 (kq ≤ k2) ∧ Aside0 (Kd.R Kd.c64 30 w' w.heap.size (fun _ => True) u6 x6_2) ∧ Aside0 (Below w.heap.size w w'))
         case atStart => exact ⟨((⟨0, 0⟩ : C64)), (0), (by first | rfl | (simp; done) | (simp [*]; done)), (by first | rfl | (simp; done) | (simp [*]; done)), H', ⟨Nat.le_refl _⟩, ⟨by (with_reducible repeat (first | apply Kd.R_alloc | apply Kd.R_drewN | apply Kd.R_drew)); exact HO_6.out⟩, ⟨by repeat (first | (with_reducible first | exact HB.out | apply below_alloc | apply pw_below_drewN | apply below_drew1) | exact HB.out)⟩⟩
         case round =>
          clear H'
          (try clear c1); (try clear c2); (try clear p2); (try clear c5); (try clear c6); (try clear p6); (try clear c7); (try clear c8); (try clear c10); (try clear c11); (try clear c11b0); (try clear p2); (try clear p6)
          obtain ⟨x8_3, x41_3, rfl, rfl, HA, HK3, HO_6, HB⟩ := hrel
          cases gk with
          | zero => exact absurd HA.out (by simp [impl_MulPolynomials.l1])
          | succ k3 =>
           have H := HA.out
           clear HA
           simp only [impl_MulPolynomials.l1] at H
           by_cases c12 : x41_3 < (l0.length : Int)
           · rw [if_pos c12] at H
             have c12b0 : decide (x41_3 < (l0.length : Int)) = true := decide_eq_true c12
             clear c12
             by_cases c13 : 0 ≤ x41_3
             · rw [if_pos c13] at H
               have c13b0 : decide (0 ≤ x41_3) = true := decide_eq_true c13
               clear c13
               by_cases c14 : x41_3 < (l0.length : Int)
               · rw [if_pos c14] at H
                 have c14b0 : decide (x41_3 < (l0.length : Int)) = true := decide_eq_true c14
                 clear c14
                 have HC15 := Aside0.mk H
                 clear H
                 have p158 : 0 ≤ (x41_3 : Int) := of_decide_eq_true (by first | (with_reducible assumption) | assumption)
                 have q158 : x41_3 < (l0.length : Int) := of_decide_eq_true (by first | (with_reducible assumption) | assumption)
                 obtain ⟨ad158, e158, hx158_0⟩ := Kd.at_c64 HR0.out x41_3 p158 q158
                 cases e158
                 replace hx158_0 := (HB.out.cell (World.block_lt_of_cell? w _ hx158_0)).trans hx158_0
                 replace p158 := eq_true p158
                 replace q158 := eq_true q158
                 go_upto_region 12 with (fail)
                 go_cut [56] (fun v56 wc => ∃ (kq : Nat) (x56_14 : Bool), v56 = .bool x56_14 ∧ Aside0 (impl_MulPolynomials.j3 kq l0 l1 x6_2 x36_2 x8_3 (rdOf c64z l0 x41_3) (wrap64 (x36_2 - x41_3)) (wrap64 ((wrap64 ((l0.length : Int) + (l1.length : Int))) - 1)) x36_2 l0 (l0.length : Int) x41_3 x56_14 = some (r1, r2)) ∧ Aside0 (kq ≤ k3) ∧ Aside0 (Kd.R Kd.c64 30 wc w.heap.size (fun _ => True) u6 x6_2) ∧ Aside0 (Below w.heap.size w wc))
                 case first =>
                  have H := HC15.out
                  clear HC15
                  by_cases c16 : (wrap64 (x36_2 - x41_3)) ≥ 0
                  · rw [if_pos c16] at H
                    have c16b0 : decide (0 ≤ (wrap64 (x36_2 - x41_3))) = true := decide_eq_true c16
                    clear c16
                    (first | rw [c16b0] | (simp only [i64_w, i32_w]; rw [c16b0]) | skip)
                    as_aux_lemma =>
                     have H' := Aside0.mk H
                     clear H
                     go_wp2
                     go_meet
                     case rel => exact ⟨_, (decide ((wrap64 (x36_2 - x41_3)) < (l1.length : Int))), (by first | rfl | (simp; done) | (simp [*]; done)), H', ⟨by have := HJ2.out; have := HK2.out; have := HK3.out; first | omega | exact Nat.le_refl _⟩, ⟨by (with_reducible repeat (first | apply Kd.R_alloc | apply Kd.R_drewN | apply Kd.R_drew)); exact HO_6.out⟩, ⟨by repeat (first | (with_reducible first | exact HB.out | apply below_alloc | apply pw_below_drewN | apply below_drew1) | exact HB.out)⟩⟩
                  · rw [if_neg c16] at H
                    have c16b0 : decide (0 ≤ (wrap64 (x36_2 - x41_3))) = false := decide_eq_false c16
                    clear c16
                    (first | rw [c16b0] | (simp only [i64_w, i32_w]; rw [c16b0]) | skip)
                    as_aux_lemma =>
                     have H' := Aside0.mk H
                     clear H
                     go_wp2
                     go_meet
                     case rel => exact ⟨_, (false), (by first | rfl | (simp; done) | (simp [*]; done)), H', ⟨by have := HJ2.out; have := HK2.out; have := HK3.out; first | omega | exact Nat.le_refl _⟩, ⟨by (with_reducible repeat (first | apply Kd.R_alloc | apply Kd.R_drewN | apply Kd.R_drew)); exact HO_6.out⟩, ⟨by repeat (first | (with_reducible first | exact HB.out | apply below_alloc | apply pw_below_drewN | apply below_drew1) | exact HB.out)⟩⟩
                 case rest =>
                  clear HC15
                  (try clear c1); (try clear p1); (try clear q1); (try clear hx1); (try clear c2); (try clear p2); (try clear c5); (try clear c6); (try clear p6); (try clear c7); (try clear c8); (try clear c10); (try clear c11); (try clear c11b0); (try clear c12); (try clear c12b0); (try clear c13); (try clear c13b0); (try clear c14); (try clear c14b0); (try clear p15); (try clear q15); (try clear hx15); (try clear c16); (try clear c16b0); (try clear hx158_0); (try clear p158); (try clear p2); (try clear p6); (try clear q158)
                  obtain ⟨kq, x56_14, rfl, HA, HJ14, HO_6, HB⟩ := hcut
                  cases kq with
                  | zero => exact absurd HA.out (by simp [impl_MulPolynomials.j3])
                  | succ kj14 =>
                   have H := HA.out
                   clear HA
                   simp only [impl_MulPolynomials.j3] at H
                   by_cases c17 : x56_14 = true
                   · subst c17
                     have H1 : (if 0 ≤ (wrap64 (x36_2 - x41_3)) then (if (wrap64 (x36_2 - x41_3)) < (l1.length : Int) then ((impl_MulComplex.f (rdOf c64z l0 x41_3) (rdOf c64z l1 (wrap64 (x36_2 - x41_3)))).bind fun t160 => ((impl_add.f x8_3 t160).bind fun t161 => (impl_MulPolynomials.l1 kj14 l0 l1 x6_2 x36_2 t161 (wrap64 ((wrap64 ((l0.length : Int) + (l1.length : Int))) - 1)) x36_2 l0 (l0.length : Int) (wrap64 (x41_3 + 1))))) else (none)) else (none)) = some (r1, r2) := by rw [if_pos rfl] at H; exact H
                     clear H
                     have H := H1
                     clear H1
                     obtain ⟨ji18, hji18⟩ : ∃ j_ : Int, (wrap64 (x36_2 - x41_3)) = j_ := ⟨_, rfl⟩
                     replace H : (if 0 ≤ (ji18) then (if (ji18) < (l1.length : Int) then ((impl_MulComplex.f (rdOf c64z l0 x41_3) (rdOf c64z l1 (ji18))).bind fun t160 => ((impl_add.f x8_3 t160).bind fun t161 => (impl_MulPolynomials.l1 kj14 l0 l1 x6_2 x36_2 t161 (wrap64 ((wrap64 ((l0.length : Int) + (l1.length : Int))) - 1)) x36_2 l0 (l0.length : Int) (wrap64 (x41_3 + 1))))) else (none)) else (none)) = some (r1, r2) := by first | (rw [hji18] at H; exact H) | (simp only [hji18] at H ⊢; exact H)
                     have hji18w : (IntKind.i64.wrap (x36_2 - x41_3)) = ji18 := (i64_w _).trans hji18
                     by_cases c19 : 0 ≤ (ji18)
                     · rw [if_pos c19] at H
                       have c19b0 : decide (0 ≤ (ji18)) = true := decide_eq_true c19
                       clear c19
                       by_cases c20 : (ji18) < (l1.length : Int)
                       · rw [if_pos c20] at H
                         have c20b0 : decide ((ji18) < (l1.length : Int)) = true := decide_eq_true c20
                         clear c20
                         replace H := Option.bind_eq_some_iff.mp H
                         obtain ⟨t160, A210, H⟩ := H
                         replace H : ((impl_add.f x8_3 t160).bind fun t161 => (impl_MulPolynomials.l1 kj14 l0 l1 x6_2 x36_2 t161 (wrap64 ((wrap64 ((l0.length : Int) + (l1.length : Int))) - 1)) x36_2 l0 (l0.length : Int) (wrap64 (x41_3 + 1)))) = some (r1, r2) := H
                         have A21 := Aside0.mk A210
                         clear A210
                         replace H := Option.bind_eq_some_iff.mp H
                         obtain ⟨t161, A220, H⟩ := H
                         replace H : (impl_MulPolynomials.l1 kj14 l0 l1 x6_2 x36_2 t161 (wrap64 ((wrap64 ((l0.length : Int) + (l1.length : Int))) - 1)) x36_2 l0 (l0.length : Int) (wrap64 (x41_3 + 1))) = some (r1, r2) := H
                         have A22 := Aside0.mk A220
                         clear A220
                         as_aux_lemma =>
                          have H' := Aside0.mk H
                          clear H
                          have p159 : 0 ≤ ((ji18) : Int) := of_decide_eq_true (by first | (with_reducible assumption) | assumption)
                          have q159 : (ji18) < (l1.length : Int) := of_decide_eq_true (by first | (with_reducible assumption) | assumption)
                          obtain ⟨ad159, e159, hx159_0⟩ := Kd.at_c64 HR1.out (ji18) p159 q159
                          cases e159
                          replace hx159_0 := (HB.out.cell (World.block_lt_of_cell? w _ hx159_0)).trans hx159_0
                          replace p159 := eq_true p159
                          replace q159 := eq_true q159
                          go_wp2_with (first | ((with_reducible refine gate_callee (f := 12) rfl ?_); refine goesL_ (some 63) rfl rfl Try.func12 (by kernel_rfl) rfl #[.complex .f32 ((rdOf c64z l0 x41_3).re) ((rdOf c64z l0 x41_3).im), .complex .f32 ((rdOf c64z l1 (ji18)).re) ((rdOf c64z l1 (ji18)).im)] rfl (by (try simp only [List.map_toArray, List.map_cons, List.map_nil]); first | done | (simp only [hji18]; rfl) | rfl | (simp only [List.length_drop, List.length_take]; rfl)) ?_; (with_reducible refine (impl_MulComplex.calls (rdOf c64z l0 x41_3) (rdOf c64z l1 (ji18)) t160 _ A21.out).mono ?_); rintro e w23 ⟨rfl, hb⟩; refine ⟨_, rfl, ?_⟩; have n0_ := Aside0.mk (Kd.R_below (by (with_reducible repeat (first | apply Kd.R_alloc | apply Kd.R_drewN | apply Kd.R_drew)); exact HO_6.out) hb); have n1_ := Aside0.mk (below_step (by repeat (first | (with_reducible first | exact HB.out | apply below_alloc | apply pw_below_drewN | apply below_drew1) | exact HB.out)) hb); clear HO_6; clear HB; have HO_6 := n0_; have HB := n1_; clear n0_ n1_; (try clear hb); (try clear hb2); (try clear hk); (try clear hi)) | ((with_reducible refine gate_callee (f := 28) rfl ?_); refine goesL_ (some 64) rfl rfl Try.func28 (by kernel_rfl) rfl #[.complex .f32 x8_3.re x8_3.im, .complex .f32 t160.re t160.im] rfl (by (try simp only [List.map_toArray, List.map_cons, List.map_nil]); first | done | rfl | (simp only [List.length_drop, List.length_take]; rfl)) ?_; (with_reducible refine (impl_add.calls x8_3 t160 t161 _ A22.out).mono ?_); rintro e w24 ⟨rfl, hb⟩; refine ⟨_, rfl, ?_⟩; have n0_ := Aside0.mk (Kd.R_below (by (with_reducible repeat (first | apply Kd.R_alloc | apply Kd.R_drewN | apply Kd.R_drew)); exact HO_6.out) hb); have n1_ := Aside0.mk (below_step (by repeat (first | (with_reducible first | exact HB.out | apply below_alloc | apply pw_below_drewN | apply below_drew1) | exact HB.out)) hb); clear HO_6; clear HB; have HO_6 := n0_; have HB := n1_; clear n0_ n1_; (try clear hb); (try clear hb2); (try clear hk); (try clear hi)))
                          go_roundg kj14
                          case measure => have := HJ2.out; have := HK2.out; have := HK3.out; have := HJ14.out; omega
                          case rel => exact ⟨(t161), (wrap64 (x41_3 + 1)), (by first | rfl | (simp; done) | (simp [*]; done)), (by first | rfl | (simp; done) | (simp [*]; done)), H', ⟨by have := HJ2.out; have := HK2.out; have := HK3.out; have := HJ14.out; omega⟩, ⟨by (with_reducible repeat (first | apply Kd.R_alloc | apply Kd.R_drewN | apply Kd.R_drew)); exact HO_6.out⟩, ⟨by repeat (first | (with_reducible first | exact HB.out | apply below_alloc | apply pw_below_drewN | apply below_drew1) | exact HB.out)⟩⟩
                       · rw [if_neg c20] at H
                         exact absurd H (by simp)
                     · rw [if_neg c19] at H
                       exact absurd H (by simp)
                   · replace c17 := Bool.eq_false_iff.mpr c17
                     subst c17
                     have H1 : (impl_MulPolynomials.l1 kj14 l0 l1 x6_2 x36_2 x8_3 (wrap64 ((wrap64 ((l0.length : Int) + (l1.length : Int))) - 1)) x36_2 l0 (l0.length : Int) (wrap64 (x41_3 + 1))) = some (r1, r2) := by rw [if_neg (show ¬ (false = true) by decide)] at H; exact H
                     clear H
                     have H := H1
                     clear H1
                     as_aux_lemma =>
                      have H' := Aside0.mk H
                      clear H
                      go_wp2
                      go_roundg kj14
                      case measure => have := HJ2.out; have := HK2.out; have := HK3.out; have := HJ14.out; omega
                      case rel => exact ⟨(x8_3), (wrap64 (x41_3 + 1)), (by first | rfl | (simp; done) | (simp [*]; done)), (by first | rfl | (simp; done) | (simp [*]; done)), H', ⟨by have := HJ2.out; have := HK2.out; have := HK3.out; have := HJ14.out; omega⟩, ⟨by (with_reducible repeat (first | apply Kd.R_alloc | apply Kd.R_drewN | apply Kd.R_drew)); exact HO_6.out⟩, ⟨by repeat (first | (with_reducible first | exact HB.out | apply below_alloc | apply pw_below_drewN | apply below_drew1) | exact HB.out)⟩⟩
               · rw [if_neg c14] at H
                 exact absurd H (by simp)
             · rw [if_neg c13] at H
               exact absurd H (by simp)
           · rw [if_neg c12] at H
             have c12b0 : decide (x41_3 < (l0.length : Int)) = false := decide_eq_false c12
             clear c12
             by_cases c25 : x6_2.length < 17592186044416
             · rw [if_pos c25] at H
               have LMc25 := Aside0.mk c25
               clear c25
               obtain ⟨y155, hy155⟩ : ∃ y_ : List C64, y_ = (x6_2 ++ [x8_3]) := ⟨_, rfl⟩
               replace H : (impl_MulPolynomials.l0 k3 l0 l1 y155 (wrap64 ((wrap64 ((l0.length : Int) + (l1.length : Int))) - 1)) (wrap64 (x36_2 + 1))) = some (r1, r2) := by first | (rw [hy155]; with_reducible exact H) | (have H2_ := (Option.bind_some _ _).symm.trans H; rw [hy155]; with_reducible exact H2_) | (have H2_ := (Option.bind_some _ _).symm.trans H; with_reducible exact H2_) | with_reducible exact H | (rw [hy155]; exact H) | exact H
               have Ny155 := Aside0.mk hy155
               clear hy155
               as_aux_lemma =>
                have H' := Aside0.mk H
                clear H
                go_wp2_with (first | ((with_reducible refine gate_builtin (b := .append) (xs := #[.tmp 66, .tmp 68]) rfl ?_); (try (refine gate_guard (by rfl) ?_; dsimp only)); at_builtin; refine Kd.R_append Kd.c64 (w0 := w) w.heap.size rfl (.tmp 66) (.tmp 68) 24 30 (.complex .f32 0 0) 8 rfl Try.underlying24 info30 rfl (by decide) (by omega) u6 x6_2 x8_3 [.complex .f32 x8_3.re x8_3.im] (fun _ => True) (fun _ => False) rfl rfl ?aP (fun _ hk => hk.elim) ?aF ?aO ?aB ?aS ?aL ?_; (case aP => exact rfl); (case aB => exact (by repeat (first | (with_reducible first | exact HB.out | apply below_alloc | apply pw_below_drewN | apply below_drew1) | exact HB.out))); (case aF => exact (fun _ _ => trivial)); (case aO => exact (by (with_reducible repeat (first | apply Kd.R_alloc | apply Kd.R_drewN | apply Kd.R_drew)); exact HO_6.out)); (case aS => exact (below_size (by repeat (first | (with_reducible first | exact HB.out | apply below_alloc | apply pw_below_drewN | apply below_drew1) | exact HB.out)))); (case aL => have := LMc25.out; omega); intro v156 w26 ho hb hg hat; rw [← Ny155.out] at ho; have n0_ := Aside0.mk (hb); have n1_ := Aside0.mk (ho); clear HB; clear HO_6; have HB := n0_; have HO157 := n1_; clear n0_ n1_; clear ho hb hg hat))
                go_roundg k3
                case measure => have := HJ2.out; have := HK2.out; have := HK3.out; omega
                case rel => exact ⟨(y155), (wrap64 (x36_2 + 1)), (by first | rfl | (simp; done) | (simp [*]; done)), H', ⟨by have := HJ2.out; have := HK2.out; have := HK3.out; omega⟩, ⟨by (with_reducible repeat (first | apply Kd.R_alloc | apply Kd.R_drewN | apply Kd.R_drew)); exact HO157.out⟩, ⟨by repeat (first | (with_reducible first | exact HB.out | apply below_alloc | apply pw_below_drewN | apply below_drew1) | exact HB.out)⟩⟩
             · rw [if_neg c25] at H
               exact absurd H (by simp)
       · rw [if_neg c11] at H
         have c11b0 : decide (x36_2 < (wrap64 ((wrap64 ((l0.length : Int) + (l1.length : Int))) - 1))) = false := decide_eq_false c11
         clear c11
         as_aux_lemma =>
          simp only [Option.some.injEq, Prod.mk.injEq] at H
          obtain ⟨rfl, rfl⟩ := H
          go_wp2
          go_ret2
          exact ⟨_, by first | rfl | (simp [errW_none, errW_some] <;> rfl) | (simp [*, errW_none, errW_some] <;> rfl), by (with_reducible repeat (first | apply Kd.R_alloc | apply Kd.R_drewN | apply Kd.R_drew)); exact HO_6.out, by repeat (first | (with_reducible first | exact HB.out | apply below_alloc | apply pw_below_drewN | apply below_drew1) | exact HB.out)⟩

end Go.Proofs.Ytnfcbacdggkfeaa.P
