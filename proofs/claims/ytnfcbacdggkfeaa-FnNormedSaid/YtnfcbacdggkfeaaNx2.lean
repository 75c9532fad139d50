/-
  Contracts of the program's functions, each a plain Lean function beside the machine's call: written by this session's program over the kit's print.
-/
import Derived.Test.YtnfcbacdggkfeaaNx0
import Derived.Test.YtnfcbacdggkfeaaNx1
namespace Go.Proofs.Ytnfcbacdggkfeaa.N
open Go.RowKit Go.Proofs.YtnfcbacdggkfeaaW.PrintWords Go.Proofs.YtnfcbacdggkfeaaW.PrintLast Go.Proofs.YtnfcbacdggkfeaaW.PrintMore
attribute [local go_sem] max2_int min2_int max_two min_two max_three min_three max_four min_four   -- for this text's walks alone
set_option linter.unusedVariables false
set_option linter.unusedSimpArgs false

/-! ### impl_ScaleComplex: function 43 -/
def impl_ScaleComplex.f (a0 : C64) (a1 : Nat) : Option (C64) := if FOk .mul .f32 a0.re a1 = true then (if FOk .mul .f32 a0.im a1 = true then (some (⟨fq .mul .f32 a0.re a1, fq .mul .f32 a0.im a1⟩ : C64)) else (none)) else (none)
set_option maxHeartbeats 8000000 in
set_option maxRecDepth 100000 in
theorem impl_ScaleComplex.calls (a0 : C64) (a1 : Nat) (r : C64) (w : World) (h : impl_ScaleComplex.f a0 a1 = some r) :
 Calls Try.prog 43 #[.complex .f32 a0.re a0.im, .float .f32 a1] w fun e w' => e = .returned (.complex .f32 r.re r.im) ∧ Below w.heap.size w w' := by
 have HB := Aside0.mk (Below.refl w.heap.size w)
 have H : (if FOk .mul .f32 a0.re a1 = true then (if FOk .mul .f32 a0.im a1 = true then (some (⟨fq .mul .f32 a0.re a1, fq .mul .f32 a0.im a1⟩ : C64)) else (none)) else (none)) = some r := h
 clear h
 by_cases c3 : FOk .mul .f32 a0.re a1 = true
 · rw [if_pos c3] at H
   have fe3 := fun t w => frun (P := Try.prog) c3 t w
   have c3b0 : FOk .mul .f32 a0.re a1 = true := c3
   clear c3
   by_cases c4 : FOk .mul .f32 a0.im a1 = true
   · rw [if_pos c4] at H
     have fe4 := fun t w => frun (P := Try.prog) c4 t w
     have c4b0 : FOk .mul .f32 a0.im a1 = true := c4
     clear c4
     as_aux_lemma =>
      obtain rfl := Option.some.inj H
      go_enter Try.func43, Try.ntmps43
      go_wp2
      go_ret
      exact ⟨by first | rfl | (simp [errW_none, errW_some] <;> rfl) | (simp [*, errW_none, errW_some] <;> rfl), by repeat (first | (with_reducible first | exact HB.out | apply below_alloc | apply pw_below_drewN | apply below_drew1) | exact HB.out)⟩
   · rw [if_neg c4] at H
     exact absurd H (by simp)
 · rw [if_neg c3] at H
   exact absurd H (by simp)

/-! ### impl_scaled: function 34 -/
def impl_scaled.l0 : Nat → Nat → List C64 → List C64 → Int → Int → Option (List C64)
 | 0, _, _, _, _, _ => none
 | k + 1, x1, x5, x9, x10, x11 => if x11 < x10 then (if 0 ≤ x11 then (if x11 < (x9.length : Int) then ((impl_ScaleComplex.f (rdOf c64z x9 x11) x1).bind fun t140 => (if x5.length < 17592186044416 then (impl_scaled.l0 k x1 (x5 ++ [t140]) x9 x10 (wrap64 (x11 + 1))) else (none))) else (none)) else (none)) else (some x5)
def impl_scaled.f (k : Nat) (l0 : List C64) (a1 : Nat) : Option (List C64) := impl_scaled.l0 k a1 (([] : List C64)) l0 (l0.length : Int) 0
theorem impl_scaled.mono_l : ∀ k, (∀ y0 y1 y2 y3 y4, LeO (impl_scaled.l0 k y0 y1 y2 y3 y4) (impl_scaled.l0 (k + 1) y0 y1 y2 y3 y4))
 | 0 => fun _ _ _ _ _ r h => by simp [impl_scaled.l0] at h
 | k + 1 => by
  have ih0 := impl_scaled.mono_l k
  · intro y0 y1 y2 y3 y4
    unfold impl_scaled.l0
    repeat' first
    | (with_reducible exact ih0 _ _ _ _ _)
    | (with_reducible exact LeO.refl _)
    | (with_reducible exact LeO.none _)
    | (with_reducible refine LeO.ite ?_ ?_)
    | (with_reducible refine LeO.bind ?_ (fun _ => ?_))
    | exact ih0 _ _ _ _ _
    | exact LeO.none _
    | refine LeO.ite ?_ ?_
    | refine LeO.bind ?_ (fun _ => ?_)
theorem impl_scaled.mono : ∀ a0 a1 k, LeO (impl_scaled.f k a0 a1) (impl_scaled.f (k + 1) a0 a1) := by
 intro a0 a1 k
 have ih0 := impl_scaled.mono_l k
 unfold impl_scaled.f
 repeat' first
  | (with_reducible exact ih0 _ _ _ _ _)
  | (with_reducible exact LeO.refl _)
  | (with_reducible exact LeO.none _)
  | (with_reducible refine LeO.ite ?_ ?_)
  | (with_reducible refine LeO.bind ?_ (fun _ => ?_))
  | exact ih0 _ _ _ _ _
  | exact LeO.none _
  | refine LeO.ite ?_ ?_
  | refine LeO.bind ?_ (fun _ => ?_)
set_option maxHeartbeats 8000000 in
set_option maxRecDepth 100000 in
theorem impl_scaled.calls (k : Nat) (A0 : Option Addr) (c0 : Nat) (l0 : List C64) (a1 : Nat) (r : List C64) (w : World) (hr0 : Kd.C Kd.c64 w A0 l0.length l0) (hc0 : l0.length ≤ c0) (h : impl_scaled.f k l0 a1 = some r) :
 Calls Try.prog 34 #[.slice A0 l0.length c0, .float .f32 a1] w fun e w' => ∃ v0_ : Value, e = .returned (v0_) ∧ Kd.R Kd.c64 30 w' w.heap.size (fun _ => True) v0_ r ∧ Below w.heap.size w w' := by
 have HR0 := Aside0.mk hr0
 have HC0 := Aside0.mk hc0
 clear hr0 hc0
 have HB := Aside0.mk (Below.refl w.heap.size w)
 have H : (impl_scaled.l0 k a1 (([] : List C64)) l0 (l0.length : Int) 0) = some r := h
 clear h
 obtain ⟨y136, hy136⟩ : ∃ y_ : List C64, y_ = (([] : List C64)) := ⟨_, rfl⟩
 replace H : (impl_scaled.l0 k a1 y136 l0 (l0.length : Int) 0) = some r := by first | (rw [hy136]; with_reducible exact H) | (have H2_ := (Option.bind_some _ _).symm.trans H; rw [hy136]; with_reducible exact H2_) | (have H2_ := (Option.bind_some _ _).symm.trans H; with_reducible exact H2_) | with_reducible exact H | (rw [hy136]; exact H) | exact H
 have Ny136 := Aside0.mk hy136
 clear hy136
 have H' := Aside0.mk H
 clear H
 go_enter Try.func34, Try.ntmps34
 go_wp2_with (first | ((with_reducible refine gate_dst (N := 8) rfl ?_); refine Kd.R_lit Kd.c64 _ 30 ?hg (N := 8) ?hd (xs := ([] : List C64)) (inner := []) (ok := fun _ => True) (okp := fun _ => True) ?hr ?hp (fun _ hk => hk) trivial (Below.refl _ _) (Nat.le_refl _) (by simp) ?_; (case hd => rfl); (case hg => rfl); (case hr => first | (go_simp; done) | (go_simp; rfl)); (case hp => exact (Reps.none _ _)); intro v137 w3 ho4 hb hg_ hnew_; clear hg_ hnew_; (first | rw [← Ny136.out] at ho4 | (simp only [Int.reduceToNat] at ho4; rw [← Ny136.out] at ho4)); have n0_ := Aside0.mk (Kd.R_lower ho4 (below_size (by repeat (first | (with_reducible first | exact HB.out | apply below_alloc | apply pw_below_drewN | apply below_drew1) | exact HB.out)))); have n1_ := Aside0.mk (below_step (by repeat (first | (with_reducible first | exact HB.out | apply below_alloc | apply pw_below_drewN | apply below_drew1) | exact HB.out)) hb); clear HB; have HO138 := n0_; have HB := n1_; clear n0_ n1_; clear hb ho4))
 go_loopg [5, 11] k (fun kq v5 v11 w' => ∃ (x5_1 : List C64) (x11_1 : Int), v11 = .int .i64 x11_1 ∧ Aside0 (impl_scaled.l0 kq a1 x5_1 l0 (l0.length : Int) x11_1 = some r) ∧ Aside0 (kq ≤ k) ∧ Aside0 (Kd.R Kd.c64 30 w' w.heap.size (fun _ => True) v5 x5_1) ∧ Aside0 (Below w.heap.size w w'))
 case atStart => exact ⟨(y136), (0), (by first | rfl | (simp; done) | (simp [*]; done)), H', ⟨Nat.le_refl _⟩, ⟨by (with_reducible repeat (first | apply Kd.R_alloc | apply Kd.R_drewN | apply Kd.R_drew)); exact HO138.out⟩, ⟨by repeat (first | (with_reducible first | exact HB.out | apply below_alloc | apply pw_below_drewN | apply below_drew1) | exact HB.out)⟩⟩
 case round =>
  clear H'
  (try clear p2); (try clear c3)
  obtain ⟨x5_1, x11_1, rfl, HA, HK1, HO_5, HB⟩ := hrel
  cases gk with
  | zero => exact absurd HA.out (by simp [impl_scaled.l0])
  | succ k1 =>
   have H := HA.out
   clear HA
   simp only [impl_scaled.l0] at H
   by_cases c5 : x11_1 < (l0.length : Int)
   · rw [if_pos c5] at H
     have c5b0 : decide (x11_1 < (l0.length : Int)) = true := decide_eq_true c5
     clear c5
     by_cases c6 : 0 ≤ x11_1
     · rw [if_pos c6] at H
       have c6b0 : decide (0 ≤ x11_1) = true := decide_eq_true c6
       clear c6
       by_cases c7 : x11_1 < (l0.length : Int)
       · rw [if_pos c7] at H
         have c7b0 : decide (x11_1 < (l0.length : Int)) = true := decide_eq_true c7
         clear c7
         replace H := Option.bind_eq_some_iff.mp H
         obtain ⟨t140, A80, H⟩ := H
         replace H : (if x5_1.length < 17592186044416 then (impl_scaled.l0 k1 a1 (x5_1 ++ [t140]) l0 (l0.length : Int) (wrap64 (x11_1 + 1))) else (none)) = some r := H
         have A8 := Aside0.mk A80
         clear A80
         by_cases c9 : x5_1.length < 17592186044416
         · rw [if_pos c9] at H
           have LMc9 := Aside0.mk c9
           clear c9
           obtain ⟨y141, hy141⟩ : ∃ y_ : List C64, y_ = (x5_1 ++ [t140]) := ⟨_, rfl⟩
           replace H : (impl_scaled.l0 k1 a1 y141 l0 (l0.length : Int) (wrap64 (x11_1 + 1))) = some r := by first | (rw [hy141]; with_reducible exact H) | (have H2_ := (Option.bind_some _ _).symm.trans H; rw [hy141]; with_reducible exact H2_) | (have H2_ := (Option.bind_some _ _).symm.trans H; with_reducible exact H2_) | with_reducible exact H | (rw [hy141]; exact H) | exact H
           have Ny141 := Aside0.mk hy141
           clear hy141
           as_aux_lemma =>
            have H' := Aside0.mk H
            clear H
            have p139 : 0 ≤ (x11_1 : Int) := of_decide_eq_true (by first | (with_reducible assumption) | assumption)
            have q139 : x11_1 < (l0.length : Int) := of_decide_eq_true (by first | (with_reducible assumption) | assumption)
            obtain ⟨ad139, e139, hx139_0⟩ := Kd.at_c64 HR0.out x11_1 p139 q139
            cases e139
            replace hx139_0 := (HB.out.cell (World.block_lt_of_cell? w _ hx139_0)).trans hx139_0
            replace p139 := eq_true p139
            replace q139 := eq_true q139
            go_wp2_with (first | ((with_reducible refine gate_callee (f := 43) rfl ?_); refine goesL_ (some 18) rfl rfl Try.func43 (by kernel_rfl) rfl #[.complex .f32 ((rdOf c64z l0 x11_1).re) ((rdOf c64z l0 x11_1).im), .float .f32 a1] rfl (by (try simp only [List.map_toArray, List.map_cons, List.map_nil]); first | done | rfl | (simp only [List.length_drop, List.length_take]; rfl)) ?_; (with_reducible refine (impl_ScaleComplex.calls (rdOf c64z l0 x11_1) a1 t140 _ A8.out).mono ?_); rintro e w10 ⟨rfl, hb⟩; refine ⟨_, rfl, ?_⟩; have n0_ := Aside0.mk (Kd.R_below (by (with_reducible repeat (first | apply Kd.R_alloc | apply Kd.R_drewN | apply Kd.R_drew)); exact HO_5.out) hb); have n1_ := Aside0.mk (below_step (by repeat (first | (with_reducible first | exact HB.out | apply below_alloc | apply pw_below_drewN | apply below_drew1) | exact HB.out)) hb); clear HO_5; clear HB; have HO_5 := n0_; have HB := n1_; clear n0_ n1_; (try clear hb); (try clear hb2); (try clear hk); (try clear hi)) | ((with_reducible refine gate_builtin (b := .append) (xs := #[.tmp 15, .tmp 19]) rfl ?_); at_builtin; refine Kd.R_append Kd.c64 (w0 := w) w.heap.size rfl (.tmp 15) (.tmp 19) 24 30 (.complex .f32 0 0) 8 rfl Try.underlying24 info30 rfl (by decide) (by omega) u5 x5_1 t140 [.complex .f32 t140.re t140.im] (fun _ => True) (fun _ => False) rfl rfl ?aP (fun _ hk => hk.elim) ?aF ?aO ?aB ?aS ?aL ?_; (case aP => exact rfl); (case aB => exact (by repeat (first | (with_reducible first | exact HB.out | apply below_alloc | apply pw_below_drewN | apply below_drew1) | exact HB.out))); (case aF => exact (fun _ _ => trivial)); (case aO => exact (by (with_reducible repeat (first | apply Kd.R_alloc | apply Kd.R_drewN | apply Kd.R_drew)); exact HO_5.out)); (case aS => exact (below_size (by repeat (first | (with_reducible first | exact HB.out | apply below_alloc | apply pw_below_drewN | apply below_drew1) | exact HB.out)))); (case aL => have := LMc9.out; omega); intro v142 w11 ho hb hg hat; rw [← Ny141.out] at ho; have n0_ := Aside0.mk (hb); have n1_ := Aside0.mk (ho); clear HB; clear HO_5; have HB := n0_; have HO143 := n1_; clear n0_ n1_; clear ho hb hg hat))
            go_roundg k1
            case measure => have := HK1.out; omega
            case rel => exact ⟨(y141), (wrap64 (x11_1 + 1)), (by first | rfl | (simp; done) | (simp [*]; done)), H', ⟨by have := HK1.out; omega⟩, ⟨by (with_reducible repeat (first | apply Kd.R_alloc | apply Kd.R_drewN | apply Kd.R_drew)); exact HO143.out⟩, ⟨by repeat (first | (with_reducible first | exact HB.out | apply below_alloc | apply pw_below_drewN | apply below_drew1) | exact HB.out)⟩⟩
         · rw [if_neg c9] at H
           exact absurd H (by simp)
       · rw [if_neg c7] at H
         exact absurd H (by simp)
     · rw [if_neg c6] at H
       exact absurd H (by simp)
   · rw [if_neg c5] at H
     have c5b0 : decide (x11_1 < (l0.length : Int)) = false := decide_eq_false c5
     clear c5
     as_aux_lemma =>
      obtain rfl := Option.some.inj H
      go_wp2
      go_ret
      exact ⟨_, by first | rfl | (simp [errW_none, errW_some] <;> rfl) | (simp [*, errW_none, errW_some] <;> rfl), by (with_reducible repeat (first | apply Kd.R_alloc | apply Kd.R_drewN | apply Kd.R_drew)); exact HO_5.out, by repeat (first | (with_reducible first | exact HB.out | apply below_alloc | apply pw_below_drewN | apply below_drew1) | exact HB.out)⟩

/-! ### impl_NormWeights: function 14 -/
def impl_NormWeights.f (k : Nat) (l0 : List C64) : Option (List C64 × Bool) := (impl_PowersOf.f k l0).bind fun bt144 => ((impl_RootNumber.f bt144.1).bind fun t146 => (if FOk .quo .f32 1065353216 t146 = true then (if bt144.2 = true then ((impl_areWeights.f l0).bind fun t147 => (if t147 = true then ((impl_IsFinite.f (fq .quo .f32 1065353216 t146)).bind fun t148 => (if t148 = true then ((impl_scaled.f k l0 (fq .quo .f32 1065353216 t146)).bind fun t149 => (some (t149, true))) else (some (([] : List C64), false)))) else (some (([] : List C64), false)))) else (some (([] : List C64), false))) else (none)))
theorem impl_NormWeights.mono : ∀ a0 k, LeO (impl_NormWeights.f k a0) (impl_NormWeights.f (k + 1) a0) := by
 intro a0 k
 unfold impl_NormWeights.f
 repeat' first
  | (with_reducible exact impl_PowersOf.mono _ _)
  | (with_reducible exact impl_scaled.mono _ _ _)
  | (with_reducible exact LeO.refl _)
  | (with_reducible exact LeO.none _)
  | (with_reducible refine LeO.ite ?_ ?_)
  | (with_reducible refine LeO.bind ?_ (fun _ => ?_))
  | exact impl_PowersOf.mono _ _
  | exact impl_scaled.mono _ _ _
  | exact LeO.none _
  | refine LeO.ite ?_ ?_
  | refine LeO.bind ?_ (fun _ => ?_)
set_option maxHeartbeats 8000000 in
set_option maxRecDepth 100000 in
theorem impl_NormWeights.calls (k : Nat) (A0 : Option Addr) (c0 : Nat) (l0 : List C64) (r1 : List C64) (r2 : Bool) (w : World) (hr0 : Kd.C Kd.c64 w A0 l0.length l0) (hc0 : l0.length ≤ c0) (h : impl_NormWeights.f k l0 = some (r1, r2)) :
 Calls Try.prog 14 #[.slice A0 l0.length c0] w fun e w' => ∃ v0_ : Value, e = .returned (.tuple #[v0_, .bool r2]) ∧ Kd.R Kd.c64 30 w' w.heap.size (fun _ => True) v0_ r1 ∧ Below w.heap.size w w' := by
 have HR0 := Aside0.mk hr0
 have HC0 := Aside0.mk hc0
 clear hr0 hc0
 have HB := Aside0.mk (Below.refl w.heap.size w)
 have H : ((impl_PowersOf.f k l0).bind fun bt144 => ((impl_RootNumber.f bt144.1).bind fun t146 => (if FOk .quo .f32 1065353216 t146 = true then (if bt144.2 = true then ((impl_areWeights.f l0).bind fun t147 => (if t147 = true then ((impl_IsFinite.f (fq .quo .f32 1065353216 t146)).bind fun t148 => (if t148 = true then ((impl_scaled.f k l0 (fq .quo .f32 1065353216 t146)).bind fun t149 => (some (t149, true))) else (some (([] : List C64), false)))) else (some (([] : List C64), false)))) else (some (([] : List C64), false))) else (none)))) = some (r1, r2) := h
 clear h
 replace H := Option.bind_eq_some_iff.mp H
 obtain ⟨⟨t144, t145⟩, A20, H⟩ := H
 replace H : ((impl_RootNumber.f t144).bind fun t146 => (if FOk .quo .f32 1065353216 t146 = true then (if t145 = true then ((impl_areWeights.f l0).bind fun t147 => (if t147 = true then ((impl_IsFinite.f (fq .quo .f32 1065353216 t146)).bind fun t148 => (if t148 = true then ((impl_scaled.f k l0 (fq .quo .f32 1065353216 t146)).bind fun t149 => (some (t149, true))) else (some (([] : List C64), false)))) else (some (([] : List C64), false)))) else (some (([] : List C64), false))) else (none))) = some (r1, r2) := H
 have A2 := Aside0.mk A20
 clear A20
 replace H := Option.bind_eq_some_iff.mp H
 obtain ⟨t146, A30, H⟩ := H
 replace H : (if FOk .quo .f32 1065353216 t146 = true then (if t145 = true then ((impl_areWeights.f l0).bind fun t147 => (if t147 = true then ((impl_IsFinite.f (fq .quo .f32 1065353216 t146)).bind fun t148 => (if t148 = true then ((impl_scaled.f k l0 (fq .quo .f32 1065353216 t146)).bind fun t149 => (some (t149, true))) else (some (([] : List C64), false)))) else (some (([] : List C64), false)))) else (some (([] : List C64), false))) else (none)) = some (r1, r2) := H
 have A3 := Aside0.mk A30
 clear A30
 by_cases c4 : FOk .quo .f32 1065353216 t146 = true
 · rw [if_pos c4] at H
   have fe4 := fun t w => frun (P := Try.prog) c4 t w
   have c4b0 : FOk .quo .f32 1065353216 t146 = true := c4
   clear c4
   by_cases c5 : t145 = true
   · subst c5
     have H1 : ((impl_areWeights.f l0).bind fun t147 => (if t147 = true then ((impl_IsFinite.f (fq .quo .f32 1065353216 t146)).bind fun t148 => (if t148 = true then ((impl_scaled.f k l0 (fq .quo .f32 1065353216 t146)).bind fun t149 => (some (t149, true))) else (some (([] : List C64), false)))) else (some (([] : List C64), false)))) = some (r1, r2) := by rw [if_pos rfl] at H; exact H
     clear H
     have H := H1
     clear H1
     replace H := Option.bind_eq_some_iff.mp H
     obtain ⟨t147, A60, H⟩ := H
     replace H : (if t147 = true then ((impl_IsFinite.f (fq .quo .f32 1065353216 t146)).bind fun t148 => (if t148 = true then ((impl_scaled.f k l0 (fq .quo .f32 1065353216 t146)).bind fun t149 => (some (t149, true))) else (some (([] : List C64), false)))) else (some (([] : List C64), false))) = some (r1, r2) := H
     have A6 := Aside0.mk A60
     clear A60
     by_cases c7 : t147 = true
     · subst c7
       have H1 : ((impl_IsFinite.f (fq .quo .f32 1065353216 t146)).bind fun t148 => (if t148 = true then ((impl_scaled.f k l0 (fq .quo .f32 1065353216 t146)).bind fun t149 => (some (t149, true))) else (some (([] : List C64), false)))) = some (r1, r2) := by rw [if_pos rfl] at H; exact H
       clear H
       have H := H1
       clear H1
       replace H := Option.bind_eq_some_iff.mp H
       obtain ⟨t148, A80, H⟩ := H
       replace H : (if t148 = true then ((impl_scaled.f k l0 (fq .quo .f32 1065353216 t146)).bind fun t149 => (some (t149, true))) else (some (([] : List C64), false))) = some (r1, r2) := H
       have A8 := Aside0.mk A80
       clear A80
       by_cases c9 : t148 = true
       · subst c9
         have H1 : ((impl_scaled.f k l0 (fq .quo .f32 1065353216 t146)).bind fun t149 => (some (t149, true))) = some (r1, r2) := by rw [if_pos rfl] at H; exact H
         clear H
         have H := H1
         clear H1
         replace H := Option.bind_eq_some_iff.mp H
         obtain ⟨t149, A100, H⟩ := H
         replace H : (some (t149, true)) = some (r1, r2) := H
         have A10 := Aside0.mk A100
         clear A100
         as_aux_lemma =>
          simp only [Option.some.injEq, Prod.mk.injEq] at H
          obtain ⟨rfl, rfl⟩ := H
          go_enter Try.func14, Try.ntmps14
          go_wp2_with (first | ((with_reducible refine gate_callee (f := 15) rfl ?_); refine goesL_ (some 9) rfl rfl Try.func15 (by kernel_rfl) rfl #[.slice A0 l0.length c0] rfl (by (try simp only [List.map_toArray, List.map_cons, List.map_nil]); first | done | rfl | (simp only [List.length_drop, List.length_take]; rfl)) ?_; (with_reducible refine (impl_PowersOf.calls k _ _ l0 t144 true _ ?side1 ?side2 A2.out).mono ?_); (case side1 => repeat (first | exact HR0.out | (with_reducible refine Kd.C_alloc ?_ _) | (with_reducible refine Kd.C_drewN ?_ _) | (with_reducible refine Kd.C_drew ?_))); (case side2 => exact HC0.out); rintro e w11 ⟨rfl, hb⟩; refine ⟨_, rfl, ?_⟩; have n0_ := Aside0.mk (below_step (by repeat (first | (with_reducible first | exact HB.out | apply below_alloc | apply pw_below_drewN | apply below_drew1) | exact HB.out)) hb); clear HB; have HB := n0_; clear n0_; (try clear hb); (try clear hb2); (try clear hk); (try clear hi)) | ((with_reducible refine gate_callee (f := 32) rfl ?_); refine goesL_ (some 13) rfl rfl Try.func32 (by kernel_rfl) rfl #[.float .f32 t144] rfl (by (try simp only [List.map_toArray, List.map_cons, List.map_nil]); first | done | rfl | (simp only [List.length_drop, List.length_take]; rfl)) ?_; (with_reducible refine (impl_RootNumber.calls t144 t146 _ A3.out).mono ?_); rintro e w' ⟨rfl, ⟨nd, rfl⟩⟩; refine ⟨_, rfl, ?_⟩) | (go_at_call 27; (with_reducible refine (impl_areWeights.calls _ _ l0 true _ ?side1 ?side2 A6.out).mono ?_); (case side1 => repeat (first | exact (Kd.C_below HR0.out (by repeat (first | (with_reducible first | exact HB.out | apply below_alloc | apply pw_below_drewN | apply below_drew1) | exact HB.out))) | (with_reducible refine Kd.C_alloc ?_ _) | (with_reducible refine Kd.C_drewN ?_ _) | (with_reducible refine Kd.C_drew ?_))); (case side2 => exact HC0.out); rintro e w' ⟨rfl, ⟨nd, rfl⟩⟩) | (go_at_call 33; (with_reducible refine (impl_IsFinite.calls (fq .quo .f32 1065353216 t146) true _ A8.out).mono ?_); rintro e w' ⟨rfl, ⟨nd, rfl⟩⟩) | ((with_reducible refine gate_callee (f := 34) rfl ?_); refine goesL_ (some 29) rfl rfl Try.func34 (by kernel_rfl) rfl #[.slice A0 l0.length c0, .float .f32 (fq .quo .f32 1065353216 t146)] rfl (by (try simp only [List.map_toArray, List.map_cons, List.map_nil]); first | done | rfl | (simp only [List.length_drop, List.length_take]; rfl)) ?_; (with_reducible refine (impl_scaled.calls k _ _ l0 (fq .quo .f32 1065353216 t146) t149 _ ?side1 ?side2 A10.out).mono ?_); (case side1 => repeat (first | exact (Kd.C_below HR0.out (by repeat (first | (with_reducible first | exact HB.out | apply below_alloc | apply pw_below_drewN | apply below_drew1) | exact HB.out))) | (with_reducible refine Kd.C_alloc ?_ _) | (with_reducible refine Kd.C_drewN ?_ _) | (with_reducible refine Kd.C_drew ?_))); (case side2 => exact HC0.out); rintro e w12 ⟨v150, rfl, ho0, hb⟩; refine ⟨_, rfl, ?_⟩; have n0_ := Aside0.mk (Kd.R_lower ho0 (below_size (by repeat (first | (with_reducible first | exact HB.out | apply below_alloc | apply pw_below_drewN | apply below_drew1) | exact HB.out)))); have n1_ := Aside0.mk (below_step (by repeat (first | (with_reducible first | exact HB.out | apply below_alloc | apply pw_below_drewN | apply below_drew1) | exact HB.out)) hb); clear HB; have HO151 := n0_; have HB := n1_; clear n0_ n1_; (try clear hb); (try clear hb2); (try clear hk); (try clear hi); (try clear ho0)))
          go_ret2
          exact ⟨_, by first | rfl | (simp [errW_none, errW_some] <;> rfl) | (simp [*, errW_none, errW_some] <;> rfl), by (with_reducible repeat (first | apply Kd.R_alloc | apply Kd.R_drewN | apply Kd.R_drew)); exact HO151.out, by repeat (first | (with_reducible first | exact HB.out | apply below_alloc | apply pw_below_drewN | apply below_drew1) | exact HB.out)⟩
       · replace c9 := Bool.eq_false_iff.mpr c9
         subst c9
         have H1 : (some (([] : List C64), false)) = some (r1, r2) := by rw [if_neg (show ¬ (false = true) by decide)] at H; exact H
         clear H
         have H := H1
         clear H1
         as_aux_lemma =>
          simp only [Option.some.injEq, Prod.mk.injEq] at H
          obtain ⟨rfl, rfl⟩ := H
          go_enter Try.func14, Try.ntmps14
          go_wp2_with (first | ((with_reducible refine gate_callee (f := 15) rfl ?_); refine goesL_ (some 9) rfl rfl Try.func15 (by kernel_rfl) rfl #[.slice A0 l0.length c0] rfl (by (try simp only [List.map_toArray, List.map_cons, List.map_nil]); first | done | rfl | (simp only [List.length_drop, List.length_take]; rfl)) ?_; (with_reducible refine (impl_PowersOf.calls k _ _ l0 t144 true _ ?side1 ?side2 A2.out).mono ?_); (case side1 => repeat (first | exact HR0.out | (with_reducible refine Kd.C_alloc ?_ _) | (with_reducible refine Kd.C_drewN ?_ _) | (with_reducible refine Kd.C_drew ?_))); (case side2 => exact HC0.out); rintro e w13 ⟨rfl, hb⟩; refine ⟨_, rfl, ?_⟩; have n0_ := Aside0.mk (below_step (by repeat (first | (with_reducible first | exact HB.out | apply below_alloc | apply pw_below_drewN | apply below_drew1) | exact HB.out)) hb); clear HB; have HB := n0_; clear n0_; (try clear hb); (try clear hb2); (try clear hk); (try clear hi)) | ((with_reducible refine gate_callee (f := 32) rfl ?_); refine goesL_ (some 13) rfl rfl Try.func32 (by kernel_rfl) rfl #[.float .f32 t144] rfl (by (try simp only [List.map_toArray, List.map_cons, List.map_nil]); first | done | rfl | (simp only [List.length_drop, List.length_take]; rfl)) ?_; (with_reducible refine (impl_RootNumber.calls t144 t146 _ A3.out).mono ?_); rintro e w' ⟨rfl, ⟨nd, rfl⟩⟩; refine ⟨_, rfl, ?_⟩) | (go_at_call 27; (with_reducible refine (impl_areWeights.calls _ _ l0 true _ ?side1 ?side2 A6.out).mono ?_); (case side1 => repeat (first | exact (Kd.C_below HR0.out (by repeat (first | (with_reducible first | exact HB.out | apply below_alloc | apply pw_below_drewN | apply below_drew1) | exact HB.out))) | (with_reducible refine Kd.C_alloc ?_ _) | (with_reducible refine Kd.C_drewN ?_ _) | (with_reducible refine Kd.C_drew ?_))); (case side2 => exact HC0.out); rintro e w' ⟨rfl, ⟨nd, rfl⟩⟩) | (go_at_call 33; (with_reducible refine (impl_IsFinite.calls (fq .quo .f32 1065353216 t146) false _ A8.out).mono ?_); rintro e w' ⟨rfl, ⟨nd, rfl⟩⟩))
          go_ret2
          exact ⟨_, by first | rfl | (simp [errW_none, errW_some] <;> rfl) | (simp [*, errW_none, errW_some] <;> rfl), by first | exact Kd.R_nil _ _ _ _ _ | exact Kd.N_nil _ _ _ _ _ | exact Kd.V_nil _ _ _ _ _ | exact Kd.Q_nil _ _ _ _ _ | exact Kd.S_nil _ _ _ _ _, by repeat (first | (with_reducible first | exact HB.out | apply below_alloc | apply pw_below_drewN | apply below_drew1) | exact HB.out)⟩
     · replace c7 := Bool.eq_false_iff.mpr c7
       subst c7
       have H1 : (some (([] : List C64), false)) = some (r1, r2) := by rw [if_neg (show ¬ (false = true) by decide)] at H; exact H
       clear H
       have H := H1
       clear H1
       as_aux_lemma =>
        simp only [Option.some.injEq, Prod.mk.injEq] at H
        obtain ⟨rfl, rfl⟩ := H
        go_enter Try.func14, Try.ntmps14
        go_wp2_with (first | ((with_reducible refine gate_callee (f := 15) rfl ?_); refine goesL_ (some 9) rfl rfl Try.func15 (by kernel_rfl) rfl #[.slice A0 l0.length c0] rfl (by (try simp only [List.map_toArray, List.map_cons, List.map_nil]); first | done | rfl | (simp only [List.length_drop, List.length_take]; rfl)) ?_; (with_reducible refine (impl_PowersOf.calls k _ _ l0 t144 true _ ?side1 ?side2 A2.out).mono ?_); (case side1 => repeat (first | exact HR0.out | (with_reducible refine Kd.C_alloc ?_ _) | (with_reducible refine Kd.C_drewN ?_ _) | (with_reducible refine Kd.C_drew ?_))); (case side2 => exact HC0.out); rintro e w14 ⟨rfl, hb⟩; refine ⟨_, rfl, ?_⟩; have n0_ := Aside0.mk (below_step (by repeat (first | (with_reducible first | exact HB.out | apply below_alloc | apply pw_below_drewN | apply below_drew1) | exact HB.out)) hb); clear HB; have HB := n0_; clear n0_; (try clear hb); (try clear hb2); (try clear hk); (try clear hi)) | ((with_reducible refine gate_callee (f := 32) rfl ?_); refine goesL_ (some 13) rfl rfl Try.func32 (by kernel_rfl) rfl #[.float .f32 t144] rfl (by (try simp only [List.map_toArray, List.map_cons, List.map_nil]); first | done | rfl | (simp only [List.length_drop, List.length_take]; rfl)) ?_; (with_reducible refine (impl_RootNumber.calls t144 t146 _ A3.out).mono ?_); rintro e w' ⟨rfl, ⟨nd, rfl⟩⟩; refine ⟨_, rfl, ?_⟩) | (go_at_call 27; (with_reducible refine (impl_areWeights.calls _ _ l0 false _ ?side1 ?side2 A6.out).mono ?_); (case side1 => repeat (first | exact (Kd.C_below HR0.out (by repeat (first | (with_reducible first | exact HB.out | apply below_alloc | apply pw_below_drewN | apply below_drew1) | exact HB.out))) | (with_reducible refine Kd.C_alloc ?_ _) | (with_reducible refine Kd.C_drewN ?_ _) | (with_reducible refine Kd.C_drew ?_))); (case side2 => exact HC0.out); rintro e w' ⟨rfl, ⟨nd, rfl⟩⟩))
        go_ret2
        exact ⟨_, by first | rfl | (simp [errW_none, errW_some] <;> rfl) | (simp [*, errW_none, errW_some] <;> rfl), by first | exact Kd.R_nil _ _ _ _ _ | exact Kd.N_nil _ _ _ _ _ | exact Kd.V_nil _ _ _ _ _ | exact Kd.Q_nil _ _ _ _ _ | exact Kd.S_nil _ _ _ _ _, by repeat (first | (with_reducible first | exact HB.out | apply below_alloc | apply pw_below_drewN | apply below_drew1) | exact HB.out)⟩
   · replace c5 := Bool.eq_false_iff.mpr c5
     subst c5
     have H1 : (some (([] : List C64), false)) = some (r1, r2) := by rw [if_neg (show ¬ (false = true) by decide)] at H; exact H
     clear H
     have H := H1
     clear H1
     as_aux_lemma =>
      simp only [Option.some.injEq, Prod.mk.injEq] at H
      obtain ⟨rfl, rfl⟩ := H
      go_enter Try.func14, Try.ntmps14
      go_wp2_with (first | ((with_reducible refine gate_callee (f := 15) rfl ?_); refine goesL_ (some 9) rfl rfl Try.func15 (by kernel_rfl) rfl #[.slice A0 l0.length c0] rfl (by (try simp only [List.map_toArray, List.map_cons, List.map_nil]); first | done | rfl | (simp only [List.length_drop, List.length_take]; rfl)) ?_; (with_reducible refine (impl_PowersOf.calls k _ _ l0 t144 false _ ?side1 ?side2 A2.out).mono ?_); (case side1 => repeat (first | exact HR0.out | (with_reducible refine Kd.C_alloc ?_ _) | (with_reducible refine Kd.C_drewN ?_ _) | (with_reducible refine Kd.C_drew ?_))); (case side2 => exact HC0.out); rintro e w15 ⟨rfl, hb⟩; refine ⟨_, rfl, ?_⟩; have n0_ := Aside0.mk (below_step (by repeat (first | (with_reducible first | exact HB.out | apply below_alloc | apply pw_below_drewN | apply below_drew1) | exact HB.out)) hb); clear HB; have HB := n0_; clear n0_; (try clear hb); (try clear hb2); (try clear hk); (try clear hi)) | ((with_reducible refine gate_callee (f := 32) rfl ?_); refine goesL_ (some 13) rfl rfl Try.func32 (by kernel_rfl) rfl #[.float .f32 t144] rfl (by (try simp only [List.map_toArray, List.map_cons, List.map_nil]); first | done | rfl | (simp only [List.length_drop, List.length_take]; rfl)) ?_; (with_reducible refine (impl_RootNumber.calls t144 t146 _ A3.out).mono ?_); rintro e w' ⟨rfl, ⟨nd, rfl⟩⟩; refine ⟨_, rfl, ?_⟩))
      go_ret2
      exact ⟨_, by first | rfl | (simp [errW_none, errW_some] <;> rfl) | (simp [*, errW_none, errW_some] <;> rfl), by first | exact Kd.R_nil _ _ _ _ _ | exact Kd.N_nil _ _ _ _ _ | exact Kd.V_nil _ _ _ _ _ | exact Kd.Q_nil _ _ _ _ _ | exact Kd.S_nil _ _ _ _ _, by repeat (first | (with_reducible first | exact HB.out | apply below_alloc | apply pw_below_drewN | apply below_drew1) | exact HB.out)⟩
 · rw [if_neg c4] at H
   exact absurd H (by simp)

/-! ### laws_r8Gap: function 16 -/
-- quiet
/-- The greater of two doubles; none if one is no number. -/
def fmax (x y : Nat) : Option Nat := match FloatKind.f64.format.order x y with
  | none => none
  | some .lt => some y
  | some .gt => some x
  | some .eq => some (if (FloatKind.f64.decode x).neg then y else x)
theorem run_fmax {x y r : Nat} (h : fmax x y = some r) (W : World) : (Builtin.max2 (.float .f64 x) (.float .f64 y)).run Try.prog W = .ok (.float .f64 r) W := by
  have he : Builtin.max2 (.float .f64 x) (.float .f64 y) = pure (.float .f64 r) := by
    unfold Builtin.max2
    unfold fmax at h
    cases ho : FloatKind.f64.format.order x y with
    | none => rw [ho] at h; cases h
    | some o =>
      rw [ho] at h
      cases o <;> (simp only [ho]; rw [Option.some.inj h])
  rw [he]
  rfl
def laws_r8Gap.f (a0 a1 : Nat) : Option Nat := if FOk .sub .f64 a0 a1 = true then (if FOk .sub .f64 a1 a0 = true then fmax (fq .sub .f64 a0 a1) (fq .sub .f64 a1 a0) else none) else none
set_option maxRecDepth 100000 in
theorem laws_r8Gap.calls (a0 : Nat) (a1 : Nat) (r : Nat) (w : World) (h : laws_r8Gap.f a0 a1 = some r) :
    Calls Try.prog 16 #[.float .f64 a0, .float .f64 a1] w fun e w' => e = .returned (.float .f64 r) ∧ Drawn0 w w' := by
  unfold laws_r8Gap.f at h
  by_cases c1 : FOk .sub .f64 a0 a1 = true
  · rw [if_pos c1] at h
    by_cases c2 : FOk .sub .f64 a1 a0 = true
    · rw [if_pos c2] at h
      have f1 := fun t w => frun (P := Try.prog) c1 t w
      have f2 := fun t w => frun (P := Try.prog) c2 t w
      have hd := fun W => run_fmax h W
      go_enter Try.func16, Try.ntmps16
      go_wp2
      go_ret
      exact ⟨rfl, ⟨⟨0, rfl⟩⟩⟩
    · rw [if_neg c2] at h
      cases h
  · rw [if_neg c1] at h
    cases h

/-! ### impl_WithoutElements: function 17 -/
def impl_WithoutElements.l0 : Nat → List C64 → List Int → List C64 → List Int → Int → Int → Option (List C64 × Bool)
 | 0, _, _, _, _, _, _ => none
 | k + 1, x0, x1, x6, x15, x16, x17 => if x17 < x16 then (if 0 ≤ x17 then (if x17 < (x15.length : Int) then ((impl_within.f (rd x15 x17) 0 (wrap64 ((x0.length : Int) - 1))).bind fun t160 => (if t160 = true then (if x17 > 0 then (if 0 ≤ (wrap64 (x17 - 1)) then (if (wrap64 (x17 - 1)) < (x1.length : Int) then (if (rd x15 x17) ≤ (rd x1 (wrap64 (x17 - 1))) then (some (([] : List C64), false)) else (if 0 ≤ (rd x15 x17) then (if (rd x15 x17) < (x6.length : Int) then (impl_WithoutElements.l0 k x0 x1 (x6.set ((rd x15 x17) : Int).toNat (⟨0, 0⟩ : C64)) x15 x16 (wrap64 (x17 + 1))) else (none)) else (none))) else (none)) else (none)) else (if 0 ≤ (rd x15 x17) then (if (rd x15 x17) < (x6.length : Int) then (impl_WithoutElements.l0 k x0 x1 (x6.set ((rd x15 x17) : Int).toNat (⟨0, 0⟩ : C64)) x15 x16 (wrap64 (x17 + 1))) else (none)) else (none))) else (some (([] : List C64), false)))) else (none)) else (none)) else (some (x6, true))
def impl_WithoutElements.f (k : Nat) (l0 : List C64) (l1 : List Int) : Option (List C64 × Bool) := (impl_areWeights.f l0).bind fun t152 => (if t152 = true then ((some (([] : List C64) : List C64)).bind fun y153 => (if y153.length + l0.length < 17592186044416 then (impl_WithoutElements.l0 k l0 l1 (y153 ++ l0) l1 (l1.length : Int) 0) else (none))) else (some (([] : List C64), false)))
theorem impl_WithoutElements.mono_l : ∀ k, (∀ y0 y1 y2 y3 y4 y5, LeO (impl_WithoutElements.l0 k y0 y1 y2 y3 y4 y5) (impl_WithoutElements.l0 (k + 1) y0 y1 y2 y3 y4 y5))
 | 0 => fun _ _ _ _ _ _ r h => by simp [impl_WithoutElements.l0] at h
 | k + 1 => by
  have ih0 := impl_WithoutElements.mono_l k
  · intro y0 y1 y2 y3 y4 y5
    unfold impl_WithoutElements.l0
    repeat' first
    | (with_reducible exact ih0 _ _ _ _ _ _)
    | (with_reducible exact LeO.refl _)
    | (with_reducible exact LeO.none _)
    | (with_reducible refine LeO.ite ?_ ?_)
    | (with_reducible refine LeO.bind ?_ (fun _ => ?_))
    | exact ih0 _ _ _ _ _ _
    | exact LeO.none _
    | refine LeO.ite ?_ ?_
    | refine LeO.bind ?_ (fun _ => ?_)
theorem impl_WithoutElements.mono : ∀ a0 a1 k, LeO (impl_WithoutElements.f k a0 a1) (impl_WithoutElements.f (k + 1) a0 a1) := by
 intro a0 a1 k
 have ih0 := impl_WithoutElements.mono_l k
 unfold impl_WithoutElements.f
 repeat' first
  | (with_reducible exact ih0 _ _ _ _ _ _)
  | (with_reducible exact LeO.refl _)
  | (with_reducible exact LeO.none _)
  | (with_reducible refine LeO.ite ?_ ?_)
  | (with_reducible refine LeO.bind ?_ (fun _ => ?_))
  | exact ih0 _ _ _ _ _ _
  | exact LeO.none _
  | refine LeO.ite ?_ ?_
  | refine LeO.bind ?_ (fun _ => ?_)
set_option maxHeartbeats 8000000 in
set_option maxRecDepth 100000 in
theorem impl_WithoutElements.calls (k : Nat) (A0 : Option Addr) (c0 : Nat) (l0 : List C64) (A1 : Option Addr) (c1 : Nat) (l1 : List Int) (r1 : List C64) (r2 : Bool) (w : World) (hr0 : Kd.C Kd.c64 w A0 l0.length l0) (hc0 : l0.length ≤ c0) (hr1 : Kd.C (Kd.int .i64) w A1 l1.length l1) (hc1 : l1.length ≤ c1) (h : impl_WithoutElements.f k l0 l1 = some (r1, r2)) :
 Calls Try.prog 17 #[.slice A0 l0.length c0, .slice A1 l1.length c1] w fun e w' => ∃ v0_ : Value, e = .returned (.tuple #[v0_, .bool r2]) ∧ Kd.R Kd.c64 30 w' w.heap.size (fun _ => True) v0_ r1 ∧ Below w.heap.size w w' := by
 have HR0 := Aside0.mk hr0
 have HC0 := Aside0.mk hc0
 clear hr0 hc0
 have HR1 := Aside0.mk hr1
 have HC1 := Aside0.mk hc1
 clear hr1 hc1
 have HB := Aside0.mk (Below.refl w.heap.size w)
 have H : ((impl_areWeights.f l0).bind fun t152 => (if t152 = true then ((some (([] : List C64) : List C64)).bind fun y153 => (if y153.length + l0.length < 17592186044416 then (impl_WithoutElements.l0 k l0 l1 (y153 ++ l0) l1 (l1.length : Int) 0) else (none))) else (some (([] : List C64), false)))) = some (r1, r2) := h
 clear h
 replace H := Option.bind_eq_some_iff.mp H
 obtain ⟨t152, A30, H⟩ := H
 replace H : (if t152 = true then ((some (([] : List C64) : List C64)).bind fun y153 => (if y153.length + l0.length < 17592186044416 then (impl_WithoutElements.l0 k l0 l1 (y153 ++ l0) l1 (l1.length : Int) 0) else (none))) else (some (([] : List C64), false))) = some (r1, r2) := H
 have A3 := Aside0.mk A30
 clear A30
 by_cases c4 : t152 = true
 · subst c4
   have H1 : ((some (([] : List C64) : List C64)).bind fun y153 => (if y153.length + l0.length < 17592186044416 then (impl_WithoutElements.l0 k l0 l1 (y153 ++ l0) l1 (l1.length : Int) 0) else (none))) = some (r1, r2) := by rw [if_pos rfl] at H; exact H
   clear H
   have H := H1
   clear H1
   obtain ⟨y153, hy153⟩ : ∃ y_ : List C64, y_ = (([] : List C64)) := ⟨_, rfl⟩
   replace H : (if y153.length + l0.length < 17592186044416 then (impl_WithoutElements.l0 k l0 l1 (y153 ++ l0) l1 (l1.length : Int) 0) else (none)) = some (r1, r2) := by first | (rw [hy153]; with_reducible exact H) | (have H2_ := (Option.bind_some _ _).symm.trans H; rw [hy153]; with_reducible exact H2_) | (have H2_ := (Option.bind_some _ _).symm.trans H; with_reducible exact H2_) | with_reducible exact H | (rw [hy153]; exact H) | exact H
   have Ny153 := Aside0.mk hy153
   clear hy153
   by_cases c5 : y153.length + l0.length < 17592186044416
   · rw [if_pos c5] at H
     have LMc5 := Aside0.mk c5
     clear c5
     obtain ⟨y156, hy156⟩ : ∃ y_ : List C64, y_ = (y153 ++ l0) := ⟨_, rfl⟩
     replace H : (impl_WithoutElements.l0 k l0 l1 y156 l1 (l1.length : Int) 0) = some (r1, r2) := by first | (rw [hy156]; with_reducible exact H) | (have H2_ := (Option.bind_some _ _).symm.trans H; rw [hy156]; with_reducible exact H2_) | (have H2_ := (Option.bind_some _ _).symm.trans H; with_reducible exact H2_) | with_reducible exact H | (rw [hy156]; exact H) | exact H
     have Ny156 := Aside0.mk hy156
     clear hy156
     have H' := Aside0.mk H
     clear H
     go_enter Try.func17, Try.ntmps17
     go_wp2_with (first | ((with_reducible refine gate_callee (f := 27) rfl ?_); refine goesL_ (some 10) rfl rfl Try.func27 (by kernel_rfl) rfl #[.slice A0 l0.length c0] rfl (by (try simp only [List.map_toArray, List.map_cons, List.map_nil]); first | done | rfl | (simp only [List.length_drop, List.length_take]; rfl)) ?_; (with_reducible refine (impl_areWeights.calls _ _ l0 true _ ?side1 ?side2 A3.out).mono ?_); (case side1 => repeat (first | exact HR0.out | (with_reducible refine Kd.C_alloc ?_ _) | (with_reducible refine Kd.C_drewN ?_ _) | (with_reducible refine Kd.C_drew ?_))); (case side2 => exact HC0.out); rintro e w' ⟨rfl, ⟨nd, rfl⟩⟩; refine ⟨_, rfl, ?_⟩) | ((with_reducible refine gate_dst (N := 12) rfl ?_); refine Kd.R_lit Kd.c64 _ 30 ?hg (N := 12) ?hd (xs := ([] : List C64)) (inner := []) (ok := fun _ => True) (okp := fun _ => True) ?hr ?hp (fun _ hk => hk) trivial (Below.refl _ _) (Nat.le_refl _) (by simp) ?_; (case hd => rfl); (case hg => rfl); (case hr => first | (go_simp; done) | (go_simp; rfl)); (case hp => exact (Reps.none _ _)); intro v154 w6 ho7 hb hg_ hnew_; clear hg_ hnew_; (first | rw [← Ny153.out] at ho7 | (simp only [Int.reduceToNat] at ho7; rw [← Ny153.out] at ho7)); have n0_ := Aside0.mk (Kd.R_lower ho7 (below_size (by repeat (first | (with_reducible first | exact HB.out | apply below_alloc | apply pw_below_drewN | apply below_drew1) | exact HB.out)))); have n1_ := Aside0.mk (below_step (by repeat (first | (with_reducible first | exact HB.out | apply below_alloc | apply pw_below_drewN | apply below_drew1) | exact HB.out)) hb); clear HB; have HO155 := n0_; have HB := n1_; clear n0_ n1_; clear hb ho7) | ((with_reducible refine gate_builtin (b := .append) (xs := #[.tmp 12, .tmp 13]) rfl ?_); at_builtin; refine Kd.R_append_rows Kd.c64 (w0 := w) w.heap.size rfl (.tmp 12) (.tmp 13) 24 30 (.complex .f32 0 0) 8 rfl Try.underlying24 info30 rfl (by decide) (by omega) v154 y153 l0 _ _ _ (fun _ => True) (fun _ => False) rfl rfl ?aO ?aR (fun _ _ h => h) (fun _ h => h.elim) ?aF ?aB ?aS ?aL ?_; (case aR => repeat (first | exact (Kd.C_below HR0.out HB.out) | (with_reducible refine Kd.C_alloc ?_ _) | (with_reducible refine Kd.C_drewN ?_ _) | (with_reducible refine Kd.C_drew ?_))); (case aB => exact (by repeat (first | (with_reducible first | exact HB.out | apply below_alloc | apply pw_below_drewN | apply below_drew1) | exact HB.out))); (case aF => exact (fun _ _ => trivial)); (case aO => exact (by (with_reducible repeat (first | apply Kd.R_alloc | apply Kd.R_drewN | apply Kd.R_drew)); exact HO155.out)); (case aS => exact (below_size (by repeat (first | (with_reducible first | exact HB.out | apply below_alloc | apply pw_below_drewN | apply below_drew1) | exact HB.out)))); (case aL => have := LMc5.out; omega); intro v157 w8 ho hb hg hat; rw [← Ny156.out] at ho; have n0_ := Aside0.mk (hb); have n1_ := Aside0.mk (ho); clear HB; clear HO155; have HB := n0_; have HO158 := n1_; clear n0_ n1_; clear ho hb hg hat))
     go_loopg [17] k (fun kq v17 w' => ∃ (x6_1 : List C64) (x17_1 : Int), v17 = .int .i64 x17_1 ∧ Aside0 (impl_WithoutElements.l0 kq l0 l1 x6_1 l1 (l1.length : Int) x17_1 = some (r1, r2)) ∧ Aside0 (kq ≤ k) ∧ Aside0 (Kd.R Kd.c64 30 w' w.heap.size (fun _ => True) v157 x6_1) ∧ Aside0 (Below w.heap.size w w'))
     case atStart => exact ⟨(y156), (0), (by first | rfl | (simp; done) | (simp [*]; done)), H', ⟨Nat.le_refl _⟩, ⟨by (with_reducible repeat (first | apply Kd.R_alloc | apply Kd.R_drewN | apply Kd.R_drew)); exact HO158.out⟩, ⟨by repeat (first | (with_reducible first | exact HB.out | apply below_alloc | apply pw_below_drewN | apply below_drew1) | exact HB.out)⟩⟩
     case round =>
      clear H'
      (try clear c1); (try clear c2); (try clear p2); (try clear c4); (try clear c5); (try clear c6)
      obtain ⟨x6_1, x17_1, rfl, HA, HK1, HO_6, HB⟩ := hrel
      cases gk with
      | zero => exact absurd HA.out (by simp [impl_WithoutElements.l0])
      | succ k1 =>
       have H := HA.out
       clear HA
       simp only [impl_WithoutElements.l0] at H
       by_cases c9 : x17_1 < (l1.length : Int)
       · rw [if_pos c9] at H
         have c9b0 : decide (x17_1 < (l1.length : Int)) = true := decide_eq_true c9
         clear c9
         by_cases c10 : 0 ≤ x17_1
         · rw [if_pos c10] at H
           have c10b0 : decide (0 ≤ x17_1) = true := decide_eq_true c10
           clear c10
           by_cases c11 : x17_1 < (l1.length : Int)
           · rw [if_pos c11] at H
             have c11b0 : decide (x17_1 < (l1.length : Int)) = true := decide_eq_true c11
             clear c11
             replace H := Option.bind_eq_some_iff.mp H
             obtain ⟨t160, A120, H⟩ := H
             replace H : (if t160 = true then (if x17_1 > 0 then (if 0 ≤ (wrap64 (x17_1 - 1)) then (if (wrap64 (x17_1 - 1)) < (l1.length : Int) then (if (rd l1 x17_1) ≤ (rd l1 (wrap64 (x17_1 - 1))) then (some (([] : List C64), false)) else (if 0 ≤ (rd l1 x17_1) then (if (rd l1 x17_1) < (x6_1.length : Int) then (impl_WithoutElements.l0 k1 l0 l1 (x6_1.set ((rd l1 x17_1) : Int).toNat (⟨0, 0⟩ : C64)) l1 (l1.length : Int) (wrap64 (x17_1 + 1))) else (none)) else (none))) else (none)) else (none)) else (if 0 ≤ (rd l1 x17_1) then (if (rd l1 x17_1) < (x6_1.length : Int) then (impl_WithoutElements.l0 k1 l0 l1 (x6_1.set ((rd l1 x17_1) : Int).toNat (⟨0, 0⟩ : C64)) l1 (l1.length : Int) (wrap64 (x17_1 + 1))) else (none)) else (none))) else (some (([] : List C64), false))) = some (r1, r2) := H
             have A12 := Aside0.mk A120
             clear A120
             by_cases c13 : t160 = true
             · subst c13
               have H1 : (if x17_1 > 0 then (if 0 ≤ (wrap64 (x17_1 - 1)) then (if (wrap64 (x17_1 - 1)) < (l1.length : Int) then (if (rd l1 x17_1) ≤ (rd l1 (wrap64 (x17_1 - 1))) then (some (([] : List C64), false)) else (if 0 ≤ (rd l1 x17_1) then (if (rd l1 x17_1) < (x6_1.length : Int) then (impl_WithoutElements.l0 k1 l0 l1 (x6_1.set ((rd l1 x17_1) : Int).toNat (⟨0, 0⟩ : C64)) l1 (l1.length : Int) (wrap64 (x17_1 + 1))) else (none)) else (none))) else (none)) else (none)) else (if 0 ≤ (rd l1 x17_1) then (if (rd l1 x17_1) < (x6_1.length : Int) then (impl_WithoutElements.l0 k1 l0 l1 (x6_1.set ((rd l1 x17_1) : Int).toNat (⟨0, 0⟩ : C64)) l1 (l1.length : Int) (wrap64 (x17_1 + 1))) else (none)) else (none))) = some (r1, r2) := by rw [if_pos rfl] at H; exact H
               clear H
               have H := H1
               clear H1
               by_cases c14 : x17_1 > 0
               · rw [if_pos c14] at H
                 have c14b0 : decide (0 < x17_1) = true := decide_eq_true c14
                 clear c14
                 obtain ⟨ji15, hji15⟩ : ∃ j_ : Int, (wrap64 (x17_1 - 1)) = j_ := ⟨_, rfl⟩
                 replace H : (if 0 ≤ (ji15) then (if (ji15) < (l1.length : Int) then (if (rd l1 x17_1) ≤ (rd l1 (ji15)) then (some (([] : List C64), false)) else (if 0 ≤ (rd l1 x17_1) then (if (rd l1 x17_1) < (x6_1.length : Int) then (impl_WithoutElements.l0 k1 l0 l1 (x6_1.set ((rd l1 x17_1) : Int).toNat (⟨0, 0⟩ : C64)) l1 (l1.length : Int) (wrap64 (x17_1 + 1))) else (none)) else (none))) else (none)) else (none)) = some (r1, r2) := by first | (rw [hji15] at H; exact H) | (simp only [hji15] at H ⊢; exact H)
                 (try rw [hji15] at A12)
                 have hji15w : (IntKind.i64.wrap (x17_1 - 1)) = ji15 := (i64_w _).trans hji15
                 by_cases c16 : 0 ≤ (ji15)
                 · rw [if_pos c16] at H
                   have c16b0 : decide (0 ≤ (ji15)) = true := decide_eq_true c16
                   clear c16
                   by_cases c17 : (ji15) < (l1.length : Int)
                   · rw [if_pos c17] at H
                     have c17b0 : decide ((ji15) < (l1.length : Int)) = true := decide_eq_true c17
                     clear c17
                     by_cases c18 : (rd l1 x17_1) ≤ (rd l1 (ji15))
                     · rw [if_pos c18] at H
                       have c18b0 : decide ((rd l1 x17_1) ≤ (rd l1 (ji15))) = true := decide_eq_true c18
                       clear c18
                       as_aux_lemma =>
                        simp only [Option.some.injEq, Prod.mk.injEq] at H
                        obtain ⟨rfl, rfl⟩ := H
                        have p159 : 0 ≤ (x17_1 : Int) := of_decide_eq_true (by first | (with_reducible assumption) | assumption)
                        have q159 : x17_1 < (l1.length : Int) := of_decide_eq_true (by first | (with_reducible assumption) | assumption)
                        obtain ⟨ad159, e159, hx159_0⟩ := Kd.at_int HR1.out x17_1 p159 q159
                        cases e159
                        replace hx159_0 := (HB.out.cell (World.block_lt_of_cell? w _ hx159_0)).trans hx159_0
                        replace p159 := eq_true p159
                        replace q159 := eq_true q159
                        go_wp2_with (first | ((with_reducible refine gate_callee (f := 36) rfl ?_); refine goesL_ (some 26) rfl rfl Try.func36 (by kernel_rfl) rfl #[.int .i64 (rd l1 x17_1), .int .i64 0, .int .i64 (wrap64 ((l0.length : Int) - 1))] rfl (by (try simp only [List.map_toArray, List.map_cons, List.map_nil]); first | done | rfl | (simp only [List.length_drop, List.length_take]; rfl)) ?_; (with_reducible refine (impl_within.calls (rd l1 x17_1) 0 (wrap64 ((l0.length : Int) - 1)) true _ A12.out).mono ?_); rintro e w' ⟨rfl, ⟨nd, rfl⟩⟩; refine ⟨_, rfl, ?_⟩; have p161 : 0 ≤ ((ji15) : Int) := of_decide_eq_true (by first | (with_reducible assumption) | assumption); have q161 : (ji15) < (l1.length : Int) := of_decide_eq_true (by first | (with_reducible assumption) | assumption); obtain ⟨ad161, e161, hx161_0⟩ := Kd.at_int HR1.out (ji15) p161 q161; obtain rfl : ad159 = ad161 := (by injection e161); replace hx161_0 := (HB.out.cell (World.block_lt_of_cell? w _ hx161_0)).trans hx161_0; replace p161 := eq_true p161; replace q161 := eq_true q161))
                        go_ret2
                        exact ⟨_, by first | rfl | (simp [errW_none, errW_some] <;> rfl) | (simp only [← hji15]; first | rfl | (simp [errW_none, errW_some] <;> rfl)) | (simp [*, errW_none, errW_some] <;> rfl), by first | exact Kd.R_nil _ _ _ _ _ | exact Kd.N_nil _ _ _ _ _ | exact Kd.V_nil _ _ _ _ _ | exact Kd.Q_nil _ _ _ _ _ | exact Kd.S_nil _ _ _ _ _, by repeat (first | (with_reducible first | exact HB.out | apply below_alloc | apply pw_below_drewN | apply below_drew1) | exact HB.out)⟩
                     · rw [if_neg c18] at H
                       have c18b0 : decide ((rd l1 x17_1) ≤ (rd l1 (ji15))) = false := decide_eq_false c18
                       clear c18
                       by_cases c19 : 0 ≤ (rd l1 x17_1)
                       · rw [if_pos c19] at H
                         have c19b0 : decide (0 ≤ (rd l1 x17_1)) = true := decide_eq_true c19
                         clear c19
                         by_cases c20 : (rd l1 x17_1) < (x6_1.length : Int)
                         · rw [if_pos c20] at H
                           have c20b0 : decide ((rd l1 x17_1) < (x6_1.length : Int)) = true := decide_eq_true c20
                           clear c20
                           obtain ⟨y162, hy162⟩ : ∃ y_ : List C64, y_ = (x6_1.set ((rd l1 x17_1) : Int).toNat (⟨0, 0⟩ : C64)) := ⟨_, rfl⟩
                           replace H : (impl_WithoutElements.l0 k1 l0 l1 y162 l1 (l1.length : Int) (wrap64 (x17_1 + 1))) = some (r1, r2) := by first | (rw [hy162]; with_reducible exact H) | (have H2_ := (Option.bind_some _ _).symm.trans H; rw [hy162]; with_reducible exact H2_) | (have H2_ := (Option.bind_some _ _).symm.trans H; with_reducible exact H2_) | with_reducible exact H | (rw [hy162]; exact H) | exact H
                           have Ny162 := Aside0.mk hy162
                           clear hy162
                           as_aux_lemma =>
                            have H' := Aside0.mk H
                            clear H
                            have p159 : 0 ≤ (x17_1 : Int) := of_decide_eq_true (by first | (with_reducible assumption) | assumption)
                            have q159 : x17_1 < (l1.length : Int) := of_decide_eq_true (by first | (with_reducible assumption) | assumption)
                            obtain ⟨ad159, e159, hx159_0⟩ := Kd.at_int HR1.out x17_1 p159 q159
                            cases e159
                            replace hx159_0 := (HB.out.cell (World.block_lt_of_cell? w _ hx159_0)).trans hx159_0
                            replace p159 := eq_true p159
                            replace q159 := eq_true q159
                            go_wp2_with (first | ((with_reducible refine gate_callee (f := 36) rfl ?_); refine goesL_ (some 26) rfl rfl Try.func36 (by kernel_rfl) rfl #[.int .i64 (rd l1 x17_1), .int .i64 0, .int .i64 (wrap64 ((l0.length : Int) - 1))] rfl (by (try simp only [List.map_toArray, List.map_cons, List.map_nil]); first | done | rfl | (simp only [List.length_drop, List.length_take]; rfl)) ?_; (with_reducible refine (impl_within.calls (rd l1 x17_1) 0 (wrap64 ((l0.length : Int) - 1)) true _ A12.out).mono ?_); rintro e w' ⟨rfl, ⟨nd, rfl⟩⟩; refine ⟨_, rfl, ?_⟩; (try (rw [drewN_self wr]; generalize hq_ : World.drewN wr _ = wr; have n0_ : Aside0 (Kd.R Kd.c64 30 wr w.heap.size (fun _ => True) v157 x6_1) := ⟨by rw [← hq_]; exact (by (with_reducible repeat (first | apply Kd.R_alloc | apply Kd.R_drewN | apply Kd.R_drew)); exact HO_6.out)⟩; have n1_ : Aside0 (Below w.heap.size w wr) := ⟨by rw [← hq_]; exact (by repeat (first | (with_reducible first | exact HB.out | apply below_alloc | apply pw_below_drewN | apply below_drew1) | exact HB.out))⟩; clear HO_6 HB hq_; have HO_6 := n0_; have HB := n1_; clear n0_ n1_)); have p161 : 0 ≤ ((ji15) : Int) := of_decide_eq_true (by first | (with_reducible assumption) | assumption); have q161 : (ji15) < (l1.length : Int) := of_decide_eq_true (by first | (with_reducible assumption) | assumption); obtain ⟨ad161, e161, hx161_0⟩ := Kd.at_int HR1.out (ji15) p161 q161; obtain rfl : ad159 = ad161 := (by injection e161); replace hx161_0 := (HB.out.cell (World.block_lt_of_cell? w _ hx161_0)).trans hx161_0; replace p161 := eq_true p161; replace q161 := eq_true q161; have p21 : 0 ≤ ((rd l1 x17_1) : Int) := of_decide_eq_true (by first | (with_reducible assumption) | assumption); have q21 : ((rd l1 x17_1) : Int) < ((x6_1.length : Int) : Int) := of_decide_eq_true (by first | (with_reducible assumption) | assumption); obtain ⟨go21, co21, eo21, gb21, gl21, cl21, HG21⟩ := Kd.R_form HO_6.out (by omega); (first | cases eo21 | (injection eo21 with ea_ en_ ec_; (first | subst ea_ | (injection ea_ with ea_; subst ea_)); subst ec_; clear en_)); have GB21 := Aside0.mk gb21; have GG21 := Aside0.mk HG21; clear gb21 gl21 HG21; obtain ⟨hx21_0, hf21_0⟩ := Kd.R_celln c64z HO_6.out ((rd l1 x17_1) : Int) p21 q21; replace p21 := eq_true p21; replace q21 := eq_true q21; obtain ⟨hy22_, hz22_⟩ := Kd.R_celln c64z HO_6.out ((rd l1 x17_1) : Int) (of_decide_eq_true (by first | (with_reducible assumption) | assumption)) (of_decide_eq_true (by first | (with_reducible assumption) | assumption)); have HP22 := Kd.R_putg HO_6.out ((rd l1 x17_1) : Int) (⟨0, 0⟩ : C64)) | ((with_reducible refine gate_store (t := 30) (p := 43) rfl ?_); refine store_event (t := 30) (p := 43) (v := ?vo_w23) (w1 := (wr.setCell ⟨go21, ((rd l1 x17_1) : Int).toNat, none⟩ (.complex .f32 0 0))) ?hg ?ho ?hn ?hr ?_; (case ho => rfl); (case hg => rfl); (case hn => rfl); (case hr => first | (go_simp; done) | (go_simp; rfl)); intro w23 hw; have hg : wr.grownBy w23 (some go21) := (by rw [hw]; exact HP22.2); have hp_ : Kd.R Kd.c64 30 w23 w.heap.size (fun _ => True) (.slice (some ⟨go21, 0, none⟩) x6_1.length co21) y162 := (by rw [hw, Ny162.out]; exact HP22.1); clear HP22; have n0_ := Aside0.mk (hp_); have n1_ := Aside0.mk ((by rw [hw]; exact below_set (HB.out) GB21.out : Below w.heap.size w w23)); clear HO_6; clear HB; have HO_6 := n0_; have HB := n1_; clear n0_ n1_; clear hg hw hp_))
                            go_roundg k1
                            case measure => have := HK1.out; omega
                            case rel => exact ⟨(y162), (wrap64 (x17_1 + 1)), (by first | rfl | (simp; done) | (simp [*]; done)), H', ⟨by have := HK1.out; omega⟩, ⟨by (with_reducible repeat (first | apply Kd.R_alloc | apply Kd.R_drewN | apply Kd.R_drew)); exact HO_6.out⟩, ⟨by repeat (first | (with_reducible first | exact HB.out | apply below_alloc | apply pw_below_drewN | apply below_drew1) | exact HB.out)⟩⟩
                         · rw [if_neg c20] at H
                           exact absurd H (by simp)
                       · rw [if_neg c19] at H
                         exact absurd H (by simp)
                   · rw [if_neg c17] at H
                     exact absurd H (by simp)
                 · rw [if_neg c16] at H
                   exact absurd H (by simp)
               · rw [if_neg c14] at H
                 have c14b0 : decide (0 < x17_1) = false := decide_eq_false c14
                 clear c14
                 by_cases c24 : 0 ≤ (rd l1 x17_1)
                 · rw [if_pos c24] at H
                   have c24b0 : decide (0 ≤ (rd l1 x17_1)) = true := decide_eq_true c24
                   clear c24
                   by_cases c25 : (rd l1 x17_1) < (x6_1.length : Int)
                   · rw [if_pos c25] at H
                     have c25b0 : decide ((rd l1 x17_1) < (x6_1.length : Int)) = true := decide_eq_true c25
                     clear c25
                     obtain ⟨y163, hy163⟩ : ∃ y_ : List C64, y_ = (x6_1.set ((rd l1 x17_1) : Int).toNat (⟨0, 0⟩ : C64)) := ⟨_, rfl⟩
                     replace H : (impl_WithoutElements.l0 k1 l0 l1 y163 l1 (l1.length : Int) (wrap64 (x17_1 + 1))) = some (r1, r2) := by first | (rw [hy163]; with_reducible exact H) | (have H2_ := (Option.bind_some _ _).symm.trans H; rw [hy163]; with_reducible exact H2_) | (have H2_ := (Option.bind_some _ _).symm.trans H; with_reducible exact H2_) | with_reducible exact H | (rw [hy163]; exact H) | exact H
                     have Ny163 := Aside0.mk hy163
                     clear hy163
                     as_aux_lemma =>
                      have H' := Aside0.mk H
                      clear H
                      have p159 : 0 ≤ (x17_1 : Int) := of_decide_eq_true (by first | (with_reducible assumption) | assumption)
                      have q159 : x17_1 < (l1.length : Int) := of_decide_eq_true (by first | (with_reducible assumption) | assumption)
                      obtain ⟨ad159, e159, hx159_0⟩ := Kd.at_int HR1.out x17_1 p159 q159
                      cases e159
                      replace hx159_0 := (HB.out.cell (World.block_lt_of_cell? w _ hx159_0)).trans hx159_0
                      replace p159 := eq_true p159
                      replace q159 := eq_true q159
                      go_wp2_with (first | ((with_reducible refine gate_callee (f := 36) rfl ?_); refine goesL_ (some 26) rfl rfl Try.func36 (by kernel_rfl) rfl #[.int .i64 (rd l1 x17_1), .int .i64 0, .int .i64 (wrap64 ((l0.length : Int) - 1))] rfl (by (try simp only [List.map_toArray, List.map_cons, List.map_nil]); first | done | rfl | (simp only [List.length_drop, List.length_take]; rfl)) ?_; (with_reducible refine (impl_within.calls (rd l1 x17_1) 0 (wrap64 ((l0.length : Int) - 1)) true _ A12.out).mono ?_); rintro e w' ⟨rfl, ⟨nd, rfl⟩⟩; refine ⟨_, rfl, ?_⟩; (try (rw [drewN_self wr]; generalize hq_ : World.drewN wr _ = wr; have n0_ : Aside0 (Kd.R Kd.c64 30 wr w.heap.size (fun _ => True) v157 x6_1) := ⟨by rw [← hq_]; exact (by (with_reducible repeat (first | apply Kd.R_alloc | apply Kd.R_drewN | apply Kd.R_drew)); exact HO_6.out)⟩; have n1_ : Aside0 (Below w.heap.size w wr) := ⟨by rw [← hq_]; exact (by repeat (first | (with_reducible first | exact HB.out | apply below_alloc | apply pw_below_drewN | apply below_drew1) | exact HB.out))⟩; clear HO_6 HB hq_; have HO_6 := n0_; have HB := n1_; clear n0_ n1_)); have p26 : 0 ≤ ((rd l1 x17_1) : Int) := of_decide_eq_true (by first | (with_reducible assumption) | assumption); have q26 : ((rd l1 x17_1) : Int) < ((x6_1.length : Int) : Int) := of_decide_eq_true (by first | (with_reducible assumption) | assumption); obtain ⟨go26, co26, eo26, gb26, gl26, cl26, HG26⟩ := Kd.R_form HO_6.out (by omega); (first | cases eo26 | (injection eo26 with ea_ en_ ec_; (first | subst ea_ | (injection ea_ with ea_; subst ea_)); subst ec_; clear en_)); have GB26 := Aside0.mk gb26; have GG26 := Aside0.mk HG26; clear gb26 gl26 HG26; obtain ⟨hx26_0, hf26_0⟩ := Kd.R_celln c64z HO_6.out ((rd l1 x17_1) : Int) p26 q26; replace p26 := eq_true p26; replace q26 := eq_true q26; obtain ⟨hy27_, hz27_⟩ := Kd.R_celln c64z HO_6.out ((rd l1 x17_1) : Int) (of_decide_eq_true (by first | (with_reducible assumption) | assumption)) (of_decide_eq_true (by first | (with_reducible assumption) | assumption)); have HP27 := Kd.R_putg HO_6.out ((rd l1 x17_1) : Int) (⟨0, 0⟩ : C64)) | ((with_reducible refine gate_store (t := 30) (p := 43) rfl ?_); refine store_event (t := 30) (p := 43) (v := ?vo_w28) (w1 := (wr.setCell ⟨go26, ((rd l1 x17_1) : Int).toNat, none⟩ (.complex .f32 0 0))) ?hg ?ho ?hn ?hr ?_; (case ho => rfl); (case hg => rfl); (case hn => rfl); (case hr => first | (go_simp; done) | (go_simp; rfl)); intro w28 hw; have hg : wr.grownBy w28 (some go26) := (by rw [hw]; exact HP27.2); have hp_ : Kd.R Kd.c64 30 w28 w.heap.size (fun _ => True) (.slice (some ⟨go26, 0, none⟩) x6_1.length co26) y163 := (by rw [hw, Ny163.out]; exact HP27.1); clear HP27; have n0_ := Aside0.mk (hp_); have n1_ := Aside0.mk ((by rw [hw]; exact below_set (HB.out) GB26.out : Below w.heap.size w w28)); clear HO_6; clear HB; have HO_6 := n0_; have HB := n1_; clear n0_ n1_; clear hg hw hp_))
                      go_roundg k1
                      case measure => have := HK1.out; omega
                      case rel => exact ⟨(y163), (wrap64 (x17_1 + 1)), (by first | rfl | (simp; done) | (simp [*]; done)), H', ⟨by have := HK1.out; omega⟩, ⟨by (with_reducible repeat (first | apply Kd.R_alloc | apply Kd.R_drewN | apply Kd.R_drew)); exact HO_6.out⟩, ⟨by repeat (first | (with_reducible first | exact HB.out | apply below_alloc | apply pw_below_drewN | apply below_drew1) | exact HB.out)⟩⟩
                   · rw [if_neg c25] at H
                     exact absurd H (by simp)
                 · rw [if_neg c24] at H
                   exact absurd H (by simp)
             · replace c13 := Bool.eq_false_iff.mpr c13
               subst c13
               have H1 : (some (([] : List C64), false)) = some (r1, r2) := by rw [if_neg (show ¬ (false = true) by decide)] at H; exact H
               clear H
               have H := H1
               clear H1
               as_aux_lemma =>
                simp only [Option.some.injEq, Prod.mk.injEq] at H
                obtain ⟨rfl, rfl⟩ := H
                have p159 : 0 ≤ (x17_1 : Int) := of_decide_eq_true (by first | (with_reducible assumption) | assumption)
                have q159 : x17_1 < (l1.length : Int) := of_decide_eq_true (by first | (with_reducible assumption) | assumption)
                obtain ⟨ad159, e159, hx159_0⟩ := Kd.at_int HR1.out x17_1 p159 q159
                cases e159
                replace hx159_0 := (HB.out.cell (World.block_lt_of_cell? w _ hx159_0)).trans hx159_0
                replace p159 := eq_true p159
                replace q159 := eq_true q159
                go_wp2_with (first | ((with_reducible refine gate_callee (f := 36) rfl ?_); refine goesL_ (some 26) rfl rfl Try.func36 (by kernel_rfl) rfl #[.int .i64 (rd l1 x17_1), .int .i64 0, .int .i64 (wrap64 ((l0.length : Int) - 1))] rfl (by (try simp only [List.map_toArray, List.map_cons, List.map_nil]); first | done | rfl | (simp only [List.length_drop, List.length_take]; rfl)) ?_; (with_reducible refine (impl_within.calls (rd l1 x17_1) 0 (wrap64 ((l0.length : Int) - 1)) false _ A12.out).mono ?_); rintro e w' ⟨rfl, ⟨nd, rfl⟩⟩; refine ⟨_, rfl, ?_⟩))
                go_ret2
                exact ⟨_, by first | rfl | (simp [errW_none, errW_some] <;> rfl) | (simp [*, errW_none, errW_some] <;> rfl), by first | exact Kd.R_nil _ _ _ _ _ | exact Kd.N_nil _ _ _ _ _ | exact Kd.V_nil _ _ _ _ _ | exact Kd.Q_nil _ _ _ _ _ | exact Kd.S_nil _ _ _ _ _, by repeat (first | (with_reducible first | exact HB.out | apply below_alloc | apply pw_below_drewN | apply below_drew1) | exact HB.out)⟩
           · rw [if_neg c11] at H
             exact absurd H (by simp)
         · rw [if_neg c10] at H
           exact absurd H (by simp)
       · rw [if_neg c9] at H
         have c9b0 : decide (x17_1 < (l1.length : Int)) = false := decide_eq_false c9
         clear c9
         as_aux_lemma =>
          simp only [Option.some.injEq, Prod.mk.injEq] at H
          obtain ⟨rfl, rfl⟩ := H
          go_wp2
          go_ret2
          exact ⟨_, by first | rfl | (simp [errW_none, errW_some] <;> rfl) | (simp [*, errW_none, errW_some] <;> rfl), by (with_reducible repeat (first | apply Kd.R_alloc | apply Kd.R_drewN | apply Kd.R_drew)); exact HO_6.out, by repeat (first | (with_reducible first | exact HB.out | apply below_alloc | apply pw_below_drewN | apply below_drew1) | exact HB.out)⟩
   · rw [if_neg c5] at H
     exact absurd H (by simp)
 · replace c4 := Bool.eq_false_iff.mpr c4
   subst c4
   have H1 : (some (([] : List C64), false)) = some (r1, r2) := by rw [if_neg (show ¬ (false = true) by decide)] at H; exact H
   clear H
   have H := H1
   clear H1
   as_aux_lemma =>
    simp only [Option.some.injEq, Prod.mk.injEq] at H
    obtain ⟨rfl, rfl⟩ := H
    go_enter Try.func17, Try.ntmps17
    go_wp2_with (first | ((with_reducible refine gate_callee (f := 27) rfl ?_); refine goesL_ (some 10) rfl rfl Try.func27 (by kernel_rfl) rfl #[.slice A0 l0.length c0] rfl (by (try simp only [List.map_toArray, List.map_cons, List.map_nil]); first | done | rfl | (simp only [List.length_drop, List.length_take]; rfl)) ?_; (with_reducible refine (impl_areWeights.calls _ _ l0 false _ ?side1 ?side2 A3.out).mono ?_); (case side1 => repeat (first | exact HR0.out | (with_reducible refine Kd.C_alloc ?_ _) | (with_reducible refine Kd.C_drewN ?_ _) | (with_reducible refine Kd.C_drew ?_))); (case side2 => exact HC0.out); rintro e w' ⟨rfl, ⟨nd, rfl⟩⟩; refine ⟨_, rfl, ?_⟩))
    go_ret2
    exact ⟨_, by first | rfl | (simp [errW_none, errW_some] <;> rfl) | (simp [*, errW_none, errW_some] <;> rfl), by first | exact Kd.R_nil _ _ _ _ _ | exact Kd.N_nil _ _ _ _ _ | exact Kd.V_nil _ _ _ _ _ | exact Kd.Q_nil _ _ _ _ _ | exact Kd.S_nil _ _ _ _ _, by repeat (first | (with_reducible first | exact HB.out | apply below_alloc | apply pw_below_drewN | apply below_drew1) | exact HB.out)⟩

-- NOT PRINTED: function 48 (math_Float64bits)

/-! ### math_Signbit: function 44 -/
-- quiet
def math_Signbit.f (a0 : Nat) : Option Bool := some (decide (wrap64 (a0 : Int) < 0))
theorem run_bits (x : Nat) (W : World) : (callFunc 48 #[.float .f64 x]).run Try.prog W = .ok (.value (.int .u64 (x : Int))) W := by
  rw [run_callFunc_extern (fn := Try.f48) (e := Extern.MathFloatBits.float64bits) Try.func48 (by kernel_rfl) (by kernel_rfl) (by kernel_rfl) (by kernel_rfl)]
  rfl
set_option maxRecDepth 100000 in
theorem math_Signbit.calls (a0 : Nat) (r : Bool) (w : World) (h : math_Signbit.f a0 = some r) :
    Calls Try.prog 44 #[.float .f64 a0] w fun e w' => e = .returned (.bool r) ∧ Drawn0 w w' := by
  obtain rfl := Option.some.inj h
  have hd := fun W => run_bits a0 W
  go_enter Try.func44, Try.ntmps44
  go_wp2
  go_ret
  exact ⟨rfl, ⟨⟨0, rfl⟩⟩⟩

/-! ### impl_SameNumber: function 37 -/
def impl_SameNumber.j0 : Nat → Nat → Nat → Bool → Option (Bool)
 | 0, _, _, _ => none
 | k + 1, x0, x1, x12 => if x12 = true then (if (FloatKind.f32.format.order x0 x0 != some .eq) = true then (some (FloatKind.f32.format.order x1 x1 != some .eq)) else (some false)) else (if (FloatKind.f32.format.order x0 x1 == some .eq) = true then (if FC 34 37 .f32 .f64 x0 = true then ((math_Signbit.f (fc .f32 .f64 x0)).bind fun t164 => (if FC 34 37 .f32 .f64 x1 = true then ((math_Signbit.f (fc .f32 .f64 x1)).bind fun t165 => (some (t164 == t165))) else (none))) else (none)) else (some false))
def impl_SameNumber.f (k : Nat) (a0 : Nat) (a1 : Nat) : Option (Bool) := if (FloatKind.f32.format.order a0 a0 != some .eq) = true then (impl_SameNumber.j0 k a0 a1 true) else (impl_SameNumber.j0 k a0 a1 (FloatKind.f32.format.order a1 a1 != some .eq))
theorem impl_SameNumber.mono_l : ∀ k, (∀ y0 y1 y2, LeO (impl_SameNumber.j0 k y0 y1 y2) (impl_SameNumber.j0 (k + 1) y0 y1 y2))
 | 0 => fun _ _ _ r h => by simp [impl_SameNumber.j0] at h
 | k + 1 => by
  have ih0 := impl_SameNumber.mono_l k
  · intro y0 y1 y2
    unfold impl_SameNumber.j0
    repeat' first
    | (with_reducible exact ih0 _ _ _)
    | (with_reducible exact LeO.refl _)
    | (with_reducible exact LeO.none _)
    | (with_reducible refine LeO.ite ?_ ?_)
    | (with_reducible refine LeO.bind ?_ (fun _ => ?_))
    | exact ih0 _ _ _
    | exact LeO.none _
    | refine LeO.ite ?_ ?_
    | refine LeO.bind ?_ (fun _ => ?_)
theorem impl_SameNumber.mono : ∀ a0 a1 k, LeO (impl_SameNumber.f k a0 a1) (impl_SameNumber.f (k + 1) a0 a1) := by
 intro a0 a1 k
 have ih0 := impl_SameNumber.mono_l k
 unfold impl_SameNumber.f
 repeat' first
  | (with_reducible exact ih0 _ _ _)
  | (with_reducible exact LeO.refl _)
  | (with_reducible exact LeO.none _)
  | (with_reducible refine LeO.ite ?_ ?_)
  | (with_reducible refine LeO.bind ?_ (fun _ => ?_))
  | exact ih0 _ _ _
  | exact LeO.none _
  | refine LeO.ite ?_ ?_
  | refine LeO.bind ?_ (fun _ => ?_)
set_option maxHeartbeats 8000000 in
set_option maxRecDepth 100000 in
theorem impl_SameNumber.calls (k : Nat) (a0 : Nat) (a1 : Nat) (r : Bool) (w : World) (h : impl_SameNumber.f k a0 a1 = some r) :
 Calls Try.prog 37 #[.float .f32 a0, .float .f32 a1] w fun e w' => e = .returned (.bool r) ∧ Drawn0 w w' := by
 have hu34 := Try.underlying34
 have hu37 := Try.underlying37
 have H : (if (FloatKind.f32.format.order a0 a0 != some .eq) = true then (impl_SameNumber.j0 k a0 a1 true) else (impl_SameNumber.j0 k a0 a1 (FloatKind.f32.format.order a1 a1 != some .eq))) = some r := h
 clear h
 have HC3 := Aside0.mk H
 clear H
 go_enter Try.func37, Try.ntmps37
 go_upto_region 1 with (fail)
 go_cut [12] (fun v12 wc => ∃ (kq : Nat) (x12_2 : Bool), v12 = .bool x12_2 ∧ Aside0 (impl_SameNumber.j0 kq a0 a1 x12_2 = some r) ∧ Aside0 (kq ≤ k) ∧ Drawn0 w wc)
 case first =>
  have H := HC3.out
  clear HC3
  by_cases c4 : (FloatKind.f32.format.order a0 a0 != some .eq) = true
  · rw [if_pos c4] at H
    have c4b0 : (FloatKind.f32.format.order a0 a0 != some .eq) = true := c4
    (try (have c4b1 : decide (FloatKind.f32.format.order a0 a0 = some .eq) = false := by simpa using c4))
    (try (have c4b2 : (FloatKind.f32.format.order a0 a0 == some .eq) = false := by simpa using c4))
    (try (have c4b3 : ¬ (FloatKind.f32.format.order a0 a0 = some .eq) := by simpa using c4))
    clear c4
    (first | rw [c4b0] | (simp only [i64_w, i32_w]; rw [c4b0]) | skip)
    as_aux_lemma =>
     have H' := Aside0.mk H
     clear H
     go_wp2
     go_meet
     case rel => exact ⟨_, (true), (by first | rfl | (simp; done) | (simp [*]; done)), H', ⟨by first | omega | exact Nat.le_refl _⟩, by repeat (first | exact Drawn0.refl _ | apply Drawn0.step)⟩
  · rw [if_neg c4] at H
    have c4b0 : (FloatKind.f32.format.order a0 a0 != some .eq) = false := by simpa using c4
    (try (have c4b1 : decide (FloatKind.f32.format.order a0 a0 = some .eq) = true := by simpa using c4))
    (try (have c4b2 : (FloatKind.f32.format.order a0 a0 == some .eq) = true := by simpa using c4))
    clear c4
    (first | rw [c4b0] | (simp only [i64_w, i32_w]; rw [c4b0]) | skip)
    as_aux_lemma =>
     have H' := Aside0.mk H
     clear H
     go_wp2
     go_meet
     case rel => exact ⟨_, ((FloatKind.f32.format.order a1 a1 != some .eq)), (by first | rfl | (simp; done) | (simp [*]; done)), H', ⟨by first | omega | exact Nat.le_refl _⟩, by repeat (first | exact Drawn0.refl _ | apply Drawn0.step)⟩
 case rest =>
  clear HC3
  (try clear p2); (try clear c3); (try clear c4); (try clear c4b0); (try clear c4b1); (try clear c4b2)
  obtain ⟨kq, x12_2, rfl, HA, HJ2, ⟨mc2, rfl⟩⟩ := hcut
  cases kq with
  | zero => exact absurd HA.out (by simp [impl_SameNumber.j0])
  | succ kj2 =>
   have H := HA.out
   clear HA
   simp only [impl_SameNumber.j0] at H
   by_cases c5 : x12_2 = true
   · subst c5
     have H1 : (if (FloatKind.f32.format.order a0 a0 != some .eq) = true then (some (FloatKind.f32.format.order a1 a1 != some .eq)) else (some false)) = some r := by rw [if_pos rfl] at H; exact H
     clear H
     have H := H1
     clear H1
     by_cases c6 : (FloatKind.f32.format.order a0 a0 != some .eq) = true
     · rw [if_pos c6] at H
       have c6b0 : (FloatKind.f32.format.order a0 a0 != some .eq) = true := c6
       (try (have c6b1 : decide (FloatKind.f32.format.order a0 a0 = some .eq) = false := by simpa using c6))
       (try (have c6b2 : (FloatKind.f32.format.order a0 a0 == some .eq) = false := by simpa using c6))
       (try (have c6b3 : ¬ (FloatKind.f32.format.order a0 a0 = some .eq) := by simpa using c6))
       clear c6
       as_aux_lemma =>
        obtain rfl := Option.some.inj H
        go_wp2
        go_ret
        exact ⟨by first | rfl | (simp; done) | (simp [*]; done), by repeat (first | exact Drawn0.refl _ | apply Drawn0.step)⟩
     · rw [if_neg c6] at H
       have c6b0 : (FloatKind.f32.format.order a0 a0 != some .eq) = false := by simpa using c6
       (try (have c6b1 : decide (FloatKind.f32.format.order a0 a0 = some .eq) = true := by simpa using c6))
       (try (have c6b2 : (FloatKind.f32.format.order a0 a0 == some .eq) = true := by simpa using c6))
       clear c6
       as_aux_lemma =>
        obtain rfl := Option.some.inj H
        go_wp2
        go_ret
        exact ⟨by first | rfl | (simp; done) | (simp [*]; done), by repeat (first | exact Drawn0.refl _ | apply Drawn0.step)⟩
   · replace c5 := Bool.eq_false_iff.mpr c5
     subst c5
     have H1 : (if (FloatKind.f32.format.order a0 a1 == some .eq) = true then (if FC 34 37 .f32 .f64 a0 = true then ((math_Signbit.f (fc .f32 .f64 a0)).bind fun t164 => (if FC 34 37 .f32 .f64 a1 = true then ((math_Signbit.f (fc .f32 .f64 a1)).bind fun t165 => (some (t164 == t165))) else (none))) else (none)) else (some false)) = some r := by rw [if_neg (show ¬ (false = true) by decide)] at H; exact H
     clear H
     have H := H1
     clear H1
     by_cases c7 : (FloatKind.f32.format.order a0 a1 == some .eq) = true
     · rw [if_pos c7] at H
       have c7b0 : (FloatKind.f32.format.order a0 a1 == some .eq) = true := c7
       (try (have c7b1 : decide (FloatKind.f32.format.order a0 a1 = some .eq) = true := by simpa using c7))
       (try (have c7b2 : (FloatKind.f32.format.order a0 a1 == some .eq) = true := by simpa using c7))
       clear c7
       by_cases c8 : FC 34 37 .f32 .f64 a0 = true
       · rw [if_pos c8] at H
         have fe8 := fun w => frunc (P := Try.prog) (src := 34) (dst := 37) (by kernel_rfl) Try.underlying37 c8 w
         have c8b0 : FC 34 37 .f32 .f64 a0 = true := c8
         clear c8
         replace H := Option.bind_eq_some_iff.mp H
         obtain ⟨t164, A90, H⟩ := H
         replace H : (if FC 34 37 .f32 .f64 a1 = true then ((math_Signbit.f (fc .f32 .f64 a1)).bind fun t165 => (some (t164 == t165))) else (none)) = some r := H
         have A9 := Aside0.mk A90
         clear A90
         by_cases c10 : FC 34 37 .f32 .f64 a1 = true
         · rw [if_pos c10] at H
           have fe10 := fun w => frunc (P := Try.prog) (src := 34) (dst := 37) (by kernel_rfl) Try.underlying37 c10 w
           have c10b0 : FC 34 37 .f32 .f64 a1 = true := c10
           clear c10
           replace H := Option.bind_eq_some_iff.mp H
           obtain ⟨t165, A110, H⟩ := H
           replace H : (some (t164 == t165)) = some r := H
           have A11 := Aside0.mk A110
           clear A110
           as_aux_lemma =>
            obtain rfl := Option.some.inj H
            go_wp2_with (first | (go_at_call 44; (with_reducible refine (math_Signbit.calls (fc .f32 .f64 a0) t164 _ A9.out).mono ?_); rintro e w' ⟨rfl, ⟨nd, rfl⟩⟩) | (go_at_call 44; (with_reducible refine (math_Signbit.calls (fc .f32 .f64 a1) t165 _ A11.out).mono ?_); rintro e w' ⟨rfl, ⟨nd, rfl⟩⟩))
            go_ret
            exact ⟨by first | rfl | (simp; done) | (simp [*]; done), by repeat (first | exact Drawn0.refl _ | apply Drawn0.step)⟩
         · rw [if_neg c10] at H
           exact absurd H (by simp)
       · rw [if_neg c8] at H
         exact absurd H (by simp)
     · rw [if_neg c7] at H
       have c7b0 : (FloatKind.f32.format.order a0 a1 == some .eq) = false := by simpa using c7
       (try (have c7b1 : decide (FloatKind.f32.format.order a0 a1 = some .eq) = false := by simpa using c7))
       (try (have c7b2 : (FloatKind.f32.format.order a0 a1 == some .eq) = false := by simpa using c7))
       (try (have c7b3 : ¬ (FloatKind.f32.format.order a0 a1 = some .eq) := by simpa using c7))
       clear c7
       as_aux_lemma =>
        obtain rfl := Option.some.inj H
        go_wp2
        go_ret
        exact ⟨by first | rfl | (simp; done) | (simp [*]; done), by repeat (first | exact Drawn0.refl _ | apply Drawn0.step)⟩

/-! ### impl_SameComplex: function 18 -/
def impl_SameComplex.f (k : Nat) (a0 : C64) (a1 : C64) : Option (Bool) := (impl_SameNumber.f k a0.re a1.re).bind fun t166 => (if t166 = true then ((impl_SameNumber.f k a0.im a1.im).bind fun t167 => (some t167)) else (some false))
theorem impl_SameComplex.mono : ∀ a0 a1 k, LeO (impl_SameComplex.f k a0 a1) (impl_SameComplex.f (k + 1) a0 a1) := by
 intro a0 a1 k
 unfold impl_SameComplex.f
 repeat' first
  | (with_reducible exact impl_SameNumber.mono _ _ _)
  | (with_reducible exact LeO.refl _)
  | (with_reducible exact LeO.none _)
  | (with_reducible refine LeO.ite ?_ ?_)
  | (with_reducible refine LeO.bind ?_ (fun _ => ?_))
  | exact impl_SameNumber.mono _ _ _
  | exact LeO.none _
  | refine LeO.ite ?_ ?_
  | refine LeO.bind ?_ (fun _ => ?_)
set_option maxHeartbeats 8000000 in
set_option maxRecDepth 100000 in
theorem impl_SameComplex.calls (k : Nat) (a0 : C64) (a1 : C64) (r : Bool) (w : World) (h : impl_SameComplex.f k a0 a1 = some r) :
 Calls Try.prog 18 #[.complex .f32 a0.re a0.im, .complex .f32 a1.re a1.im] w fun e w' => e = .returned (.bool r) ∧ Below w.heap.size w w' := by
 have HB := Aside0.mk (Below.refl w.heap.size w)
 have H : ((impl_SameNumber.f k a0.re a1.re).bind fun t166 => (if t166 = true then ((impl_SameNumber.f k a0.im a1.im).bind fun t167 => (some t167)) else (some false))) = some r := h
 clear h
 replace H := Option.bind_eq_some_iff.mp H
 obtain ⟨t166, A30, H⟩ := H
 replace H : (if t166 = true then ((impl_SameNumber.f k a0.im a1.im).bind fun t167 => (some t167)) else (some false)) = some r := H
 have A3 := Aside0.mk A30
 clear A30
 by_cases c4 : t166 = true
 · subst c4
   have H1 : ((impl_SameNumber.f k a0.im a1.im).bind fun t167 => (some t167)) = some r := by rw [if_pos rfl] at H; exact H
   clear H
   have H := H1
   clear H1
   replace H := Option.bind_eq_some_iff.mp H
   obtain ⟨t167, A50, H⟩ := H
   replace H : (some t167) = some r := H
   have A5 := Aside0.mk A50
   clear A50
   as_aux_lemma =>
    obtain rfl := Option.some.inj H
    go_enter Try.func18, Try.ntmps18
    go_wp2_with (first | ((with_reducible refine gate_callee (f := 37) rfl ?_); refine goesL_ (some 9) rfl rfl Try.func37 (by kernel_rfl) rfl #[.float .f32 a0.re, .float .f32 a1.re] rfl (by (try simp only [List.map_toArray, List.map_cons, List.map_nil]); first | done | rfl | (simp only [List.length_drop, List.length_take]; rfl)) ?_; (with_reducible refine (impl_SameNumber.calls k a0.re a1.re true _ A3.out).mono ?_); rintro e w' ⟨rfl, ⟨nd, rfl⟩⟩; refine ⟨_, rfl, ?_⟩) | (go_at_call 37; (with_reducible refine (impl_SameNumber.calls k a0.im a1.im t167 _ A5.out).mono ?_); rintro e w' ⟨rfl, ⟨nd, rfl⟩⟩))
    go_ret
    exact ⟨by first | rfl | (simp [errW_none, errW_some] <;> rfl) | (simp [*, errW_none, errW_some] <;> rfl), by repeat (first | (with_reducible first | exact HB.out | apply below_alloc | apply pw_below_drewN | apply below_drew1) | exact HB.out)⟩
 · replace c4 := Bool.eq_false_iff.mpr c4
   subst c4
   have H1 : (some false) = some r := by rw [if_neg (show ¬ (false = true) by decide)] at H; exact H
   clear H
   have H := H1
   clear H1
   as_aux_lemma =>
    obtain rfl := Option.some.inj H
    go_enter Try.func18, Try.ntmps18
    go_wp2_with (first | ((with_reducible refine gate_callee (f := 37) rfl ?_); refine goesL_ (some 9) rfl rfl Try.func37 (by kernel_rfl) rfl #[.float .f32 a0.re, .float .f32 a1.re] rfl (by (try simp only [List.map_toArray, List.map_cons, List.map_nil]); first | done | rfl | (simp only [List.length_drop, List.length_take]; rfl)) ?_; (with_reducible refine (impl_SameNumber.calls k a0.re a1.re false _ A3.out).mono ?_); rintro e w' ⟨rfl, ⟨nd, rfl⟩⟩; refine ⟨_, rfl, ?_⟩))
    go_ret
    exact ⟨by first | rfl | (simp [errW_none, errW_some] <;> rfl) | (simp [*, errW_none, errW_some] <;> rfl), by repeat (first | (with_reducible first | exact HB.out | apply below_alloc | apply pw_below_drewN | apply below_drew1) | exact HB.out)⟩

end Go.Proofs.Ytnfcbacdggkfeaa.N
