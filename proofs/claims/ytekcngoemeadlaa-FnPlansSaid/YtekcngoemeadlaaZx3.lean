/-
  Contracts of the program's functions, each a plain Lean function beside the machine's call: written by this session's program over the kit's print.
-/
import Derived.Test.YtekcngoemeadlaaZx0
import Derived.Test.YtekcngoemeadlaaZx1
import Derived.Test.YtekcngoemeadlaaZx2
namespace Go.Proofs.Ytekcngoemeadlaa.Z
open Go.RowKit Go.Proofs.YtekcngoemeadlaaW.PrintWords Go.Proofs.YtekcngoemeadlaaW.PrintLast Go.Proofs.YtekcngoemeadlaaW.PrintMore
attribute [local go_sem] max2_int min2_int max_two min_two max_three min_three max_four min_four   -- for this text's walks alone
set_option linter.unusedVariables false
set_option linter.unusedSimpArgs false

/-! ### impl_IsPlan: function 41 -/
mutual
def impl_IsPlan.j0 : Nat → List (S54) → List (S81) → Bool → Option (Bool)
 | 0, _, _, _ => none
 | k + 1, x0, x1, x17 => if x17 = true then (none) else ((impl_jobsOf.f x1).bind fun t165 => (impl_IsPlan.l0 k x0 x1 t165 x1 (x1.length : Int) 0))
def impl_IsPlan.l0 : Nat → List (S54) → List (S81) → List Int → List (S81) → Int → Int → Option (Bool)
 | 0, _, _, _, _, _, _ => none
 | k + 1, x0, x1, x5, x20, x21, x22 => if x22 < x21 then (if 0 ≤ x22 then (if x22 < (x20.length : Int) then ((impl_within.f ((rd_T81 x20 x22).f0) 0 (wrap64 ((x0.length : Int) - 1))).bind fun t170 => (if t170 = true then ((impl_within.f ((rd_T81 x20 x22).f1) 0 100000).bind fun t171 => (if t171 = true then (if x22 < (x5.length : Int) then (if 0 ≤ ((rd_T81 x20 x22).f0) then (if ((rd_T81 x20 x22).f0) < (x0.length : Int) then (impl_IsPlan.j2 k x0 x1 x5 x22 x20 x21 x22 (decide (((rd_T81 x20 x22).f1) < (wrap64 ((rd x5 x22) * ((rd_T54 x0 ((rd_T81 x20 x22).f0)).f2))))) ((rd_T81 x20 x22).f0) ((rd_T81 x20 x22).f1)) else (none)) else (none)) else (none)) else (none))) else (none))) else (none)) else (none)) else (some true)
def impl_IsPlan.j2 : Nat → List (S54) → List (S81) → List Int → Int → List (S81) → Int → Int → Bool → Int → Int → Option (Bool)
 | 0, _, _, _, _, _, _, _, _, _, _ => none
 | k + 1, x0, x1, x5, x6, x20, x21, x22, x55, x170000, x170001 => if x55 = true then (none) else (if x6 > 0 then (if 0 ≤ (wrap64 (x6 - 1)) then (if (wrap64 (x6 - 1)) < (x1.length : Int) then (if 0 ≤ ((rd_T81 x1 (wrap64 (x6 - 1))).f0) then (if ((rd_T81 x1 (wrap64 (x6 - 1))).f0) < (x0.length : Int) then (if 0 ≤ x170000 then (if x170000 < (x0.length : Int) then ((impl_switchTicks.f ((rd_T54 x0 ((rd_T81 x1 (wrap64 (x6 - 1))).f0)).f0.f0) ((rd_T54 x0 ((rd_T81 x1 (wrap64 (x6 - 1))).f0)).f0.f1) ((rd_T54 x0 x170000).f0.f0) ((rd_T54 x0 x170000).f0.f1)).bind fun t179 => (if x170001 < (wrap64 ((wrap64 (((rd_T81 x1 (wrap64 (x6 - 1))).f1) + ((rd_T54 x0 ((rd_T81 x1 (wrap64 (x6 - 1))).f0)).f1))) + t179)) then (none) else (impl_IsPlan.l0 k x0 x1 x5 x20 x21 (wrap64 (x22 + 1))))) else (none)) else (none)) else (none)) else (none)) else (none)) else (none)) else (impl_IsPlan.l0 k x0 x1 x5 x20 x21 (wrap64 (x22 + 1))))
end
def impl_IsPlan.f (k : Nat) (l0 : List (S54)) (l1 : List (S81)) : Option (Bool) := (impl_AreBeams.f k l0).bind fun t164 => (if t164 = true then (impl_IsPlan.j0 k l0 l1 (decide ((l1.length : Int) > 200))) else (none))
theorem impl_IsPlan.mono_l : ∀ k, (∀ y0 y1 y2, LeO (impl_IsPlan.j0 k y0 y1 y2) (impl_IsPlan.j0 (k + 1) y0 y1 y2)) ∧ (∀ y0 y1 y2 y3 y4 y5, LeO (impl_IsPlan.l0 k y0 y1 y2 y3 y4 y5) (impl_IsPlan.l0 (k + 1) y0 y1 y2 y3 y4 y5)) ∧ (∀ y0 y1 y2 y3 y4 y5 y6 y7 y8 y9, LeO (impl_IsPlan.j2 k y0 y1 y2 y3 y4 y5 y6 y7 y8 y9) (impl_IsPlan.j2 (k + 1) y0 y1 y2 y3 y4 y5 y6 y7 y8 y9))
 | 0 => ⟨fun _ _ _ r h => by simp [impl_IsPlan.j0] at h, fun _ _ _ _ _ _ r h => by simp [impl_IsPlan.l0] at h, fun _ _ _ _ _ _ _ _ _ _ r h => by simp [impl_IsPlan.j2] at h⟩
 | k + 1 => by
  obtain ⟨ih0, ih1, ih2⟩ := impl_IsPlan.mono_l k
  refine ⟨?_, ?_, ?_⟩
  · intro y0 y1 y2
    unfold impl_IsPlan.j0
    repeat' first
    | (with_reducible exact ih0 _ _ _)
    | (with_reducible exact ih1 _ _ _ _ _ _)
    | (with_reducible exact ih2 _ _ _ _ _ _ _ _ _ _)
    | (with_reducible exact impl_AreBeams.mono _ _)
    | (with_reducible exact LeO.refl _)
    | (with_reducible exact LeO.none _)
    | (with_reducible refine LeO.ite ?_ ?_)
    | (with_reducible refine LeO.bind ?_ (fun _ => ?_))
    | exact ih0 _ _ _
    | exact ih1 _ _ _ _ _ _
    | exact ih2 _ _ _ _ _ _ _ _ _ _
    | exact impl_AreBeams.mono _ _
    | exact LeO.none _
    | refine LeO.ite ?_ ?_
    | refine LeO.bind ?_ (fun _ => ?_)
  · intro y0 y1 y2 y3 y4 y5
    unfold impl_IsPlan.l0
    repeat' first
    | (with_reducible exact ih0 _ _ _)
    | (with_reducible exact ih1 _ _ _ _ _ _)
    | (with_reducible exact ih2 _ _ _ _ _ _ _ _ _ _)
    | (with_reducible exact impl_AreBeams.mono _ _)
    | (with_reducible exact LeO.refl _)
    | (with_reducible exact LeO.none _)
    | (with_reducible refine LeO.ite ?_ ?_)
    | (with_reducible refine LeO.bind ?_ (fun _ => ?_))
    | exact ih0 _ _ _
    | exact ih1 _ _ _ _ _ _
    | exact ih2 _ _ _ _ _ _ _ _ _ _
    | exact impl_AreBeams.mono _ _
    | exact LeO.none _
    | refine LeO.ite ?_ ?_
    | refine LeO.bind ?_ (fun _ => ?_)
  · intro y0 y1 y2 y3 y4 y5 y6 y7 y8 y9
    unfold impl_IsPlan.j2
    repeat' first
    | (with_reducible exact ih0 _ _ _)
    | (with_reducible exact ih1 _ _ _ _ _ _)
    | (with_reducible exact ih2 _ _ _ _ _ _ _ _ _ _)
    | (with_reducible exact impl_AreBeams.mono _ _)
    | (with_reducible exact LeO.refl _)
    | (with_reducible exact LeO.none _)
    | (with_reducible refine LeO.ite ?_ ?_)
    | (with_reducible refine LeO.bind ?_ (fun _ => ?_))
    | exact ih0 _ _ _
    | exact ih1 _ _ _ _ _ _
    | exact ih2 _ _ _ _ _ _ _ _ _ _
    | exact impl_AreBeams.mono _ _
    | exact LeO.none _
    | refine LeO.ite ?_ ?_
    | refine LeO.bind ?_ (fun _ => ?_)
theorem impl_IsPlan.mono : ∀ a0 a1 k, LeO (impl_IsPlan.f k a0 a1) (impl_IsPlan.f (k + 1) a0 a1) := by
 intro a0 a1 k
 obtain ⟨ih0, ih1, ih2⟩ := impl_IsPlan.mono_l k
 unfold impl_IsPlan.f
 repeat' first
  | (with_reducible exact ih0 _ _ _)
  | (with_reducible exact ih1 _ _ _ _ _ _)
  | (with_reducible exact ih2 _ _ _ _ _ _ _ _ _ _)
  | (with_reducible exact impl_AreBeams.mono _ _)
  | (with_reducible exact LeO.refl _)
  | (with_reducible exact LeO.none _)
  | (with_reducible refine LeO.ite ?_ ?_)
  | (with_reducible refine LeO.bind ?_ (fun _ => ?_))
  | exact ih0 _ _ _
  | exact ih1 _ _ _ _ _ _
  | exact ih2 _ _ _ _ _ _ _ _ _ _
  | exact impl_AreBeams.mono _ _
  | exact LeO.none _
  | refine LeO.ite ?_ ?_
  | refine LeO.bind ?_ (fun _ => ?_)
def impl_IsPlan.T7 : Bool × List (List Nat × List Nat) := (true, [([], []), ([0], [0]), ([], []), ([2], [2]), ([3], [3]), ([1, 4], [1, 4]), ([5], [5]), ([6, 5], [6]), ([7], [7]), ([8, 7], [7, 8]), ([9, 7, 7], [7, 9]), ([10, 7], [7, 10]), ([7, 11], [7, 11]), ([12, 10], [12]), ([13], [13]), ([14, 13], [13, 14]), ([13], [13]), ([13], [13]), ([16, 17, 13], [13, 16, 17]), ([18, 13], [13, 18]), ([13], [13]), ([13], [13]), ([21, 13], [13, 21]), ([20, 22, 13], [13, 20, 22]), ([23, 13], [13, 23]), ([24, 13], [13, 24]), ([19, 25, 13], [13, 19, 25]), ([15, 26, 13], [13, 15, 26]), ([13, 27], [13, 27])])
def impl_IsPlan.B7 : List Nat := [0, 1, 0, 4, 12, 31, 63, 127, 255, 511, 1023, 2047, 4095, 8191, 16383, 32767, 16383, 16383, 212991, 475135, 16383, 16383, 2113535, 7356415, 15745023, 32522239, 67059711, 134217727, 268435455]
theorem impl_IsPlan.tab7 : rtab .any (opsOf Try.f41 7) = impl_IsPlan.T7 := by kernel_rfl
theorem impl_IsPlan.bits7 : waitsOk impl_IsPlan.T7.2 impl_IsPlan.B7 = true := by kernel_rfl
def impl_IsPlan.T12 : Bool × List (List Nat × List Nat) := (true, [([], []), ([0], [0]), ([], []), ([2], [2]), ([], []), ([4], [4]), ([3, 5], [3, 5]), ([], []), ([7], [7]), ([], []), ([], []), ([10], [10]), ([9, 11], [9, 11]), ([12], [12]), ([13], [13]), ([8, 14], [8, 14]), ([6, 15], [6, 15]), ([1, 16], [1, 16])])
def impl_IsPlan.B12 : List Nat := [0, 1, 0, 4, 0, 16, 60, 0, 128, 0, 0, 1024, 3584, 7680, 15872, 32640, 65532, 131071]
theorem impl_IsPlan.tab12 : rtab .any (opsOf Try.f41 12) = impl_IsPlan.T12 := by kernel_rfl
theorem impl_IsPlan.bits12 : waitsOk impl_IsPlan.T12.2 impl_IsPlan.B12 = true := by kernel_rfl
set_option maxHeartbeats 8000000 in
set_option maxRecDepth 100000 in
theorem impl_IsPlan.calls (k : Nat) (A0 : Option Addr) (c0 : Nat) (l0 : List (S54)) (A1 : Option Addr) (c1 : Nat) (l1 : List (S81)) (r : Bool) (w : World) (hr0 : Kd.C k54 w A0 l0.length l0) (hc0 : l0.length ≤ c0) (hr1 : Kd.C k81 w A1 l1.length l1) (hc1 : l1.length ≤ c1) (h : impl_IsPlan.f k l0 l1 = some r) :
 Calls Try.prog 41 #[.slice A0 l0.length c0, .slice A1 l1.length c1] w fun e w' => e = .returned (.bool r) ∧ Below w.heap.size w w' := by
 have hu81 := Try.underlying81
 have hu54 := Try.underlying54
 have hu26 := Try.underlying26
 have HR0 := Aside0.mk hr0
 have HC0 := Aside0.mk hc0
 clear hr0 hc0
 have HR1 := Aside0.mk hr1
 have HC1 := Aside0.mk hc1
 clear hr1 hc1
 have HB := Aside0.mk (Below.refl w.heap.size w)
 have H : ((impl_AreBeams.f k l0).bind fun t164 => (if t164 = true then (impl_IsPlan.j0 k l0 l1 (decide ((l1.length : Int) > 200))) else (none))) = some r := h
 clear h
 have HC3 := Aside0.mk H
 clear H
 go_enter Try.func41, Try.ntmps41
 go_upto_region 1 with (fail)
 go_cut [17] (fun v17 wc => ∃ (kq : Nat) (x17_2 : Bool), v17 = .bool x17_2 ∧ Aside0 (impl_IsPlan.j0 kq l0 l1 x17_2 = some r) ∧ Aside0 (kq ≤ k) ∧ Aside0 (Below w.heap.size w wc))
 case first =>
  have H := HC3.out
  clear HC3
  replace H := Option.bind_eq_some_iff.mp H
  obtain ⟨t164, A40, H⟩ := H
  replace H : (if t164 = true then (impl_IsPlan.j0 k l0 l1 (decide ((l1.length : Int) > 200))) else (none)) = some r := H
  have A4 := Aside0.mk A40
  clear A40
  by_cases c5 : t164 = true
  · subst c5
    have H1 : (impl_IsPlan.j0 k l0 l1 (decide ((l1.length : Int) > 200))) = some r := by rw [if_pos rfl] at H; exact H
    clear H
    have H := H1
    clear H1
    as_aux_lemma =>
     have H' := Aside0.mk H
     clear H
     go_wp2_with (first | ((with_reducible refine gate_callee (f := 19) rfl ?_); refine goesL_ (some 11) rfl rfl Try.func19 (by kernel_rfl) rfl #[.slice A0 l0.length c0] rfl (by (try simp only [List.map_toArray, List.map_cons, List.map_nil]); first | done | rfl | (simp only [List.length_drop, List.length_take]; rfl)) ?_; (with_reducible refine (impl_AreBeams.calls k _ _ l0 true _ ?side1 ?side2 A4.out).mono ?_); (case side1 => repeat (first | exact (Kd.C_below HR0.out HB.out) | (with_reducible refine Kd.C_alloc ?_ _) | (with_reducible refine Kd.C_drewN ?_ _) | (with_reducible refine Kd.C_drew ?_))); (case side2 => exact HC0.out); rintro e w6 ⟨rfl, hb⟩; refine ⟨_, rfl, ?_⟩; have n0_ := Aside0.mk (below_step (by repeat (first | (with_reducible first | exact HB.out | apply below_alloc | apply pw_below_drewN | apply below_drew1) | exact HB.out)) hb); clear HB; have HB := n0_; clear n0_; (try clear hb); (try clear hb2); (try clear hk); (try clear hi)))
     go_meet
     case rel => exact ⟨_, (decide ((l1.length : Int) > 200)), (by first | rfl | (simp; done) | (simp [*]; done)), H', ⟨by first | omega | exact Nat.le_refl _⟩, ⟨by repeat (first | (with_reducible first | exact HB.out | apply below_alloc | apply pw_below_drewN | apply below_drew1) | exact HB.out)⟩⟩
  · replace c5 := Bool.eq_false_iff.mpr c5
    subst c5
    have H1 : (none) = some r := by rw [if_neg (show ¬ (false = true) by decide)] at H; exact H
    clear H
    have H := H1
    clear H1
    exact absurd H (by simp)
 case rest =>
  clear HC3
  (try clear c1); (try clear p2); (try clear c4); (try clear c5)
  obtain ⟨kq, x17_2, rfl, HA, HJ2, HB⟩ := hcut
  cases kq with
  | zero => exact absurd HA.out (by simp [impl_IsPlan.j0])
  | succ kj2 =>
   have H := HA.out
   clear HA
   simp only [impl_IsPlan.j0] at H
   by_cases c7 : x17_2 = true
   · subst c7
     have H1 : (none) = some r := by rw [if_pos rfl] at H; exact H
     clear H
     have H := H1
     clear H1
     exact absurd H (by simp)
   · replace c7 := Bool.eq_false_iff.mpr c7
     subst c7
     have H1 : ((impl_jobsOf.f l1).bind fun t165 => (impl_IsPlan.l0 kj2 l0 l1 t165 l1 (l1.length : Int) 0)) = some r := by rw [if_neg (show ¬ (false = true) by decide)] at H; exact H
     clear H
     have H := H1
     clear H1
     replace H := Option.bind_eq_some_iff.mp H
     obtain ⟨t165, A80, H⟩ := H
     replace H : (impl_IsPlan.l0 kj2 l0 l1 t165 l1 (l1.length : Int) 0) = some r := H
     have A8 := Aside0.mk A80
     clear A80
     have H' := Aside0.mk H
     clear H
     go_wp2_with (first | ((with_reducible refine gate_callee (f := 84) rfl ?_); refine goesL_ (some 19) rfl rfl Try.func84 (by kernel_rfl) rfl #[.slice A1 l1.length c1] rfl (by (try simp only [List.map_toArray, List.map_cons, List.map_nil]); first | done | rfl | (simp only [List.length_drop, List.length_take]; rfl)) ?_; (with_reducible refine (impl_jobsOf.calls _ _ l1 t165 _ ?side1 ?side2 A8.out).mono ?_); (case side1 => repeat (first | exact (Kd.C_below HR1.out HB.out) | (with_reducible refine Kd.C_alloc ?_ _) | (with_reducible refine Kd.C_drewN ?_ _) | (with_reducible refine Kd.C_drew ?_))); (case side2 => exact HC1.out); rintro e w9 ⟨v166, rfl, ho0, hb⟩; refine ⟨_, rfl, ?_⟩; have n0_ := Aside0.mk (Kd.R_lower ho0 (below_size (by repeat (first | (with_reducible first | exact HB.out | apply below_alloc | apply pw_below_drewN | apply below_drew1) | exact HB.out)))); have n1_ := Aside0.mk (below_step (by repeat (first | (with_reducible first | exact HB.out | apply below_alloc | apply pw_below_drewN | apply below_drew1) | exact HB.out)) hb); clear HB; have HO167 := n0_; have HB := n1_; clear n0_ n1_; (try clear hb); (try clear hb2); (try clear hk); (try clear hi); (try clear ho0)))
     go_loopg [22] kj2 (fun kq v22 w' => ∃ (x22_2 : Int), v22 = .int .i64 x22_2 ∧ Aside0 (impl_IsPlan.l0 kq l0 l1 t165 l1 (l1.length : Int) x22_2 = some r) ∧ Aside0 (kq ≤ kj2) ∧ Aside0 (Kd.R (Kd.int .i64) 2 w' w.heap.size (fun _ => True) v166 t165) ∧ Aside0 (Below w.heap.size w w'))
     case atStart => exact ⟨(0), (by first | rfl | (simp; done) | (simp [*]; done)), H', ⟨Nat.le_refl _⟩, ⟨by (with_reducible repeat (first | apply Kd.R_alloc | apply Kd.R_drewN | apply Kd.R_drew)); exact HO167.out⟩, ⟨by repeat (first | (with_reducible first | exact HB.out | apply below_alloc | apply pw_below_drewN | apply below_drew1) | exact HB.out)⟩⟩
     case round =>
      clear H'
      (try clear c1); (try clear p2); (try clear c4); (try clear c5); (try clear c7); (try clear c8); (try clear p2)
      obtain ⟨x22_2, rfl, HA, HK2, HO_5, HB⟩ := hrel
      cases gk with
      | zero => exact absurd HA.out (by simp [impl_IsPlan.l0])
      | succ k2 =>
       have H := HA.out
       clear HA
       simp only [impl_IsPlan.l0] at H
       by_cases c10 : x22_2 < (l1.length : Int)
       · rw [if_pos c10] at H
         have c10b0 : decide (x22_2 < (l1.length : Int)) = true := decide_eq_true c10
         clear c10
         by_cases c11 : 0 ≤ x22_2
         · rw [if_pos c11] at H
           have c11b0 : decide (0 ≤ x22_2) = true := decide_eq_true c11
           clear c11
           by_cases c12 : x22_2 < (l1.length : Int)
           · rw [if_pos c12] at H
             have c12b0 : decide (x22_2 < (l1.length : Int)) = true := decide_eq_true c12
             clear c12
             have HC13 := Aside0.mk H
             clear H
             have p168 : 0 ≤ (x22_2 : Int) := of_decide_eq_true (by first | (with_reducible assumption) | assumption)
             have q168 : x22_2 < (l1.length : Int) := of_decide_eq_true (by first | (with_reducible assumption) | assumption)
             obtain ⟨ad168, e168, hx168_0, hx168_1⟩ := at_T81 HR1.out x22_2 p168 q168
             cases e168
             replace hx168_0 := (HB.out.cell (World.block_lt_of_cell? w _ hx168_0)).trans hx168_0
             replace hx168_1 := (HB.out.cell (World.block_lt_of_cell? w _ hx168_1)).trans hx168_1
             replace p168 := eq_true p168
             replace q168 := eq_true q168
             go_upto_region 7 with (first | ((with_reducible refine gate_dst (N := 7) rfl ?_); (try (refine gate_guard (by rfl) ?_; dsimp only)); refine box_event ?hg (N := 7) ?hd (cs := #[.int .i64 0, .int .i64 0]) (t := 81) ?hr ?_; (case hd => rfl); (case hg => rfl); (case hr => first | (go_simp; done) | (go_simp; rfl)); intro gb169 hg w14 hbox hb; have n0_ := Aside0.mk (Kd.R_below (by (with_reducible repeat (first | apply Kd.R_alloc | apply Kd.R_drewN | apply Kd.R_drew)); exact HO_5.out) hb); have n1_ := Aside0.mk (below_step (by repeat (first | (with_reducible first | exact HB.out | apply below_alloc | apply pw_below_drewN | apply below_drew1) | exact HB.out)) hb); have n2_ := Aside0.mk (hbox); have n3_ := Aside0.mk ((by rw [hg]; exact (below_size (by repeat (first | (with_reducible first | exact HB.out | apply below_alloc | apply pw_below_drewN | apply below_drew1) | exact HB.out))) : w.heap.size ≤ gb169)); have n4_ := Aside0.mk ((by rw [hg]; exact (below_size (by repeat (first | (with_reducible first | exact HB.out | apply below_alloc | apply pw_below_drewN | apply below_drew1) | exact HB.out))) : w.heap.size ≤ gb169)); clear HO_5; clear HB; have HO_5 := n0_; have HB := n1_; have BK169 := n2_; have GW169 := n3_; have GE169 := n4_; clear n0_ n1_ n2_ n3_ n4_; clear hb hbox hg; have hcz15_0 : w14.cell? ⟨gb169, 0, none⟩ = some (.int .i64 0) := (blk_cell BK169.out 0).trans rfl; have hcz15_1 : w14.cell? ⟨gb169, 1, none⟩ = some (.int .i64 0) := (blk_cell BK169.out 1).trans rfl; have hfz15_0 := blk_frozen BK169.out 0; have hfz15_1 := blk_frozen BK169.out 1))
             (try simp only [Act.put, List.setIfInBounds_toArray, List.set_cons_zero, List.set_cons_succ])
             go_cut [55] (fun v55 wc => ∃ (kq : Nat) (x55_12 : Bool), v55 = .bool x55_12 ∧ Aside0 (impl_IsPlan.j2 kq l0 l1 t165 x22_2 l1 (l1.length : Int) x22_2 x55_12 ((rd_T81 l1 x22_2).f0) ((rd_T81 l1 x22_2).f1) = some r) ∧ Aside0 (kq ≤ k2) ∧ Aside0 (Kd.R (Kd.int .i64) 2 wc w.heap.size (fun _ => True) v166 t165) ∧ Aside0 (wc.heap[gb169]? = some (.cells #[.int .i64 ((rd_T81 l1 x22_2).f0), .int .i64 ((rd_T81 l1 x22_2).f1)] 81 (0, 0))) ∧ Aside0 (Below w.heap.size w wc))
             case first =>
              have H := HC13.out
              clear HC13
              replace H := Option.bind_eq_some_iff.mp H
              obtain ⟨t170, A160, H⟩ := H
              replace H : (if t170 = true then ((impl_within.f ((rd_T81 l1 x22_2).f1) 0 100000).bind fun t171 => (if t171 = true then (if x22_2 < (t165.length : Int) then (if 0 ≤ ((rd_T81 l1 x22_2).f0) then (if ((rd_T81 l1 x22_2).f0) < (l0.length : Int) then (impl_IsPlan.j2 k2 l0 l1 t165 x22_2 l1 (l1.length : Int) x22_2 (decide (((rd_T81 l1 x22_2).f1) < (wrap64 ((rd t165 x22_2) * ((rd_T54 l0 ((rd_T81 l1 x22_2).f0)).f2))))) ((rd_T81 l1 x22_2).f0) ((rd_T81 l1 x22_2).f1)) else (none)) else (none)) else (none)) else (none))) else (none)) = some r := H
              have A16 := Aside0.mk A160
              clear A160
              by_cases c17 : t170 = true
              · subst c17
                have H1 : ((impl_within.f ((rd_T81 l1 x22_2).f1) 0 100000).bind fun t171 => (if t171 = true then (if x22_2 < (t165.length : Int) then (if 0 ≤ ((rd_T81 l1 x22_2).f0) then (if ((rd_T81 l1 x22_2).f0) < (l0.length : Int) then (impl_IsPlan.j2 k2 l0 l1 t165 x22_2 l1 (l1.length : Int) x22_2 (decide (((rd_T81 l1 x22_2).f1) < (wrap64 ((rd t165 x22_2) * ((rd_T54 l0 ((rd_T81 l1 x22_2).f0)).f2))))) ((rd_T81 l1 x22_2).f0) ((rd_T81 l1 x22_2).f1)) else (none)) else (none)) else (none)) else (none))) = some r := by rw [if_pos rfl] at H; exact H
                clear H
                have H := H1
                clear H1
                replace H := Option.bind_eq_some_iff.mp H
                obtain ⟨t171, A180, H⟩ := H
                replace H : (if t171 = true then (if x22_2 < (t165.length : Int) then (if 0 ≤ ((rd_T81 l1 x22_2).f0) then (if ((rd_T81 l1 x22_2).f0) < (l0.length : Int) then (impl_IsPlan.j2 k2 l0 l1 t165 x22_2 l1 (l1.length : Int) x22_2 (decide (((rd_T81 l1 x22_2).f1) < (wrap64 ((rd t165 x22_2) * ((rd_T54 l0 ((rd_T81 l1 x22_2).f0)).f2))))) ((rd_T81 l1 x22_2).f0) ((rd_T81 l1 x22_2).f1)) else (none)) else (none)) else (none)) else (none)) = some r := H
                have A18 := Aside0.mk A180
                clear A180
                by_cases c19 : t171 = true
                · subst c19
                  have H1 : (if x22_2 < (t165.length : Int) then (if 0 ≤ ((rd_T81 l1 x22_2).f0) then (if ((rd_T81 l1 x22_2).f0) < (l0.length : Int) then (impl_IsPlan.j2 k2 l0 l1 t165 x22_2 l1 (l1.length : Int) x22_2 (decide (((rd_T81 l1 x22_2).f1) < (wrap64 ((rd t165 x22_2) * ((rd_T54 l0 ((rd_T81 l1 x22_2).f0)).f2))))) ((rd_T81 l1 x22_2).f0) ((rd_T81 l1 x22_2).f1)) else (none)) else (none)) else (none)) = some r := by rw [if_pos rfl] at H; exact H
                  clear H
                  have H := H1
                  clear H1
                  by_cases c20 : x22_2 < (t165.length : Int)
                  · rw [if_pos c20] at H
                    have c20b0 : decide (x22_2 < (t165.length : Int)) = true := decide_eq_true c20
                    clear c20
                    (first | rw [c20b0] | (simp only [i64_w, i32_w]; rw [c20b0]) | skip)
                    by_cases c21 : 0 ≤ ((rd_T81 l1 x22_2).f0)
                    · rw [if_pos c21] at H
                      have c21b0 : decide (0 ≤ ((rd_T81 l1 x22_2).f0)) = true := decide_eq_true c21
                      clear c21
                      by_cases c22 : ((rd_T81 l1 x22_2).f0) < (l0.length : Int)
                      · rw [if_pos c22] at H
                        have c22b0 : decide (((rd_T81 l1 x22_2).f0) < (l0.length : Int)) = true := decide_eq_true c22
                        clear c22
                        as_aux_lemma =>
                         have H' := Aside0.mk H
                         clear H
                         try go_wp2
                         have n0_ : Aside0 (Kd.R (Kd.int .i64) 2 ((w14.setCell ⟨gb169, 0, none⟩ (.int .i64 ((rd_T81 l1 x22_2).f0))).setCell ⟨gb169, 1, none⟩ (.int .i64 ((rd_T81 l1 x22_2).f1))) w.heap.size (fun _ => True) v166 t165) := ⟨by (with_reducible repeat (first | apply Kd.R_alloc | apply Kd.R_drewN | apply Kd.R_drew)); exact Kd.R_mono (Kd.R_far (p := ⟨gb169, 1, none⟩) (Kd.R_far (p := ⟨gb169, 0, none⟩) (Kd.R_types HO_5.out BK169.out (by decide)) (fun _ hk => hk.2) (.int .i64 ((rd_T81 l1 x22_2).f0))) (fun _ hk => hk.2) (.int .i64 ((rd_T81 l1 x22_2).f1))) (fun _ hk => trivial)⟩
                         have n1_ : Aside0 (((w14.setCell ⟨gb169, 0, none⟩ (.int .i64 ((rd_T81 l1 x22_2).f0))).setCell ⟨gb169, 1, none⟩ (.int .i64 ((rd_T81 l1 x22_2).f1))).heap[gb169]? = some (.cells #[.int .i64 ((rd_T81 l1 x22_2).f0), .int .i64 ((rd_T81 l1 x22_2).f1)] 81 (0, 0))) := ⟨by (with_reducible repeat (first | refine blk_drewN ?_ _ | refine blk_drew ?_ | refine blk_alloc ?_ _)); refine blk_put (cs := #[.int .i64 ((rd_T81 l1 x22_2).f0), .int .i64 0]) ?_ 1 _ rfl; (with_reducible repeat (first | refine blk_drewN ?_ _ | refine blk_drew ?_ | refine blk_alloc ?_ _)); refine blk_put (cs := #[.int .i64 0, .int .i64 0]) ?_ 0 _ rfl; (with_reducible repeat (first | refine blk_drewN ?_ _ | refine blk_drew ?_ | refine blk_alloc ?_ _)); exact BK169.out⟩
                         have n2_ : Aside0 (Below w.heap.size w ((w14.setCell ⟨gb169, 0, none⟩ (.int .i64 ((rd_T81 l1 x22_2).f0))).setCell ⟨gb169, 1, none⟩ (.int .i64 ((rd_T81 l1 x22_2).f1)))) := ⟨by repeat (first | (with_reducible first | exact HB.out | apply below_alloc | apply pw_below_drewN | apply below_drew1 | refine below_set ?_ GE169.out) | exact HB.out)⟩
                         (try clear HO_5)
                         (try clear BK169)
                         (try clear HB)
                         generalize ((w14.setCell ⟨gb169, 0, none⟩ (.int .i64 ((rd_T81 l1 x22_2).f0))).setCell ⟨gb169, 1, none⟩ (.int .i64 ((rd_T81 l1 x22_2).f1))) = w23 at n0_ n1_ n2_ ⊢
                         have HO_5 := n0_
                         have BK169 := n1_
                         have HB := n2_
                         clear n0_ n1_ n2_
                         have n0_ := Aside0.mk (Kd.R_drew HO_5.out)
                         have n1_ := Aside0.mk (blk_drew BK169.out)
                         have n2_ := Aside0.mk (below_drew1 HB.out)
                         clear HO_5
                         clear BK169
                         clear HB
                         have HO_5 := n0_
                         have BK169 := n1_
                         have HB := n2_
                         clear n0_ n1_ n2_
                         have p172 : 0 ≤ (x22_2 : Int) := of_decide_eq_true (by first | (with_reducible assumption) | assumption)
                         have q172 : x22_2 < (t165.length : Int) := of_decide_eq_true (by first | (with_reducible assumption) | assumption)
                         try (obtain ⟨A_5, c_5, hv_5⟩ := Kd.R_slice HO_5.out; subst hv_5)
                         obtain ⟨ad172, e172, hx172_0⟩ := Kd.at_int (Kd.R_reads' HO_5.out).2.2 x22_2 p172 q172
                         cases e172
                         replace p172 := eq_true p172
                         replace q172 := eq_true q172
                         have p173 : 0 ≤ (((rd_T81 l1 x22_2).f0) : Int) := of_decide_eq_true (by first | (with_reducible assumption) | assumption)
                         have q173 : ((rd_T81 l1 x22_2).f0) < (l0.length : Int) := of_decide_eq_true (by first | (with_reducible assumption) | assumption)
                         obtain ⟨ad173, e173, hx173_0, hx173_1, hx173_2, hx173_3⟩ := at_T54 HR0.out ((rd_T81 l1 x22_2).f0) p173 q173
                         have hw173_3 := hx173_3
                         have hw173_2 := hx173_2
                         have hw173_1 := hx173_1
                         have hw173_0 := hx173_0
                         cases e173
                         replace hx173_0 := (HB.out.cell (World.block_lt_of_cell? w _ hx173_0)).trans hx173_0
                         replace hx173_1 := (HB.out.cell (World.block_lt_of_cell? w _ hx173_1)).trans hx173_1
                         replace hx173_2 := (HB.out.cell (World.block_lt_of_cell? w _ hx173_2)).trans hx173_2
                         replace hx173_3 := (HB.out.cell (World.block_lt_of_cell? w _ hx173_3)).trans hx173_3
                         replace p173 := eq_true p173
                         replace q173 := eq_true q173
                         refine start_ (n := 29) (S := fun w' => w'.cell? ⟨gb169, 0, none⟩ = some (.int .i64 ((rd_T81 l1 x22_2).f0)) ∧ w'.cell? ⟨gb169, 1, none⟩ = some (.int .i64 ((rd_T81 l1 x22_2).f1)) ∧ w'.cell? (ad172.add (x22_2).toNat) = some (.int .i64 (rd t165 x22_2)) ∧ w'.cell? (ad173.add ((((rd_T81 l1 x22_2).f0)).toNat * 4)) = some (.int .i64 ((rd_T54 l0 ((rd_T81 l1 x22_2).f0)).f0.f0)) ∧ w'.cell? ⟨(ad173.add ((((rd_T81 l1 x22_2).f0)).toNat * 4)).block, (ad173.add ((((rd_T81 l1 x22_2).f0)).toNat * 4)).off + 1, none⟩ = some (.int .i64 ((rd_T54 l0 ((rd_T81 l1 x22_2).f0)).f0.f1)) ∧ w'.cell? ⟨(ad173.add ((((rd_T81 l1 x22_2).f0)).toNat * 4)).block, (ad173.add ((((rd_T81 l1 x22_2).f0)).toNat * 4)).off + 2, none⟩ = some (.int .i64 ((rd_T54 l0 ((rd_T81 l1 x22_2).f0)).f1)) ∧ w'.cell? ⟨(ad173.add ((((rd_T81 l1 x22_2).f0)).toNat * 4)).block, (ad173.add ((((rd_T81 l1 x22_2).f0)).toNat * 4)).off + 3, none⟩ = some (.int .i64 ((rd_T54 l0 ((rd_T81 l1 x22_2).f0)).f2))) (ds := []) #[false, false, false, false, false, false, false, false, false, false, false, false, false, false, false, false, false, false, false, false, false, false, false, false, false, false, false, false, false] (by kernel_rfl) rfl rfl ⟨(blk_cell BK169.out 0).trans rfl, (blk_cell BK169.out 1).trans rfl, hx172_0, ((HB.out.cell (World.block_lt_of_cell? w _ hw173_0)).trans hw173_0), ((HB.out.cell (World.block_lt_of_cell? w _ hw173_1)).trans hw173_1), ((HB.out.cell (World.block_lt_of_cell? w _ hw173_2)).trans hw173_2), ((HB.out.cell (World.block_lt_of_cell? w _ hw173_3)).trans hw173_3)⟩ (fun hHeld => ?_); refine with_tabW impl_IsPlan.tab7 impl_IsPlan.bits7 (fun HT_ HW_ => ?_)
                         generalize w23.drew = w24 at HO_5 BK169 HB hx172_0 hx173_0 hx173_1 hx173_2 hx173_3 hHeld ⊢
                         refine pure_ (i := 0) (N := some 27) (v := ?_) (a' := ?_) #[true, false, false, false, false, false, false, false, false, false, false, false, false, false, false, false, false, false, false, false, false, false, false, false, false, false, false, false, false] rfl rfl (any_of HT_.out (by kernel_rfl)) (fun _ _ _ h => h) (Or.inl ⟨by rfl, ?_⟩) ?_ ?_; rotate_left 4
                         refine pure_ (i := 2) (N := some 29) (v := ?_) (a' := ?_) #[true, false, true, false, false, false, false, false, false, false, false, false, false, false, false, false, false, false, false, false, false, false, false, false, false, false, false, false, false] rfl rfl (any_of HT_.out (by kernel_rfl)) (fun _ _ _ h => h) (Or.inl ⟨by rfl, ?_⟩) ?_ ?_; rotate_left 4
                         refine pure_ (i := 3) (N := some 30) (v := ?_) (a' := ?_) #[true, false, true, true, false, false, false, false, false, false, false, false, false, false, false, false, false, false, false, false, false, false, false, false, false, false, false, false, false] rfl rfl (any_of HT_.out (by kernel_rfl)) (fun _ _ _ h => h) (Or.inl ⟨by rfl, ?_⟩) ?_ ?_; rotate_left 4
                         refine pure_ (i := 4) (N := some 31) (v := ?_) (a' := ?_) #[true, false, true, true, true, false, false, false, false, false, false, false, false, false, false, false, false, false, false, false, false, false, false, false, false, false, false, false, false] rfl rfl (any_of HT_.out (by kernel_rfl)) (fun _ _ _ h => h) (Or.inl ⟨by rfl, ?_⟩) ?_ ?_; rotate_left 4
                         rotate_left; iterate 4 (rotate_left; (intro w'; go_simp; with_reducible rfl); rotate_left; (simp only [Act.put, List.setIfInBounds_toArray, List.set_cons_zero, List.set_cons_succ, i64_w, i32_w]; rfl))
                         refine take_ (i := 1) (N := some 28) (v := ?_) (a' := ?_) #[true, true, true, true, true, false, false, false, false, false, false, false, false, false, false, false, false, false, false, false, false, false, false, false, false, false, false, false, false] rfl rfl (take_ofW HT_.out HW_.out (by kernel_rfl)) (fun _ _ _ h => h) (Or.inl ⟨by rfl, ?_⟩) hHeld ?_ ?_
                         rotate_left
                         · rintro w' ⟨s0, s1, s2, s3, s4, s5, s6⟩
                           go_simp
                           with_reducible rfl
                         rotate_left
                         · simp only [Act.put, List.setIfInBounds_toArray, List.set_cons_zero, List.set_cons_succ, i64_w, i32_w]
                           rfl
                         refine one_ (i := 5) (N := some 32) #[true, true, true, true, true, true, false, false, false, false, false, false, false, false, false, false, false, false, false, false, false, false, false, false, false, false, false, false, false] rfl rfl (one_of HT_.out (by kernel_rfl)) (by decide) (fun K hK => ?_)
                         refine goes_ Try.func59 (by kernel_rfl) rfl #[.int .i64 ((rd_T81 l1 x22_2).f0), .int .i64 0, .int .i64 (wrap64 ((l0.length : Int) - 1))] (by rfl) rfl rfl (by (try simp only [List.map_toArray, List.map_cons, List.map_nil]); first | done | rfl | (simp only [List.length_drop, List.length_take]; rfl)) ?_
                         with_reducible refine (impl_within.calls ((rd_T81 l1 x22_2).f0) 0 (wrap64 ((l0.length : Int) - 1)) true _ A16.out).mono ?_
                         rintro e w' ⟨rfl, ⟨nd, rfl⟩⟩
                         refine ⟨_, rfl, ?_⟩
                         refine hK.out _ _ ⟨(blk_cell BK169.out 0).trans rfl, (blk_cell BK169.out 1).trans rfl, hHeld.2.2.1, ((HB.out.cell (World.block_lt_of_cell? w _ hw173_0)).trans hw173_0), ((HB.out.cell (World.block_lt_of_cell? w _ hw173_1)).trans hw173_1), ((HB.out.cell (World.block_lt_of_cell? w _ hw173_2)).trans hw173_2), ((HB.out.cell (World.block_lt_of_cell? w _ hw173_3)).trans hw173_3)⟩ (fun hHeld => ?_)
                         clear hK K
                         refine norm_ (a' := ?_) ?_ ?_
                         rotate_left
                         · show Act.put _ (some 32) _ = _
                           simp only [Act.put, List.setIfInBounds_toArray, List.set_cons_zero, List.set_cons_succ, i64_w, i32_w]
                           rfl
                         refine pure_ (i := 6) (N := some 33) (v := ?_) (a' := ?_) #[true, true, true, true, true, true, true, false, false, false, false, false, false, false, false, false, false, false, false, false, false, false, false, false, false, false, false, false, false] rfl rfl (any_of HT_.out (by kernel_rfl)) (fun _ _ _ h => h) (Or.inl ⟨by rfl, ?_⟩) ?_ ?_; rotate_left 4
                         refine pure_ (i := 7) (N := some 34) (v := ?_) (a' := ?_) #[true, true, true, true, true, true, true, true, false, false, false, false, false, false, false, false, false, false, false, false, false, false, false, false, false, false, false, false, false] rfl rfl (any_of HT_.out (by kernel_rfl)) (fun _ _ _ h => h) (Or.inl ⟨by rfl, ?_⟩) ?_ ?_; rotate_left 4
                         rotate_left; iterate 2 (rotate_left; (intro w'; go_simp; with_reducible rfl); rotate_left; (simp only [Act.put, List.setIfInBounds_toArray, List.set_cons_zero, List.set_cons_succ, i64_w, i32_w]; rfl))
                         refine pure_ (i := 8) (N := some 35) (v := ?_) (a' := ?_) #[true, true, true, true, true, true, true, true, true, false, false, false, false, false, false, false, false, false, false, false, false, false, false, false, false, false, false, false, false] rfl rfl (any_of HT_.out (by kernel_rfl)) (fun _ _ _ h => h) (Or.inl ⟨by rfl, ?_⟩) ?_ ?_; rotate_left; (intro w'; go_simp; with_reducible rfl); rotate_left; (simp only [Act.put, List.setIfInBounds_toArray, List.set_cons_zero, List.set_cons_succ, i64_w, i32_w]; rfl)
                         refine take_ (i := 9) (N := some 36) (v := ?_) (a' := ?_) #[true, true, true, true, true, true, true, true, true, true, false, false, false, false, false, false, false, false, false, false, false, false, false, false, false, false, false, false, false] rfl rfl (take_ofW HT_.out HW_.out (by kernel_rfl)) (fun _ _ _ h => h) (Or.inl ⟨by rfl, ?_⟩) hHeld ?_ ?_
                         rotate_left
                         · rintro w' ⟨s0, s1, s2, s3, s4, s5, s6⟩
                           go_simp
                           with_reducible rfl
                         rotate_left
                         · simp only [Act.put, List.setIfInBounds_toArray, List.set_cons_zero, List.set_cons_succ, i64_w, i32_w]
                           rfl
                         refine one_ (i := 10) (N := some 37) #[true, true, true, true, true, true, true, true, true, true, true, false, false, false, false, false, false, false, false, false, false, false, false, false, false, false, false, false, false] rfl rfl (one_of HT_.out (by kernel_rfl)) (by decide) (fun K hK => ?_)
                         refine goes_ Try.func59 (by kernel_rfl) rfl #[.int .i64 ((rd_T81 l1 x22_2).f1), .int .i64 0, .int .i64 100000] (by rfl) rfl rfl (by (try simp only [List.map_toArray, List.map_cons, List.map_nil]); first | done | rfl | (simp only [List.length_drop, List.length_take]; rfl)) ?_
                         with_reducible refine (impl_within.calls ((rd_T81 l1 x22_2).f1) 0 100000 true _ A18.out).mono ?_
                         rintro e w' ⟨rfl, ⟨nd, rfl⟩⟩
                         refine ⟨_, rfl, ?_⟩
                         obtain ⟨Ao25, co25, eo25⟩ := Kd.R_slice HO_5.out
                         (first | subst eo25 | (injection eo25 with f1_ f2_ f3_; have f4_ := f1_.symm; have f5_ := f3_.symm; clear f1_ f2_ f3_; subst f4_; subst f5_))
                         refine hK.out _ _ ⟨(blk_cell BK169.out 0).trans rfl, (blk_cell BK169.out 1).trans rfl, hHeld.2.2.1, ((HB.out.cell (World.block_lt_of_cell? w _ hw173_0)).trans hw173_0), ((HB.out.cell (World.block_lt_of_cell? w _ hw173_1)).trans hw173_1), ((HB.out.cell (World.block_lt_of_cell? w _ hw173_2)).trans hw173_2), ((HB.out.cell (World.block_lt_of_cell? w _ hw173_3)).trans hw173_3)⟩ (fun hHeld => ?_)
                         clear hK K
                         refine norm_ (a' := ?_) ?_ ?_
                         rotate_left
                         · show Act.put _ (some 37) _ = _
                           simp only [Act.put, List.setIfInBounds_toArray, List.set_cons_zero, List.set_cons_succ, i64_w, i32_w]
                           rfl
                         refine pure_ (i := 11) (N := some 38) (v := ?_) (a' := ?_) #[true, true, true, true, true, true, true, true, true, true, true, true, false, false, false, false, false, false, false, false, false, false, false, false, false, false, false, false, false] rfl rfl (any_of HT_.out (by kernel_rfl)) (fun _ _ _ h => h) (Or.inl ⟨by rfl, ?_⟩) ?_ ?_; rotate_left; (intro w'; go_simp; with_reducible rfl); rotate_left; (simp only [Act.put, List.setIfInBounds_toArray, List.set_cons_zero, List.set_cons_succ, i64_w, i32_w]; rfl)
                         refine pure_ (i := 12) (N := some 39) (v := ?_) (a' := ?_) #[true, true, true, true, true, true, true, true, true, true, true, true, true, false, false, false, false, false, false, false, false, false, false, false, false, false, false, false, false] rfl rfl (any_of HT_.out (by kernel_rfl)) (fun _ _ _ h => h) (Or.inl ⟨by rfl, ?_⟩) ?_ ?_; rotate_left 4
                         refine pure_ (i := 13) (N := some 40) (v := ?_) (a' := ?_) #[true, true, true, true, true, true, true, true, true, true, true, true, true, true, false, false, false, false, false, false, false, false, false, false, false, false, false, false, false] rfl rfl (any_of HT_.out (by kernel_rfl)) (fun _ _ _ h => h) (Or.inl ⟨by rfl, ?_⟩) ?_ ?_; rotate_left 4
                         rotate_left; iterate 2 (rotate_left; (intro w'; go_simp; with_reducible rfl); rotate_left; (simp only [Act.put, List.setIfInBounds_toArray, List.set_cons_zero, List.set_cons_succ, i64_w, i32_w]; rfl))
                         refine pure_ (i := 14) (N := some 41) (v := ?_) (a' := ?_) #[true, true, true, true, true, true, true, true, true, true, true, true, true, true, true, false, false, false, false, false, false, false, false, false, false, false, false, false, false] rfl rfl (any_of HT_.out (by kernel_rfl)) (fun _ _ _ h => h) (Or.inl ⟨by rfl, ?_⟩) ?_ ?_; rotate_left; (intro w'; go_simp; with_reducible rfl); rotate_left; (simp only [Act.put, List.setIfInBounds_toArray, List.set_cons_zero, List.set_cons_succ, i64_w, i32_w]; rfl)
                         refine pure_ (i := 16) (N := some 43) (v := ?_) (a' := ?_) #[true, true, true, true, true, true, true, true, true, true, true, true, true, true, true, false, true, false, false, false, false, false, false, false, false, false, false, false, false] rfl rfl (any_of HT_.out (by kernel_rfl)) (fun _ _ _ h => h) (Or.inl ⟨by rfl, ?_⟩) ?_ ?_; rotate_left; (intro w'; go_simp; with_reducible rfl); rotate_left; (simp only [Act.put, List.setIfInBounds_toArray, List.set_cons_zero, List.set_cons_succ, i64_w, i32_w]; rfl)
                         refine pure_ (i := 17) (N := some 44) (v := ?_) (a' := ?_) #[true, true, true, true, true, true, true, true, true, true, true, true, true, true, true, false, true, true, false, false, false, false, false, false, false, false, false, false, false] rfl rfl (any_of HT_.out (by kernel_rfl)) (fun _ _ _ h => h) (Or.inl ⟨by rfl, ?_⟩) ?_ ?_; rotate_left; (intro w'; go_simp; with_reducible rfl); rotate_left; (simp only [Act.put, List.setIfInBounds_toArray, List.set_cons_zero, List.set_cons_succ, i64_w, i32_w]; rfl)
                         refine pure_ (i := 18) (N := some 45) (v := ?_) (a' := ?_) #[true, true, true, true, true, true, true, true, true, true, true, true, true, true, true, false, true, true, true, false, false, false, false, false, false, false, false, false, false] rfl rfl (any_of HT_.out (by kernel_rfl)) (fun _ _ _ h => h) (Or.inl ⟨by rfl, ?_⟩) ?_ ?_; rotate_left; (intro w'; go_simp; with_reducible rfl); rotate_left; (simp only [Act.put, List.setIfInBounds_toArray, List.set_cons_zero, List.set_cons_succ, i64_w, i32_w]; rfl)
                         refine pure_ (i := 20) (N := some 47) (v := ?_) (a' := ?_) #[true, true, true, true, true, true, true, true, true, true, true, true, true, true, true, false, true, true, true, false, true, false, false, false, false, false, false, false, false] rfl rfl (any_of HT_.out (by kernel_rfl)) (fun _ _ _ h => h) (Or.inl ⟨by rfl, ?_⟩) ?_ ?_; rotate_left; (intro w'; go_simp; with_reducible rfl); rotate_left; (simp only [Act.put, List.setIfInBounds_toArray, List.set_cons_zero, List.set_cons_succ, i64_w, i32_w]; rfl)
                         refine pure_ (i := 21) (N := some 48) (v := ?_) (a' := ?_) #[true, true, true, true, true, true, true, true, true, true, true, true, true, true, true, false, true, true, true, false, true, true, false, false, false, false, false, false, false] rfl rfl (any_of HT_.out (by kernel_rfl)) (fun _ _ _ h => h) (Or.inl ⟨by rfl, ?_⟩) ?_ ?_; rotate_left; (intro w'; go_simp; with_reducible rfl); rotate_left; (simp only [Act.put, List.setIfInBounds_toArray, List.set_cons_zero, List.set_cons_succ, i64_w, i32_w]; rfl)
                         refine take_ (i := 15) (N := some 42) (v := ?_) (a' := ?_) #[true, true, true, true, true, true, true, true, true, true, true, true, true, true, true, true, true, true, true, false, true, true, false, false, false, false, false, false, false] rfl rfl (take_ofW HT_.out HW_.out (by kernel_rfl)) (fun _ _ _ h => h) (Or.inl ⟨by rfl, ?_⟩) hHeld ?_ ?_
                         rotate_left
                         · rintro w' ⟨s0, s1, s2, s3, s4, s5, s6⟩
                           go_simp
                           with_reducible rfl
                         rotate_left
                         · simp only [Act.put, List.setIfInBounds_toArray, List.set_cons_zero, List.set_cons_succ, i64_w, i32_w]
                           rfl
                         refine take_ (i := 19) (N := some 46) (v := ?_) (a' := ?_) #[true, true, true, true, true, true, true, true, true, true, true, true, true, true, true, true, true, true, true, true, true, true, false, false, false, false, false, false, false] rfl rfl (take_ofW HT_.out HW_.out (by kernel_rfl)) (fun _ _ _ h => h) (Or.inl ⟨by rfl, ?_⟩) hHeld ?_ ?_
                         rotate_left
                         · rintro w' ⟨s0, s1, s2, s3, s4, s5, s6⟩
                           go_simp
                           with_reducible rfl
                         rotate_left
                         · simp only [Act.put, List.setIfInBounds_toArray, List.set_cons_zero, List.set_cons_succ, i64_w, i32_w]
                           rfl
                         refine take_ (i := 22) (N := some 49) (v := ?_) (a' := ?_) #[true, true, true, true, true, true, true, true, true, true, true, true, true, true, true, true, true, true, true, true, true, true, true, false, false, false, false, false, false] rfl rfl (take_ofW HT_.out HW_.out (by kernel_rfl)) (fun _ _ _ h => h) (Or.inl ⟨by rfl, ?_⟩) hHeld ?_ ?_
                         rotate_left
                         · rintro w' ⟨s0, s1, s2, s3, s4, s5, s6⟩
                           go_simp
                           with_reducible rfl
                         rotate_left
                         · simp only [Act.put, List.setIfInBounds_toArray, List.set_cons_zero, List.set_cons_succ, i64_w, i32_w]
                           rfl
                         refine pure_ (i := 23) (N := some 50) (v := ?_) (a' := ?_) #[true, true, true, true, true, true, true, true, true, true, true, true, true, true, true, true, true, true, true, true, true, true, true, true, false, false, false, false, false] rfl rfl (any_of HT_.out (by kernel_rfl)) (fun _ _ _ h => h) (Or.inl ⟨by rfl, ?_⟩) ?_ ?_; rotate_left; (intro w'; go_simp; with_reducible rfl); rotate_left; (simp only [Act.put, List.setIfInBounds_toArray, List.set_cons_zero, List.set_cons_succ, i64_w, i32_w]; rfl)
                         refine pure_ (i := 24) (N := some 51) (v := ?_) (a' := ?_) #[true, true, true, true, true, true, true, true, true, true, true, true, true, true, true, true, true, true, true, true, true, true, true, true, true, false, false, false, false] rfl rfl (any_of HT_.out (by kernel_rfl)) (fun _ _ _ h => h) (Or.inl ⟨by rfl, ?_⟩) ?_ ?_; rotate_left; (intro w'; go_simp; with_reducible rfl); rotate_left; (simp only [Act.put, List.setIfInBounds_toArray, List.set_cons_zero, List.set_cons_succ, i64_w, i32_w]; rfl)
                         refine take_ (i := 25) (N := some 52) (v := ?_) (a' := ?_) #[true, true, true, true, true, true, true, true, true, true, true, true, true, true, true, true, true, true, true, true, true, true, true, true, true, true, false, false, false] rfl rfl (take_ofW HT_.out HW_.out (by kernel_rfl)) (fun _ _ _ h => h) (Or.inl ⟨by rfl, ?_⟩) hHeld ?_ ?_
                         rotate_left
                         · rintro w' ⟨s0, s1, s2, s3, s4, s5, s6⟩
                           go_simp
                           with_reducible rfl
                         rotate_left
                         · simp only [Act.put, List.setIfInBounds_toArray, List.set_cons_zero, List.set_cons_succ, i64_w, i32_w]
                           rfl
                         refine pure_ (i := 26) (N := some 53) (v := ?_) (a' := ?_) #[true, true, true, true, true, true, true, true, true, true, true, true, true, true, true, true, true, true, true, true, true, true, true, true, true, true, true, false, false] rfl rfl (any_of HT_.out (by kernel_rfl)) (fun _ _ _ h => h) (Or.inl ⟨by rfl, ?_⟩) ?_ ?_; rotate_left; (intro w'; go_simp; with_reducible rfl); rotate_left; (simp only [Act.put, List.setIfInBounds_toArray, List.set_cons_zero, List.set_cons_succ, i64_w, i32_w]; rfl)
                         refine pure_ (i := 27) (N := some 54) (v := ?_) (a' := ?_) #[true, true, true, true, true, true, true, true, true, true, true, true, true, true, true, true, true, true, true, true, true, true, true, true, true, true, true, true, false] rfl rfl (any_of HT_.out (by kernel_rfl)) (fun _ _ _ h => h) (Or.inl ⟨by rfl, ?_⟩) ?_ ?_; rotate_left; (intro w'; go_simp; with_reducible rfl); rotate_left; (simp only [Act.put, List.setIfInBounds_toArray, List.set_cons_zero, List.set_cons_succ, i64_w, i32_w]; rfl)
                         refine pure_ (i := 28) (N := some 55) (v := ?_) (a' := ?_) #[true, true, true, true, true, true, true, true, true, true, true, true, true, true, true, true, true, true, true, true, true, true, true, true, true, true, true, true, true] rfl rfl (any_of HT_.out (by kernel_rfl)) (fun _ _ _ h => h) (Or.inl ⟨by rfl, ?_⟩) ?_ ?_; rotate_left 4
                         rotate_left; iterate 1 (rotate_left; (intro w'; go_simp; with_reducible rfl); rotate_left; (simp only [Act.put, List.setIfInBounds_toArray, List.set_cons_zero, List.set_cons_succ, i64_w, i32_w]; rfl))
                         refine done_ (done_of HT_.out (by kernel_rfl)) ?_
                         try go_wp2
                         go_meet
                         case rel => exact ⟨_, (decide (((rd_T81 l1 x22_2).f1) < (wrap64 ((rd t165 x22_2) * ((rd_T54 l0 ((rd_T81 l1 x22_2).f0)).f2))))), (by first | rfl | (simp; done) | (simp [*]; done)), H', ⟨by have := HJ2.out; have := HK2.out; first | omega | exact Nat.le_refl _⟩, ⟨by (with_reducible repeat (first | apply Kd.R_alloc | apply Kd.R_drewN | apply Kd.R_drew)); exact HO_5.out⟩, ⟨by (with_reducible repeat (first | refine blk_drewN ?_ _ | refine blk_drew ?_ | refine blk_alloc ?_ _)); exact BK169.out⟩, ⟨by repeat (first | (with_reducible first | exact HB.out | apply below_alloc | apply pw_below_drewN | apply below_drew1 | refine below_set ?_ GE169.out) | exact HB.out)⟩⟩
                      · rw [if_neg c22] at H
                        exact absurd H (by simp)
                    · rw [if_neg c21] at H
                      exact absurd H (by simp)
                  · rw [if_neg c20] at H
                    exact absurd H (by simp)
                · replace c19 := Bool.eq_false_iff.mpr c19
                  subst c19
                  have H1 : (none) = some r := by rw [if_neg (show ¬ (false = true) by decide)] at H; exact H
                  clear H
                  have H := H1
                  clear H1
                  exact absurd H (by simp)
              · replace c17 := Bool.eq_false_iff.mpr c17
                subst c17
                have H1 : (none) = some r := by rw [if_neg (show ¬ (false = true) by decide)] at H; exact H
                clear H
                have H := H1
                clear H1
                exact absurd H (by simp)
             case rest =>
              clear HC13
              (try clear c1); (try clear p1); (try clear q1); (try clear hx1); (try clear c2); (try clear p2); (try clear c4); (try clear c5); (try clear p6); (try clear c7); (try clear c8); (try clear c10); (try clear c10b0); (try clear c11); (try clear c11b0); (try clear c12); (try clear c12b0); (try clear p16); (try clear q16); (try clear hx16); (try clear c17); (try clear p17); (try clear q17); (try clear hx17); (try clear c19); (try clear c20); (try clear c20b0); (try clear c21); (try clear c21b0); (try clear c22); (try clear c22b0); (try clear hcz15_0); (try clear hcz15_1); (try clear hfz15_0); (try clear hfz15_1); (try clear hx168_0); (try clear hx168_1); (try clear hx172_0); (try clear hx173_0); (try clear hx173_1); (try clear hx173_2); (try clear hx173_3); (try clear p168); (try clear p172); (try clear p173); (try clear p2); (try clear q168); (try clear q172); (try clear q173)
              obtain ⟨kq, x55_12, rfl, HA, HJ12, HO_5, BK169, HB⟩ := hcut
              cases kq with
              | zero => exact absurd HA.out (by simp [impl_IsPlan.j2])
              | succ kj12 =>
               have H := HA.out
               clear HA
               simp only [impl_IsPlan.j2] at H
               by_cases c26 : x55_12 = true
               · subst c26
                 have H1 : (none) = some r := by rw [if_pos rfl] at H; exact H
                 clear H
                 have H := H1
                 clear H1
                 exact absurd H (by simp)
               · replace c26 := Bool.eq_false_iff.mpr c26
                 subst c26
                 have H1 : (if x22_2 > 0 then (if 0 ≤ (wrap64 (x22_2 - 1)) then (if (wrap64 (x22_2 - 1)) < (l1.length : Int) then (if 0 ≤ ((rd_T81 l1 (wrap64 (x22_2 - 1))).f0) then (if ((rd_T81 l1 (wrap64 (x22_2 - 1))).f0) < (l0.length : Int) then (if 0 ≤ ((rd_T81 l1 x22_2).f0) then (if ((rd_T81 l1 x22_2).f0) < (l0.length : Int) then ((impl_switchTicks.f ((rd_T54 l0 ((rd_T81 l1 (wrap64 (x22_2 - 1))).f0)).f0.f0) ((rd_T54 l0 ((rd_T81 l1 (wrap64 (x22_2 - 1))).f0)).f0.f1) ((rd_T54 l0 ((rd_T81 l1 x22_2).f0)).f0.f0) ((rd_T54 l0 ((rd_T81 l1 x22_2).f0)).f0.f1)).bind fun t179 => (if ((rd_T81 l1 x22_2).f1) < (wrap64 ((wrap64 (((rd_T81 l1 (wrap64 (x22_2 - 1))).f1) + ((rd_T54 l0 ((rd_T81 l1 (wrap64 (x22_2 - 1))).f0)).f1))) + t179)) then (none) else (impl_IsPlan.l0 kj12 l0 l1 t165 l1 (l1.length : Int) (wrap64 (x22_2 + 1))))) else (none)) else (none)) else (none)) else (none)) else (none)) else (none)) else (impl_IsPlan.l0 kj12 l0 l1 t165 l1 (l1.length : Int) (wrap64 (x22_2 + 1)))) = some r := by rw [if_neg (show ¬ (false = true) by decide)] at H; exact H
                 clear H
                 have H := H1
                 clear H1
                 by_cases c27 : x22_2 > 0
                 · rw [if_pos c27] at H
                   have c27b0 : decide (0 < x22_2) = true := decide_eq_true c27
                   clear c27
                   obtain ⟨ji28, hji28⟩ : ∃ j_ : Int, (wrap64 (x22_2 - 1)) = j_ := ⟨_, rfl⟩
                   replace H : (if 0 ≤ (ji28) then (if (ji28) < (l1.length : Int) then (if 0 ≤ ((rd_T81 l1 (ji28)).f0) then (if ((rd_T81 l1 (ji28)).f0) < (l0.length : Int) then (if 0 ≤ ((rd_T81 l1 x22_2).f0) then (if ((rd_T81 l1 x22_2).f0) < (l0.length : Int) then ((impl_switchTicks.f ((rd_T54 l0 ((rd_T81 l1 (ji28)).f0)).f0.f0) ((rd_T54 l0 ((rd_T81 l1 (ji28)).f0)).f0.f1) ((rd_T54 l0 ((rd_T81 l1 x22_2).f0)).f0.f0) ((rd_T54 l0 ((rd_T81 l1 x22_2).f0)).f0.f1)).bind fun t179 => (if ((rd_T81 l1 x22_2).f1) < (wrap64 ((wrap64 (((rd_T81 l1 (ji28)).f1) + ((rd_T54 l0 ((rd_T81 l1 (ji28)).f0)).f1))) + t179)) then (none) else (impl_IsPlan.l0 kj12 l0 l1 t165 l1 (l1.length : Int) (wrap64 (x22_2 + 1))))) else (none)) else (none)) else (none)) else (none)) else (none)) else (none)) = some r := by first | (rw [hji28] at H; exact H) | (simp only [hji28] at H ⊢; exact H)
                   have hji28w : (IntKind.i64.wrap (x22_2 - 1)) = ji28 := (i64_w _).trans hji28
                   by_cases c29 : 0 ≤ (ji28)
                   · rw [if_pos c29] at H
                     have c29b0 : decide (0 ≤ (ji28)) = true := decide_eq_true c29
                     clear c29
                     by_cases c30 : (ji28) < (l1.length : Int)
                     · rw [if_pos c30] at H
                       have c30b0 : decide ((ji28) < (l1.length : Int)) = true := decide_eq_true c30
                       clear c30
                       by_cases c31 : 0 ≤ ((rd_T81 l1 (ji28)).f0)
                       · rw [if_pos c31] at H
                         have c31b0 : decide (0 ≤ ((rd_T81 l1 (ji28)).f0)) = true := decide_eq_true c31
                         clear c31
                         by_cases c32 : ((rd_T81 l1 (ji28)).f0) < (l0.length : Int)
                         · rw [if_pos c32] at H
                           have c32b0 : decide (((rd_T81 l1 (ji28)).f0) < (l0.length : Int)) = true := decide_eq_true c32
                           clear c32
                           by_cases c33 : 0 ≤ ((rd_T81 l1 x22_2).f0)
                           · rw [if_pos c33] at H
                             have c33b0 : decide (0 ≤ ((rd_T81 l1 x22_2).f0)) = true := decide_eq_true c33
                             clear c33
                             by_cases c34 : ((rd_T81 l1 x22_2).f0) < (l0.length : Int)
                             · rw [if_pos c34] at H
                               have c34b0 : decide (((rd_T81 l1 x22_2).f0) < (l0.length : Int)) = true := decide_eq_true c34
                               clear c34
                               replace H := Option.bind_eq_some_iff.mp H
                               obtain ⟨t179, A350, H⟩ := H
                               replace H : (if ((rd_T81 l1 x22_2).f1) < (wrap64 ((wrap64 (((rd_T81 l1 (ji28)).f1) + ((rd_T54 l0 ((rd_T81 l1 (ji28)).f0)).f1))) + t179)) then (none) else (impl_IsPlan.l0 kj12 l0 l1 t165 l1 (l1.length : Int) (wrap64 (x22_2 + 1)))) = some r := H
                               have A35 := Aside0.mk A350
                               clear A350
                               by_cases c36 : ((rd_T81 l1 x22_2).f1) < (wrap64 ((wrap64 (((rd_T81 l1 (ji28)).f1) + ((rd_T54 l0 ((rd_T81 l1 (ji28)).f0)).f1))) + t179))
                               · rw [if_pos c36] at H
                                 exact absurd H (by simp)
                               · rw [if_neg c36] at H
                                 have c36b0 : decide (((rd_T81 l1 x22_2).f1) < (wrap64 ((wrap64 (((rd_T81 l1 (ji28)).f1) + ((rd_T54 l0 ((rd_T81 l1 (ji28)).f0)).f1))) + t179))) = false := decide_eq_false c36
                                 clear c36
                                 as_aux_lemma =>
                                  have H' := Aside0.mk H
                                  clear H
                                  have p174 : 0 ≤ ((ji28) : Int) := of_decide_eq_true (by first | (with_reducible assumption) | assumption)
                                  have q174 : (ji28) < (l1.length : Int) := of_decide_eq_true (by first | (with_reducible assumption) | assumption)
                                  obtain ⟨ad174, e174, hx174_0, hx174_1⟩ := at_T81 HR1.out (ji28) p174 q174
                                  obtain rfl : ad168 = ad174 := (by injection e174)
                                  replace hx174_0 := (HB.out.cell (World.block_lt_of_cell? w _ hx174_0)).trans hx174_0
                                  replace hx174_1 := (HB.out.cell (World.block_lt_of_cell? w _ hx174_1)).trans hx174_1
                                  replace p174 := eq_true p174
                                  replace q174 := eq_true q174
                                  try go_wp2_with (first | ((with_reducible refine gate_dst (N := 8) rfl ?_); (try (refine gate_guard (by rfl) ?_; dsimp only)); refine box_event ?hg (N := 8) ?hd (cs := #[.int .i64 0, .int .i64 0]) (t := 81) ?hr ?_; (case hd => rfl); (case hg => rfl); (case hr => first | (go_simp; done) | (go_simp; rfl)); intro gb175 hg w37 hbox hb; have n0_ := Aside0.mk (Kd.R_below (by (with_reducible repeat (first | apply Kd.R_alloc | apply Kd.R_drewN | apply Kd.R_drew)); exact HO_5.out) hb); have n1_ := Aside0.mk (blk_below (g := gb169) (o := .cells #[.int .i64 ((rd_T81 l1 x22_2).f0), .int .i64 ((rd_T81 l1 x22_2).f1)] 81 (0, 0)) (by (with_reducible repeat (first | refine blk_drewN ?_ _ | refine blk_drew ?_ | refine blk_alloc ?_ _)); exact BK169.out) hb); have n2_ := Aside0.mk (below_step (by repeat (first | (with_reducible first | exact HB.out | apply below_alloc | apply pw_below_drewN | apply below_drew1 | refine below_set ?_ GE169.out) | exact HB.out)) hb); have n3_ := Aside0.mk (hbox); have n4_ := Aside0.mk ((by rw [hg]; exact (below_size (by repeat (first | (with_reducible first | exact HB.out | apply below_alloc | apply pw_below_drewN | apply below_drew1 | refine below_set ?_ GE169.out) | exact HB.out))) : w.heap.size ≤ gb175)); have n5_ := Aside0.mk ((by rw [hg]; exact (below_size (by repeat (first | (with_reducible first | exact HB.out | apply below_alloc | apply pw_below_drewN | apply below_drew1 | refine below_set ?_ GE169.out) | exact HB.out))) : w.heap.size ≤ gb175)); have n6_ := Aside0.mk ((by rw [hg]; exact Nat.ne_of_lt (blk_lt (g := gb169) (o := .cells #[.int .i64 ((rd_T81 l1 x22_2).f0), .int .i64 ((rd_T81 l1 x22_2).f1)] 81 (0, 0)) (by (with_reducible repeat (first | refine blk_drewN ?_ _ | refine blk_drew ?_ | refine blk_alloc ?_ _)); exact BK169.out)) : gb169 ≠ gb175)); have n7_ := Aside0.mk ((by rw [hg]; exact Nat.ne_of_gt (blk_lt (g := gb169) (o := .cells #[.int .i64 ((rd_T81 l1 x22_2).f0), .int .i64 ((rd_T81 l1 x22_2).f1)] 81 (0, 0)) (by (with_reducible repeat (first | refine blk_drewN ?_ _ | refine blk_drew ?_ | refine blk_alloc ?_ _)); exact BK169.out)) : gb175 ≠ gb169)); clear HO_5; clear BK169; clear HB; have HO_5 := n0_; have BK169 := n1_; have HB := n2_; have BK175 := n3_; have GW175 := n4_; have GE175 := n5_; have NB169_175 := n6_; have NB175_169 := n7_; clear n0_ n1_ n2_ n3_ n4_ n5_ n6_ n7_; clear hb hbox hg; have hnb38 := NB175_169.out; have hnc38 := NB169_175.out; have hcz39_0 : w37.cell? ⟨gb175, 0, none⟩ = some (.int .i64 0) := (blk_cell BK175.out 0).trans rfl; have hcz39_1 : w37.cell? ⟨gb175, 1, none⟩ = some (.int .i64 0) := (blk_cell BK175.out 1).trans rfl; have hfz39_0 := blk_frozen BK175.out 0; have hfz39_1 := blk_frozen BK175.out 1; have p176 : 0 ≤ (((rd_T81 l1 (ji28)).f0) : Int) := of_decide_eq_true (by first | (with_reducible assumption) | assumption); have q176 : ((rd_T81 l1 (ji28)).f0) < (l0.length : Int) := of_decide_eq_true (by first | (with_reducible assumption) | assumption); obtain ⟨ad176, e176, hx176_0, hx176_1, hx176_2, hx176_3⟩ := at_T54 HR0.out ((rd_T81 l1 (ji28)).f0) p176 q176; cases e176; have hn176_0 : ad176.block ≠ gb175 := Nat.ne_of_lt (Nat.lt_of_lt_of_le (by have := World.block_lt_of_cell? _ _ hx176_0; first | rwa [add_block] at this | exact this) GW175.out); have hn176_1 : ad176.block ≠ gb175 := Nat.ne_of_lt (Nat.lt_of_lt_of_le (by have := World.block_lt_of_cell? _ _ hx176_0; first | rwa [add_block] at this | exact this) GW175.out); replace hx176_0 := (HB.out.cell (World.block_lt_of_cell? w _ hx176_0)).trans hx176_0; replace hx176_1 := (HB.out.cell (World.block_lt_of_cell? w _ hx176_1)).trans hx176_1; replace hx176_2 := (HB.out.cell (World.block_lt_of_cell? w _ hx176_2)).trans hx176_2; replace hx176_3 := (HB.out.cell (World.block_lt_of_cell? w _ hx176_3)).trans hx176_3; replace hx176_0 := (cell_far (p := ⟨gb175, 0, none⟩) (by first | (rw [add_block]; exact hn176_0) | (show (Addr.add _ _).block ≠ _; rw [add_block]; exact hn176_0) | exact hn176_0) (.int .i64 ((rd_T81 l1 (ji28)).f0))).trans hx176_0; replace hx176_1 := (cell_far (p := ⟨gb175, 0, none⟩) (by first | (rw [add_block]; exact hn176_0) | (show (Addr.add _ _).block ≠ _; rw [add_block]; exact hn176_0) | exact hn176_0) (.int .i64 ((rd_T81 l1 (ji28)).f0))).trans hx176_1; replace hx176_2 := (cell_far (p := ⟨gb175, 0, none⟩) (by first | (rw [add_block]; exact hn176_0) | (show (Addr.add _ _).block ≠ _; rw [add_block]; exact hn176_0) | exact hn176_0) (.int .i64 ((rd_T81 l1 (ji28)).f0))).trans hx176_2; replace hx176_3 := (cell_far (p := ⟨gb175, 0, none⟩) (by first | (rw [add_block]; exact hn176_0) | (show (Addr.add _ _).block ≠ _; rw [add_block]; exact hn176_0) | exact hn176_0) (.int .i64 ((rd_T81 l1 (ji28)).f0))).trans hx176_3; replace hx176_0 := (cell_far (p := ⟨gb175, 1, none⟩) (by first | (rw [add_block]; exact hn176_1) | (show (Addr.add _ _).block ≠ _; rw [add_block]; exact hn176_1) | exact hn176_1) (.int .i64 ((rd_T81 l1 (ji28)).f1))).trans hx176_0; replace hx176_1 := (cell_far (p := ⟨gb175, 1, none⟩) (by first | (rw [add_block]; exact hn176_1) | (show (Addr.add _ _).block ≠ _; rw [add_block]; exact hn176_1) | exact hn176_1) (.int .i64 ((rd_T81 l1 (ji28)).f1))).trans hx176_1; replace hx176_2 := (cell_far (p := ⟨gb175, 1, none⟩) (by first | (rw [add_block]; exact hn176_1) | (show (Addr.add _ _).block ≠ _; rw [add_block]; exact hn176_1) | exact hn176_1) (.int .i64 ((rd_T81 l1 (ji28)).f1))).trans hx176_2; replace hx176_3 := (cell_far (p := ⟨gb175, 1, none⟩) (by first | (rw [add_block]; exact hn176_1) | (show (Addr.add _ _).block ≠ _; rw [add_block]; exact hn176_1) | exact hn176_1) (.int .i64 ((rd_T81 l1 (ji28)).f1))).trans hx176_3; clear hn176_0; clear hn176_1; replace p176 := eq_true p176; replace q176 := eq_true q176) | ((with_reducible refine gate_dst (N := 9) rfl ?_); (try (refine gate_guard (by rfl) ?_; dsimp only)); refine box_event ?hg (N := 9) ?hd (cs := #[.int .i64 0, .int .i64 0, .int .i64 0, .int .i64 0]) (t := 54) ?hr ?_; (case hd => rfl); (case hg => rfl); (case hr => first | (go_simp; done) | (go_simp; rfl)); intro gb177 hg w40 hbox hb; have n0_ := Aside0.mk (Kd.R_below (by (with_reducible repeat (first | apply Kd.R_alloc | apply Kd.R_drewN | apply Kd.R_drew)); exact (Kd.R_mono (Kd.R_far (p := ⟨gb175, 1, none⟩) (Kd.R_far (p := ⟨gb175, 0, none⟩) (Kd.R_types HO_5.out BK175.out (by decide)) (fun _ hk => hk.2) (.int .i64 ((rd_T81 l1 (ji28)).f0))) (fun _ hk => hk.2) (.int .i64 ((rd_T81 l1 (ji28)).f1))) (fun _ h_ => h_.1))) hb); have n1_ := Aside0.mk (blk_below (g := gb169) (o := .cells #[.int .i64 ((rd_T81 l1 x22_2).f0), .int .i64 ((rd_T81 l1 x22_2).f1)] 81 (0, 0)) (by (with_reducible repeat (first | refine blk_drewN ?_ _ | refine blk_drew ?_ | refine blk_alloc ?_ _)); refine blk_far ?_ NB169_175.out _; (with_reducible repeat (first | refine blk_drewN ?_ _ | refine blk_drew ?_ | refine blk_alloc ?_ _)); refine blk_far ?_ NB169_175.out _; (with_reducible repeat (first | refine blk_drewN ?_ _ | refine blk_drew ?_ | refine blk_alloc ?_ _)); exact BK169.out) hb); have n2_ := Aside0.mk (blk_below (g := gb175) (o := .cells #[.int .i64 ((rd_T81 l1 (ji28)).f0), .int .i64 ((rd_T81 l1 (ji28)).f1)] 81 (0, 0)) (by (with_reducible repeat (first | refine blk_drewN ?_ _ | refine blk_drew ?_ | refine blk_alloc ?_ _)); refine blk_put (cs := #[.int .i64 ((rd_T81 l1 (ji28)).f0), .int .i64 0]) ?_ 1 _ rfl; (with_reducible repeat (first | refine blk_drewN ?_ _ | refine blk_drew ?_ | refine blk_alloc ?_ _)); refine blk_put (cs := #[.int .i64 0, .int .i64 0]) ?_ 0 _ rfl; (with_reducible repeat (first | refine blk_drewN ?_ _ | refine blk_drew ?_ | refine blk_alloc ?_ _)); exact BK175.out) hb); have n3_ := Aside0.mk (below_step (by repeat (first | (with_reducible first | exact HB.out | apply below_alloc | apply pw_below_drewN | apply below_drew1 | refine below_set ?_ GE169.out | refine below_set ?_ GE175.out) | exact HB.out)) hb); have n4_ := Aside0.mk (hbox); have n5_ := Aside0.mk ((by rw [hg]; exact (below_size (by repeat (first | (with_reducible first | exact HB.out | apply below_alloc | apply pw_below_drewN | apply below_drew1 | refine below_set ?_ GE169.out | refine below_set ?_ GE175.out) | exact HB.out))) : w.heap.size ≤ gb177)); have n6_ := Aside0.mk ((by rw [hg]; exact (below_size (by repeat (first | (with_reducible first | exact HB.out | apply below_alloc | apply pw_below_drewN | apply below_drew1 | refine below_set ?_ GE169.out | refine below_set ?_ GE175.out) | exact HB.out))) : w.heap.size ≤ gb177)); have n7_ := Aside0.mk ((by rw [hg]; exact Nat.ne_of_lt (blk_lt (g := gb169) (o := .cells #[.int .i64 ((rd_T81 l1 x22_2).f0), .int .i64 ((rd_T81 l1 x22_2).f1)] 81 (0, 0)) (by (with_reducible repeat (first | refine blk_drewN ?_ _ | refine blk_drew ?_ | refine blk_alloc ?_ _)); refine blk_far ?_ NB169_175.out _; (with_reducible repeat (first | refine blk_drewN ?_ _ | refine blk_drew ?_ | refine blk_alloc ?_ _)); refine blk_far ?_ NB169_175.out _; (with_reducible repeat (first | refine blk_drewN ?_ _ | refine blk_drew ?_ | refine blk_alloc ?_ _)); exact BK169.out)) : gb169 ≠ gb177)); have n8_ := Aside0.mk ((by rw [hg]; exact Nat.ne_of_gt (blk_lt (g := gb169) (o := .cells #[.int .i64 ((rd_T81 l1 x22_2).f0), .int .i64 ((rd_T81 l1 x22_2).f1)] 81 (0, 0)) (by (with_reducible repeat (first | refine blk_drewN ?_ _ | refine blk_drew ?_ | refine blk_alloc ?_ _)); refine blk_far ?_ NB169_175.out _; (with_reducible repeat (first | refine blk_drewN ?_ _ | refine blk_drew ?_ | refine blk_alloc ?_ _)); refine blk_far ?_ NB169_175.out _; (with_reducible repeat (first | refine blk_drewN ?_ _ | refine blk_drew ?_ | refine blk_alloc ?_ _)); exact BK169.out)) : gb177 ≠ gb169)); have n9_ := Aside0.mk ((by rw [hg]; exact Nat.ne_of_lt (blk_lt (g := gb175) (o := .cells #[.int .i64 ((rd_T81 l1 (ji28)).f0), .int .i64 ((rd_T81 l1 (ji28)).f1)] 81 (0, 0)) (by (with_reducible repeat (first | refine blk_drewN ?_ _ | refine blk_drew ?_ | refine blk_alloc ?_ _)); refine blk_put (cs := #[.int .i64 ((rd_T81 l1 (ji28)).f0), .int .i64 0]) ?_ 1 _ rfl; (with_reducible repeat (first | refine blk_drewN ?_ _ | refine blk_drew ?_ | refine blk_alloc ?_ _)); refine blk_put (cs := #[.int .i64 0, .int .i64 0]) ?_ 0 _ rfl; (with_reducible repeat (first | refine blk_drewN ?_ _ | refine blk_drew ?_ | refine blk_alloc ?_ _)); exact BK175.out)) : gb175 ≠ gb177)); have n10_ := Aside0.mk ((by rw [hg]; exact Nat.ne_of_gt (blk_lt (g := gb175) (o := .cells #[.int .i64 ((rd_T81 l1 (ji28)).f0), .int .i64 ((rd_T81 l1 (ji28)).f1)] 81 (0, 0)) (by (with_reducible repeat (first | refine blk_drewN ?_ _ | refine blk_drew ?_ | refine blk_alloc ?_ _)); refine blk_put (cs := #[.int .i64 ((rd_T81 l1 (ji28)).f0), .int .i64 0]) ?_ 1 _ rfl; (with_reducible repeat (first | refine blk_drewN ?_ _ | refine blk_drew ?_ | refine blk_alloc ?_ _)); refine blk_put (cs := #[.int .i64 0, .int .i64 0]) ?_ 0 _ rfl; (with_reducible repeat (first | refine blk_drewN ?_ _ | refine blk_drew ?_ | refine blk_alloc ?_ _)); exact BK175.out)) : gb177 ≠ gb175)); clear HO_5; clear BK169; clear BK175; clear HB; have HO_5 := n0_; have BK169 := n1_; have BK175 := n2_; have HB := n3_; have BK177 := n4_; have GW177 := n5_; have GE177 := n6_; have NB169_177 := n7_; have NB177_169 := n8_; have NB175_177 := n9_; have NB177_175 := n10_; clear n0_ n1_ n2_ n3_ n4_ n5_ n6_ n7_ n8_ n9_ n10_; clear hb hbox hg; have hnb41 := NB177_169.out; have hnc41 := NB169_177.out; have hnb42 := NB177_175.out; have hnc42 := NB175_177.out; have hcz43_0 : w40.cell? ⟨gb177, 0, none⟩ = some (.int .i64 0) := (blk_cell BK177.out 0).trans rfl; have hcz43_1 : w40.cell? ⟨gb177, 1, none⟩ = some (.int .i64 0) := (blk_cell BK177.out 1).trans rfl; have hcz43_2 : w40.cell? ⟨gb177, 2, none⟩ = some (.int .i64 0) := (blk_cell BK177.out 2).trans rfl; have hcz43_3 : w40.cell? ⟨gb177, 3, none⟩ = some (.int .i64 0) := (blk_cell BK177.out 3).trans rfl; have hfz43_0 := blk_frozen BK177.out 0; have hfz43_1 := blk_frozen BK177.out 1; have hfz43_2 := blk_frozen BK177.out 2; have hfz43_3 := blk_frozen BK177.out 3))
                                  have n0_ : Aside0 (Kd.R (Kd.int .i64) 2 ((((w40.setCell ⟨gb177, 0, none⟩ (.int .i64 ((rd_T54 l0 ((rd_T81 l1 (ji28)).f0)).f0.f0))).setCell ⟨gb177, 1, none⟩ (.int .i64 ((rd_T54 l0 ((rd_T81 l1 (ji28)).f0)).f0.f1))).setCell ⟨gb177, 2, none⟩ (.int .i64 ((rd_T54 l0 ((rd_T81 l1 (ji28)).f0)).f1))).setCell ⟨gb177, 3, none⟩ (.int .i64 ((rd_T54 l0 ((rd_T81 l1 (ji28)).f0)).f2))) w.heap.size (fun _ => True) v166 t165) := ⟨by (with_reducible repeat (first | apply Kd.R_alloc | apply Kd.R_drewN | apply Kd.R_drew)); exact Kd.R_mono (Kd.R_far (p := ⟨gb177, 3, none⟩) (Kd.R_far (p := ⟨gb177, 2, none⟩) (Kd.R_far (p := ⟨gb177, 1, none⟩) (Kd.R_far (p := ⟨gb177, 0, none⟩) (Kd.R_types HO_5.out BK177.out (by decide)) (fun _ hk => hk.2) (.int .i64 ((rd_T54 l0 ((rd_T81 l1 (ji28)).f0)).f0.f0))) (fun _ hk => hk.2) (.int .i64 ((rd_T54 l0 ((rd_T81 l1 (ji28)).f0)).f0.f1))) (fun _ hk => hk.2) (.int .i64 ((rd_T54 l0 ((rd_T81 l1 (ji28)).f0)).f1))) (fun _ hk => hk.2) (.int .i64 ((rd_T54 l0 ((rd_T81 l1 (ji28)).f0)).f2))) (fun _ hk => trivial)⟩
                                  have n1_ : Aside0 (((((w40.setCell ⟨gb177, 0, none⟩ (.int .i64 ((rd_T54 l0 ((rd_T81 l1 (ji28)).f0)).f0.f0))).setCell ⟨gb177, 1, none⟩ (.int .i64 ((rd_T54 l0 ((rd_T81 l1 (ji28)).f0)).f0.f1))).setCell ⟨gb177, 2, none⟩ (.int .i64 ((rd_T54 l0 ((rd_T81 l1 (ji28)).f0)).f1))).setCell ⟨gb177, 3, none⟩ (.int .i64 ((rd_T54 l0 ((rd_T81 l1 (ji28)).f0)).f2))).heap[gb169]? = some (.cells #[.int .i64 ((rd_T81 l1 x22_2).f0), .int .i64 ((rd_T81 l1 x22_2).f1)] 81 (0, 0))) := ⟨by (with_reducible repeat (first | refine blk_drewN ?_ _ | refine blk_drew ?_ | refine blk_alloc ?_ _)); refine blk_far ?_ NB169_177.out _; (with_reducible repeat (first | refine blk_drewN ?_ _ | refine blk_drew ?_ | refine blk_alloc ?_ _)); refine blk_far ?_ NB169_177.out _; (with_reducible repeat (first | refine blk_drewN ?_ _ | refine blk_drew ?_ | refine blk_alloc ?_ _)); refine blk_far ?_ NB169_177.out _; (with_reducible repeat (first | refine blk_drewN ?_ _ | refine blk_drew ?_ | refine blk_alloc ?_ _)); refine blk_far ?_ NB169_177.out _; (with_reducible repeat (first | refine blk_drewN ?_ _ | refine blk_drew ?_ | refine blk_alloc ?_ _)); exact BK169.out⟩
                                  have n2_ : Aside0 (((((w40.setCell ⟨gb177, 0, none⟩ (.int .i64 ((rd_T54 l0 ((rd_T81 l1 (ji28)).f0)).f0.f0))).setCell ⟨gb177, 1, none⟩ (.int .i64 ((rd_T54 l0 ((rd_T81 l1 (ji28)).f0)).f0.f1))).setCell ⟨gb177, 2, none⟩ (.int .i64 ((rd_T54 l0 ((rd_T81 l1 (ji28)).f0)).f1))).setCell ⟨gb177, 3, none⟩ (.int .i64 ((rd_T54 l0 ((rd_T81 l1 (ji28)).f0)).f2))).heap[gb175]? = some (.cells #[.int .i64 ((rd_T81 l1 (ji28)).f0), .int .i64 ((rd_T81 l1 (ji28)).f1)] 81 (0, 0))) := ⟨by (with_reducible repeat (first | refine blk_drewN ?_ _ | refine blk_drew ?_ | refine blk_alloc ?_ _)); refine blk_far ?_ NB175_177.out _; (with_reducible repeat (first | refine blk_drewN ?_ _ | refine blk_drew ?_ | refine blk_alloc ?_ _)); refine blk_far ?_ NB175_177.out _; (with_reducible repeat (first | refine blk_drewN ?_ _ | refine blk_drew ?_ | refine blk_alloc ?_ _)); refine blk_far ?_ NB175_177.out _; (with_reducible repeat (first | refine blk_drewN ?_ _ | refine blk_drew ?_ | refine blk_alloc ?_ _)); refine blk_far ?_ NB175_177.out _; (with_reducible repeat (first | refine blk_drewN ?_ _ | refine blk_drew ?_ | refine blk_alloc ?_ _)); exact BK175.out⟩
                                  have n3_ : Aside0 (((((w40.setCell ⟨gb177, 0, none⟩ (.int .i64 ((rd_T54 l0 ((rd_T81 l1 (ji28)).f0)).f0.f0))).setCell ⟨gb177, 1, none⟩ (.int .i64 ((rd_T54 l0 ((rd_T81 l1 (ji28)).f0)).f0.f1))).setCell ⟨gb177, 2, none⟩ (.int .i64 ((rd_T54 l0 ((rd_T81 l1 (ji28)).f0)).f1))).setCell ⟨gb177, 3, none⟩ (.int .i64 ((rd_T54 l0 ((rd_T81 l1 (ji28)).f0)).f2))).heap[gb177]? = some (.cells #[.int .i64 ((rd_T54 l0 ((rd_T81 l1 (ji28)).f0)).f0.f0), .int .i64 ((rd_T54 l0 ((rd_T81 l1 (ji28)).f0)).f0.f1), .int .i64 ((rd_T54 l0 ((rd_T81 l1 (ji28)).f0)).f1), .int .i64 ((rd_T54 l0 ((rd_T81 l1 (ji28)).f0)).f2)] 54 (0, 0))) := ⟨by (with_reducible repeat (first | refine blk_drewN ?_ _ | refine blk_drew ?_ | refine blk_alloc ?_ _)); refine blk_put (cs := #[.int .i64 ((rd_T54 l0 ((rd_T81 l1 (ji28)).f0)).f0.f0), .int .i64 ((rd_T54 l0 ((rd_T81 l1 (ji28)).f0)).f0.f1), .int .i64 ((rd_T54 l0 ((rd_T81 l1 (ji28)).f0)).f1), .int .i64 0]) ?_ 3 _ rfl; (with_reducible repeat (first | refine blk_drewN ?_ _ | refine blk_drew ?_ | refine blk_alloc ?_ _)); refine blk_put (cs := #[.int .i64 ((rd_T54 l0 ((rd_T81 l1 (ji28)).f0)).f0.f0), .int .i64 ((rd_T54 l0 ((rd_T81 l1 (ji28)).f0)).f0.f1), .int .i64 0, .int .i64 0]) ?_ 2 _ rfl; (with_reducible repeat (first | refine blk_drewN ?_ _ | refine blk_drew ?_ | refine blk_alloc ?_ _)); refine blk_put (cs := #[.int .i64 ((rd_T54 l0 ((rd_T81 l1 (ji28)).f0)).f0.f0), .int .i64 0, .int .i64 0, .int .i64 0]) ?_ 1 _ rfl; (with_reducible repeat (first | refine blk_drewN ?_ _ | refine blk_drew ?_ | refine blk_alloc ?_ _)); refine blk_put (cs := #[.int .i64 0, .int .i64 0, .int .i64 0, .int .i64 0]) ?_ 0 _ rfl; (with_reducible repeat (first | refine blk_drewN ?_ _ | refine blk_drew ?_ | refine blk_alloc ?_ _)); exact BK177.out⟩
                                  have n4_ : Aside0 (Below w.heap.size w ((((w40.setCell ⟨gb177, 0, none⟩ (.int .i64 ((rd_T54 l0 ((rd_T81 l1 (ji28)).f0)).f0.f0))).setCell ⟨gb177, 1, none⟩ (.int .i64 ((rd_T54 l0 ((rd_T81 l1 (ji28)).f0)).f0.f1))).setCell ⟨gb177, 2, none⟩ (.int .i64 ((rd_T54 l0 ((rd_T81 l1 (ji28)).f0)).f1))).setCell ⟨gb177, 3, none⟩ (.int .i64 ((rd_T54 l0 ((rd_T81 l1 (ji28)).f0)).f2)))) := ⟨by repeat (first | (with_reducible first | exact HB.out | apply below_alloc | apply pw_below_drewN | apply below_drew1 | refine below_set ?_ GE169.out | refine below_set ?_ GE175.out | refine below_set ?_ GE177.out) | exact HB.out)⟩
                                  (try clear HO_5)
                                  (try clear BK169)
                                  (try clear BK175)
                                  (try clear BK177)
                                  (try clear HB)
                                  generalize ((((w40.setCell ⟨gb177, 0, none⟩ (.int .i64 ((rd_T54 l0 ((rd_T81 l1 (ji28)).f0)).f0.f0))).setCell ⟨gb177, 1, none⟩ (.int .i64 ((rd_T54 l0 ((rd_T81 l1 (ji28)).f0)).f0.f1))).setCell ⟨gb177, 2, none⟩ (.int .i64 ((rd_T54 l0 ((rd_T81 l1 (ji28)).f0)).f1))).setCell ⟨gb177, 3, none⟩ (.int .i64 ((rd_T54 l0 ((rd_T81 l1 (ji28)).f0)).f2))) = w44 at n0_ n1_ n2_ n3_ n4_ ⊢
                                  have HO_5 := n0_
                                  have BK169 := n1_
                                  have BK175 := n2_
                                  have BK177 := n3_
                                  have HB := n4_
                                  clear n0_ n1_ n2_ n3_ n4_
                                  have n0_ := Aside0.mk (Kd.R_drew HO_5.out)
                                  have n1_ := Aside0.mk (blk_drew BK169.out)
                                  have n2_ := Aside0.mk (blk_drew BK175.out)
                                  have n3_ := Aside0.mk (blk_drew BK177.out)
                                  have n4_ := Aside0.mk (below_drew1 HB.out)
                                  clear HO_5
                                  clear BK169
                                  clear BK175
                                  clear BK177
                                  clear HB
                                  have HO_5 := n0_
                                  have BK169 := n1_
                                  have BK175 := n2_
                                  have BK177 := n3_
                                  have HB := n4_
                                  clear n0_ n1_ n2_ n3_ n4_
                                  have p178 : 0 ≤ (((rd_T81 l1 x22_2).f0) : Int) := of_decide_eq_true (by first | (with_reducible assumption) | assumption)
                                  have q178 : ((rd_T81 l1 x22_2).f0) < (l0.length : Int) := of_decide_eq_true (by first | (with_reducible assumption) | assumption)
                                  obtain ⟨ad178, e178, hx178_0, hx178_1, hx178_2, hx178_3⟩ := at_T54 HR0.out ((rd_T81 l1 x22_2).f0) p178 q178
                                  have hw178_3 := hx178_3
                                  have hw178_2 := hx178_2
                                  have hw178_1 := hx178_1
                                  have hw178_0 := hx178_0
                                  obtain rfl : ad176 = ad178 := (by injection e178)
                                  replace hx178_0 := (HB.out.cell (World.block_lt_of_cell? w _ hx178_0)).trans hx178_0
                                  replace hx178_1 := (HB.out.cell (World.block_lt_of_cell? w _ hx178_1)).trans hx178_1
                                  replace hx178_2 := (HB.out.cell (World.block_lt_of_cell? w _ hx178_2)).trans hx178_2
                                  replace hx178_3 := (HB.out.cell (World.block_lt_of_cell? w _ hx178_3)).trans hx178_3
                                  replace p178 := eq_true p178
                                  replace q178 := eq_true q178
                                  refine start_ (n := 18) (S := fun w' => w'.cell? ⟨gb169, 0, none⟩ = some (.int .i64 ((rd_T81 l1 x22_2).f0)) ∧ w'.cell? ⟨gb169, 1, none⟩ = some (.int .i64 ((rd_T81 l1 x22_2).f1)) ∧ w'.cell? ⟨gb175, 0, none⟩ = some (.int .i64 ((rd_T81 l1 (ji28)).f0)) ∧ w'.cell? ⟨gb175, 1, none⟩ = some (.int .i64 ((rd_T81 l1 (ji28)).f1)) ∧ w'.cell? ⟨gb177, 0, none⟩ = some (.int .i64 ((rd_T54 l0 ((rd_T81 l1 (ji28)).f0)).f0.f0)) ∧ w'.cell? ⟨gb177, 1, none⟩ = some (.int .i64 ((rd_T54 l0 ((rd_T81 l1 (ji28)).f0)).f0.f1)) ∧ w'.cell? ⟨gb177, 2, none⟩ = some (.int .i64 ((rd_T54 l0 ((rd_T81 l1 (ji28)).f0)).f1)) ∧ w'.cell? ⟨gb177, 3, none⟩ = some (.int .i64 ((rd_T54 l0 ((rd_T81 l1 (ji28)).f0)).f2)) ∧ w'.cell? (ad176.add ((((rd_T81 l1 x22_2).f0)).toNat * 4)) = some (.int .i64 ((rd_T54 l0 ((rd_T81 l1 x22_2).f0)).f0.f0)) ∧ w'.cell? ⟨(ad176.add ((((rd_T81 l1 x22_2).f0)).toNat * 4)).block, (ad176.add ((((rd_T81 l1 x22_2).f0)).toNat * 4)).off + 1, none⟩ = some (.int .i64 ((rd_T54 l0 ((rd_T81 l1 x22_2).f0)).f0.f1)) ∧ w'.cell? ⟨(ad176.add ((((rd_T81 l1 x22_2).f0)).toNat * 4)).block, (ad176.add ((((rd_T81 l1 x22_2).f0)).toNat * 4)).off + 2, none⟩ = some (.int .i64 ((rd_T54 l0 ((rd_T81 l1 x22_2).f0)).f1)) ∧ w'.cell? ⟨(ad176.add ((((rd_T81 l1 x22_2).f0)).toNat * 4)).block, (ad176.add ((((rd_T81 l1 x22_2).f0)).toNat * 4)).off + 3, none⟩ = some (.int .i64 ((rd_T54 l0 ((rd_T81 l1 x22_2).f0)).f2))) (ds := []) #[false, false, false, false, false, false, false, false, false, false, false, false, false, false, false, false, false, false] (by kernel_rfl) rfl rfl ⟨(blk_cell BK169.out 0).trans rfl, (blk_cell BK169.out 1).trans rfl, (blk_cell BK175.out 0).trans rfl, (blk_cell BK175.out 1).trans rfl, (blk_cell BK177.out 0).trans rfl, (blk_cell BK177.out 1).trans rfl, (blk_cell BK177.out 2).trans rfl, (blk_cell BK177.out 3).trans rfl, ((HB.out.cell (World.block_lt_of_cell? w _ hw178_0)).trans hw178_0), ((HB.out.cell (World.block_lt_of_cell? w _ hw178_1)).trans hw178_1), ((HB.out.cell (World.block_lt_of_cell? w _ hw178_2)).trans hw178_2), ((HB.out.cell (World.block_lt_of_cell? w _ hw178_3)).trans hw178_3)⟩ (fun hHeld => ?_); refine with_tabW impl_IsPlan.tab12 impl_IsPlan.bits12 (fun HT_ HW_ => ?_)
                                  generalize w44.drew = w45 at HO_5 BK169 BK175 BK177 HB hx178_0 hx178_1 hx178_2 hx178_3 hHeld ⊢
                                  refine pure_ (i := 0) (N := some 68) (v := ?_) (a' := ?_) #[true, false, false, false, false, false, false, false, false, false, false, false, false, false, false, false, false, false] rfl rfl (any_of HT_.out (by kernel_rfl)) (fun _ _ _ h => h) (Or.inl ⟨by rfl, ?_⟩) ?_ ?_; rotate_left 4
                                  refine pure_ (i := 2) (N := some 70) (v := ?_) (a' := ?_) #[true, false, true, false, false, false, false, false, false, false, false, false, false, false, false, false, false, false] rfl rfl (any_of HT_.out (by kernel_rfl)) (fun _ _ _ h => h) (Or.inl ⟨by rfl, ?_⟩) ?_ ?_; rotate_left 4
                                  refine pure_ (i := 4) (N := some 72) (v := ?_) (a' := ?_) #[true, false, true, false, true, false, false, false, false, false, false, false, false, false, false, false, false, false] rfl rfl (any_of HT_.out (by kernel_rfl)) (fun _ _ _ h => h) (Or.inl ⟨by rfl, ?_⟩) ?_ ?_; rotate_left 4
                                  refine pure_ (i := 7) (N := some 75) (v := ?_) (a' := ?_) #[true, false, true, false, true, false, false, true, false, false, false, false, false, false, false, false, false, false] rfl rfl (any_of HT_.out (by kernel_rfl)) (fun _ _ _ h => h) (Or.inl ⟨by rfl, ?_⟩) ?_ ?_; rotate_left 4
                                  refine pure_ (i := 9) (N := some 77) (v := ?_) (a' := ?_) #[true, false, true, false, true, false, false, true, false, true, false, false, false, false, false, false, false, false] rfl rfl (any_of HT_.out (by kernel_rfl)) (fun _ _ _ h => h) (Or.inl ⟨by rfl, ?_⟩) ?_ ?_; rotate_left 4
                                  refine pure_ (i := 10) (N := some 78) (v := ?_) (a' := ?_) #[true, false, true, false, true, false, false, true, false, true, true, false, false, false, false, false, false, false] rfl rfl (any_of HT_.out (by kernel_rfl)) (fun _ _ _ h => h) (Or.inl ⟨by rfl, ?_⟩) ?_ ?_; rotate_left 4
                                  rotate_left; iterate 6 (rotate_left; (intro w'; go_simp; with_reducible rfl); rotate_left; (simp only [Act.put, List.setIfInBounds_toArray, List.set_cons_zero, List.set_cons_succ, i64_w, i32_w]; rfl))
                                  refine take_ (i := 1) (N := some 69) (v := ?_) (a' := ?_) #[true, true, true, false, true, false, false, true, false, true, true, false, false, false, false, false, false, false] rfl rfl (take_ofW HT_.out HW_.out (by kernel_rfl)) (fun _ _ _ h => h) (Or.inl ⟨by rfl, ?_⟩) hHeld ?_ ?_
                                  rotate_left
                                  · rintro w' ⟨s0, s1, s2, s3, s4, s5, s6, s7, s8, s9, s10, s11⟩
                                    go_simp
                                    with_reducible rfl
                                  rotate_left
                                  · simp only [Act.put, List.setIfInBounds_toArray, List.set_cons_zero, List.set_cons_succ, i64_w, i32_w]
                                    rfl
                                  refine take_ (i := 3) (N := some 71) (v := ?_) (a' := ?_) #[true, true, true, true, true, false, false, true, false, true, true, false, false, false, false, false, false, false] rfl rfl (take_ofW HT_.out HW_.out (by kernel_rfl)) (fun _ _ _ h => h) (Or.inl ⟨by rfl, ?_⟩) hHeld ?_ ?_
                                  rotate_left
                                  · rintro w' ⟨s0, s1, s2, s3, s4, s5, s6, s7, s8, s9, s10, s11⟩
                                    go_simp
                                    with_reducible rfl
                                  rotate_left
                                  · simp only [Act.put, List.setIfInBounds_toArray, List.set_cons_zero, List.set_cons_succ, i64_w, i32_w]
                                    rfl
                                  refine take_ (i := 5) (N := some 73) (v := ?_) (a' := ?_) #[true, true, true, true, true, true, false, true, false, true, true, false, false, false, false, false, false, false] rfl rfl (take_ofW HT_.out HW_.out (by kernel_rfl)) (fun _ _ _ h => h) (Or.inl ⟨by rfl, ?_⟩) hHeld ?_ ?_
                                  rotate_left
                                  · rintro w' ⟨s0, s1, s2, s3, s4, s5, s6, s7, s8, s9, s10, s11⟩
                                    go_simp
                                    with_reducible rfl
                                  rotate_left
                                  · simp only [Act.put, List.setIfInBounds_toArray, List.set_cons_zero, List.set_cons_succ, i64_w, i32_w]
                                    rfl
                                  refine pure_ (i := 6) (N := some 74) (v := ?_) (a' := ?_) #[true, true, true, true, true, true, true, true, false, true, true, false, false, false, false, false, false, false] rfl rfl (any_of HT_.out (by kernel_rfl)) (fun _ _ _ h => h) (Or.inl ⟨by rfl, ?_⟩) ?_ ?_; rotate_left 4
                                  rotate_left; iterate 1 (rotate_left; (intro w'; go_simp; with_reducible rfl); rotate_left; (simp only [Act.put, List.setIfInBounds_toArray, List.set_cons_zero, List.set_cons_succ, i64_w, i32_w]; rfl))
                                  refine take_ (i := 8) (N := some 76) (v := ?_) (a' := ?_) #[true, true, true, true, true, true, true, true, true, true, true, false, false, false, false, false, false, false] rfl rfl (take_ofW HT_.out HW_.out (by kernel_rfl)) (fun _ _ _ h => h) (Or.inl ⟨by rfl, ?_⟩) hHeld ?_ ?_
                                  rotate_left
                                  · rintro w' ⟨s0, s1, s2, s3, s4, s5, s6, s7, s8, s9, s10, s11⟩
                                    go_simp
                                    with_reducible rfl
                                  rotate_left
                                  · simp only [Act.put, List.setIfInBounds_toArray, List.set_cons_zero, List.set_cons_succ, i64_w, i32_w]
                                    rfl
                                  refine take_ (i := 11) (N := some 79) (v := ?_) (a' := ?_) #[true, true, true, true, true, true, true, true, true, true, true, true, false, false, false, false, false, false] rfl rfl (take_ofW HT_.out HW_.out (by kernel_rfl)) (fun _ _ _ h => h) (Or.inl ⟨by rfl, ?_⟩) hHeld ?_ ?_
                                  rotate_left
                                  · rintro w' ⟨s0, s1, s2, s3, s4, s5, s6, s7, s8, s9, s10, s11⟩
                                    go_simp
                                    with_reducible rfl
                                  rotate_left
                                  · simp only [Act.put, List.setIfInBounds_toArray, List.set_cons_zero, List.set_cons_succ, i64_w, i32_w]
                                    rfl
                                  refine pure_ (i := 12) (N := some 80) (v := ?_) (a' := ?_) #[true, true, true, true, true, true, true, true, true, true, true, true, true, false, false, false, false, false] rfl rfl (any_of HT_.out (by kernel_rfl)) (fun _ _ _ h => h) (Or.inl ⟨by rfl, ?_⟩) ?_ ?_; rotate_left 4
                                  refine pure_ (i := 13) (N := some 81) (v := ?_) (a' := ?_) #[true, true, true, true, true, true, true, true, true, true, true, true, true, true, false, false, false, false] rfl rfl (any_of HT_.out (by kernel_rfl)) (fun _ _ _ h => h) (Or.inl ⟨by rfl, ?_⟩) ?_ ?_; rotate_left 4
                                  rotate_left; iterate 2 (rotate_left; (intro w'; go_simp; with_reducible rfl); rotate_left; (simp only [Act.put, List.setIfInBounds_toArray, List.set_cons_zero, List.set_cons_succ, i64_w, i32_w]; rfl))
                                  refine take_ (i := 14) (N := some 82) (v := ?_) (a' := ?_) #[true, true, true, true, true, true, true, true, true, true, true, true, true, true, true, false, false, false] rfl rfl (take_ofW HT_.out HW_.out (by kernel_rfl)) (fun _ _ _ h => h) (Or.inl ⟨by rfl, ?_⟩) hHeld ?_ ?_
                                  rotate_left
                                  · rintro w' ⟨s0, s1, s2, s3, s4, s5, s6, s7, s8, s9, s10, s11⟩
                                    go_simp
                                    with_reducible rfl
                                  rotate_left
                                  · simp only [Act.put, List.setIfInBounds_toArray, List.set_cons_zero, List.set_cons_succ, i64_w, i32_w]
                                    rfl
                                  refine one_ (i := 15) (N := some 83) #[true, true, true, true, true, true, true, true, true, true, true, true, true, true, true, true, false, false] rfl rfl (one_of HT_.out (by kernel_rfl)) (by decide) (fun K hK => ?_)
                                  refine goes_ Try.func56 (by kernel_rfl) rfl #[.agg #[.int .i64 ((rd_T54 l0 ((rd_T81 l1 (ji28)).f0)).f0.f0), .int .i64 ((rd_T54 l0 ((rd_T81 l1 (ji28)).f0)).f0.f1)], .agg #[.int .i64 ((rd_T54 l0 ((rd_T81 l1 x22_2).f0)).f0.f0), .int .i64 ((rd_T54 l0 ((rd_T81 l1 x22_2).f0)).f0.f1)]] (by rfl) rfl rfl (by (try simp only [List.map_toArray, List.map_cons, List.map_nil]); first | done | (simp only [hji28]; rfl) | rfl | (simp only [List.length_drop, List.length_take]; rfl)) ?_
                                  with_reducible refine (impl_switchTicks.calls ((rd_T54 l0 ((rd_T81 l1 (ji28)).f0)).f0.f0) ((rd_T54 l0 ((rd_T81 l1 (ji28)).f0)).f0.f1) ((rd_T54 l0 ((rd_T81 l1 x22_2).f0)).f0.f0) ((rd_T54 l0 ((rd_T81 l1 x22_2).f0)).f0.f1) t179 _ A35.out).mono ?_
                                  rintro e w46 ⟨rfl, hb⟩
                                  refine ⟨_, rfl, ?_⟩
                                  have n0_ := Aside0.mk (Kd.R_below (by (with_reducible repeat (first | apply Kd.R_alloc | apply Kd.R_drewN | apply Kd.R_drew)); exact HO_5.out) hb)
                                  have n1_ := Aside0.mk (blk_below (g := gb169) (o := .cells #[.int .i64 ((rd_T81 l1 x22_2).f0), .int .i64 ((rd_T81 l1 x22_2).f1)] 81 (0, 0)) (by (with_reducible repeat (first | refine blk_drewN ?_ _ | refine blk_drew ?_ | refine blk_alloc ?_ _)); exact BK169.out) hb)
                                  have n2_ := Aside0.mk (blk_below (g := gb175) (o := .cells #[.int .i64 ((rd_T81 l1 (ji28)).f0), .int .i64 ((rd_T81 l1 (ji28)).f1)] 81 (0, 0)) (by (with_reducible repeat (first | refine blk_drewN ?_ _ | refine blk_drew ?_ | refine blk_alloc ?_ _)); exact BK175.out) hb)
                                  have n3_ := Aside0.mk (blk_below (g := gb177) (o := .cells #[.int .i64 ((rd_T54 l0 ((rd_T81 l1 (ji28)).f0)).f0.f0), .int .i64 ((rd_T54 l0 ((rd_T81 l1 (ji28)).f0)).f0.f1), .int .i64 ((rd_T54 l0 ((rd_T81 l1 (ji28)).f0)).f1), .int .i64 ((rd_T54 l0 ((rd_T81 l1 (ji28)).f0)).f2)] 54 (0, 0)) (by (with_reducible repeat (first | refine blk_drewN ?_ _ | refine blk_drew ?_ | refine blk_alloc ?_ _)); exact BK177.out) hb)
                                  have n4_ := Aside0.mk (below_step (by repeat (first | (with_reducible first | exact HB.out | apply below_alloc | apply pw_below_drewN | apply below_drew1 | refine below_set ?_ GE169.out | refine below_set ?_ GE175.out | refine below_set ?_ GE177.out) | exact HB.out)) hb)
                                  clear HO_5
                                  clear BK169
                                  clear BK175
                                  clear BK177
                                  clear HB
                                  have HO_5 := n0_
                                  have BK169 := n1_
                                  have BK175 := n2_
                                  have BK177 := n3_
                                  have HB := n4_
                                  clear n0_ n1_ n2_ n3_ n4_
                                  (try clear hb)
                                  (try clear hb2)
                                  (try clear hk)
                                  (try clear hi)
                                  refine hK.out _ _ ⟨(blk_cell BK169.out 0).trans rfl, (blk_cell BK169.out 1).trans rfl, (blk_cell BK175.out 0).trans rfl, (blk_cell BK175.out 1).trans rfl, (blk_cell BK177.out 0).trans rfl, (blk_cell BK177.out 1).trans rfl, (blk_cell BK177.out 2).trans rfl, (blk_cell BK177.out 3).trans rfl, ((HB.out.cell (World.block_lt_of_cell? w _ hw178_0)).trans hw178_0), ((HB.out.cell (World.block_lt_of_cell? w _ hw178_1)).trans hw178_1), ((HB.out.cell (World.block_lt_of_cell? w _ hw178_2)).trans hw178_2), ((HB.out.cell (World.block_lt_of_cell? w _ hw178_3)).trans hw178_3)⟩ (fun hHeld => ?_)
                                  clear hK K
                                  refine norm_ (a' := ?_) ?_ ?_
                                  rotate_left
                                  · show Act.put _ (some 83) _ = _
                                    simp only [Act.put, List.setIfInBounds_toArray, List.set_cons_zero, List.set_cons_succ, i64_w, i32_w]
                                    rfl
                                  refine pure_ (i := 16) (N := some 84) (v := ?_) (a' := ?_) #[true, true, true, true, true, true, true, true, true, true, true, true, true, true, true, true, true, false] rfl rfl (any_of HT_.out (by kernel_rfl)) (fun _ _ _ h => h) (Or.inl ⟨by rfl, ?_⟩) ?_ ?_; rotate_left 4
                                  refine pure_ (i := 17) (N := some 85) (v := ?_) (a' := ?_) #[true, true, true, true, true, true, true, true, true, true, true, true, true, true, true, true, true, true] rfl rfl (any_of HT_.out (by kernel_rfl)) (fun _ _ _ h => h) (Or.inl ⟨by rfl, ?_⟩) ?_ ?_; rotate_left 4
                                  rotate_left; iterate 2 (rotate_left; (intro w'; go_simp; with_reducible rfl); rotate_left; (simp only [Act.put, List.setIfInBounds_toArray, List.set_cons_zero, List.set_cons_succ, i64_w, i32_w]; rfl))
                                  refine done_ (done_of HT_.out (by kernel_rfl)) ?_
                                  try go_wp2
                                  go_roundg kj12
                                  case measure => have := HJ2.out; have := HK2.out; have := HJ12.out; omega
                                  case rel => exact ⟨(wrap64 (x22_2 + 1)), (by first | rfl | (simp; done) | (simp [*]; done)), H', ⟨by have := HJ2.out; have := HK2.out; have := HJ12.out; omega⟩, ⟨by (with_reducible repeat (first | apply Kd.R_alloc | apply Kd.R_drewN | apply Kd.R_drew)); exact HO_5.out⟩, ⟨by repeat (first | (with_reducible first | exact HB.out | apply below_alloc | apply pw_below_drewN | apply below_drew1 | refine below_set ?_ GE169.out | refine below_set ?_ GE175.out | refine below_set ?_ GE177.out) | exact HB.out)⟩⟩
                             · rw [if_neg c34] at H
                               exact absurd H (by simp)
                           · rw [if_neg c33] at H
                             exact absurd H (by simp)
                         · rw [if_neg c32] at H
                           exact absurd H (by simp)
                       · rw [if_neg c31] at H
                         exact absurd H (by simp)
                     · rw [if_neg c30] at H
                       exact absurd H (by simp)
                   · rw [if_neg c29] at H
                     exact absurd H (by simp)
                 · rw [if_neg c27] at H
                   have c27b0 : decide (0 < x22_2) = false := decide_eq_false c27
                   clear c27
                   as_aux_lemma =>
                    have H' := Aside0.mk H
                    clear H
                    go_wp2
                    go_roundg kj12
                    case measure => have := HJ2.out; have := HK2.out; have := HJ12.out; omega
                    case rel => exact ⟨(wrap64 (x22_2 + 1)), (by first | rfl | (simp; done) | (simp [*]; done)), H', ⟨by have := HJ2.out; have := HK2.out; have := HJ12.out; omega⟩, ⟨by (with_reducible repeat (first | apply Kd.R_alloc | apply Kd.R_drewN | apply Kd.R_drew)); exact HO_5.out⟩, ⟨by repeat (first | (with_reducible first | exact HB.out | apply below_alloc | apply pw_below_drewN | apply below_drew1 | refine below_set ?_ GE169.out) | exact HB.out)⟩⟩
           · rw [if_neg c12] at H
             exact absurd H (by simp)
         · rw [if_neg c11] at H
           exact absurd H (by simp)
       · rw [if_neg c10] at H
         have c10b0 : decide (x22_2 < (l1.length : Int)) = false := decide_eq_false c10
         clear c10
         as_aux_lemma =>
          obtain rfl := Option.some.inj H
          go_wp2
          go_ret
          exact ⟨by first | rfl | (simp [errW_none, errW_some] <;> rfl) | (simp [*, errW_none, errW_some] <;> rfl), by repeat (first | (with_reducible first | exact HB.out | apply below_alloc | apply pw_below_drewN | apply below_drew1) | exact HB.out)⟩

end Go.Proofs.Ytekcngoemeadlaa.Z
