/-
  Contracts of the program's functions, each a plain Lean function beside the machine's call: written by this session's program over the kit's print.
-/
import Derived.Test.YtekcngoemeadlaaZx0
import Derived.Test.YtekcngoemeadlaaZx1
import Derived.Test.YtekcngoemeadlaaZx3
namespace Go.Proofs.Ytekcngoemeadlaa.Z
open Go.RowKit Go.Proofs.YtekcngoemeadlaaW.PrintWords Go.Proofs.YtekcngoemeadlaaW.PrintLast Go.Proofs.YtekcngoemeadlaaW.PrintMore
attribute [local go_sem] max2_int min2_int max_two min_two max_three min_three max_four min_four   -- for this text's walks alone
set_option linter.unusedVariables false
set_option linter.unusedSimpArgs false

/-! ### impl_BusyTicks: function 48 -/
def impl_BusyTicks.l0 : Nat → List (S54) → List (S81) → Int → Int → List (S81) → Int → Int → Option (Int × Int × Bool)
 | 0, _, _, _, _, _, _, _ => none
 | k + 1, x0, x1, x7, x8, x15, x16, x17 => if x17 < x16 then (if 0 ≤ x17 then (if x17 < (x15.length : Int) then (if 0 ≤ ((rd_T81 x15 x17).f0) then (if ((rd_T81 x15 x17).f0) < (x0.length : Int) then (if x17 > 0 then (if 0 ≤ (wrap64 (x17 - 1)) then (if (wrap64 (x17 - 1)) < (x1.length : Int) then (if 0 ≤ ((rd_T81 x1 (wrap64 (x17 - 1))).f0) then (if ((rd_T81 x1 (wrap64 (x17 - 1))).f0) < (x0.length : Int) then ((impl_switchTicks.f ((rd_T54 x0 ((rd_T81 x1 (wrap64 (x17 - 1))).f0)).f0.f0) ((rd_T54 x0 ((rd_T81 x1 (wrap64 (x17 - 1))).f0)).f0.f1) ((rd_T54 x0 ((rd_T81 x15 x17).f0)).f0.f0) ((rd_T54 x0 ((rd_T81 x15 x17).f0)).f0.f1)).bind fun t187 => (impl_BusyTicks.l0 k x0 x1 (wrap64 (x7 + ((rd_T54 x0 ((rd_T81 x15 x17).f0)).f1))) (wrap64 (x8 + t187)) x15 x16 (wrap64 (x17 + 1)))) else (none)) else (none)) else (none)) else (none)) else (impl_BusyTicks.l0 k x0 x1 (wrap64 (x7 + ((rd_T54 x0 ((rd_T81 x15 x17).f0)).f1))) x8 x15 x16 (wrap64 (x17 + 1)))) else (none)) else (none)) else (none)) else (none)) else (some (x7, x8, true))
def impl_BusyTicks.f (k : Nat) (l0 : List (S54)) (l1 : List (S81)) : Option (Int × Int × Bool) := (impl_IsPlan.f k l0 l1).bind fun t180 => (if t180 = true then (impl_BusyTicks.l0 k l0 l1 0 0 l1 (l1.length : Int) 0) else (none))
theorem impl_BusyTicks.mono_l : ∀ k, (∀ y0 y1 y2 y3 y4 y5 y6, LeO (impl_BusyTicks.l0 k y0 y1 y2 y3 y4 y5 y6) (impl_BusyTicks.l0 (k + 1) y0 y1 y2 y3 y4 y5 y6))
 | 0 => fun _ _ _ _ _ _ _ r h => by simp [impl_BusyTicks.l0] at h
 | k + 1 => by
  have ih0 := impl_BusyTicks.mono_l k
  · intro y0 y1 y2 y3 y4 y5 y6
    unfold impl_BusyTicks.l0
    repeat' first
    | (with_reducible exact ih0 _ _ _ _ _ _ _)
    | (with_reducible exact impl_IsPlan.mono _ _ _)
    | (with_reducible exact LeO.refl _)
    | (with_reducible exact LeO.none _)
    | (with_reducible refine LeO.ite ?_ ?_)
    | (with_reducible refine LeO.bind ?_ (fun _ => ?_))
    | exact ih0 _ _ _ _ _ _ _
    | exact impl_IsPlan.mono _ _ _
    | exact LeO.none _
    | refine LeO.ite ?_ ?_
    | refine LeO.bind ?_ (fun _ => ?_)
theorem impl_BusyTicks.mono : ∀ a0 a1 k, LeO (impl_BusyTicks.f k a0 a1) (impl_BusyTicks.f (k + 1) a0 a1) := by
 intro a0 a1 k
 have ih0 := impl_BusyTicks.mono_l k
 unfold impl_BusyTicks.f
 repeat' first
  | (with_reducible exact ih0 _ _ _ _ _ _ _)
  | (with_reducible exact impl_IsPlan.mono _ _ _)
  | (with_reducible exact LeO.refl _)
  | (with_reducible exact LeO.none _)
  | (with_reducible refine LeO.ite ?_ ?_)
  | (with_reducible refine LeO.bind ?_ (fun _ => ?_))
  | exact ih0 _ _ _ _ _ _ _
  | exact impl_IsPlan.mono _ _ _
  | exact LeO.none _
  | refine LeO.ite ?_ ?_
  | refine LeO.bind ?_ (fun _ => ?_)
def impl_BusyTicks.T9 : Bool × List (List Nat × List Nat) := (true, [([], []), ([], []), ([], []), ([], []), ([3], [3]), ([2, 4], [2, 4]), ([5], [5]), ([6], [6]), ([1, 7], [1, 7]), ([8], [8]), ([9], [9]), ([], []), ([], []), ([12], [12]), ([11, 13], [11, 13]), ([14], [14]), ([15], [15]), ([10, 16], [10, 16]), ([0, 17], [0, 17]), ([18, 17, 0, 1, 2, 3, 4, 5, 6, 7, 8, 9, 10, 11, 12, 13, 14, 15, 16, 17, 18], [0, 18])])
def impl_BusyTicks.B9 : List Nat := [0, 0, 0, 0, 8, 28, 60, 124, 254, 510, 1022, 0, 0, 4096, 14336, 30720, 63488, 131070, 262143, 524287]
theorem impl_BusyTicks.tab9 : rtab .any (opsOf Try.f48 9) = impl_BusyTicks.T9 := by kernel_rfl
theorem impl_BusyTicks.bits9 : waitsOk impl_BusyTicks.T9.2 impl_BusyTicks.B9 = true := by kernel_rfl
set_option maxHeartbeats 8000000 in
set_option maxRecDepth 100000 in
theorem impl_BusyTicks.calls (k : Nat) (A0 : Option Addr) (c0 : Nat) (l0 : List (S54)) (A1 : Option Addr) (c1 : Nat) (l1 : List (S81)) (r1 : Int) (r2 : Int) (r3 : Bool) (w : World) (hr0 : Kd.C k54 w A0 l0.length l0) (hc0 : l0.length ≤ c0) (hr1 : Kd.C k81 w A1 l1.length l1) (hc1 : l1.length ≤ c1) (h : impl_BusyTicks.f k l0 l1 = some (r1, r2, r3)) :
 Calls Try.prog 48 #[.slice A0 l0.length c0, .slice A1 l1.length c1] w fun e w' => e = .returned (.tuple #[.int .i64 r1, .int .i64 r2, .bool r3]) ∧ Below w.heap.size w w' := by
 have hu81 := Try.underlying81
 have hu26 := Try.underlying26
 have HR0 := Aside0.mk hr0
 have HC0 := Aside0.mk hc0
 clear hr0 hc0
 have HR1 := Aside0.mk hr1
 have HC1 := Aside0.mk hc1
 clear hr1 hc1
 have HB := Aside0.mk (Below.refl w.heap.size w)
 have H : ((impl_IsPlan.f k l0 l1).bind fun t180 => (if t180 = true then (impl_BusyTicks.l0 k l0 l1 0 0 l1 (l1.length : Int) 0) else (none))) = some (r1, r2, r3) := h
 clear h
 replace H := Option.bind_eq_some_iff.mp H
 obtain ⟨t180, A30, H⟩ := H
 replace H : (if t180 = true then (impl_BusyTicks.l0 k l0 l1 0 0 l1 (l1.length : Int) 0) else (none)) = some (r1, r2, r3) := H
 have A3 := Aside0.mk A30
 clear A30
 by_cases c4 : t180 = true
 · subst c4
   have H1 : (impl_BusyTicks.l0 k l0 l1 0 0 l1 (l1.length : Int) 0) = some (r1, r2, r3) := by rw [if_pos rfl] at H; exact H
   clear H
   have H := H1
   clear H1
   have H' := Aside0.mk H
   clear H
   go_enter Try.func48, Try.ntmps48
   go_wp2_with (first | ((with_reducible refine gate_callee (f := 41) rfl ?_); refine goesL_ (some 13) rfl rfl Try.func41 (by kernel_rfl) rfl #[.slice A0 l0.length c0, .slice A1 l1.length c1] rfl (by (try simp only [List.map_toArray, List.map_cons, List.map_nil]); first | done | rfl | (simp only [List.length_drop, List.length_take]; rfl)) ?_; (with_reducible refine (impl_IsPlan.calls k _ _ l0 _ _ l1 true _ ?side1 ?side2 ?side3 ?side4 A3.out).mono ?_); (case side1 => repeat (first | exact HR0.out | (with_reducible refine Kd.C_alloc ?_ _) | (with_reducible refine Kd.C_drewN ?_ _) | (with_reducible refine Kd.C_drew ?_))); (case side2 => exact HC0.out); (case side3 => repeat (first | exact HR1.out | (with_reducible refine Kd.C_alloc ?_ _) | (with_reducible refine Kd.C_drewN ?_ _) | (with_reducible refine Kd.C_drew ?_))); (case side4 => exact HC1.out); rintro e w5 ⟨rfl, hb⟩; refine ⟨_, rfl, ?_⟩; have n0_ := Aside0.mk (below_step (by repeat (first | (with_reducible first | exact HB.out | apply below_alloc | apply pw_below_drewN | apply below_drew1) | exact HB.out)) hb); clear HB; have HB := n0_; clear n0_; (try clear hb); (try clear hb2); (try clear hk); (try clear hi)))
   go_loopg [7, 8, 17] k (fun kq v7 v8 v17 w' => ∃ (x7_1 : Int) (x8_1 : Int) (x17_1 : Int), v7 = .int .i64 x7_1 ∧ v8 = .int .i64 x8_1 ∧ v17 = .int .i64 x17_1 ∧ Aside0 (impl_BusyTicks.l0 kq l0 l1 x7_1 x8_1 l1 (l1.length : Int) x17_1 = some (r1, r2, r3)) ∧ Aside0 (kq ≤ k) ∧ Aside0 (Below w.heap.size w w'))
   case atStart => exact ⟨(0), (0), (0), (by first | rfl | (simp; done) | (simp [*]; done)), (by first | rfl | (simp; done) | (simp [*]; done)), (by first | rfl | (simp; done) | (simp [*]; done)), H', ⟨Nat.le_refl _⟩, ⟨by repeat (first | (with_reducible first | exact HB.out | apply below_alloc | apply pw_below_drewN | apply below_drew1) | exact HB.out)⟩⟩
   case round =>
    clear H'
    (try clear c1); (try clear p2); (try clear c4)
    obtain ⟨x7_1, x8_1, x17_1, rfl, rfl, rfl, HA, HK1, HB⟩ := hrel
    cases gk with
    | zero => exact absurd HA.out (by simp [impl_BusyTicks.l0])
    | succ k1 =>
     have H := HA.out
     clear HA
     simp only [impl_BusyTicks.l0] at H
     by_cases c6 : x17_1 < (l1.length : Int)
     · rw [if_pos c6] at H
       have c6b0 : decide (x17_1 < (l1.length : Int)) = true := decide_eq_true c6
       clear c6
       by_cases c7 : 0 ≤ x17_1
       · rw [if_pos c7] at H
         have c7b0 : decide (0 ≤ x17_1) = true := decide_eq_true c7
         clear c7
         by_cases c8 : x17_1 < (l1.length : Int)
         · rw [if_pos c8] at H
           have c8b0 : decide (x17_1 < (l1.length : Int)) = true := decide_eq_true c8
           clear c8
           by_cases c9 : 0 ≤ ((rd_T81 l1 x17_1).f0)
           · rw [if_pos c9] at H
             have c9b0 : decide (0 ≤ ((rd_T81 l1 x17_1).f0)) = true := decide_eq_true c9
             clear c9
             by_cases c10 : ((rd_T81 l1 x17_1).f0) < (l0.length : Int)
             · rw [if_pos c10] at H
               have c10b0 : decide (((rd_T81 l1 x17_1).f0) < (l0.length : Int)) = true := decide_eq_true c10
               clear c10
               by_cases c11 : x17_1 > 0
               · rw [if_pos c11] at H
                 have c11b0 : decide (0 < x17_1) = true := decide_eq_true c11
                 clear c11
                 obtain ⟨ji12, hji12⟩ : ∃ j_ : Int, (wrap64 (x17_1 - 1)) = j_ := ⟨_, rfl⟩
                 replace H : (if 0 ≤ (ji12) then (if (ji12) < (l1.length : Int) then (if 0 ≤ ((rd_T81 l1 (ji12)).f0) then (if ((rd_T81 l1 (ji12)).f0) < (l0.length : Int) then ((impl_switchTicks.f ((rd_T54 l0 ((rd_T81 l1 (ji12)).f0)).f0.f0) ((rd_T54 l0 ((rd_T81 l1 (ji12)).f0)).f0.f1) ((rd_T54 l0 ((rd_T81 l1 x17_1).f0)).f0.f0) ((rd_T54 l0 ((rd_T81 l1 x17_1).f0)).f0.f1)).bind fun t187 => (impl_BusyTicks.l0 k1 l0 l1 (wrap64 (x7_1 + ((rd_T54 l0 ((rd_T81 l1 x17_1).f0)).f1))) (wrap64 (x8_1 + t187)) l1 (l1.length : Int) (wrap64 (x17_1 + 1)))) else (none)) else (none)) else (none)) else (none)) = some (r1, r2, r3) := by first | (rw [hji12] at H; exact H) | (simp only [hji12] at H ⊢; exact H)
                 have hji12w : (IntKind.i64.wrap (x17_1 - 1)) = ji12 := (i64_w _).trans hji12
                 by_cases c13 : 0 ≤ (ji12)
                 · rw [if_pos c13] at H
                   have c13b0 : decide (0 ≤ (ji12)) = true := decide_eq_true c13
                   clear c13
                   by_cases c14 : (ji12) < (l1.length : Int)
                   · rw [if_pos c14] at H
                     have c14b0 : decide ((ji12) < (l1.length : Int)) = true := decide_eq_true c14
                     clear c14
                     by_cases c15 : 0 ≤ ((rd_T81 l1 (ji12)).f0)
                     · rw [if_pos c15] at H
                       have c15b0 : decide (0 ≤ ((rd_T81 l1 (ji12)).f0)) = true := decide_eq_true c15
                       clear c15
                       by_cases c16 : ((rd_T81 l1 (ji12)).f0) < (l0.length : Int)
                       · rw [if_pos c16] at H
                         have c16b0 : decide (((rd_T81 l1 (ji12)).f0) < (l0.length : Int)) = true := decide_eq_true c16
                         clear c16
                         replace H := Option.bind_eq_some_iff.mp H
                         obtain ⟨t187, A170, H⟩ := H
                         replace H : (impl_BusyTicks.l0 k1 l0 l1 (wrap64 (x7_1 + ((rd_T54 l0 ((rd_T81 l1 x17_1).f0)).f1))) (wrap64 (x8_1 + t187)) l1 (l1.length : Int) (wrap64 (x17_1 + 1))) = some (r1, r2, r3) := H
                         have A17 := Aside0.mk A170
                         clear A170
                         as_aux_lemma =>
                          have H' := Aside0.mk H
                          clear H
                          have p181 : 0 ≤ (x17_1 : Int) := of_decide_eq_true (by first | (with_reducible assumption) | assumption)
                          have q181 : x17_1 < (l1.length : Int) := of_decide_eq_true (by first | (with_reducible assumption) | assumption)
                          obtain ⟨ad181, e181, hx181_0, hx181_1⟩ := at_T81 HR1.out x17_1 p181 q181
                          cases e181
                          replace hx181_0 := (HB.out.cell (World.block_lt_of_cell? w _ hx181_0)).trans hx181_0
                          replace hx181_1 := (HB.out.cell (World.block_lt_of_cell? w _ hx181_1)).trans hx181_1
                          replace p181 := eq_true p181
                          replace q181 := eq_true q181
                          try go_wp2_with (first | ((with_reducible refine gate_dst (N := 10) rfl ?_); refine box_event ?hg (N := 10) ?hd (cs := #[.int .i64 0, .int .i64 0]) (t := 81) ?hr ?_; (case hd => rfl); (case hg => rfl); (case hr => first | (go_simp; done) | (go_simp; rfl)); intro gb182 hg w18 hbox hb; have n0_ := Aside0.mk (below_step (by repeat (first | (with_reducible first | exact HB.out | apply below_alloc | apply pw_below_drewN | apply below_drew1) | exact HB.out)) hb); have n1_ := Aside0.mk (hbox); have n2_ := Aside0.mk ((by rw [hg]; exact (below_size (by repeat (first | (with_reducible first | exact HB.out | apply below_alloc | apply pw_below_drewN | apply below_drew1) | exact HB.out))) : w.heap.size ≤ gb182)); have n3_ := Aside0.mk ((by rw [hg]; exact (below_size (by repeat (first | (with_reducible first | exact HB.out | apply below_alloc | apply pw_below_drewN | apply below_drew1) | exact HB.out))) : w.heap.size ≤ gb182)); clear HB; have HB := n0_; have BK182 := n1_; have GW182 := n2_; have GE182 := n3_; clear n0_ n1_ n2_ n3_; clear hb hbox hg; have hcz19_0 : w18.cell? ⟨gb182, 0, none⟩ = some (.int .i64 0) := (blk_cell BK182.out 0).trans rfl; have hcz19_1 : w18.cell? ⟨gb182, 1, none⟩ = some (.int .i64 0) := (blk_cell BK182.out 1).trans rfl; have hfz19_0 := blk_frozen BK182.out 0; have hfz19_1 := blk_frozen BK182.out 1; have p183 : 0 ≤ (((rd_T81 l1 x17_1).f0) : Int) := of_decide_eq_true (by first | (with_reducible assumption) | assumption); have q183 : ((rd_T81 l1 x17_1).f0) < (l0.length : Int) := of_decide_eq_true (by first | (with_reducible assumption) | assumption); obtain ⟨ad183, e183, hx183_0, hx183_1, hx183_2, hx183_3⟩ := at_T54 HR0.out ((rd_T81 l1 x17_1).f0) p183 q183; cases e183; have hn183_0 : ad183.block ≠ gb182 := Nat.ne_of_lt (Nat.lt_of_lt_of_le (by have := World.block_lt_of_cell? _ _ hx183_0; first | rwa [add_block] at this | exact this) GW182.out); have hn183_1 : ad183.block ≠ gb182 := Nat.ne_of_lt (Nat.lt_of_lt_of_le (by have := World.block_lt_of_cell? _ _ hx183_0; first | rwa [add_block] at this | exact this) GW182.out); replace hx183_0 := (HB.out.cell (World.block_lt_of_cell? w _ hx183_0)).trans hx183_0; replace hx183_1 := (HB.out.cell (World.block_lt_of_cell? w _ hx183_1)).trans hx183_1; replace hx183_2 := (HB.out.cell (World.block_lt_of_cell? w _ hx183_2)).trans hx183_2; replace hx183_3 := (HB.out.cell (World.block_lt_of_cell? w _ hx183_3)).trans hx183_3; replace hx183_0 := (cell_far (p := ⟨gb182, 0, none⟩) (by first | (rw [add_block]; exact hn183_0) | (show (Addr.add _ _).block ≠ _; rw [add_block]; exact hn183_0) | exact hn183_0) (.int .i64 ((rd_T81 l1 x17_1).f0))).trans hx183_0; replace hx183_1 := (cell_far (p := ⟨gb182, 0, none⟩) (by first | (rw [add_block]; exact hn183_0) | (show (Addr.add _ _).block ≠ _; rw [add_block]; exact hn183_0) | exact hn183_0) (.int .i64 ((rd_T81 l1 x17_1).f0))).trans hx183_1; replace hx183_2 := (cell_far (p := ⟨gb182, 0, none⟩) (by first | (rw [add_block]; exact hn183_0) | (show (Addr.add _ _).block ≠ _; rw [add_block]; exact hn183_0) | exact hn183_0) (.int .i64 ((rd_T81 l1 x17_1).f0))).trans hx183_2; replace hx183_3 := (cell_far (p := ⟨gb182, 0, none⟩) (by first | (rw [add_block]; exact hn183_0) | (show (Addr.add _ _).block ≠ _; rw [add_block]; exact hn183_0) | exact hn183_0) (.int .i64 ((rd_T81 l1 x17_1).f0))).trans hx183_3; replace hx183_0 := (cell_far (p := ⟨gb182, 1, none⟩) (by first | (rw [add_block]; exact hn183_1) | (show (Addr.add _ _).block ≠ _; rw [add_block]; exact hn183_1) | exact hn183_1) (.int .i64 ((rd_T81 l1 x17_1).f1))).trans hx183_0; replace hx183_1 := (cell_far (p := ⟨gb182, 1, none⟩) (by first | (rw [add_block]; exact hn183_1) | (show (Addr.add _ _).block ≠ _; rw [add_block]; exact hn183_1) | exact hn183_1) (.int .i64 ((rd_T81 l1 x17_1).f1))).trans hx183_1; replace hx183_2 := (cell_far (p := ⟨gb182, 1, none⟩) (by first | (rw [add_block]; exact hn183_1) | (show (Addr.add _ _).block ≠ _; rw [add_block]; exact hn183_1) | exact hn183_1) (.int .i64 ((rd_T81 l1 x17_1).f1))).trans hx183_2; replace hx183_3 := (cell_far (p := ⟨gb182, 1, none⟩) (by first | (rw [add_block]; exact hn183_1) | (show (Addr.add _ _).block ≠ _; rw [add_block]; exact hn183_1) | exact hn183_1) (.int .i64 ((rd_T81 l1 x17_1).f1))).trans hx183_3; clear hn183_0; clear hn183_1; replace p183 := eq_true p183; replace q183 := eq_true q183))
                          have n0_ : Aside0 (((w18.setCell ⟨gb182, 0, none⟩ (.int .i64 ((rd_T81 l1 x17_1).f0))).setCell ⟨gb182, 1, none⟩ (.int .i64 ((rd_T81 l1 x17_1).f1))).heap[gb182]? = some (.cells #[.int .i64 ((rd_T81 l1 x17_1).f0), .int .i64 ((rd_T81 l1 x17_1).f1)] 81 (0, 0))) := ⟨by (with_reducible repeat (first | refine blk_drewN ?_ _ | refine blk_drew ?_ | refine blk_alloc ?_ _)); refine blk_put (cs := #[.int .i64 ((rd_T81 l1 x17_1).f0), .int .i64 0]) ?_ 1 _ rfl; (with_reducible repeat (first | refine blk_drewN ?_ _ | refine blk_drew ?_ | refine blk_alloc ?_ _)); refine blk_put (cs := #[.int .i64 0, .int .i64 0]) ?_ 0 _ rfl; (with_reducible repeat (first | refine blk_drewN ?_ _ | refine blk_drew ?_ | refine blk_alloc ?_ _)); exact BK182.out⟩
                          have n1_ : Aside0 (Below w.heap.size w ((w18.setCell ⟨gb182, 0, none⟩ (.int .i64 ((rd_T81 l1 x17_1).f0))).setCell ⟨gb182, 1, none⟩ (.int .i64 ((rd_T81 l1 x17_1).f1)))) := ⟨by repeat (first | (with_reducible first | exact HB.out | apply below_alloc | apply pw_below_drewN | apply below_drew1 | refine below_set ?_ GE182.out) | exact HB.out)⟩
                          (try clear BK182)
                          (try clear HB)
                          generalize ((w18.setCell ⟨gb182, 0, none⟩ (.int .i64 ((rd_T81 l1 x17_1).f0))).setCell ⟨gb182, 1, none⟩ (.int .i64 ((rd_T81 l1 x17_1).f1))) = w20 at n0_ n1_ ⊢
                          have BK182 := n0_
                          have HB := n1_
                          clear n0_ n1_
                          have n0_ := Aside0.mk (blk_drew BK182.out)
                          have n1_ := Aside0.mk (below_drew1 HB.out)
                          clear BK182
                          clear HB
                          have BK182 := n0_
                          have HB := n1_
                          clear n0_ n1_
                          have p184 : 0 ≤ ((ji12) : Int) := of_decide_eq_true (by first | (with_reducible assumption) | assumption)
                          have q184 : (ji12) < (l1.length : Int) := of_decide_eq_true (by first | (with_reducible assumption) | assumption)
                          obtain ⟨ad184, e184, hx184_0, hx184_1⟩ := at_T81 HR1.out (ji12) p184 q184
                          have hw184_1 := hx184_1
                          have hw184_0 := hx184_0
                          obtain rfl : ad181 = ad184 := (by injection e184)
                          replace hx184_0 := (HB.out.cell (World.block_lt_of_cell? w _ hx184_0)).trans hx184_0
                          replace hx184_1 := (HB.out.cell (World.block_lt_of_cell? w _ hx184_1)).trans hx184_1
                          replace p184 := eq_true p184
                          replace q184 := eq_true q184
                          have p185 : 0 ≤ (((rd_T81 l1 (ji12)).f0) : Int) := of_decide_eq_true (by first | (with_reducible assumption) | assumption)
                          have q185 : ((rd_T81 l1 (ji12)).f0) < (l0.length : Int) := of_decide_eq_true (by first | (with_reducible assumption) | assumption)
                          obtain ⟨ad185, e185, hx185_0, hx185_1, hx185_2, hx185_3⟩ := at_T54 HR0.out ((rd_T81 l1 (ji12)).f0) p185 q185
                          have hw185_3 := hx185_3
                          have hw185_2 := hx185_2
                          have hw185_1 := hx185_1
                          have hw185_0 := hx185_0
                          obtain rfl : ad183 = ad185 := (by injection e185)
                          replace hx185_0 := (HB.out.cell (World.block_lt_of_cell? w _ hx185_0)).trans hx185_0
                          replace hx185_1 := (HB.out.cell (World.block_lt_of_cell? w _ hx185_1)).trans hx185_1
                          replace hx185_2 := (HB.out.cell (World.block_lt_of_cell? w _ hx185_2)).trans hx185_2
                          replace hx185_3 := (HB.out.cell (World.block_lt_of_cell? w _ hx185_3)).trans hx185_3
                          replace p185 := eq_true p185
                          replace q185 := eq_true q185
                          have p186 : 0 ≤ (((rd_T81 l1 x17_1).f0) : Int) := of_decide_eq_true (by first | (with_reducible assumption) | assumption)
                          have q186 : ((rd_T81 l1 x17_1).f0) < (l0.length : Int) := of_decide_eq_true (by first | (with_reducible assumption) | assumption)
                          obtain ⟨ad186, e186, hx186_0, hx186_1, hx186_2, hx186_3⟩ := at_T54 HR0.out ((rd_T81 l1 x17_1).f0) p186 q186
                          have hw186_3 := hx186_3
                          have hw186_2 := hx186_2
                          have hw186_1 := hx186_1
                          have hw186_0 := hx186_0
                          obtain rfl : ad183 = ad186 := (by injection e186)
                          replace hx186_0 := (HB.out.cell (World.block_lt_of_cell? w _ hx186_0)).trans hx186_0
                          replace hx186_1 := (HB.out.cell (World.block_lt_of_cell? w _ hx186_1)).trans hx186_1
                          replace hx186_2 := (HB.out.cell (World.block_lt_of_cell? w _ hx186_2)).trans hx186_2
                          replace hx186_3 := (HB.out.cell (World.block_lt_of_cell? w _ hx186_3)).trans hx186_3
                          replace p186 := eq_true p186
                          replace q186 := eq_true q186
                          refine start_ (n := 20) (S := fun w' => w'.cell? ⟨gb182, 0, none⟩ = some (.int .i64 ((rd_T81 l1 x17_1).f0)) ∧ w'.cell? ⟨gb182, 1, none⟩ = some (.int .i64 ((rd_T81 l1 x17_1).f1)) ∧ w'.cell? (ad181.add (((ji12)).toNat * 2)) = some (.int .i64 ((rd_T81 l1 (ji12)).f0)) ∧ w'.cell? ⟨(ad181.add (((ji12)).toNat * 2)).block, (ad181.add (((ji12)).toNat * 2)).off + 1, none⟩ = some (.int .i64 ((rd_T81 l1 (ji12)).f1)) ∧ w'.cell? (ad183.add ((((rd_T81 l1 (ji12)).f0)).toNat * 4)) = some (.int .i64 ((rd_T54 l0 ((rd_T81 l1 (ji12)).f0)).f0.f0)) ∧ w'.cell? ⟨(ad183.add ((((rd_T81 l1 (ji12)).f0)).toNat * 4)).block, (ad183.add ((((rd_T81 l1 (ji12)).f0)).toNat * 4)).off + 1, none⟩ = some (.int .i64 ((rd_T54 l0 ((rd_T81 l1 (ji12)).f0)).f0.f1)) ∧ w'.cell? ⟨(ad183.add ((((rd_T81 l1 (ji12)).f0)).toNat * 4)).block, (ad183.add ((((rd_T81 l1 (ji12)).f0)).toNat * 4)).off + 2, none⟩ = some (.int .i64 ((rd_T54 l0 ((rd_T81 l1 (ji12)).f0)).f1)) ∧ w'.cell? ⟨(ad183.add ((((rd_T81 l1 (ji12)).f0)).toNat * 4)).block, (ad183.add ((((rd_T81 l1 (ji12)).f0)).toNat * 4)).off + 3, none⟩ = some (.int .i64 ((rd_T54 l0 ((rd_T81 l1 (ji12)).f0)).f2)) ∧ w'.cell? (ad183.add ((((rd_T81 l1 x17_1).f0)).toNat * 4)) = some (.int .i64 ((rd_T54 l0 ((rd_T81 l1 x17_1).f0)).f0.f0)) ∧ w'.cell? ⟨(ad183.add ((((rd_T81 l1 x17_1).f0)).toNat * 4)).block, (ad183.add ((((rd_T81 l1 x17_1).f0)).toNat * 4)).off + 1, none⟩ = some (.int .i64 ((rd_T54 l0 ((rd_T81 l1 x17_1).f0)).f0.f1)) ∧ w'.cell? ⟨(ad183.add ((((rd_T81 l1 x17_1).f0)).toNat * 4)).block, (ad183.add ((((rd_T81 l1 x17_1).f0)).toNat * 4)).off + 2, none⟩ = some (.int .i64 ((rd_T54 l0 ((rd_T81 l1 x17_1).f0)).f1)) ∧ w'.cell? ⟨(ad183.add ((((rd_T81 l1 x17_1).f0)).toNat * 4)).block, (ad183.add ((((rd_T81 l1 x17_1).f0)).toNat * 4)).off + 3, none⟩ = some (.int .i64 ((rd_T54 l0 ((rd_T81 l1 x17_1).f0)).f2))) (ds := []) #[false, false, false, false, false, false, false, false, false, false, false, false, false, false, false, false, false, false, false, false] (by kernel_rfl) rfl rfl ⟨(blk_cell BK182.out 0).trans rfl, (blk_cell BK182.out 1).trans rfl, ((HB.out.cell (World.block_lt_of_cell? w _ hw184_0)).trans hw184_0), ((HB.out.cell (World.block_lt_of_cell? w _ hw184_1)).trans hw184_1), ((HB.out.cell (World.block_lt_of_cell? w _ hw185_0)).trans hw185_0), ((HB.out.cell (World.block_lt_of_cell? w _ hw185_1)).trans hw185_1), ((HB.out.cell (World.block_lt_of_cell? w _ hw185_2)).trans hw185_2), ((HB.out.cell (World.block_lt_of_cell? w _ hw185_3)).trans hw185_3), ((HB.out.cell (World.block_lt_of_cell? w _ hw186_0)).trans hw186_0), ((HB.out.cell (World.block_lt_of_cell? w _ hw186_1)).trans hw186_1), ((HB.out.cell (World.block_lt_of_cell? w _ hw186_2)).trans hw186_2), ((HB.out.cell (World.block_lt_of_cell? w _ hw186_3)).trans hw186_3)⟩ (fun hHeld => ?_); refine with_tabW impl_BusyTicks.tab9 impl_BusyTicks.bits9 (fun HT_ HW_ => ?_)
                          generalize w20.drew = w21 at BK182 HB hx184_0 hx184_1 hx185_0 hx185_1 hx185_2 hx185_3 hx186_0 hx186_1 hx186_2 hx186_3 hHeld ⊢
                          refine pure_ (i := 0) (N := some 32) (v := ?_) (a' := ?_) #[true, false, false, false, false, false, false, false, false, false, false, false, false, false, false, false, false, false, false, false] rfl rfl (any_of HT_.out (by kernel_rfl)) (fun _ _ _ h => h) (Or.inl ⟨by rfl, ?_⟩) ?_ ?_; rotate_left 4
                          refine pure_ (i := 1) (N := some 33) (v := ?_) (a' := ?_) #[true, true, false, false, false, false, false, false, false, false, false, false, false, false, false, false, false, false, false, false] rfl rfl (any_of HT_.out (by kernel_rfl)) (fun _ _ _ h => h) (Or.inl ⟨by rfl, ?_⟩) ?_ ?_; rotate_left 4
                          refine pure_ (i := 2) (N := some 34) (v := ?_) (a' := ?_) #[true, true, true, false, false, false, false, false, false, false, false, false, false, false, false, false, false, false, false, false] rfl rfl (any_of HT_.out (by kernel_rfl)) (fun _ _ _ h => h) (Or.inl ⟨by rfl, ?_⟩) ?_ ?_; rotate_left 4
                          refine pure_ (i := 3) (N := some 35) (v := ?_) (a' := ?_) #[true, true, true, true, false, false, false, false, false, false, false, false, false, false, false, false, false, false, false, false] rfl rfl (any_of HT_.out (by kernel_rfl)) (fun _ _ _ h => h) (Or.inl ⟨by rfl, ?_⟩) ?_ ?_; rotate_left 4
                          refine pure_ (i := 4) (N := some 36) (v := ?_) (a' := ?_) #[true, true, true, true, true, false, false, false, false, false, false, false, false, false, false, false, false, false, false, false] rfl rfl (any_of HT_.out (by kernel_rfl)) (fun _ _ _ h => h) (Or.inl ⟨by rfl, ?_⟩) ?_ ?_; rotate_left 4
                          refine pure_ (i := 5) (N := some 37) (v := ?_) (a' := ?_) #[true, true, true, true, true, true, false, false, false, false, false, false, false, false, false, false, false, false, false, false] rfl rfl (any_of HT_.out (by kernel_rfl)) (fun _ _ _ h => h) (Or.inl ⟨by rfl, ?_⟩) ?_ ?_; rotate_left 4
                          refine pure_ (i := 6) (N := some 38) (v := ?_) (a' := ?_) #[true, true, true, true, true, true, true, false, false, false, false, false, false, false, false, false, false, false, false, false] rfl rfl (any_of HT_.out (by kernel_rfl)) (fun _ _ _ h => h) (Or.inl ⟨by rfl, ?_⟩) ?_ ?_; rotate_left 4
                          refine pure_ (i := 11) (N := some 43) (v := ?_) (a' := ?_) #[true, true, true, true, true, true, true, false, false, false, false, true, false, false, false, false, false, false, false, false] rfl rfl (any_of HT_.out (by kernel_rfl)) (fun _ _ _ h => h) (Or.inl ⟨by rfl, ?_⟩) ?_ ?_; rotate_left 4
                          refine pure_ (i := 12) (N := some 44) (v := ?_) (a' := ?_) #[true, true, true, true, true, true, true, false, false, false, false, true, true, false, false, false, false, false, false, false] rfl rfl (any_of HT_.out (by kernel_rfl)) (fun _ _ _ h => h) (Or.inl ⟨by rfl, ?_⟩) ?_ ?_; rotate_left 4
                          rotate_left; iterate 9 (rotate_left; (intro w'; go_simp; with_reducible rfl); rotate_left; (simp only [Act.put, List.setIfInBounds_toArray, List.set_cons_zero, List.set_cons_succ, i64_w, i32_w]; rfl))
                          refine take_ (i := 7) (N := some 39) (v := ?_) (a' := ?_) #[true, true, true, true, true, true, true, true, false, false, false, true, true, false, false, false, false, false, false, false] rfl rfl (take_ofW HT_.out HW_.out (by kernel_rfl)) (fun _ _ _ h => h) (Or.inl ⟨by rfl, ?_⟩) hHeld ?_ ?_
                          rotate_left
                          · rintro w' ⟨s0, s1, s2, s3, s4, s5, s6, s7, s8, s9, s10, s11⟩
                            go_simp
                            with_reducible rfl
                          rotate_left
                          · simp only [Act.put, List.setIfInBounds_toArray, List.set_cons_zero, List.set_cons_succ, i64_w, i32_w]
                            rfl
                          refine pure_ (i := 8) (N := some 40) (v := ?_) (a' := ?_) #[true, true, true, true, true, true, true, true, true, false, false, true, true, false, false, false, false, false, false, false] rfl rfl (any_of HT_.out (by kernel_rfl)) (fun _ _ _ h => h) (Or.inl ⟨by rfl, ?_⟩) ?_ ?_; rotate_left 4
                          refine pure_ (i := 9) (N := some 41) (v := ?_) (a' := ?_) #[true, true, true, true, true, true, true, true, true, true, false, true, true, false, false, false, false, false, false, false] rfl rfl (any_of HT_.out (by kernel_rfl)) (fun _ _ _ h => h) (Or.inl ⟨by rfl, ?_⟩) ?_ ?_; rotate_left 4
                          rotate_left; iterate 2 (rotate_left; (intro w'; go_simp; with_reducible rfl); rotate_left; (simp only [Act.put, List.setIfInBounds_toArray, List.set_cons_zero, List.set_cons_succ, i64_w, i32_w]; rfl))
                          refine take_ (i := 10) (N := some 42) (v := ?_) (a' := ?_) #[true, true, true, true, true, true, true, true, true, true, true, true, true, false, false, false, false, false, false, false] rfl rfl (take_ofW HT_.out HW_.out (by kernel_rfl)) (fun _ _ _ h => h) (Or.inl ⟨by rfl, ?_⟩) hHeld ?_ ?_
                          rotate_left
                          · rintro w' ⟨s0, s1, s2, s3, s4, s5, s6, s7, s8, s9, s10, s11⟩
                            go_simp
                            with_reducible rfl
                          rotate_left
                          · simp only [Act.put, List.setIfInBounds_toArray, List.set_cons_zero, List.set_cons_succ, i64_w, i32_w]
                            rfl
                          refine take_ (i := 13) (N := some 45) (v := ?_) (a' := ?_) #[true, true, true, true, true, true, true, true, true, true, true, true, true, true, false, false, false, false, false, false] rfl rfl (take_ofW HT_.out HW_.out (by kernel_rfl)) (fun _ _ _ h => h) (Or.inl ⟨by rfl, ?_⟩) hHeld ?_ ?_
                          rotate_left
                          · rintro w' ⟨s0, s1, s2, s3, s4, s5, s6, s7, s8, s9, s10, s11⟩
                            go_simp
                            with_reducible rfl
                          rotate_left
                          · simp only [Act.put, List.setIfInBounds_toArray, List.set_cons_zero, List.set_cons_succ, i64_w, i32_w]
                            rfl
                          refine pure_ (i := 14) (N := some 46) (v := ?_) (a' := ?_) #[true, true, true, true, true, true, true, true, true, true, true, true, true, true, true, false, false, false, false, false] rfl rfl (any_of HT_.out (by kernel_rfl)) (fun _ _ _ h => h) (Or.inl ⟨by rfl, ?_⟩) ?_ ?_; rotate_left 4
                          refine pure_ (i := 15) (N := some 47) (v := ?_) (a' := ?_) #[true, true, true, true, true, true, true, true, true, true, true, true, true, true, true, true, false, false, false, false] rfl rfl (any_of HT_.out (by kernel_rfl)) (fun _ _ _ h => h) (Or.inl ⟨by rfl, ?_⟩) ?_ ?_; rotate_left 4
                          rotate_left; iterate 2 (rotate_left; (intro w'; go_simp; with_reducible rfl); rotate_left; (simp only [Act.put, List.setIfInBounds_toArray, List.set_cons_zero, List.set_cons_succ, i64_w, i32_w]; rfl))
                          refine take_ (i := 16) (N := some 48) (v := ?_) (a' := ?_) #[true, true, true, true, true, true, true, true, true, true, true, true, true, true, true, true, true, false, false, false] rfl rfl (take_ofW HT_.out HW_.out (by kernel_rfl)) (fun _ _ _ h => h) (Or.inl ⟨by rfl, ?_⟩) hHeld ?_ ?_
                          rotate_left
                          · rintro w' ⟨s0, s1, s2, s3, s4, s5, s6, s7, s8, s9, s10, s11⟩
                            go_simp
                            with_reducible rfl
                          rotate_left
                          · simp only [Act.put, List.setIfInBounds_toArray, List.set_cons_zero, List.set_cons_succ, i64_w, i32_w]
                            rfl
                          refine one_ (i := 17) (N := some 49) #[true, true, true, true, true, true, true, true, true, true, true, true, true, true, true, true, true, true, false, false] rfl rfl (one_of HT_.out (by kernel_rfl)) (by decide) (fun K hK => ?_)
                          refine goes_ Try.func56 (by kernel_rfl) rfl #[.agg #[.int .i64 ((rd_T54 l0 ((rd_T81 l1 (ji12)).f0)).f0.f0), .int .i64 ((rd_T54 l0 ((rd_T81 l1 (ji12)).f0)).f0.f1)], .agg #[.int .i64 ((rd_T54 l0 ((rd_T81 l1 x17_1).f0)).f0.f0), .int .i64 ((rd_T54 l0 ((rd_T81 l1 x17_1).f0)).f0.f1)]] (by rfl) rfl rfl (by (try simp only [List.map_toArray, List.map_cons, List.map_nil]); first | done | (simp only [hji12]; rfl) | rfl | (simp only [List.length_drop, List.length_take]; rfl)) ?_
                          with_reducible refine (impl_switchTicks.calls ((rd_T54 l0 ((rd_T81 l1 (ji12)).f0)).f0.f0) ((rd_T54 l0 ((rd_T81 l1 (ji12)).f0)).f0.f1) ((rd_T54 l0 ((rd_T81 l1 x17_1).f0)).f0.f0) ((rd_T54 l0 ((rd_T81 l1 x17_1).f0)).f0.f1) t187 _ A17.out).mono ?_
                          rintro e w22 ⟨rfl, hb⟩
                          refine ⟨_, rfl, ?_⟩
                          have n0_ := Aside0.mk (blk_below (g := gb182) (o := .cells #[.int .i64 ((rd_T81 l1 x17_1).f0), .int .i64 ((rd_T81 l1 x17_1).f1)] 81 (0, 0)) (by (with_reducible repeat (first | refine blk_drewN ?_ _ | refine blk_drew ?_ | refine blk_alloc ?_ _)); exact BK182.out) hb)
                          have n1_ := Aside0.mk (below_step (by repeat (first | (with_reducible first | exact HB.out | apply below_alloc | apply pw_below_drewN | apply below_drew1 | refine below_set ?_ GE182.out) | exact HB.out)) hb)
                          clear BK182
                          clear HB
                          have BK182 := n0_
                          have HB := n1_
                          clear n0_ n1_
                          (try clear hb)
                          (try clear hb2)
                          (try clear hk)
                          (try clear hi)
                          refine hK.out _ _ ⟨(blk_cell BK182.out 0).trans rfl, (blk_cell BK182.out 1).trans rfl, ((HB.out.cell (World.block_lt_of_cell? w _ hw184_0)).trans hw184_0), ((HB.out.cell (World.block_lt_of_cell? w _ hw184_1)).trans hw184_1), ((HB.out.cell (World.block_lt_of_cell? w _ hw185_0)).trans hw185_0), ((HB.out.cell (World.block_lt_of_cell? w _ hw185_1)).trans hw185_1), ((HB.out.cell (World.block_lt_of_cell? w _ hw185_2)).trans hw185_2), ((HB.out.cell (World.block_lt_of_cell? w _ hw185_3)).trans hw185_3), ((HB.out.cell (World.block_lt_of_cell? w _ hw186_0)).trans hw186_0), ((HB.out.cell (World.block_lt_of_cell? w _ hw186_1)).trans hw186_1), ((HB.out.cell (World.block_lt_of_cell? w _ hw186_2)).trans hw186_2), ((HB.out.cell (World.block_lt_of_cell? w _ hw186_3)).trans hw186_3)⟩ (fun hHeld => ?_)
                          clear hK K
                          refine norm_ (a' := ?_) ?_ ?_
                          rotate_left
                          · show Act.put _ (some 49) _ = _
                            simp only [Act.put, List.setIfInBounds_toArray, List.set_cons_zero, List.set_cons_succ, i64_w, i32_w]
                            rfl
                          refine pure_ (i := 18) (N := some 50) (v := ?_) (a' := ?_) #[true, true, true, true, true, true, true, true, true, true, true, true, true, true, true, true, true, true, true, false] rfl rfl (any_of HT_.out (by kernel_rfl)) (fun _ _ _ h => h) (Or.inl ⟨by rfl, ?_⟩) ?_ ?_; rotate_left 4
                          refine pure_ (i := 19) (N := some 8) (v := ?_) (a' := ?_) #[true, true, true, true, true, true, true, true, true, true, true, true, true, true, true, true, true, true, true, true] rfl rfl (any_of HT_.out (by kernel_rfl)) (fun _ _ _ h => h) (Or.inl ⟨by rfl, ?_⟩) ?_ ?_; rotate_left 4
                          rotate_left; iterate 2 (rotate_left; (intro w'; go_simp; with_reducible rfl); rotate_left; (simp only [Act.put, List.setIfInBounds_toArray, List.set_cons_zero, List.set_cons_succ, i64_w, i32_w]; rfl))
                          refine done_ (done_of HT_.out (by kernel_rfl)) ?_
                          try go_wp2
                          go_roundg k1
                          case measure => have := HK1.out; omega
                          case rel => exact ⟨(wrap64 (x7_1 + ((rd_T54 l0 ((rd_T81 l1 x17_1).f0)).f1))), (wrap64 (x8_1 + t187)), (wrap64 (x17_1 + 1)), (by first | rfl | (simp; done) | (simp [*]; done)), (by first | rfl | (simp; done) | (simp [*]; done)), (by first | rfl | (simp; done) | (simp [*]; done)), H', ⟨by have := HK1.out; omega⟩, ⟨by repeat (first | (with_reducible first | exact HB.out | apply below_alloc | apply pw_below_drewN | apply below_drew1 | refine below_set ?_ GE182.out) | exact HB.out)⟩⟩
                       · rw [if_neg c16] at H
                         exact absurd H (by simp)
                     · rw [if_neg c15] at H
                       exact absurd H (by simp)
                   · rw [if_neg c14] at H
                     exact absurd H (by simp)
                 · rw [if_neg c13] at H
                   exact absurd H (by simp)
               · rw [if_neg c11] at H
                 have c11b0 : decide (0 < x17_1) = false := decide_eq_false c11
                 clear c11
                 as_aux_lemma =>
                  have H' := Aside0.mk H
                  clear H
                  have p181 : 0 ≤ (x17_1 : Int) := of_decide_eq_true (by first | (with_reducible assumption) | assumption)
                  have q181 : x17_1 < (l1.length : Int) := of_decide_eq_true (by first | (with_reducible assumption) | assumption)
                  obtain ⟨ad181, e181, hx181_0, hx181_1⟩ := at_T81 HR1.out x17_1 p181 q181
                  cases e181
                  replace hx181_0 := (HB.out.cell (World.block_lt_of_cell? w _ hx181_0)).trans hx181_0
                  replace hx181_1 := (HB.out.cell (World.block_lt_of_cell? w _ hx181_1)).trans hx181_1
                  replace p181 := eq_true p181
                  replace q181 := eq_true q181
                  go_wp2_with (first | ((with_reducible refine gate_dst (N := 10) rfl ?_); refine box_event ?hg (N := 10) ?hd (cs := #[.int .i64 0, .int .i64 0]) (t := 81) ?hr ?_; (case hd => rfl); (case hg => rfl); (case hr => first | (go_simp; done) | (go_simp; rfl)); intro gb182 hg w23 hbox hb; have n0_ := Aside0.mk (below_step (by repeat (first | (with_reducible first | exact HB.out | apply below_alloc | apply pw_below_drewN | apply below_drew1) | exact HB.out)) hb); have n1_ := Aside0.mk (hbox); have n2_ := Aside0.mk ((by rw [hg]; exact (below_size (by repeat (first | (with_reducible first | exact HB.out | apply below_alloc | apply pw_below_drewN | apply below_drew1) | exact HB.out))) : w.heap.size ≤ gb182)); have n3_ := Aside0.mk ((by rw [hg]; exact (below_size (by repeat (first | (with_reducible first | exact HB.out | apply below_alloc | apply pw_below_drewN | apply below_drew1) | exact HB.out))) : w.heap.size ≤ gb182)); clear HB; have HB := n0_; have BK182 := n1_; have GW182 := n2_; have GE182 := n3_; clear n0_ n1_ n2_ n3_; clear hb hbox hg; have hcz24_0 : w23.cell? ⟨gb182, 0, none⟩ = some (.int .i64 0) := (blk_cell BK182.out 0).trans rfl; have hcz24_1 : w23.cell? ⟨gb182, 1, none⟩ = some (.int .i64 0) := (blk_cell BK182.out 1).trans rfl; have hfz24_0 := blk_frozen BK182.out 0; have hfz24_1 := blk_frozen BK182.out 1; have p183 : 0 ≤ (((rd_T81 l1 x17_1).f0) : Int) := of_decide_eq_true (by first | (with_reducible assumption) | assumption); have q183 : ((rd_T81 l1 x17_1).f0) < (l0.length : Int) := of_decide_eq_true (by first | (with_reducible assumption) | assumption); obtain ⟨ad183, e183, hx183_0, hx183_1, hx183_2, hx183_3⟩ := at_T54 HR0.out ((rd_T81 l1 x17_1).f0) p183 q183; cases e183; have hn183_0 : ad183.block ≠ gb182 := Nat.ne_of_lt (Nat.lt_of_lt_of_le (by have := World.block_lt_of_cell? _ _ hx183_0; first | rwa [add_block] at this | exact this) GW182.out); have hn183_1 : ad183.block ≠ gb182 := Nat.ne_of_lt (Nat.lt_of_lt_of_le (by have := World.block_lt_of_cell? _ _ hx183_0; first | rwa [add_block] at this | exact this) GW182.out); replace hx183_0 := (HB.out.cell (World.block_lt_of_cell? w _ hx183_0)).trans hx183_0; replace hx183_1 := (HB.out.cell (World.block_lt_of_cell? w _ hx183_1)).trans hx183_1; replace hx183_2 := (HB.out.cell (World.block_lt_of_cell? w _ hx183_2)).trans hx183_2; replace hx183_3 := (HB.out.cell (World.block_lt_of_cell? w _ hx183_3)).trans hx183_3; replace hx183_0 := (cell_far (p := ⟨gb182, 0, none⟩) (by first | (rw [add_block]; exact hn183_0) | (show (Addr.add _ _).block ≠ _; rw [add_block]; exact hn183_0) | exact hn183_0) (.int .i64 ((rd_T81 l1 x17_1).f0))).trans hx183_0; replace hx183_1 := (cell_far (p := ⟨gb182, 0, none⟩) (by first | (rw [add_block]; exact hn183_0) | (show (Addr.add _ _).block ≠ _; rw [add_block]; exact hn183_0) | exact hn183_0) (.int .i64 ((rd_T81 l1 x17_1).f0))).trans hx183_1; replace hx183_2 := (cell_far (p := ⟨gb182, 0, none⟩) (by first | (rw [add_block]; exact hn183_0) | (show (Addr.add _ _).block ≠ _; rw [add_block]; exact hn183_0) | exact hn183_0) (.int .i64 ((rd_T81 l1 x17_1).f0))).trans hx183_2; replace hx183_3 := (cell_far (p := ⟨gb182, 0, none⟩) (by first | (rw [add_block]; exact hn183_0) | (show (Addr.add _ _).block ≠ _; rw [add_block]; exact hn183_0) | exact hn183_0) (.int .i64 ((rd_T81 l1 x17_1).f0))).trans hx183_3; replace hx183_0 := (cell_far (p := ⟨gb182, 1, none⟩) (by first | (rw [add_block]; exact hn183_1) | (show (Addr.add _ _).block ≠ _; rw [add_block]; exact hn183_1) | exact hn183_1) (.int .i64 ((rd_T81 l1 x17_1).f1))).trans hx183_0; replace hx183_1 := (cell_far (p := ⟨gb182, 1, none⟩) (by first | (rw [add_block]; exact hn183_1) | (show (Addr.add _ _).block ≠ _; rw [add_block]; exact hn183_1) | exact hn183_1) (.int .i64 ((rd_T81 l1 x17_1).f1))).trans hx183_1; replace hx183_2 := (cell_far (p := ⟨gb182, 1, none⟩) (by first | (rw [add_block]; exact hn183_1) | (show (Addr.add _ _).block ≠ _; rw [add_block]; exact hn183_1) | exact hn183_1) (.int .i64 ((rd_T81 l1 x17_1).f1))).trans hx183_2; replace hx183_3 := (cell_far (p := ⟨gb182, 1, none⟩) (by first | (rw [add_block]; exact hn183_1) | (show (Addr.add _ _).block ≠ _; rw [add_block]; exact hn183_1) | exact hn183_1) (.int .i64 ((rd_T81 l1 x17_1).f1))).trans hx183_3; clear hn183_0; clear hn183_1; replace p183 := eq_true p183; replace q183 := eq_true q183))
                  go_roundg k1
                  case measure => have := HK1.out; omega
                  case rel => exact ⟨(wrap64 (x7_1 + ((rd_T54 l0 ((rd_T81 l1 x17_1).f0)).f1))), (x8_1), (wrap64 (x17_1 + 1)), (by first | rfl | (simp; done) | (simp [*]; done)), (by first | rfl | (simp; done) | (simp [*]; done)), (by first | rfl | (simp; done) | (simp [*]; done)), H', ⟨by have := HK1.out; omega⟩, ⟨by repeat (first | (with_reducible first | exact HB.out | apply below_alloc | apply pw_below_drewN | apply below_drew1 | refine below_set ?_ GE182.out) | exact HB.out)⟩⟩
             · rw [if_neg c10] at H
               exact absurd H (by simp)
           · rw [if_neg c9] at H
             exact absurd H (by simp)
         · rw [if_neg c8] at H
           exact absurd H (by simp)
       · rw [if_neg c7] at H
         exact absurd H (by simp)
     · rw [if_neg c6] at H
       have c6b0 : decide (x17_1 < (l1.length : Int)) = false := decide_eq_false c6
       clear c6
       as_aux_lemma =>
        simp only [Option.some.injEq, Prod.mk.injEq] at H
        obtain ⟨rfl, rfl, rfl⟩ := H
        go_wp2
        go_ret3
        exact ⟨by first | rfl | (simp [errW_none, errW_some] <;> rfl) | (simp [*, errW_none, errW_some] <;> rfl), by repeat (first | (with_reducible first | exact HB.out | apply below_alloc | apply pw_below_drewN | apply below_drew1) | exact HB.out)⟩
 · replace c4 := Bool.eq_false_iff.mpr c4
   subst c4
   have H1 : (none) = some (r1, r2, r3) := by rw [if_neg (show ¬ (false = true) by decide)] at H; exact H
   clear H
   have H := H1
   clear H1
   exact absurd H (by simp)

-- NOT PRINTED: function 87 (impl_planner_next)

/-! ### impl_PlanBeams: function 49 -/
-- rounds
/-! The planner: the first tick at which a job comes, and the beam whose next job is due first. -/
def firstF (l : List S54) (js : List Int) : Nat → Int
  | 0 => 1000000
  | i + 1 => if wrap64 (js.getD i 0 * (l.getD i z54).f2) < firstF l js i then wrap64 (js.getD i 0 * (l.getD i z54).f2) else firstF l js i
def dueF (l : List S54) (js : List Int) (i : Nat) : Int := wrap64 (wrap64 (js.getD i 0 + 1) * (l.getD i z54).f2)
def bestF (l : List S54) (js : List Int) (clk : Int) : Nat → Int
  | 0 => -1
  | i + 1 => if wrap64 (js.getD i 0 * (l.getD i z54).f2) ≤ clk ∧ (bestF l js clk i < 0 ∨ dueF l js i < dueF l js (bestF l js clk i).toNat) then (i : Int) else bestF l js clk i
theorem bestF_lt (l : List S54) (js : List Int) (clk : Int) : ∀ i : Nat, -1 ≤ bestF l js clk i ∧ bestF l js clk i < i := by
  intro i
  induction i with
  | zero => simp [bestF]
  | succ i ih =>
    simp only [bestF]
    split <;> omega
/-- Where a planner lies: its own block, the block of its jobs' numbers; the beams lie in an older world. -/
structure PlanAt (w0 : World) (B J : Nat) (A : Option Addr) (c : Nat) (l : List S54) (js : List Int) (vs : Value) (clk : Int) (w : World) : Prop where
  own : w.heap[B]? = some (.cells #[.slice A l.length c, .slice (some ⟨J, 0, none⟩) l.length l.length, vs, .int .i64 clk] 112 (0, 0))
  jobs : w.heap[J]? = some (.cells (nums .i64 js).toArray 2 (0, 0))
  len : js.length = l.length
  low : Below w0.heap.size w0 w
  hB : w0.heap.size ≤ B
  hJ : w0.heap.size ≤ J
  ne : B ≠ J
  row : Kd.C k54 w0 A l.length l
section
variable {w0 : World} {B J : Nat} {A : Option Addr} {c : Nat} {l : List S54} {js : List Int} {vs : Value} {clk : Int} {w w1 : World}
theorem PlanAt.beams (h : PlanAt w0 B J A c l js vs clk w) : Kd.C k54 w A l.length l := Kd.C_below h.row h.low
theorem PlanAt.job (h : PlanAt w0 B J A c l js vs clk w) (i : Nat) (hi : i < l.length) : w.cell? ⟨J, i, none⟩ = some (.int .i64 (js.getD i 0)) ∧ w.frozen? ⟨J, i, none⟩ = false := by
  have hl : i < js.length := by rw [h.len]; exact hi
  refine ⟨?_, blk_frozen h.jobs i⟩
  rw [blk_cell h.jobs i]
  simp [nums, List.getElem?_eq_getElem hl, List.getD_eq_getElem?_getD]
theorem PlanAt.below (h : PlanAt w0 B J A c l js vs clk w) (hb : Below w.heap.size w w1) : PlanAt w0 B J A c l js vs clk w1 :=
  ⟨blk_below h.own hb, blk_below h.jobs hb, h.len, below_step h.low hb, h.hB, h.hJ, h.ne, h.row⟩
theorem PlanAt.tick (h : PlanAt w0 B J A c l js vs clk w) (x : Int) : PlanAt w0 B J A c l js vs x (w.setCell ⟨B, 3, none⟩ (.int .i64 x)) :=
  ⟨blk_set h.own 3 _, blk_far h.jobs (p := ⟨B, 3, none⟩) (fun e => h.ne e.symm) _, h.len, h.low.setCell (p := ⟨B, 3, none⟩) h.hB _, h.hB, h.hJ, h.ne, h.row⟩
theorem PlanAt.put (h : PlanAt w0 B J A c l js vs clk w) (v : Value) : PlanAt w0 B J A c l js v clk (w.setCell ⟨B, 2, none⟩ v) :=
  ⟨blk_set h.own 2 _, blk_far h.jobs (p := ⟨B, 2, none⟩) (fun e => h.ne e.symm) _, h.len, h.low.setCell (p := ⟨B, 2, none⟩) h.hB _, h.hB, h.hJ, h.ne, h.row⟩
theorem PlanAt.job_set (h : PlanAt w0 B J A c l js vs clk w) (i : Nat) (x : Int) : PlanAt w0 B J A c l (js.set i x) vs clk (w.setCell ⟨J, i, none⟩ (.int .i64 x)) := by
  refine ⟨blk_far h.own (p := ⟨J, i, none⟩) h.ne _, ?_, by rw [List.length_set]; exact h.len, h.low.setCell (p := ⟨J, i, none⟩) h.hJ _, h.hB, h.hJ, h.ne, h.row⟩
  have := blk_set h.jobs i (.int .i64 x)
  simpa [nums, List.map_set] using this
theorem PlanAt.drewN (h : PlanAt w0 B J A c l js vs clk w) (n : Nat) : PlanAt w0 B J A c l js vs clk (w.drewN n) :=
  ⟨h.own, h.jobs, h.len, pw_below_drewN h.low n, h.hB, h.hJ, h.ne, h.row⟩
end
/-- Only two blocks have turned. -/
structure Two (Bl Bb : Nat) (W W' : World) : Prop where
  os : W'.os = W.os
  tape : W'.tape = W.tape
  output : W'.output = W.output
  size : W.heap.size ≤ W'.heap.size
  block : ∀ k, k < W.heap.size → k ≠ Bl → k ≠ Bb → W'.heap[k]? = W.heap[k]?
theorem Two.refl (Bl Bb : Nat) (W : World) : Two Bl Bb W W := ⟨rfl, rfl, rfl, Nat.le_refl _, fun _ _ _ _ => rfl⟩
theorem Two.trans {Bl Bb : Nat} {W W1 W2 : World} (h : Two Bl Bb W W1) (k : Two Bl Bb W1 W2) : Two Bl Bb W W2 :=
  ⟨k.os.trans h.os, k.tape.trans h.tape, k.output.trans h.output, Nat.le_trans h.size k.size, fun j hj h1 h2 => (k.block j (Nat.lt_of_lt_of_le hj h.size) h1 h2).trans (h.block j hj h1 h2)⟩
theorem Two.of_below {Bl Bb : Nat} {W W1 : World} (h : Below W.heap.size W W1) : Two Bl Bb W W1 := ⟨h.os, h.tape, h.output, h.size, fun j hj _ _ => h.block j hj⟩
theorem Two.setB {Bl Bb : Nat} {W W1 : World} (h : Two Bl Bb W W1) (j : Nat) (u : Value) : Two Bl Bb W (W1.setCell ⟨Bb, j, none⟩ u) :=
  ⟨h.os, h.tape, h.output, by simpa [World.setCell] using h.size, fun k hk h1 h2 => (Below.heap_setCell W1 _ u k h2).trans (h.block k hk h1 h2)⟩
theorem Two.drewN {Bl Bb : Nat} {W W1 : World} (h : Two Bl Bb W W1) (n : Nat) : Two Bl Bb W (W1.drewN n) := ⟨h.os, h.tape, h.output, h.size, h.block⟩
theorem Two.step {Bl Bb : Nat} {W W1 W2 : World} (h : Two Bl Bb W W1) (k : Below W1.heap.size W1 W2) : Two Bl Bb W W2 := h.trans (Two.of_below k)
theorem Two.weak {Bl Bb : Nat} {W W1 : World} (h : Two Bb Bb W W1) : Two Bl Bb W W1 := ⟨h.os, h.tape, h.output, h.size, fun k hk h1 h2 => h.block k hk h2 h2⟩
set_option maxRecDepth 100000 in
theorem due_1 (w0 : World) (i : Nat) (Bx B J : Nat) (A : Option Addr) (c : Nat) (l : List S54) (js : List Int) (vs : Value) (clk : Int) (w : World) (hi : i < l.length) (hx : w.cell? ⟨Bx, 0, none⟩ = some (.pointer (some ⟨B, 0, none⟩))) (hP : PlanAt w0 B J A c l js vs clk w) :
    Calls Try.prog 96 #[.int .i64 i, .pointer (some ⟨Bx, 0, none⟩)] w fun e w' => e = .returned (.int .i64 (dueF l js i)) ∧ Drawn0 w w' := by
  have hn := hP.beams.2.1
  have b0 := blk_cell hP.own 0
  have b1 := blk_cell hP.own 1
  have hj := (hP.job i hi).1
  obtain ⟨ad, hA, hc0, hc1, hc2, hc3⟩ := at_T54 hP.beams (i : Int) (by omega) (by omega)
  have hrd : rd_T54 l (i : Int) = l.getD i z54 := by simp [rd_T54]
  rw [hrd, Int.toNat_natCast] at hc0 hc1 hc2 hc3
  subst hA
  have HI : (i : Int) < (l.length : Int) := by omega
  unfold dueF
  clear hrd hP
  generalize (l.getD i z54).f2 = x2 at *
  generalize js.getD i 0 = x0 at *
  go_enter Try.func96, Try.ntmps96
  go_wp2
  go_quiet (fail)
  go_wp2
  go_ret
  exact ⟨rfl, ⟨⟨_, rfl⟩⟩⟩
set_option maxRecDepth 100000 in
set_option maxHeartbeats 4000000 in
theorem next_1 (w0 : World) (B J : Nat) (A : Option Addr) (c : Nat) (l : List S54) (js : List Int) (vs : Value) (clk : Int) (W : World) (h1 : 1 ≤ l.length) (h7 : l.length ≤ 1000) (hP : PlanAt w0 B J A c l js vs clk W) (ck : Int) (hck : (if clk < firstF l js l.length then firstF l js l.length else clk) = ck) :
    Calls Try.prog 87 #[.pointer (some ⟨B, 0, none⟩)] W fun e w' => e = .returned (.int .i64 (bestF l js ck l.length)) ∧ PlanAt w0 B J A c l js vs ck w' ∧ Two B B W w' := by
  have HP := Aside0.mk hP
  have lB := blk_lt hP.own
  have hW1 := Aside0.mk (below_alloc (Below.refl W.heap.size W) (.cells #[.pointer (some ⟨B, 0, none⟩)] 122))
  have hW2 := Aside0.mk (heap_alloc_new W (.cells #[.pointer (some ⟨B, 0, none⟩)] 122))
  have HP1 := Aside0.mk (hP.below hW1.out)
  have q0 := blk_cell HP1.out.own 0
  have hx := (blk_cell hW2.out 0).trans rfl
  clear hP
  go_enter Try.func87, Try.ntmps87
  go_wp2
  go_loopw [3, 15] (fun v3 v15 wr => ∃ i : Nat, i ≤ l.length ∧ v15 = .int .i64 i ∧ v3 = .int .i64 (firstF l js i) ∧ Below (W.alloc (.cells #[.pointer (some ⟨B, 0, none⟩)] 122)).heap.size (W.alloc (.cells #[.pointer (some ⟨B, 0, none⟩)] 122)) wr) (fun _ v _ => l.length - (intOf v).toNat)
  case atStart => exact ⟨0, Nat.zero_le _, rfl, rfl, Below.refl _ _⟩
  case round =>
    obtain ⟨i, hi, rfl, rfl, hb⟩ := hrel
    by_cases hlt : i < l.length
    · have HPr := Aside0.mk (HP1.out.below hb)
      have b0 := blk_cell HPr.out.own 0
      have b1 := blk_cell HPr.out.own 1
      have hxr := pw_cell_below hb hx
      have hj := (HPr.out.job i hlt).1
      obtain ⟨ad, hA, d0, d1, d2, d3⟩ := at_T54 HPr.out.beams (i : Int) (by omega) (by omega)
      have hrd : rd_T54 l (i : Int) = l.getD i z54 := by simp [rd_T54]
      rw [hrd, Int.toNat_natCast] at d0 d1 d2 d3
      subst hA
      have HF := Aside0.mk (show firstF l js (i + 1) = if wrap64 (js.getD i 0 * (l.getD i z54).f2) < firstF l js i then wrap64 (js.getD i 0 * (l.getD i z54).f2) else firstF l js i from rfl)
      have HB := Aside0.mk hb
      have HI : (i : Int) < (l.length : Int) := by omega
      clear hrd hb q0 hx
      generalize (l.getD i z54).f0.f0 = y0 at *
      generalize (l.getD i z54).f0.f1 = y1 at *
      generalize (l.getD i z54).f1 = y2 at *
      generalize (l.getD i z54).f2 = y3 at *
      generalize js.getD i 0 = x0 at *
      have hal := below_alloc (Below.refl wr.heap.size wr) (.cells #[.int .i64 y0, .int .i64 y1, .int .i64 y2, .int .i64 y3] 54)
      have hxa := pw_cell_below hal hxr
      have b1a := pw_cell_below hal b1
      have hja := pw_cell_below hal hj
      have hya := (blk_cell (heap_alloc_new wr (.cells #[.int .i64 y0, .int .i64 y1, .int .i64 y2, .int .i64 y3] 54)) 2).trans rfl
      have HAL := Aside0.mk hal
      clear hal
      go_wp2_with fail
      go_quiet (fail)
      go_wp2
      go_roundw
      case rel => exact ⟨i + 1, by omega, by go_num, by rw [HF.out], pw_below_drewN (below_step HB.out HAL.out) _⟩
      case measure => (simp [intOf] <;> omega)
    · obtain rfl : i = l.length := by omega
      have HPr := Aside0.mk (HP1.out.below hb)
      have b0 := blk_cell HPr.out.own 0
      have b3 := blk_cell HPr.out.own 3
      have f3 := blk_frozen HPr.out.own 3
      have hxr := pw_cell_below hb hx
      have HB := Aside0.mk hb
      clear hb q0 hx
      generalize hff : firstF l js l.length = ff at *
      go_wp2_with fail
      go_region
      have HP2 := Aside0.mk (show PlanAt w0 B J A c l js vs (if clk < ff then ff else clk) (wr.setCell ⟨B, 3, none⟩ (.int .i64 (if clk < ff then ff else clk))).drew from (HPr.out.tick _).drewN 1)
      have HX2 : Aside0 ((wr.setCell ⟨B, 3, none⟩ (.int .i64 (if clk < ff then ff else clk))).drew.cell? ⟨W.heap.size, 0, none⟩ = some (.pointer (some ⟨B, 0, none⟩))) := ⟨(blk_cell (show (wr.setCell ⟨B, 3, none⟩ (.int .i64 (if clk < ff then ff else clk))).drew.heap[W.heap.size]? = _ from blk_far (blk_below hW2.out HB.out) (p := ⟨B, 3, none⟩) (by simp; omega) _) 0).trans rfl⟩
      have HT2 : Aside0 (Two B B W (wr.setCell ⟨B, 3, none⟩ (.int .i64 (if clk < ff then ff else clk))).drew) := ⟨((Two.of_below (below_step hW1.out HB.out)).setB 3 _).drewN 1⟩
      clear b0 b3 f3 hxr HB HPr HP1 hW1 hW2
      rw [hck] at HP2 HX2 HT2
      generalize (wr.setCell ⟨B, 3, none⟩ (.int .i64 ck)).drew = w2 at *
      have b0 := blk_cell HP2.out.own 0
      have hx2 := HX2.out
      go_wp2_with fail
      clear b0
      go_loopw [6, 48] (fun v6 v48 wr => ∃ i : Nat, i ≤ l.length ∧ v48 = .int .i64 i ∧ v6 = .int .i64 (bestF l js ck i) ∧ Below w2.heap.size w2 wr) (fun _ v _ => l.length - (intOf v).toNat)
      case atStart => exact ⟨0, Nat.zero_le _, rfl, rfl, Below.refl _ _⟩
      case round =>
        obtain ⟨i, hi2, rfl, rfl, hb⟩ := hrel
        by_cases hlt2 : i < l.length
        · have HPr := Aside0.mk (HP2.out.below hb)
          have b0 := blk_cell HPr.out.own 0
          have hxr := pw_cell_below hb hx2
          obtain ⟨ad, hA, d0, d1, d2, d3⟩ := at_T54 HPr.out.beams (i : Int) (by omega) (by omega)
          have hrd : rd_T54 l (i : Int) = l.getD i z54 := by simp [rd_T54]
          rw [hrd, Int.toNat_natCast] at d0 d1 d2 d3
          have HBF := Aside0.mk (show bestF l js ck (i + 1) = if wrap64 (js.getD i 0 * (l.getD i z54).f2) ≤ ck ∧ (bestF l js ck i < 0 ∨ dueF l js i < dueF l js (bestF l js ck i).toNat) then (i : Int) else bestF l js ck i from rfl)
          have HBL := Aside0.mk (bestF_lt l js ck i)
          have HB := Aside0.mk hb
          have HI : (i : Int) < (l.length : Int) := by omega
          have hal := below_alloc (Below.refl wr.heap.size wr) (.cells #[.int .i64 (l.getD i z54).f0.f0, .int .i64 (l.getD i z54).f0.f1, .int .i64 (l.getD i z54).f1, .int .i64 (l.getD i z54).f2] 54)
          have HPa := Aside0.mk (HPr.out.below hal)
          have hxa := pw_cell_below hal hxr
          have b1a := blk_cell HPa.out.own 1
          have b3a := blk_cell HPa.out.own 3
          have hja := (HPa.out.job i hlt2).1
          have hya := (blk_cell (heap_alloc_new wr (.cells #[.int .i64 (l.getD i z54).f0.f0, .int .i64 (l.getD i z54).f0.f1, .int .i64 (l.getD i z54).f1, .int .i64 (l.getD i z54).f2] 54)) 2).trans rfl
          have HAL := Aside0.mk hal
          subst hA
          have HD2 : Aside0 (∀ bi n : Nat, bi < l.length → Calls Try.prog 96 #[.int .i64 bi, .pointer (some ⟨W.heap.size, 0, none⟩)] ((wr.alloc (.cells #[.int .i64 (l.getD i z54).f0.f0, .int .i64 (l.getD i z54).f0.f1, .int .i64 (l.getD i z54).f1, .int .i64 (l.getD i z54).f2] 54)).drewN n) fun e w' => e = Ending.returned (.int .i64 (dueF l js bi)) ∧ ∃ m, w' = World.drewN (World.drewN (wr.alloc (.cells #[.int .i64 (l.getD i z54).f0.f0, .int .i64 (l.getD i z54).f0.f1, .int .i64 (l.getD i z54).f1, .int .i64 (l.getD i z54).f2] 54)) n) m) := ⟨fun bi n hbi => (due_1 w0 bi W.heap.size B J (some ad) c l js vs ck (World.drewN _ n) hbi (by exact hxa) (HPa.out.drewN n)).mono fun e w' ⟨h1, ⟨h2⟩⟩ => ⟨h1, h2⟩⟩
          have HD1 := Aside0.mk (fun n => HD2.out i n hlt2)
          clear hrd hb hal hx2
          generalize dueF l js i = di at *
          generalize hbe : bestF l js ck i = bi at *
          generalize (l.getD i z54).f0.f0 = y0 at *
          generalize (l.getD i z54).f0.f1 = y1 at *
          generalize (l.getD i z54).f1 = y2 at *
          generalize (l.getD i z54).f2 = y3 at *
          generalize js.getD i 0 = x0 at *
          by_cases c1 : wrap64 (x0 * y3) ≤ ck
          · have c1b : decide (wrap64 (x0 * y3) ≤ ck) = true := decide_eq_true c1
            by_cases c2 : bi < 0
            · have c2b : decide (bi < 0) = true := decide_eq_true c2
              go_wp2_with fail
              go_quiet (fail)
              go_wp2
              go_roundw
              case rel => exact ⟨i + 1, by omega, by go_num, by rw [HBF.out, if_pos ⟨c1, .inl c2⟩], pw_below_drewN (below_step HB.out HAL.out) _⟩
              case measure => (simp [intOf] <;> omega)
            · have c2b : decide (bi < 0) = false := decide_eq_false c2
              obtain ⟨bn, hbn⟩ := Int.eq_ofNat_of_zero_le (show 0 ≤ bi by omega)
              have HD3 := Aside0.mk (fun n => HD2.out bn n (by have := HBL.out; omega))
              rw [← hbn] at HD3
              have hbt : bi.toNat = bn := by omega
              rw [hbt] at HBF
              generalize dueF l js bn = db at *
              clear hbn hbt HD2
              by_cases c3 : di < db
              · have c3b : decide (di < db) = true := decide_eq_true c3
                go_wp2_with fail
                go_quiet (first | (go_at_call_of 96 (Value.int IntKind.i64 (i : Int)); with_reducible refine Calls.quiet_of (HD1.out _)) | (go_at_call_of 96 (Value.int IntKind.i64 bi); with_reducible refine Calls.quiet_of (HD3.out _)))
                go_wp2
                go_roundw
                case rel => exact ⟨i + 1, by omega, by go_num, by rw [HBF.out, if_pos ⟨c1, .inr c3⟩], pw_below_drewN (below_step HB.out HAL.out) _⟩
                case measure => (simp [intOf] <;> omega)
              · have c3b : decide (di < db) = false := decide_eq_false c3
                go_wp2_with fail
                go_quiet (first | (go_at_call_of 96 (Value.int IntKind.i64 (i : Int)); with_reducible refine Calls.quiet_of (HD1.out _)) | (go_at_call_of 96 (Value.int IntKind.i64 bi); with_reducible refine Calls.quiet_of (HD3.out _)))
                go_wp2
                go_roundw
                case rel => exact ⟨i + 1, by omega, by go_num, by rw [HBF.out, if_neg (by omega)], pw_below_drewN (below_step HB.out HAL.out) _⟩
                case measure => (simp [intOf] <;> omega)
          · have c1b : decide (wrap64 (x0 * y3) ≤ ck) = false := decide_eq_false c1
            go_wp2_with fail
            go_quiet (fail)
            go_wp2
            go_roundw
            case rel => exact ⟨i + 1, by omega, by go_num, by rw [HBF.out, if_neg (by omega)], pw_below_drewN (below_step HB.out HAL.out) _⟩
            case measure => (simp [intOf] <;> omega)
        · obtain rfl : i = l.length := by omega
          have HB := Aside0.mk hb
          clear hb
          go_wp2
          go_ret
          exact ⟨rfl, HP2.out.below HB.out, HT2.out.step HB.out⟩
/-! Planning: each round takes the next beam, turns to it, and lays its job. -/
def turnF (l : List S54) (ss : List S81) (i : Nat) : Option Int :=
  if 0 < ss.length then
    (if 0 ≤ (ss.getD (ss.length - 1) z81).f0 then (if (ss.getD (ss.length - 1) z81).f0 < l.length then
      impl_switchTicks.f (l.getD (ss.getD (ss.length - 1) z81).f0.toNat z54).f0.f0 (l.getD (ss.getD (ss.length - 1) z81).f0.toNat z54).f0.f1 (l.getD i z54).f0.f0 (l.getD i z54).f0.f1 else none) else none)
  else some 0
def clkF (l : List S54) (js : List Int) (clk : Int) : Int := if clk < firstF l js l.length then firstF l js l.length else clk
def planG (l : List S54) (u : Int) : Nat → List Int → List S81 → Int → Option (List S81)
  | 0, _, _, _ => none
  | k + 1, js, ss, clk =>
    if (ss.length : Int) < 200 then
      (if 0 ≤ bestF l js (clkF l js clk) l.length then
        (turnF l ss (bestF l js (clkF l js clk) l.length).toNat).bind fun t =>
          if (if 0 < ss.length then wrap64 (clkF l js clk + t) else clkF l js clk) ≥ u then some ss
          else planG l u k (js.set (bestF l js (clkF l js clk) l.length).toNat (wrap64 (js.getD (bestF l js (clkF l js clk) l.length).toNat 0 + 1)))
            (ss ++ [⟨bestF l js (clkF l js clk) l.length, if 0 < ss.length then wrap64 (clkF l js clk + t) else clkF l js clk⟩])
            (wrap64 ((if 0 < ss.length then wrap64 (clkF l js clk + t) else clkF l js clk) + (l.getD (bestF l js (clkF l js clk) l.length).toNat z54).f1))
      else none)
    else some ss
set_option maxRecDepth 100000 in
theorem planG_zero (l : List S54) (u : Int) (js : List Int) (ss : List S81) (clk : Int) : planG l u 0 js ss clk = none := rfl
set_option maxRecDepth 100000 in
theorem planG_succ (l : List S54) (u : Int) (k : Nat) (js : List Int) (ss : List S81) (clk : Int) : planG l u (k + 1) js ss clk = (
    if (ss.length : Int) < 200 then
      (if 0 ≤ bestF l js (clkF l js clk) l.length then
        (turnF l ss (bestF l js (clkF l js clk) l.length).toNat).bind fun t =>
          if (if 0 < ss.length then wrap64 (clkF l js clk + t) else clkF l js clk) ≥ u then some ss
          else planG l u k (js.set (bestF l js (clkF l js clk) l.length).toNat (wrap64 (js.getD (bestF l js (clkF l js clk) l.length).toNat 0 + 1)))
            (ss ++ [⟨bestF l js (clkF l js clk) l.length, if 0 < ss.length then wrap64 (clkF l js clk + t) else clkF l js clk⟩])
            (wrap64 ((if 0 < ss.length then wrap64 (clkF l js clk + t) else clkF l js clk) + (l.getD (bestF l js (clkF l js clk) l.length).toNat z54).f1))
      else none)
    else some ss) := rfl
def impl_PlanBeams.f (k : Nat) (l0 : List (S54)) (a1 : Int) : Option (List (S81) × Bool) := (impl_AreBeams.f k l0).bind fun t1 => (if t1 = true then ((impl_within.f a1 0 10000).bind fun t2 => (if t2 = true then (if 1 ≤ l0.length ∧ l0.length ≤ 1000 then (planG l0 a1 k (List.replicate l0.length 0) [] 0).bind fun r => some (r, true) else none) else some ([], false))) else some ([], false))
theorem planG_mono (l : List S54) (u : Int) : ∀ (k : Nat) (js : List Int) (ss : List S81) (clk : Int), LeO (planG l u k js ss clk) (planG l u (k + 1) js ss clk) := by
  intro k
  induction k with
  | zero => intro js ss clk; rw [planG_zero]; exact LeO.none _
  | succ k ih =>
    intro js ss clk
    rw [planG_succ, planG_succ]
    exact LeO.ite (LeO.ite (LeO.bind (LeO.refl _) (fun _ => LeO.ite (LeO.refl _) (ih _ _ _))) (LeO.refl _)) (LeO.refl _)
theorem impl_PlanBeams.mono : ∀ a0 a1 k, LeO (impl_PlanBeams.f k a0 a1) (impl_PlanBeams.f (k + 1) a0 a1) := by
  intro a0 a1 k
  unfold impl_PlanBeams.f
  exact LeO.bind (impl_AreBeams.mono a0 k) (fun _ => LeO.ite (LeO.bind (LeO.refl _) (fun _ => LeO.ite (LeO.ite (LeO.bind (planG_mono a0 a1 k _ _ _) (fun _ => LeO.refl _)) (LeO.refl _)) (LeO.refl _))) (LeO.refl _))
theorem sinfo2p : (Try.prog.info? 2).map (fun i => (i.zero, i.size, i.bytes)) = some (some (.int .i64 0), 1, 8) := by kernel_rfl
theorem made_zeros (w : World) (n : Nat) (hn : n ≤ 1000) : (Instr.makeSlice 41 (.int .i64 (n : Int)) (.int .i64 (n : Int))).run Try.prog w = .ok (.slice (some ⟨w.heap.size, 0, none⟩) n n) (w.alloc (.cells (nums .i64 (List.replicate n 0)).toArray 2)) := by
  obtain ⟨i0, hi, hzz⟩ := Option.map_eq_some_iff.1 sinfo2p
  simp only [Prod.mk.injEq] at hzz
  obtain ⟨hz0, hz1, hz2⟩ := hzz
  have hr := run_make (P := Try.prog) w 41 2 i0 (.int .i64 0) Try.underlying41 hi hz0 .i64 .i64 (n : Int) (n : Int) (by omega) (by omega) (by rw [hz2]; omega) (by omega)
  simp only [Int.toNat_natCast, hz1, Nat.mul_one] at hr
  rw [hr]
  have e : madeCells (Value.int .i64 0).cells n = (nums .i64 (List.replicate n 0)).toArray := by
    apply Array.ext
    · simp [size_madeCells, nums]
    · intro j h1 h2
      simp [madeCells, nums, Value.cells, Nat.mod_one]
  rw [e]
theorem PlanAt.grown {w0 : World} {B J : Nat} {A : Option Addr} {c : Nat} {l : List S54} {js : List Int} {vs : Value} {clk : Int} {w w1 : World} (h : PlanAt w0 B J A c l js vs clk w) {row : Option Nat} (hg : w.grownBy w1 row) (n1 : some B ≠ row) (n2 : some J ≠ row) (hl : Below w0.heap.size w0 w1) : PlanAt w0 B J A c l js vs clk w1 :=
  ⟨blk_grown h.own hg n1, blk_grown h.jobs hg n2, h.len, hl, h.hB, h.hJ, h.ne, h.row⟩
theorem planG_step (l : List S54) (u : Int) (k : Nat) (js : List Int) (ss : List S81) (clk : Int) (r : List S81) (h : planG l u (k + 1) js ss clk = some r) (hs : (ss.length : Int) < 200) :
    ∃ (i : Nat) (t : Int), bestF l js (clkF l js clk) l.length = (i : Int) ∧ turnF l ss i = some t ∧
      ((if 0 < ss.length then wrap64 (clkF l js clk + t) else clkF l js clk) ≥ u ∧ ss = r ∨ ¬ (if 0 < ss.length then wrap64 (clkF l js clk + t) else clkF l js clk) ≥ u ∧
        planG l u k (js.set i (wrap64 (js.getD i 0 + 1))) (ss ++ [⟨(i : Int), if 0 < ss.length then wrap64 (clkF l js clk + t) else clkF l js clk⟩]) (wrap64 ((if 0 < ss.length then wrap64 (clkF l js clk + t) else clkF l js clk) + (l.getD i z54).f1)) = some r) := by
  rw [planG_succ, if_pos hs] at h
  by_cases h0 : 0 ≤ bestF l js (clkF l js clk) l.length
  · rw [if_pos h0] at h
    obtain ⟨i, hi⟩ := Int.eq_ofNat_of_zero_le h0
    rw [hi] at h
    simp only [Int.toNat_natCast] at h
    obtain ⟨t, ht, h⟩ := Option.bind_eq_some_iff.mp h
    refine ⟨i, t, hi, ht, ?_⟩
    generalize (if 0 < ss.length then wrap64 (clkF l js clk + t) else clkF l js clk) = b at *
    by_cases hu : b ≥ u
    · rw [if_pos hu] at h
      exact .inl ⟨hu, Option.some.inj h⟩
    · rw [if_neg hu] at h
      exact .inr ⟨hu, h⟩
  · rw [if_neg h0] at h; cases h
theorem sinfo81p : (Try.prog.info? 81).map (fun i => (i.zero, i.size, i.bytes)) = some (some (.agg #[.int .i64 0, .int .i64 0]), 2, 16) := by kernel_rfl
def CutPost (A : Act) (R : World → Prop) : Exit → Act → World → Prop
  | .normal, a, w => a = A ∧ R w
  | _, _, _ => False
theorem cut_act {P : Program} {c : Code} {Q : Exit → Act → World → Prop} {a A : Act} {w : World} {R : World → Prop} (h1 : c.wp P (CutPost A R) a w) (h2 : ∀ w', R w' → Q .normal A w') : c.wp P Q a w :=
  Code.wp_mono (fun e a' w' h => by
    cases e with
    | normal => obtain ⟨ha, hw⟩ := h; subst ha; exact h2 w' hw
    | _ => exact False.elim h) h1
set_option maxRecDepth 100000 in
set_option maxHeartbeats 4000000 in
theorem impl_PlanBeams.calls (k : Nat) (A0 : Option Addr) (c0 : Nat) (l0 : List (S54)) (a1 : Int) (r1 : List (S81)) (r2 : Bool) (w : World) (hr0 : Kd.C k54 w A0 l0.length l0) (hc0 : l0.length ≤ c0) (h : impl_PlanBeams.f k l0 a1 = some (r1, r2)) :
    Calls Try.prog 49 #[.slice A0 l0.length c0, .int .i64 a1] w fun e w' => ∃ v0_ : Value, e = .returned (.tuple #[v0_, .bool r2]) ∧ Kd.R k81 81 w' w.heap.size (fun _ => True) v0_ r1 ∧ Below w.heap.size w w' := by
  have hn := hr0.2.1
  have HR := Aside0.mk hr0
  clear hr0
  have H : ((impl_AreBeams.f k l0).bind fun t1 => (if t1 = true then ((impl_within.f a1 0 10000).bind fun t2 => (if t2 = true then (if 1 ≤ l0.length ∧ l0.length ≤ 1000 then (planG l0 a1 k (List.replicate l0.length 0) [] 0).bind fun r => some (r, true) else none) else some ([], false))) else some ([], false))) = some (r1, r2) := h
  clear h
  replace H := Option.bind_eq_some_iff.mp H
  obtain ⟨t1, A, H⟩ := H
  have A1 := Aside0.mk A
  clear A
  cases t1
  · simp at H
    obtain ⟨rfl, rfl⟩ := H
    go_enter Try.func49, Try.ntmps49
    go_wp2_with fail
    refine (impl_AreBeams.calls k A0 c0 l0 _ _ HR.out hc0 A1.out).mono ?_
    rintro e w1 ⟨rfl, hb⟩
    have HB := Aside0.mk hb
    clear hb
    go_wp2
    go_ret2
    exact ⟨_, rfl, Kd.R_nil _ _ _ _ _, HB.out⟩
  · rw [if_pos rfl] at H
    replace H := Option.bind_eq_some_iff.mp H
    obtain ⟨t2, A, H⟩ := H
    have A2 := Aside0.mk A
    clear A
    go_enter Try.func49, Try.ntmps49
    go_wp2_with fail
    refine (impl_AreBeams.calls k A0 c0 l0 _ _ HR.out hc0 A1.out).mono ?_
    rintro e w1 ⟨rfl, hb⟩
    have HB := Aside0.mk hb
    clear hb
    cases t2
    · simp at H
      obtain ⟨rfl, rfl⟩ := H
      go_wp2_with fail
      refine (impl_within.calls _ _ _ _ _ A2.out).mono ?_
      rintro e w2 ⟨rfl, ⟨⟨nd, rfl⟩⟩⟩
      go_wp2
      go_ret2
      exact ⟨_, rfl, Kd.R_nil _ _ _ _ _, pw_below_drewN HB.out _⟩
    · rw [if_pos rfl] at H
      by_cases h1000 : 1 ≤ l0.length ∧ l0.length ≤ 1000
      rotate_left
      · rw [if_neg h1000] at H; cases H
      rw [if_pos h1000] at H
      obtain ⟨ha, hb⟩ := h1000
      obtain ⟨r, HG, H⟩ := Option.bind_eq_some_iff.mp H
      simp at H
      obtain ⟨rfl, rfl⟩ := H
      have HG := Aside0.mk HG
      have hmk := fun w => made_zeros w l0.length hb
      go_wp2_with fail
      refine (impl_within.calls _ _ _ _ _ A2.out).mono ?_
      rintro e w2 ⟨rfl, ⟨⟨nd, rfl⟩⟩⟩
      go_wp2_with fail
      have HB1 := Aside0.mk (pw_below_drewN HB.out nd)
      have HSZ : Aside0 (w.heap.size ≤ (w1.drewN nd).heap.size) := ⟨HB1.out.size⟩
      rw [show w1.heap.size = (w1.drewN nd).heap.size from rfl]
      generalize w1.drewN nd = w2 at *
      go_loopg [8] k (fun kq v8 w' => ∃ (js : List Int) (ss : List S81) (clk : Int) (vs : Value), Aside0 (planG l0 a1 kq js ss clk = some r) ∧ Aside0 (kq ≤ k) ∧ Aside0 (PlanAt w (w2.heap.size + 1) w2.heap.size A0 c0 l0 js vs clk w') ∧ Aside0 (Kd.R k81 81 w' w.heap.size (fun k_ => k_ ≠ w2.heap.size + 1 ∧ k_ ≠ w2.heap.size) vs ss))
      case atStart =>
        refine ⟨List.replicate l0.length 0, [], 0, .slice none 0 0, HG, ⟨Nat.le_refl _⟩, ⟨?_⟩, ⟨Kd.R_nil _ _ _ _ _⟩⟩
        have e1 := heap_alloc_new w2 (.cells (nums .i64 (List.replicate l0.length 0)).toArray 2)
        have e2 := heap_alloc_new (w2.alloc (.cells (nums .i64 (List.replicate l0.length 0)).toArray 2)) (.cells #[.slice A0 l0.length c0, .slice (some ⟨w2.heap.size, 0, none⟩) l0.length l0.length, .slice none 0 0, .int .i64 0] 112)
        rw [World.size_alloc] at e2
        exact ⟨e2, blk_alloc e1 _, by simp, below_alloc (below_alloc HB1.out _) _, by have := HSZ.out; omega, HSZ.out, by omega, HR.out⟩
      case round =>
        obtain ⟨js, ss, clk, vs, HA, HK, HP, HS⟩ := hrel
        cases gk with
        | zero => exact absurd HA.out (by rw [planG_zero]; simp)
        | succ k1 =>
          obtain ⟨As, cs, hvs⟩ := Kd.R_slice HS.out
          subst hvs
          have b2 := blk_cell HP.out.own 2
          by_cases c1 : (ss.length : Int) < 200
          · obtain ⟨i, t, hi, ht, H2⟩ := planG_step l0 a1 k1 js ss clk r HA.out c1
            have H := Aside0.mk H2
            have HT := Aside0.mk ht
            have HI := Aside0.mk (show i < l0.length by have := (bestF_lt l0 js (clkF l0 js clk) l0.length).2; omega)
            clear H2 ht HA HG hmk
            go_wp2_with fail
            refine (next_1 w _ _ A0 c0 l0 js _ clk _ ha hb HP.out (clkF l0 js clk) rfl).mono ?_
            rintro e w3 ⟨rfl, hP3, hT3⟩
            rw [hi]
            have HP3 := Aside0.mk hP3
            have HS3 := Aside0.mk (Kd.R_step (w1 := w3) HS.out (fun k_ hk hlt => hT3.block k_ hlt hk.1 hk.1))
            have b2' := blk_cell HP3.out.own 2
            have b3' := blk_cell HP3.out.own 3
            have HSL := Aside0.mk (show wr.heap.size ≤ w3.heap.size from hT3.size)
            clear hP3 hT3 b2 HP HS
            generalize clkF l0 js clk = ck at *
            by_cases c2 : 0 < ss.length
            · have c2b : decide ((0 : Int) < (ss.length : Int)) = true := decide_eq_true (by omega)
              have hT := HT.out
              unfold turnF at hT
              rw [if_pos c2] at hT
              by_cases g0 : 0 ≤ (ss.getD (ss.length - 1) z81).f0
              rotate_left
              · rw [if_neg g0] at hT; cases hT
              rw [if_pos g0] at hT
              by_cases g1 : (ss.getD (ss.length - 1) z81).f0 < l0.length
              rotate_left
              · rw [if_neg g1] at hT; cases hT
              rw [if_pos g1] at hT
              obtain ⟨adS, hAS, s0, s1⟩ := at_T81 (Kd.R_reads' HS3.out).2.2 ((ss.length : Int) - 1) (by omega) (by omega)
              have hrs : rd_T81 ss ((ss.length : Int) - 1) = ss.getD (ss.length - 1) z81 := by
                unfold rd_T81
                rw [show ((ss.length : Int) - 1).toNat = ss.length - 1 by omega]
              rw [hrs] at s0 s1
              have s0b := s0
              rw [show ((ss.length : Int) - 1).toNat = ss.length - 1 by omega] at s0b
              subst hAS
              obtain ⟨adB, hAB, d0, d1, d2, d3⟩ := at_T54 HP3.out.beams (ss.getD (ss.length - 1) z81).f0 g0 g1
              obtain ⟨adB', hAB', e0, e1, e2, e3⟩ := at_T54 HP3.out.beams (i : Int) (by omega) (by have := HI.out; omega)
              obtain rfl : adB = adB' := by rw [hAB] at hAB'; exact Option.some.inj hAB'
              rw [show rd_T54 l0 (i : Int) = l0.getD i z54 by simp [rd_T54], Int.toNat_natCast] at e0 e1 e2 e3
              rw [show rd_T54 l0 (ss.getD (ss.length - 1) z81).f0 = l0.getD (ss.getD (ss.length - 1) z81).f0.toNat z54 from rfl] at d0 d1 d2 d3
              have hi1 : (i : Int) < (l0.length : Int) := by have := HI.out; omega
              have hwr : IntKind.i64.wrap ((ss.length : Int) - 1) = (ss.length : Int) - 1 := by rw [IntKind.wrap_i64]; omega
              have hs1 : (0 : Int) ≤ (ss.length : Int) - 1 := by omega
              have hs2 : (ss.length : Int) - 1 < (ss.length : Int) := by omega
              subst hAB
              clear hAB' hrs d2 d3 e2 e3 s1
              generalize (ss.getD (ss.length - 1) z81).f0 = jj at *
              generalize (l0.getD jj.toNat z54).f0.f0 = y0 at *
              generalize (l0.getD jj.toNat z54).f0.f1 = y1 at *
              generalize hx0 : (l0.getD i z54).f0.f0 = x0 at *
              generalize hx1 : (l0.getD i z54).f0.f1 = x1 at *
              have HTT := Aside0.mk hT
              clear hT hx0 hx1
              go_wp2_with fail
              apply cut_act (R := fun w' => Below w3.heap.size w3 w')
              case h1 =>
                go_region_with (first | (go_at_call 56; refine (impl_switchTicks.calls _ _ _ _ t _ HTT.out).mono ?_; rintro e w4 ⟨rfl, hb4⟩))
                all_goals exact ⟨rfl, below_step (pw_below_drewN (Below.refl w3.heap.size w3) 1) hb4⟩
              rintro w4 hb4
              have HP4 := Aside0.mk (HP3.out.below hb4)
              have HS4 := Aside0.mk (Kd.R_below HS3.out hb4)
              have p1 := blk_cell HP4.out.own 1
              have p2 := blk_cell HP4.out.own 2
              clear s0 s0b d0 d1 e0 e1 b2' b3' hwr hs1 hs2 HTT HT HP3 HS3 hb4
              rw [i64_w]
              have H3 := H.out
              simp only [if_pos c2] at H3
              by_cases c3 : wrap64 (ck + t) ≥ a1
              · have c3b : decide (a1 ≤ wrap64 (ck + t)) = true := decide_eq_true c3
                have hr : ss = r := by
                  rcases H3 with h | h
                  · exact h.2
                  · exact False.elim (by have := h.1; omega)
                subst hr
                go_wp2
                go_ret2
                exact ⟨_, rfl, Kd.R_mono HS4.out (fun _ _ => trivial), HP4.out.low⟩
              · have c3b : decide (a1 ≤ wrap64 (ck + t)) = false := decide_eq_false c3
                have HN : Aside0 (planG l0 a1 k1 (js.set i (wrap64 (js.getD i 0 + 1))) (ss ++ [⟨(i : Int), wrap64 (ck + t)⟩]) (wrap64 (wrap64 (ck + t) + (l0.getD i z54).f1)) = some r) := by
                  refine ⟨?_⟩
                  rcases H3 with h | h
                  · exact False.elim (by have := h.1; omega)
                  · exact h.2
                clear H3
                obtain ⟨adC, hAC, f0, f1, f2, f3⟩ := at_T54 HP4.out.beams (i : Int) (by omega) (by have := HI.out; omega)
                rw [show rd_T54 l0 (i : Int) = l0.getD i z54 by simp [rd_T54], Int.toNat_natCast] at f0 f1 f2 f3
                cases hAC
                have hi1 : (i : Int) < (l0.length : Int) := by have := HI.out; omega
                have HF2 := Aside0.mk f2
                clear f0 f1 f2 f3
                generalize hdw : (l0.getD i z54).f1 = dw at *
                generalize hjx : js.getD i 0 = jx at *
                go_wp2_with (first | (at_builtin; go_loud (refine Kd.R_append k81 (w0 := w) w.heap.size rfl (.tmp 58) (.tmp 62) 65 81 (.agg #[.int .i64 0, .int .i64 0]) 16 rfl Try.underlying65 sinfo81p rfl (by decide) (by decide) (.slice (some adS) ss.length cs) ss ⟨(i : Int), wrap64 (ck + t)⟩ [.int .i64 (i : Int), .int .i64 (wrap64 (ck + t))] (fun k_ => k_ ≠ w2.heap.size + 1 ∧ k_ ≠ w2.heap.size) (fun _ => False) rfl (by first | (go_simp; done) | (go_simp; rfl)) (k81_mkM _ _ _ ⟨(i : Int), wrap64 (ck + t)⟩) (fun _ hk => hk.elim) (fun k_ hk => by have := blk_lt HP4.out.own; omega) HS4.out HP4.out.low HP4.out.low.size (by omega) ?_); intro v1 w5 hR5 hb5 hg5 hat5; obtain ⟨A5, c5, ev5⟩ := Kd.R_slice hR5; rw [show (ss ++ [(⟨(i : Int), wrap64 (ck + t)⟩ : S81)]).length = ss.length + 1 by simp] at ev5; subst ev5; have HS5 := Aside0.mk hR5; have HP5 := Aside0.mk (HP4.out.grown hg5 (fun e => ((HS4.out.1 _ e.symm).1 rfl)) (fun e => ((HS4.out.1 _ e.symm).2 rfl)) hb5); have q1 := blk_cell HP5.out.own 1; have q2 := blk_cell HP5.out.own 2; have q3 := blk_cell HP5.out.own 3; have r2 := blk_frozen HP5.out.own 2; have r3 := blk_frozen HP5.out.own 3; obtain ⟨q4, r4⟩ := HP5.out.job i HI.out; rw [hjx] at q4; obtain ⟨adD, hAD, g0_, g1_, g2_, g3_⟩ := at_T54 ((HP5.out.put (.slice A5 (ss.length + 1) c5)).job_set i (wrap64 (jx + 1))).beams (i : Int) (by omega) (by have := HI.out; omega); cases hAD; rw [show (rd_T54 l0 (i : Int)).f1 = dw by rw [← hdw]; simp [rd_T54], Int.toNat_natCast] at g2_; clear g0_ g1_ g3_; clear hR5 hb5 hg5 hat5))
                go_roundg k1
                case measure => have := HK.out; omega
                case rel => exact ⟨_, _, _, _, HN, ⟨by have := HK.out; omega⟩, ⟨((HP5.out.put (.slice A5 (ss.length + 1) c5)).job_set i (wrap64 (jx + 1))).tick _⟩, ⟨Kd.R_far (Kd.R_far (Kd.R_far HS5.out (p := ⟨w2.heap.size + 1, 2, none⟩) (fun _ hk => hk.1) _) (p := ⟨w2.heap.size, i, none⟩) (fun _ hk => hk.2) _) (p := ⟨w2.heap.size + 1, 3, none⟩) (fun _ hk => hk.1) _⟩⟩
            · have c2b : decide ((0 : Int) < (ss.length : Int)) = false := decide_eq_false (by omega)
              have HP4 := HP3
              have HS4 := HS3
              have p1 := blk_cell HP4.out.own 1
              have p2 := blk_cell HP4.out.own 2
              have H3 := H.out
              simp only [if_neg c2] at H3
              by_cases c3 : ck ≥ a1
              · have c3b : decide (a1 ≤ ck) = true := decide_eq_true c3
                have hr : ss = r := by
                  rcases H3 with h | h
                  · exact h.2
                  · exact False.elim (by have := h.1; omega)
                subst hr
                go_wp2
                go_ret2
                exact ⟨_, rfl, Kd.R_mono HS4.out (fun _ _ => trivial), HP4.out.low⟩
              · have c3b : decide (a1 ≤ ck) = false := decide_eq_false c3
                have HN : Aside0 (planG l0 a1 k1 (js.set i (wrap64 (js.getD i 0 + 1))) (ss ++ [⟨(i : Int), ck⟩]) (wrap64 (ck + (l0.getD i z54).f1)) = some r) := by
                  refine ⟨?_⟩
                  rcases H3 with h | h
                  · exact False.elim (by have := h.1; omega)
                  · exact h.2
                clear H3
                obtain ⟨adC, hAC, f0, f1, f2, f3⟩ := at_T54 HP4.out.beams (i : Int) (by omega) (by have := HI.out; omega)
                rw [show rd_T54 l0 (i : Int) = l0.getD i z54 by simp [rd_T54], Int.toNat_natCast] at f0 f1 f2 f3
                cases hAC
                have hi1 : (i : Int) < (l0.length : Int) := by have := HI.out; omega
                have HF2 := Aside0.mk f2
                clear f0 f1 f2 f3
                generalize hdw : (l0.getD i z54).f1 = dw at *
                generalize hjx : js.getD i 0 = jx at *
                go_wp2_with (first | (at_builtin; go_loud (refine Kd.R_append k81 (w0 := w) w.heap.size rfl (.tmp 58) (.tmp 62) 65 81 (.agg #[.int .i64 0, .int .i64 0]) 16 rfl Try.underlying65 sinfo81p rfl (by decide) (by decide) (.slice As ss.length cs) ss ⟨(i : Int), ck⟩ [.int .i64 (i : Int), .int .i64 (ck)] (fun k_ => k_ ≠ w2.heap.size + 1 ∧ k_ ≠ w2.heap.size) (fun _ => False) rfl (by first | (go_simp; done) | (go_simp; rfl)) (k81_mkM _ _ _ ⟨(i : Int), ck⟩) (fun _ hk => hk.elim) (fun k_ hk => by have := blk_lt HP4.out.own; omega) HS4.out HP4.out.low HP4.out.low.size (by omega) ?_); intro v1 w5 hR5 hb5 hg5 hat5; obtain ⟨A5, c5, ev5⟩ := Kd.R_slice hR5; rw [show (ss ++ [(⟨(i : Int), ck⟩ : S81)]).length = ss.length + 1 by simp] at ev5; subst ev5; have HS5 := Aside0.mk hR5; have HP5 := Aside0.mk (HP4.out.grown hg5 (fun e => ((HS4.out.1 _ e.symm).1 rfl)) (fun e => ((HS4.out.1 _ e.symm).2 rfl)) hb5); have q1 := blk_cell HP5.out.own 1; have q2 := blk_cell HP5.out.own 2; have q3 := blk_cell HP5.out.own 3; have r2 := blk_frozen HP5.out.own 2; have r3 := blk_frozen HP5.out.own 3; obtain ⟨q4, r4⟩ := HP5.out.job i HI.out; rw [hjx] at q4; obtain ⟨adD, hAD, g0_, g1_, g2_, g3_⟩ := at_T54 ((HP5.out.put (.slice A5 (ss.length + 1) c5)).job_set i (wrap64 (jx + 1))).beams (i : Int) (by omega) (by have := HI.out; omega); cases hAD; rw [show (rd_T54 l0 (i : Int)).f1 = dw by rw [← hdw]; simp [rd_T54], Int.toNat_natCast] at g2_; clear g0_ g1_ g3_; clear hR5 hb5 hg5 hat5))
                go_roundg k1
                case measure => have := HK.out; omega
                case rel => exact ⟨_, _, _, _, HN, ⟨by have := HK.out; omega⟩, ⟨((HP5.out.put (.slice A5 (ss.length + 1) c5)).job_set i (wrap64 (jx + 1))).tick _⟩, ⟨Kd.R_far (Kd.R_far (Kd.R_far HS5.out (p := ⟨w2.heap.size + 1, 2, none⟩) (fun _ hk => hk.1) _) (p := ⟨w2.heap.size, i, none⟩) (fun _ hk => hk.2) _) (p := ⟨w2.heap.size + 1, 3, none⟩) (fun _ hk => hk.1) _⟩⟩
          · have c1b : decide ((ss.length : Int) < 200) = false := decide_eq_false c1
            have hr : ss = r := by
              have h := HA.out
              rw [planG_succ, if_neg c1] at h
              exact Option.some.inj h
            subst hr
            go_wp2
            go_ret2
            exact ⟨_, rfl, Kd.R_mono HS.out (fun _ _ => trivial), HP.out.low⟩

end Go.Proofs.Ytekcngoemeadlaa.Z
