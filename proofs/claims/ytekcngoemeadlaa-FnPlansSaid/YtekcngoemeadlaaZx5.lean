/-
  Contracts of the program's functions, each a plain Lean function beside the machine's call: written by this session's program over the kit's print.
-/
import Derived.Test.YtekcngoemeadlaaZx0
import Derived.Test.YtekcngoemeadlaaZx1
import Derived.Test.YtekcngoemeadlaaZx2
import Derived.Test.YtekcngoemeadlaaZx3
namespace Go.Proofs.Ytekcngoemeadlaa.Z
open Go.RowKit Go.Proofs.YtekcngoemeadlaaW.PrintWords Go.Proofs.YtekcngoemeadlaaW.PrintLast Go.Proofs.YtekcngoemeadlaaW.PrintMore
attribute [local go_sem] max2_int min2_int max_two min_two max_three min_three max_four min_four   -- for this text's walks alone
set_option linter.unusedVariables false
set_option linter.unusedSimpArgs false

/-! ### impl_LatenessOf: function 50 -/
def impl_LatenessOf.l0 : Nat → List (S54) → List Int → List Int → List (S81) → Int → Int → Option (List Int × Bool)
 | 0, _, _, _, _, _, _ => none
 | k + 1, x0, x6, x7, x18, x19, x20 => if x20 < x19 then (if 0 ≤ x20 then (if x20 < (x18.length : Int) then (if 0 ≤ ((rd_T81 x18 x20).f0) then (if ((rd_T81 x18 x20).f0) < (x0.length : Int) then (if x20 < (x7.length : Int) then (if x6.length < 17592186044416 then (impl_LatenessOf.l0 k x0 (x6 ++ [mx 0 (wrap64 ((wrap64 (((rd_T81 x18 x20).f1) + ((rd_T54 x0 ((rd_T81 x18 x20).f0)).f1))) - (wrap64 ((wrap64 ((rd x7 x20) + 1)) * ((rd_T54 x0 ((rd_T81 x18 x20).f0)).f2)))))]) x7 x18 x19 (wrap64 (x20 + 1))) else (none)) else (none)) else (none)) else (none)) else (none)) else (none)) else (some (x6, true))
def impl_LatenessOf.f (k : Nat) (l0 : List (S54)) (l1 : List (S81)) : Option (List Int × Bool) := (impl_IsPlan.f k l0 l1).bind fun t188 => (if t188 = true then ((impl_jobsOf.f l1).bind fun t192 => (impl_LatenessOf.l0 k l0 (([] : List Int)) t192 l1 (l1.length : Int) 0)) else (none))
theorem impl_LatenessOf.mono_l : ∀ k, (∀ y0 y1 y2 y3 y4 y5, LeO (impl_LatenessOf.l0 k y0 y1 y2 y3 y4 y5) (impl_LatenessOf.l0 (k + 1) y0 y1 y2 y3 y4 y5))
 | 0 => fun _ _ _ _ _ _ r h => by simp [impl_LatenessOf.l0] at h
 | k + 1 => by
  have ih0 := impl_LatenessOf.mono_l k
  · intro y0 y1 y2 y3 y4 y5
    unfold impl_LatenessOf.l0
    repeat' first
    | (with_reducible exact ih0 _ _ _ _ _ _)
    | (with_reducible exact impl_IsPlan.mono _ _ _)
    | (with_reducible exact LeO.refl _)
    | (with_reducible exact LeO.none _)
    | (with_reducible refine LeO.ite ?_ ?_)
    | (with_reducible refine LeO.bind ?_ (fun _ => ?_))
    | exact ih0 _ _ _ _ _ _
    | exact impl_IsPlan.mono _ _ _
    | exact LeO.none _
    | refine LeO.ite ?_ ?_
    | refine LeO.bind ?_ (fun _ => ?_)
theorem impl_LatenessOf.mono : ∀ a0 a1 k, LeO (impl_LatenessOf.f k a0 a1) (impl_LatenessOf.f (k + 1) a0 a1) := by
 intro a0 a1 k
 have ih0 := impl_LatenessOf.mono_l k
 unfold impl_LatenessOf.f
 repeat' first
  | (with_reducible exact ih0 _ _ _ _ _ _)
  | (with_reducible exact impl_IsPlan.mono _ _ _)
  | (with_reducible exact LeO.refl _)
  | (with_reducible exact LeO.none _)
  | (with_reducible refine LeO.ite ?_ ?_)
  | (with_reducible refine LeO.bind ?_ (fun _ => ?_))
  | exact ih0 _ _ _ _ _ _
  | exact impl_IsPlan.mono _ _ _
  | exact LeO.none _
  | refine LeO.ite ?_ ?_
  | refine LeO.bind ?_ (fun _ => ?_)
def impl_LatenessOf.T8 : Bool × List (List Nat × List Nat) := (true, [([], []), ([], []), ([1], [1]), ([], []), ([3], [3]), ([2, 4], [2, 4]), ([], []), ([], []), ([6, 7], [6, 7]), ([8], [8]), ([9], [9]), ([], []), ([11], [11]), ([10, 12], [10, 12]), ([5, 13], [5, 13]), ([14], [14]), ([15], [15]), ([0, 16], [0, 16]), ([17, 17, 0, 1, 2, 3, 4, 5, 6, 7, 8, 9, 10, 11, 12, 13, 14, 15, 16, 17], [0, 17])])
def impl_LatenessOf.B8 : List Nat := [0, 0, 2, 0, 8, 30, 0, 0, 192, 448, 960, 0, 2048, 8128, 16382, 32766, 65534, 131071, 262143]
theorem impl_LatenessOf.tab8 : rtab .any (opsOf Try.f50 8) = impl_LatenessOf.T8 := by kernel_rfl
theorem impl_LatenessOf.bits8 : waitsOk impl_LatenessOf.T8.2 impl_LatenessOf.B8 = true := by kernel_rfl
set_option maxHeartbeats 8000000 in
set_option maxRecDepth 100000 in
theorem impl_LatenessOf.calls (k : Nat) (A0 : Option Addr) (c0 : Nat) (l0 : List (S54)) (A1 : Option Addr) (c1 : Nat) (l1 : List (S81)) (r1 : List Int) (r2 : Bool) (w : World) (hr0 : Kd.C k54 w A0 l0.length l0) (hc0 : l0.length ≤ c0) (hr1 : Kd.C k81 w A1 l1.length l1) (hc1 : l1.length ≤ c1) (h : impl_LatenessOf.f k l0 l1 = some (r1, r2)) :
 Calls Try.prog 50 #[.slice A0 l0.length c0, .slice A1 l1.length c1] w fun e w' => ∃ v0_ : Value, e = .returned (.tuple #[v0_, .bool r2]) ∧ Kd.R (Kd.int .i64) 2 w' w.heap.size (fun _ => True) v0_ r1 ∧ Below w.heap.size w w' := by
 have hu81 := Try.underlying81
 have hu54 := Try.underlying54
 have HR0 := Aside0.mk hr0
 have HC0 := Aside0.mk hc0
 clear hr0 hc0
 have HR1 := Aside0.mk hr1
 have HC1 := Aside0.mk hc1
 clear hr1 hc1
 have HB := Aside0.mk (Below.refl w.heap.size w)
 have H : ((impl_IsPlan.f k l0 l1).bind fun t188 => (if t188 = true then ((impl_jobsOf.f l1).bind fun t192 => (impl_LatenessOf.l0 k l0 (([] : List Int)) t192 l1 (l1.length : Int) 0)) else (none))) = some (r1, r2) := h
 clear h
 replace H := Option.bind_eq_some_iff.mp H
 obtain ⟨t188, A30, H⟩ := H
 replace H : (if t188 = true then ((impl_jobsOf.f l1).bind fun t192 => (impl_LatenessOf.l0 k l0 (([] : List Int)) t192 l1 (l1.length : Int) 0)) else (none)) = some (r1, r2) := H
 have A3 := Aside0.mk A30
 clear A30
 by_cases c4 : t188 = true
 · subst c4
   have H1 : ((impl_jobsOf.f l1).bind fun t192 => (impl_LatenessOf.l0 k l0 (([] : List Int)) t192 l1 (l1.length : Int) 0)) = some (r1, r2) := by rw [if_pos rfl] at H; exact H
   clear H
   have H := H1
   clear H1
   obtain ⟨y189, hy189⟩ : ∃ y_ : List Int, y_ = (([] : List Int)) := ⟨_, rfl⟩
   replace H : ((impl_jobsOf.f l1).bind fun t192 => (impl_LatenessOf.l0 k l0 y189 t192 l1 (l1.length : Int) 0)) = some (r1, r2) := by first | (rw [hy189]; with_reducible exact H) | (have H2_ := (Option.bind_some _ _).symm.trans H; rw [hy189]; with_reducible exact H2_) | (have H2_ := (Option.bind_some _ _).symm.trans H; with_reducible exact H2_) | with_reducible exact H | (rw [hy189]; exact H) | exact H
   have Ny189 := Aside0.mk hy189
   clear hy189
   replace H := Option.bind_eq_some_iff.mp H
   obtain ⟨t192, A50, H⟩ := H
   replace H : (impl_LatenessOf.l0 k l0 y189 t192 l1 (l1.length : Int) 0) = some (r1, r2) := H
   have A5 := Aside0.mk A50
   clear A50
   have H' := Aside0.mk H
   clear H
   go_enter Try.func50, Try.ntmps50
   go_wp2_with (first | ((with_reducible refine gate_callee (f := 41) rfl ?_); refine goesL_ (some 13) rfl rfl Try.func41 (by kernel_rfl) rfl #[.slice A0 l0.length c0, .slice A1 l1.length c1] rfl (by (try simp only [List.map_toArray, List.map_cons, List.map_nil]); first | done | rfl | (simp only [List.length_drop, List.length_take]; rfl)) ?_; (with_reducible refine (impl_IsPlan.calls k _ _ l0 _ _ l1 true _ ?side1 ?side2 ?side3 ?side4 A3.out).mono ?_); (case side1 => repeat (first | exact HR0.out | (with_reducible refine Kd.C_alloc ?_ _) | (with_reducible refine Kd.C_drewN ?_ _) | (with_reducible refine Kd.C_drew ?_))); (case side2 => exact HC0.out); (case side3 => repeat (first | exact HR1.out | (with_reducible refine Kd.C_alloc ?_ _) | (with_reducible refine Kd.C_drewN ?_ _) | (with_reducible refine Kd.C_drew ?_))); (case side4 => exact HC1.out); rintro e w6 ⟨rfl, hb⟩; refine ⟨_, rfl, ?_⟩; have n0_ := Aside0.mk (below_step (by repeat (first | (with_reducible first | exact HB.out | apply below_alloc | apply pw_below_drewN | apply below_drew1) | exact HB.out)) hb); clear HB; have HB := n0_; clear n0_; (try clear hb); (try clear hb2); (try clear hk); (try clear hi)) | ((with_reducible refine gate_dst (N := 15) rfl ?_); refine Kd.R_lit (Kd.int .i64) _ 2 ?hg (N := 15) ?hd (xs := ([] : List Int)) (inner := []) (ok := fun _ => True) (okp := fun _ => True) ?hr ?hp (fun _ hk => hk) trivial (Below.refl _ _) (Nat.le_refl _) (by simp) ?_; (case hd => rfl); (case hg => rfl); (case hr => first | (go_simp; done) | (go_simp; rfl)); (case hp => exact (Reps.none _ _)); intro v190 w7 ho8 hb hg_ hnew_; clear hg_ hnew_; (first | rw [← Ny189.out] at ho8 | (simp only [Int.reduceToNat] at ho8; rw [← Ny189.out] at ho8)); have n0_ := Aside0.mk (Kd.R_lower ho8 (below_size (by repeat (first | (with_reducible first | exact HB.out | apply below_alloc | apply pw_below_drewN | apply below_drew1) | exact HB.out)))); have n1_ := Aside0.mk (below_step (by repeat (first | (with_reducible first | exact HB.out | apply below_alloc | apply pw_below_drewN | apply below_drew1) | exact HB.out)) hb); clear HB; have HO191 := n0_; have HB := n1_; clear n0_ n1_; clear hb ho8) | ((with_reducible refine gate_callee (f := 84) rfl ?_); refine goesL_ (some 17) rfl rfl Try.func84 (by kernel_rfl) rfl #[.slice A1 l1.length c1] rfl (by (try simp only [List.map_toArray, List.map_cons, List.map_nil]); first | done | rfl | (simp only [List.length_drop, List.length_take]; rfl)) ?_; (with_reducible refine (impl_jobsOf.calls _ _ l1 t192 _ ?side1 ?side2 A5.out).mono ?_); (case side1 => repeat (first | exact (Kd.C_below HR1.out HB.out) | (with_reducible refine Kd.C_alloc ?_ _) | (with_reducible refine Kd.C_drewN ?_ _) | (with_reducible refine Kd.C_drew ?_))); (case side2 => exact HC1.out); rintro e w9 ⟨v193, rfl, ho0, hb⟩; refine ⟨_, rfl, ?_⟩; have n0_ := Aside0.mk (Kd.R_elder' (by (with_reducible repeat (first | apply Kd.R_alloc | apply Kd.R_drewN | apply Kd.R_drew)); exact HO191.out) (Kd.R_base ho0) hb); have n1_ := Aside0.mk (Kd.R_lower (Kd.R_new' ho0 (Kd.R_lt (by (with_reducible repeat (first | apply Kd.R_alloc | apply Kd.R_drewN | apply Kd.R_drew)); exact HO191.out))) (below_size (by repeat (first | (with_reducible first | exact HB.out | apply below_alloc | apply pw_below_drewN | apply below_drew1) | exact HB.out)))); have n2_ := Aside0.mk (below_step (by repeat (first | (with_reducible first | exact HB.out | apply below_alloc | apply pw_below_drewN | apply below_drew1) | exact HB.out)) hb); clear HO191; clear HB; have HO191 := n0_; have HO194 := n1_; have HB := n2_; clear n0_ n1_ n2_; (try clear hb); (try clear hb2); (try clear hk); (try clear hi); (try clear ho0)))
   go_loopg [6, 20] k (fun kq v6 v20 w' => ∃ (x6_1 : List Int) (x20_1 : Int), v20 = .int .i64 x20_1 ∧ Aside0 (impl_LatenessOf.l0 kq l0 x6_1 t192 l1 (l1.length : Int) x20_1 = some (r1, r2)) ∧ Aside0 (kq ≤ k) ∧ Aside0 (Kd.R (Kd.int .i64) 2 w' w.heap.size (fun k_ => some k_ ≠ (v193 : Value).ownBlock) v6 x6_1) ∧ Aside0 (Kd.R (Kd.int .i64) 2 w' w.heap.size (fun k_ => some k_ ≠ (v6 : Value).ownBlock) v193 t192) ∧ Aside0 (Below w.heap.size w w'))
   case atStart => exact ⟨(y189), (0), (by first | rfl | (simp; done) | (simp [*]; done)), H', ⟨Nat.le_refl _⟩, ⟨by (with_reducible repeat (first | apply Kd.R_alloc | apply Kd.R_drewN | apply Kd.R_drew)); exact Kd.R_mono HO191.out (fun _ hk => hk.2)⟩, ⟨by (with_reducible repeat (first | apply Kd.R_alloc | apply Kd.R_drewN | apply Kd.R_drew)); exact Kd.R_mono HO194.out (fun _ hk => hk.2)⟩, ⟨by repeat (first | (with_reducible first | exact HB.out | apply below_alloc | apply pw_below_drewN | apply below_drew1) | exact HB.out)⟩⟩
   case round =>
    clear H'
    (try clear c1); (try clear p2); (try clear c4); (try clear c5); (try clear c8)
    obtain ⟨x6_1, x20_1, rfl, HA, HK1, HO_6, HO_7, HB⟩ := hrel
    cases gk with
    | zero => exact absurd HA.out (by simp [impl_LatenessOf.l0])
    | succ k1 =>
     have H := HA.out
     clear HA
     simp only [impl_LatenessOf.l0] at H
     by_cases c10 : x20_1 < (l1.length : Int)
     · rw [if_pos c10] at H
       have c10b0 : decide (x20_1 < (l1.length : Int)) = true := decide_eq_true c10
       clear c10
       by_cases c11 : 0 ≤ x20_1
       · rw [if_pos c11] at H
         have c11b0 : decide (0 ≤ x20_1) = true := decide_eq_true c11
         clear c11
         by_cases c12 : x20_1 < (l1.length : Int)
         · rw [if_pos c12] at H
           have c12b0 : decide (x20_1 < (l1.length : Int)) = true := decide_eq_true c12
           clear c12
           by_cases c13 : 0 ≤ ((rd_T81 l1 x20_1).f0)
           · rw [if_pos c13] at H
             have c13b0 : decide (0 ≤ ((rd_T81 l1 x20_1).f0)) = true := decide_eq_true c13
             clear c13
             by_cases c14 : ((rd_T81 l1 x20_1).f0) < (l0.length : Int)
             · rw [if_pos c14] at H
               have c14b0 : decide (((rd_T81 l1 x20_1).f0) < (l0.length : Int)) = true := decide_eq_true c14
               clear c14
               by_cases c15 : x20_1 < (t192.length : Int)
               · rw [if_pos c15] at H
                 have c15b0 : decide (x20_1 < (t192.length : Int)) = true := decide_eq_true c15
                 clear c15
                 obtain ⟨ji16, hji16⟩ : ∃ j_ : Int, (mx 0 (wrap64 ((wrap64 (((rd_T81 l1 x20_1).f1) + ((rd_T54 l0 ((rd_T81 l1 x20_1).f0)).f1))) - (wrap64 ((wrap64 ((rd t192 x20_1) + 1)) * ((rd_T54 l0 ((rd_T81 l1 x20_1).f0)).f2)))))) = j_ := ⟨_, rfl⟩
                 replace H : (if x6_1.length < 17592186044416 then (impl_LatenessOf.l0 k1 l0 (x6_1 ++ [ji16]) t192 l1 (l1.length : Int) (wrap64 (x20_1 + 1))) else (none)) = some (r1, r2) := by first | (rw [hji16] at H; exact H) | (simp only [hji16] at H ⊢; exact H)
                 have hji16_ : (if 0 < (wrap64 ((wrap64 (((rd_T81 l1 x20_1).f1) + ((rd_T54 l0 ((rd_T81 l1 x20_1).f0)).f1))) - (wrap64 ((wrap64 ((rd t192 x20_1) + 1)) * ((rd_T54 l0 ((rd_T81 l1 x20_1).f0)).f2))))) then (wrap64 ((wrap64 (((rd_T81 l1 x20_1).f1) + ((rd_T54 l0 ((rd_T81 l1 x20_1).f0)).f1))) - (wrap64 ((wrap64 ((rd t192 x20_1) + 1)) * ((rd_T54 l0 ((rd_T81 l1 x20_1).f0)).f2))))) else 0) = ji16 := hji16
                 by_cases c17 : x6_1.length < 17592186044416
                 · rw [if_pos c17] at H
                   have LMc17 := Aside0.mk c17
                   clear c17
                   obtain ⟨y200, hy200⟩ : ∃ y_ : List Int, y_ = (x6_1 ++ [ji16]) := ⟨_, rfl⟩
                   replace H : (impl_LatenessOf.l0 k1 l0 y200 t192 l1 (l1.length : Int) (wrap64 (x20_1 + 1))) = some (r1, r2) := by first | (rw [hy200]; with_reducible exact H) | (have H2_ := (Option.bind_some _ _).symm.trans H; rw [hy200]; with_reducible exact H2_) | (have H2_ := (Option.bind_some _ _).symm.trans H; with_reducible exact H2_) | with_reducible exact H | (rw [hy200]; exact H) | exact H
                   have Ny200 := Aside0.mk hy200
                   clear hy200
                   as_aux_lemma =>
                    have H' := Aside0.mk H
                    clear H
                    have p195 : 0 ≤ (x20_1 : Int) := of_decide_eq_true (by first | (with_reducible assumption) | assumption)
                    have q195 : x20_1 < (l1.length : Int) := of_decide_eq_true (by first | (with_reducible assumption) | assumption)
                    obtain ⟨ad195, e195, hx195_0, hx195_1⟩ := at_T81 HR1.out x20_1 p195 q195
                    cases e195
                    replace hx195_0 := (HB.out.cell (World.block_lt_of_cell? w _ hx195_0)).trans hx195_0
                    replace hx195_1 := (HB.out.cell (World.block_lt_of_cell? w _ hx195_1)).trans hx195_1
                    replace p195 := eq_true p195
                    replace q195 := eq_true q195
                    try go_wp2_with (first | ((with_reducible refine gate_dst (N := 9) rfl ?_); refine box_event ?hg (N := 9) ?hd (cs := #[.int .i64 0, .int .i64 0]) (t := 81) ?hr ?_; (case hd => rfl); (case hg => rfl); (case hr => first | (go_simp; done) | (go_simp; rfl)); intro gb196 hg w18 hbox hb; have n0_ := Aside0.mk (Kd.R_below (by (with_reducible repeat (first | apply Kd.R_alloc | apply Kd.R_drewN | apply Kd.R_drew)); exact HO_6.out) hb); have n1_ := Aside0.mk (Kd.R_below (by (with_reducible repeat (first | apply Kd.R_alloc | apply Kd.R_drewN | apply Kd.R_drew)); exact HO_7.out) hb); have n2_ := Aside0.mk (below_step (by repeat (first | (with_reducible first | exact HB.out | apply below_alloc | apply pw_below_drewN | apply below_drew1) | exact HB.out)) hb); have n3_ := Aside0.mk (hbox); have n4_ := Aside0.mk ((by rw [hg]; exact (below_size (by repeat (first | (with_reducible first | exact HB.out | apply below_alloc | apply pw_below_drewN | apply below_drew1) | exact HB.out))) : w.heap.size ≤ gb196)); have n5_ := Aside0.mk ((by rw [hg]; exact (below_size (by repeat (first | (with_reducible first | exact HB.out | apply below_alloc | apply pw_below_drewN | apply below_drew1) | exact HB.out))) : w.heap.size ≤ gb196)); clear HO_6; clear HO_7; clear HB; have HO_6 := n0_; have HO_7 := n1_; have HB := n2_; have BK196 := n3_; have GW196 := n4_; have GE196 := n5_; clear n0_ n1_ n2_ n3_ n4_ n5_; clear hb hbox hg; have hcz19_0 : w18.cell? ⟨gb196, 0, none⟩ = some (.int .i64 0) := (blk_cell BK196.out 0).trans rfl; have hcz19_1 : w18.cell? ⟨gb196, 1, none⟩ = some (.int .i64 0) := (blk_cell BK196.out 1).trans rfl; have hfz19_0 := blk_frozen BK196.out 0; have hfz19_1 := blk_frozen BK196.out 1; have p197 : 0 ≤ (((rd_T81 l1 x20_1).f0) : Int) := of_decide_eq_true (by first | (with_reducible assumption) | assumption); have q197 : ((rd_T81 l1 x20_1).f0) < (l0.length : Int) := of_decide_eq_true (by first | (with_reducible assumption) | assumption); obtain ⟨ad197, e197, hx197_0, hx197_1, hx197_2, hx197_3⟩ := at_T54 HR0.out ((rd_T81 l1 x20_1).f0) p197 q197; cases e197; have hn197_0 : ad197.block ≠ gb196 := Nat.ne_of_lt (Nat.lt_of_lt_of_le (by have := World.block_lt_of_cell? _ _ hx197_0; first | rwa [add_block] at this | exact this) GW196.out); have hn197_1 : ad197.block ≠ gb196 := Nat.ne_of_lt (Nat.lt_of_lt_of_le (by have := World.block_lt_of_cell? _ _ hx197_0; first | rwa [add_block] at this | exact this) GW196.out); replace hx197_0 := (HB.out.cell (World.block_lt_of_cell? w _ hx197_0)).trans hx197_0; replace hx197_1 := (HB.out.cell (World.block_lt_of_cell? w _ hx197_1)).trans hx197_1; replace hx197_2 := (HB.out.cell (World.block_lt_of_cell? w _ hx197_2)).trans hx197_2; replace hx197_3 := (HB.out.cell (World.block_lt_of_cell? w _ hx197_3)).trans hx197_3; replace hx197_0 := (cell_far (p := ⟨gb196, 0, none⟩) (by first | (rw [add_block]; exact hn197_0) | (show (Addr.add _ _).block ≠ _; rw [add_block]; exact hn197_0) | exact hn197_0) (.int .i64 ((rd_T81 l1 x20_1).f0))).trans hx197_0; replace hx197_1 := (cell_far (p := ⟨gb196, 0, none⟩) (by first | (rw [add_block]; exact hn197_0) | (show (Addr.add _ _).block ≠ _; rw [add_block]; exact hn197_0) | exact hn197_0) (.int .i64 ((rd_T81 l1 x20_1).f0))).trans hx197_1; replace hx197_2 := (cell_far (p := ⟨gb196, 0, none⟩) (by first | (rw [add_block]; exact hn197_0) | (show (Addr.add _ _).block ≠ _; rw [add_block]; exact hn197_0) | exact hn197_0) (.int .i64 ((rd_T81 l1 x20_1).f0))).trans hx197_2; replace hx197_3 := (cell_far (p := ⟨gb196, 0, none⟩) (by first | (rw [add_block]; exact hn197_0) | (show (Addr.add _ _).block ≠ _; rw [add_block]; exact hn197_0) | exact hn197_0) (.int .i64 ((rd_T81 l1 x20_1).f0))).trans hx197_3; replace hx197_0 := (cell_far (p := ⟨gb196, 1, none⟩) (by first | (rw [add_block]; exact hn197_1) | (show (Addr.add _ _).block ≠ _; rw [add_block]; exact hn197_1) | exact hn197_1) (.int .i64 ((rd_T81 l1 x20_1).f1))).trans hx197_0; replace hx197_1 := (cell_far (p := ⟨gb196, 1, none⟩) (by first | (rw [add_block]; exact hn197_1) | (show (Addr.add _ _).block ≠ _; rw [add_block]; exact hn197_1) | exact hn197_1) (.int .i64 ((rd_T81 l1 x20_1).f1))).trans hx197_1; replace hx197_2 := (cell_far (p := ⟨gb196, 1, none⟩) (by first | (rw [add_block]; exact hn197_1) | (show (Addr.add _ _).block ≠ _; rw [add_block]; exact hn197_1) | exact hn197_1) (.int .i64 ((rd_T81 l1 x20_1).f1))).trans hx197_2; replace hx197_3 := (cell_far (p := ⟨gb196, 1, none⟩) (by first | (rw [add_block]; exact hn197_1) | (show (Addr.add _ _).block ≠ _; rw [add_block]; exact hn197_1) | exact hn197_1) (.int .i64 ((rd_T81 l1 x20_1).f1))).trans hx197_3; clear hn197_0; clear hn197_1; replace p197 := eq_true p197; replace q197 := eq_true q197) | ((with_reducible refine gate_dst (N := 10) rfl ?_); refine box_event ?hg (N := 10) ?hd (cs := #[.int .i64 0, .int .i64 0, .int .i64 0, .int .i64 0]) (t := 54) ?hr ?_; (case hd => rfl); (case hg => rfl); (case hr => first | (go_simp; done) | (go_simp; rfl)); intro gb198 hg w20 hbox hb; have n0_ := Aside0.mk (Kd.R_below (by (with_reducible repeat (first | apply Kd.R_alloc | apply Kd.R_drewN | apply Kd.R_drew)); exact (Kd.R_mono (Kd.R_far (p := ⟨gb196, 1, none⟩) (Kd.R_far (p := ⟨gb196, 0, none⟩) (Kd.R_types HO_6.out BK196.out (by decide)) (fun _ hk => hk.2) (.int .i64 ((rd_T81 l1 x20_1).f0))) (fun _ hk => hk.2) (.int .i64 ((rd_T81 l1 x20_1).f1))) (fun _ h_ => h_.1))) hb); have n1_ := Aside0.mk (Kd.R_below (by (with_reducible repeat (first | apply Kd.R_alloc | apply Kd.R_drewN | apply Kd.R_drew)); exact (Kd.R_mono (Kd.R_far (p := ⟨gb196, 1, none⟩) (Kd.R_far (p := ⟨gb196, 0, none⟩) (Kd.R_types HO_7.out BK196.out (by decide)) (fun _ hk => hk.2) (.int .i64 ((rd_T81 l1 x20_1).f0))) (fun _ hk => hk.2) (.int .i64 ((rd_T81 l1 x20_1).f1))) (fun _ h_ => h_.1))) hb); have n2_ := Aside0.mk (blk_below (g := gb196) (o := .cells #[.int .i64 ((rd_T81 l1 x20_1).f0), .int .i64 ((rd_T81 l1 x20_1).f1)] 81 (0, 0)) (by (with_reducible repeat (first | refine blk_drewN ?_ _ | refine blk_drew ?_ | refine blk_alloc ?_ _)); refine blk_put (cs := #[.int .i64 ((rd_T81 l1 x20_1).f0), .int .i64 0]) ?_ 1 _ rfl; (with_reducible repeat (first | refine blk_drewN ?_ _ | refine blk_drew ?_ | refine blk_alloc ?_ _)); refine blk_put (cs := #[.int .i64 0, .int .i64 0]) ?_ 0 _ rfl; (with_reducible repeat (first | refine blk_drewN ?_ _ | refine blk_drew ?_ | refine blk_alloc ?_ _)); exact BK196.out) hb); have n3_ := Aside0.mk (below_step (by repeat (first | (with_reducible first | exact HB.out | apply below_alloc | apply pw_below_drewN | apply below_drew1 | refine below_set ?_ GE196.out) | exact HB.out)) hb); have n4_ := Aside0.mk (hbox); have n5_ := Aside0.mk ((by rw [hg]; exact (below_size (by repeat (first | (with_reducible first | exact HB.out | apply below_alloc | apply pw_below_drewN | apply below_drew1 | refine below_set ?_ GE196.out) | exact HB.out))) : w.heap.size ≤ gb198)); have n6_ := Aside0.mk ((by rw [hg]; exact (below_size (by repeat (first | (with_reducible first | exact HB.out | apply below_alloc | apply pw_below_drewN | apply below_drew1 | refine below_set ?_ GE196.out) | exact HB.out))) : w.heap.size ≤ gb198)); have n7_ := Aside0.mk ((by rw [hg]; exact Nat.ne_of_lt (blk_lt (g := gb196) (o := .cells #[.int .i64 ((rd_T81 l1 x20_1).f0), .int .i64 ((rd_T81 l1 x20_1).f1)] 81 (0, 0)) (by (with_reducible repeat (first | refine blk_drewN ?_ _ | refine blk_drew ?_ | refine blk_alloc ?_ _)); refine blk_put (cs := #[.int .i64 ((rd_T81 l1 x20_1).f0), .int .i64 0]) ?_ 1 _ rfl; (with_reducible repeat (first | refine blk_drewN ?_ _ | refine blk_drew ?_ | refine blk_alloc ?_ _)); refine blk_put (cs := #[.int .i64 0, .int .i64 0]) ?_ 0 _ rfl; (with_reducible repeat (first | refine blk_drewN ?_ _ | refine blk_drew ?_ | refine blk_alloc ?_ _)); exact BK196.out)) : gb196 ≠ gb198)); have n8_ := Aside0.mk ((by rw [hg]; exact Nat.ne_of_gt (blk_lt (g := gb196) (o := .cells #[.int .i64 ((rd_T81 l1 x20_1).f0), .int .i64 ((rd_T81 l1 x20_1).f1)] 81 (0, 0)) (by (with_reducible repeat (first | refine blk_drewN ?_ _ | refine blk_drew ?_ | refine blk_alloc ?_ _)); refine blk_put (cs := #[.int .i64 ((rd_T81 l1 x20_1).f0), .int .i64 0]) ?_ 1 _ rfl; (with_reducible repeat (first | refine blk_drewN ?_ _ | refine blk_drew ?_ | refine blk_alloc ?_ _)); refine blk_put (cs := #[.int .i64 0, .int .i64 0]) ?_ 0 _ rfl; (with_reducible repeat (first | refine blk_drewN ?_ _ | refine blk_drew ?_ | refine blk_alloc ?_ _)); exact BK196.out)) : gb198 ≠ gb196)); clear HO_6; clear HO_7; clear BK196; clear HB; have HO_6 := n0_; have HO_7 := n1_; have BK196 := n2_; have HB := n3_; have BK198 := n4_; have GW198 := n5_; have GE198 := n6_; have NB196_198 := n7_; have NB198_196 := n8_; clear n0_ n1_ n2_ n3_ n4_ n5_ n6_ n7_ n8_; clear hb hbox hg; have hnb21 := NB198_196.out; have hnc21 := NB196_198.out; have hcz22_0 : w20.cell? ⟨gb198, 0, none⟩ = some (.int .i64 0) := (blk_cell BK198.out 0).trans rfl; have hcz22_1 : w20.cell? ⟨gb198, 1, none⟩ = some (.int .i64 0) := (blk_cell BK198.out 1).trans rfl; have hcz22_2 : w20.cell? ⟨gb198, 2, none⟩ = some (.int .i64 0) := (blk_cell BK198.out 2).trans rfl; have hcz22_3 : w20.cell? ⟨gb198, 3, none⟩ = some (.int .i64 0) := (blk_cell BK198.out 3).trans rfl; have hfz22_0 := blk_frozen BK198.out 0; have hfz22_1 := blk_frozen BK198.out 1; have hfz22_2 := blk_frozen BK198.out 2; have hfz22_3 := blk_frozen BK198.out 3))
                    have n0_ : Aside0 (Kd.R (Kd.int .i64) 2 ((((w20.setCell ⟨gb198, 0, none⟩ (.int .i64 ((rd_T54 l0 ((rd_T81 l1 x20_1).f0)).f0.f0))).setCell ⟨gb198, 1, none⟩ (.int .i64 ((rd_T54 l0 ((rd_T81 l1 x20_1).f0)).f0.f1))).setCell ⟨gb198, 2, none⟩ (.int .i64 ((rd_T54 l0 ((rd_T81 l1 x20_1).f0)).f1))).setCell ⟨gb198, 3, none⟩ (.int .i64 ((rd_T54 l0 ((rd_T81 l1 x20_1).f0)).f2))) w.heap.size (fun k_ => some k_ ≠ (v193 : Value).ownBlock) u6 x6_1) := ⟨by (with_reducible repeat (first | apply Kd.R_alloc | apply Kd.R_drewN | apply Kd.R_drew)); exact Kd.R_mono (Kd.R_far (p := ⟨gb198, 3, none⟩) (Kd.R_far (p := ⟨gb198, 2, none⟩) (Kd.R_far (p := ⟨gb198, 1, none⟩) (Kd.R_far (p := ⟨gb198, 0, none⟩) (Kd.R_types HO_6.out BK198.out (by decide)) (fun _ hk => hk.2) (.int .i64 ((rd_T54 l0 ((rd_T81 l1 x20_1).f0)).f0.f0))) (fun _ hk => hk.2) (.int .i64 ((rd_T54 l0 ((rd_T81 l1 x20_1).f0)).f0.f1))) (fun _ hk => hk.2) (.int .i64 ((rd_T54 l0 ((rd_T81 l1 x20_1).f0)).f1))) (fun _ hk => hk.2) (.int .i64 ((rd_T54 l0 ((rd_T81 l1 x20_1).f0)).f2))) (fun _ hk => hk.1)⟩
                    have n1_ : Aside0 (Kd.R (Kd.int .i64) 2 ((((w20.setCell ⟨gb198, 0, none⟩ (.int .i64 ((rd_T54 l0 ((rd_T81 l1 x20_1).f0)).f0.f0))).setCell ⟨gb198, 1, none⟩ (.int .i64 ((rd_T54 l0 ((rd_T81 l1 x20_1).f0)).f0.f1))).setCell ⟨gb198, 2, none⟩ (.int .i64 ((rd_T54 l0 ((rd_T81 l1 x20_1).f0)).f1))).setCell ⟨gb198, 3, none⟩ (.int .i64 ((rd_T54 l0 ((rd_T81 l1 x20_1).f0)).f2))) w.heap.size (fun k_ => some k_ ≠ (u6 : Value).ownBlock) v193 t192) := ⟨by (with_reducible repeat (first | apply Kd.R_alloc | apply Kd.R_drewN | apply Kd.R_drew)); exact Kd.R_mono (Kd.R_far (p := ⟨gb198, 3, none⟩) (Kd.R_far (p := ⟨gb198, 2, none⟩) (Kd.R_far (p := ⟨gb198, 1, none⟩) (Kd.R_far (p := ⟨gb198, 0, none⟩) (Kd.R_types HO_7.out BK198.out (by decide)) (fun _ hk => hk.2) (.int .i64 ((rd_T54 l0 ((rd_T81 l1 x20_1).f0)).f0.f0))) (fun _ hk => hk.2) (.int .i64 ((rd_T54 l0 ((rd_T81 l1 x20_1).f0)).f0.f1))) (fun _ hk => hk.2) (.int .i64 ((rd_T54 l0 ((rd_T81 l1 x20_1).f0)).f1))) (fun _ hk => hk.2) (.int .i64 ((rd_T54 l0 ((rd_T81 l1 x20_1).f0)).f2))) (fun _ hk => hk.1)⟩
                    have n2_ : Aside0 (((((w20.setCell ⟨gb198, 0, none⟩ (.int .i64 ((rd_T54 l0 ((rd_T81 l1 x20_1).f0)).f0.f0))).setCell ⟨gb198, 1, none⟩ (.int .i64 ((rd_T54 l0 ((rd_T81 l1 x20_1).f0)).f0.f1))).setCell ⟨gb198, 2, none⟩ (.int .i64 ((rd_T54 l0 ((rd_T81 l1 x20_1).f0)).f1))).setCell ⟨gb198, 3, none⟩ (.int .i64 ((rd_T54 l0 ((rd_T81 l1 x20_1).f0)).f2))).heap[gb196]? = some (.cells #[.int .i64 ((rd_T81 l1 x20_1).f0), .int .i64 ((rd_T81 l1 x20_1).f1)] 81 (0, 0))) := ⟨by (with_reducible repeat (first | refine blk_drewN ?_ _ | refine blk_drew ?_ | refine blk_alloc ?_ _)); refine blk_far ?_ NB196_198.out _; (with_reducible repeat (first | refine blk_drewN ?_ _ | refine blk_drew ?_ | refine blk_alloc ?_ _)); refine blk_far ?_ NB196_198.out _; (with_reducible repeat (first | refine blk_drewN ?_ _ | refine blk_drew ?_ | refine blk_alloc ?_ _)); refine blk_far ?_ NB196_198.out _; (with_reducible repeat (first | refine blk_drewN ?_ _ | refine blk_drew ?_ | refine blk_alloc ?_ _)); refine blk_far ?_ NB196_198.out _; (with_reducible repeat (first | refine blk_drewN ?_ _ | refine blk_drew ?_ | refine blk_alloc ?_ _)); exact BK196.out⟩
                    have n3_ : Aside0 (((((w20.setCell ⟨gb198, 0, none⟩ (.int .i64 ((rd_T54 l0 ((rd_T81 l1 x20_1).f0)).f0.f0))).setCell ⟨gb198, 1, none⟩ (.int .i64 ((rd_T54 l0 ((rd_T81 l1 x20_1).f0)).f0.f1))).setCell ⟨gb198, 2, none⟩ (.int .i64 ((rd_T54 l0 ((rd_T81 l1 x20_1).f0)).f1))).setCell ⟨gb198, 3, none⟩ (.int .i64 ((rd_T54 l0 ((rd_T81 l1 x20_1).f0)).f2))).heap[gb198]? = some (.cells #[.int .i64 ((rd_T54 l0 ((rd_T81 l1 x20_1).f0)).f0.f0), .int .i64 ((rd_T54 l0 ((rd_T81 l1 x20_1).f0)).f0.f1), .int .i64 ((rd_T54 l0 ((rd_T81 l1 x20_1).f0)).f1), .int .i64 ((rd_T54 l0 ((rd_T81 l1 x20_1).f0)).f2)] 54 (0, 0))) := ⟨by (with_reducible repeat (first | refine blk_drewN ?_ _ | refine blk_drew ?_ | refine blk_alloc ?_ _)); refine blk_put (cs := #[.int .i64 ((rd_T54 l0 ((rd_T81 l1 x20_1).f0)).f0.f0), .int .i64 ((rd_T54 l0 ((rd_T81 l1 x20_1).f0)).f0.f1), .int .i64 ((rd_T54 l0 ((rd_T81 l1 x20_1).f0)).f1), .int .i64 0]) ?_ 3 _ rfl; (with_reducible repeat (first | refine blk_drewN ?_ _ | refine blk_drew ?_ | refine blk_alloc ?_ _)); refine blk_put (cs := #[.int .i64 ((rd_T54 l0 ((rd_T81 l1 x20_1).f0)).f0.f0), .int .i64 ((rd_T54 l0 ((rd_T81 l1 x20_1).f0)).f0.f1), .int .i64 0, .int .i64 0]) ?_ 2 _ rfl; (with_reducible repeat (first | refine blk_drewN ?_ _ | refine blk_drew ?_ | refine blk_alloc ?_ _)); refine blk_put (cs := #[.int .i64 ((rd_T54 l0 ((rd_T81 l1 x20_1).f0)).f0.f0), .int .i64 0, .int .i64 0, .int .i64 0]) ?_ 1 _ rfl; (with_reducible repeat (first | refine blk_drewN ?_ _ | refine blk_drew ?_ | refine blk_alloc ?_ _)); refine blk_put (cs := #[.int .i64 0, .int .i64 0, .int .i64 0, .int .i64 0]) ?_ 0 _ rfl; (with_reducible repeat (first | refine blk_drewN ?_ _ | refine blk_drew ?_ | refine blk_alloc ?_ _)); exact BK198.out⟩
                    have n4_ : Aside0 (Below w.heap.size w ((((w20.setCell ⟨gb198, 0, none⟩ (.int .i64 ((rd_T54 l0 ((rd_T81 l1 x20_1).f0)).f0.f0))).setCell ⟨gb198, 1, none⟩ (.int .i64 ((rd_T54 l0 ((rd_T81 l1 x20_1).f0)).f0.f1))).setCell ⟨gb198, 2, none⟩ (.int .i64 ((rd_T54 l0 ((rd_T81 l1 x20_1).f0)).f1))).setCell ⟨gb198, 3, none⟩ (.int .i64 ((rd_T54 l0 ((rd_T81 l1 x20_1).f0)).f2)))) := ⟨by repeat (first | (with_reducible first | exact HB.out | apply below_alloc | apply pw_below_drewN | apply below_drew1 | refine below_set ?_ GE196.out | refine below_set ?_ GE198.out) | exact HB.out)⟩
                    (try clear HO_6)
                    (try clear HO_7)
                    (try clear BK196)
                    (try clear BK198)
                    (try clear HB)
                    generalize ((((w20.setCell ⟨gb198, 0, none⟩ (.int .i64 ((rd_T54 l0 ((rd_T81 l1 x20_1).f0)).f0.f0))).setCell ⟨gb198, 1, none⟩ (.int .i64 ((rd_T54 l0 ((rd_T81 l1 x20_1).f0)).f0.f1))).setCell ⟨gb198, 2, none⟩ (.int .i64 ((rd_T54 l0 ((rd_T81 l1 x20_1).f0)).f1))).setCell ⟨gb198, 3, none⟩ (.int .i64 ((rd_T54 l0 ((rd_T81 l1 x20_1).f0)).f2))) = w23 at n0_ n1_ n2_ n3_ n4_ ⊢
                    have HO_6 := n0_
                    have HO_7 := n1_
                    have BK196 := n2_
                    have BK198 := n3_
                    have HB := n4_
                    clear n0_ n1_ n2_ n3_ n4_
                    have n0_ := Aside0.mk (Kd.R_drew HO_6.out)
                    have n1_ := Aside0.mk (Kd.R_drew HO_7.out)
                    have n2_ := Aside0.mk (blk_drew BK196.out)
                    have n3_ := Aside0.mk (blk_drew BK198.out)
                    have n4_ := Aside0.mk (below_drew1 HB.out)
                    clear HO_6
                    clear HO_7
                    clear BK196
                    clear BK198
                    clear HB
                    have HO_6 := n0_
                    have HO_7 := n1_
                    have BK196 := n2_
                    have BK198 := n3_
                    have HB := n4_
                    clear n0_ n1_ n2_ n3_ n4_
                    obtain ⟨Ao25, co25, eo25⟩ := Kd.R_slice HO_7.out
                    (first | subst eo25 | (injection eo25 with f1_ f2_ f3_; have f4_ := f1_.symm; have f5_ := f3_.symm; clear f1_ f2_ f3_; subst f4_; subst f5_))
                    have p199 : 0 ≤ (x20_1 : Int) := of_decide_eq_true (by first | (with_reducible assumption) | assumption)
                    have q199 : x20_1 < (t192.length : Int) := of_decide_eq_true (by first | (with_reducible assumption) | assumption)
                    obtain ⟨ad199, e199, hx199_0⟩ := Kd.at_int (Kd.R_reads' HO_7.out).2.2 x20_1 p199 q199
                    cases e199
                    replace p199 := eq_true p199
                    replace q199 := eq_true q199
                    refine start_ (n := 19) (S := fun w' => w'.cell? ⟨gb196, 0, none⟩ = some (.int .i64 ((rd_T81 l1 x20_1).f0)) ∧ w'.cell? ⟨gb196, 1, none⟩ = some (.int .i64 ((rd_T81 l1 x20_1).f1)) ∧ w'.cell? ⟨gb198, 0, none⟩ = some (.int .i64 ((rd_T54 l0 ((rd_T81 l1 x20_1).f0)).f0.f0)) ∧ w'.cell? ⟨gb198, 1, none⟩ = some (.int .i64 ((rd_T54 l0 ((rd_T81 l1 x20_1).f0)).f0.f1)) ∧ w'.cell? ⟨gb198, 2, none⟩ = some (.int .i64 ((rd_T54 l0 ((rd_T81 l1 x20_1).f0)).f1)) ∧ w'.cell? ⟨gb198, 3, none⟩ = some (.int .i64 ((rd_T54 l0 ((rd_T81 l1 x20_1).f0)).f2)) ∧ w'.cell? (ad199.add (x20_1).toNat) = some (.int .i64 (rd t192 x20_1))) (ds := [16, 17]) #[false, false, false, false, false, false, false, false, false, false, false, false, false, false, false, false, false, false, false] (by kernel_rfl) rfl rfl ⟨(blk_cell BK196.out 0).trans rfl, (blk_cell BK196.out 1).trans rfl, (blk_cell BK198.out 0).trans rfl, (blk_cell BK198.out 1).trans rfl, (blk_cell BK198.out 2).trans rfl, (blk_cell BK198.out 3).trans rfl, hx199_0⟩ (fun hHeld => ?_); refine with_tabW impl_LatenessOf.tab8 impl_LatenessOf.bits8 (fun HT_ HW_ => ?_)
                    generalize w23.drew = w24 at HO_6 HO_7 BK196 BK198 HB hx199_0 hHeld ⊢
                    refine pure_ (i := 0) (N := some 30) (v := ?_) (a' := ?_) #[true, false, false, false, false, false, false, false, false, false, false, false, false, false, false, false, false, false, false] rfl rfl (any_of HT_.out (by kernel_rfl)) (fun _ _ _ h => h) (Or.inl ⟨by rfl, ?_⟩) ?_ ?_; rotate_left 4
                    refine pure_ (i := 1) (N := some 31) (v := ?_) (a' := ?_) #[true, true, false, false, false, false, false, false, false, false, false, false, false, false, false, false, false, false, false] rfl rfl (any_of HT_.out (by kernel_rfl)) (fun _ _ _ h => h) (Or.inl ⟨by rfl, ?_⟩) ?_ ?_; rotate_left 4
                    refine pure_ (i := 3) (N := some 33) (v := ?_) (a' := ?_) #[true, true, false, true, false, false, false, false, false, false, false, false, false, false, false, false, false, false, false] rfl rfl (any_of HT_.out (by kernel_rfl)) (fun _ _ _ h => h) (Or.inl ⟨by rfl, ?_⟩) ?_ ?_; rotate_left 4
                    refine pure_ (i := 6) (N := some 36) (v := ?_) (a' := ?_) #[true, true, false, true, false, false, true, false, false, false, false, false, false, false, false, false, false, false, false] rfl rfl (any_of HT_.out (by kernel_rfl)) (fun _ _ _ h => h) (Or.inl ⟨by rfl, ?_⟩) ?_ ?_; rotate_left 4
                    refine pure_ (i := 7) (N := some 37) (v := ?_) (a' := ?_) #[true, true, false, true, false, false, true, true, false, false, false, false, false, false, false, false, false, false, false] rfl rfl (any_of HT_.out (by kernel_rfl)) (fun _ _ _ h => h) (Or.inl ⟨by rfl, ?_⟩) ?_ ?_; rotate_left 4
                    refine pure_ (i := 8) (N := some 38) (v := ?_) (a' := ?_) #[true, true, false, true, false, false, true, true, true, false, false, false, false, false, false, false, false, false, false] rfl rfl (any_of HT_.out (by kernel_rfl)) (fun _ _ _ h => h) (Or.inl ⟨by rfl, ?_⟩) ?_ ?_; rotate_left 4
                    refine pure_ (i := 11) (N := some 41) (v := ?_) (a' := ?_) #[true, true, false, true, false, false, true, true, true, false, false, true, false, false, false, false, false, false, false] rfl rfl (any_of HT_.out (by kernel_rfl)) (fun _ _ _ h => h) (Or.inl ⟨by rfl, ?_⟩) ?_ ?_; rotate_left 4
                    rotate_left; iterate 7 (rotate_left; (intro w'; go_simp; with_reducible rfl); rotate_left; (simp only [Act.put, List.setIfInBounds_toArray, List.set_cons_zero, List.set_cons_succ, i64_w, i32_w]; rfl))
                    refine take_ (i := 2) (N := some 32) (v := ?_) (a' := ?_) #[true, true, true, true, false, false, true, true, true, false, false, true, false, false, false, false, false, false, false] rfl rfl (take_ofW HT_.out HW_.out (by kernel_rfl)) (fun _ _ _ h => h) (Or.inl ⟨by rfl, ?_⟩) hHeld ?_ ?_
                    rotate_left
                    · rintro w' ⟨s0, s1, s2, s3, s4, s5, s6⟩
                      go_simp
                      with_reducible rfl
                    rotate_left
                    · simp only [Act.put, List.setIfInBounds_toArray, List.set_cons_zero, List.set_cons_succ, i64_w, i32_w]
                      rfl
                    refine take_ (i := 4) (N := some 34) (v := ?_) (a' := ?_) #[true, true, true, true, true, false, true, true, true, false, false, true, false, false, false, false, false, false, false] rfl rfl (take_ofW HT_.out HW_.out (by kernel_rfl)) (fun _ _ _ h => h) (Or.inl ⟨by rfl, ?_⟩) hHeld ?_ ?_
                    rotate_left
                    · rintro w' ⟨s0, s1, s2, s3, s4, s5, s6⟩
                      go_simp
                      with_reducible rfl
                    rotate_left
                    · simp only [Act.put, List.setIfInBounds_toArray, List.set_cons_zero, List.set_cons_succ, i64_w, i32_w]
                      rfl
                    refine pure_ (i := 5) (N := some 35) (v := ?_) (a' := ?_) #[true, true, true, true, true, true, true, true, true, false, false, true, false, false, false, false, false, false, false] rfl rfl (any_of HT_.out (by kernel_rfl)) (fun _ _ _ h => h) (Or.inl ⟨by rfl, ?_⟩) ?_ ?_; rotate_left 4
                    rotate_left; iterate 1 (rotate_left; (intro w'; go_simp; with_reducible rfl); rotate_left; (simp only [Act.put, List.setIfInBounds_toArray, List.set_cons_zero, List.set_cons_succ, i64_w, i32_w]; rfl))
                    refine take_ (i := 9) (N := some 39) (v := ?_) (a' := ?_) #[true, true, true, true, true, true, true, true, true, true, false, true, false, false, false, false, false, false, false] rfl rfl (take_ofW HT_.out HW_.out (by kernel_rfl)) (fun _ _ _ h => h) (Or.inl ⟨by rfl, ?_⟩) hHeld ?_ ?_
                    rotate_left
                    · rintro w' ⟨s0, s1, s2, s3, s4, s5, s6⟩
                      go_simp
                      with_reducible rfl
                    rotate_left
                    · simp only [Act.put, List.setIfInBounds_toArray, List.set_cons_zero, List.set_cons_succ, i64_w, i32_w]
                      rfl
                    refine pure_ (i := 10) (N := some 40) (v := ?_) (a' := ?_) #[true, true, true, true, true, true, true, true, true, true, true, true, false, false, false, false, false, false, false] rfl rfl (any_of HT_.out (by kernel_rfl)) (fun _ _ _ h => h) (Or.inl ⟨by rfl, ?_⟩) ?_ ?_; rotate_left 4
                    rotate_left; iterate 1 (rotate_left; (intro w'; go_simp; with_reducible rfl); rotate_left; (simp only [Act.put, List.setIfInBounds_toArray, List.set_cons_zero, List.set_cons_succ, i64_w, i32_w]; rfl))
                    refine take_ (i := 12) (N := some 42) (v := ?_) (a' := ?_) #[true, true, true, true, true, true, true, true, true, true, true, true, true, false, false, false, false, false, false] rfl rfl (take_ofW HT_.out HW_.out (by kernel_rfl)) (fun _ _ _ h => h) (Or.inl ⟨by rfl, ?_⟩) hHeld ?_ ?_
                    rotate_left
                    · rintro w' ⟨s0, s1, s2, s3, s4, s5, s6⟩
                      go_simp
                      with_reducible rfl
                    rotate_left
                    · simp only [Act.put, List.setIfInBounds_toArray, List.set_cons_zero, List.set_cons_succ, i64_w, i32_w]
                      rfl
                    refine pure_ (i := 13) (N := some 43) (v := ?_) (a' := ?_) #[true, true, true, true, true, true, true, true, true, true, true, true, true, true, false, false, false, false, false] rfl rfl (any_of HT_.out (by kernel_rfl)) (fun _ _ _ h => h) (Or.inl ⟨by rfl, ?_⟩) ?_ ?_; rotate_left 4
                    refine pure_ (i := 14) (N := some 44) (v := ?_) (a' := ?_) #[true, true, true, true, true, true, true, true, true, true, true, true, true, true, true, false, false, false, false] rfl rfl (any_of HT_.out (by kernel_rfl)) (fun _ _ _ h => h) (Or.inl ⟨by rfl, ?_⟩) ?_ ?_; rotate_left 4
                    refine pure_ (i := 15) (N := some 45) (v := ?_) (a' := ?_) #[true, true, true, true, true, true, true, true, true, true, true, true, true, true, true, true, false, false, false] rfl rfl (any_of HT_.out (by kernel_rfl)) (fun _ _ _ h => h) (Or.inl ⟨by rfl, ?_⟩) ?_ ?_; rotate_left 4
                    rotate_left; iterate 3 (rotate_left; (intro w'; go_simp; with_reducible rfl); rotate_left; (simp only [Act.put, List.setIfInBounds_toArray, List.set_cons_zero, List.set_cons_succ, i64_w, i32_w]; rfl))
                    refine last_ (i := 16) (N := some 46) #[true, true, true, true, true, true, true, true, true, true, true, true, true, true, true, true, true, false, false] rfl rfl (one_of HT_.out (by kernel_rfl)) (by decide) (fun K hK => ?_)
                    refine value_ (w1 := ?_) (v := ?_) (by rfl) rfl ?_ ?_
                    rotate_left 2
                    · go_simp
                      constructor
                      · rfl
                      · rfl
                    refine hK.out _ _ ?_
                    clear hK K
                    refine norm_ (a' := ?_) ?_ ?_
                    rotate_left
                    · show Act.put _ (some 46) _ = _
                      simp only [Act.put, List.setIfInBounds_toArray, List.set_cons_zero, List.set_cons_succ, i64_w, i32_w]
                      rfl
                    refine last_ (i := 17) (N := some 47) #[true, true, true, true, true, true, true, true, true, true, true, true, true, true, true, true, true, true, false] rfl rfl (one_of HT_.out (by kernel_rfl)) (by decide) (fun K hK => ?_)
                    refine Kd.R_append_step (Kd.int .i64) (w0 := w) w.heap.size (by rfl) (.tmp 30) (.tmp 46) 41 2 (.int .i64 0) 8 rfl Try.underlying41 info2 rfl (by decide) (by omega) u6 x6_1 ji16 [.int .i64 ji16] (fun k_ => some k_ ≠ (.slice (some ad199) t192.length co25 : Value).ownBlock) (fun _ => False) rfl rfl ?aP (fun _ hk => hk.elim) ?aF ?aO ?aB ?aS ?aL ?_
                    (case aP => exact rfl)
                    (case aB => exact (by repeat (first | (with_reducible first | exact HB.out | apply below_alloc | apply pw_below_drewN | apply below_drew1 | refine below_set ?_ GE196.out | refine below_set ?_ GE198.out) | exact HB.out)))
                    (case aF => exact (fun k_ hk => Kd.fresh' (Kd.R_lt (by (with_reducible repeat (first | apply Kd.R_alloc | apply Kd.R_drewN | apply Kd.R_drew)); exact HO_7.out)) k_ hk))
                    (case aO => exact (by (with_reducible repeat (first | apply Kd.R_alloc | apply Kd.R_drewN | apply Kd.R_drew)); exact HO_6.out))
                    (case aS => exact (below_size (by repeat (first | (with_reducible first | exact HB.out | apply below_alloc | apply pw_below_drewN | apply below_drew1 | refine below_set ?_ GE196.out | refine below_set ?_ GE198.out) | exact HB.out))))
                    (case aL => have := LMc17.out; omega)
                    intro v201 w26 ho hb hg hat
                    rw [← Ny200.out] at ho
                    have n0_ := Aside0.mk (Kd.R_after (ok := (fun _ => True)) (by (with_reducible repeat (first | apply Kd.R_alloc | apply Kd.R_drewN | apply Kd.R_drew)); exact Kd.R_mono HO_7.out (fun _ hk => ⟨trivial, hk⟩)) hg hat)
                    have n1_ := Aside0.mk (blk_grown (g := gb196) (o := .cells #[.int .i64 ((rd_T81 l1 x20_1).f0), .int .i64 ((rd_T81 l1 x20_1).f1)] 81 (0, 0)) (by (with_reducible repeat (first | refine blk_drewN ?_ _ | refine blk_drew ?_ | refine blk_alloc ?_ _)); exact BK196.out) hg (Kd.R_ne HO_6.out BK196.out (by decide)))
                    have n2_ := Aside0.mk (blk_grown (g := gb198) (o := .cells #[.int .i64 ((rd_T54 l0 ((rd_T81 l1 x20_1).f0)).f0.f0), .int .i64 ((rd_T54 l0 ((rd_T81 l1 x20_1).f0)).f0.f1), .int .i64 ((rd_T54 l0 ((rd_T81 l1 x20_1).f0)).f1), .int .i64 ((rd_T54 l0 ((rd_T81 l1 x20_1).f0)).f2)] 54 (0, 0)) (by (with_reducible repeat (first | refine blk_drewN ?_ _ | refine blk_drew ?_ | refine blk_alloc ?_ _)); exact BK198.out) hg (Kd.R_ne HO_6.out BK198.out (by decide)))
                    have n3_ := Aside0.mk (hb)
                    have n4_ := Aside0.mk (ho)
                    clear HO_7
                    clear BK196
                    clear BK198
                    clear HB
                    clear HO_6
                    have HO_7 := n0_
                    have BK196 := n1_
                    have BK198 := n2_
                    have HB := n3_
                    have HO202 := n4_
                    clear n0_ n1_ n2_ n3_ n4_
                    clear ho hb hg hat
                    refine hK.out _ _ ?_
                    clear hK K
                    refine norm_ (a' := ?_) ?_ ?_
                    rotate_left
                    · show Act.put _ (some 47) _ = _
                      simp only [Act.put, List.setIfInBounds_toArray, List.set_cons_zero, List.set_cons_succ, i64_w, i32_w]
                      rfl
                    refine pure_ (i := 18) (N := some 6) (v := ?_) (a' := ?_) #[true, true, true, true, true, true, true, true, true, true, true, true, true, true, true, true, true, true, true] rfl rfl (any_of HT_.out (by kernel_rfl)) (fun _ _ _ h => h) (Or.inl ⟨by rfl, ?_⟩) ?_ ?_; rotate_left 4
                    rotate_left; iterate 1 (rotate_left; (intro w'; go_simp; with_reducible rfl); rotate_left; (simp only [Act.put, List.setIfInBounds_toArray, List.set_cons_zero, List.set_cons_succ, i64_w, i32_w]; rfl))
                    refine done_ (done_of HT_.out (by kernel_rfl)) ?_
                    try go_wp2
                    go_roundg k1
                    case measure => have := HK1.out; omega
                    case rel => exact ⟨(y200), (wrap64 (x20_1 + 1)), (by first | rfl | (simp; done) | (simp [*]; done)), H', ⟨by have := HK1.out; omega⟩, ⟨by (with_reducible repeat (first | apply Kd.R_alloc | apply Kd.R_drewN | apply Kd.R_drew)); exact HO202.out⟩, ⟨by (with_reducible repeat (first | apply Kd.R_alloc | apply Kd.R_drewN | apply Kd.R_drew)); exact Kd.R_mono HO_7.out (fun _ hk => hk.2)⟩, ⟨by repeat (first | (with_reducible first | exact HB.out | apply below_alloc | apply pw_below_drewN | apply below_drew1 | refine below_set ?_ GE196.out | refine below_set ?_ GE198.out) | exact HB.out)⟩⟩
                 · rw [if_neg c17] at H
                   exact absurd H (by simp)
               · rw [if_neg c15] at H
                 exact absurd H (by simp)
             · rw [if_neg c14] at H
               exact absurd H (by simp)
           · rw [if_neg c13] at H
             exact absurd H (by simp)
         · rw [if_neg c12] at H
           exact absurd H (by simp)
       · rw [if_neg c11] at H
         exact absurd H (by simp)
     · rw [if_neg c10] at H
       have c10b0 : decide (x20_1 < (l1.length : Int)) = false := decide_eq_false c10
       clear c10
       as_aux_lemma =>
        simp only [Option.some.injEq, Prod.mk.injEq] at H
        obtain ⟨rfl, rfl⟩ := H
        go_wp2
        go_ret2
        exact ⟨_, by first | rfl | (simp [errW_none, errW_some] <;> rfl) | (simp [*, errW_none, errW_some] <;> rfl), by (with_reducible repeat (first | apply Kd.R_alloc | apply Kd.R_drewN | apply Kd.R_drew)); exact Kd.R_mono HO_6.out (fun _ hk => trivial), by repeat (first | (with_reducible first | exact HB.out | apply below_alloc | apply pw_below_drewN | apply below_drew1) | exact HB.out)⟩
 · replace c4 := Bool.eq_false_iff.mpr c4
   subst c4
   have H1 : (none) = some (r1, r2) := by rw [if_neg (show ¬ (false = true) by decide)] at H; exact H
   clear H
   have H := H1
   clear H1
   exact absurd H (by simp)

/-! ### impl_MissedOf: function 51 -/
mutual
def impl_MissedOf.j0 : Nat → List (S54) → List (S81) → Int → Bool → Option (List Int × Bool)
 | 0, _, _, _, _ => none
 | k + 1, x0, x1, x2, x23 => if x23 = true then (none) else (impl_MissedOf.l0 k x0 x1 x2 (([] : List Int)) x0 (x0.length : Int) 0)
def impl_MissedOf.l0 : Nat → List (S54) → List (S81) → Int → List Int → List (S54) → Int → Int → Option (List Int × Bool)
 | 0, _, _, _, _, _, _, _ => none
 | k + 1, x0, x1, x2, x8, x25, x26, x27 => if x27 < x26 then (if 0 ≤ x27 then (if x27 < (x25.length : Int) then (if ((rd_T54 x25 x27).f2) = 0 then (none) else (if x8.length < 17592186044416 then (impl_MissedOf.l0 k x0 x1 x2 (x8 ++ [wrap64 (Int.tdiv x2 ((rd_T54 x25 x27).f2))]) x25 x26 (wrap64 (x27 + 1))) else (none))) else (none)) else (none)) else ((impl_jobsOf.f x1).bind fun t213 => (impl_MissedOf.l1 k x0 x1 x2 x8 t213 (t213.length : Int) 0))
def impl_MissedOf.l1 : Nat → List (S54) → List (S81) → Int → List Int → List Int → Int → Int → Option (List Int × Bool)
 | 0, _, _, _, _, _, _, _ => none
 | k + 1, x0, x1, x2, x8, x40, x41, x42 => if x42 < x41 then (if 0 ≤ x42 then (if x42 < (x40.length : Int) then (if x42 < (x1.length : Int) then (if 0 ≤ ((rd_T81 x1 x42).f0) then (if ((rd_T81 x1 x42).f0) < (x0.length : Int) then (if (wrap64 ((wrap64 ((rd x40 x42) + 1)) * ((rd_T54 x0 ((rd_T81 x1 x42).f0)).f2))) ≤ x2 then (if (wrap64 (((rd_T81 x1 x42).f1) + ((rd_T54 x0 ((rd_T81 x1 x42).f0)).f1))) ≤ x2 then (if ((rd_T81 x1 x42).f0) < (x8.length : Int) then (impl_MissedOf.l1 k x0 x1 x2 (x8.set (((rd_T81 x1 x42).f0) : Int).toNat (wrap64 ((rd x8 ((rd_T81 x1 x42).f0)) - 1))) x40 x41 (wrap64 (x42 + 1))) else (none)) else (impl_MissedOf.l1 k x0 x1 x2 x8 x40 x41 (wrap64 (x42 + 1)))) else (impl_MissedOf.l1 k x0 x1 x2 x8 x40 x41 (wrap64 (x42 + 1)))) else (none)) else (none)) else (none)) else (none)) else (none)) else (some (x8, true))
end
def impl_MissedOf.f (k : Nat) (l0 : List (S54)) (l1 : List (S81)) (a2 : Int) : Option (List Int × Bool) := (impl_IsPlan.f k l0 l1).bind fun t203 => (if t203 = true then ((impl_within.f a2 0 100000).bind fun t204 => (impl_MissedOf.j0 k l0 l1 a2 (!t204))) else (none))
theorem impl_MissedOf.mono_l : ∀ k, (∀ y0 y1 y2 y3, LeO (impl_MissedOf.j0 k y0 y1 y2 y3) (impl_MissedOf.j0 (k + 1) y0 y1 y2 y3)) ∧ (∀ y0 y1 y2 y3 y4 y5 y6, LeO (impl_MissedOf.l0 k y0 y1 y2 y3 y4 y5 y6) (impl_MissedOf.l0 (k + 1) y0 y1 y2 y3 y4 y5 y6)) ∧ (∀ y0 y1 y2 y3 y4 y5 y6, LeO (impl_MissedOf.l1 k y0 y1 y2 y3 y4 y5 y6) (impl_MissedOf.l1 (k + 1) y0 y1 y2 y3 y4 y5 y6))
 | 0 => ⟨fun _ _ _ _ r h => by simp [impl_MissedOf.j0] at h, fun _ _ _ _ _ _ _ r h => by simp [impl_MissedOf.l0] at h, fun _ _ _ _ _ _ _ r h => by simp [impl_MissedOf.l1] at h⟩
 | k + 1 => by
  obtain ⟨ih0, ih1, ih2⟩ := impl_MissedOf.mono_l k
  refine ⟨?_, ?_, ?_⟩
  · intro y0 y1 y2 y3
    unfold impl_MissedOf.j0
    repeat' first
    | (with_reducible exact ih0 _ _ _ _)
    | (with_reducible exact ih1 _ _ _ _ _ _ _)
    | (with_reducible exact ih2 _ _ _ _ _ _ _)
    | (with_reducible exact impl_IsPlan.mono _ _ _)
    | (with_reducible exact LeO.refl _)
    | (with_reducible exact LeO.none _)
    | (with_reducible refine LeO.ite ?_ ?_)
    | (with_reducible refine LeO.bind ?_ (fun _ => ?_))
    | exact ih0 _ _ _ _
    | exact ih1 _ _ _ _ _ _ _
    | exact ih2 _ _ _ _ _ _ _
    | exact impl_IsPlan.mono _ _ _
    | exact LeO.none _
    | refine LeO.ite ?_ ?_
    | refine LeO.bind ?_ (fun _ => ?_)
  · intro y0 y1 y2 y3 y4 y5 y6
    unfold impl_MissedOf.l0
    repeat' first
    | (with_reducible exact ih0 _ _ _ _)
    | (with_reducible exact ih1 _ _ _ _ _ _ _)
    | (with_reducible exact ih2 _ _ _ _ _ _ _)
    | (with_reducible exact impl_IsPlan.mono _ _ _)
    | (with_reducible exact LeO.refl _)
    | (with_reducible exact LeO.none _)
    | (with_reducible refine LeO.ite ?_ ?_)
    | (with_reducible refine LeO.bind ?_ (fun _ => ?_))
    | exact ih0 _ _ _ _
    | exact ih1 _ _ _ _ _ _ _
    | exact ih2 _ _ _ _ _ _ _
    | exact impl_IsPlan.mono _ _ _
    | exact LeO.none _
    | refine LeO.ite ?_ ?_
    | refine LeO.bind ?_ (fun _ => ?_)
  · intro y0 y1 y2 y3 y4 y5 y6
    unfold impl_MissedOf.l1
    repeat' first
    | (with_reducible exact ih0 _ _ _ _)
    | (with_reducible exact ih1 _ _ _ _ _ _ _)
    | (with_reducible exact ih2 _ _ _ _ _ _ _)
    | (with_reducible exact impl_IsPlan.mono _ _ _)
    | (with_reducible exact LeO.refl _)
    | (with_reducible exact LeO.none _)
    | (with_reducible refine LeO.ite ?_ ?_)
    | (with_reducible refine LeO.bind ?_ (fun _ => ?_))
    | exact ih0 _ _ _ _
    | exact ih1 _ _ _ _ _ _ _
    | exact ih2 _ _ _ _ _ _ _
    | exact impl_IsPlan.mono _ _ _
    | exact LeO.none _
    | refine LeO.ite ?_ ?_
    | refine LeO.bind ?_ (fun _ => ?_)
theorem impl_MissedOf.mono : ∀ a0 a1 a2 k, LeO (impl_MissedOf.f k a0 a1 a2) (impl_MissedOf.f (k + 1) a0 a1 a2) := by
 intro a0 a1 a2 k
 obtain ⟨ih0, ih1, ih2⟩ := impl_MissedOf.mono_l k
 unfold impl_MissedOf.f
 repeat' first
  | (with_reducible exact ih0 _ _ _ _)
  | (with_reducible exact ih1 _ _ _ _ _ _ _)
  | (with_reducible exact ih2 _ _ _ _ _ _ _)
  | (with_reducible exact impl_IsPlan.mono _ _ _)
  | (with_reducible exact LeO.refl _)
  | (with_reducible exact LeO.none _)
  | (with_reducible refine LeO.ite ?_ ?_)
  | (with_reducible refine LeO.bind ?_ (fun _ => ?_))
  | exact ih0 _ _ _ _
  | exact ih1 _ _ _ _ _ _ _
  | exact ih2 _ _ _ _ _ _ _
  | exact impl_IsPlan.mono _ _ _
  | exact LeO.none _
  | refine LeO.ite ?_ ?_
  | refine LeO.bind ?_ (fun _ => ?_)
set_option maxHeartbeats 8000000 in
set_option maxRecDepth 100000 in
theorem impl_MissedOf.calls (k : Nat) (A0 : Option Addr) (c0 : Nat) (l0 : List (S54)) (A1 : Option Addr) (c1 : Nat) (l1 : List (S81)) (a2 : Int) (r1 : List Int) (r2 : Bool) (w : World) (hr0 : Kd.C k54 w A0 l0.length l0) (hc0 : l0.length ≤ c0) (hr1 : Kd.C k81 w A1 l1.length l1) (hc1 : l1.length ≤ c1) (h : impl_MissedOf.f k l0 l1 a2 = some (r1, r2)) :
 Calls Try.prog 51 #[.slice A0 l0.length c0, .slice A1 l1.length c1, .int .i64 a2] w fun e w' => ∃ v0_ : Value, e = .returned (.tuple #[v0_, .bool r2]) ∧ Kd.R (Kd.int .i64) 2 w' w.heap.size (fun _ => True) v0_ r1 ∧ Below w.heap.size w w' := by
 have hu54 := Try.underlying54
 have hu81 := Try.underlying81
 have HR0 := Aside0.mk hr0
 have HC0 := Aside0.mk hc0
 clear hr0 hc0
 have HR1 := Aside0.mk hr1
 have HC1 := Aside0.mk hc1
 clear hr1 hc1
 have HB := Aside0.mk (Below.refl w.heap.size w)
 have H : ((impl_IsPlan.f k l0 l1).bind fun t203 => (if t203 = true then ((impl_within.f a2 0 100000).bind fun t204 => (impl_MissedOf.j0 k l0 l1 a2 (!t204))) else (none))) = some (r1, r2) := h
 clear h
 have HC4 := Aside0.mk H
 clear H
 go_enter Try.func51, Try.ntmps51
 go_upto_region 1 with (fail)
 go_cut [23] (fun v23 wc => ∃ (kq : Nat) (x23_3 : Bool), v23 = .bool x23_3 ∧ Aside0 (impl_MissedOf.j0 kq l0 l1 a2 x23_3 = some (r1, r2)) ∧ Aside0 (kq ≤ k) ∧ Aside0 (Below w.heap.size w wc))
 case first =>
  have H := HC4.out
  clear HC4
  replace H := Option.bind_eq_some_iff.mp H
  obtain ⟨t203, A50, H⟩ := H
  replace H : (if t203 = true then ((impl_within.f a2 0 100000).bind fun t204 => (impl_MissedOf.j0 k l0 l1 a2 (!t204))) else (none)) = some (r1, r2) := H
  have A5 := Aside0.mk A50
  clear A50
  by_cases c6 : t203 = true
  · subst c6
    have H1 : ((impl_within.f a2 0 100000).bind fun t204 => (impl_MissedOf.j0 k l0 l1 a2 (!t204))) = some (r1, r2) := by rw [if_pos rfl] at H; exact H
    clear H
    have H := H1
    clear H1
    replace H := Option.bind_eq_some_iff.mp H
    obtain ⟨t204, A70, H⟩ := H
    replace H : (impl_MissedOf.j0 k l0 l1 a2 (!t204)) = some (r1, r2) := H
    have A7 := Aside0.mk A70
    clear A70
    as_aux_lemma =>
     have H' := Aside0.mk H
     clear H
     go_wp2_with (first | ((with_reducible refine gate_callee (f := 41) rfl ?_); refine goesL_ (some 17) rfl rfl Try.func41 (by kernel_rfl) rfl #[.slice A0 l0.length c0, .slice A1 l1.length c1] rfl (by (try simp only [List.map_toArray, List.map_cons, List.map_nil]); first | done | rfl | (simp only [List.length_drop, List.length_take]; rfl)) ?_; (with_reducible refine (impl_IsPlan.calls k _ _ l0 _ _ l1 true _ ?side1 ?side2 ?side3 ?side4 A5.out).mono ?_); (case side1 => repeat (first | exact (Kd.C_below HR0.out HB.out) | (with_reducible refine Kd.C_alloc ?_ _) | (with_reducible refine Kd.C_drewN ?_ _) | (with_reducible refine Kd.C_drew ?_))); (case side2 => exact HC0.out); (case side3 => repeat (first | exact (Kd.C_below HR1.out HB.out) | (with_reducible refine Kd.C_alloc ?_ _) | (with_reducible refine Kd.C_drewN ?_ _) | (with_reducible refine Kd.C_drew ?_))); (case side4 => exact HC1.out); rintro e w8 ⟨rfl, hb⟩; refine ⟨_, rfl, ?_⟩; have n0_ := Aside0.mk (below_step (by repeat (first | (with_reducible first | exact HB.out | apply below_alloc | apply pw_below_drewN | apply below_drew1) | exact HB.out)) hb); clear HB; have HB := n0_; clear n0_; (try clear hb); (try clear hb2); (try clear hk); (try clear hi)) | (go_at_call 59; (with_reducible refine (impl_within.calls a2 0 100000 t204 _ A7.out).mono ?_); rintro e w' ⟨rfl, ⟨nd, rfl⟩⟩))
     go_meet
     case rel => exact ⟨_, (!t204), (by first | rfl | (simp; done) | (simp [*]; done)), H', ⟨by first | omega | exact Nat.le_refl _⟩, ⟨by repeat (first | (with_reducible first | exact HB.out | apply below_alloc | apply pw_below_drewN | apply below_drew1) | exact HB.out)⟩⟩
  · replace c6 := Bool.eq_false_iff.mpr c6
    subst c6
    have H1 : (none) = some (r1, r2) := by rw [if_neg (show ¬ (false = true) by decide)] at H; exact H
    clear H
    have H := H1
    clear H1
    exact absurd H (by simp)
 case rest =>
  clear HC4
  (try clear c1); (try clear p2); (try clear c4); (try clear c5); (try clear c6)
  obtain ⟨kq, x23_3, rfl, HA, HJ3, HB⟩ := hcut
  cases kq with
  | zero => exact absurd HA.out (by simp [impl_MissedOf.j0])
  | succ kj3 =>
   have H := HA.out
   clear HA
   simp only [impl_MissedOf.j0] at H
   by_cases c9 : x23_3 = true
   · subst c9
     have H1 : (none) = some (r1, r2) := by rw [if_pos rfl] at H; exact H
     clear H
     have H := H1
     clear H1
     exact absurd H (by simp)
   · replace c9 := Bool.eq_false_iff.mpr c9
     subst c9
     have H1 : (impl_MissedOf.l0 kj3 l0 l1 a2 (([] : List Int)) l0 (l0.length : Int) 0) = some (r1, r2) := by rw [if_neg (show ¬ (false = true) by decide)] at H; exact H
     clear H
     have H := H1
     clear H1
     obtain ⟨y205, hy205⟩ : ∃ y_ : List Int, y_ = (([] : List Int)) := ⟨_, rfl⟩
     replace H : (impl_MissedOf.l0 kj3 l0 l1 a2 y205 l0 (l0.length : Int) 0) = some (r1, r2) := by first | (rw [hy205]; with_reducible exact H) | (have H2_ := (Option.bind_some _ _).symm.trans H; rw [hy205]; with_reducible exact H2_) | (have H2_ := (Option.bind_some _ _).symm.trans H; with_reducible exact H2_) | with_reducible exact H | (rw [hy205]; exact H) | exact H
     have Ny205 := Aside0.mk hy205
     clear hy205
     have H' := Aside0.mk H
     clear H
     go_wp2_with (first | ((with_reducible refine gate_dst (N := 24) rfl ?_); refine Kd.R_lit (Kd.int .i64) _ 2 ?hg (N := 24) ?hd (xs := ([] : List Int)) (inner := []) (ok := fun _ => True) (okp := fun _ => True) ?hr ?hp (fun _ hk => hk) trivial (Below.refl _ _) (Nat.le_refl _) (by simp) ?_; (case hd => rfl); (case hg => rfl); (case hr => first | (go_simp; done) | (go_simp; rfl)); (case hp => exact (Reps.none _ _)); intro v206 w10 ho11 hb hg_ hnew_; clear hg_ hnew_; (first | rw [← Ny205.out] at ho11 | (simp only [Int.reduceToNat] at ho11; rw [← Ny205.out] at ho11)); have n0_ := Aside0.mk (Kd.R_lower ho11 (below_size (by repeat (first | (with_reducible first | exact HB.out | apply below_alloc | apply pw_below_drewN | apply below_drew1) | exact HB.out)))); have n1_ := Aside0.mk (below_step (by repeat (first | (with_reducible first | exact HB.out | apply below_alloc | apply pw_below_drewN | apply below_drew1) | exact HB.out)) hb); clear HB; have HO207 := n0_; have HB := n1_; clear n0_ n1_; clear hb ho11))
     go_loopg [8, 27] kj3 (fun kq v8 v27 w' => ∃ (x8_2 : List Int) (x27_2 : Int), v27 = .int .i64 x27_2 ∧ Aside0 (impl_MissedOf.l0 kq l0 l1 a2 x8_2 l0 (l0.length : Int) x27_2 = some (r1, r2)) ∧ Aside0 (kq ≤ kj3) ∧ Aside0 (Kd.R (Kd.int .i64) 2 w' w.heap.size (fun _ => True) v8 x8_2) ∧ Aside0 (Below w.heap.size w w'))
     case atStart => exact ⟨(y205), (0), (by first | rfl | (simp; done) | (simp [*]; done)), H', ⟨Nat.le_refl _⟩, ⟨by (with_reducible repeat (first | apply Kd.R_alloc | apply Kd.R_drewN | apply Kd.R_drew)); exact HO207.out⟩, ⟨by repeat (first | (with_reducible first | exact HB.out | apply below_alloc | apply pw_below_drewN | apply below_drew1) | exact HB.out)⟩⟩
     case round =>
      clear H'
      (try clear c1); (try clear p2); (try clear c4); (try clear c5); (try clear c6); (try clear c9); (try clear p2)
      obtain ⟨x8_2, x27_2, rfl, HA, HK2, HO_8, HB⟩ := hrel
      cases gk with
      | zero => exact absurd HA.out (by simp [impl_MissedOf.l0])
      | succ k2 =>
       have H := HA.out
       clear HA
       simp only [impl_MissedOf.l0] at H
       by_cases c12 : x27_2 < (l0.length : Int)
       · rw [if_pos c12] at H
         have c12b0 : decide (x27_2 < (l0.length : Int)) = true := decide_eq_true c12
         clear c12
         by_cases c13 : 0 ≤ x27_2
         · rw [if_pos c13] at H
           have c13b0 : decide (0 ≤ x27_2) = true := decide_eq_true c13
           clear c13
           by_cases c14 : x27_2 < (l0.length : Int)
           · rw [if_pos c14] at H
             have c14b0 : decide (x27_2 < (l0.length : Int)) = true := decide_eq_true c14
             clear c14
             by_cases c15 : ((rd_T54 l0 x27_2).f2) = 0
             · rw [if_pos c15] at H
               exact absurd H (by simp)
             · rw [if_neg c15] at H
               have c15b0 : (((rd_T54 l0 x27_2).f2) == 0) = false := beq_eq_false_iff_ne.mpr c15
               have c15b1 : (((rd_T54 l0 x27_2).f2) != 0) = true := bne_iff_ne.mpr c15
               by_cases c16 : x8_2.length < 17592186044416
               · rw [if_pos c16] at H
                 have LMc16 := Aside0.mk c16
                 clear c16
                 obtain ⟨y210, hy210⟩ : ∃ y_ : List Int, y_ = (x8_2 ++ [wrap64 (Int.tdiv a2 ((rd_T54 l0 x27_2).f2))]) := ⟨_, rfl⟩
                 replace H : (impl_MissedOf.l0 k2 l0 l1 a2 y210 l0 (l0.length : Int) (wrap64 (x27_2 + 1))) = some (r1, r2) := by first | (rw [hy210]; with_reducible exact H) | (have H2_ := (Option.bind_some _ _).symm.trans H; rw [hy210]; with_reducible exact H2_) | (have H2_ := (Option.bind_some _ _).symm.trans H; with_reducible exact H2_) | with_reducible exact H | (rw [hy210]; exact H) | exact H
                 have Ny210 := Aside0.mk hy210
                 clear hy210
                 as_aux_lemma =>
                  have H' := Aside0.mk H
                  clear H
                  have p208 : 0 ≤ (x27_2 : Int) := of_decide_eq_true (by first | (with_reducible assumption) | assumption)
                  have q208 : x27_2 < (l0.length : Int) := of_decide_eq_true (by first | (with_reducible assumption) | assumption)
                  obtain ⟨ad208, e208, hx208_0, hx208_1, hx208_2, hx208_3⟩ := at_T54 HR0.out x27_2 p208 q208
                  cases e208
                  replace hx208_0 := (HB.out.cell (World.block_lt_of_cell? w _ hx208_0)).trans hx208_0
                  replace hx208_1 := (HB.out.cell (World.block_lt_of_cell? w _ hx208_1)).trans hx208_1
                  replace hx208_2 := (HB.out.cell (World.block_lt_of_cell? w _ hx208_2)).trans hx208_2
                  replace hx208_3 := (HB.out.cell (World.block_lt_of_cell? w _ hx208_3)).trans hx208_3
                  replace p208 := eq_true p208
                  replace q208 := eq_true q208
                  go_wp2_with (first | ((with_reducible refine gate_dst (N := 10) rfl ?_); refine box_event ?hg (N := 10) ?hd (cs := #[.int .i64 0, .int .i64 0, .int .i64 0, .int .i64 0]) (t := 54) ?hr ?_; (case hd => rfl); (case hg => rfl); (case hr => first | (go_simp; done) | (go_simp; rfl)); intro gb209 hg w17 hbox hb; have n0_ := Aside0.mk (Kd.R_below (by (with_reducible repeat (first | apply Kd.R_alloc | apply Kd.R_drewN | apply Kd.R_drew)); exact HO_8.out) hb); have n1_ := Aside0.mk (below_step (by repeat (first | (with_reducible first | exact HB.out | apply below_alloc | apply pw_below_drewN | apply below_drew1) | exact HB.out)) hb); have n2_ := Aside0.mk (hbox); have n3_ := Aside0.mk ((by rw [hg]; exact (below_size (by repeat (first | (with_reducible first | exact HB.out | apply below_alloc | apply pw_below_drewN | apply below_drew1) | exact HB.out))) : w.heap.size ≤ gb209)); have n4_ := Aside0.mk ((by rw [hg]; exact (below_size (by repeat (first | (with_reducible first | exact HB.out | apply below_alloc | apply pw_below_drewN | apply below_drew1) | exact HB.out))) : w.heap.size ≤ gb209)); clear HO_8; clear HB; have HO_8 := n0_; have HB := n1_; have BK209 := n2_; have GW209 := n3_; have GE209 := n4_; clear n0_ n1_ n2_ n3_ n4_; clear hb hbox hg; have hcz18_0 : w17.cell? ⟨gb209, 0, none⟩ = some (.int .i64 0) := (blk_cell BK209.out 0).trans rfl; have hcz18_1 : w17.cell? ⟨gb209, 1, none⟩ = some (.int .i64 0) := (blk_cell BK209.out 1).trans rfl; have hcz18_2 : w17.cell? ⟨gb209, 2, none⟩ = some (.int .i64 0) := (blk_cell BK209.out 2).trans rfl; have hcz18_3 : w17.cell? ⟨gb209, 3, none⟩ = some (.int .i64 0) := (blk_cell BK209.out 3).trans rfl; have hfz18_0 := blk_frozen BK209.out 0; have hfz18_1 := blk_frozen BK209.out 1; have hfz18_2 := blk_frozen BK209.out 2; have hfz18_3 := blk_frozen BK209.out 3) | ((with_reducible refine gate_builtin (b := .append) (xs := #[.tmp 31, .tmp 36]) rfl ?_); at_builtin; refine Kd.R_append (Kd.int .i64) (w0 := w) w.heap.size rfl (.tmp 31) (.tmp 36) 41 2 (.int .i64 0) 8 rfl Try.underlying41 info2 rfl (by decide) (by omega) u8 x8_2 (wrap64 (Int.tdiv a2 ((rd_T54 l0 x27_2).f2))) [.int .i64 (wrap64 (Int.tdiv a2 ((rd_T54 l0 x27_2).f2)))] (fun _ => True) (fun _ => False) rfl (by first | (go_simp; done) | (go_simp; rfl)) ?aP (fun _ hk => hk.elim) ?aF ?aO ?aB ?aS ?aL ?_; (case aP => exact rfl); (case aB => exact (by repeat (first | (with_reducible first | exact HB.out | apply below_alloc | apply pw_below_drewN | apply below_drew1 | refine below_set ?_ GE209.out) | exact HB.out))); (case aF => exact (fun _ _ => trivial)); (case aO => exact (by (with_reducible repeat (first | apply Kd.R_alloc | apply Kd.R_drewN | apply Kd.R_drew)); exact Kd.R_mono (Kd.R_far (p := ⟨gb209, 3, none⟩) (Kd.R_far (p := ⟨gb209, 2, none⟩) (Kd.R_far (p := ⟨gb209, 1, none⟩) (Kd.R_far (p := ⟨gb209, 0, none⟩) (Kd.R_types HO_8.out BK209.out (by decide)) (fun _ hk => hk.2) (.int .i64 ((rd_T54 l0 x27_2).f0.f0))) (fun _ hk => hk.2) (.int .i64 ((rd_T54 l0 x27_2).f0.f1))) (fun _ hk => hk.2) (.int .i64 ((rd_T54 l0 x27_2).f1))) (fun _ hk => hk.2) (.int .i64 ((rd_T54 l0 x27_2).f2))) (fun _ hk => trivial))); (case aS => exact (below_size (by repeat (first | (with_reducible first | exact HB.out | apply below_alloc | apply pw_below_drewN | apply below_drew1 | refine below_set ?_ GE209.out) | exact HB.out)))); (case aL => have := LMc16.out; omega); intro v211 w19 ho hb hg hat; rw [← Ny210.out] at ho; have n0_ := Aside0.mk (blk_grown (g := gb209) (o := .cells #[.int .i64 ((rd_T54 l0 x27_2).f0.f0), .int .i64 ((rd_T54 l0 x27_2).f0.f1), .int .i64 ((rd_T54 l0 x27_2).f1), .int .i64 ((rd_T54 l0 x27_2).f2)] 54 (0, 0)) (by (with_reducible repeat (first | refine blk_drewN ?_ _ | refine blk_drew ?_ | refine blk_alloc ?_ _)); refine blk_put (cs := #[.int .i64 ((rd_T54 l0 x27_2).f0.f0), .int .i64 ((rd_T54 l0 x27_2).f0.f1), .int .i64 ((rd_T54 l0 x27_2).f1), .int .i64 0]) ?_ 3 _ rfl; (with_reducible repeat (first | refine blk_drewN ?_ _ | refine blk_drew ?_ | refine blk_alloc ?_ _)); refine blk_put (cs := #[.int .i64 ((rd_T54 l0 x27_2).f0.f0), .int .i64 ((rd_T54 l0 x27_2).f0.f1), .int .i64 0, .int .i64 0]) ?_ 2 _ rfl; (with_reducible repeat (first | refine blk_drewN ?_ _ | refine blk_drew ?_ | refine blk_alloc ?_ _)); refine blk_put (cs := #[.int .i64 ((rd_T54 l0 x27_2).f0.f0), .int .i64 0, .int .i64 0, .int .i64 0]) ?_ 1 _ rfl; (with_reducible repeat (first | refine blk_drewN ?_ _ | refine blk_drew ?_ | refine blk_alloc ?_ _)); refine blk_put (cs := #[.int .i64 0, .int .i64 0, .int .i64 0, .int .i64 0]) ?_ 0 _ rfl; (with_reducible repeat (first | refine blk_drewN ?_ _ | refine blk_drew ?_ | refine blk_alloc ?_ _)); exact BK209.out) hg (Kd.R_ne HO_8.out BK209.out (by decide))); have n1_ := Aside0.mk (hb); have n2_ := Aside0.mk (ho); clear BK209; clear HB; clear HO_8; have BK209 := n0_; have HB := n1_; have HO212 := n2_; clear n0_ n1_ n2_; clear ho hb hg hat))
                  go_roundg k2
                  case measure => have := HJ3.out; have := HK2.out; omega
                  case rel => exact ⟨(y210), (wrap64 (x27_2 + 1)), (by first | rfl | (simp; done) | (simp [*]; done)), H', ⟨by have := HJ3.out; have := HK2.out; omega⟩, ⟨by (with_reducible repeat (first | apply Kd.R_alloc | apply Kd.R_drewN | apply Kd.R_drew)); exact HO212.out⟩, ⟨by repeat (first | (with_reducible first | exact HB.out | apply below_alloc | apply pw_below_drewN | apply below_drew1 | refine below_set ?_ GE209.out) | exact HB.out)⟩⟩
               · rw [if_neg c16] at H
                 exact absurd H (by simp)
           · rw [if_neg c14] at H
             exact absurd H (by simp)
         · rw [if_neg c13] at H
           exact absurd H (by simp)
       · rw [if_neg c12] at H
         have c12b0 : decide (x27_2 < (l0.length : Int)) = false := decide_eq_false c12
         clear c12
         replace H := Option.bind_eq_some_iff.mp H
         obtain ⟨t213, A200, H⟩ := H
         replace H : (impl_MissedOf.l1 k2 l0 l1 a2 x8_2 t213 (t213.length : Int) 0) = some (r1, r2) := H
         have A20 := Aside0.mk A200
         clear A200
         have H' := Aside0.mk H
         clear H
         go_wp2_with (first | ((with_reducible refine gate_callee (f := 84) rfl ?_); refine goesL_ (some 40) rfl rfl Try.func84 (by kernel_rfl) rfl #[.slice A1 l1.length c1] rfl (by (try simp only [List.map_toArray, List.map_cons, List.map_nil]); first | done | rfl | (simp only [List.length_drop, List.length_take]; rfl)) ?_; (with_reducible refine (impl_jobsOf.calls _ _ l1 t213 _ ?side1 ?side2 A20.out).mono ?_); (case side1 => repeat (first | exact (Kd.C_below HR1.out HB.out) | (with_reducible refine Kd.C_alloc ?_ _) | (with_reducible refine Kd.C_drewN ?_ _) | (with_reducible refine Kd.C_drew ?_))); (case side2 => exact HC1.out); rintro e w21 ⟨v214, rfl, ho0, hb⟩; refine ⟨_, rfl, ?_⟩; have n0_ := Aside0.mk (Kd.R_elder' (by (with_reducible repeat (first | apply Kd.R_alloc | apply Kd.R_drewN | apply Kd.R_drew)); exact HO_8.out) (Kd.R_base ho0) hb); have n1_ := Aside0.mk (Kd.R_lower (Kd.R_new' ho0 (Kd.R_lt (by (with_reducible repeat (first | apply Kd.R_alloc | apply Kd.R_drewN | apply Kd.R_drew)); exact HO_8.out))) (below_size (by repeat (first | (with_reducible first | exact HB.out | apply below_alloc | apply pw_below_drewN | apply below_drew1) | exact HB.out)))); have n2_ := Aside0.mk (below_step (by repeat (first | (with_reducible first | exact HB.out | apply below_alloc | apply pw_below_drewN | apply below_drew1) | exact HB.out)) hb); clear HO_8; clear HB; have HO_8 := n0_; have HO215 := n1_; have HB := n2_; clear n0_ n1_ n2_; (try clear hb); (try clear hb2); (try clear hk); (try clear hi); (try clear ho0); obtain ⟨Ao22, co22, eo22⟩ := Kd.R_slice HO215.out; subst eo22))
         go_loopg [42] k2 (fun kq v42 w' => ∃ (x8_3 : List Int) (x42_3 : Int), v42 = .int .i64 x42_3 ∧ Aside0 (impl_MissedOf.l1 kq l0 l1 a2 x8_3 t213 (t213.length : Int) x42_3 = some (r1, r2)) ∧ Aside0 (kq ≤ k2) ∧ Aside0 (Kd.R (Kd.int .i64) 2 w' w.heap.size (fun k_ => some k_ ≠ ((.slice Ao22 t213.length co22) : Value).ownBlock) u8 x8_3) ∧ Aside0 (Kd.R (Kd.int .i64) 2 w' w.heap.size (fun k_ => some k_ ≠ (u8 : Value).ownBlock) (.slice Ao22 t213.length co22) t213) ∧ Aside0 (Below w.heap.size w w'))
         case atStart => exact ⟨(x8_2), (0), (by first | rfl | (simp; done) | (simp [*]; done)), H', ⟨Nat.le_refl _⟩, ⟨by (with_reducible repeat (first | apply Kd.R_alloc | apply Kd.R_drewN | apply Kd.R_drew)); exact Kd.R_mono HO_8.out (fun _ hk => hk.2)⟩, ⟨by (with_reducible repeat (first | apply Kd.R_alloc | apply Kd.R_drewN | apply Kd.R_drew)); exact Kd.R_mono HO215.out (fun _ hk => hk.2)⟩, ⟨by repeat (first | (with_reducible first | exact HB.out | apply below_alloc | apply pw_below_drewN | apply below_drew1) | exact HB.out)⟩⟩
         case round =>
          clear H'
          (try clear c1); (try clear p2); (try clear q2); (try clear hx2); (try clear c4); (try clear c5); (try clear c6); (try clear p6); (try clear c8); (try clear c9); (try clear c12); (try clear c12b0); (try clear c13); (try clear c13b0); (try clear c14); (try clear c14b0); (try clear c15); (try clear c15b0); (try clear c15b1); (try clear c16); (try clear p20); (try clear q20); (try clear hx20); (try clear hcz18_0); (try clear hcz18_1); (try clear hcz18_2); (try clear hcz18_3); (try clear hfz18_0); (try clear hfz18_1); (try clear hfz18_2); (try clear hfz18_3); (try clear hx208_0); (try clear hx208_1); (try clear hx208_2); (try clear hx208_3); (try clear p2); (try clear p208); (try clear q208)
          obtain ⟨x8_3, x42_3, rfl, HA, HK3, HO_8, HO_40, HB⟩ := hrel
          cases gk with
          | zero => exact absurd HA.out (by simp [impl_MissedOf.l1])
          | succ k3 =>
           have H := HA.out
           clear HA
           simp only [impl_MissedOf.l1] at H
           by_cases c23 : x42_3 < (t213.length : Int)
           · rw [if_pos c23] at H
             have c23b0 : decide (x42_3 < (t213.length : Int)) = true := decide_eq_true c23
             clear c23
             by_cases c24 : 0 ≤ x42_3
             · rw [if_pos c24] at H
               have c24b0 : decide (0 ≤ x42_3) = true := decide_eq_true c24
               clear c24
               by_cases c25 : x42_3 < (t213.length : Int)
               · rw [if_pos c25] at H
                 have c25b0 : decide (x42_3 < (t213.length : Int)) = true := decide_eq_true c25
                 clear c25
                 by_cases c26 : x42_3 < (l1.length : Int)
                 · rw [if_pos c26] at H
                   have c26b0 : decide (x42_3 < (l1.length : Int)) = true := decide_eq_true c26
                   clear c26
                   by_cases c27 : 0 ≤ ((rd_T81 l1 x42_3).f0)
                   · rw [if_pos c27] at H
                     have c27b0 : decide (0 ≤ ((rd_T81 l1 x42_3).f0)) = true := decide_eq_true c27
                     clear c27
                     by_cases c28 : ((rd_T81 l1 x42_3).f0) < (l0.length : Int)
                     · rw [if_pos c28] at H
                       have c28b0 : decide (((rd_T81 l1 x42_3).f0) < (l0.length : Int)) = true := decide_eq_true c28
                       clear c28
                       by_cases c29 : (wrap64 ((wrap64 ((rd t213 x42_3) + 1)) * ((rd_T54 l0 ((rd_T81 l1 x42_3).f0)).f2))) ≤ a2
                       · rw [if_pos c29] at H
                         have c29b0 : decide ((wrap64 ((wrap64 ((rd t213 x42_3) + 1)) * ((rd_T54 l0 ((rd_T81 l1 x42_3).f0)).f2))) ≤ a2) = true := decide_eq_true c29
                         clear c29
                         by_cases c30 : (wrap64 (((rd_T81 l1 x42_3).f1) + ((rd_T54 l0 ((rd_T81 l1 x42_3).f0)).f1))) ≤ a2
                         · rw [if_pos c30] at H
                           have c30b0 : decide ((wrap64 (((rd_T81 l1 x42_3).f1) + ((rd_T54 l0 ((rd_T81 l1 x42_3).f0)).f1))) ≤ a2) = true := decide_eq_true c30
                           clear c30
                           by_cases c31 : ((rd_T81 l1 x42_3).f0) < (x8_3.length : Int)
                           · rw [if_pos c31] at H
                             have c31b0 : decide (((rd_T81 l1 x42_3).f0) < (x8_3.length : Int)) = true := decide_eq_true c31
                             clear c31
                             obtain ⟨y222, hy222⟩ : ∃ y_ : List Int, y_ = (x8_3.set (((rd_T81 l1 x42_3).f0) : Int).toNat (wrap64 ((rd x8_3 ((rd_T81 l1 x42_3).f0)) - 1))) := ⟨_, rfl⟩
                             replace H : (impl_MissedOf.l1 k3 l0 l1 a2 y222 t213 (t213.length : Int) (wrap64 (x42_3 + 1))) = some (r1, r2) := by first | (rw [hy222]; with_reducible exact H) | (have H2_ := (Option.bind_some _ _).symm.trans H; rw [hy222]; with_reducible exact H2_) | (have H2_ := (Option.bind_some _ _).symm.trans H; with_reducible exact H2_) | with_reducible exact H | (rw [hy222]; exact H) | exact H
                             have Ny222 := Aside0.mk hy222
                             clear hy222
                             as_aux_lemma =>
                              have H' := Aside0.mk H
                              clear H
                              have p216 : 0 ≤ (x42_3 : Int) := of_decide_eq_true (by first | (with_reducible assumption) | assumption)
                              have q216 : x42_3 < (t213.length : Int) := of_decide_eq_true (by first | (with_reducible assumption) | assumption)
                              obtain ⟨ad216, e216, hx216_0⟩ := Kd.at_int (Kd.R_reads' HO_40.out).2.2 x42_3 p216 q216
                              cases e216
                              replace p216 := eq_true p216
                              replace q216 := eq_true q216
                              have p217 : 0 ≤ (x42_3 : Int) := of_decide_eq_true (by first | (with_reducible assumption) | assumption)
                              have q217 : x42_3 < (l1.length : Int) := of_decide_eq_true (by first | (with_reducible assumption) | assumption)
                              obtain ⟨ad217, e217, hx217_0, hx217_1⟩ := at_T81 HR1.out x42_3 p217 q217
                              cases e217
                              replace hx217_0 := (HB.out.cell (World.block_lt_of_cell? w _ hx217_0)).trans hx217_0
                              replace hx217_1 := (HB.out.cell (World.block_lt_of_cell? w _ hx217_1)).trans hx217_1
                              replace p217 := eq_true p217
                              replace q217 := eq_true q217
                              go_wp2_with (first | ((with_reducible refine gate_dst (N := 13) rfl ?_); refine box_event ?hg (N := 13) ?hd (cs := #[.int .i64 0, .int .i64 0]) (t := 81) ?hr ?_; (case hd => rfl); (case hg => rfl); (case hr => first | (go_simp; done) | (go_simp; rfl)); intro gb218 hg w33 hbox hb; have n0_ := Aside0.mk (Kd.R_below (by (with_reducible repeat (first | apply Kd.R_alloc | apply Kd.R_drewN | apply Kd.R_drew)); exact HO_8.out) hb); have n1_ := Aside0.mk (Kd.R_below (by (with_reducible repeat (first | apply Kd.R_alloc | apply Kd.R_drewN | apply Kd.R_drew)); exact HO_40.out) hb); have n2_ := Aside0.mk (below_step (by repeat (first | (with_reducible first | exact HB.out | apply below_alloc | apply pw_below_drewN | apply below_drew1) | exact HB.out)) hb); have n3_ := Aside0.mk (hbox); have n4_ := Aside0.mk ((by rw [hg]; exact (below_size (by repeat (first | (with_reducible first | exact HB.out | apply below_alloc | apply pw_below_drewN | apply below_drew1) | exact HB.out))) : w.heap.size ≤ gb218)); have n5_ := Aside0.mk ((by rw [hg]; exact (below_size (by repeat (first | (with_reducible first | exact HB.out | apply below_alloc | apply pw_below_drewN | apply below_drew1) | exact HB.out))) : w.heap.size ≤ gb218)); clear HO_8; clear HO_40; clear HB; have HO_8 := n0_; have HO_40 := n1_; have HB := n2_; have BK218 := n3_; have GW218 := n4_; have GE218 := n5_; clear n0_ n1_ n2_ n3_ n4_ n5_; clear hb hbox hg; have hcz34_0 : w33.cell? ⟨gb218, 0, none⟩ = some (.int .i64 0) := (blk_cell BK218.out 0).trans rfl; have hcz34_1 : w33.cell? ⟨gb218, 1, none⟩ = some (.int .i64 0) := (blk_cell BK218.out 1).trans rfl; have hfz34_0 := blk_frozen BK218.out 0; have hfz34_1 := blk_frozen BK218.out 1; have p219 : 0 ≤ (((rd_T81 l1 x42_3).f0) : Int) := of_decide_eq_true (by first | (with_reducible assumption) | assumption); have q219 : ((rd_T81 l1 x42_3).f0) < (l0.length : Int) := of_decide_eq_true (by first | (with_reducible assumption) | assumption); obtain ⟨ad219, e219, hx219_0, hx219_1, hx219_2, hx219_3⟩ := at_T54 HR0.out ((rd_T81 l1 x42_3).f0) p219 q219; cases e219; have hn219_0 : ad219.block ≠ gb218 := Nat.ne_of_lt (Nat.lt_of_lt_of_le (by have := World.block_lt_of_cell? _ _ hx219_0; first | rwa [add_block] at this | exact this) GW218.out); have hn219_1 : ad219.block ≠ gb218 := Nat.ne_of_lt (Nat.lt_of_lt_of_le (by have := World.block_lt_of_cell? _ _ hx219_0; first | rwa [add_block] at this | exact this) GW218.out); replace hx219_0 := (HB.out.cell (World.block_lt_of_cell? w _ hx219_0)).trans hx219_0; replace hx219_1 := (HB.out.cell (World.block_lt_of_cell? w _ hx219_1)).trans hx219_1; replace hx219_2 := (HB.out.cell (World.block_lt_of_cell? w _ hx219_2)).trans hx219_2; replace hx219_3 := (HB.out.cell (World.block_lt_of_cell? w _ hx219_3)).trans hx219_3; replace hx219_0 := (cell_far (p := ⟨gb218, 0, none⟩) (by first | (rw [add_block]; exact hn219_0) | (show (Addr.add _ _).block ≠ _; rw [add_block]; exact hn219_0) | exact hn219_0) (.int .i64 ((rd_T81 l1 x42_3).f0))).trans hx219_0; replace hx219_1 := (cell_far (p := ⟨gb218, 0, none⟩) (by first | (rw [add_block]; exact hn219_0) | (show (Addr.add _ _).block ≠ _; rw [add_block]; exact hn219_0) | exact hn219_0) (.int .i64 ((rd_T81 l1 x42_3).f0))).trans hx219_1; replace hx219_2 := (cell_far (p := ⟨gb218, 0, none⟩) (by first | (rw [add_block]; exact hn219_0) | (show (Addr.add _ _).block ≠ _; rw [add_block]; exact hn219_0) | exact hn219_0) (.int .i64 ((rd_T81 l1 x42_3).f0))).trans hx219_2; replace hx219_3 := (cell_far (p := ⟨gb218, 0, none⟩) (by first | (rw [add_block]; exact hn219_0) | (show (Addr.add _ _).block ≠ _; rw [add_block]; exact hn219_0) | exact hn219_0) (.int .i64 ((rd_T81 l1 x42_3).f0))).trans hx219_3; replace hx219_0 := (cell_far (p := ⟨gb218, 1, none⟩) (by first | (rw [add_block]; exact hn219_1) | (show (Addr.add _ _).block ≠ _; rw [add_block]; exact hn219_1) | exact hn219_1) (.int .i64 ((rd_T81 l1 x42_3).f1))).trans hx219_0; replace hx219_1 := (cell_far (p := ⟨gb218, 1, none⟩) (by first | (rw [add_block]; exact hn219_1) | (show (Addr.add _ _).block ≠ _; rw [add_block]; exact hn219_1) | exact hn219_1) (.int .i64 ((rd_T81 l1 x42_3).f1))).trans hx219_1; replace hx219_2 := (cell_far (p := ⟨gb218, 1, none⟩) (by first | (rw [add_block]; exact hn219_1) | (show (Addr.add _ _).block ≠ _; rw [add_block]; exact hn219_1) | exact hn219_1) (.int .i64 ((rd_T81 l1 x42_3).f1))).trans hx219_2; replace hx219_3 := (cell_far (p := ⟨gb218, 1, none⟩) (by first | (rw [add_block]; exact hn219_1) | (show (Addr.add _ _).block ≠ _; rw [add_block]; exact hn219_1) | exact hn219_1) (.int .i64 ((rd_T81 l1 x42_3).f1))).trans hx219_3; clear hn219_0; clear hn219_1; replace p219 := eq_true p219; replace q219 := eq_true q219) | ((with_reducible refine gate_dst (N := 14) rfl ?_); refine box_event ?hg (N := 14) ?hd (cs := #[.int .i64 0, .int .i64 0, .int .i64 0, .int .i64 0]) (t := 54) ?hr ?_; (case hd => rfl); (case hg => rfl); (case hr => first | (go_simp; done) | (go_simp; rfl)); intro gb220 hg w35 hbox hb; have n0_ := Aside0.mk (Kd.R_below (by (with_reducible repeat (first | apply Kd.R_alloc | apply Kd.R_drewN | apply Kd.R_drew)); exact (Kd.R_mono (Kd.R_far (p := ⟨gb218, 1, none⟩) (Kd.R_far (p := ⟨gb218, 0, none⟩) (Kd.R_types HO_8.out BK218.out (by decide)) (fun _ hk => hk.2) (.int .i64 ((rd_T81 l1 x42_3).f0))) (fun _ hk => hk.2) (.int .i64 ((rd_T81 l1 x42_3).f1))) (fun _ h_ => h_.1))) hb); have n1_ := Aside0.mk (Kd.R_below (by (with_reducible repeat (first | apply Kd.R_alloc | apply Kd.R_drewN | apply Kd.R_drew)); exact (Kd.R_mono (Kd.R_far (p := ⟨gb218, 1, none⟩) (Kd.R_far (p := ⟨gb218, 0, none⟩) (Kd.R_types HO_40.out BK218.out (by decide)) (fun _ hk => hk.2) (.int .i64 ((rd_T81 l1 x42_3).f0))) (fun _ hk => hk.2) (.int .i64 ((rd_T81 l1 x42_3).f1))) (fun _ h_ => h_.1))) hb); have n2_ := Aside0.mk (blk_below (g := gb218) (o := .cells #[.int .i64 ((rd_T81 l1 x42_3).f0), .int .i64 ((rd_T81 l1 x42_3).f1)] 81 (0, 0)) (by (with_reducible repeat (first | refine blk_drewN ?_ _ | refine blk_drew ?_ | refine blk_alloc ?_ _)); refine blk_put (cs := #[.int .i64 ((rd_T81 l1 x42_3).f0), .int .i64 0]) ?_ 1 _ rfl; (with_reducible repeat (first | refine blk_drewN ?_ _ | refine blk_drew ?_ | refine blk_alloc ?_ _)); refine blk_put (cs := #[.int .i64 0, .int .i64 0]) ?_ 0 _ rfl; (with_reducible repeat (first | refine blk_drewN ?_ _ | refine blk_drew ?_ | refine blk_alloc ?_ _)); exact BK218.out) hb); have n3_ := Aside0.mk (below_step (by repeat (first | (with_reducible first | exact HB.out | apply below_alloc | apply pw_below_drewN | apply below_drew1 | refine below_set ?_ GE218.out) | exact HB.out)) hb); have n4_ := Aside0.mk (hbox); have n5_ := Aside0.mk ((by rw [hg]; exact (below_size (by repeat (first | (with_reducible first | exact HB.out | apply below_alloc | apply pw_below_drewN | apply below_drew1 | refine below_set ?_ GE218.out) | exact HB.out))) : w.heap.size ≤ gb220)); have n6_ := Aside0.mk ((by rw [hg]; exact (below_size (by repeat (first | (with_reducible first | exact HB.out | apply below_alloc | apply pw_below_drewN | apply below_drew1 | refine below_set ?_ GE218.out) | exact HB.out))) : w.heap.size ≤ gb220)); have n7_ := Aside0.mk ((by rw [hg]; exact Nat.ne_of_lt (blk_lt (g := gb218) (o := .cells #[.int .i64 ((rd_T81 l1 x42_3).f0), .int .i64 ((rd_T81 l1 x42_3).f1)] 81 (0, 0)) (by (with_reducible repeat (first | refine blk_drewN ?_ _ | refine blk_drew ?_ | refine blk_alloc ?_ _)); refine blk_put (cs := #[.int .i64 ((rd_T81 l1 x42_3).f0), .int .i64 0]) ?_ 1 _ rfl; (with_reducible repeat (first | refine blk_drewN ?_ _ | refine blk_drew ?_ | refine blk_alloc ?_ _)); refine blk_put (cs := #[.int .i64 0, .int .i64 0]) ?_ 0 _ rfl; (with_reducible repeat (first | refine blk_drewN ?_ _ | refine blk_drew ?_ | refine blk_alloc ?_ _)); exact BK218.out)) : gb218 ≠ gb220)); have n8_ := Aside0.mk ((by rw [hg]; exact Nat.ne_of_gt (blk_lt (g := gb218) (o := .cells #[.int .i64 ((rd_T81 l1 x42_3).f0), .int .i64 ((rd_T81 l1 x42_3).f1)] 81 (0, 0)) (by (with_reducible repeat (first | refine blk_drewN ?_ _ | refine blk_drew ?_ | refine blk_alloc ?_ _)); refine blk_put (cs := #[.int .i64 ((rd_T81 l1 x42_3).f0), .int .i64 0]) ?_ 1 _ rfl; (with_reducible repeat (first | refine blk_drewN ?_ _ | refine blk_drew ?_ | refine blk_alloc ?_ _)); refine blk_put (cs := #[.int .i64 0, .int .i64 0]) ?_ 0 _ rfl; (with_reducible repeat (first | refine blk_drewN ?_ _ | refine blk_drew ?_ | refine blk_alloc ?_ _)); exact BK218.out)) : gb220 ≠ gb218)); clear HO_8; clear HO_40; clear BK218; clear HB; have HO_8 := n0_; have HO_40 := n1_; have BK218 := n2_; have HB := n3_; have BK220 := n4_; have GW220 := n5_; have GE220 := n6_; have NB218_220 := n7_; have NB220_218 := n8_; clear n0_ n1_ n2_ n3_ n4_ n5_ n6_ n7_ n8_; clear hb hbox hg; have hnb36 := NB220_218.out; have hnc36 := NB218_220.out; have hcz37_0 : w35.cell? ⟨gb220, 0, none⟩ = some (.int .i64 0) := (blk_cell BK220.out 0).trans rfl; have hcz37_1 : w35.cell? ⟨gb220, 1, none⟩ = some (.int .i64 0) := (blk_cell BK220.out 1).trans rfl; have hcz37_2 : w35.cell? ⟨gb220, 2, none⟩ = some (.int .i64 0) := (blk_cell BK220.out 2).trans rfl; have hcz37_3 : w35.cell? ⟨gb220, 3, none⟩ = some (.int .i64 0) := (blk_cell BK220.out 3).trans rfl; have hfz37_0 := blk_frozen BK220.out 0; have hfz37_1 := blk_frozen BK220.out 1; have hfz37_2 := blk_frozen BK220.out 2; have hfz37_3 := blk_frozen BK220.out 3) | ((with_reducible refine gate_store (t := 54) (p := 14) rfl ?_); refine store_event (t := 54) (p := 14) (v := ?vo_w38) (w1 := ((((w35.setCell ⟨gb220, 0, none⟩ (.int .i64 ((rd_T54 l0 ((rd_T81 l1 x42_3).f0)).f0.f0))).setCell ⟨gb220, 1, none⟩ (.int .i64 ((rd_T54 l0 ((rd_T81 l1 x42_3).f0)).f0.f1))).setCell ⟨gb220, 2, none⟩ (.int .i64 ((rd_T54 l0 ((rd_T81 l1 x42_3).f0)).f1))).setCell ⟨gb220, 3, none⟩ (.int .i64 ((rd_T54 l0 ((rd_T81 l1 x42_3).f0)).f2)))) ?hg ?ho ?hn ?hr ?_; (case ho => rfl); (case hg => rfl); (case hn => rfl); (case hr => first | (go_simp; done) | (go_simp; rfl)); intro w38 hw; have n0_ : Aside0 (Kd.R (Kd.int .i64) 2 w38 w.heap.size (fun k_ => some k_ ≠ (.slice (some ad216) t213.length co22 : Value).ownBlock) u8 x8_3) := ⟨(by rw [hw]; exact (by (with_reducible repeat (first | apply Kd.R_alloc | apply Kd.R_drewN | apply Kd.R_drew)); exact Kd.R_mono (Kd.R_far (p := ⟨gb220, 3, none⟩) (Kd.R_far (p := ⟨gb220, 2, none⟩) (Kd.R_far (p := ⟨gb220, 1, none⟩) (Kd.R_far (p := ⟨gb220, 0, none⟩) (Kd.R_types HO_8.out BK220.out (by decide)) (fun _ hk => hk.2) (.int .i64 ((rd_T54 l0 ((rd_T81 l1 x42_3).f0)).f0.f0))) (fun _ hk => hk.2) (.int .i64 ((rd_T54 l0 ((rd_T81 l1 x42_3).f0)).f0.f1))) (fun _ hk => hk.2) (.int .i64 ((rd_T54 l0 ((rd_T81 l1 x42_3).f0)).f1))) (fun _ hk => hk.2) (.int .i64 ((rd_T54 l0 ((rd_T81 l1 x42_3).f0)).f2))) (fun _ hk => hk.1)))⟩; have n1_ : Aside0 (Kd.R (Kd.int .i64) 2 w38 w.heap.size (fun k_ => some k_ ≠ (u8 : Value).ownBlock) (.slice (some ad216) t213.length co22) t213) := ⟨(by rw [hw]; exact (by (with_reducible repeat (first | apply Kd.R_alloc | apply Kd.R_drewN | apply Kd.R_drew)); exact Kd.R_mono (Kd.R_far (p := ⟨gb220, 3, none⟩) (Kd.R_far (p := ⟨gb220, 2, none⟩) (Kd.R_far (p := ⟨gb220, 1, none⟩) (Kd.R_far (p := ⟨gb220, 0, none⟩) (Kd.R_types HO_40.out BK220.out (by decide)) (fun _ hk => hk.2) (.int .i64 ((rd_T54 l0 ((rd_T81 l1 x42_3).f0)).f0.f0))) (fun _ hk => hk.2) (.int .i64 ((rd_T54 l0 ((rd_T81 l1 x42_3).f0)).f0.f1))) (fun _ hk => hk.2) (.int .i64 ((rd_T54 l0 ((rd_T81 l1 x42_3).f0)).f1))) (fun _ hk => hk.2) (.int .i64 ((rd_T54 l0 ((rd_T81 l1 x42_3).f0)).f2))) (fun _ hk => hk.1)))⟩; have n2_ : Aside0 (w38.heap[gb218]? = some (.cells #[.int .i64 ((rd_T81 l1 x42_3).f0), .int .i64 ((rd_T81 l1 x42_3).f1)] 81 (0, 0))) := ⟨(by rw [hw]; exact (by (with_reducible repeat (first | refine blk_drewN ?_ _ | refine blk_drew ?_ | refine blk_alloc ?_ _)); refine blk_far ?_ NB218_220.out _; (with_reducible repeat (first | refine blk_drewN ?_ _ | refine blk_drew ?_ | refine blk_alloc ?_ _)); refine blk_far ?_ NB218_220.out _; (with_reducible repeat (first | refine blk_drewN ?_ _ | refine blk_drew ?_ | refine blk_alloc ?_ _)); refine blk_far ?_ NB218_220.out _; (with_reducible repeat (first | refine blk_drewN ?_ _ | refine blk_drew ?_ | refine blk_alloc ?_ _)); refine blk_far ?_ NB218_220.out _; (with_reducible repeat (first | refine blk_drewN ?_ _ | refine blk_drew ?_ | refine blk_alloc ?_ _)); exact BK218.out))⟩; have n3_ : Aside0 (w38.heap[gb220]? = some (.cells #[.int .i64 ((rd_T54 l0 ((rd_T81 l1 x42_3).f0)).f0.f0), .int .i64 ((rd_T54 l0 ((rd_T81 l1 x42_3).f0)).f0.f1), .int .i64 ((rd_T54 l0 ((rd_T81 l1 x42_3).f0)).f1), .int .i64 ((rd_T54 l0 ((rd_T81 l1 x42_3).f0)).f2)] 54 (0, 0))) := ⟨(by rw [hw]; exact (by (with_reducible repeat (first | refine blk_drewN ?_ _ | refine blk_drew ?_ | refine blk_alloc ?_ _)); refine blk_put (cs := #[.int .i64 ((rd_T54 l0 ((rd_T81 l1 x42_3).f0)).f0.f0), .int .i64 ((rd_T54 l0 ((rd_T81 l1 x42_3).f0)).f0.f1), .int .i64 ((rd_T54 l0 ((rd_T81 l1 x42_3).f0)).f1), .int .i64 0]) ?_ 3 _ rfl; (with_reducible repeat (first | refine blk_drewN ?_ _ | refine blk_drew ?_ | refine blk_alloc ?_ _)); refine blk_put (cs := #[.int .i64 ((rd_T54 l0 ((rd_T81 l1 x42_3).f0)).f0.f0), .int .i64 ((rd_T54 l0 ((rd_T81 l1 x42_3).f0)).f0.f1), .int .i64 0, .int .i64 0]) ?_ 2 _ rfl; (with_reducible repeat (first | refine blk_drewN ?_ _ | refine blk_drew ?_ | refine blk_alloc ?_ _)); refine blk_put (cs := #[.int .i64 ((rd_T54 l0 ((rd_T81 l1 x42_3).f0)).f0.f0), .int .i64 0, .int .i64 0, .int .i64 0]) ?_ 1 _ rfl; (with_reducible repeat (first | refine blk_drewN ?_ _ | refine blk_drew ?_ | refine blk_alloc ?_ _)); refine blk_put (cs := #[.int .i64 0, .int .i64 0, .int .i64 0, .int .i64 0]) ?_ 0 _ rfl; (with_reducible repeat (first | refine blk_drewN ?_ _ | refine blk_drew ?_ | refine blk_alloc ?_ _)); exact BK220.out))⟩; have n4_ : Aside0 (Below w.heap.size w w38) := ⟨(by rw [hw]; exact (by repeat (first | (with_reducible first | exact HB.out | apply below_alloc | apply pw_below_drewN | apply below_drew1 | refine below_set ?_ GE218.out | refine below_set ?_ GE220.out) | exact HB.out)))⟩; clear hw; clear HO_8; clear HO_40; clear BK218; clear BK220; clear HB; have HO_8 := n0_; have HO_40 := n1_; have BK218 := n2_; have BK220 := n3_; have HB := n4_; clear n0_ n1_ n2_ n3_ n4_; have hcz39_0 : w38.cell? ⟨gb220, 0, none⟩ = some (.int .i64 ((rd_T54 l0 ((rd_T81 l1 x42_3).f0)).f0.f0)) := (blk_cell BK220.out 0).trans rfl; have hcz39_1 : w38.cell? ⟨gb220, 1, none⟩ = some (.int .i64 ((rd_T54 l0 ((rd_T81 l1 x42_3).f0)).f0.f1)) := (blk_cell BK220.out 1).trans rfl; have hcz39_2 : w38.cell? ⟨gb220, 2, none⟩ = some (.int .i64 ((rd_T54 l0 ((rd_T81 l1 x42_3).f0)).f1)) := (blk_cell BK220.out 2).trans rfl; have hcz39_3 : w38.cell? ⟨gb220, 3, none⟩ = some (.int .i64 ((rd_T54 l0 ((rd_T81 l1 x42_3).f0)).f2)) := (blk_cell BK220.out 3).trans rfl; have hfz39_0 := blk_frozen BK220.out 0; have hfz39_1 := blk_frozen BK220.out 1; have hfz39_2 := blk_frozen BK220.out 2; have hfz39_3 := blk_frozen BK220.out 3; have hcz40_0 : w38.cell? ⟨gb218, 0, none⟩ = some (.int .i64 ((rd_T81 l1 x42_3).f0)) := (blk_cell BK218.out 0).trans rfl; have hcz40_1 : w38.cell? ⟨gb218, 1, none⟩ = some (.int .i64 ((rd_T81 l1 x42_3).f1)) := (blk_cell BK218.out 1).trans rfl; have hfz40_0 := blk_frozen BK218.out 0; have hfz40_1 := blk_frozen BK218.out 1; obtain ⟨Ao41, co41, eo41⟩ := Kd.R_slice HO_8.out; subst eo41; have p221 : 0 ≤ (((rd_T81 l1 x42_3).f0) : Int) := of_decide_eq_true (by first | (with_reducible assumption) | assumption); have q221 : ((rd_T81 l1 x42_3).f0) < (x8_3.length : Int) := of_decide_eq_true (by first | (with_reducible assumption) | assumption); obtain ⟨ad221, e221, hx221_0⟩ := Kd.at_int (Kd.R_reads' HO_8.out).2.2 ((rd_T81 l1 x42_3).f0) p221 q221; cases e221; replace p221 := eq_true p221; replace q221 := eq_true q221; have p32 : 0 ≤ (((rd_T81 l1 x42_3).f0) : Int) := of_decide_eq_true (by first | (with_reducible assumption) | assumption); have q32 : (((rd_T81 l1 x42_3).f0) : Int) < ((x8_3.length : Int) : Int) := of_decide_eq_true (by first | (with_reducible assumption) | assumption); obtain ⟨go32, co32, eo32, gb32, gl32, cl32, HG32⟩ := Kd.R_form HO_8.out (by omega); (first | cases eo32 | (injection eo32 with ea_ en_ ec_; (first | subst ea_ | (injection ea_ with ea_; subst ea_)); subst ec_; clear en_)); have GB32 := Aside0.mk gb32; have GG32 := Aside0.mk HG32; clear gb32 gl32 HG32; (first | simp only [add_plain] at hx221_0 | skip); obtain ⟨hx32_0, hf32_0⟩ := Kd.R_celln 0 HO_8.out (((rd_T81 l1 x42_3).f0) : Int) p32 q32; replace p32 := eq_true p32; replace q32 := eq_true q32; obtain ⟨hy42_, hz42_⟩ := Kd.R_celln 0 HO_8.out (((rd_T81 l1 x42_3).f0) : Int) (of_decide_eq_true (by first | (with_reducible assumption) | assumption)) (of_decide_eq_true (by first | (with_reducible assumption) | assumption)); have HP42 := Kd.R_putg HO_8.out (((rd_T81 l1 x42_3).f0) : Int) (wrap64 ((rd x8_3 ((rd_T81 l1 x42_3).f0)) - 1))) | ((with_reducible refine gate_store (t := 2) (p := 78) rfl ?_); refine store_event (t := 2) (p := 78) (v := ?vo_w43) (w1 := (w38.setCell ⟨go32, (((rd_T81 l1 x42_3).f0) : Int).toNat, none⟩ (.int .i64 (wrap64 ((rd x8_3 ((rd_T81 l1 x42_3).f0)) - 1))))) ?hg ?ho ?hn ?hr ?_; (case ho => rfl); (case hg => rfl); (case hn => rfl); (case hr => first | (go_simp; done) | (go_simp; rfl)); intro w43 hw; have hg : w38.grownBy w43 (some go32) := (by rw [hw]; exact HP42.2); have hp_ : Kd.R (Kd.int .i64) 2 w43 w.heap.size (fun k_ => some k_ ≠ (.slice (some ad216) t213.length co22 : Value).ownBlock) (.slice (some ⟨go32, 0, none⟩) x8_3.length co41) y222 := (by rw [hw, Ny222.out]; exact HP42.1); clear HP42; have n0_ := Aside0.mk (hp_); have n1_ := Aside0.mk (Kd.R_after (v := (.slice (some ⟨go32, 0, none⟩) x8_3.length co41)) (v1 := (.slice (some ⟨go32, 0, none⟩) x8_3.length co41)) (ok := (fun _ => True)) (by (with_reducible repeat (first | apply Kd.R_alloc | apply Kd.R_drewN | apply Kd.R_drew)); exact Kd.R_mono HO_40.out (fun _ hk => ⟨trivial, hk⟩)) hg (.inl rfl)); have n2_ := Aside0.mk (blk_grown (g := gb218) (o := .cells #[.int .i64 ((rd_T81 l1 x42_3).f0), .int .i64 ((rd_T81 l1 x42_3).f1)] 81 (0, 0)) (by (with_reducible repeat (first | refine blk_drewN ?_ _ | refine blk_drew ?_ | refine blk_alloc ?_ _)); exact BK218.out) hg (Kd.R_ne HO_8.out BK218.out (by decide))); have n3_ := Aside0.mk (blk_grown (g := gb220) (o := .cells #[.int .i64 ((rd_T54 l0 ((rd_T81 l1 x42_3).f0)).f0.f0), .int .i64 ((rd_T54 l0 ((rd_T81 l1 x42_3).f0)).f0.f1), .int .i64 ((rd_T54 l0 ((rd_T81 l1 x42_3).f0)).f1), .int .i64 ((rd_T54 l0 ((rd_T81 l1 x42_3).f0)).f2)] 54 (0, 0)) (by (with_reducible repeat (first | refine blk_drewN ?_ _ | refine blk_drew ?_ | refine blk_alloc ?_ _)); exact BK220.out) hg (Kd.R_ne HO_8.out BK220.out (by decide))); have n4_ := Aside0.mk ((by rw [hw]; exact below_set (HB.out) GB32.out : Below w.heap.size w w43)); clear HO_8; clear HO_40; clear BK218; clear BK220; clear HB; have HO_8 := n0_; have HO_40 := n1_; have BK218 := n2_; have BK220 := n3_; have HB := n4_; clear n0_ n1_ n2_ n3_ n4_; clear hg hw hp_))
                              go_roundg k3
                              case measure => have := HJ3.out; have := HK2.out; have := HK3.out; omega
                              case rel => exact ⟨(y222), (wrap64 (x42_3 + 1)), (by first | rfl | (simp; done) | (simp [*]; done)), H', ⟨by have := HJ3.out; have := HK2.out; have := HK3.out; omega⟩, ⟨by (with_reducible repeat (first | apply Kd.R_alloc | apply Kd.R_drewN | apply Kd.R_drew)); exact HO_8.out⟩, ⟨by (with_reducible repeat (first | apply Kd.R_alloc | apply Kd.R_drewN | apply Kd.R_drew)); exact Kd.R_mono HO_40.out (fun _ hk => hk.2)⟩, ⟨by repeat (first | (with_reducible first | exact HB.out | apply below_alloc | apply pw_below_drewN | apply below_drew1 | refine below_set ?_ GE218.out | refine below_set ?_ GE220.out) | exact HB.out)⟩⟩
                           · rw [if_neg c31] at H
                             exact absurd H (by simp)
                         · rw [if_neg c30] at H
                           have c30b0 : decide ((wrap64 (((rd_T81 l1 x42_3).f1) + ((rd_T54 l0 ((rd_T81 l1 x42_3).f0)).f1))) ≤ a2) = false := decide_eq_false c30
                           clear c30
                           as_aux_lemma =>
                            have H' := Aside0.mk H
                            clear H
                            have p216 : 0 ≤ (x42_3 : Int) := of_decide_eq_true (by first | (with_reducible assumption) | assumption)
                            have q216 : x42_3 < (t213.length : Int) := of_decide_eq_true (by first | (with_reducible assumption) | assumption)
                            obtain ⟨ad216, e216, hx216_0⟩ := Kd.at_int (Kd.R_reads' HO_40.out).2.2 x42_3 p216 q216
                            cases e216
                            replace p216 := eq_true p216
                            replace q216 := eq_true q216
                            have p217 : 0 ≤ (x42_3 : Int) := of_decide_eq_true (by first | (with_reducible assumption) | assumption)
                            have q217 : x42_3 < (l1.length : Int) := of_decide_eq_true (by first | (with_reducible assumption) | assumption)
                            obtain ⟨ad217, e217, hx217_0, hx217_1⟩ := at_T81 HR1.out x42_3 p217 q217
                            cases e217
                            replace hx217_0 := (HB.out.cell (World.block_lt_of_cell? w _ hx217_0)).trans hx217_0
                            replace hx217_1 := (HB.out.cell (World.block_lt_of_cell? w _ hx217_1)).trans hx217_1
                            replace p217 := eq_true p217
                            replace q217 := eq_true q217
                            go_wp2_with (first | ((with_reducible refine gate_dst (N := 13) rfl ?_); refine box_event ?hg (N := 13) ?hd (cs := #[.int .i64 0, .int .i64 0]) (t := 81) ?hr ?_; (case hd => rfl); (case hg => rfl); (case hr => first | (go_simp; done) | (go_simp; rfl)); intro gb218 hg w44 hbox hb; have n0_ := Aside0.mk (Kd.R_below (by (with_reducible repeat (first | apply Kd.R_alloc | apply Kd.R_drewN | apply Kd.R_drew)); exact HO_8.out) hb); have n1_ := Aside0.mk (Kd.R_below (by (with_reducible repeat (first | apply Kd.R_alloc | apply Kd.R_drewN | apply Kd.R_drew)); exact HO_40.out) hb); have n2_ := Aside0.mk (below_step (by repeat (first | (with_reducible first | exact HB.out | apply below_alloc | apply pw_below_drewN | apply below_drew1) | exact HB.out)) hb); have n3_ := Aside0.mk (hbox); have n4_ := Aside0.mk ((by rw [hg]; exact (below_size (by repeat (first | (with_reducible first | exact HB.out | apply below_alloc | apply pw_below_drewN | apply below_drew1) | exact HB.out))) : w.heap.size ≤ gb218)); have n5_ := Aside0.mk ((by rw [hg]; exact (below_size (by repeat (first | (with_reducible first | exact HB.out | apply below_alloc | apply pw_below_drewN | apply below_drew1) | exact HB.out))) : w.heap.size ≤ gb218)); clear HO_8; clear HO_40; clear HB; have HO_8 := n0_; have HO_40 := n1_; have HB := n2_; have BK218 := n3_; have GW218 := n4_; have GE218 := n5_; clear n0_ n1_ n2_ n3_ n4_ n5_; clear hb hbox hg; have hcz45_0 : w44.cell? ⟨gb218, 0, none⟩ = some (.int .i64 0) := (blk_cell BK218.out 0).trans rfl; have hcz45_1 : w44.cell? ⟨gb218, 1, none⟩ = some (.int .i64 0) := (blk_cell BK218.out 1).trans rfl; have hfz45_0 := blk_frozen BK218.out 0; have hfz45_1 := blk_frozen BK218.out 1; have p219 : 0 ≤ (((rd_T81 l1 x42_3).f0) : Int) := of_decide_eq_true (by first | (with_reducible assumption) | assumption); have q219 : ((rd_T81 l1 x42_3).f0) < (l0.length : Int) := of_decide_eq_true (by first | (with_reducible assumption) | assumption); obtain ⟨ad219, e219, hx219_0, hx219_1, hx219_2, hx219_3⟩ := at_T54 HR0.out ((rd_T81 l1 x42_3).f0) p219 q219; cases e219; have hn219_0 : ad219.block ≠ gb218 := Nat.ne_of_lt (Nat.lt_of_lt_of_le (by have := World.block_lt_of_cell? _ _ hx219_0; first | rwa [add_block] at this | exact this) GW218.out); have hn219_1 : ad219.block ≠ gb218 := Nat.ne_of_lt (Nat.lt_of_lt_of_le (by have := World.block_lt_of_cell? _ _ hx219_0; first | rwa [add_block] at this | exact this) GW218.out); replace hx219_0 := (HB.out.cell (World.block_lt_of_cell? w _ hx219_0)).trans hx219_0; replace hx219_1 := (HB.out.cell (World.block_lt_of_cell? w _ hx219_1)).trans hx219_1; replace hx219_2 := (HB.out.cell (World.block_lt_of_cell? w _ hx219_2)).trans hx219_2; replace hx219_3 := (HB.out.cell (World.block_lt_of_cell? w _ hx219_3)).trans hx219_3; replace hx219_0 := (cell_far (p := ⟨gb218, 0, none⟩) (by first | (rw [add_block]; exact hn219_0) | (show (Addr.add _ _).block ≠ _; rw [add_block]; exact hn219_0) | exact hn219_0) (.int .i64 ((rd_T81 l1 x42_3).f0))).trans hx219_0; replace hx219_1 := (cell_far (p := ⟨gb218, 0, none⟩) (by first | (rw [add_block]; exact hn219_0) | (show (Addr.add _ _).block ≠ _; rw [add_block]; exact hn219_0) | exact hn219_0) (.int .i64 ((rd_T81 l1 x42_3).f0))).trans hx219_1; replace hx219_2 := (cell_far (p := ⟨gb218, 0, none⟩) (by first | (rw [add_block]; exact hn219_0) | (show (Addr.add _ _).block ≠ _; rw [add_block]; exact hn219_0) | exact hn219_0) (.int .i64 ((rd_T81 l1 x42_3).f0))).trans hx219_2; replace hx219_3 := (cell_far (p := ⟨gb218, 0, none⟩) (by first | (rw [add_block]; exact hn219_0) | (show (Addr.add _ _).block ≠ _; rw [add_block]; exact hn219_0) | exact hn219_0) (.int .i64 ((rd_T81 l1 x42_3).f0))).trans hx219_3; replace hx219_0 := (cell_far (p := ⟨gb218, 1, none⟩) (by first | (rw [add_block]; exact hn219_1) | (show (Addr.add _ _).block ≠ _; rw [add_block]; exact hn219_1) | exact hn219_1) (.int .i64 ((rd_T81 l1 x42_3).f1))).trans hx219_0; replace hx219_1 := (cell_far (p := ⟨gb218, 1, none⟩) (by first | (rw [add_block]; exact hn219_1) | (show (Addr.add _ _).block ≠ _; rw [add_block]; exact hn219_1) | exact hn219_1) (.int .i64 ((rd_T81 l1 x42_3).f1))).trans hx219_1; replace hx219_2 := (cell_far (p := ⟨gb218, 1, none⟩) (by first | (rw [add_block]; exact hn219_1) | (show (Addr.add _ _).block ≠ _; rw [add_block]; exact hn219_1) | exact hn219_1) (.int .i64 ((rd_T81 l1 x42_3).f1))).trans hx219_2; replace hx219_3 := (cell_far (p := ⟨gb218, 1, none⟩) (by first | (rw [add_block]; exact hn219_1) | (show (Addr.add _ _).block ≠ _; rw [add_block]; exact hn219_1) | exact hn219_1) (.int .i64 ((rd_T81 l1 x42_3).f1))).trans hx219_3; clear hn219_0; clear hn219_1; replace p219 := eq_true p219; replace q219 := eq_true q219) | ((with_reducible refine gate_dst (N := 14) rfl ?_); refine box_event ?hg (N := 14) ?hd (cs := #[.int .i64 0, .int .i64 0, .int .i64 0, .int .i64 0]) (t := 54) ?hr ?_; (case hd => rfl); (case hg => rfl); (case hr => first | (go_simp; done) | (go_simp; rfl)); intro gb220 hg w46 hbox hb; have n0_ := Aside0.mk (Kd.R_below (by (with_reducible repeat (first | apply Kd.R_alloc | apply Kd.R_drewN | apply Kd.R_drew)); exact (Kd.R_mono (Kd.R_far (p := ⟨gb218, 1, none⟩) (Kd.R_far (p := ⟨gb218, 0, none⟩) (Kd.R_types HO_8.out BK218.out (by decide)) (fun _ hk => hk.2) (.int .i64 ((rd_T81 l1 x42_3).f0))) (fun _ hk => hk.2) (.int .i64 ((rd_T81 l1 x42_3).f1))) (fun _ h_ => h_.1))) hb); have n1_ := Aside0.mk (Kd.R_below (by (with_reducible repeat (first | apply Kd.R_alloc | apply Kd.R_drewN | apply Kd.R_drew)); exact (Kd.R_mono (Kd.R_far (p := ⟨gb218, 1, none⟩) (Kd.R_far (p := ⟨gb218, 0, none⟩) (Kd.R_types HO_40.out BK218.out (by decide)) (fun _ hk => hk.2) (.int .i64 ((rd_T81 l1 x42_3).f0))) (fun _ hk => hk.2) (.int .i64 ((rd_T81 l1 x42_3).f1))) (fun _ h_ => h_.1))) hb); have n2_ := Aside0.mk (blk_below (g := gb218) (o := .cells #[.int .i64 ((rd_T81 l1 x42_3).f0), .int .i64 ((rd_T81 l1 x42_3).f1)] 81 (0, 0)) (by (with_reducible repeat (first | refine blk_drewN ?_ _ | refine blk_drew ?_ | refine blk_alloc ?_ _)); refine blk_put (cs := #[.int .i64 ((rd_T81 l1 x42_3).f0), .int .i64 0]) ?_ 1 _ rfl; (with_reducible repeat (first | refine blk_drewN ?_ _ | refine blk_drew ?_ | refine blk_alloc ?_ _)); refine blk_put (cs := #[.int .i64 0, .int .i64 0]) ?_ 0 _ rfl; (with_reducible repeat (first | refine blk_drewN ?_ _ | refine blk_drew ?_ | refine blk_alloc ?_ _)); exact BK218.out) hb); have n3_ := Aside0.mk (below_step (by repeat (first | (with_reducible first | exact HB.out | apply below_alloc | apply pw_below_drewN | apply below_drew1 | refine below_set ?_ GE218.out) | exact HB.out)) hb); have n4_ := Aside0.mk (hbox); have n5_ := Aside0.mk ((by rw [hg]; exact (below_size (by repeat (first | (with_reducible first | exact HB.out | apply below_alloc | apply pw_below_drewN | apply below_drew1 | refine below_set ?_ GE218.out) | exact HB.out))) : w.heap.size ≤ gb220)); have n6_ := Aside0.mk ((by rw [hg]; exact (below_size (by repeat (first | (with_reducible first | exact HB.out | apply below_alloc | apply pw_below_drewN | apply below_drew1 | refine below_set ?_ GE218.out) | exact HB.out))) : w.heap.size ≤ gb220)); have n7_ := Aside0.mk ((by rw [hg]; exact Nat.ne_of_lt (blk_lt (g := gb218) (o := .cells #[.int .i64 ((rd_T81 l1 x42_3).f0), .int .i64 ((rd_T81 l1 x42_3).f1)] 81 (0, 0)) (by (with_reducible repeat (first | refine blk_drewN ?_ _ | refine blk_drew ?_ | refine blk_alloc ?_ _)); refine blk_put (cs := #[.int .i64 ((rd_T81 l1 x42_3).f0), .int .i64 0]) ?_ 1 _ rfl; (with_reducible repeat (first | refine blk_drewN ?_ _ | refine blk_drew ?_ | refine blk_alloc ?_ _)); refine blk_put (cs := #[.int .i64 0, .int .i64 0]) ?_ 0 _ rfl; (with_reducible repeat (first | refine blk_drewN ?_ _ | refine blk_drew ?_ | refine blk_alloc ?_ _)); exact BK218.out)) : gb218 ≠ gb220)); have n8_ := Aside0.mk ((by rw [hg]; exact Nat.ne_of_gt (blk_lt (g := gb218) (o := .cells #[.int .i64 ((rd_T81 l1 x42_3).f0), .int .i64 ((rd_T81 l1 x42_3).f1)] 81 (0, 0)) (by (with_reducible repeat (first | refine blk_drewN ?_ _ | refine blk_drew ?_ | refine blk_alloc ?_ _)); refine blk_put (cs := #[.int .i64 ((rd_T81 l1 x42_3).f0), .int .i64 0]) ?_ 1 _ rfl; (with_reducible repeat (first | refine blk_drewN ?_ _ | refine blk_drew ?_ | refine blk_alloc ?_ _)); refine blk_put (cs := #[.int .i64 0, .int .i64 0]) ?_ 0 _ rfl; (with_reducible repeat (first | refine blk_drewN ?_ _ | refine blk_drew ?_ | refine blk_alloc ?_ _)); exact BK218.out)) : gb220 ≠ gb218)); clear HO_8; clear HO_40; clear BK218; clear HB; have HO_8 := n0_; have HO_40 := n1_; have BK218 := n2_; have HB := n3_; have BK220 := n4_; have GW220 := n5_; have GE220 := n6_; have NB218_220 := n7_; have NB220_218 := n8_; clear n0_ n1_ n2_ n3_ n4_ n5_ n6_ n7_ n8_; clear hb hbox hg; have hnb47 := NB220_218.out; have hnc47 := NB218_220.out; have hcz48_0 : w46.cell? ⟨gb220, 0, none⟩ = some (.int .i64 0) := (blk_cell BK220.out 0).trans rfl; have hcz48_1 : w46.cell? ⟨gb220, 1, none⟩ = some (.int .i64 0) := (blk_cell BK220.out 1).trans rfl; have hcz48_2 : w46.cell? ⟨gb220, 2, none⟩ = some (.int .i64 0) := (blk_cell BK220.out 2).trans rfl; have hcz48_3 : w46.cell? ⟨gb220, 3, none⟩ = some (.int .i64 0) := (blk_cell BK220.out 3).trans rfl; have hfz48_0 := blk_frozen BK220.out 0; have hfz48_1 := blk_frozen BK220.out 1; have hfz48_2 := blk_frozen BK220.out 2; have hfz48_3 := blk_frozen BK220.out 3; have hcz49_0 : w46.cell? ⟨gb218, 0, none⟩ = some (.int .i64 ((rd_T81 l1 x42_3).f0)) := (blk_cell BK218.out 0).trans rfl; have hcz49_1 : w46.cell? ⟨gb218, 1, none⟩ = some (.int .i64 ((rd_T81 l1 x42_3).f1)) := (blk_cell BK218.out 1).trans rfl; have hfz49_0 := blk_frozen BK218.out 0; have hfz49_1 := blk_frozen BK218.out 1))
                            go_roundg k3
                            case measure => have := HJ3.out; have := HK2.out; have := HK3.out; omega
                            case rel => exact ⟨(x8_3), (wrap64 (x42_3 + 1)), (by first | rfl | (simp; done) | (simp [*]; done)), H', ⟨by have := HJ3.out; have := HK2.out; have := HK3.out; omega⟩, ⟨by (with_reducible repeat (first | apply Kd.R_alloc | apply Kd.R_drewN | apply Kd.R_drew)); exact Kd.R_mono (Kd.R_far (p := ⟨gb220, 3, none⟩) (Kd.R_far (p := ⟨gb220, 2, none⟩) (Kd.R_far (p := ⟨gb220, 1, none⟩) (Kd.R_far (p := ⟨gb220, 0, none⟩) (Kd.R_types HO_8.out BK220.out (by decide)) (fun _ hk => hk.2) (.int .i64 ((rd_T54 l0 ((rd_T81 l1 x42_3).f0)).f0.f0))) (fun _ hk => hk.2) (.int .i64 ((rd_T54 l0 ((rd_T81 l1 x42_3).f0)).f0.f1))) (fun _ hk => hk.2) (.int .i64 ((rd_T54 l0 ((rd_T81 l1 x42_3).f0)).f1))) (fun _ hk => hk.2) (.int .i64 ((rd_T54 l0 ((rd_T81 l1 x42_3).f0)).f2))) (fun _ hk => hk.1)⟩, ⟨by (with_reducible repeat (first | apply Kd.R_alloc | apply Kd.R_drewN | apply Kd.R_drew)); exact Kd.R_mono (Kd.R_far (p := ⟨gb220, 3, none⟩) (Kd.R_far (p := ⟨gb220, 2, none⟩) (Kd.R_far (p := ⟨gb220, 1, none⟩) (Kd.R_far (p := ⟨gb220, 0, none⟩) (Kd.R_types HO_40.out BK220.out (by decide)) (fun _ hk => hk.2) (.int .i64 ((rd_T54 l0 ((rd_T81 l1 x42_3).f0)).f0.f0))) (fun _ hk => hk.2) (.int .i64 ((rd_T54 l0 ((rd_T81 l1 x42_3).f0)).f0.f1))) (fun _ hk => hk.2) (.int .i64 ((rd_T54 l0 ((rd_T81 l1 x42_3).f0)).f1))) (fun _ hk => hk.2) (.int .i64 ((rd_T54 l0 ((rd_T81 l1 x42_3).f0)).f2))) (fun _ hk => hk.1)⟩, ⟨by repeat (first | (with_reducible first | exact HB.out | apply below_alloc | apply pw_below_drewN | apply below_drew1 | refine below_set ?_ GE218.out | refine below_set ?_ GE220.out) | exact HB.out)⟩⟩
                       · rw [if_neg c29] at H
                         have c29b0 : decide ((wrap64 ((wrap64 ((rd t213 x42_3) + 1)) * ((rd_T54 l0 ((rd_T81 l1 x42_3).f0)).f2))) ≤ a2) = false := decide_eq_false c29
                         clear c29
                         as_aux_lemma =>
                          have H' := Aside0.mk H
                          clear H
                          have p216 : 0 ≤ (x42_3 : Int) := of_decide_eq_true (by first | (with_reducible assumption) | assumption)
                          have q216 : x42_3 < (t213.length : Int) := of_decide_eq_true (by first | (with_reducible assumption) | assumption)
                          obtain ⟨ad216, e216, hx216_0⟩ := Kd.at_int (Kd.R_reads' HO_40.out).2.2 x42_3 p216 q216
                          cases e216
                          replace p216 := eq_true p216
                          replace q216 := eq_true q216
                          have p217 : 0 ≤ (x42_3 : Int) := of_decide_eq_true (by first | (with_reducible assumption) | assumption)
                          have q217 : x42_3 < (l1.length : Int) := of_decide_eq_true (by first | (with_reducible assumption) | assumption)
                          obtain ⟨ad217, e217, hx217_0, hx217_1⟩ := at_T81 HR1.out x42_3 p217 q217
                          cases e217
                          replace hx217_0 := (HB.out.cell (World.block_lt_of_cell? w _ hx217_0)).trans hx217_0
                          replace hx217_1 := (HB.out.cell (World.block_lt_of_cell? w _ hx217_1)).trans hx217_1
                          replace p217 := eq_true p217
                          replace q217 := eq_true q217
                          go_wp2_with (first | ((with_reducible refine gate_dst (N := 13) rfl ?_); refine box_event ?hg (N := 13) ?hd (cs := #[.int .i64 0, .int .i64 0]) (t := 81) ?hr ?_; (case hd => rfl); (case hg => rfl); (case hr => first | (go_simp; done) | (go_simp; rfl)); intro gb218 hg w50 hbox hb; have n0_ := Aside0.mk (Kd.R_below (by (with_reducible repeat (first | apply Kd.R_alloc | apply Kd.R_drewN | apply Kd.R_drew)); exact HO_8.out) hb); have n1_ := Aside0.mk (Kd.R_below (by (with_reducible repeat (first | apply Kd.R_alloc | apply Kd.R_drewN | apply Kd.R_drew)); exact HO_40.out) hb); have n2_ := Aside0.mk (below_step (by repeat (first | (with_reducible first | exact HB.out | apply below_alloc | apply pw_below_drewN | apply below_drew1) | exact HB.out)) hb); have n3_ := Aside0.mk (hbox); have n4_ := Aside0.mk ((by rw [hg]; exact (below_size (by repeat (first | (with_reducible first | exact HB.out | apply below_alloc | apply pw_below_drewN | apply below_drew1) | exact HB.out))) : w.heap.size ≤ gb218)); have n5_ := Aside0.mk ((by rw [hg]; exact (below_size (by repeat (first | (with_reducible first | exact HB.out | apply below_alloc | apply pw_below_drewN | apply below_drew1) | exact HB.out))) : w.heap.size ≤ gb218)); clear HO_8; clear HO_40; clear HB; have HO_8 := n0_; have HO_40 := n1_; have HB := n2_; have BK218 := n3_; have GW218 := n4_; have GE218 := n5_; clear n0_ n1_ n2_ n3_ n4_ n5_; clear hb hbox hg; have hcz51_0 : w50.cell? ⟨gb218, 0, none⟩ = some (.int .i64 0) := (blk_cell BK218.out 0).trans rfl; have hcz51_1 : w50.cell? ⟨gb218, 1, none⟩ = some (.int .i64 0) := (blk_cell BK218.out 1).trans rfl; have hfz51_0 := blk_frozen BK218.out 0; have hfz51_1 := blk_frozen BK218.out 1; have p219 : 0 ≤ (((rd_T81 l1 x42_3).f0) : Int) := of_decide_eq_true (by first | (with_reducible assumption) | assumption); have q219 : ((rd_T81 l1 x42_3).f0) < (l0.length : Int) := of_decide_eq_true (by first | (with_reducible assumption) | assumption); obtain ⟨ad219, e219, hx219_0, hx219_1, hx219_2, hx219_3⟩ := at_T54 HR0.out ((rd_T81 l1 x42_3).f0) p219 q219; cases e219; have hn219_0 : ad219.block ≠ gb218 := Nat.ne_of_lt (Nat.lt_of_lt_of_le (by have := World.block_lt_of_cell? _ _ hx219_0; first | rwa [add_block] at this | exact this) GW218.out); have hn219_1 : ad219.block ≠ gb218 := Nat.ne_of_lt (Nat.lt_of_lt_of_le (by have := World.block_lt_of_cell? _ _ hx219_0; first | rwa [add_block] at this | exact this) GW218.out); replace hx219_0 := (HB.out.cell (World.block_lt_of_cell? w _ hx219_0)).trans hx219_0; replace hx219_1 := (HB.out.cell (World.block_lt_of_cell? w _ hx219_1)).trans hx219_1; replace hx219_2 := (HB.out.cell (World.block_lt_of_cell? w _ hx219_2)).trans hx219_2; replace hx219_3 := (HB.out.cell (World.block_lt_of_cell? w _ hx219_3)).trans hx219_3; replace hx219_0 := (cell_far (p := ⟨gb218, 0, none⟩) (by first | (rw [add_block]; exact hn219_0) | (show (Addr.add _ _).block ≠ _; rw [add_block]; exact hn219_0) | exact hn219_0) (.int .i64 ((rd_T81 l1 x42_3).f0))).trans hx219_0; replace hx219_1 := (cell_far (p := ⟨gb218, 0, none⟩) (by first | (rw [add_block]; exact hn219_0) | (show (Addr.add _ _).block ≠ _; rw [add_block]; exact hn219_0) | exact hn219_0) (.int .i64 ((rd_T81 l1 x42_3).f0))).trans hx219_1; replace hx219_2 := (cell_far (p := ⟨gb218, 0, none⟩) (by first | (rw [add_block]; exact hn219_0) | (show (Addr.add _ _).block ≠ _; rw [add_block]; exact hn219_0) | exact hn219_0) (.int .i64 ((rd_T81 l1 x42_3).f0))).trans hx219_2; replace hx219_3 := (cell_far (p := ⟨gb218, 0, none⟩) (by first | (rw [add_block]; exact hn219_0) | (show (Addr.add _ _).block ≠ _; rw [add_block]; exact hn219_0) | exact hn219_0) (.int .i64 ((rd_T81 l1 x42_3).f0))).trans hx219_3; replace hx219_0 := (cell_far (p := ⟨gb218, 1, none⟩) (by first | (rw [add_block]; exact hn219_1) | (show (Addr.add _ _).block ≠ _; rw [add_block]; exact hn219_1) | exact hn219_1) (.int .i64 ((rd_T81 l1 x42_3).f1))).trans hx219_0; replace hx219_1 := (cell_far (p := ⟨gb218, 1, none⟩) (by first | (rw [add_block]; exact hn219_1) | (show (Addr.add _ _).block ≠ _; rw [add_block]; exact hn219_1) | exact hn219_1) (.int .i64 ((rd_T81 l1 x42_3).f1))).trans hx219_1; replace hx219_2 := (cell_far (p := ⟨gb218, 1, none⟩) (by first | (rw [add_block]; exact hn219_1) | (show (Addr.add _ _).block ≠ _; rw [add_block]; exact hn219_1) | exact hn219_1) (.int .i64 ((rd_T81 l1 x42_3).f1))).trans hx219_2; replace hx219_3 := (cell_far (p := ⟨gb218, 1, none⟩) (by first | (rw [add_block]; exact hn219_1) | (show (Addr.add _ _).block ≠ _; rw [add_block]; exact hn219_1) | exact hn219_1) (.int .i64 ((rd_T81 l1 x42_3).f1))).trans hx219_3; clear hn219_0; clear hn219_1; replace p219 := eq_true p219; replace q219 := eq_true q219) | ((with_reducible refine gate_dst (N := 14) rfl ?_); refine box_event ?hg (N := 14) ?hd (cs := #[.int .i64 0, .int .i64 0, .int .i64 0, .int .i64 0]) (t := 54) ?hr ?_; (case hd => rfl); (case hg => rfl); (case hr => first | (go_simp; done) | (go_simp; rfl)); intro gb220 hg w52 hbox hb; have n0_ := Aside0.mk (Kd.R_below (by (with_reducible repeat (first | apply Kd.R_alloc | apply Kd.R_drewN | apply Kd.R_drew)); exact (Kd.R_mono (Kd.R_far (p := ⟨gb218, 1, none⟩) (Kd.R_far (p := ⟨gb218, 0, none⟩) (Kd.R_types HO_8.out BK218.out (by decide)) (fun _ hk => hk.2) (.int .i64 ((rd_T81 l1 x42_3).f0))) (fun _ hk => hk.2) (.int .i64 ((rd_T81 l1 x42_3).f1))) (fun _ h_ => h_.1))) hb); have n1_ := Aside0.mk (Kd.R_below (by (with_reducible repeat (first | apply Kd.R_alloc | apply Kd.R_drewN | apply Kd.R_drew)); exact (Kd.R_mono (Kd.R_far (p := ⟨gb218, 1, none⟩) (Kd.R_far (p := ⟨gb218, 0, none⟩) (Kd.R_types HO_40.out BK218.out (by decide)) (fun _ hk => hk.2) (.int .i64 ((rd_T81 l1 x42_3).f0))) (fun _ hk => hk.2) (.int .i64 ((rd_T81 l1 x42_3).f1))) (fun _ h_ => h_.1))) hb); have n2_ := Aside0.mk (blk_below (g := gb218) (o := .cells #[.int .i64 ((rd_T81 l1 x42_3).f0), .int .i64 ((rd_T81 l1 x42_3).f1)] 81 (0, 0)) (by (with_reducible repeat (first | refine blk_drewN ?_ _ | refine blk_drew ?_ | refine blk_alloc ?_ _)); refine blk_put (cs := #[.int .i64 ((rd_T81 l1 x42_3).f0), .int .i64 0]) ?_ 1 _ rfl; (with_reducible repeat (first | refine blk_drewN ?_ _ | refine blk_drew ?_ | refine blk_alloc ?_ _)); refine blk_put (cs := #[.int .i64 0, .int .i64 0]) ?_ 0 _ rfl; (with_reducible repeat (first | refine blk_drewN ?_ _ | refine blk_drew ?_ | refine blk_alloc ?_ _)); exact BK218.out) hb); have n3_ := Aside0.mk (below_step (by repeat (first | (with_reducible first | exact HB.out | apply below_alloc | apply pw_below_drewN | apply below_drew1 | refine below_set ?_ GE218.out) | exact HB.out)) hb); have n4_ := Aside0.mk (hbox); have n5_ := Aside0.mk ((by rw [hg]; exact (below_size (by repeat (first | (with_reducible first | exact HB.out | apply below_alloc | apply pw_below_drewN | apply below_drew1 | refine below_set ?_ GE218.out) | exact HB.out))) : w.heap.size ≤ gb220)); have n6_ := Aside0.mk ((by rw [hg]; exact (below_size (by repeat (first | (with_reducible first | exact HB.out | apply below_alloc | apply pw_below_drewN | apply below_drew1 | refine below_set ?_ GE218.out) | exact HB.out))) : w.heap.size ≤ gb220)); have n7_ := Aside0.mk ((by rw [hg]; exact Nat.ne_of_lt (blk_lt (g := gb218) (o := .cells #[.int .i64 ((rd_T81 l1 x42_3).f0), .int .i64 ((rd_T81 l1 x42_3).f1)] 81 (0, 0)) (by (with_reducible repeat (first | refine blk_drewN ?_ _ | refine blk_drew ?_ | refine blk_alloc ?_ _)); refine blk_put (cs := #[.int .i64 ((rd_T81 l1 x42_3).f0), .int .i64 0]) ?_ 1 _ rfl; (with_reducible repeat (first | refine blk_drewN ?_ _ | refine blk_drew ?_ | refine blk_alloc ?_ _)); refine blk_put (cs := #[.int .i64 0, .int .i64 0]) ?_ 0 _ rfl; (with_reducible repeat (first | refine blk_drewN ?_ _ | refine blk_drew ?_ | refine blk_alloc ?_ _)); exact BK218.out)) : gb218 ≠ gb220)); have n8_ := Aside0.mk ((by rw [hg]; exact Nat.ne_of_gt (blk_lt (g := gb218) (o := .cells #[.int .i64 ((rd_T81 l1 x42_3).f0), .int .i64 ((rd_T81 l1 x42_3).f1)] 81 (0, 0)) (by (with_reducible repeat (first | refine blk_drewN ?_ _ | refine blk_drew ?_ | refine blk_alloc ?_ _)); refine blk_put (cs := #[.int .i64 ((rd_T81 l1 x42_3).f0), .int .i64 0]) ?_ 1 _ rfl; (with_reducible repeat (first | refine blk_drewN ?_ _ | refine blk_drew ?_ | refine blk_alloc ?_ _)); refine blk_put (cs := #[.int .i64 0, .int .i64 0]) ?_ 0 _ rfl; (with_reducible repeat (first | refine blk_drewN ?_ _ | refine blk_drew ?_ | refine blk_alloc ?_ _)); exact BK218.out)) : gb220 ≠ gb218)); clear HO_8; clear HO_40; clear BK218; clear HB; have HO_8 := n0_; have HO_40 := n1_; have BK218 := n2_; have HB := n3_; have BK220 := n4_; have GW220 := n5_; have GE220 := n6_; have NB218_220 := n7_; have NB220_218 := n8_; clear n0_ n1_ n2_ n3_ n4_ n5_ n6_ n7_ n8_; clear hb hbox hg; have hnb53 := NB220_218.out; have hnc53 := NB218_220.out; have hcz54_0 : w52.cell? ⟨gb220, 0, none⟩ = some (.int .i64 0) := (blk_cell BK220.out 0).trans rfl; have hcz54_1 : w52.cell? ⟨gb220, 1, none⟩ = some (.int .i64 0) := (blk_cell BK220.out 1).trans rfl; have hcz54_2 : w52.cell? ⟨gb220, 2, none⟩ = some (.int .i64 0) := (blk_cell BK220.out 2).trans rfl; have hcz54_3 : w52.cell? ⟨gb220, 3, none⟩ = some (.int .i64 0) := (blk_cell BK220.out 3).trans rfl; have hfz54_0 := blk_frozen BK220.out 0; have hfz54_1 := blk_frozen BK220.out 1; have hfz54_2 := blk_frozen BK220.out 2; have hfz54_3 := blk_frozen BK220.out 3))
                          go_roundg k3
                          case measure => have := HJ3.out; have := HK2.out; have := HK3.out; omega
                          case rel => exact ⟨(x8_3), (wrap64 (x42_3 + 1)), (by first | rfl | (simp; done) | (simp [*]; done)), H', ⟨by have := HJ3.out; have := HK2.out; have := HK3.out; omega⟩, ⟨by (with_reducible repeat (first | apply Kd.R_alloc | apply Kd.R_drewN | apply Kd.R_drew)); exact Kd.R_mono (Kd.R_far (p := ⟨gb220, 3, none⟩) (Kd.R_far (p := ⟨gb220, 2, none⟩) (Kd.R_far (p := ⟨gb220, 1, none⟩) (Kd.R_far (p := ⟨gb220, 0, none⟩) (Kd.R_types HO_8.out BK220.out (by decide)) (fun _ hk => hk.2) (.int .i64 ((rd_T54 l0 ((rd_T81 l1 x42_3).f0)).f0.f0))) (fun _ hk => hk.2) (.int .i64 ((rd_T54 l0 ((rd_T81 l1 x42_3).f0)).f0.f1))) (fun _ hk => hk.2) (.int .i64 ((rd_T54 l0 ((rd_T81 l1 x42_3).f0)).f1))) (fun _ hk => hk.2) (.int .i64 ((rd_T54 l0 ((rd_T81 l1 x42_3).f0)).f2))) (fun _ hk => hk.1)⟩, ⟨by (with_reducible repeat (first | apply Kd.R_alloc | apply Kd.R_drewN | apply Kd.R_drew)); exact Kd.R_mono (Kd.R_far (p := ⟨gb220, 3, none⟩) (Kd.R_far (p := ⟨gb220, 2, none⟩) (Kd.R_far (p := ⟨gb220, 1, none⟩) (Kd.R_far (p := ⟨gb220, 0, none⟩) (Kd.R_types HO_40.out BK220.out (by decide)) (fun _ hk => hk.2) (.int .i64 ((rd_T54 l0 ((rd_T81 l1 x42_3).f0)).f0.f0))) (fun _ hk => hk.2) (.int .i64 ((rd_T54 l0 ((rd_T81 l1 x42_3).f0)).f0.f1))) (fun _ hk => hk.2) (.int .i64 ((rd_T54 l0 ((rd_T81 l1 x42_3).f0)).f1))) (fun _ hk => hk.2) (.int .i64 ((rd_T54 l0 ((rd_T81 l1 x42_3).f0)).f2))) (fun _ hk => hk.1)⟩, ⟨by repeat (first | (with_reducible first | exact HB.out | apply below_alloc | apply pw_below_drewN | apply below_drew1 | refine below_set ?_ GE218.out | refine below_set ?_ GE220.out) | exact HB.out)⟩⟩
                     · rw [if_neg c28] at H
                       exact absurd H (by simp)
                   · rw [if_neg c27] at H
                     exact absurd H (by simp)
                 · rw [if_neg c26] at H
                   exact absurd H (by simp)
               · rw [if_neg c25] at H
                 exact absurd H (by simp)
             · rw [if_neg c24] at H
               exact absurd H (by simp)
           · rw [if_neg c23] at H
             have c23b0 : decide (x42_3 < (t213.length : Int)) = false := decide_eq_false c23
             clear c23
             as_aux_lemma =>
              simp only [Option.some.injEq, Prod.mk.injEq] at H
              obtain ⟨rfl, rfl⟩ := H
              go_wp2
              go_ret2
              exact ⟨_, by first | rfl | (simp [errW_none, errW_some] <;> rfl) | (simp [*, errW_none, errW_some] <;> rfl), by (with_reducible repeat (first | apply Kd.R_alloc | apply Kd.R_drewN | apply Kd.R_drew)); exact Kd.R_mono HO_8.out (fun _ hk => trivial), by repeat (first | (with_reducible first | exact HB.out | apply below_alloc | apply pw_below_drewN | apply below_drew1) | exact HB.out)⟩

/-! ### laws_b10Gap: function 52 -/
def laws_b10Gap.f (a0 : Nat) (a1 : Nat) : Option (Nat) := if (FloatKind.f64.format.order a0 a1 == some .lt) = true then (if FOk .sub .f64 a1 a0 = true then (some (fq .sub .f64 a1 a0)) else (none)) else (if FOk .sub .f64 a0 a1 = true then (some (fq .sub .f64 a0 a1)) else (none))
set_option maxHeartbeats 8000000 in
set_option maxRecDepth 100000 in
theorem laws_b10Gap.calls (a0 : Nat) (a1 : Nat) (r : Nat) (w : World) (h : laws_b10Gap.f a0 a1 = some r) :
 Calls Try.prog 52 #[.float .f64 a0, .float .f64 a1] w fun e w' => e = .returned (.float .f64 r) ∧ Drawn0 w w' := by
 have H : (if (FloatKind.f64.format.order a0 a1 == some .lt) = true then (if FOk .sub .f64 a1 a0 = true then (some (fq .sub .f64 a1 a0)) else (none)) else (if FOk .sub .f64 a0 a1 = true then (some (fq .sub .f64 a0 a1)) else (none))) = some r := h
 clear h
 by_cases c3 : (FloatKind.f64.format.order a0 a1 == some .lt) = true
 · rw [if_pos c3] at H
   have c3b0 : (FloatKind.f64.format.order a0 a1 == some .lt) = true := c3
   (try (have c3b1 : decide (FloatKind.f64.format.order a0 a1 = some .lt) = true := by simpa using c3))
   (try (have c3b2 : (FloatKind.f64.format.order a0 a1 == some .lt) = true := by simpa using c3))
   clear c3
   by_cases c4 : FOk .sub .f64 a1 a0 = true
   · rw [if_pos c4] at H
     have fe4 := fun t w => frun (P := Try.prog) c4 t w
     have c4b0 : FOk .sub .f64 a1 a0 = true := c4
     clear c4
     as_aux_lemma =>
      obtain rfl := Option.some.inj H
      go_enter Try.func52, Try.ntmps52
      go_wp2
      go_ret
      exact ⟨by first | rfl | (simp; done) | (simp [*]; done), by repeat (first | exact Drawn0.refl _ | apply Drawn0.step)⟩
   · rw [if_neg c4] at H
     exact absurd H (by simp)
 · rw [if_neg c3] at H
   have c3b0 : (FloatKind.f64.format.order a0 a1 == some .lt) = false := by simpa using c3
   (try (have c3b1 : decide (FloatKind.f64.format.order a0 a1 = some .lt) = false := by simpa using c3))
   (try (have c3b2 : (FloatKind.f64.format.order a0 a1 == some .lt) = false := by simpa using c3))
   (try (have c3b3 : ¬ (FloatKind.f64.format.order a0 a1 = some .lt) := by simpa using c3))
   clear c3
   by_cases c5 : FOk .sub .f64 a0 a1 = true
   · rw [if_pos c5] at H
     have fe5 := fun t w => frun (P := Try.prog) c5 t w
     have c5b0 : FOk .sub .f64 a0 a1 = true := c5
     clear c5
     as_aux_lemma =>
      obtain rfl := Option.some.inj H
      go_enter Try.func52, Try.ntmps52
      go_wp2
      go_ret
      exact ⟨by first | rfl | (simp; done) | (simp [*]; done), by repeat (first | exact Drawn0.refl _ | apply Drawn0.step)⟩
   · rw [if_neg c5] at H
     exact absurd H (by simp)

end Go.Proofs.Ytekcngoemeadlaa.Z
