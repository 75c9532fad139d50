/-
  Contracts of the program's functions, each a plain Lean function beside the machine's call: written by this session's program over the kit's print.
-/
import Derived.Test.YtncckihaacceaaaSx0
import Derived.Test.YtncckihaacceaaaSx1
import Derived.Test.YtncckihaacceaaaSx2
namespace Go.Proofs.Ytncckihaacceaaa.S
open Go.RowKit Go.Proofs.YtncckihaacceaaaW.PrintWords Go.Proofs.YtncckihaacceaaaW.PrintLast Go.Proofs.YtncckihaacceaaaW.PrintMore
attribute [local go_sem] max2_int min2_int max_two min_two max_three min_three max_four min_four   -- for this text's walks alone
set_option linter.unusedVariables false
set_option linter.unusedSimpArgs false

attribute [local go_sem high] eqA88
/-! ### spec_l02Steering: function 79 -/
def spec_l02Steering.l0 : Nat → List (S88) → List C64 → Int → Int → Int → Option (List C64)
 | 0, _, _, _, _, _ => none
 | k + 1, x0, x5, x6, x162000, x162001 => if x6 < (x0.length : Int) then (if 0 ≤ x6 then ((spec_l02Steps.f ((rd_T88 x0 x6).f0) ((rd_T88 x0 x6).f1) x162000 x162001).bind fun t166 => (if FOk .quo .f64 (floatOfInt .f64 t166) 4661225614328463360 = true then ((spec_l01Phasor.f k (fq .quo .f64 (floatOfInt .f64 t166) 4661225614328463360)).bind fun t167 => (if x5.length < 17592186044416 then (spec_l02Steering.l0 k x0 (x5 ++ [t167]) (wrap64 (x6 + 1)) x162000 x162001) else (none))) else (none))) else (none)) else (some x5)
def spec_l02Steering.f (k : Nat) (l0 : List (S88)) (a1_0 : Int) (a1_1 : Int) : Option (List C64) := spec_l02Steering.l0 k l0 (([] : List C64)) 0 a1_0 a1_1
theorem spec_l02Steering.mono_l : ∀ k, (∀ y0 y1 y2 y3 y4, LeO (spec_l02Steering.l0 k y0 y1 y2 y3 y4) (spec_l02Steering.l0 (k + 1) y0 y1 y2 y3 y4))
 | 0 => fun _ _ _ _ _ r h => by simp [spec_l02Steering.l0] at h
 | k + 1 => by
  have ih0 := spec_l02Steering.mono_l k
  · intro y0 y1 y2 y3 y4
    unfold spec_l02Steering.l0
    repeat' first
    | (with_reducible exact ih0 _ _ _ _ _)
    | (with_reducible exact spec_l01Phasor.mono _ _)
    | (with_reducible exact LeO.refl _)
    | (with_reducible exact LeO.none _)
    | (with_reducible refine LeO.ite ?_ ?_)
    | (with_reducible refine LeO.bind ?_ (fun _ => ?_))
    | exact ih0 _ _ _ _ _
    | exact spec_l01Phasor.mono _ _
    | exact LeO.none _
    | refine LeO.ite ?_ ?_
    | refine LeO.bind ?_ (fun _ => ?_)
theorem spec_l02Steering.mono : ∀ a0 a1 a2 k, LeO (spec_l02Steering.f k a0 a1 a2) (spec_l02Steering.f (k + 1) a0 a1 a2) := by
 intro a0 a1 a2 k
 have ih0 := spec_l02Steering.mono_l k
 unfold spec_l02Steering.f
 repeat' first
  | (with_reducible exact ih0 _ _ _ _ _)
  | (with_reducible exact spec_l01Phasor.mono _ _)
  | (with_reducible exact LeO.refl _)
  | (with_reducible exact LeO.none _)
  | (with_reducible refine LeO.ite ?_ ?_)
  | (with_reducible refine LeO.bind ?_ (fun _ => ?_))
  | exact ih0 _ _ _ _ _
  | exact spec_l01Phasor.mono _ _
  | exact LeO.none _
  | refine LeO.ite ?_ ?_
  | refine LeO.bind ?_ (fun _ => ?_)
def spec_l02Steering.T5 : Bool × List (List Nat × List Nat) := (true, [([], []), ([], []), ([], []), ([1, 2], [1, 2]), ([3], [3]), ([], []), ([4, 5], [4, 5]), ([6], [6]), ([7], [7]), ([8, 6], [8]), ([9], [9]), ([0, 10, 9], [0, 10]), ([11, 11, 0, 1, 2, 3, 4, 5, 6, 7, 8, 9, 10, 11], [0, 11])])
def spec_l02Steering.B5 : List Nat := [0, 0, 0, 6, 14, 0, 62, 126, 254, 510, 1022, 2047, 4095]
theorem spec_l02Steering.tab5 : rtab .any (opsOf Try.f79 5) = spec_l02Steering.T5 := by kernel_rfl
theorem spec_l02Steering.bits5 : waitsOk spec_l02Steering.T5.2 spec_l02Steering.B5 = true := by kernel_rfl
set_option maxHeartbeats 8000000 in
set_option maxRecDepth 100000 in
theorem spec_l02Steering.calls (k : Nat) (A0 : Option Addr) (c0 : Nat) (l0 : List (S88)) (a1_0 : Int) (a1_1 : Int) (r : List C64) (w : World) (hr0 : Kd.C k88 w A0 l0.length l0) (hc0 : l0.length ≤ c0) (h : spec_l02Steering.f k l0 a1_0 a1_1 = some r) :
 Calls Try.prog 79 #[.slice A0 l0.length c0, .agg #[.int .i64 a1_0, .int .i64 a1_1]] w fun e w' => ∃ v0_ : Value, e = .returned (v0_) ∧ Kd.R Kd.c64e 94 w' w.heap.size (fun _ => True) v0_ r ∧ Below w.heap.size w w' := by
 have hu2 := Try.underlying2
 have hu65 := Try.underlying65
 have hu67 := Try.underlying67
 have hu88 := Try.underlying88
 have HR0 := Aside0.mk hr0
 have HC0 := Aside0.mk hc0
 clear hr0 hc0
 have HB := Aside0.mk (Below.refl w.heap.size w)
 have H : (spec_l02Steering.l0 k l0 (([] : List C64)) 0 a1_0 a1_1) = some r := h
 clear h
 obtain ⟨y162, hy162⟩ : ∃ y_ : List C64, y_ = (([] : List C64)) := ⟨_, rfl⟩
 replace H : (spec_l02Steering.l0 k l0 y162 0 a1_0 a1_1) = some r := by first | (rw [hy162]; with_reducible exact H) | (have H2_ := (Option.bind_some _ _).symm.trans H; rw [hy162]; with_reducible exact H2_) | (have H2_ := (Option.bind_some _ _).symm.trans H; with_reducible exact H2_) | with_reducible exact H | (rw [hy162]; exact H) | exact H
 have Ny162 := Aside0.mk hy162
 clear hy162
 have H' := Aside0.mk H
 clear H
 go_enter Try.func79, Try.ntmps79
 go_wp2_with (first | ((with_reducible refine gate_dst (N := 3) rfl ?_); refine box_event ?hg (N := 3) ?hd (cs := #[.int .i64 a1_0, .int .i64 a1_1]) (t := 67) ?hr ?_; (case hd => rfl); (case hg => rfl); (case hr => first | (go_simp; done) | (go_simp; rfl)); intro gb161 hg w3 hbox hb; have n0_ := Aside0.mk (below_step (by repeat (first | (with_reducible first | exact HB.out | apply below_alloc | apply pw_below_drewN | apply below_drew1) | exact HB.out)) hb); have n1_ := Aside0.mk (hbox); have n2_ := Aside0.mk ((by rw [hg]; exact (below_size (by repeat (first | (with_reducible first | exact HB.out | apply below_alloc | apply pw_below_drewN | apply below_drew1) | exact HB.out))) : w.heap.size ≤ gb161)); have n3_ := Aside0.mk ((by rw [hg]; exact (below_size (by repeat (first | (with_reducible first | exact HB.out | apply below_alloc | apply pw_below_drewN | apply below_drew1) | exact HB.out))) : w.heap.size ≤ gb161)); clear HB; have HB := n0_; have BK161 := n1_; have GW161 := n2_; have GE161 := n3_; clear n0_ n1_ n2_ n3_; clear hb hbox hg) | ((with_reducible refine gate_dst (N := 7) rfl ?_); refine Kd.R_lit Kd.c64e _ 94 ?hg (N := 7) ?hd (xs := ([] : List C64)) (inner := []) (ok := fun _ => True) (okp := fun _ => True) ?hr ?hp (fun _ hk => hk) trivial (Below.refl _ _) (Nat.le_refl _) (by simp) ?_; (case hd => rfl); (case hg => rfl); (case hr => first | (go_simp; done) | (go_simp; rfl)); (case hp => exact (Reps.none _ _)); intro v163 w4 ho5 hb hg_ hnew_; clear hg_ hnew_; (first | rw [← Ny162.out] at ho5 | (simp only [Int.reduceToNat] at ho5; rw [← Ny162.out] at ho5)); have n0_ := Aside0.mk (Kd.R_lower ho5 (below_size (by repeat (first | (with_reducible first | exact HB.out | apply below_alloc | apply pw_below_drewN | apply below_drew1 | refine below_set ?_ GE161.out) | exact HB.out)))); have n1_ := Aside0.mk (blk_below (g := gb161) (o := .cells #[.int .i64 a1_0, .int .i64 a1_1] 67 (0, 0)) (by (with_reducible repeat (first | refine blk_drewN ?_ _ | refine blk_drew ?_ | refine blk_alloc ?_ _)); exact BK161.out) hb); have n2_ := Aside0.mk (below_step (by repeat (first | (with_reducible first | exact HB.out | apply below_alloc | apply pw_below_drewN | apply below_drew1 | refine below_set ?_ GE161.out) | exact HB.out)) hb); clear BK161; clear HB; have HO164 := n0_; have BK161 := n1_; have HB := n2_; clear n0_ n1_ n2_; clear hb ho5))
 go_loopg [5, 6] k (fun kq v5 v6 w' => ∃ (x5_1 : List C64) (x6_1 : Int), v6 = .int .i64 x6_1 ∧ Aside0 (spec_l02Steering.l0 kq l0 x5_1 x6_1 a1_0 a1_1 = some r) ∧ Aside0 (kq ≤ k) ∧ Aside0 (Kd.R Kd.c64e 94 w' w.heap.size (fun _ => True) v5 x5_1) ∧ Aside0 (w'.heap[gb161]? = some (.cells #[.int .i64 a1_0, .int .i64 a1_1] 67 (0, 0))) ∧ Aside0 (Below w.heap.size w w'))
 case atStart => exact ⟨(y162), (0), (by first | rfl | (simp; done) | (simp [*]; done)), H', ⟨Nat.le_refl _⟩, ⟨by (with_reducible repeat (first | apply Kd.R_alloc | apply Kd.R_drewN | apply Kd.R_drew)); exact HO164.out⟩, ⟨by (with_reducible repeat (first | refine blk_drewN ?_ _ | refine blk_drew ?_ | refine blk_alloc ?_ _)); exact BK161.out⟩, ⟨by repeat (first | (with_reducible first | exact HB.out | apply below_alloc | apply pw_below_drewN | apply below_drew1 | refine below_set ?_ GE161.out) | exact HB.out)⟩⟩
 case round =>
  clear H'
  (try clear p2)
  obtain ⟨x5_1, x6_1, rfl, HA, HK1, HO_5, BK161, HB⟩ := hrel
  cases gk with
  | zero => exact absurd HA.out (by simp [spec_l02Steering.l0])
  | succ k1 =>
   have H := HA.out
   clear HA
   simp only [spec_l02Steering.l0] at H
   by_cases c6 : x6_1 < (l0.length : Int)
   · rw [if_pos c6] at H
     have c6b0 : decide (x6_1 < (l0.length : Int)) = true := decide_eq_true c6
     clear c6
     by_cases c7 : 0 ≤ x6_1
     · rw [if_pos c7] at H
       have c7b0 : decide (0 ≤ x6_1) = true := decide_eq_true c7
       clear c7
       replace H := Option.bind_eq_some_iff.mp H
       obtain ⟨t166, A80, H⟩ := H
       replace H : (if FOk .quo .f64 (floatOfInt .f64 t166) 4661225614328463360 = true then ((spec_l01Phasor.f k1 (fq .quo .f64 (floatOfInt .f64 t166) 4661225614328463360)).bind fun t167 => (if x5_1.length < 17592186044416 then (spec_l02Steering.l0 k1 l0 (x5_1 ++ [t167]) (wrap64 (x6_1 + 1)) a1_0 a1_1) else (none))) else (none)) = some r := H
       have A8 := Aside0.mk A80
       clear A80
       by_cases c9 : FOk .quo .f64 (floatOfInt .f64 t166) 4661225614328463360 = true
       · rw [if_pos c9] at H
         have fe9 := fun t w => frun (P := Try.prog) c9 t w
         have c9b0 : FOk .quo .f64 (floatOfInt .f64 t166) 4661225614328463360 = true := c9
         clear c9
         replace H := Option.bind_eq_some_iff.mp H
         obtain ⟨t167, A100, H⟩ := H
         replace H : (if x5_1.length < 17592186044416 then (spec_l02Steering.l0 k1 l0 (x5_1 ++ [t167]) (wrap64 (x6_1 + 1)) a1_0 a1_1) else (none)) = some r := H
         have A10 := Aside0.mk A100
         clear A100
         by_cases c11 : x5_1.length < 17592186044416
         · rw [if_pos c11] at H
           have LMc11 := Aside0.mk c11
           clear c11
           obtain ⟨y168, hy168⟩ : ∃ y_ : List C64, y_ = (x5_1 ++ [t167]) := ⟨_, rfl⟩
           replace H : (spec_l02Steering.l0 k1 l0 y168 (wrap64 (x6_1 + 1)) a1_0 a1_1) = some r := by first | (rw [hy168]; with_reducible exact H) | (have H2_ := (Option.bind_some _ _).symm.trans H; rw [hy168]; with_reducible exact H2_) | (have H2_ := (Option.bind_some _ _).symm.trans H; with_reducible exact H2_) | with_reducible exact H | (rw [hy168]; exact H) | exact H
           have Ny168 := Aside0.mk hy168
           clear hy168
           have H' := Aside0.mk H
           clear H
           try go_wp2
           have n0_ := Aside0.mk (Kd.R_drew HO_5.out)
           have n1_ := Aside0.mk (blk_drew BK161.out)
           have n2_ := Aside0.mk (below_drew1 HB.out)
           clear HO_5
           clear BK161
           clear HB
           have HO_5 := n0_
           have BK161 := n1_
           have HB := n2_
           clear n0_ n1_ n2_
           have p165 : 0 ≤ (x6_1 : Int) := of_decide_eq_true (by first | (with_reducible assumption) | assumption)
           have q165 : x6_1 < (l0.length : Int) := of_decide_eq_true (by first | (with_reducible assumption) | assumption)
           obtain ⟨ad165, e165, hx165_0, hx165_1⟩ := at_T88 HR0.out x6_1 p165 q165
           have hw165_1 := hx165_1
           have hw165_0 := hx165_0
           cases e165
           replace hx165_0 := (HB.out.cell (World.block_lt_of_cell? w _ hx165_0)).trans hx165_0
           replace hx165_1 := (HB.out.cell (World.block_lt_of_cell? w _ hx165_1)).trans hx165_1
           replace p165 := eq_true p165
           replace q165 := eq_true q165
           refine start_ (n := 13) (S := fun w' => w'.cell? ⟨gb161, 0, none⟩ = some (.int .i64 a1_0) ∧ w'.cell? ⟨gb161, 1, none⟩ = some (.int .i64 a1_1) ∧ w'.cell? (ad165.add ((x6_1).toNat * 2)) = some (.int .i64 ((rd_T88 l0 x6_1).f0)) ∧ w'.cell? ⟨(ad165.add ((x6_1).toNat * 2)).block, (ad165.add ((x6_1).toNat * 2)).off + 1, none⟩ = some (.int .i64 ((rd_T88 l0 x6_1).f1))) (ds := []) #[false, false, false, false, false, false, false, false, false, false, false, false, false] (by kernel_rfl) rfl rfl ⟨(blk_cell BK161.out 0).trans rfl, (blk_cell BK161.out 1).trans rfl, ((HB.out.cell (World.block_lt_of_cell? w _ hw165_0)).trans hw165_0), ((HB.out.cell (World.block_lt_of_cell? w _ hw165_1)).trans hw165_1)⟩ (fun hHeld => ?_); refine with_tabW spec_l02Steering.tab5 spec_l02Steering.bits5 (fun HT_ HW_ => ?_)
           generalize wr.drew = w12 at HO_5 BK161 HB hx165_0 hx165_1 hHeld ⊢
           refine pure_ (i := 0) (N := some 14) (v := ?_) (a' := ?_) #[true, false, false, false, false, false, false, false, false, false, false, false, false] rfl rfl (any_of HT_.out (by kernel_rfl)) (fun _ _ _ h => h) (Or.inl ⟨by rfl, ?_⟩) ?_ ?_; rotate_left 4
           refine pure_ (i := 1) (N := some 15) (v := ?_) (a' := ?_) #[true, true, false, false, false, false, false, false, false, false, false, false, false] rfl rfl (any_of HT_.out (by kernel_rfl)) (fun _ _ _ h => h) (Or.inl ⟨by rfl, ?_⟩) ?_ ?_; rotate_left 4
           refine pure_ (i := 2) (N := some 16) (v := ?_) (a' := ?_) #[true, true, true, false, false, false, false, false, false, false, false, false, false] rfl rfl (any_of HT_.out (by kernel_rfl)) (fun _ _ _ h => h) (Or.inl ⟨by rfl, ?_⟩) ?_ ?_; rotate_left 4
           refine pure_ (i := 3) (N := some 17) (v := ?_) (a' := ?_) #[true, true, true, true, false, false, false, false, false, false, false, false, false] rfl rfl (any_of HT_.out (by kernel_rfl)) (fun _ _ _ h => h) (Or.inl ⟨by rfl, ?_⟩) ?_ ?_; rotate_left 4
           rotate_left; iterate 4 (rotate_left; (intro w'; go_simp; with_reducible rfl); rotate_left; (simp only [Act.put, List.setIfInBounds_toArray, List.set_cons_zero, List.set_cons_succ, i64_w, i32_w]; rfl))
           refine take_ (i := 4) (N := some 18) (v := ?_) (a' := ?_) #[true, true, true, true, true, false, false, false, false, false, false, false, false] rfl rfl (take_ofW HT_.out HW_.out (by kernel_rfl)) (fun _ _ _ h => h) (Or.inl ⟨by rfl, ?_⟩) hHeld ?_ ?_
           rotate_left
           · rintro w' ⟨s0, s1, s2, s3⟩
             go_simp
             with_reducible rfl
           rotate_left
           · simp only [Act.put, List.setIfInBounds_toArray, List.set_cons_zero, List.set_cons_succ, i64_w, i32_w]
             rfl
           refine take_ (i := 5) (N := some 19) (v := ?_) (a' := ?_) #[true, true, true, true, true, true, false, false, false, false, false, false, false] rfl rfl (take_ofW HT_.out HW_.out (by kernel_rfl)) (fun _ _ _ h => h) (Or.inl ⟨by rfl, ?_⟩) hHeld ?_ ?_
           rotate_left
           · rintro w' ⟨s0, s1, s2, s3⟩
             go_simp
             with_reducible rfl
           rotate_left
           · simp only [Act.put, List.setIfInBounds_toArray, List.set_cons_zero, List.set_cons_succ, i64_w, i32_w]
             rfl
           refine one_ (i := 6) (N := some 20) #[true, true, true, true, true, true, true, false, false, false, false, false, false] rfl rfl (one_of HT_.out (by kernel_rfl)) (by decide) (fun K hK => ?_)
           refine goes_ Try.func107 (by kernel_rfl) rfl #[.agg #[.int .i64 ((rd_T88 l0 x6_1).f0), .int .i64 ((rd_T88 l0 x6_1).f1)], .agg #[.int .i64 a1_0, .int .i64 a1_1]] (by rfl) rfl rfl (by (try simp only [List.map_toArray, List.map_cons, List.map_nil]); first | done | rfl | (simp only [List.length_drop, List.length_take]; rfl)) ?_
           with_reducible refine (spec_l02Steps.calls ((rd_T88 l0 x6_1).f0) ((rd_T88 l0 x6_1).f1) a1_0 a1_1 t166 _ A8.out).mono ?_
           rintro e w13 ⟨rfl, hb⟩
           refine ⟨_, rfl, ?_⟩
           have n0_ := Aside0.mk (Kd.R_below (by (with_reducible repeat (first | apply Kd.R_alloc | apply Kd.R_drewN | apply Kd.R_drew)); exact HO_5.out) hb)
           have n1_ := Aside0.mk (blk_below (g := gb161) (o := .cells #[.int .i64 a1_0, .int .i64 a1_1] 67 (0, 0)) (by (with_reducible repeat (first | refine blk_drewN ?_ _ | refine blk_drew ?_ | refine blk_alloc ?_ _)); exact BK161.out) hb)
           have n2_ := Aside0.mk (below_step (by repeat (first | (with_reducible first | exact HB.out | apply below_alloc | apply pw_below_drewN | apply below_drew1 | refine below_set ?_ GE161.out) | exact HB.out)) hb)
           clear HO_5
           clear BK161
           clear HB
           have HO_5 := n0_
           have BK161 := n1_
           have HB := n2_
           clear n0_ n1_ n2_
           (try clear hb)
           (try clear hb2)
           (try clear hk)
           (try clear hi)
           refine hK.out _ _ ⟨(blk_cell BK161.out 0).trans rfl, (blk_cell BK161.out 1).trans rfl, ((HB.out.cell (World.block_lt_of_cell? w _ hw165_0)).trans hw165_0), ((HB.out.cell (World.block_lt_of_cell? w _ hw165_1)).trans hw165_1)⟩ (fun hHeld => ?_)
           clear hK K
           refine norm_ (a' := ?_) ?_ ?_
           rotate_left
           · show Act.put _ (some 20) _ = _
             simp only [Act.put, List.setIfInBounds_toArray, List.set_cons_zero, List.set_cons_succ, i64_w, i32_w]
             rfl
           refine pure_ (i := 7) (N := some 21) (v := ?_) (a' := ?_) #[true, true, true, true, true, true, true, true, false, false, false, false, false] rfl rfl (any_of HT_.out (by kernel_rfl)) (fun _ _ _ h => h) (Or.inl ⟨by rfl, ?_⟩) ?_ ?_; rotate_left 4
           refine pure_ (i := 8) (N := some 22) (v := ?_) (a' := ?_) #[true, true, true, true, true, true, true, true, true, false, false, false, false] rfl rfl (any_of HT_.out (by kernel_rfl)) (fun _ _ _ h => h) (Or.inl ⟨by rfl, ?_⟩) ?_ ?_; rotate_left 4
           rotate_left; iterate 2 (rotate_left; (intro w'; go_simp; with_reducible rfl); rotate_left; (simp only [Act.put, List.setIfInBounds_toArray, List.set_cons_zero, List.set_cons_succ, i64_w, i32_w]; rfl))
           refine one_ (i := 9) (N := some 23) #[true, true, true, true, true, true, true, true, true, true, false, false, false] rfl rfl (one_of HT_.out (by kernel_rfl)) (by decide) (fun K hK => ?_)
           refine goes_ Try.func106 (by kernel_rfl) rfl #[.float .f64 (fq .quo .f64 (floatOfInt .f64 t166) 4661225614328463360)] (by rfl) rfl rfl (by (try simp only [List.map_toArray, List.map_cons, List.map_nil]); first | done | rfl | (simp only [List.length_drop, List.length_take]; rfl)) ?_
           with_reducible refine (spec_l01Phasor.calls k1 (fq .quo .f64 (floatOfInt .f64 t166) 4661225614328463360) t167 _ A10.out).mono ?_
           rintro e w14 ⟨rfl, hb⟩
           refine ⟨_, rfl, ?_⟩
           have n0_ := Aside0.mk (Kd.R_below (by (with_reducible repeat (first | apply Kd.R_alloc | apply Kd.R_drewN | apply Kd.R_drew)); exact HO_5.out) hb)
           have n1_ := Aside0.mk (blk_below (g := gb161) (o := .cells #[.int .i64 a1_0, .int .i64 a1_1] 67 (0, 0)) (by (with_reducible repeat (first | refine blk_drewN ?_ _ | refine blk_drew ?_ | refine blk_alloc ?_ _)); exact BK161.out) hb)
           have n2_ := Aside0.mk (below_step (by repeat (first | (with_reducible first | exact HB.out | apply below_alloc | apply pw_below_drewN | apply below_drew1 | refine below_set ?_ GE161.out) | exact HB.out)) hb)
           clear HO_5
           clear BK161
           clear HB
           have HO_5 := n0_
           have BK161 := n1_
           have HB := n2_
           clear n0_ n1_ n2_
           (try clear hb)
           (try clear hb2)
           (try clear hk)
           (try clear hi)
           refine hK.out _ _ ⟨(blk_cell BK161.out 0).trans rfl, (blk_cell BK161.out 1).trans rfl, ((HB.out.cell (World.block_lt_of_cell? w _ hw165_0)).trans hw165_0), ((HB.out.cell (World.block_lt_of_cell? w _ hw165_1)).trans hw165_1)⟩ (fun hHeld => ?_)
           clear hK K
           refine norm_ (a' := ?_) ?_ ?_
           rotate_left
           · show Act.put _ (some 23) _ = _
             simp only [Act.put, List.setIfInBounds_toArray, List.set_cons_zero, List.set_cons_succ, i64_w, i32_w]
             rfl
           refine one_ (i := 10) (N := some 24) #[true, true, true, true, true, true, true, true, true, true, true, false, false] rfl rfl (one_of HT_.out (by kernel_rfl)) (by decide) (fun K hK => ?_)
           refine value_ (w1 := ?_) (v := ?_) (by rfl) rfl ?_ ?_
           rotate_left 2
           · go_simp
             constructor
             · rfl
             · rfl
           refine hK.out _ _ ⟨(blk_cell (blk_alloc BK161.out _) 0).trans rfl, (blk_cell (blk_alloc BK161.out _) 1).trans rfl, (World.cell?_alloc_lt _ _ _ (World.block_lt_of_cell? _ _ (((HB.out.cell (World.block_lt_of_cell? w _ hw165_0)).trans hw165_0)))).trans (((HB.out.cell (World.block_lt_of_cell? w _ hw165_0)).trans hw165_0)), (World.cell?_alloc_lt _ _ _ (World.block_lt_of_cell? _ _ (((HB.out.cell (World.block_lt_of_cell? w _ hw165_1)).trans hw165_1)))).trans (((HB.out.cell (World.block_lt_of_cell? w _ hw165_1)).trans hw165_1))⟩ (fun hHeld => ?_)
           clear hK K
           refine norm_ (a' := ?_) ?_ ?_
           rotate_left
           · show Act.put _ (some 24) _ = _
             simp only [Act.put, List.setIfInBounds_toArray, List.set_cons_zero, List.set_cons_succ, i64_w, i32_w]
             rfl
           refine one_ (i := 11) (N := some 25) #[true, true, true, true, true, true, true, true, true, true, true, true, false] rfl rfl (one_of HT_.out (by kernel_rfl)) (by decide) (fun K hK => ?_)
           refine Kd.R_append_step Kd.c64e (w0 := w) w.heap.size (by rfl) (.tmp 14) (.tmp 24) 45 94 (.complex .f32 0 0) 8 rfl Try.underlying45 info94 rfl (by decide) (by omega) u5 x5_1 t167 [.complex .f32 t167.re t167.im] (fun _ => True) (fun _ => False) rfl rfl ?aP (fun _ hk => hk.elim) ?aF ?aO ?aB ?aS ?aL ?_
           (case aP => exact rfl)
           (case aB => exact (by repeat (first | (with_reducible first | exact HB.out | apply below_alloc | apply pw_below_drewN | apply below_drew1 | refine below_set ?_ GE161.out) | exact HB.out)))
           (case aF => exact (fun _ _ => trivial))
           (case aO => exact (by (with_reducible repeat (first | apply Kd.R_alloc | apply Kd.R_drewN | apply Kd.R_drew)); exact HO_5.out))
           (case aS => exact (below_size (by repeat (first | (with_reducible first | exact HB.out | apply below_alloc | apply pw_below_drewN | apply below_drew1 | refine below_set ?_ GE161.out) | exact HB.out))))
           (case aL => have := LMc11.out; omega)
           intro v169 w15 ho hb hg hat
           rw [← Ny168.out] at ho
           have n0_ := Aside0.mk (blk_grown (g := gb161) (o := .cells #[.int .i64 a1_0, .int .i64 a1_1] 67 (0, 0)) (by (with_reducible repeat (first | refine blk_drewN ?_ _ | refine blk_drew ?_ | refine blk_alloc ?_ _)); exact BK161.out) hg (Kd.R_ne HO_5.out BK161.out (by decide)))
           have n1_ := Aside0.mk (hb)
           have n2_ := Aside0.mk (ho)
           clear BK161
           clear HB
           clear HO_5
           have BK161 := n0_
           have HB := n1_
           have HO170 := n2_
           clear n0_ n1_ n2_
           clear ho hb hg hat
           refine hK.out _ _ ⟨(blk_cell BK161.out 0).trans rfl, (blk_cell BK161.out 1).trans rfl, ((HB.out.cell (World.block_lt_of_cell? w _ hw165_0)).trans hw165_0), ((HB.out.cell (World.block_lt_of_cell? w _ hw165_1)).trans hw165_1)⟩ (fun hHeld => ?_)
           clear hK K
           refine norm_ (a' := ?_) ?_ ?_
           rotate_left
           · show Act.put _ (some 25) _ = _
             simp only [Act.put, List.setIfInBounds_toArray, List.set_cons_zero, List.set_cons_succ, i64_w, i32_w]
             rfl
           refine pure_ (i := 12) (N := some 5) (v := ?_) (a' := ?_) #[true, true, true, true, true, true, true, true, true, true, true, true, true] rfl rfl (any_of HT_.out (by kernel_rfl)) (fun _ _ _ h => h) (Or.inl ⟨by rfl, ?_⟩) ?_ ?_; rotate_left 4
           rotate_left; iterate 1 (rotate_left; (intro w'; go_simp; with_reducible rfl); rotate_left; (simp only [Act.put, List.setIfInBounds_toArray, List.set_cons_zero, List.set_cons_succ, i64_w, i32_w]; rfl))
           refine done_ (done_of HT_.out (by kernel_rfl)) ?_
           try go_wp2
           go_roundg k1
           case measure => have := HK1.out; omega
           case rel => exact ⟨(y168), (wrap64 (x6_1 + 1)), (by first | rfl | (simp; done) | (simp [*]; done)), H', ⟨by have := HK1.out; omega⟩, ⟨by (with_reducible repeat (first | apply Kd.R_alloc | apply Kd.R_drewN | apply Kd.R_drew)); exact HO170.out⟩, ⟨by (with_reducible repeat (first | refine blk_drewN ?_ _ | refine blk_drew ?_ | refine blk_alloc ?_ _)); exact BK161.out⟩, ⟨by repeat (first | (with_reducible first | exact HB.out | apply below_alloc | apply pw_below_drewN | apply below_drew1 | refine below_set ?_ GE161.out) | exact HB.out)⟩⟩
         · rw [if_neg c11] at H
           exact absurd H (by simp)
       · rw [if_neg c9] at H
         exact absurd H (by simp)
     · rw [if_neg c7] at H
       exact absurd H (by simp)
   · rw [if_neg c6] at H
     have c6b0 : decide (x6_1 < (l0.length : Int)) = false := decide_eq_false c6
     clear c6
     obtain rfl := Option.some.inj H
     go_wp2
     go_ret
     exact ⟨_, by first | rfl | (simp [errW_none, errW_some] <;> rfl) | (simp [*, errW_none, errW_some] <;> rfl), by (with_reducible repeat (first | apply Kd.R_alloc | apply Kd.R_drewN | apply Kd.R_drew)); exact HO_5.out, by repeat (first | (with_reducible first | exact HB.out | apply below_alloc | apply pw_below_drewN | apply below_drew1 | refine below_set ?_ GE161.out) | exact HB.out)⟩

/-! ### spec_l01CNarrow: function 108 -/
def spec_l01CNarrow.f (a0 : C64) : Option (C64) := (spec_l01Narrow.f a0.re).bind fun t171 => ((spec_l01Narrow.f a0.im).bind fun t172 => (some (⟨t171, t172⟩ : C64)))
set_option maxHeartbeats 8000000 in
set_option maxRecDepth 100000 in
theorem spec_l01CNarrow.calls (a0 : C64) (r : C64) (w : World) (h : spec_l01CNarrow.f a0 = some r) :
 Calls Try.prog 108 #[.complex .f64 a0.re a0.im] w fun e w' => e = .returned (.complex .f32 r.re r.im) ∧ Below w.heap.size w w' := by
 have HB := Aside0.mk (Below.refl w.heap.size w)
 have H : ((spec_l01Narrow.f a0.re).bind fun t171 => ((spec_l01Narrow.f a0.im).bind fun t172 => (some (⟨t171, t172⟩ : C64)))) = some r := h
 clear h
 replace H := Option.bind_eq_some_iff.mp H
 obtain ⟨t171, A20, H⟩ := H
 replace H : ((spec_l01Narrow.f a0.im).bind fun t172 => (some (⟨t171, t172⟩ : C64))) = some r := H
 have A2 := Aside0.mk A20
 clear A20
 replace H := Option.bind_eq_some_iff.mp H
 obtain ⟨t172, A30, H⟩ := H
 replace H : (some (⟨t171, t172⟩ : C64)) = some r := H
 have A3 := Aside0.mk A30
 clear A30
 obtain rfl := Option.some.inj H
 go_enter Try.func108, Try.ntmps108
 go_wp2_with (first | ((with_reducible refine gate_callee (f := 128) rfl ?_); refine goesL_ (some 5) rfl rfl Try.func128 (by kernel_rfl) rfl #[.float .f64 a0.re] rfl (by (try simp only [List.map_toArray, List.map_cons, List.map_nil]); first | done | rfl | (simp only [List.length_drop, List.length_take]; rfl)) ?_; (with_reducible refine (spec_l01Narrow.calls a0.re t171 _ A2.out).mono ?_); rintro e w' ⟨rfl, ⟨nd, rfl⟩⟩; refine ⟨_, rfl, ?_⟩) | ((with_reducible refine gate_callee (f := 128) rfl ?_); refine goesL_ (some 8) rfl rfl Try.func128 (by kernel_rfl) rfl #[.float .f64 a0.im] rfl (by (try simp only [List.map_toArray, List.map_cons, List.map_nil]); first | done | rfl | (simp only [List.length_drop, List.length_take]; rfl)) ?_; (with_reducible refine (spec_l01Narrow.calls a0.im t172 _ A3.out).mono ?_); rintro e w' ⟨rfl, ⟨nd, rfl⟩⟩; refine ⟨_, rfl, ?_⟩))
 go_ret
 exact ⟨by first | rfl | (simp [errW_none, errW_some] <;> rfl) | (simp [*, errW_none, errW_some] <;> rfl), by repeat (first | (with_reducible first | exact HB.out | apply below_alloc | apply pw_below_drewN | apply below_drew1) | exact HB.out)⟩

/-! ### spec_l01WideMul: function 109 -/
def spec_l01WideMul.f (a0 : C64) (a1 : C64) : Option (C64) := if FOk .mul .f64 a0.re a1.re = true then (if FOk .mul .f64 a0.im a1.im = true then (if FOk .sub .f64 (fq .mul .f64 a0.re a1.re) (fq .mul .f64 a0.im a1.im) = true then (if FOk .mul .f64 a0.re a1.im = true then (if FOk .mul .f64 a0.im a1.re = true then (if FOk .add .f64 (fq .mul .f64 a0.re a1.im) (fq .mul .f64 a0.im a1.re) = true then (some (⟨fq .sub .f64 (fq .mul .f64 a0.re a1.re) (fq .mul .f64 a0.im a1.im), fq .add .f64 (fq .mul .f64 a0.re a1.im) (fq .mul .f64 a0.im a1.re)⟩ : C64)) else (none)) else (none)) else (none)) else (none)) else (none)) else (none)
set_option maxHeartbeats 8000000 in
set_option maxRecDepth 100000 in
theorem spec_l01WideMul.calls (a0 : C64) (a1 : C64) (r : C64) (w : World) (h : spec_l01WideMul.f a0 a1 = some r) :
 Calls Try.prog 109 #[.complex .f64 a0.re a0.im, .complex .f64 a1.re a1.im] w fun e w' => e = .returned (.complex .f64 r.re r.im) ∧ Below w.heap.size w w' := by
 have HB := Aside0.mk (Below.refl w.heap.size w)
 have H : (if FOk .mul .f64 a0.re a1.re = true then (if FOk .mul .f64 a0.im a1.im = true then (if FOk .sub .f64 (fq .mul .f64 a0.re a1.re) (fq .mul .f64 a0.im a1.im) = true then (if FOk .mul .f64 a0.re a1.im = true then (if FOk .mul .f64 a0.im a1.re = true then (if FOk .add .f64 (fq .mul .f64 a0.re a1.im) (fq .mul .f64 a0.im a1.re) = true then (some (⟨fq .sub .f64 (fq .mul .f64 a0.re a1.re) (fq .mul .f64 a0.im a1.im), fq .add .f64 (fq .mul .f64 a0.re a1.im) (fq .mul .f64 a0.im a1.re)⟩ : C64)) else (none)) else (none)) else (none)) else (none)) else (none)) else (none)) = some r := h
 clear h
 by_cases c3 : FOk .mul .f64 a0.re a1.re = true
 · rw [if_pos c3] at H
   have fe3 := fun t w => frun (P := Try.prog) c3 t w
   have c3b0 : FOk .mul .f64 a0.re a1.re = true := c3
   clear c3
   by_cases c4 : FOk .mul .f64 a0.im a1.im = true
   · rw [if_pos c4] at H
     have fe4 := fun t w => frun (P := Try.prog) c4 t w
     have c4b0 : FOk .mul .f64 a0.im a1.im = true := c4
     clear c4
     by_cases c5 : FOk .sub .f64 (fq .mul .f64 a0.re a1.re) (fq .mul .f64 a0.im a1.im) = true
     · rw [if_pos c5] at H
       have fe5 := fun t w => frun (P := Try.prog) c5 t w
       have c5b0 : FOk .sub .f64 (fq .mul .f64 a0.re a1.re) (fq .mul .f64 a0.im a1.im) = true := c5
       clear c5
       by_cases c6 : FOk .mul .f64 a0.re a1.im = true
       · rw [if_pos c6] at H
         have fe6 := fun t w => frun (P := Try.prog) c6 t w
         have c6b0 : FOk .mul .f64 a0.re a1.im = true := c6
         clear c6
         by_cases c7 : FOk .mul .f64 a0.im a1.re = true
         · rw [if_pos c7] at H
           have fe7 := fun t w => frun (P := Try.prog) c7 t w
           have c7b0 : FOk .mul .f64 a0.im a1.re = true := c7
           clear c7
           by_cases c8 : FOk .add .f64 (fq .mul .f64 a0.re a1.im) (fq .mul .f64 a0.im a1.re) = true
           · rw [if_pos c8] at H
             have fe8 := fun t w => frun (P := Try.prog) c8 t w
             have c8b0 : FOk .add .f64 (fq .mul .f64 a0.re a1.im) (fq .mul .f64 a0.im a1.re) = true := c8
             clear c8
             obtain rfl := Option.some.inj H
             go_enter Try.func109, Try.ntmps109
             go_wp2
             go_ret
             exact ⟨by first | rfl | (simp [errW_none, errW_some] <;> rfl) | (simp [*, errW_none, errW_some] <;> rfl), by repeat (first | (with_reducible first | exact HB.out | apply below_alloc | apply pw_below_drewN | apply below_drew1) | exact HB.out)⟩
           · rw [if_neg c8] at H
             exact absurd H (by simp)
         · rw [if_neg c7] at H
           exact absurd H (by simp)
       · rw [if_neg c6] at H
         exact absurd H (by simp)
     · rw [if_neg c5] at H
       exact absurd H (by simp)
   · rw [if_neg c4] at H
     exact absurd H (by simp)
 · rw [if_neg c3] at H
   exact absurd H (by simp)

/-! ### spec_l01Wide: function 110 -/
def spec_l01Wide.f (a0 : C64) : Option (C64) := if FC 23 65 .f32 .f64 a0.re = true then (if FC 23 65 .f32 .f64 a0.im = true then (some (⟨fc .f32 .f64 a0.re, fc .f32 .f64 a0.im⟩ : C64)) else (none)) else (none)
set_option maxHeartbeats 8000000 in
set_option maxRecDepth 100000 in
theorem spec_l01Wide.calls (a0 : C64) (r : C64) (w : World) (h : spec_l01Wide.f a0 = some r) :
 Calls Try.prog 110 #[.complex .f32 a0.re a0.im] w fun e w' => e = .returned (.complex .f64 r.re r.im) ∧ Below w.heap.size w w' := by
 have hu23 := Try.underlying23
 have hu65 := Try.underlying65
 have HB := Aside0.mk (Below.refl w.heap.size w)
 have H : (if FC 23 65 .f32 .f64 a0.re = true then (if FC 23 65 .f32 .f64 a0.im = true then (some (⟨fc .f32 .f64 a0.re, fc .f32 .f64 a0.im⟩ : C64)) else (none)) else (none)) = some r := h
 clear h
 by_cases c2 : FC 23 65 .f32 .f64 a0.re = true
 · rw [if_pos c2] at H
   have fe2 := fun w => frunc (P := Try.prog) (src := 23) (dst := 65) (by kernel_rfl) Try.underlying65 c2 w
   have c2b0 : FC 23 65 .f32 .f64 a0.re = true := c2
   clear c2
   by_cases c3 : FC 23 65 .f32 .f64 a0.im = true
   · rw [if_pos c3] at H
     have fe3 := fun w => frunc (P := Try.prog) (src := 23) (dst := 65) (by kernel_rfl) Try.underlying65 c3 w
     have c3b0 : FC 23 65 .f32 .f64 a0.im = true := c3
     clear c3
     obtain rfl := Option.some.inj H
     go_enter Try.func110, Try.ntmps110
     go_wp2
     go_ret
     exact ⟨by first | rfl | (simp [errW_none, errW_some] <;> rfl) | (simp [*, errW_none, errW_some] <;> rfl), by repeat (first | (with_reducible first | exact HB.out | apply below_alloc | apply pw_below_drewN | apply below_drew1) | exact HB.out)⟩
   · rw [if_neg c3] at H
     exact absurd H (by simp)
 · rw [if_neg c2] at H
   exact absurd H (by simp)

/-! ### spec_l01Mul: function 80 -/
def spec_l01Mul.f (a0 a1 : C64) : Option C64 := mulC a0 a1
/-- Two complex numbers in double precision that are the same. -/
def SameD (x y : C64) : Prop := Same .f64 x.re y.re ∧ Same .f64 x.im y.im
set_option maxRecDepth 100000 in
theorem wide_any (b a : C64) (hb : SameC b a) (w : World) : Calls Try.prog 110 #[.complex .f32 b.re b.im] w fun e w' => ∃ q : C64, SameD q ⟨nc .f32 .f64 a.re, nc .f32 .f64 a.im⟩ ∧ e = .returned (.complex .f64 q.re q.im) ∧ Drawn0 w w' := by
 have hc := fun x W => run_conv_any (P := Try.prog) (src := 23) (dst := 65) (s := .f32) (k := .f64) Try.underlying23 Try.underlying65 (by decide) x W
 go_enter Try.func110, Try.ntmps110
 go_wp2
 go_ret
 exact ⟨⟨_, _⟩, ⟨same_wide hb.1 _, same_wide hb.2 _⟩, rfl, ⟨⟨_, rfl⟩⟩⟩
set_option maxRecDepth 100000 in
theorem widemul_any (b c x y : C64) (hb : SameD b x) (hc : SameD c y) (w : World) : Calls Try.prog 109 #[.complex .f64 b.re b.im, .complex .f64 c.re c.im] w fun e w' => ∃ q : C64, SameD q ⟨nq .sub .f64 (nq .mul .f64 x.re y.re) (nq .mul .f64 x.im y.im), nq .add .f64 (nq .mul .f64 x.re y.im) (nq .mul .f64 x.im y.re)⟩ ∧ e = .returned (.complex .f64 q.re q.im) ∧ Drawn0 w w' := by
 have hm := fun t x y W => run_any (P := Try.prog) (op := .mul) (.inr (.inr (.inl rfl))) t .f64 x y W
 have ha := fun t x y W => run_any (P := Try.prog) (op := .add) (.inl rfl) t .f64 x y W
 have hs := fun t x y W => run_any (P := Try.prog) (op := .sub) (.inr (.inl rfl)) t .f64 x y W
 go_enter Try.func109, Try.ntmps109
 go_wp2
 go_ret
 exact ⟨⟨_, _⟩, ⟨same_rv (same_rv hb.1 hc.1 _) (same_rv hb.2 hc.2 _) _, same_rv (same_rv hb.1 hc.2 _) (same_rv hb.2 hc.1 _) _⟩, rfl, ⟨⟨_, rfl⟩⟩⟩
set_option maxRecDepth 100000 in
theorem narrow1_any (b a : Nat) (hb : Same .f64 b a) (ho : NarOk a = true) (w : World) : Calls Try.prog 128 #[.float .f64 b] w fun e w' => ∃ q, Same .f32 q (nc .f64 .f32 a) ∧ e = .returned (.float .f32 q) ∧ Drawn0 w w' := by
 have hc := fun x W => run_conv_any (P := Try.prog) (src := 65) (dst := 23) (s := .f64) (k := .f32) Try.underlying65 Try.underlying23 (by decide) x W
 go_enter Try.func128, Try.ntmps128
 go_wp2
 go_ret
 exact ⟨_, same_narrow hb ho _, rfl, ⟨⟨_, rfl⟩⟩⟩
set_option maxRecDepth 100000 in
theorem narrow_any (b a : C64) (hb : SameD b a) (h1 : NarOk a.re = true) (h2 : NarOk a.im = true) (w : World) : Calls Try.prog 108 #[.complex .f64 b.re b.im] w fun e w' => ∃ q : C64, SameC q ⟨nc .f64 .f32 a.re, nc .f64 .f32 a.im⟩ ∧ e = .returned (.complex .f32 q.re q.im) ∧ Drawn0 w w' := by
 go_enter Try.func108, Try.ntmps108
 go_wp2_with fail
 refine (narrow1_any b.re a.re hb.1 h1 _).mono ?_
 rintro e w1 ⟨q1, hq1, rfl, ⟨⟨n1, rfl⟩⟩⟩
 go_wp2_with fail
 refine (narrow1_any b.im a.im hb.2 h2 _).mono ?_
 rintro e w2 ⟨q2, hq2, rfl, ⟨⟨n2, rfl⟩⟩⟩
 go_wp2_with fail
 go_ret
 exact ⟨⟨_, _⟩, ⟨hq1, hq2⟩, rfl, ⟨⟨_, rfl⟩⟩⟩
set_option maxHeartbeats 8000000 in
set_option maxRecDepth 100000 in
theorem spec_l01Mul.calls (b0 b1 a0 a1 : C64) (h0 : SameC b0 a0) (h1 : SameC b1 a1) (r : C64) (w : World) (h : spec_l01Mul.f a0 a1 = some r) :
 Calls Try.prog 80 #[.complex .f32 b0.re b0.im, .complex .f32 b1.re b1.im] w fun e w' => ∃ q : C64, SameC q r ∧ e = .returned (.complex .f32 q.re q.im) ∧ Below w.heap.size w w' := by
 unfold spec_l01Mul.f mulC at h
 by_cases hn : NarOk (mulR a0 a1) = true ∧ NarOk (mulI a0 a1) = true
 · rw [if_pos hn] at h
   obtain rfl := Option.some.inj h
   have HB := Below.refl w.heap.size w
   go_enter Try.func80, Try.ntmps80
   go_wp2_with fail
   refine (wide_any b0 a0 h0 _).mono ?_
   rintro e w1 ⟨q1, hq1, rfl, ⟨⟨n1, rfl⟩⟩⟩
   go_wp2_with fail
   refine (wide_any b1 a1 h1 _).mono ?_
   rintro e w2 ⟨q2, hq2, rfl, ⟨⟨n2, rfl⟩⟩⟩
   go_wp2_with fail
   refine (widemul_any q1 q2 _ _ hq1 hq2 _).mono ?_
   rintro e w3 ⟨q3, hq3, rfl, ⟨⟨n3, rfl⟩⟩⟩
   go_wp2_with fail
   refine (narrow_any q3 _ hq3 hn.1 hn.2 _).mono ?_
   rintro e w4 ⟨q4, hq4, rfl, ⟨⟨n4, rfl⟩⟩⟩
   go_wp2_with fail
   go_ret
   exact ⟨q4, hq4, rfl, by repeat (first | exact HB | apply pw_below_drewN | apply below_drew1)⟩
 · rw [if_neg hn] at h; cases h

/-! ### spec_l06Noise: function 81 -/
def spec_l06Noise.f (a0 : Int) (a1 : Int) (a2 : Int) (a3 : Nat) : Option (C64) := (spec_l06Draw.f a0 (wrap64 (2 * (wrap64 ((wrap64 ((wrap64 (16 * a1)) + a2)) + 1000000))))).bind fun t177 => (if FOk .quo .f32 (floatOfInt .f32 (wrap64 (t177 - 16384))) 1182793728 = true then ((spec_l06Draw.f a0 (wrap64 ((wrap64 (2 * (wrap64 ((wrap64 ((wrap64 (16 * a1)) + a2)) + 1000000)))) + 1))).bind fun t178 => (if FOk .quo .f32 (floatOfInt .f32 (wrap64 (t178 - 16384))) 1182793728 = true then ((spec_l01Scale.f (⟨fq .quo .f32 (floatOfInt .f32 (wrap64 (t177 - 16384))) 1182793728, fq .quo .f32 (floatOfInt .f32 (wrap64 (t178 - 16384))) 1182793728⟩ : C64) a3).bind fun t179 => (some t179)) else (none))) else (none))
set_option maxHeartbeats 8000000 in
set_option maxRecDepth 100000 in
theorem spec_l06Noise.calls (a0 : Int) (a1 : Int) (a2 : Int) (a3 : Nat) (r : C64) (w : World) (h : spec_l06Noise.f a0 a1 a2 a3 = some r) :
 Calls Try.prog 81 #[.int .i64 a0, .int .i64 a1, .int .i64 a2, .float .f32 a3] w fun e w' => ∃ q : C64, SameC q r ∧ e = .returned (.complex .f32 q.re q.im) ∧ Below w.heap.size w w' := by
 have hu2 := Try.underlying2
 have hu23 := Try.underlying23
 have HB := Aside0.mk (Below.refl w.heap.size w)
 have H : ((spec_l06Draw.f a0 (wrap64 (2 * (wrap64 ((wrap64 ((wrap64 (16 * a1)) + a2)) + 1000000))))).bind fun t177 => (if FOk .quo .f32 (floatOfInt .f32 (wrap64 (t177 - 16384))) 1182793728 = true then ((spec_l06Draw.f a0 (wrap64 ((wrap64 (2 * (wrap64 ((wrap64 ((wrap64 (16 * a1)) + a2)) + 1000000)))) + 1))).bind fun t178 => (if FOk .quo .f32 (floatOfInt .f32 (wrap64 (t178 - 16384))) 1182793728 = true then ((spec_l01Scale.f (⟨fq .quo .f32 (floatOfInt .f32 (wrap64 (t177 - 16384))) 1182793728, fq .quo .f32 (floatOfInt .f32 (wrap64 (t178 - 16384))) 1182793728⟩ : C64) a3).bind fun t179 => (some t179)) else (none))) else (none))) = some r := h
 clear h
 replace H := Option.bind_eq_some_iff.mp H
 obtain ⟨t177, A50, H⟩ := H
 replace H : (if FOk .quo .f32 (floatOfInt .f32 (wrap64 (t177 - 16384))) 1182793728 = true then ((spec_l06Draw.f a0 (wrap64 ((wrap64 (2 * (wrap64 ((wrap64 ((wrap64 (16 * a1)) + a2)) + 1000000)))) + 1))).bind fun t178 => (if FOk .quo .f32 (floatOfInt .f32 (wrap64 (t178 - 16384))) 1182793728 = true then ((spec_l01Scale.f (⟨fq .quo .f32 (floatOfInt .f32 (wrap64 (t177 - 16384))) 1182793728, fq .quo .f32 (floatOfInt .f32 (wrap64 (t178 - 16384))) 1182793728⟩ : C64) a3).bind fun t179 => (some t179)) else (none))) else (none)) = some r := H
 have A5 := Aside0.mk A50
 clear A50
 by_cases c6 : FOk .quo .f32 (floatOfInt .f32 (wrap64 (t177 - 16384))) 1182793728 = true
 · rw [if_pos c6] at H
   have fe6 := fun t w => frun (P := Try.prog) c6 t w
   have c6b0 : FOk .quo .f32 (floatOfInt .f32 (wrap64 (t177 - 16384))) 1182793728 = true := c6
   clear c6
   replace H := Option.bind_eq_some_iff.mp H
   obtain ⟨t178, A70, H⟩ := H
   replace H : (if FOk .quo .f32 (floatOfInt .f32 (wrap64 (t178 - 16384))) 1182793728 = true then ((spec_l01Scale.f (⟨fq .quo .f32 (floatOfInt .f32 (wrap64 (t177 - 16384))) 1182793728, fq .quo .f32 (floatOfInt .f32 (wrap64 (t178 - 16384))) 1182793728⟩ : C64) a3).bind fun t179 => (some t179)) else (none)) = some r := H
   have A7 := Aside0.mk A70
   clear A70
   by_cases c8 : FOk .quo .f32 (floatOfInt .f32 (wrap64 (t178 - 16384))) 1182793728 = true
   · rw [if_pos c8] at H
     have fe8 := fun t w => frun (P := Try.prog) c8 t w
     have c8b0 : FOk .quo .f32 (floatOfInt .f32 (wrap64 (t178 - 16384))) 1182793728 = true := c8
     clear c8
     replace H := Option.bind_eq_some_iff.mp H
     obtain ⟨t179, A90, H⟩ := H
     replace H : (some t179) = some r := H
     have A9 := Aside0.mk A90
     clear A90
     as_aux_lemma =>
      obtain rfl := Option.some.inj H
      go_enter Try.func81, Try.ntmps81
      go_wp2_with (first | ((with_reducible refine gate_callee (f := 105) rfl ?_); refine goesL_ (some 20) rfl rfl Try.func105 (by kernel_rfl) rfl #[.int .i64 a0, .int .i64 (wrap64 (2 * (wrap64 ((wrap64 ((wrap64 (16 * a1)) + a2)) + 1000000))))] rfl (by (try simp only [List.map_toArray, List.map_cons, List.map_nil]); first | done | rfl | (simp only [List.length_drop, List.length_take]; rfl)) ?_; (with_reducible refine (spec_l06Draw.calls a0 (wrap64 (2 * (wrap64 ((wrap64 ((wrap64 (16 * a1)) + a2)) + 1000000)))) t177 _ A5.out).mono ?_); rintro e w' ⟨rfl, ⟨nd, rfl⟩⟩; refine ⟨_, rfl, ?_⟩) | ((with_reducible refine gate_callee (f := 105) rfl ?_); refine goesL_ (some 28) rfl rfl Try.func105 (by kernel_rfl) rfl #[.int .i64 a0, .int .i64 (wrap64 ((wrap64 (2 * (wrap64 ((wrap64 ((wrap64 (16 * a1)) + a2)) + 1000000)))) + 1))] rfl (by (try simp only [List.map_toArray, List.map_cons, List.map_nil]); first | done | rfl | (simp only [List.length_drop, List.length_take]; rfl)) ?_; (with_reducible refine (spec_l06Draw.calls a0 (wrap64 ((wrap64 (2 * (wrap64 ((wrap64 ((wrap64 (16 * a1)) + a2)) + 1000000)))) + 1)) t178 _ A7.out).mono ?_); rintro e w' ⟨rfl, ⟨nd, rfl⟩⟩; refine ⟨_, rfl, ?_⟩) | ((with_reducible refine gate_callee (f := 77) rfl ?_); refine goesL_ (some 36) rfl rfl Try.func77 (by kernel_rfl) rfl #[.complex .f32 (fq .quo .f32 (floatOfInt .f32 (wrap64 (t177 - 16384))) 1182793728) (fq .quo .f32 (floatOfInt .f32 (wrap64 (t178 - 16384))) 1182793728), .float .f32 a3] rfl (by (try simp only [List.map_toArray, List.map_cons, List.map_nil]); first | done | rfl | (simp only [List.length_drop, List.length_take]; rfl)) ?_; (with_reducible refine (spec_l01Scale.calls (⟨fq .quo .f32 (floatOfInt .f32 (wrap64 (t177 - 16384))) 1182793728, fq .quo .f32 (floatOfInt .f32 (wrap64 (t178 - 16384))) 1182793728⟩ : C64) a3 t179 _ A9.out).mono ?_); rintro e w10 ⟨q10, hq10, rfl, hb⟩; refine ⟨_, rfl, ?_⟩; have n0_ := Aside0.mk (below_step (by repeat (first | (with_reducible first | exact HB.out | apply below_alloc | apply pw_below_drewN | apply below_drew1) | exact HB.out)) hb); clear HB; have HB := n0_; clear n0_; (try clear hb); (try clear hb2); (try clear hk); (try clear hi)))
      go_ret
      exact ⟨q10, hq10, by first | rfl | (simp [errW_none, errW_some] <;> rfl) | (simp [*, errW_none, errW_some] <;> rfl), by repeat (first | (with_reducible first | exact HB.out | apply below_alloc | apply pw_below_drewN | apply below_drew1) | exact HB.out)⟩
   · rw [if_neg c8] at H
     exact absurd H (by simp)
 · rw [if_neg c6] at H
   exact absurd H (by simp)

/-! ### spec_l06Shot: function 58 -/
-- rounds
mutual
def spec_l06Shot.l0 : Nat → List (S88) → List (S69) → Nat → Int → Int → List C64 → Int → Option (List C64)
 | 0, _, _, _, _, _, _, _ => none
 | k + 1, x0, x1, x2, x3, x4, x11, x12 => if x12 < (x1.length : Int) then (if 0 ≤ x12 then ((spec_l06Symbol.f ((rd_T69 x1 x12).f2) x4).bind fun t177 => ((spec_l01Scale.f t177 ((rd_T69 x1 x12).f1)).bind fun t179 => ((spec_l02Steering.f k x0 ((rd_T69 x1 x12).f0.f0) ((rd_T69 x1 x12).f0.f1)).bind fun t181 => (spec_l06Shot.l1 k x0 x1 x2 x3 x4 x11 x12 t179 t181 0)))) else (none)) else (spec_l06Shot.l2 k x2 x3 x4 x11 0)
def spec_l06Shot.l1 : Nat → List (S88) → List (S69) → Nat → Int → Int → List C64 → Int → C64 → List C64 → Int → Option (List C64)
 | 0, _, _, _, _, _, _, _, _, _, _ => none
 | k + 1, x0, x1, x2, x3, x4, x11, x12, x13, x14, x15 => if x15 < (x11.length : Int) then (if 0 ≤ x15 then (if x15 < (x14.length : Int) then ((spec_l01Mul.f x13 (rdOf c64z x14 x15)).bind fun t186 => (spec_l06Shot.l1 k x0 x1 x2 x3 x4 (x11.set (x15 : Int).toNat (⟨nq .add .f32 ((rdOf c64z x11 x15).re) t186.re, nq .add .f32 ((rdOf c64z x11 x15).im) t186.im⟩ : C64)) x12 x13 x14 (wrap64 (x15 + 1)))) else (none)) else (none)) else (spec_l06Shot.l0 k x0 x1 x2 x3 x4 x11 (wrap64 (x12 + 1)))
def spec_l06Shot.l2 : Nat → Nat → Int → Int → List C64 → Int → Option (List C64)
 | 0, _, _, _, _, _ => none
 | k + 1, x2, x3, x4, x11, x16 => if x16 < (x11.length : Int) then (if 0 ≤ x16 then ((spec_l06Noise.f x3 x4 x16 x2).bind fun t189 => (spec_l06Shot.l2 k x2 x3 x4 (x11.set (x16 : Int).toNat (⟨nq .add .f32 ((rdOf c64z x11 x16).re) t189.re, nq .add .f32 ((rdOf c64z x11 x16).im) t189.im⟩ : C64)) (wrap64 (x16 + 1)))) else (none)) else (some x11)
end
def spec_l06Shot.f (k : Nat) (l0 : List (S88)) (l1 : List (S69)) (a2 : Nat) (a3 : Int) (a4 : Int) : Option (List C64) := if 0 ≤ (l0.length : Int) then (if ((l0.length : Int) : Int).toNat ≤ 35184372088832 then (spec_l06Shot.l0 k l0 l1 a2 a3 a4 (List.replicate ((l0.length : Int) : Int).toNat c64z) 0) else (none)) else (none)
theorem spec_l06Shot.mono_l : ∀ k, (∀ y0 y1 y2 y3 y4 y5 y6, LeO (spec_l06Shot.l0 k y0 y1 y2 y3 y4 y5 y6) (spec_l06Shot.l0 (k + 1) y0 y1 y2 y3 y4 y5 y6)) ∧ (∀ y0 y1 y2 y3 y4 y5 y6 y7 y8 y9, LeO (spec_l06Shot.l1 k y0 y1 y2 y3 y4 y5 y6 y7 y8 y9) (spec_l06Shot.l1 (k + 1) y0 y1 y2 y3 y4 y5 y6 y7 y8 y9)) ∧ (∀ y0 y1 y2 y3 y4, LeO (spec_l06Shot.l2 k y0 y1 y2 y3 y4) (spec_l06Shot.l2 (k + 1) y0 y1 y2 y3 y4))
 | 0 => ⟨fun _ _ _ _ _ _ _ r h => by simp [spec_l06Shot.l0] at h, fun _ _ _ _ _ _ _ _ _ _ r h => by simp [spec_l06Shot.l1] at h, fun _ _ _ _ _ r h => by simp [spec_l06Shot.l2] at h⟩
 | k + 1 => by
  obtain ⟨ih0, ih1, ih2⟩ := spec_l06Shot.mono_l k
  refine ⟨?_, ?_, ?_⟩
  · intro y0 y1 y2 y3 y4 y5 y6
    unfold spec_l06Shot.l0
    repeat' first
    | (with_reducible exact ih0 _ _ _ _ _ _ _)
    | (with_reducible exact ih1 _ _ _ _ _ _ _ _ _ _)
    | (with_reducible exact ih2 _ _ _ _ _)
    | (with_reducible exact spec_l02Steering.mono _ _ _ _)
    | (with_reducible exact LeO.refl _)
    | (with_reducible exact LeO.none _)
    | (with_reducible refine LeO.ite ?_ ?_)
    | (with_reducible refine LeO.bind ?_ (fun _ => ?_))
    | exact ih0 _ _ _ _ _ _ _
    | exact ih1 _ _ _ _ _ _ _ _ _ _
    | exact ih2 _ _ _ _ _
    | exact spec_l02Steering.mono _ _ _ _
    | exact LeO.none _
    | refine LeO.ite ?_ ?_
    | refine LeO.bind ?_ (fun _ => ?_)
  · intro y0 y1 y2 y3 y4 y5 y6 y7 y8 y9
    unfold spec_l06Shot.l1
    repeat' first
    | (with_reducible exact ih0 _ _ _ _ _ _ _)
    | (with_reducible exact ih1 _ _ _ _ _ _ _ _ _ _)
    | (with_reducible exact ih2 _ _ _ _ _)
    | (with_reducible exact spec_l02Steering.mono _ _ _ _)
    | (with_reducible exact LeO.refl _)
    | (with_reducible exact LeO.none _)
    | (with_reducible refine LeO.ite ?_ ?_)
    | (with_reducible refine LeO.bind ?_ (fun _ => ?_))
    | exact ih0 _ _ _ _ _ _ _
    | exact ih1 _ _ _ _ _ _ _ _ _ _
    | exact ih2 _ _ _ _ _
    | exact spec_l02Steering.mono _ _ _ _
    | exact LeO.none _
    | refine LeO.ite ?_ ?_
    | refine LeO.bind ?_ (fun _ => ?_)
  · intro y0 y1 y2 y3 y4
    unfold spec_l06Shot.l2
    repeat' first
    | (with_reducible exact ih0 _ _ _ _ _ _ _)
    | (with_reducible exact ih1 _ _ _ _ _ _ _ _ _ _)
    | (with_reducible exact ih2 _ _ _ _ _)
    | (with_reducible exact spec_l02Steering.mono _ _ _ _)
    | (with_reducible exact LeO.refl _)
    | (with_reducible exact LeO.none _)
    | (with_reducible refine LeO.ite ?_ ?_)
    | (with_reducible refine LeO.bind ?_ (fun _ => ?_))
    | exact ih0 _ _ _ _ _ _ _
    | exact ih1 _ _ _ _ _ _ _ _ _ _
    | exact ih2 _ _ _ _ _
    | exact spec_l02Steering.mono _ _ _ _
    | exact LeO.none _
    | refine LeO.ite ?_ ?_
    | refine LeO.bind ?_ (fun _ => ?_)
theorem spec_l06Shot.mono : ∀ a0 a1 a2 a3 a4 k, LeO (spec_l06Shot.f k a0 a1 a2 a3 a4) (spec_l06Shot.f (k + 1) a0 a1 a2 a3 a4) := by
 intro a0 a1 a2 a3 a4 k
 obtain ⟨ih0, ih1, ih2⟩ := spec_l06Shot.mono_l k
 unfold spec_l06Shot.f
 repeat' first
  | (with_reducible exact ih0 _ _ _ _ _ _ _)
  | (with_reducible exact ih1 _ _ _ _ _ _ _ _ _ _)
  | (with_reducible exact ih2 _ _ _ _ _)
  | (with_reducible exact spec_l02Steering.mono _ _ _ _)
  | (with_reducible exact LeO.refl _)
  | (with_reducible exact LeO.none _)
  | (with_reducible refine LeO.ite ?_ ?_)
  | (with_reducible refine LeO.bind ?_ (fun _ => ?_))
  | exact ih0 _ _ _ _ _ _ _
  | exact ih1 _ _ _ _ _ _ _ _ _ _
  | exact ih2 _ _ _ _ _
  | exact spec_l02Steering.mono _ _ _ _
  | exact LeO.none _
  | refine LeO.ite ?_ ?_
  | refine LeO.bind ?_ (fun _ => ?_)
def spec_l06Shot.T5 : Bool × List (List Nat × List Nat) := (true, [([], []), ([], []), ([0, 1], [0, 1]), ([2], [2]), ([3], [3]), ([], []), ([4, 5], [4, 5]), ([], []), ([], []), ([7, 8], [7, 8]), ([9], [9]), ([10], [10]), ([6, 11, 6], [6, 11]), ([12, 12, 0, 1, 2, 3, 4, 5, 6, 7, 8, 9, 10, 11, 12], [12])])
def spec_l06Shot.B5 : List Nat := [0, 0, 3, 7, 15, 0, 63, 0, 0, 384, 896, 1920, 4095, 8191]
theorem spec_l06Shot.tab5 : rtab .any (opsOf Try.f58 5) = spec_l06Shot.T5 := by kernel_rfl
theorem spec_l06Shot.bits5 : waitsOk spec_l06Shot.T5.2 spec_l06Shot.B5 = true := by kernel_rfl
def spec_l06Shot.T10 : Bool × List (List Nat × List Nat) := (true, [([], []), ([], []), ([], []), ([], []), ([2, 3], [2, 3]), ([4], [4]), ([], []), ([], []), ([], []), ([7, 8], [7, 8]), ([9], [9]), ([6, 10], [6, 10]), ([5, 11], [5, 11]), ([0, 1, 0, 1, 2, 3, 4, 5, 6, 7, 8, 9, 10, 11, 12], [0, 1]), ([13, 12, 11, 0, 1, 2, 3, 4, 5, 6, 7, 8, 9, 10, 11, 12], [12, 13])])
def spec_l06Shot.B10 : List Nat := [0, 0, 0, 0, 12, 28, 0, 0, 0, 384, 896, 1984, 4092, 8191, 16383]
theorem spec_l06Shot.tab10 : rtab .any (opsOf Try.f58 10) = spec_l06Shot.T10 := by kernel_rfl
theorem spec_l06Shot.bits10 : waitsOk spec_l06Shot.T10.2 spec_l06Shot.B10 = true := by kernel_rfl
def spec_l06Shot.T14 : Bool × List (List Nat × List Nat) := (true, [([], []), ([], []), ([], []), ([], []), ([2, 3], [2, 3]), ([4], [4]), ([], []), ([], []), ([], []), ([], []), ([6, 7, 8, 9], [6, 7, 8, 9]), ([5, 10], [5, 10]), ([0, 1, 0, 1, 2, 3, 4, 5, 6, 7, 8, 9, 10, 11], [0, 1]), ([12, 11, 10, 0, 1, 2, 3, 4, 5, 6, 7, 8, 9, 10, 11], [11, 12])])
def spec_l06Shot.B14 : List Nat := [0, 0, 0, 0, 12, 28, 0, 0, 0, 0, 960, 2044, 4095, 8191]
theorem spec_l06Shot.tab14 : rtab .any (opsOf Try.f58 14) = spec_l06Shot.T14 := by kernel_rfl
theorem spec_l06Shot.bits14 : waitsOk spec_l06Shot.T14.2 spec_l06Shot.B14 = true := by kernel_rfl
set_option maxHeartbeats 8000000 in
set_option maxRecDepth 100000 in
theorem spec_l06Shot.calls (k : Nat) (A0 : Option Addr) (c0 : Nat) (l0 : List (S88)) (A1 : Option Addr) (c1 : Nat) (l1 : List (S69)) (a2 : Nat) (a3 : Int) (a4 : Int) (r : List C64) (w : World) (hr0 : Kd.C k88 w A0 l0.length l0) (hc0 : l0.length ≤ c0) (hr1 : Kd.C k69 w A1 l1.length l1) (hc1 : l1.length ≤ c1) (h : spec_l06Shot.f k l0 l1 a2 a3 a4 = some r) :
 Calls Try.prog 58 #[.slice A0 l0.length c0, .slice A1 l1.length c1, .float .f32 a2, .int .i64 a3, .int .i64 a4] w fun e w' => ∃ v0_ : Value, e = .returned (v0_) ∧ Kd.R Kd.c64 94 w' w.heap.size (fun _ => True) v0_ r ∧ Below w.heap.size w w' := by
 have hu67 := Try.underlying67
 have HR0 := Aside0.mk hr0
 have HC0 := Aside0.mk hc0
 clear hr0 hc0
 have HR1 := Aside0.mk hr1
 have HC1 := Aside0.mk hc1
 clear hr1 hc1
 have HB := Aside0.mk (Below.refl w.heap.size w)
 have H : (if 0 ≤ (l0.length : Int) then (if ((l0.length : Int) : Int).toNat ≤ 35184372088832 then (spec_l06Shot.l0 k l0 l1 a2 a3 a4 (List.replicate ((l0.length : Int) : Int).toNat c64z) 0) else (none)) else (none)) = some r := h
 clear h
 by_cases c6 : 0 ≤ (l0.length : Int)
 · rw [if_pos c6] at H
   have c6b0 := eq_true c6
   have c6b1 : decide (0 ≤ (l0.length : Int)) = true := decide_eq_true c6
   clear c6
   by_cases c7 : ((l0.length : Int) : Int).toNat ≤ 35184372088832
   · rw [if_pos c7] at H
     have c7b0 := eq_true c7
     have c7b1 : decide (((l0.length : Int) : Int).toNat ≤ 35184372088832) = true := decide_eq_true c7
     clear c7
     obtain ⟨y173, hy173⟩ : ∃ y_ : List C64, y_ = (List.replicate ((l0.length : Int) : Int).toNat c64z) := ⟨_, rfl⟩
     replace H : (spec_l06Shot.l0 k l0 l1 a2 a3 a4 y173 0) = some r := by first | (rw [hy173]; with_reducible exact H) | (have H2_ := (Option.bind_some _ _).symm.trans H; rw [hy173]; with_reducible exact H2_) | (have H2_ := (Option.bind_some _ _).symm.trans H; with_reducible exact H2_) | with_reducible exact H | (rw [hy173]; exact H) | exact H
     have Ny173 := Aside0.mk hy173
     clear hy173
     have H' := Aside0.mk H
     clear H
     go_enter Try.func58, Try.ntmps58
     go_wp2_with (first | ((with_reducible refine gate_dst (N := 19) rfl ?_); refine Kd.R_make Kd.c64 _ 94 rfl (N := 19) rfl 45 _ _ rfl (l0.length : Int) rfl rfl Try.underlying45 (.complex .f32 0 0) 8 info94 rfl (by decide) (by omega) c64z (ok := fun _ => True) (okp := fun _ => True) ⟨c64z, .refl _, rfl⟩ (fun _ hk => hk) trivial (of_decide_eq_true (by first | (with_reducible assumption) | assumption)) (Nat.le_trans (Nat.mul_le_mul_right _ (of_decide_eq_true (by first | (with_reducible assumption) | assumption) : (l0.length : Int).toNat ≤ 35184372088832)) (by omega)) (Below.refl _ _) (Nat.le_refl _) ?_; intro v174 w8 ho9 hb hg_ hnew_; clear hg_ hnew_; (first | rw [← Ny173.out] at ho9 | (simp only [Int.reduceToNat] at ho9; rw [← Ny173.out] at ho9)); have n0_ := Aside0.mk (Kd.R_lower ho9 (below_size (by repeat (first | (with_reducible first | exact HB.out | apply below_alloc | apply pw_below_drewN | apply below_drew1) | exact HB.out)))); have n1_ := Aside0.mk (below_step (by repeat (first | (with_reducible first | exact HB.out | apply below_alloc | apply pw_below_drewN | apply below_drew1) | exact HB.out)) hb); clear HB; have HO175 := n0_; have HB := n1_; clear n0_ n1_; clear hb ho9))
     go_loopg [12] k (fun kq v12 w' => ∃ (x11_1 : List C64) (x12_1 : Int), v12 = .int .i64 x12_1 ∧ Aside0 (spec_l06Shot.l0 kq l0 l1 a2 a3 a4 x11_1 x12_1 = some r) ∧ Aside0 (kq ≤ k) ∧ Aside0 (Kd.R Kd.c64 94 w' w.heap.size (fun _ => True) v174 x11_1) ∧ Aside0 (Below w.heap.size w w'))
     case atStart => exact ⟨(y173), (0), (by first | rfl | (simp; done) | (simp [*]; done)), H', ⟨Nat.le_refl _⟩, ⟨by (with_reducible repeat (first | apply Kd.R_alloc | apply Kd.R_drewN | apply Kd.R_drew)); exact HO175.out⟩, ⟨by repeat (first | (with_reducible first | exact HB.out | apply below_alloc | apply pw_below_drewN | apply below_drew1) | exact HB.out)⟩⟩
     case round =>
      clear H'
      (try clear c1); (try clear p2); (try clear c5); (try clear c6); (try clear c6b0); (try clear c6b1); (try clear c7); (try clear c7b0); (try clear c7b1)
      obtain ⟨x11_1, x12_1, rfl, HA, HK1, HO_11, HB⟩ := hrel
      cases gk with
      | zero => exact absurd HA.out (by simp [spec_l06Shot.l0])
      | succ k1 =>
       have H := HA.out
       clear HA
       simp only [spec_l06Shot.l0] at H
       by_cases c10 : x12_1 < (l1.length : Int)
       · rw [if_pos c10] at H
         have c10b0 : decide (x12_1 < (l1.length : Int)) = true := decide_eq_true c10
         clear c10
         by_cases c11 : 0 ≤ x12_1
         · rw [if_pos c11] at H
           have c11b0 : decide (0 ≤ x12_1) = true := decide_eq_true c11
           clear c11
           replace H := Option.bind_eq_some_iff.mp H
           obtain ⟨t177, A120, H⟩ := H
           replace H : ((spec_l01Scale.f t177 ((rd_T69 l1 x12_1).f1)).bind fun t179 => ((spec_l02Steering.f k1 l0 ((rd_T69 l1 x12_1).f0.f0) ((rd_T69 l1 x12_1).f0.f1)).bind fun t181 => (spec_l06Shot.l1 k1 l0 l1 a2 a3 a4 x11_1 x12_1 t179 t181 0))) = some r := H
           have A12 := Aside0.mk A120
           clear A120
           replace H := Option.bind_eq_some_iff.mp H
           obtain ⟨t179, A130, H⟩ := H
           replace H : ((spec_l02Steering.f k1 l0 ((rd_T69 l1 x12_1).f0.f0) ((rd_T69 l1 x12_1).f0.f1)).bind fun t181 => (spec_l06Shot.l1 k1 l0 l1 a2 a3 a4 x11_1 x12_1 t179 t181 0)) = some r := H
           have A13 := Aside0.mk A130
           clear A130
           replace H := Option.bind_eq_some_iff.mp H
           obtain ⟨t181, A140, H⟩ := H
           replace H : (spec_l06Shot.l1 k1 l0 l1 a2 a3 a4 x11_1 x12_1 t179 t181 0) = some r := H
           have A14 := Aside0.mk A140
           clear A140
           have H' := Aside0.mk H
           clear H
           try go_wp2
           have n0_ := Aside0.mk (Kd.R_drew HO_11.out)
           have n1_ := Aside0.mk (below_drew1 HB.out)
           clear HO_11
           clear HB
           have HO_11 := n0_
           have HB := n1_
           clear n0_ n1_
           have p176 : 0 ≤ (x12_1 : Int) := of_decide_eq_true (by first | (with_reducible assumption) | assumption)
           have q176 : x12_1 < (l1.length : Int) := of_decide_eq_true (by first | (with_reducible assumption) | assumption)
           obtain ⟨ad176, e176, hx176_0, hx176_1, hx176_2, hx176_3⟩ := at_T69 HR1.out x12_1 p176 q176
           have hw176_3 := hx176_3
           have hw176_2 := hx176_2
           have hw176_1 := hx176_1
           have hw176_0 := hx176_0
           cases e176
           replace hx176_0 := (HB.out.cell (World.block_lt_of_cell? w _ hx176_0)).trans hx176_0
           replace hx176_1 := (HB.out.cell (World.block_lt_of_cell? w _ hx176_1)).trans hx176_1
           replace hx176_2 := (HB.out.cell (World.block_lt_of_cell? w _ hx176_2)).trans hx176_2
           replace hx176_3 := (HB.out.cell (World.block_lt_of_cell? w _ hx176_3)).trans hx176_3
           replace p176 := eq_true p176
           replace q176 := eq_true q176
           have p178 : 0 ≤ (x12_1 : Int) := of_decide_eq_true (by first | (with_reducible assumption) | assumption)
           have q178 : x12_1 < (l1.length : Int) := of_decide_eq_true (by first | (with_reducible assumption) | assumption)
           obtain ⟨ad178, e178, hx178_0, hx178_1, hx178_2, hx178_3⟩ := at_T69 HR1.out x12_1 p178 q178
           have hw178_3 := hx178_3
           have hw178_2 := hx178_2
           have hw178_1 := hx178_1
           have hw178_0 := hx178_0
           obtain rfl : ad176 = ad178 := (by injection e178)
           replace hx178_0 := (HB.out.cell (World.block_lt_of_cell? w _ hx178_0)).trans hx178_0
           replace hx178_1 := (HB.out.cell (World.block_lt_of_cell? w _ hx178_1)).trans hx178_1
           replace hx178_2 := (HB.out.cell (World.block_lt_of_cell? w _ hx178_2)).trans hx178_2
           replace hx178_3 := (HB.out.cell (World.block_lt_of_cell? w _ hx178_3)).trans hx178_3
           replace p178 := eq_true p178
           replace q178 := eq_true q178
           refine start_ (n := 14) (S := fun w' => w'.cell? (ad176.add ((x12_1).toNat * 4)) = some (.int .i64 ((rd_T69 l1 x12_1).f0.f0)) ∧ w'.cell? ⟨(ad176.add ((x12_1).toNat * 4)).block, (ad176.add ((x12_1).toNat * 4)).off + 1, none⟩ = some (.int .i64 ((rd_T69 l1 x12_1).f0.f1)) ∧ w'.cell? ⟨(ad176.add ((x12_1).toNat * 4)).block, (ad176.add ((x12_1).toNat * 4)).off + 2, none⟩ = some (.float .f32 ((rd_T69 l1 x12_1).f1)) ∧ w'.cell? ⟨(ad176.add ((x12_1).toNat * 4)).block, (ad176.add ((x12_1).toNat * 4)).off + 3, none⟩ = some (.int .i64 ((rd_T69 l1 x12_1).f2)) ∧ w'.cell? (ad176.add ((x12_1).toNat * 4)) = some (.int .i64 ((rd_T69 l1 x12_1).f0.f0)) ∧ w'.cell? ⟨(ad176.add ((x12_1).toNat * 4)).block, (ad176.add ((x12_1).toNat * 4)).off + 1, none⟩ = some (.int .i64 ((rd_T69 l1 x12_1).f0.f1)) ∧ w'.cell? ⟨(ad176.add ((x12_1).toNat * 4)).block, (ad176.add ((x12_1).toNat * 4)).off + 2, none⟩ = some (.float .f32 ((rd_T69 l1 x12_1).f1)) ∧ w'.cell? ⟨(ad176.add ((x12_1).toNat * 4)).block, (ad176.add ((x12_1).toNat * 4)).off + 3, none⟩ = some (.int .i64 ((rd_T69 l1 x12_1).f2))) (ds := []) #[false, false, false, false, false, false, false, false, false, false, false, false, false, false] (by kernel_rfl) rfl rfl ⟨((HB.out.cell (World.block_lt_of_cell? w _ hw176_0)).trans hw176_0), ((HB.out.cell (World.block_lt_of_cell? w _ hw176_1)).trans hw176_1), ((HB.out.cell (World.block_lt_of_cell? w _ hw176_2)).trans hw176_2), ((HB.out.cell (World.block_lt_of_cell? w _ hw176_3)).trans hw176_3), ((HB.out.cell (World.block_lt_of_cell? w _ hw178_0)).trans hw178_0), ((HB.out.cell (World.block_lt_of_cell? w _ hw178_1)).trans hw178_1), ((HB.out.cell (World.block_lt_of_cell? w _ hw178_2)).trans hw178_2), ((HB.out.cell (World.block_lt_of_cell? w _ hw178_3)).trans hw178_3)⟩ (fun hHeld => ?_); refine with_tabW spec_l06Shot.tab5 spec_l06Shot.bits5 (fun HT_ HW_ => ?_)
           generalize wr.drew = w15 at HO_11 HB hx176_0 hx176_1 hx176_2 hx176_3 hx178_0 hx178_1 hx178_2 hx178_3 hHeld ⊢
           refine pure_ (i := 0) (N := some 26) (v := ?_) (a' := ?_) #[true, false, false, false, false, false, false, false, false, false, false, false, false, false] rfl rfl (any_of HT_.out (by kernel_rfl)) (fun _ _ _ h => h) (Or.inl ⟨by rfl, ?_⟩) ?_ ?_; rotate_left 4
           refine pure_ (i := 1) (N := some 27) (v := ?_) (a' := ?_) #[true, true, false, false, false, false, false, false, false, false, false, false, false, false] rfl rfl (any_of HT_.out (by kernel_rfl)) (fun _ _ _ h => h) (Or.inl ⟨by rfl, ?_⟩) ?_ ?_; rotate_left 4
           refine pure_ (i := 2) (N := some 28) (v := ?_) (a' := ?_) #[true, true, true, false, false, false, false, false, false, false, false, false, false, false] rfl rfl (any_of HT_.out (by kernel_rfl)) (fun _ _ _ h => h) (Or.inl ⟨by rfl, ?_⟩) ?_ ?_; rotate_left 4
           refine pure_ (i := 3) (N := some 29) (v := ?_) (a' := ?_) #[true, true, true, true, false, false, false, false, false, false, false, false, false, false] rfl rfl (any_of HT_.out (by kernel_rfl)) (fun _ _ _ h => h) (Or.inl ⟨by rfl, ?_⟩) ?_ ?_; rotate_left 4
           refine pure_ (i := 5) (N := some 31) (v := ?_) (a' := ?_) #[true, true, true, true, false, true, false, false, false, false, false, false, false, false] rfl rfl (any_of HT_.out (by kernel_rfl)) (fun _ _ _ h => h) (Or.inl ⟨by rfl, ?_⟩) ?_ ?_; rotate_left 4
           refine pure_ (i := 7) (N := some 33) (v := ?_) (a' := ?_) #[true, true, true, true, false, true, false, true, false, false, false, false, false, false] rfl rfl (any_of HT_.out (by kernel_rfl)) (fun _ _ _ h => h) (Or.inl ⟨by rfl, ?_⟩) ?_ ?_; rotate_left 4
           refine pure_ (i := 8) (N := some 34) (v := ?_) (a' := ?_) #[true, true, true, true, false, true, false, true, true, false, false, false, false, false] rfl rfl (any_of HT_.out (by kernel_rfl)) (fun _ _ _ h => h) (Or.inl ⟨by rfl, ?_⟩) ?_ ?_; rotate_left 4
           refine pure_ (i := 9) (N := some 35) (v := ?_) (a' := ?_) #[true, true, true, true, false, true, false, true, true, true, false, false, false, false] rfl rfl (any_of HT_.out (by kernel_rfl)) (fun _ _ _ h => h) (Or.inl ⟨by rfl, ?_⟩) ?_ ?_; rotate_left 4
           refine pure_ (i := 10) (N := some 36) (v := ?_) (a' := ?_) #[true, true, true, true, false, true, false, true, true, true, true, false, false, false] rfl rfl (any_of HT_.out (by kernel_rfl)) (fun _ _ _ h => h) (Or.inl ⟨by rfl, ?_⟩) ?_ ?_; rotate_left 4
           rotate_left; iterate 9 (rotate_left; (intro w'; go_simp; with_reducible rfl); rotate_left; (simp only [Act.put, List.setIfInBounds_toArray, List.set_cons_zero, List.set_cons_succ, i64_w, i32_w]; rfl))
           refine take_ (i := 4) (N := some 30) (v := ?_) (a' := ?_) #[true, true, true, true, true, true, false, true, true, true, true, false, false, false] rfl rfl (take_ofW HT_.out HW_.out (by kernel_rfl)) (fun _ _ _ h => h) (Or.inl ⟨by rfl, ?_⟩) hHeld ?_ ?_
           rotate_left
           · rintro w' ⟨s0, s1, s2, s3, s4, s5, s6, s7⟩
             go_simp
             with_reducible rfl
           rotate_left
           · simp only [Act.put, List.setIfInBounds_toArray, List.set_cons_zero, List.set_cons_succ, i64_w, i32_w]
             rfl
           refine take_ (i := 11) (N := some 37) (v := ?_) (a' := ?_) #[true, true, true, true, true, true, false, true, true, true, true, true, false, false] rfl rfl (take_ofW HT_.out HW_.out (by kernel_rfl)) (fun _ _ _ h => h) (Or.inl ⟨by rfl, ?_⟩) hHeld ?_ ?_
           rotate_left
           · rintro w' ⟨s0, s1, s2, s3, s4, s5, s6, s7⟩
             go_simp
             with_reducible rfl
           rotate_left
           · simp only [Act.put, List.setIfInBounds_toArray, List.set_cons_zero, List.set_cons_succ, i64_w, i32_w]
             rfl
           refine one_ (i := 6) (N := some 32) #[true, true, true, true, true, true, true, true, true, true, true, true, false, false] rfl rfl (one_of HT_.out (by kernel_rfl)) (by decide) (fun K hK => ?_)
           refine goes_ Try.func78 (by kernel_rfl) rfl #[.int .i64 ((rd_T69 l1 x12_1).f2), .int .i64 a4] (by rfl) rfl rfl (by (try simp only [List.map_toArray, List.map_cons, List.map_nil]); first | done | rfl | (simp only [List.length_drop, List.length_take]; rfl)) ?_
           with_reducible refine (spec_l06Symbol.calls ((rd_T69 l1 x12_1).f2) a4 t177 _ A12.out).mono ?_
           rintro e w16 ⟨rfl, hb⟩
           refine ⟨_, rfl, ?_⟩
           have n0_ := Aside0.mk (Kd.R_below (by (with_reducible repeat (first | apply Kd.R_alloc | apply Kd.R_drewN | apply Kd.R_drew)); exact HO_11.out) hb)
           have n1_ := Aside0.mk (below_step (by repeat (first | (with_reducible first | exact HB.out | apply below_alloc | apply pw_below_drewN | apply below_drew1) | exact HB.out)) hb)
           clear HO_11
           clear HB
           have HO_11 := n0_
           have HB := n1_
           clear n0_ n1_
           (try clear hb)
           (try clear hb2)
           (try clear hk)
           (try clear hi)
           refine hK.out _ _ ⟨((HB.out.cell (World.block_lt_of_cell? w _ hw176_0)).trans hw176_0), ((HB.out.cell (World.block_lt_of_cell? w _ hw176_1)).trans hw176_1), ((HB.out.cell (World.block_lt_of_cell? w _ hw176_2)).trans hw176_2), ((HB.out.cell (World.block_lt_of_cell? w _ hw176_3)).trans hw176_3), ((HB.out.cell (World.block_lt_of_cell? w _ hw178_0)).trans hw178_0), ((HB.out.cell (World.block_lt_of_cell? w _ hw178_1)).trans hw178_1), ((HB.out.cell (World.block_lt_of_cell? w _ hw178_2)).trans hw178_2), ((HB.out.cell (World.block_lt_of_cell? w _ hw178_3)).trans hw178_3)⟩ (fun hHeld => ?_)
           clear hK K
           refine norm_ (a' := ?_) ?_ ?_
           rotate_left
           · show Act.put _ (some 32) _ = _
             simp only [Act.put, List.setIfInBounds_toArray, List.set_cons_zero, List.set_cons_succ, i64_w, i32_w]
             rfl
           refine one_ (i := 12) (N := some 38) #[true, true, true, true, true, true, true, true, true, true, true, true, true, false] rfl rfl (one_of HT_.out (by kernel_rfl)) (by decide) (fun K hK => ?_)
           refine goes_ Try.func77 (by kernel_rfl) rfl #[.complex .f32 t177.re t177.im, .float .f32 ((rd_T69 l1 x12_1).f1)] (by rfl) rfl rfl (by (try simp only [List.map_toArray, List.map_cons, List.map_nil]); first | done | rfl | (simp only [List.length_drop, List.length_take]; rfl)) ?_
           with_reducible refine (spec_l01Scale.calls t177 ((rd_T69 l1 x12_1).f1) t179 _ A13.out).mono ?_
           rintro e w17 ⟨q179, hq179, rfl, hb⟩
           refine ⟨_, rfl, ?_⟩
           have n0_ := Aside0.mk (Kd.R_below (by (with_reducible repeat (first | apply Kd.R_alloc | apply Kd.R_drewN | apply Kd.R_drew)); exact HO_11.out) hb)
           have n1_ := Aside0.mk (below_step (by repeat (first | (with_reducible first | exact HB.out | apply below_alloc | apply pw_below_drewN | apply below_drew1) | exact HB.out)) hb)
           clear HO_11
           clear HB
           have HO_11 := n0_
           have HB := n1_
           clear n0_ n1_
           (try clear hb)
           (try clear hb2)
           (try clear hk)
           (try clear hi)
           refine hK.out _ _ ⟨((HB.out.cell (World.block_lt_of_cell? w _ hw176_0)).trans hw176_0), ((HB.out.cell (World.block_lt_of_cell? w _ hw176_1)).trans hw176_1), ((HB.out.cell (World.block_lt_of_cell? w _ hw176_2)).trans hw176_2), ((HB.out.cell (World.block_lt_of_cell? w _ hw176_3)).trans hw176_3), ((HB.out.cell (World.block_lt_of_cell? w _ hw178_0)).trans hw178_0), ((HB.out.cell (World.block_lt_of_cell? w _ hw178_1)).trans hw178_1), ((HB.out.cell (World.block_lt_of_cell? w _ hw178_2)).trans hw178_2), ((HB.out.cell (World.block_lt_of_cell? w _ hw178_3)).trans hw178_3)⟩ (fun hHeld => ?_)
           clear hK K
           refine norm_ (a' := ?_) ?_ ?_
           rotate_left
           · show Act.put _ (some 38) _ = _
             simp only [Act.put, List.setIfInBounds_toArray, List.set_cons_zero, List.set_cons_succ, i64_w, i32_w]
             rfl
           refine pure_ (i := 13) (N := some 13) (v := ?_) (a' := ?_) #[true, true, true, true, true, true, true, true, true, true, true, true, true, true] rfl rfl (any_of HT_.out (by kernel_rfl)) (fun _ _ _ h => h) (Or.inl ⟨by rfl, ?_⟩) ?_ ?_; rotate_left 4
           rotate_left; iterate 1 (rotate_left; (intro w'; go_simp; with_reducible rfl); rotate_left; (simp only [Act.put, List.setIfInBounds_toArray, List.set_cons_zero, List.set_cons_succ, i64_w, i32_w]; rfl))
           refine done_ (done_of HT_.out (by kernel_rfl)) ?_
           have p180 : 0 ≤ (x12_1 : Int) := of_decide_eq_true (by first | (with_reducible assumption) | assumption)
           have q180 : x12_1 < (l1.length : Int) := of_decide_eq_true (by first | (with_reducible assumption) | assumption)
           obtain ⟨ad180, e180, hx180_0, hx180_1, hx180_2, hx180_3⟩ := at_T69 HR1.out x12_1 p180 q180
           obtain rfl : ad176 = ad180 := (by injection e180)
           replace hx180_0 := (HB.out.cell (World.block_lt_of_cell? w _ hx180_0)).trans hx180_0
           replace hx180_1 := (HB.out.cell (World.block_lt_of_cell? w _ hx180_1)).trans hx180_1
           replace hx180_2 := (HB.out.cell (World.block_lt_of_cell? w _ hx180_2)).trans hx180_2
           replace hx180_3 := (HB.out.cell (World.block_lt_of_cell? w _ hx180_3)).trans hx180_3
           replace p180 := eq_true p180
           replace q180 := eq_true q180
           try go_wp2_with (first | ((with_reducible refine gate_callee (f := 79) rfl ?_); refine goesL_ (some 45) rfl rfl Try.func79 (by kernel_rfl) rfl #[.slice A0 l0.length c0, .agg #[.int .i64 ((rd_T69 l1 x12_1).f0.f0), .int .i64 ((rd_T69 l1 x12_1).f0.f1)]] rfl (by (try simp only [List.map_toArray, List.map_cons, List.map_nil]); first | done | rfl | (simp only [List.length_drop, List.length_take]; rfl)) ?_; (with_reducible refine (spec_l02Steering.calls k1 _ _ l0 ((rd_T69 l1 x12_1).f0.f0) ((rd_T69 l1 x12_1).f0.f1) t181 _ ?side1 ?side2 A14.out).mono ?_); (case side1 => repeat (first | exact (Kd.C_below HR0.out HB.out) | (with_reducible refine Kd.C_alloc ?_ _) | (with_reducible refine Kd.C_drewN ?_ _) | (with_reducible refine Kd.C_drew ?_))); (case side2 => exact HC0.out); rintro e w18 ⟨v182, rfl, ho0, hb⟩; refine ⟨_, rfl, ?_⟩; have n0_ := Aside0.mk (Kd.R_elder' (by (with_reducible repeat (first | apply Kd.R_alloc | apply Kd.R_drewN | apply Kd.R_drew)); exact HO_11.out) (Kd.R_base ho0) hb); have n1_ := Aside0.mk (Kd.R_lower (Kd.R_new' ho0 (Kd.R_lt (by (with_reducible repeat (first | apply Kd.R_alloc | apply Kd.R_drewN | apply Kd.R_drew)); exact HO_11.out))) (below_size (by repeat (first | (with_reducible first | exact HB.out | apply below_alloc | apply pw_below_drewN | apply below_drew1) | exact HB.out)))); have n2_ := Aside0.mk (below_step (by repeat (first | (with_reducible first | exact HB.out | apply below_alloc | apply pw_below_drewN | apply below_drew1) | exact HB.out)) hb); clear HO_11; clear HB; have HO_11 := n0_; have HO183 := n1_; have HB := n2_; clear n0_ n1_ n2_; (try clear hb); (try clear hb2); (try clear hk); (try clear hi); (try clear ho0)))
           go_loopg [15] k1 (fun kq v15 w' => ∃ (x11_2 : List C64) (x15_2 : Int), v15 = .int .i64 x15_2 ∧ Aside0 (spec_l06Shot.l1 kq l0 l1 a2 a3 a4 x11_2 x12_1 t179 t181 x15_2 = some r) ∧ Aside0 (kq ≤ k1) ∧ Aside0 (Kd.R Kd.c64 94 w' w.heap.size (fun k_ => some k_ ≠ (v182 : Value).ownBlock) v174 x11_2) ∧ Aside0 (Kd.R Kd.c64e 94 w' w.heap.size (fun k_ => some k_ ≠ (v174 : Value).ownBlock) v182 t181) ∧ Aside0 (Below w.heap.size w w'))
           case atStart => exact ⟨(x11_1), (0), (by first | rfl | (simp; done) | (simp [*]; done)), H', ⟨Nat.le_refl _⟩, ⟨by (with_reducible repeat (first | apply Kd.R_alloc | apply Kd.R_drewN | apply Kd.R_drew)); exact Kd.R_mono HO_11.out (fun _ hk => hk.2)⟩, ⟨by (with_reducible repeat (first | apply Kd.R_alloc | apply Kd.R_drewN | apply Kd.R_drew)); exact Kd.R_mono HO183.out (fun _ hk => hk.2)⟩, ⟨by repeat (first | (with_reducible first | exact HB.out | apply below_alloc | apply pw_below_drewN | apply below_drew1) | exact HB.out)⟩⟩
           case round =>
            clear H'
            (try clear c1); (try clear p1); (try clear q1); (try clear hx1); (try clear p2); (try clear c5); (try clear c6); (try clear c6b0); (try clear c6b1); (try clear c7); (try clear c7b0); (try clear c7b1); (try clear c10); (try clear c10b0); (try clear c11); (try clear c11b0); (try clear p17); (try clear q17); (try clear hx17); (try clear p18); (try clear q18); (try clear hx18); (try clear hx176_0); (try clear hx176_1); (try clear hx176_2); (try clear hx176_3); (try clear hx178_0); (try clear hx178_1); (try clear hx178_2); (try clear hx178_3); (try clear hx180_0); (try clear hx180_1); (try clear hx180_2); (try clear hx180_3); (try clear p176); (try clear p178); (try clear p180); (try clear p2); (try clear q176); (try clear q178); (try clear q180)
            obtain ⟨x11_2, x15_2, rfl, HA, HK2, HO_11, HO_14, HB⟩ := hrel
            cases gk with
            | zero => exact absurd HA.out (by simp [spec_l06Shot.l1])
            | succ k2 =>
             have H := HA.out
             clear HA
             simp only [spec_l06Shot.l1] at H
             by_cases c19 : x15_2 < (x11_2.length : Int)
             · rw [if_pos c19] at H
               have c19b0 : decide (x15_2 < (x11_2.length : Int)) = true := decide_eq_true c19
               clear c19
               by_cases c20 : 0 ≤ x15_2
               · rw [if_pos c20] at H
                 have c20b0 : decide (0 ≤ x15_2) = true := decide_eq_true c20
                 clear c20
                 by_cases c21 : x15_2 < (t181.length : Int)
                 · rw [if_pos c21] at H
                   have c21b0 : decide (x15_2 < (t181.length : Int)) = true := decide_eq_true c21
                   clear c21
                   replace H := Option.bind_eq_some_iff.mp H
                   obtain ⟨t186, A220, H⟩ := H
                   replace H : (spec_l06Shot.l1 k2 l0 l1 a2 a3 a4 (x11_2.set (x15_2 : Int).toNat (⟨nq .add .f32 ((rdOf c64z x11_2 x15_2).re) t186.re, nq .add .f32 ((rdOf c64z x11_2 x15_2).im) t186.im⟩ : C64)) x12_1 t179 t181 (wrap64 (x15_2 + 1))) = some r := H
                   have A22 := Aside0.mk A220
                   clear A220
                   obtain ⟨y187, hy187⟩ : ∃ y_ : List C64, y_ = (x11_2.set (x15_2 : Int).toNat (⟨nq .add .f32 ((rdOf c64z x11_2 x15_2).re) t186.re, nq .add .f32 ((rdOf c64z x11_2 x15_2).im) t186.im⟩ : C64)) := ⟨_, rfl⟩
                   replace H : (spec_l06Shot.l1 k2 l0 l1 a2 a3 a4 y187 x12_1 t179 t181 (wrap64 (x15_2 + 1))) = some r := by first | (rw [hy187]; with_reducible exact H) | (have H2_ := (Option.bind_some _ _).symm.trans H; rw [hy187]; with_reducible exact H2_) | (have H2_ := (Option.bind_some _ _).symm.trans H; with_reducible exact H2_) | with_reducible exact H | (rw [hy187]; exact H) | exact H
                   have Ny187 := Aside0.mk hy187
                   clear hy187
                   as_aux_lemma =>
                    have H' := Aside0.mk H
                    clear H
                    obtain ⟨Ao24, co24, eo24⟩ := Kd.R_slice HO_11.out
                    subst eo24
                    obtain ⟨z11, hz11, ho11_⟩ := Kd.c64_R_to HO_11.out
                    have n0_ := Aside0.mk ho11_
                    clear HO_11 ho11_
                    have HO_11 := n0_
                    clear n0_
                    try go_wp2
                    have n0_ := Aside0.mk (Kd.R_drew HO_11.out)
                    have n1_ := Aside0.mk (Kd.R_drew HO_14.out)
                    have n2_ := Aside0.mk (below_drew1 HB.out)
                    clear HO_11
                    clear HO_14
                    clear HB
                    have HO_11 := n0_
                    have HO_14 := n1_
                    have HB := n2_
                    clear n0_ n1_ n2_
                    have p184 : 0 ≤ (x15_2 : Int) := of_decide_eq_true (by first | (with_reducible assumption) | assumption)
                    have q184 : x15_2 < (x11_2.length : Int) := of_decide_eq_true (by first | (with_reducible assumption) | assumption)
                    obtain ⟨ad184, e184, hx184_0⟩ := Kd.at_c64e (Kd.R_reads' HO_11.out).2.2 x15_2 p184 (by rw [hz11.1]; exact q184)
                    cases e184
                    replace p184 := eq_true p184
                    replace q184 := eq_true q184
                    obtain ⟨Ao26, co26, eo26⟩ := Kd.R_slice HO_14.out
                    (first | subst eo26 | (injection eo26 with f1_ f2_ f3_; have f4_ := f1_.symm; have f5_ := f3_.symm; clear f1_ f2_ f3_; subst f4_; subst f5_))
                    have p185 : 0 ≤ (x15_2 : Int) := of_decide_eq_true (by first | (with_reducible assumption) | assumption)
                    have q185 : x15_2 < (t181.length : Int) := of_decide_eq_true (by first | (with_reducible assumption) | assumption)
                    obtain ⟨ad185, e185, hx185_0⟩ := Kd.at_c64e (Kd.R_reads' HO_14.out).2.2 x15_2 p185 q185
                    cases e185
                    replace p185 := eq_true p185
                    replace q185 := eq_true q185
                    refine start_ (n := 15) (S := fun w' => w'.cell? (ad184.add (x15_2).toNat) = some (.complex .f32 ((rdOf c64z z11 x15_2).re) ((rdOf c64z z11 x15_2).im)) ∧ w'.cell? (ad185.add (x15_2).toNat) = some (.complex .f32 ((rdOf c64z t181 x15_2).re) ((rdOf c64z t181 x15_2).im))) (ds := [14]) #[false, false, false, false, false, false, false, false, false, false, false, false, false, false, false] (by kernel_rfl) rfl rfl ⟨hx184_0, hx185_0⟩ (fun hHeld => ?_); refine with_tabW spec_l06Shot.tab10 spec_l06Shot.bits10 (fun HT_ HW_ => ?_)
                    generalize wr.drew = w25 at HO_11 HO_14 HB hx184_0 hx185_0 hHeld ⊢
                    refine pure_ (i := 0) (N := some 52) (v := ?_) (a' := ?_) #[true, false, false, false, false, false, false, false, false, false, false, false, false, false, false] rfl rfl (any_of HT_.out (by kernel_rfl)) (fun _ _ _ h => h) (Or.inl ⟨by rfl, ?_⟩) ?_ ?_; rotate_left 4
                    refine pure_ (i := 1) (N := some 53) (v := ?_) (a' := ?_) #[true, true, false, false, false, false, false, false, false, false, false, false, false, false, false] rfl rfl (any_of HT_.out (by kernel_rfl)) (fun _ _ _ h => h) (Or.inl ⟨by rfl, ?_⟩) ?_ ?_; rotate_left 4
                    refine pure_ (i := 2) (N := some 54) (v := ?_) (a' := ?_) #[true, true, true, false, false, false, false, false, false, false, false, false, false, false, false] rfl rfl (any_of HT_.out (by kernel_rfl)) (fun _ _ _ h => h) (Or.inl ⟨by rfl, ?_⟩) ?_ ?_; rotate_left 4
                    refine pure_ (i := 3) (N := some 55) (v := ?_) (a' := ?_) #[true, true, true, true, false, false, false, false, false, false, false, false, false, false, false] rfl rfl (any_of HT_.out (by kernel_rfl)) (fun _ _ _ h => h) (Or.inl ⟨by rfl, ?_⟩) ?_ ?_; rotate_left 4
                    refine pure_ (i := 4) (N := some 56) (v := ?_) (a' := ?_) #[true, true, true, true, true, false, false, false, false, false, false, false, false, false, false] rfl rfl (any_of HT_.out (by kernel_rfl)) (fun _ _ _ h => h) (Or.inl ⟨by rfl, ?_⟩) ?_ ?_; rotate_left 4
                    refine pure_ (i := 6) (N := some 58) (v := ?_) (a' := ?_) #[true, true, true, true, true, false, true, false, false, false, false, false, false, false, false] rfl rfl (any_of HT_.out (by kernel_rfl)) (fun _ _ _ h => h) (Or.inl ⟨by rfl, ?_⟩) ?_ ?_; rotate_left 4
                    refine pure_ (i := 7) (N := some 59) (v := ?_) (a' := ?_) #[true, true, true, true, true, false, true, true, false, false, false, false, false, false, false] rfl rfl (any_of HT_.out (by kernel_rfl)) (fun _ _ _ h => h) (Or.inl ⟨by rfl, ?_⟩) ?_ ?_; rotate_left 4
                    refine pure_ (i := 8) (N := some 60) (v := ?_) (a' := ?_) #[true, true, true, true, true, false, true, true, true, false, false, false, false, false, false] rfl rfl (any_of HT_.out (by kernel_rfl)) (fun _ _ _ h => h) (Or.inl ⟨by rfl, ?_⟩) ?_ ?_; rotate_left 4
                    refine pure_ (i := 9) (N := some 61) (v := ?_) (a' := ?_) #[true, true, true, true, true, false, true, true, true, true, false, false, false, false, false] rfl rfl (any_of HT_.out (by kernel_rfl)) (fun _ _ _ h => h) (Or.inl ⟨by rfl, ?_⟩) ?_ ?_; rotate_left 4
                    rotate_left; iterate 9 (rotate_left; (intro w'; go_simp; with_reducible rfl); rotate_left; (simp only [Act.put, List.setIfInBounds_toArray, List.set_cons_zero, List.set_cons_succ, i64_w, i32_w]; rfl))
                    refine take_ (i := 5) (N := some 57) (v := ?_) (a' := ?_) #[true, true, true, true, true, true, true, true, true, true, false, false, false, false, false] rfl rfl (take_ofW HT_.out HW_.out (by kernel_rfl)) (fun _ _ _ h => h) (Or.inl ⟨by rfl, ?_⟩) hHeld ?_ ?_
                    rotate_left
                    · rintro w' ⟨s0, s1⟩
                      go_simp
                      with_reducible rfl
                    rotate_left
                    · simp only [Act.put, List.setIfInBounds_toArray, List.set_cons_zero, List.set_cons_succ, i64_w, i32_w]
                      rfl
                    refine take_ (i := 10) (N := some 62) (v := ?_) (a' := ?_) #[true, true, true, true, true, true, true, true, true, true, true, false, false, false, false] rfl rfl (take_ofW HT_.out HW_.out (by kernel_rfl)) (fun _ _ _ h => h) (Or.inl ⟨by rfl, ?_⟩) hHeld ?_ ?_
                    rotate_left
                    · rintro w' ⟨s0, s1⟩
                      go_simp
                      with_reducible rfl
                    rotate_left
                    · simp only [Act.put, List.setIfInBounds_toArray, List.set_cons_zero, List.set_cons_succ, i64_w, i32_w]
                      rfl
                    refine one_ (i := 11) (N := some 63) #[true, true, true, true, true, true, true, true, true, true, true, true, false, false, false] rfl rfl (one_of HT_.out (by kernel_rfl)) (by decide) (fun K hK => ?_)
                    refine goes_ Try.func80 (by kernel_rfl) rfl #[.complex .f32 q179.re q179.im, .complex .f32 ((rdOf c64z t181 x15_2).re) ((rdOf c64z t181 x15_2).im)] (by rfl) rfl rfl (by (try simp only [List.map_toArray, List.map_cons, List.map_nil]); first | done | rfl | (simp only [List.length_drop, List.length_take]; rfl)) ?_
                    with_reducible refine (spec_l01Mul.calls q179 (rdOf c64z t181 x15_2) t179 (rdOf c64z t181 x15_2) hq179 (.refl _) t186 _ A22.out).mono ?_
                    rintro e w27 ⟨q186, hq186, rfl, hb⟩
                    have HS0_ := (hb.cell (World.block_lt_of_cell? _ _ (hHeld.1))).trans (hHeld.1)
                    have HS1_ := (hb.cell (World.block_lt_of_cell? _ _ (hHeld.2))).trans (hHeld.2)
                    refine ⟨_, rfl, ?_⟩
                    have n0_ := Aside0.mk (Kd.R_below (by (with_reducible repeat (first | apply Kd.R_alloc | apply Kd.R_drewN | apply Kd.R_drew)); exact HO_11.out) hb)
                    have n1_ := Aside0.mk (Kd.R_below (by (with_reducible repeat (first | apply Kd.R_alloc | apply Kd.R_drewN | apply Kd.R_drew)); exact HO_14.out) hb)
                    have n2_ := Aside0.mk (below_step (by repeat (first | (with_reducible first | exact HB.out | apply below_alloc | apply pw_below_drewN | apply below_drew1) | exact HB.out)) hb)
                    clear HO_11
                    clear HO_14
                    clear HB
                    have HO_11 := n0_
                    have HO_14 := n1_
                    have HB := n2_
                    clear n0_ n1_ n2_
                    (try clear hb)
                    (try clear hb2)
                    (try clear hk)
                    (try clear hi)
                    have p23 : 0 ≤ (x15_2 : Int) := of_decide_eq_true (by first | (with_reducible assumption) | assumption)
                    have q23 : (x15_2 : Int) < ((x11_2.length : Int) : Int) := of_decide_eq_true (by first | (with_reducible assumption) | assumption)
                    obtain ⟨go23, co23, eo23, gb23, gl23, cl23, HG23⟩ := Kd.R_form HO_11.out (by have e_ := hz11.1; omega)
                    (first | cases eo23 | (injection eo23 with ea_ en_ ec_; (first | subst ea_ | (injection ea_ with ea_; subst ea_)); subst ec_; clear en_))
                    have GB23 := Aside0.mk gb23
                    have GG23 := Aside0.mk HG23
                    clear gb23 gl23 HG23
                    (first | simp only [add_plain] at hx184_0 | skip)
                    obtain ⟨hx23_0, hf23_0⟩ := Kd.R_celln c64z HO_11.out (x15_2 : Int) p23 q23
                    replace p23 := eq_true p23
                    replace q23 := eq_true q23
                    refine hK.out _ _ ⟨HS0_, HS1_⟩ (fun hHeld => ?_)
                    clear hK K
                    refine norm_ (a' := ?_) ?_ ?_
                    rotate_left
                    · show Act.put _ (some 63) _ = _
                      simp only [Act.put, List.setIfInBounds_toArray, List.set_cons_zero, List.set_cons_succ, i64_w, i32_w]
                      rfl
                    refine one_ (i := 12) (N := some 64) #[true, true, true, true, true, true, true, true, true, true, true, true, true, false, false] rfl rfl (one_of HT_.out (by kernel_rfl)) (by decide) (fun K hK => ?_)
                    refine cadd_ (t := 94) (t' := 94) (i := 57) (j := 63) (rdOf c64z z11 x15_2) q186 (rdOf c64z x11_2 x15_2) t186 (by rfl) rfl rfl rfl rfl (hz11.rd _) hq186 ?_
                    intro q187 hq187 n28_
                    have n0_ := Aside0.mk (Kd.R_drewN HO_11.out n28_)
                    have n1_ := Aside0.mk (Kd.R_drewN HO_14.out n28_)
                    have n2_ := Aside0.mk (pw_below_drewN HB.out n28_)
                    clear HO_11
                    clear HO_14
                    clear HB
                    have HO_11 := n0_
                    have HO_14 := n1_
                    have HB := n2_
                    clear n0_ n2_ n1_
                    have HP28 := Kd.R_putn HO_11.out (x15_2 : Int) q187
                    have HQ28 := Aside0.mk (Kd.c64_R_of (by rw [Ny187.out]; exact hz11.set _ hq187 : SameL _ y187) HP28)
                    clear HP28
                    refine hK.out _ _ hHeld (fun hHeld => ?_)
                    clear hK K
                    refine norm_ (a' := ?_) ?_ ?_
                    rotate_left
                    · show Act.put _ (some 64) _ = _
                      simp only [Act.put, List.setIfInBounds_toArray, List.set_cons_zero, List.set_cons_succ, i64_w, i32_w]
                      rfl
                    refine pure_ (i := 13) (N := some 65) (v := ?_) (a' := ?_) #[true, true, true, true, true, true, true, true, true, true, true, true, true, true, false] rfl rfl (any_of HT_.out (by kernel_rfl)) (fun _ _ _ h => h) (Or.inl ⟨by rfl, ?_⟩) ?_ ?_; rotate_left 4
                    rotate_left; iterate 1 (rotate_left; (intro w'; go_simp; with_reducible rfl); rotate_left; (simp only [Act.put, List.setIfInBounds_toArray, List.set_cons_zero, List.set_cons_succ, i64_w, i32_w]; rfl))
                    refine last_ (i := 14) (N := none) #[true, true, true, true, true, true, true, true, true, true, true, true, true, true, true] rfl rfl (one_of HT_.out (by kernel_rfl)) (by decide) (fun K hK => ?_)
                    refine skip_ (w1 := ?_) (by rfl) rfl ?_ ?_
                    rotate_left
                    · go_simp
                      rfl
                    refine hK.out _ _ ?_
                    clear hK K
                    refine done_ (done_of HT_.out (by kernel_rfl)) ?_
                    try go_wp2
                    go_roundg k2
                    case measure => have := HK1.out; have := HK2.out; omega
                    case rel => exact ⟨(y187), (wrap64 (x15_2 + 1)), (by first | rfl | (simp; done) | (simp [*]; done)), H', ⟨by have := HK1.out; have := HK2.out; omega⟩, ⟨by (with_reducible repeat (first | apply Kd.R_alloc | apply Kd.R_drewN | apply Kd.R_drew)); exact HQ28.out⟩, ⟨by (with_reducible repeat (first | apply Kd.R_alloc | apply Kd.R_drewN | apply Kd.R_drew)); exact Kd.R_mono (Kd.R_far (p := ⟨go23, (x15_2 : Int).toNat, none⟩) (Kd.R_mono HO_14.out (fun k_ hk => (⟨hk, fun e_ => hk (by rw [e_]; rfl)⟩ : _ ∧ k_ ≠ go23))) (fun _ hk => hk.2) (.complex .f32 q187.re q187.im)) (fun _ hk => hk.1)⟩, ⟨by repeat (first | (with_reducible first | exact HB.out | apply below_alloc | apply pw_below_drewN | apply below_drew1 | refine below_set ?_ GB23.out) | exact HB.out)⟩⟩
                 · rw [if_neg c21] at H
                   exact absurd H (by simp)
               · rw [if_neg c20] at H
                 exact absurd H (by simp)
             · rw [if_neg c19] at H
               have c19b0 : decide (x15_2 < (x11_2.length : Int)) = false := decide_eq_false c19
               clear c19
               as_aux_lemma =>
                have H' := Aside0.mk H
                clear H
                obtain ⟨Ao29, co29, eo29⟩ := Kd.R_slice HO_11.out
                subst eo29
                go_wp2
                go_roundg k2
                case measure => have := HK1.out; have := HK2.out; omega
                case rel => exact ⟨(x11_2), (wrap64 (x12_1 + 1)), (by first | rfl | (simp; done) | (simp [*]; done)), H', ⟨by have := HK1.out; have := HK2.out; omega⟩, ⟨by (with_reducible repeat (first | apply Kd.R_alloc | apply Kd.R_drewN | apply Kd.R_drew)); exact Kd.R_mono HO_11.out (fun _ hk => trivial)⟩, ⟨by repeat (first | (with_reducible first | exact HB.out | apply below_alloc | apply pw_below_drewN | apply below_drew1) | exact HB.out)⟩⟩
         · rw [if_neg c11] at H
           exact absurd H (by simp)
       · rw [if_neg c10] at H
         have c10b0 : decide (x12_1 < (l1.length : Int)) = false := decide_eq_false c10
         clear c10
         have H' := Aside0.mk H
         clear H
         go_wp2
         go_loopg [16] k1 (fun kq v16 w' => ∃ (x11_2 : List C64) (x16_2 : Int), v16 = .int .i64 x16_2 ∧ Aside0 (spec_l06Shot.l2 kq a2 a3 a4 x11_2 x16_2 = some r) ∧ Aside0 (kq ≤ k1) ∧ Aside0 (Kd.R Kd.c64 94 w' w.heap.size (fun _ => True) v174 x11_2) ∧ Aside0 (Below w.heap.size w w'))
         case atStart => exact ⟨(x11_1), (0), (by first | rfl | (simp; done) | (simp [*]; done)), H', ⟨Nat.le_refl _⟩, ⟨by (with_reducible repeat (first | apply Kd.R_alloc | apply Kd.R_drewN | apply Kd.R_drew)); exact HO_11.out⟩, ⟨by repeat (first | (with_reducible first | exact HB.out | apply below_alloc | apply pw_below_drewN | apply below_drew1) | exact HB.out)⟩⟩
         case round =>
          clear H'
          (try clear c1); (try clear p1); (try clear q1); (try clear hx1); (try clear c2); (try clear p2); (try clear q2); (try clear hx2); (try clear c5); (try clear c6); (try clear c6b0); (try clear c6b1); (try clear p6); (try clear c7); (try clear c7b0); (try clear c7b1); (try clear c8); (try clear c10); (try clear c10b0); (try clear c11); (try clear c11b0); (try clear p17); (try clear q17); (try clear hx17); (try clear p18); (try clear q18); (try clear hx18); (try clear c19); (try clear c19b0); (try clear c20); (try clear c20b0); (try clear c21); (try clear c21b0); (try clear p23); (try clear q23); (try clear hx23); (try clear hf23); (try clear hx176_0); (try clear hx176_1); (try clear hx176_2); (try clear hx176_3); (try clear hx178_0); (try clear hx178_1); (try clear hx178_2); (try clear hx178_3); (try clear hx180_0); (try clear hx180_1); (try clear hx180_2); (try clear hx180_3); (try clear hx184_0); (try clear hx185_0); (try clear hx23_0); (try clear p1); (try clear p17); (try clear p176); (try clear p178); (try clear p18); (try clear p180); (try clear p184); (try clear p185); (try clear p2); (try clear p23); (try clear q1); (try clear q17); (try clear q176); (try clear q178); (try clear q18); (try clear q180); (try clear q184); (try clear q185); (try clear q23)
          obtain ⟨x11_2, x16_2, rfl, HA, HK2, HO_11, HB⟩ := hrel
          cases gk with
          | zero => exact absurd HA.out (by simp [spec_l06Shot.l2])
          | succ k2 =>
           have H := HA.out
           clear HA
           simp only [spec_l06Shot.l2] at H
           by_cases c30 : x16_2 < (x11_2.length : Int)
           · rw [if_pos c30] at H
             have c30b0 : decide (x16_2 < (x11_2.length : Int)) = true := decide_eq_true c30
             clear c30
             by_cases c31 : 0 ≤ x16_2
             · rw [if_pos c31] at H
               have c31b0 : decide (0 ≤ x16_2) = true := decide_eq_true c31
               clear c31
               replace H := Option.bind_eq_some_iff.mp H
               obtain ⟨t189, A320, H⟩ := H
               replace H : (spec_l06Shot.l2 k2 a2 a3 a4 (x11_2.set (x16_2 : Int).toNat (⟨nq .add .f32 ((rdOf c64z x11_2 x16_2).re) t189.re, nq .add .f32 ((rdOf c64z x11_2 x16_2).im) t189.im⟩ : C64)) (wrap64 (x16_2 + 1))) = some r := H
               have A32 := Aside0.mk A320
               clear A320
               obtain ⟨y190, hy190⟩ : ∃ y_ : List C64, y_ = (x11_2.set (x16_2 : Int).toNat (⟨nq .add .f32 ((rdOf c64z x11_2 x16_2).re) t189.re, nq .add .f32 ((rdOf c64z x11_2 x16_2).im) t189.im⟩ : C64)) := ⟨_, rfl⟩
               replace H : (spec_l06Shot.l2 k2 a2 a3 a4 y190 (wrap64 (x16_2 + 1))) = some r := by first | (rw [hy190]; with_reducible exact H) | (have H2_ := (Option.bind_some _ _).symm.trans H; rw [hy190]; with_reducible exact H2_) | (have H2_ := (Option.bind_some _ _).symm.trans H; with_reducible exact H2_) | with_reducible exact H | (rw [hy190]; exact H) | exact H
               have Ny190 := Aside0.mk hy190
               clear hy190
               as_aux_lemma =>
                have H' := Aside0.mk H
                clear H
                obtain ⟨Ao34, co34, eo34⟩ := Kd.R_slice HO_11.out
                subst eo34
                obtain ⟨z11, hz11, ho11_⟩ := Kd.c64_R_to HO_11.out
                have n0_ := Aside0.mk ho11_
                clear HO_11 ho11_
                have HO_11 := n0_
                clear n0_
                try go_wp2
                have n0_ := Aside0.mk (Kd.R_drew HO_11.out)
                have n1_ := Aside0.mk (below_drew1 HB.out)
                clear HO_11
                clear HB
                have HO_11 := n0_
                have HB := n1_
                clear n0_ n1_
                have p188 : 0 ≤ (x16_2 : Int) := of_decide_eq_true (by first | (with_reducible assumption) | assumption)
                have q188 : x16_2 < (x11_2.length : Int) := of_decide_eq_true (by first | (with_reducible assumption) | assumption)
                obtain ⟨ad188, e188, hx188_0⟩ := Kd.at_c64e (Kd.R_reads' HO_11.out).2.2 x16_2 p188 (by rw [hz11.1]; exact q188)
                cases e188
                replace p188 := eq_true p188
                replace q188 := eq_true q188
                refine start_ (n := 14) (S := fun w' => w'.cell? (ad188.add (x16_2).toNat) = some (.complex .f32 ((rdOf c64z z11 x16_2).re) ((rdOf c64z z11 x16_2).im))) (ds := [13]) #[false, false, false, false, false, false, false, false, false, false, false, false, false, false] (by kernel_rfl) rfl rfl (hx188_0) (fun hHeld => ?_); refine with_tabW spec_l06Shot.tab14 spec_l06Shot.bits14 (fun HT_ HW_ => ?_)
                generalize wr.drew = w35 at HO_11 HB hx188_0 hHeld ⊢
                refine pure_ (i := 0) (N := some 72) (v := ?_) (a' := ?_) #[true, false, false, false, false, false, false, false, false, false, false, false, false, false] rfl rfl (any_of HT_.out (by kernel_rfl)) (fun _ _ _ h => h) (Or.inl ⟨by rfl, ?_⟩) ?_ ?_; rotate_left 4
                refine pure_ (i := 1) (N := some 73) (v := ?_) (a' := ?_) #[true, true, false, false, false, false, false, false, false, false, false, false, false, false] rfl rfl (any_of HT_.out (by kernel_rfl)) (fun _ _ _ h => h) (Or.inl ⟨by rfl, ?_⟩) ?_ ?_; rotate_left 4
                refine pure_ (i := 2) (N := some 74) (v := ?_) (a' := ?_) #[true, true, true, false, false, false, false, false, false, false, false, false, false, false] rfl rfl (any_of HT_.out (by kernel_rfl)) (fun _ _ _ h => h) (Or.inl ⟨by rfl, ?_⟩) ?_ ?_; rotate_left 4
                refine pure_ (i := 3) (N := some 75) (v := ?_) (a' := ?_) #[true, true, true, true, false, false, false, false, false, false, false, false, false, false] rfl rfl (any_of HT_.out (by kernel_rfl)) (fun _ _ _ h => h) (Or.inl ⟨by rfl, ?_⟩) ?_ ?_; rotate_left 4
                refine pure_ (i := 4) (N := some 76) (v := ?_) (a' := ?_) #[true, true, true, true, true, false, false, false, false, false, false, false, false, false] rfl rfl (any_of HT_.out (by kernel_rfl)) (fun _ _ _ h => h) (Or.inl ⟨by rfl, ?_⟩) ?_ ?_; rotate_left 4
                refine pure_ (i := 6) (N := some 78) (v := ?_) (a' := ?_) #[true, true, true, true, true, false, true, false, false, false, false, false, false, false] rfl rfl (any_of HT_.out (by kernel_rfl)) (fun _ _ _ h => h) (Or.inl ⟨by rfl, ?_⟩) ?_ ?_; rotate_left 4
                refine pure_ (i := 7) (N := some 79) (v := ?_) (a' := ?_) #[true, true, true, true, true, false, true, true, false, false, false, false, false, false] rfl rfl (any_of HT_.out (by kernel_rfl)) (fun _ _ _ h => h) (Or.inl ⟨by rfl, ?_⟩) ?_ ?_; rotate_left 4
                refine pure_ (i := 8) (N := some 80) (v := ?_) (a' := ?_) #[true, true, true, true, true, false, true, true, true, false, false, false, false, false] rfl rfl (any_of HT_.out (by kernel_rfl)) (fun _ _ _ h => h) (Or.inl ⟨by rfl, ?_⟩) ?_ ?_; rotate_left 4
                refine pure_ (i := 9) (N := some 81) (v := ?_) (a' := ?_) #[true, true, true, true, true, false, true, true, true, true, false, false, false, false] rfl rfl (any_of HT_.out (by kernel_rfl)) (fun _ _ _ h => h) (Or.inl ⟨by rfl, ?_⟩) ?_ ?_; rotate_left 4
                rotate_left; iterate 9 (rotate_left; (intro w'; go_simp; with_reducible rfl); rotate_left; (simp only [Act.put, List.setIfInBounds_toArray, List.set_cons_zero, List.set_cons_succ, i64_w, i32_w]; rfl))
                refine take_ (i := 5) (N := some 77) (v := ?_) (a' := ?_) #[true, true, true, true, true, true, true, true, true, true, false, false, false, false] rfl rfl (take_ofW HT_.out HW_.out (by kernel_rfl)) (fun _ _ _ h => h) (Or.inl ⟨by rfl, ?_⟩) hHeld ?_ ?_
                rotate_left
                · intro w' s0
                  go_simp
                  with_reducible rfl
                rotate_left
                · simp only [Act.put, List.setIfInBounds_toArray, List.set_cons_zero, List.set_cons_succ, i64_w, i32_w]
                  rfl
                refine one_ (i := 10) (N := some 82) #[true, true, true, true, true, true, true, true, true, true, true, false, false, false] rfl rfl (one_of HT_.out (by kernel_rfl)) (by decide) (fun K hK => ?_)
                refine goes_ Try.func81 (by kernel_rfl) rfl #[.int .i64 a3, .int .i64 a4, .int .i64 x16_2, .float .f32 a2] (by rfl) rfl rfl (by (try simp only [List.map_toArray, List.map_cons, List.map_nil]); first | done | rfl | (simp only [List.length_drop, List.length_take]; rfl)) ?_
                with_reducible refine (spec_l06Noise.calls a3 a4 x16_2 a2 t189 _ A32.out).mono ?_
                rintro e w36 ⟨q189, hq189, rfl, hb⟩
                have HS0_ := (hb.cell (World.block_lt_of_cell? _ _ (hHeld))).trans (hHeld)
                refine ⟨_, rfl, ?_⟩
                have n0_ := Aside0.mk (Kd.R_below (by (with_reducible repeat (first | apply Kd.R_alloc | apply Kd.R_drewN | apply Kd.R_drew)); exact HO_11.out) hb)
                have n1_ := Aside0.mk (below_step (by repeat (first | (with_reducible first | exact HB.out | apply below_alloc | apply pw_below_drewN | apply below_drew1) | exact HB.out)) hb)
                clear HO_11
                clear HB
                have HO_11 := n0_
                have HB := n1_
                clear n0_ n1_
                (try clear hb)
                (try clear hb2)
                (try clear hk)
                (try clear hi)
                have p33 : 0 ≤ (x16_2 : Int) := of_decide_eq_true (by first | (with_reducible assumption) | assumption)
                have q33 : (x16_2 : Int) < ((x11_2.length : Int) : Int) := of_decide_eq_true (by first | (with_reducible assumption) | assumption)
                obtain ⟨go33, co33, eo33, gb33, gl33, cl33, HG33⟩ := Kd.R_form HO_11.out (by have e_ := hz11.1; omega)
                (first | cases eo33 | (injection eo33 with ea_ en_ ec_; (first | subst ea_ | (injection ea_ with ea_; subst ea_)); subst ec_; clear en_))
                have GB33 := Aside0.mk gb33
                have GG33 := Aside0.mk HG33
                clear gb33 gl33 HG33
                (first | simp only [add_plain] at hx188_0 | skip)
                obtain ⟨hx33_0, hf33_0⟩ := Kd.R_celln c64z HO_11.out (x16_2 : Int) p33 q33
                replace p33 := eq_true p33
                replace q33 := eq_true q33
                refine hK.out _ _ (HS0_) (fun hHeld => ?_)
                clear hK K
                refine norm_ (a' := ?_) ?_ ?_
                rotate_left
                · show Act.put _ (some 82) _ = _
                  simp only [Act.put, List.setIfInBounds_toArray, List.set_cons_zero, List.set_cons_succ, i64_w, i32_w]
                  rfl
                refine one_ (i := 11) (N := some 83) #[true, true, true, true, true, true, true, true, true, true, true, true, false, false] rfl rfl (one_of HT_.out (by kernel_rfl)) (by decide) (fun K hK => ?_)
                refine cadd_ (t := 94) (t' := 94) (i := 77) (j := 82) (rdOf c64z z11 x16_2) q189 (rdOf c64z x11_2 x16_2) t189 (by rfl) rfl rfl rfl rfl (hz11.rd _) hq189 ?_
                intro q190 hq190 n28_
                have n0_ := Aside0.mk (Kd.R_drewN HO_11.out n28_)
                have n2_ := Aside0.mk (pw_below_drewN HB.out n28_)
                clear HO_11
                clear HB
                have HO_11 := n0_
                have HB := n2_
                clear n0_ n2_
                have HP37 := Kd.R_putn HO_11.out (x16_2 : Int) q190
                have HQ37 := Aside0.mk (Kd.c64_R_of (by rw [Ny190.out]; exact hz11.set _ hq190 : SameL _ y190) HP37)
                clear HP37
                refine hK.out _ _ hHeld (fun hHeld => ?_)
                clear hK K
                refine norm_ (a' := ?_) ?_ ?_
                rotate_left
                · show Act.put _ (some 83) _ = _
                  simp only [Act.put, List.setIfInBounds_toArray, List.set_cons_zero, List.set_cons_succ, i64_w, i32_w]
                  rfl
                refine pure_ (i := 12) (N := some 84) (v := ?_) (a' := ?_) #[true, true, true, true, true, true, true, true, true, true, true, true, true, false] rfl rfl (any_of HT_.out (by kernel_rfl)) (fun _ _ _ h => h) (Or.inl ⟨by rfl, ?_⟩) ?_ ?_; rotate_left 4
                rotate_left; iterate 1 (rotate_left; (intro w'; go_simp; with_reducible rfl); rotate_left; (simp only [Act.put, List.setIfInBounds_toArray, List.set_cons_zero, List.set_cons_succ, i64_w, i32_w]; rfl))
                refine last_ (i := 13) (N := none) #[true, true, true, true, true, true, true, true, true, true, true, true, true, true] rfl rfl (one_of HT_.out (by kernel_rfl)) (by decide) (fun K hK => ?_)
                refine skip_ (w1 := ?_) (by rfl) rfl ?_ ?_
                rotate_left
                · go_simp
                  rfl
                refine hK.out _ _ ?_
                clear hK K
                refine done_ (done_of HT_.out (by kernel_rfl)) ?_
                try go_wp2
                go_roundg k2
                case measure => have := HK1.out; have := HK2.out; omega
                case rel => exact ⟨(y190), (wrap64 (x16_2 + 1)), (by first | rfl | (simp; done) | (simp [*]; done)), H', ⟨by have := HK1.out; have := HK2.out; omega⟩, ⟨by (with_reducible repeat (first | apply Kd.R_alloc | apply Kd.R_drewN | apply Kd.R_drew)); exact HQ37.out⟩, ⟨by repeat (first | (with_reducible first | exact HB.out | apply below_alloc | apply pw_below_drewN | apply below_drew1 | refine below_set ?_ GB33.out) | exact HB.out)⟩⟩
             · rw [if_neg c31] at H
               exact absurd H (by simp)
           · rw [if_neg c30] at H
             have c30b0 : decide (x16_2 < (x11_2.length : Int)) = false := decide_eq_false c30
             clear c30
             as_aux_lemma =>
              obtain rfl := Option.some.inj H
              obtain ⟨Ao38, co38, eo38⟩ := Kd.R_slice HO_11.out
              subst eo38
              go_wp2
              go_ret
              exact ⟨_, by first | rfl | (simp [errW_none, errW_some] <;> rfl) | (simp [*, errW_none, errW_some] <;> rfl), by (with_reducible repeat (first | apply Kd.R_alloc | apply Kd.R_drewN | apply Kd.R_drew)); exact HO_11.out, by repeat (first | (with_reducible first | exact HB.out | apply below_alloc | apply pw_below_drewN | apply below_drew1) | exact HB.out)⟩
   · rw [if_neg c7] at H
     exact absurd H (by simp)
 · rw [if_neg c6] at H
   exact absurd H (by simp)

/-! ### spec_SnapshotOf: function 24 -/
def spec_SnapshotOf.f (k : Nat) (l0 : List (S88)) (l1 : List (S69)) (a2 : Nat) (a3 : Int) (a4 : Int) : Option (List C64 × Bool) := (spec_l06Ask.f k l0 l1 a3).bind fun t173 => (if t173 = true then ((spec_l06Index.f a4).bind fun t174 => (if t174 = true then ((spec_l06Shot.f k l0 l1 a2 a3 a4).bind fun t175 => (some (t175, true))) else (some (([] : List C64), false)))) else (some (([] : List C64), false)))
theorem spec_SnapshotOf.mono : ∀ a0 a1 a2 a3 a4 k, LeO (spec_SnapshotOf.f k a0 a1 a2 a3 a4) (spec_SnapshotOf.f (k + 1) a0 a1 a2 a3 a4) := by
 intro a0 a1 a2 a3 a4 k
 unfold spec_SnapshotOf.f
 repeat' first
  | (with_reducible exact spec_l06Ask.mono _ _ _ _)
  | (with_reducible exact spec_l06Shot.mono _ _ _ _ _ _)
  | (with_reducible exact LeO.refl _)
  | (with_reducible exact LeO.none _)
  | (with_reducible refine LeO.ite ?_ ?_)
  | (with_reducible refine LeO.bind ?_ (fun _ => ?_))
  | exact spec_l06Ask.mono _ _ _ _
  | exact spec_l06Shot.mono _ _ _ _ _ _
  | exact LeO.none _
  | refine LeO.ite ?_ ?_
  | refine LeO.bind ?_ (fun _ => ?_)
set_option maxHeartbeats 8000000 in
set_option maxRecDepth 100000 in
theorem spec_SnapshotOf.calls (k : Nat) (A0 : Option Addr) (c0 : Nat) (l0 : List (S88)) (A1 : Option Addr) (c1 : Nat) (l1 : List (S69)) (a2 : Nat) (a3 : Int) (a4 : Int) (r1 : List C64) (r2 : Bool) (w : World) (hr0 : Kd.C k88 w A0 l0.length l0) (hc0 : l0.length ≤ c0) (hr1 : Kd.C k69 w A1 l1.length l1) (hc1 : l1.length ≤ c1) (h : spec_SnapshotOf.f k l0 l1 a2 a3 a4 = some (r1, r2)) :
 Calls Try.prog 24 #[.slice A0 l0.length c0, .slice A1 l1.length c1, .float .f32 a2, .int .i64 a3, .int .i64 a4] w fun e w' => ∃ v0_ : Value, e = .returned (.tuple #[v0_, .bool r2]) ∧ Kd.R Kd.c64 94 w' w.heap.size (fun _ => True) v0_ r1 ∧ Below w.heap.size w w' := by
 have HR0 := Aside0.mk hr0
 have HC0 := Aside0.mk hc0
 clear hr0 hc0
 have HR1 := Aside0.mk hr1
 have HC1 := Aside0.mk hc1
 clear hr1 hc1
 have HB := Aside0.mk (Below.refl w.heap.size w)
 have H : ((spec_l06Ask.f k l0 l1 a3).bind fun t173 => (if t173 = true then ((spec_l06Index.f a4).bind fun t174 => (if t174 = true then ((spec_l06Shot.f k l0 l1 a2 a3 a4).bind fun t175 => (some (t175, true))) else (some (([] : List C64), false)))) else (some (([] : List C64), false)))) = some (r1, r2) := h
 clear h
 replace H := Option.bind_eq_some_iff.mp H
 obtain ⟨t173, A60, H⟩ := H
 replace H : (if t173 = true then ((spec_l06Index.f a4).bind fun t174 => (if t174 = true then ((spec_l06Shot.f k l0 l1 a2 a3 a4).bind fun t175 => (some (t175, true))) else (some (([] : List C64), false)))) else (some (([] : List C64), false))) = some (r1, r2) := H
 have A6 := Aside0.mk A60
 clear A60
 by_cases c7 : t173 = true
 · subst c7
   have H1 : ((spec_l06Index.f a4).bind fun t174 => (if t174 = true then ((spec_l06Shot.f k l0 l1 a2 a3 a4).bind fun t175 => (some (t175, true))) else (some (([] : List C64), false)))) = some (r1, r2) := by rw [if_pos rfl] at H; exact H
   clear H
   have H := H1
   clear H1
   replace H := Option.bind_eq_some_iff.mp H
   obtain ⟨t174, A80, H⟩ := H
   replace H : (if t174 = true then ((spec_l06Shot.f k l0 l1 a2 a3 a4).bind fun t175 => (some (t175, true))) else (some (([] : List C64), false))) = some (r1, r2) := H
   have A8 := Aside0.mk A80
   clear A80
   by_cases c9 : t174 = true
   · subst c9
     have H1 : ((spec_l06Shot.f k l0 l1 a2 a3 a4).bind fun t175 => (some (t175, true))) = some (r1, r2) := by rw [if_pos rfl] at H; exact H
     clear H
     have H := H1
     clear H1
     replace H := Option.bind_eq_some_iff.mp H
     obtain ⟨t175, A100, H⟩ := H
     replace H : (some (t175, true)) = some (r1, r2) := H
     have A10 := Aside0.mk A100
     clear A100
     simp only [Option.some.injEq, Prod.mk.injEq] at H
     obtain ⟨rfl, rfl⟩ := H
     go_enter Try.func24, Try.ntmps24
     go_wp2_with (first | ((with_reducible refine gate_callee (f := 56) rfl ?_); refine goesL_ (some 15) rfl rfl Try.func56 (by kernel_rfl) rfl #[.slice A0 l0.length c0, .slice A1 l1.length c1, .int .i64 a3] rfl (by (try simp only [List.map_toArray, List.map_cons, List.map_nil]); first | done | rfl | (simp only [List.length_drop, List.length_take]; rfl)) ?_; (with_reducible refine (spec_l06Ask.calls k _ _ l0 _ _ l1 a3 true _ ?side1 ?side2 ?side3 ?side4 A6.out).mono ?_); (case side1 => repeat (first | exact HR0.out | (with_reducible refine Kd.C_alloc ?_ _) | (with_reducible refine Kd.C_drewN ?_ _) | (with_reducible refine Kd.C_drew ?_))); (case side2 => exact HC0.out); (case side3 => repeat (first | exact HR1.out | (with_reducible refine Kd.C_alloc ?_ _) | (with_reducible refine Kd.C_drewN ?_ _) | (with_reducible refine Kd.C_drew ?_))); (case side4 => exact HC1.out); rintro e w11 ⟨rfl, hb⟩; refine ⟨_, rfl, ?_⟩; have n0_ := Aside0.mk (below_step (by repeat (first | (with_reducible first | exact HB.out | apply below_alloc | apply pw_below_drewN | apply below_drew1) | exact HB.out)) hb); clear HB; have HB := n0_; clear n0_; (try clear hb); (try clear hb2); (try clear hk); (try clear hi)) | (go_at_call 57; (with_reducible refine (spec_l06Index.calls a4 true _ A8.out).mono ?_); rintro e w' ⟨rfl, ⟨nd, rfl⟩⟩) | ((with_reducible refine gate_callee (f := 58) rfl ?_); refine goesL_ (some 27) rfl rfl Try.func58 (by kernel_rfl) rfl #[.slice A0 l0.length c0, .slice A1 l1.length c1, .float .f32 a2, .int .i64 a3, .int .i64 a4] rfl (by (try simp only [List.map_toArray, List.map_cons, List.map_nil]); first | done | rfl | (simp only [List.length_drop, List.length_take]; rfl)) ?_; (with_reducible refine (spec_l06Shot.calls k _ _ l0 _ _ l1 a2 a3 a4 t175 _ ?side1 ?side2 ?side3 ?side4 A10.out).mono ?_); (case side1 => repeat (first | exact (Kd.C_below HR0.out (by repeat (first | (with_reducible first | exact HB.out | apply below_alloc | apply pw_below_drewN | apply below_drew1) | exact HB.out))) | (with_reducible refine Kd.C_alloc ?_ _) | (with_reducible refine Kd.C_drewN ?_ _) | (with_reducible refine Kd.C_drew ?_))); (case side2 => exact HC0.out); (case side3 => repeat (first | exact (Kd.C_below HR1.out (by repeat (first | (with_reducible first | exact HB.out | apply below_alloc | apply pw_below_drewN | apply below_drew1) | exact HB.out))) | (with_reducible refine Kd.C_alloc ?_ _) | (with_reducible refine Kd.C_drewN ?_ _) | (with_reducible refine Kd.C_drew ?_))); (case side4 => exact HC1.out); rintro e w12 ⟨v176, rfl, ho0, hb⟩; refine ⟨_, rfl, ?_⟩; have n0_ := Aside0.mk (Kd.R_lower ho0 (below_size (by repeat (first | (with_reducible first | exact HB.out | apply below_alloc | apply pw_below_drewN | apply below_drew1) | exact HB.out)))); have n1_ := Aside0.mk (below_step (by repeat (first | (with_reducible first | exact HB.out | apply below_alloc | apply pw_below_drewN | apply below_drew1) | exact HB.out)) hb); clear HB; have HO177 := n0_; have HB := n1_; clear n0_ n1_; (try clear hb); (try clear hb2); (try clear hk); (try clear hi); (try clear ho0)))
     go_ret2
     exact ⟨_, by first | rfl | (simp [errW_none, errW_some] <;> rfl) | (simp [*, errW_none, errW_some] <;> rfl), by (with_reducible repeat (first | apply Kd.R_alloc | apply Kd.R_drewN | apply Kd.R_drew)); exact HO177.out, by repeat (first | (with_reducible first | exact HB.out | apply below_alloc | apply pw_below_drewN | apply below_drew1) | exact HB.out)⟩
   · replace c9 := Bool.eq_false_iff.mpr c9
     subst c9
     have H1 : (some (([] : List C64), false)) = some (r1, r2) := by rw [if_neg (show ¬ (false = true) by decide)] at H; exact H
     clear H
     have H := H1
     clear H1
     simp only [Option.some.injEq, Prod.mk.injEq] at H
     obtain ⟨rfl, rfl⟩ := H
     go_enter Try.func24, Try.ntmps24
     go_wp2_with (first | ((with_reducible refine gate_callee (f := 56) rfl ?_); refine goesL_ (some 15) rfl rfl Try.func56 (by kernel_rfl) rfl #[.slice A0 l0.length c0, .slice A1 l1.length c1, .int .i64 a3] rfl (by (try simp only [List.map_toArray, List.map_cons, List.map_nil]); first | done | rfl | (simp only [List.length_drop, List.length_take]; rfl)) ?_; (with_reducible refine (spec_l06Ask.calls k _ _ l0 _ _ l1 a3 true _ ?side1 ?side2 ?side3 ?side4 A6.out).mono ?_); (case side1 => repeat (first | exact HR0.out | (with_reducible refine Kd.C_alloc ?_ _) | (with_reducible refine Kd.C_drewN ?_ _) | (with_reducible refine Kd.C_drew ?_))); (case side2 => exact HC0.out); (case side3 => repeat (first | exact HR1.out | (with_reducible refine Kd.C_alloc ?_ _) | (with_reducible refine Kd.C_drewN ?_ _) | (with_reducible refine Kd.C_drew ?_))); (case side4 => exact HC1.out); rintro e w13 ⟨rfl, hb⟩; refine ⟨_, rfl, ?_⟩; have n0_ := Aside0.mk (below_step (by repeat (first | (with_reducible first | exact HB.out | apply below_alloc | apply pw_below_drewN | apply below_drew1) | exact HB.out)) hb); clear HB; have HB := n0_; clear n0_; (try clear hb); (try clear hb2); (try clear hk); (try clear hi)) | (go_at_call 57; (with_reducible refine (spec_l06Index.calls a4 false _ A8.out).mono ?_); rintro e w' ⟨rfl, ⟨nd, rfl⟩⟩))
     go_ret2
     exact ⟨_, by first | rfl | (simp [errW_none, errW_some] <;> rfl) | (simp [*, errW_none, errW_some] <;> rfl), by first | exact Kd.R_nil _ _ _ _ _ | exact Kd.N_nil _ _ _ _ _ | exact Kd.V_nil _ _ _ _ _ | exact Kd.Q_nil _ _ _ _ _ | exact Kd.S_nil _ _ _ _ _, by repeat (first | (with_reducible first | exact HB.out | apply below_alloc | apply pw_below_drewN | apply below_drew1) | exact HB.out)⟩
 · replace c7 := Bool.eq_false_iff.mpr c7
   subst c7
   have H1 : (some (([] : List C64), false)) = some (r1, r2) := by rw [if_neg (show ¬ (false = true) by decide)] at H; exact H
   clear H
   have H := H1
   clear H1
   simp only [Option.some.injEq, Prod.mk.injEq] at H
   obtain ⟨rfl, rfl⟩ := H
   go_enter Try.func24, Try.ntmps24
   go_wp2_with (first | ((with_reducible refine gate_callee (f := 56) rfl ?_); refine goesL_ (some 15) rfl rfl Try.func56 (by kernel_rfl) rfl #[.slice A0 l0.length c0, .slice A1 l1.length c1, .int .i64 a3] rfl (by (try simp only [List.map_toArray, List.map_cons, List.map_nil]); first | done | rfl | (simp only [List.length_drop, List.length_take]; rfl)) ?_; (with_reducible refine (spec_l06Ask.calls k _ _ l0 _ _ l1 a3 false _ ?side1 ?side2 ?side3 ?side4 A6.out).mono ?_); (case side1 => repeat (first | exact HR0.out | (with_reducible refine Kd.C_alloc ?_ _) | (with_reducible refine Kd.C_drewN ?_ _) | (with_reducible refine Kd.C_drew ?_))); (case side2 => exact HC0.out); (case side3 => repeat (first | exact HR1.out | (with_reducible refine Kd.C_alloc ?_ _) | (with_reducible refine Kd.C_drewN ?_ _) | (with_reducible refine Kd.C_drew ?_))); (case side4 => exact HC1.out); rintro e w14 ⟨rfl, hb⟩; refine ⟨_, rfl, ?_⟩; have n0_ := Aside0.mk (below_step (by repeat (first | (with_reducible first | exact HB.out | apply below_alloc | apply pw_below_drewN | apply below_drew1) | exact HB.out)) hb); clear HB; have HB := n0_; clear n0_; (try clear hb); (try clear hb2); (try clear hk); (try clear hi)))
   go_ret2
   exact ⟨_, by first | rfl | (simp [errW_none, errW_some] <;> rfl) | (simp [*, errW_none, errW_some] <;> rfl), by first | exact Kd.R_nil _ _ _ _ _ | exact Kd.N_nil _ _ _ _ _ | exact Kd.V_nil _ _ _ _ _ | exact Kd.Q_nil _ _ _ _ _ | exact Kd.S_nil _ _ _ _ _, by repeat (first | (with_reducible first | exact HB.out | apply below_alloc | apply pw_below_drewN | apply below_drew1) | exact HB.out)⟩

/-! ### laws_toPlace: function 59 -/
def laws_toPlace.f (a0_0 : Int) (a0_1 : Int) : Option (Int × Int) := some (a0_0, a0_1)
set_option maxHeartbeats 8000000 in
set_option maxRecDepth 100000 in
theorem laws_toPlace.calls (a0_0 : Int) (a0_1 : Int) (r1 : Int) (r2 : Int) (w : World) (h : laws_toPlace.f a0_0 a0_1 = some (r1, r2)) :
 Calls Try.prog 59 #[.agg #[.int .i64 a0_0, .int .i64 a0_1]] w fun e w' => e = .returned (.agg #[.int .i64 r1, .int .i64 r2]) ∧ Below w.heap.size w w' := by
 have hu90 := Try.underlying90
 have hu88 := Try.underlying88
 have HB := Aside0.mk (Below.refl w.heap.size w)
 have H : (some (a0_0, a0_1)) = some (r1, r2) := h
 clear h
 simp only [Option.some.injEq, Prod.mk.injEq] at H
 obtain ⟨rfl, rfl⟩ := H
 go_enter Try.func59, Try.ntmps59
 go_wp2_with (first | ((with_reducible refine gate_dst (N := 1) rfl ?_); refine box_event ?hg (N := 1) ?hd (cs := #[.int .i64 a0_0, .int .i64 a0_1]) (t := 90) ?hr ?_; (case hd => rfl); (case hg => rfl); (case hr => first | (go_simp; done) | (go_simp; rfl)); intro gb178 hg w2 hbox hb; have n0_ := Aside0.mk (below_step (by repeat (first | (with_reducible first | exact HB.out | apply below_alloc | apply pw_below_drewN | apply below_drew1) | exact HB.out)) hb); have n1_ := Aside0.mk (hbox); have n2_ := Aside0.mk ((by rw [hg]; exact (below_size (by repeat (first | (with_reducible first | exact HB.out | apply below_alloc | apply pw_below_drewN | apply below_drew1) | exact HB.out))) : w.heap.size ≤ gb178)); have n3_ := Aside0.mk ((by rw [hg]; exact (below_size (by repeat (first | (with_reducible first | exact HB.out | apply below_alloc | apply pw_below_drewN | apply below_drew1) | exact HB.out))) : w.heap.size ≤ gb178)); clear HB; have HB := n0_; have BK178 := n1_; have GW178 := n2_; have GE178 := n3_; clear n0_ n1_ n2_ n3_; clear hb hbox hg) | ((with_reducible refine gate_dst (N := 2) rfl ?_); refine box_event ?hg (N := 2) ?hd (cs := #[.int .i64 0, .int .i64 0]) (t := 88) ?hr ?_; (case hd => rfl); (case hg => rfl); (case hr => first | (go_simp; done) | (go_simp; rfl)); intro gb179 hg w3 hbox hb; have n0_ := Aside0.mk (blk_below (g := gb178) (o := .cells #[.int .i64 a0_0, .int .i64 a0_1] 90 (0, 0)) (by (with_reducible repeat (first | refine blk_drewN ?_ _ | refine blk_drew ?_ | refine blk_alloc ?_ _)); exact BK178.out) hb); have n1_ := Aside0.mk (below_step (by repeat (first | (with_reducible first | exact HB.out | apply below_alloc | apply pw_below_drewN | apply below_drew1 | refine below_set ?_ GE178.out) | exact HB.out)) hb); have n2_ := Aside0.mk (hbox); have n3_ := Aside0.mk ((by rw [hg]; exact (below_size (by repeat (first | (with_reducible first | exact HB.out | apply below_alloc | apply pw_below_drewN | apply below_drew1 | refine below_set ?_ GE178.out) | exact HB.out))) : w.heap.size ≤ gb179)); have n4_ := Aside0.mk ((by rw [hg]; exact (below_size (by repeat (first | (with_reducible first | exact HB.out | apply below_alloc | apply pw_below_drewN | apply below_drew1 | refine below_set ?_ GE178.out) | exact HB.out))) : w.heap.size ≤ gb179)); have n5_ := Aside0.mk ((by rw [hg]; exact Nat.ne_of_lt (blk_lt (g := gb178) (o := .cells #[.int .i64 a0_0, .int .i64 a0_1] 90 (0, 0)) (by (with_reducible repeat (first | refine blk_drewN ?_ _ | refine blk_drew ?_ | refine blk_alloc ?_ _)); exact BK178.out)) : gb178 ≠ gb179)); have n6_ := Aside0.mk ((by rw [hg]; exact Nat.ne_of_gt (blk_lt (g := gb178) (o := .cells #[.int .i64 a0_0, .int .i64 a0_1] 90 (0, 0)) (by (with_reducible repeat (first | refine blk_drewN ?_ _ | refine blk_drew ?_ | refine blk_alloc ?_ _)); exact BK178.out)) : gb179 ≠ gb178)); clear BK178; clear HB; have BK178 := n0_; have HB := n1_; have BK179 := n2_; have GW179 := n3_; have GE179 := n4_; have NB178_179 := n5_; have NB179_178 := n6_; clear n0_ n1_ n2_ n3_ n4_ n5_ n6_; clear hb hbox hg) | ((with_reducible refine gate_dst (N := 3) rfl ?_); refine box_event ?hg (N := 3) ?hd (cs := #[.int .i64 0, .int .i64 0]) (t := 88) ?hr ?_; (case hd => rfl); (case hg => rfl); (case hr => first | (go_simp; done) | (go_simp; rfl)); intro gb180 hg w4 hbox hb; have n0_ := Aside0.mk (blk_below (g := gb178) (o := .cells #[.int .i64 a0_0, .int .i64 a0_1] 90 (0, 0)) (by (with_reducible repeat (first | refine blk_drewN ?_ _ | refine blk_drew ?_ | refine blk_alloc ?_ _)); exact BK178.out) hb); have n1_ := Aside0.mk (blk_below (g := gb179) (o := .cells #[.int .i64 0, .int .i64 0] 88 (0, 0)) (by (with_reducible repeat (first | refine blk_drewN ?_ _ | refine blk_drew ?_ | refine blk_alloc ?_ _)); exact BK179.out) hb); have n2_ := Aside0.mk (below_step (by repeat (first | (with_reducible first | exact HB.out | apply below_alloc | apply pw_below_drewN | apply below_drew1 | refine below_set ?_ GE178.out | refine below_set ?_ GE179.out) | exact HB.out)) hb); have n3_ := Aside0.mk (hbox); have n4_ := Aside0.mk ((by rw [hg]; exact (below_size (by repeat (first | (with_reducible first | exact HB.out | apply below_alloc | apply pw_below_drewN | apply below_drew1 | refine below_set ?_ GE178.out | refine below_set ?_ GE179.out) | exact HB.out))) : w.heap.size ≤ gb180)); have n5_ := Aside0.mk ((by rw [hg]; exact (below_size (by repeat (first | (with_reducible first | exact HB.out | apply below_alloc | apply pw_below_drewN | apply below_drew1 | refine below_set ?_ GE178.out | refine below_set ?_ GE179.out) | exact HB.out))) : w.heap.size ≤ gb180)); have n6_ := Aside0.mk ((by rw [hg]; exact Nat.ne_of_lt (blk_lt (g := gb178) (o := .cells #[.int .i64 a0_0, .int .i64 a0_1] 90 (0, 0)) (by (with_reducible repeat (first | refine blk_drewN ?_ _ | refine blk_drew ?_ | refine blk_alloc ?_ _)); exact BK178.out)) : gb178 ≠ gb180)); have n7_ := Aside0.mk ((by rw [hg]; exact Nat.ne_of_gt (blk_lt (g := gb178) (o := .cells #[.int .i64 a0_0, .int .i64 a0_1] 90 (0, 0)) (by (with_reducible repeat (first | refine blk_drewN ?_ _ | refine blk_drew ?_ | refine blk_alloc ?_ _)); exact BK178.out)) : gb180 ≠ gb178)); have n8_ := Aside0.mk ((by rw [hg]; exact Nat.ne_of_lt (blk_lt (g := gb179) (o := .cells #[.int .i64 0, .int .i64 0] 88 (0, 0)) (by (with_reducible repeat (first | refine blk_drewN ?_ _ | refine blk_drew ?_ | refine blk_alloc ?_ _)); exact BK179.out)) : gb179 ≠ gb180)); have n9_ := Aside0.mk ((by rw [hg]; exact Nat.ne_of_gt (blk_lt (g := gb179) (o := .cells #[.int .i64 0, .int .i64 0] 88 (0, 0)) (by (with_reducible repeat (first | refine blk_drewN ?_ _ | refine blk_drew ?_ | refine blk_alloc ?_ _)); exact BK179.out)) : gb180 ≠ gb179)); clear BK178; clear BK179; clear HB; have BK178 := n0_; have BK179 := n1_; have HB := n2_; have BK180 := n3_; have GW180 := n4_; have GE180 := n5_; have NB178_180 := n6_; have NB180_178 := n7_; have NB179_180 := n8_; have NB180_179 := n9_; clear n0_ n1_ n2_ n3_ n4_ n5_ n6_ n7_ n8_ n9_; clear hb hbox hg; have hnb5 := NB178_179.out; have hnc5 := NB179_178.out; have hnb6 := NB178_180.out; have hnc6 := NB180_178.out; have hcz7_0 : w4.cell? ⟨gb178, 0, none⟩ = some (.int .i64 a0_0) := (blk_cell BK178.out 0).trans rfl; have hcz7_1 : w4.cell? ⟨gb178, 1, none⟩ = some (.int .i64 a0_1) := (blk_cell BK178.out 1).trans rfl; have hfz7_0 := blk_frozen BK178.out 0; have hfz7_1 := blk_frozen BK178.out 1; have hnb8 := NB180_179.out; have hnc8 := NB179_180.out; have hcz9_0 : w4.cell? ⟨gb180, 0, none⟩ = some (.int .i64 0) := (blk_cell BK180.out 0).trans rfl; have hcz9_1 : w4.cell? ⟨gb180, 1, none⟩ = some (.int .i64 0) := (blk_cell BK180.out 1).trans rfl; have hfz9_0 := blk_frozen BK180.out 0; have hfz9_1 := blk_frozen BK180.out 1; have hcz10_0 : w4.cell? ⟨gb179, 0, none⟩ = some (.int .i64 0) := (blk_cell BK179.out 0).trans rfl; have hcz10_1 : w4.cell? ⟨gb179, 1, none⟩ = some (.int .i64 0) := (blk_cell BK179.out 1).trans rfl; have hfz10_0 := blk_frozen BK179.out 0; have hfz10_1 := blk_frozen BK179.out 1))
 refine bodyPost_ret (results_cell_row rfl _ _ gb179 88 #[.int .i64 a0_0, .int .i64 a0_1] (0, 0) _ rfl (by (with_reducible repeat (first | refine blk_drewN ?_ _ | refine blk_drew ?_ | refine blk_alloc ?_ _)); refine blk_put (cs := #[.int .i64 a0_0, .int .i64 0]) ?_ 1 _ rfl; (with_reducible repeat (first | refine blk_drewN ?_ _ | refine blk_drew ?_ | refine blk_alloc ?_ _)); refine blk_put (cs := #[.int .i64 0, .int .i64 0]) ?_ 0 _ rfl; (with_reducible repeat (first | refine blk_drewN ?_ _ | refine blk_drew ?_ | refine blk_alloc ?_ _)); refine blk_far ?_ NB179_180.out _; (with_reducible repeat (first | refine blk_drewN ?_ _ | refine blk_drew ?_ | refine blk_alloc ?_ _)); refine blk_far ?_ NB179_180.out _; (with_reducible repeat (first | refine blk_drewN ?_ _ | refine blk_drew ?_ | refine blk_alloc ?_ _)); exact BK179.out) Try.underlying88 rfl (by kernel_rfl)) rfl ?_
 exact ⟨by first | rfl | (simp [errW_none, errW_some] <;> rfl) | (simp [*, errW_none, errW_some] <;> rfl), by repeat (first | (with_reducible first | exact HB.out | apply below_alloc | apply pw_below_drewN | apply below_drew1 | refine below_set ?_ GE178.out | refine below_set ?_ GE179.out | refine below_set ?_ GE180.out) | exact HB.out)⟩

/-! ### laws_toPlaceS: function 25 -/
def laws_toPlaceS.l0 : Nat → List (S90) → List (S88) → Int → Option ((List (S88)))
 | 0, _, _, _ => none
 | k + 1, x0, x3, x4 => if x4 < (x0.length : Int) then (if 0 ≤ x4 then ((laws_toPlace.f ((rd_T90 x0 x4).f0) ((rd_T90 x0 x4).f1)).bind fun bt185 => (if x4 < (x3.length : Int) then (laws_toPlaceS.l0 k x0 (x3.set (x4 : Int).toNat (⟨bt185.1, bt185.2⟩ : S88)) (wrap64 (x4 + 1))) else (none))) else (none)) else (some x3)
def laws_toPlaceS.f (k : Nat) (l0 : List (S90)) : Option ((List (S88))) := if 0 ≤ (l0.length : Int) then (if ((l0.length : Int) : Int).toNat ≤ 17592186044416 then (laws_toPlaceS.l0 k l0 (List.replicate ((l0.length : Int) : Int).toNat z88) 0) else (none)) else (none)
theorem laws_toPlaceS.mono_l : ∀ k, (∀ y0 y1 y2, LeO (laws_toPlaceS.l0 k y0 y1 y2) (laws_toPlaceS.l0 (k + 1) y0 y1 y2))
 | 0 => fun _ _ _ r h => by simp [laws_toPlaceS.l0] at h
 | k + 1 => by
  have ih0 := laws_toPlaceS.mono_l k
  · intro y0 y1 y2
    unfold laws_toPlaceS.l0
    repeat' first
    | (with_reducible exact ih0 _ _ _)
    | (with_reducible exact LeO.refl _)
    | (with_reducible exact LeO.none _)
    | (with_reducible refine LeO.ite ?_ ?_)
    | (with_reducible refine LeO.bind ?_ (fun _ => ?_))
    | exact ih0 _ _ _
    | exact LeO.none _
    | refine LeO.ite ?_ ?_
    | refine LeO.bind ?_ (fun _ => ?_)
theorem laws_toPlaceS.mono : ∀ a0 k, LeO (laws_toPlaceS.f k a0) (laws_toPlaceS.f (k + 1) a0) := by
 intro a0 k
 have ih0 := laws_toPlaceS.mono_l k
 unfold laws_toPlaceS.f
 repeat' first
  | (with_reducible exact ih0 _ _ _)
  | (with_reducible exact LeO.refl _)
  | (with_reducible exact LeO.none _)
  | (with_reducible refine LeO.ite ?_ ?_)
  | (with_reducible refine LeO.bind ?_ (fun _ => ?_))
  | exact ih0 _ _ _
  | exact LeO.none _
  | refine LeO.ite ?_ ?_
  | refine LeO.bind ?_ (fun _ => ?_)
set_option maxHeartbeats 8000000 in
set_option maxRecDepth 100000 in
theorem laws_toPlaceS.calls (k : Nat) (A0 : Option Addr) (c0 : Nat) (l0 : List (S90)) (r : List (S88)) (w : World) (hr0 : Kd.C k90 w A0 l0.length l0) (hc0 : l0.length ≤ c0) (h : laws_toPlaceS.f k l0 = some r) :
 Calls Try.prog 25 #[.slice A0 l0.length c0] w fun e w' => ∃ v0_ : Value, e = .returned (v0_) ∧ Kd.R k88 88 w' w.heap.size (fun _ => True) v0_ r ∧ Below w.heap.size w w' := by
 have hu90 := Try.underlying90
 have hu88 := Try.underlying88
 have HR0 := Aside0.mk hr0
 have HC0 := Aside0.mk hc0
 clear hr0 hc0
 have HB := Aside0.mk (Below.refl w.heap.size w)
 have H : (if 0 ≤ (l0.length : Int) then (if ((l0.length : Int) : Int).toNat ≤ 17592186044416 then (laws_toPlaceS.l0 k l0 (List.replicate ((l0.length : Int) : Int).toNat z88) 0) else (none)) else (none)) = some r := h
 clear h
 by_cases c2 : 0 ≤ (l0.length : Int)
 · rw [if_pos c2] at H
   have c2b0 := eq_true c2
   have c2b1 : decide (0 ≤ (l0.length : Int)) = true := decide_eq_true c2
   clear c2
   by_cases c3 : ((l0.length : Int) : Int).toNat ≤ 17592186044416
   · rw [if_pos c3] at H
     have c3b0 := eq_true c3
     have c3b1 : decide (((l0.length : Int) : Int).toNat ≤ 17592186044416) = true := decide_eq_true c3
     clear c3
     obtain ⟨y181, hy181⟩ : ∃ y_ : List (S88), y_ = (List.replicate ((l0.length : Int) : Int).toNat z88) := ⟨_, rfl⟩
     replace H : (laws_toPlaceS.l0 k l0 y181 0) = some r := by first | (rw [hy181]; with_reducible exact H) | (have H2_ := (Option.bind_some _ _).symm.trans H; rw [hy181]; with_reducible exact H2_) | (have H2_ := (Option.bind_some _ _).symm.trans H; with_reducible exact H2_) | with_reducible exact H | (rw [hy181]; exact H) | exact H
     have Ny181 := Aside0.mk hy181
     clear hy181
     have H' := Aside0.mk H
     clear H
     go_enter Try.func25, Try.ntmps25
     go_wp2_with (first | ((with_reducible refine gate_dst (N := 7) rfl ?_); refine Kd.R_make k88 _ 88 rfl (N := 7) rfl 48 _ _ rfl (l0.length : Int) rfl rfl Try.underlying48 (.agg #[(.int .i64 0), (.int .i64 0)]) 16 info88 rfl (by decide) (by omega) z88 (ok := fun _ => True) (okp := fun _ => True) (k88_mkM _ _ _ z88 ) (fun _ hk => hk) trivial (of_decide_eq_true (by first | (with_reducible assumption) | assumption)) (Nat.le_trans (Nat.mul_le_mul_right _ (of_decide_eq_true (by first | (with_reducible assumption) | assumption) : (l0.length : Int).toNat ≤ 17592186044416)) (by omega)) (Below.refl _ _) (Nat.le_refl _) ?_; intro v182 w4 ho5 hb hg_ hnew_; clear hg_ hnew_; (first | rw [← Ny181.out] at ho5 | (simp only [Int.reduceToNat] at ho5; rw [← Ny181.out] at ho5)); have n0_ := Aside0.mk (Kd.R_lower ho5 (below_size (by repeat (first | (with_reducible first | exact HB.out | apply below_alloc | apply pw_below_drewN | apply below_drew1) | exact HB.out)))); have n1_ := Aside0.mk (below_step (by repeat (first | (with_reducible first | exact HB.out | apply below_alloc | apply pw_below_drewN | apply below_drew1) | exact HB.out)) hb); clear HB; have HO183 := n0_; have HB := n1_; clear n0_ n1_; clear hb ho5))
     go_loopg [4] k (fun kq v4 w' => ∃ (x3_1 : List (S88)) (x4_1 : Int), v4 = .int .i64 x4_1 ∧ Aside0 (laws_toPlaceS.l0 kq l0 x3_1 x4_1 = some r) ∧ Aside0 (kq ≤ k) ∧ Aside0 (Kd.R k88 88 w' w.heap.size (fun _ => True) v182 x3_1) ∧ Aside0 (Below w.heap.size w w'))
     case atStart => exact ⟨(y181), (0), (by first | rfl | (simp; done) | (simp [*]; done)), H', ⟨Nat.le_refl _⟩, ⟨by (with_reducible repeat (first | apply Kd.R_alloc | apply Kd.R_drewN | apply Kd.R_drew)); exact HO183.out⟩, ⟨by repeat (first | (with_reducible first | exact HB.out | apply below_alloc | apply pw_below_drewN | apply below_drew1) | exact HB.out)⟩⟩
     case round =>
      clear H'
      (try clear c2); (try clear c2b0); (try clear c2b1); (try clear p2); (try clear c3); (try clear c3b0); (try clear c3b1)
      obtain ⟨x3_1, x4_1, rfl, HA, HK1, HO_3, HB⟩ := hrel
      cases gk with
      | zero => exact absurd HA.out (by simp [laws_toPlaceS.l0])
      | succ k1 =>
       have H := HA.out
       clear HA
       simp only [laws_toPlaceS.l0] at H
       by_cases c6 : x4_1 < (l0.length : Int)
       · rw [if_pos c6] at H
         have c6b0 : decide (x4_1 < (l0.length : Int)) = true := decide_eq_true c6
         clear c6
         by_cases c7 : 0 ≤ x4_1
         · rw [if_pos c7] at H
           have c7b0 : decide (0 ≤ x4_1) = true := decide_eq_true c7
           clear c7
           replace H := Option.bind_eq_some_iff.mp H
           obtain ⟨⟨t185, t186⟩, A80, H⟩ := H
           replace H : (if x4_1 < (x3_1.length : Int) then (laws_toPlaceS.l0 k1 l0 (x3_1.set (x4_1 : Int).toNat (⟨t185, t186⟩ : S88)) (wrap64 (x4_1 + 1))) else (none)) = some r := H
           have A8 := Aside0.mk A80
           clear A80
           by_cases c9 : x4_1 < (x3_1.length : Int)
           · rw [if_pos c9] at H
             have c9b0 : decide (x4_1 < (x3_1.length : Int)) = true := decide_eq_true c9
             clear c9
             obtain ⟨y187, hy187⟩ : ∃ y_ : List (S88), y_ = (x3_1.set (x4_1 : Int).toNat (⟨t185, t186⟩ : S88)) := ⟨_, rfl⟩
             replace H : (laws_toPlaceS.l0 k1 l0 y187 (wrap64 (x4_1 + 1))) = some r := by first | (rw [hy187]; with_reducible exact H) | (have H2_ := (Option.bind_some _ _).symm.trans H; rw [hy187]; with_reducible exact H2_) | (have H2_ := (Option.bind_some _ _).symm.trans H; with_reducible exact H2_) | with_reducible exact H | (rw [hy187]; exact H) | exact H
             have Ny187 := Aside0.mk hy187
             clear hy187
             have H' := Aside0.mk H
             clear H
             have p184 : 0 ≤ (x4_1 : Int) := of_decide_eq_true (by first | (with_reducible assumption) | assumption)
             have q184 : x4_1 < (l0.length : Int) := of_decide_eq_true (by first | (with_reducible assumption) | assumption)
             obtain ⟨ad184, e184, hx184_0, hx184_1⟩ := at_T90 HR0.out x4_1 p184 q184
             cases e184
             replace hx184_0 := (HB.out.cell (World.block_lt_of_cell? w _ hx184_0)).trans hx184_0
             replace hx184_1 := (HB.out.cell (World.block_lt_of_cell? w _ hx184_1)).trans hx184_1
             replace p184 := eq_true p184
             replace q184 := eq_true q184
             go_wp2_with (first | ((with_reducible refine gate_callee (f := 59) rfl ?_); refine goesL_ (some 20) rfl rfl Try.func59 (by kernel_rfl) rfl #[.agg #[.int .i64 ((rd_T90 l0 x4_1).f0), .int .i64 ((rd_T90 l0 x4_1).f1)]] rfl (by (try simp only [List.map_toArray, List.map_cons, List.map_nil]); first | done | rfl | (simp only [List.length_drop, List.length_take]; rfl)) ?_; (with_reducible refine (laws_toPlace.calls ((rd_T90 l0 x4_1).f0) ((rd_T90 l0 x4_1).f1) t185 t186 _ A8.out).mono ?_); rintro e w11 ⟨rfl, hb⟩; refine ⟨_, rfl, ?_⟩; have n0_ := Aside0.mk (Kd.R_below (by (with_reducible repeat (first | apply Kd.R_alloc | apply Kd.R_drewN | apply Kd.R_drew)); exact HO_3.out) hb); have n1_ := Aside0.mk (below_step (by repeat (first | (with_reducible first | exact HB.out | apply below_alloc | apply pw_below_drewN | apply below_drew1) | exact HB.out)) hb); clear HO_3; clear HB; have HO_3 := n0_; have HB := n1_; clear n0_ n1_; (try clear hb); (try clear hb2); (try clear hk); (try clear hi); have p10 : 0 ≤ (x4_1 : Int) := of_decide_eq_true (by first | (with_reducible assumption) | assumption); have q10 : (x4_1 : Int) < ((x3_1.length : Int) : Int) := of_decide_eq_true (by first | (with_reducible assumption) | assumption); obtain ⟨go10, co10, eo10, gb10, gl10, cl10, HG10⟩ := Kd.R_form HO_3.out (by omega); (first | cases eo10 | (injection eo10 with ea_ en_ ec_; (first | subst ea_ | (injection ea_ with ea_; subst ea_)); subst ec_; clear en_)); have GB10 := Aside0.mk gb10; have GG10 := Aside0.mk HG10; clear gb10 gl10 HG10; obtain ⟨ce10, hcl10, hM10, hcc10, hfr10⟩ := Kd.R_elem HO_3.out z88 (x4_1 : Int) p10 q10; obtain rfl := k88_openM hM10; have hx10_0 : w11.cell? ⟨go10, (x4_1 : Int).toNat * 2, none⟩ = some (.int .i64 ((rd_T88 x3_1 x4_1).f0)) := hcc10 0 _ rfl; have hx10_1 : w11.cell? ⟨go10, (x4_1 : Int).toNat * 2 + 1, none⟩ = some (.int .i64 ((rd_T88 x3_1 x4_1).f1)) := hcc10 1 _ rfl; have hf10_0 : w11.frozen? ⟨go10, (x4_1 : Int).toNat * 2, none⟩ = false := hfr10 0; have hf10_1 : w11.frozen? ⟨go10, (x4_1 : Int).toNat * 2 + 1, none⟩ = false := hfr10 1; clear hcl10 hcc10 hfr10 hM10; replace p10 := eq_true p10; replace q10 := eq_true q10; have HX12 := Aside0.mk (show Kd.R k88 88 w11 w.heap.size (fun _ => True) (.slice (some ⟨go10, 0, none⟩) x3_1.length co10) x3_1 from (by (with_reducible repeat (first | apply Kd.R_alloc | apply Kd.R_drewN | apply Kd.R_drew)); exact HO_3.out)); obtain ⟨ce12, hcl12, hM12, hcc12, hfr12⟩ := Kd.R_elem HX12.out z88 (x4_1 : Int) (of_decide_eq_true (by first | (with_reducible assumption) | assumption)) (by have h_ : (x4_1 : Int) < ((x3_1.length : Int) : Int) := of_decide_eq_true (by first | (with_reducible assumption) | assumption); first | exact h_ | (have e_ := (Kd.R_reads' HO_3.out).1; omega) | simpa using h_); obtain rfl := k88_openM hM12; have HP12 := Kd.R_seg HX12.out (x4_1 : Int) (of_decide_eq_true (by first | (with_reducible assumption) | assumption)) (by have h_ : (x4_1 : Int) < ((x3_1.length : Int) : Int) := of_decide_eq_true (by first | (with_reducible assumption) | assumption); first | exact h_ | (have e_ := (Kd.R_reads' HO_3.out).1; omega) | simpa using h_) (seg := [.int .i64 t185, .int .i64 t186]) (j := 0) hcl12 hcc12 (show 2 ≤ 2 from by decide) (x' := (⟨t185, t186⟩ : S88)) (k88_mkM _ _ _ (⟨t185, t186⟩ : S88) ) (fun _ hk => hk); have hx12_0 := hcc12 0 _ rfl; (try simp only [show (k88).sz = 2 from rfl, Nat.mul_one, Nat.add_zero] at hx12_0); have hf12_0 := hfr12 0; (try simp only [show (k88).sz = 2 from rfl, Nat.mul_one, Nat.add_zero] at hf12_0); have hx12_1 := hcc12 1 _ rfl; (try simp only [show (k88).sz = 2 from rfl, Nat.mul_one, Nat.add_zero] at hx12_1); have hf12_1 := hfr12 1; (try simp only [show (k88).sz = 2 from rfl, Nat.mul_one, Nat.add_zero] at hf12_1); clear hcl12 hcc12 hfr12 hM12) | ((with_reducible refine gate_store (t := 88) (p := 21) rfl ?_); refine store_event (t := 88) (p := 21) (v := ?vo_w13) (w1 := ((w11.setCell ⟨go10, (x4_1 : Int).toNat * 2, none⟩ (.int .i64 t185)).setCell ⟨go10, (x4_1 : Int).toNat * 2 + 1, none⟩ (.int .i64 t186))) ?hg ?ho ?hn ?hr ?_; (case ho => rfl); (case hg => rfl); (case hn => rfl); (case hr => first | (go_simp; done) | (go_simp; rfl)); intro w13 hw; have hg : w11.grownBy w13 (some go10) := (by rw [hw]; exact HP12.2); have hp_ : Kd.R k88 88 w13 w.heap.size (fun _ => True) (.slice (some ⟨go10, 0, none⟩) x3_1.length co10) y187 := (by rw [hw, Ny187.out]; exact HP12.1); clear HP12; have n0_ := Aside0.mk (hp_); have n1_ := Aside0.mk ((by rw [hw]; exact below_set (below_set (HB.out) GB10.out) GB10.out : Below w.heap.size w w13)); clear HO_3; clear HB; have HO_3 := n0_; have HB := n1_; clear n0_ n1_; clear hg hw hp_))
             go_roundg k1
             case measure => have := HK1.out; omega
             case rel => exact ⟨(y187), (wrap64 (x4_1 + 1)), (by first | rfl | (simp; done) | (simp [*]; done)), H', ⟨by have := HK1.out; omega⟩, ⟨by (with_reducible repeat (first | apply Kd.R_alloc | apply Kd.R_drewN | apply Kd.R_drew)); exact HO_3.out⟩, ⟨by repeat (first | (with_reducible first | exact HB.out | apply below_alloc | apply pw_below_drewN | apply below_drew1) | exact HB.out)⟩⟩
           · rw [if_neg c9] at H
             exact absurd H (by simp)
         · rw [if_neg c7] at H
           exact absurd H (by simp)
       · rw [if_neg c6] at H
         have c6b0 : decide (x4_1 < (l0.length : Int)) = false := decide_eq_false c6
         clear c6
         obtain rfl := Option.some.inj H
         go_wp2
         go_ret
         exact ⟨_, by first | rfl | (simp [errW_none, errW_some] <;> rfl) | (simp [*, errW_none, errW_some] <;> rfl), by (with_reducible repeat (first | apply Kd.R_alloc | apply Kd.R_drewN | apply Kd.R_drew)); exact HO_3.out, by repeat (first | (with_reducible first | exact HB.out | apply below_alloc | apply pw_below_drewN | apply below_drew1) | exact HB.out)⟩
   · rw [if_neg c3] at H
     exact absurd H (by simp)
 · rw [if_neg c2] at H
   exact absurd H (by simp)

/-! ### impl_within: function 39 -/
def impl_within.f (a0 : Int) (a1 : Int) (a2 : Int) : Option (Bool) := if a0 ≥ a1 then (some (decide (a0 ≤ a2))) else (some false)
set_option maxHeartbeats 8000000 in
set_option maxRecDepth 100000 in
theorem impl_within.calls (a0 : Int) (a1 : Int) (a2 : Int) (r : Bool) (w : World) (h : impl_within.f a0 a1 a2 = some r) :
 Calls Try.prog 39 #[.int .i64 a0, .int .i64 a1, .int .i64 a2] w fun e w' => e = .returned (.bool r) ∧ Drawn0 w w' := by
 have H : (if a0 ≥ a1 then (some (decide (a0 ≤ a2))) else (some false)) = some r := h
 clear h
 by_cases c4 : a0 ≥ a1
 · rw [if_pos c4] at H
   have c4b0 : decide (a1 ≤ a0) = true := decide_eq_true c4
   clear c4
   obtain rfl := Option.some.inj H
   go_enter Try.func39, Try.ntmps39
   go_wp2
   go_ret
   exact ⟨by first | rfl | (simp; done) | (simp [*]; done), by repeat (first | exact Drawn0.refl _ | apply Drawn0.step)⟩
 · rw [if_neg c4] at H
   have c4b0 : decide (a1 ≤ a0) = false := decide_eq_false c4
   clear c4
   obtain rfl := Option.some.inj H
   go_enter Try.func39, Try.ntmps39
   go_wp2
   go_ret
   exact ⟨by first | rfl | (simp; done) | (simp [*]; done), by repeat (first | exact Drawn0.refl _ | apply Drawn0.step)⟩

/-! ### impl_ValidDirection: function 44 -/
def impl_ValidDirection.f (a0_0 : Int) (a0_1 : Int) : Option (Bool) := (impl_within.f a0_0 (-64) 64).bind fun t189 => (if t189 = true then ((impl_within.f a0_1 (-64) 64).bind fun t190 => (if t190 = true then (some (decide ((wrap64 ((wrap64 (a0_0 * a0_0)) + (wrap64 (a0_1 * a0_1)))) ≤ 4096))) else (some false))) else (some false))
set_option maxHeartbeats 8000000 in
set_option maxRecDepth 100000 in
theorem impl_ValidDirection.calls (a0_0 : Int) (a0_1 : Int) (r : Bool) (w : World) (h : impl_ValidDirection.f a0_0 a0_1 = some r) :
 Calls Try.prog 44 #[.agg #[.int .i64 a0_0, .int .i64 a0_1]] w fun e w' => e = .returned (.bool r) ∧ Below w.heap.size w w' := by
 have hu67 := Try.underlying67
 have HB := Aside0.mk (Below.refl w.heap.size w)
 have H : ((impl_within.f a0_0 (-64) 64).bind fun t189 => (if t189 = true then ((impl_within.f a0_1 (-64) 64).bind fun t190 => (if t190 = true then (some (decide ((wrap64 ((wrap64 (a0_0 * a0_0)) + (wrap64 (a0_1 * a0_1)))) ≤ 4096))) else (some false))) else (some false))) = some r := h
 clear h
 replace H := Option.bind_eq_some_iff.mp H
 obtain ⟨t189, A20, H⟩ := H
 replace H : (if t189 = true then ((impl_within.f a0_1 (-64) 64).bind fun t190 => (if t190 = true then (some (decide ((wrap64 ((wrap64 (a0_0 * a0_0)) + (wrap64 (a0_1 * a0_1)))) ≤ 4096))) else (some false))) else (some false)) = some r := H
 have A2 := Aside0.mk A20
 clear A20
 by_cases c3 : t189 = true
 · subst c3
   have H1 : ((impl_within.f a0_1 (-64) 64).bind fun t190 => (if t190 = true then (some (decide ((wrap64 ((wrap64 (a0_0 * a0_0)) + (wrap64 (a0_1 * a0_1)))) ≤ 4096))) else (some false))) = some r := by rw [if_pos rfl] at H; exact H
   clear H
   have H := H1
   clear H1
   replace H := Option.bind_eq_some_iff.mp H
   obtain ⟨t190, A40, H⟩ := H
   replace H : (if t190 = true then (some (decide ((wrap64 ((wrap64 (a0_0 * a0_0)) + (wrap64 (a0_1 * a0_1)))) ≤ 4096))) else (some false)) = some r := H
   have A4 := Aside0.mk A40
   clear A40
   by_cases c5 : t190 = true
   · subst c5
     have H1 : (some (decide ((wrap64 ((wrap64 (a0_0 * a0_0)) + (wrap64 (a0_1 * a0_1)))) ≤ 4096))) = some r := by rw [if_pos rfl] at H; exact H
     clear H
     have H := H1
     clear H1
     obtain rfl := Option.some.inj H
     go_enter Try.func44, Try.ntmps44
     go_wp2_with (first | ((with_reducible refine gate_dst (N := 1) rfl ?_); refine box_event ?hg (N := 1) ?hd (cs := #[.int .i64 a0_0, .int .i64 a0_1]) (t := 67) ?hr ?_; (case hd => rfl); (case hg => rfl); (case hr => first | (go_simp; done) | (go_simp; rfl)); intro gb188 hg w6 hbox hb; have n0_ := Aside0.mk (below_step (by repeat (first | (with_reducible first | exact HB.out | apply below_alloc | apply pw_below_drewN | apply below_drew1) | exact HB.out)) hb); have n1_ := Aside0.mk (hbox); have n2_ := Aside0.mk ((by rw [hg]; exact (below_size (by repeat (first | (with_reducible first | exact HB.out | apply below_alloc | apply pw_below_drewN | apply below_drew1) | exact HB.out))) : w.heap.size ≤ gb188)); have n3_ := Aside0.mk ((by rw [hg]; exact (below_size (by repeat (first | (with_reducible first | exact HB.out | apply below_alloc | apply pw_below_drewN | apply below_drew1) | exact HB.out))) : w.heap.size ≤ gb188)); clear HB; have HB := n0_; have BK188 := n1_; have GW188 := n2_; have GE188 := n3_; clear n0_ n1_ n2_ n3_; clear hb hbox hg; have hcz7_0 : w6.cell? ⟨gb188, 0, none⟩ = some (.int .i64 a0_0) := (blk_cell BK188.out 0).trans rfl; have hcz7_1 : w6.cell? ⟨gb188, 1, none⟩ = some (.int .i64 a0_1) := (blk_cell BK188.out 1).trans rfl; have hfz7_0 := blk_frozen BK188.out 0; have hfz7_1 := blk_frozen BK188.out 1) | ((with_reducible refine gate_callee (f := 39) rfl ?_); refine goesL_ (some 5) rfl rfl Try.func39 (by kernel_rfl) rfl #[.int .i64 a0_0, .int .i64 (-64), .int .i64 64] rfl (by (try simp only [List.map_toArray, List.map_cons, List.map_nil]); first | done | rfl | (simp only [List.length_drop, List.length_take]; rfl)) ?_; (with_reducible refine (impl_within.calls a0_0 (-64) 64 true _ A2.out).mono ?_); rintro e w' ⟨rfl, ⟨nd, rfl⟩⟩; refine ⟨_, rfl, ?_⟩) | (go_at_call 39; (with_reducible refine (impl_within.calls a0_1 (-64) 64 true _ A4.out).mono ?_); rintro e w' ⟨rfl, ⟨nd, rfl⟩⟩))
     go_ret
     exact ⟨by first | rfl | (simp [errW_none, errW_some] <;> rfl) | (simp [*, errW_none, errW_some] <;> rfl), by repeat (first | (with_reducible first | exact HB.out | apply below_alloc | apply pw_below_drewN | apply below_drew1 | refine below_set ?_ GE188.out) | exact HB.out)⟩
   · replace c5 := Bool.eq_false_iff.mpr c5
     subst c5
     have H1 : (some false) = some r := by rw [if_neg (show ¬ (false = true) by decide)] at H; exact H
     clear H
     have H := H1
     clear H1
     obtain rfl := Option.some.inj H
     go_enter Try.func44, Try.ntmps44
     go_wp2_with (first | ((with_reducible refine gate_dst (N := 1) rfl ?_); refine box_event ?hg (N := 1) ?hd (cs := #[.int .i64 a0_0, .int .i64 a0_1]) (t := 67) ?hr ?_; (case hd => rfl); (case hg => rfl); (case hr => first | (go_simp; done) | (go_simp; rfl)); intro gb188 hg w8 hbox hb; have n0_ := Aside0.mk (below_step (by repeat (first | (with_reducible first | exact HB.out | apply below_alloc | apply pw_below_drewN | apply below_drew1) | exact HB.out)) hb); have n1_ := Aside0.mk (hbox); have n2_ := Aside0.mk ((by rw [hg]; exact (below_size (by repeat (first | (with_reducible first | exact HB.out | apply below_alloc | apply pw_below_drewN | apply below_drew1) | exact HB.out))) : w.heap.size ≤ gb188)); have n3_ := Aside0.mk ((by rw [hg]; exact (below_size (by repeat (first | (with_reducible first | exact HB.out | apply below_alloc | apply pw_below_drewN | apply below_drew1) | exact HB.out))) : w.heap.size ≤ gb188)); clear HB; have HB := n0_; have BK188 := n1_; have GW188 := n2_; have GE188 := n3_; clear n0_ n1_ n2_ n3_; clear hb hbox hg; have hcz9_0 : w8.cell? ⟨gb188, 0, none⟩ = some (.int .i64 a0_0) := (blk_cell BK188.out 0).trans rfl; have hcz9_1 : w8.cell? ⟨gb188, 1, none⟩ = some (.int .i64 a0_1) := (blk_cell BK188.out 1).trans rfl; have hfz9_0 := blk_frozen BK188.out 0; have hfz9_1 := blk_frozen BK188.out 1) | ((with_reducible refine gate_callee (f := 39) rfl ?_); refine goesL_ (some 5) rfl rfl Try.func39 (by kernel_rfl) rfl #[.int .i64 a0_0, .int .i64 (-64), .int .i64 64] rfl (by (try simp only [List.map_toArray, List.map_cons, List.map_nil]); first | done | rfl | (simp only [List.length_drop, List.length_take]; rfl)) ?_; (with_reducible refine (impl_within.calls a0_0 (-64) 64 true _ A2.out).mono ?_); rintro e w' ⟨rfl, ⟨nd, rfl⟩⟩; refine ⟨_, rfl, ?_⟩) | (go_at_call 39; (with_reducible refine (impl_within.calls a0_1 (-64) 64 false _ A4.out).mono ?_); rintro e w' ⟨rfl, ⟨nd, rfl⟩⟩))
     go_ret
     exact ⟨by first | rfl | (simp [errW_none, errW_some] <;> rfl) | (simp [*, errW_none, errW_some] <;> rfl), by repeat (first | (with_reducible first | exact HB.out | apply below_alloc | apply pw_below_drewN | apply below_drew1 | refine below_set ?_ GE188.out) | exact HB.out)⟩
 · replace c3 := Bool.eq_false_iff.mpr c3
   subst c3
   have H1 : (some false) = some r := by rw [if_neg (show ¬ (false = true) by decide)] at H; exact H
   clear H
   have H := H1
   clear H1
   obtain rfl := Option.some.inj H
   go_enter Try.func44, Try.ntmps44
   go_wp2_with (first | ((with_reducible refine gate_dst (N := 1) rfl ?_); refine box_event ?hg (N := 1) ?hd (cs := #[.int .i64 a0_0, .int .i64 a0_1]) (t := 67) ?hr ?_; (case hd => rfl); (case hg => rfl); (case hr => first | (go_simp; done) | (go_simp; rfl)); intro gb188 hg w10 hbox hb; have n0_ := Aside0.mk (below_step (by repeat (first | (with_reducible first | exact HB.out | apply below_alloc | apply pw_below_drewN | apply below_drew1) | exact HB.out)) hb); have n1_ := Aside0.mk (hbox); have n2_ := Aside0.mk ((by rw [hg]; exact (below_size (by repeat (first | (with_reducible first | exact HB.out | apply below_alloc | apply pw_below_drewN | apply below_drew1) | exact HB.out))) : w.heap.size ≤ gb188)); have n3_ := Aside0.mk ((by rw [hg]; exact (below_size (by repeat (first | (with_reducible first | exact HB.out | apply below_alloc | apply pw_below_drewN | apply below_drew1) | exact HB.out))) : w.heap.size ≤ gb188)); clear HB; have HB := n0_; have BK188 := n1_; have GW188 := n2_; have GE188 := n3_; clear n0_ n1_ n2_ n3_; clear hb hbox hg; have hcz11_0 : w10.cell? ⟨gb188, 0, none⟩ = some (.int .i64 a0_0) := (blk_cell BK188.out 0).trans rfl; have hcz11_1 : w10.cell? ⟨gb188, 1, none⟩ = some (.int .i64 a0_1) := (blk_cell BK188.out 1).trans rfl; have hfz11_0 := blk_frozen BK188.out 0; have hfz11_1 := blk_frozen BK188.out 1) | ((with_reducible refine gate_callee (f := 39) rfl ?_); refine goesL_ (some 5) rfl rfl Try.func39 (by kernel_rfl) rfl #[.int .i64 a0_0, .int .i64 (-64), .int .i64 64] rfl (by (try simp only [List.map_toArray, List.map_cons, List.map_nil]); first | done | rfl | (simp only [List.length_drop, List.length_take]; rfl)) ?_; (with_reducible refine (impl_within.calls a0_0 (-64) 64 false _ A2.out).mono ?_); rintro e w' ⟨rfl, ⟨nd, rfl⟩⟩; refine ⟨_, rfl, ?_⟩))
   go_ret
   exact ⟨by first | rfl | (simp [errW_none, errW_some] <;> rfl) | (simp [*, errW_none, errW_some] <;> rfl), by repeat (first | (with_reducible first | exact HB.out | apply below_alloc | apply pw_below_drewN | apply below_drew1 | refine below_set ?_ GE188.out) | exact HB.out)⟩

/-! ### impl_isSeed: function 45 -/
def impl_isSeed.f (a0 : Int) : Option (Bool) := (impl_within.f a0 0 2147483647).bind fun t191 => (some t191)
set_option maxHeartbeats 8000000 in
set_option maxRecDepth 100000 in
theorem impl_isSeed.calls (a0 : Int) (r : Bool) (w : World) (h : impl_isSeed.f a0 = some r) :
 Calls Try.prog 45 #[.int .i64 a0] w fun e w' => e = .returned (.bool r) ∧ Drawn0 w w' := by
 have H : ((impl_within.f a0 0 2147483647).bind fun t191 => (some t191)) = some r := h
 clear h
 replace H := Option.bind_eq_some_iff.mp H
 obtain ⟨t191, A20, H⟩ := H
 replace H : (some t191) = some r := H
 have A2 := Aside0.mk A20
 clear A20
 obtain rfl := Option.some.inj H
 go_enter Try.func45, Try.ntmps45
 go_wp2_with (first | ((with_reducible refine gate_callee (f := 39) rfl ?_); refine goesL_ (some 4) rfl rfl Try.func39 (by kernel_rfl) rfl #[.int .i64 a0, .int .i64 0, .int .i64 2147483647] rfl (by (try simp only [List.map_toArray, List.map_cons, List.map_nil]); first | done | rfl | (simp only [List.length_drop, List.length_take]; rfl)) ?_; (with_reducible refine (impl_within.calls a0 0 2147483647 t191 _ A2.out).mono ?_); rintro e w' ⟨rfl, ⟨nd, rfl⟩⟩; refine ⟨_, rfl, ?_⟩))
 go_ret
 exact ⟨by first | rfl | (simp; done) | (simp [*]; done), by repeat (first | exact Drawn0.refl _ | apply Drawn0.step)⟩

/-! ### impl_ValidSources: function 15 -/
def impl_ValidSources.l0 : Nat → List (S69) → List (S69) → Int → Int → Option (Bool)
 | 0, _, _, _, _ => none
 | k + 1, x0, x5, x6, x7 => if x7 < x6 then (if 0 ≤ x7 then (if x7 < (x5.length : Int) then ((impl_ValidDirection.f ((rd_T69 x5 x7).f0.f0) ((rd_T69 x5 x7).f0.f1)).bind fun t194 => (if t194 = true then ((impl_isSeed.f ((rd_T69 x5 x7).f2)).bind fun t195 => (if t195 = true then (impl_ValidSources.l0 k x0 x5 x6 (wrap64 (x7 + 1))) else (some false))) else (some false))) else (none)) else (none)) else (some (decide ((x0.length : Int) ≤ 4)))
def impl_ValidSources.f (k : Nat) (l0 : List (S69)) : Option (Bool) := impl_ValidSources.l0 k l0 l0 (l0.length : Int) 0
theorem impl_ValidSources.mono_l : ∀ k, (∀ y0 y1 y2 y3, LeO (impl_ValidSources.l0 k y0 y1 y2 y3) (impl_ValidSources.l0 (k + 1) y0 y1 y2 y3))
 | 0 => fun _ _ _ _ r h => by simp [impl_ValidSources.l0] at h
 | k + 1 => by
  have ih0 := impl_ValidSources.mono_l k
  · intro y0 y1 y2 y3
    unfold impl_ValidSources.l0
    repeat' first
    | (with_reducible exact ih0 _ _ _ _)
    | (with_reducible exact LeO.refl _)
    | (with_reducible exact LeO.none _)
    | (with_reducible refine LeO.ite ?_ ?_)
    | (with_reducible refine LeO.bind ?_ (fun _ => ?_))
    | exact ih0 _ _ _ _
    | exact LeO.none _
    | refine LeO.ite ?_ ?_
    | refine LeO.bind ?_ (fun _ => ?_)
theorem impl_ValidSources.mono : ∀ a0 k, LeO (impl_ValidSources.f k a0) (impl_ValidSources.f (k + 1) a0) := by
 intro a0 k
 have ih0 := impl_ValidSources.mono_l k
 unfold impl_ValidSources.f
 repeat' first
  | (with_reducible exact ih0 _ _ _ _)
  | (with_reducible exact LeO.refl _)
  | (with_reducible exact LeO.none _)
  | (with_reducible refine LeO.ite ?_ ?_)
  | (with_reducible refine LeO.bind ?_ (fun _ => ?_))
  | exact ih0 _ _ _ _
  | exact LeO.none _
  | refine LeO.ite ?_ ?_
  | refine LeO.bind ?_ (fun _ => ?_)
set_option maxHeartbeats 8000000 in
set_option maxRecDepth 100000 in
theorem impl_ValidSources.calls (k : Nat) (A0 : Option Addr) (c0 : Nat) (l0 : List (S69)) (r : Bool) (w : World) (hr0 : Kd.C k69 w A0 l0.length l0) (hc0 : l0.length ≤ c0) (h : impl_ValidSources.f k l0 = some r) :
 Calls Try.prog 15 #[.slice A0 l0.length c0] w fun e w' => e = .returned (.bool r) ∧ Below w.heap.size w w' := by
 have hu69 := Try.underlying69
 have hu67 := Try.underlying67
 have HR0 := Aside0.mk hr0
 have HC0 := Aside0.mk hc0
 clear hr0 hc0
 have HB := Aside0.mk (Below.refl w.heap.size w)
 have H : (impl_ValidSources.l0 k l0 l0 (l0.length : Int) 0) = some r := h
 clear h
 have H' := Aside0.mk H
 clear H
 go_enter Try.func15, Try.ntmps15
 go_wp2
 go_loopg [7] k (fun kq v7 w' => ∃ (x7_1 : Int), v7 = .int .i64 x7_1 ∧ Aside0 (impl_ValidSources.l0 kq l0 l0 (l0.length : Int) x7_1 = some r) ∧ Aside0 (kq ≤ k) ∧ Aside0 (Below w.heap.size w w'))
 case atStart => exact ⟨(0), (by first | rfl | (simp; done) | (simp [*]; done)), H', ⟨Nat.le_refl _⟩, ⟨by repeat (first | (with_reducible first | exact HB.out | apply below_alloc | apply pw_below_drewN | apply below_drew1) | exact HB.out)⟩⟩
 case round =>
  clear H'
  (try clear c1)
  obtain ⟨x7_1, rfl, HA, HK1, HB⟩ := hrel
  cases gk with
  | zero => exact absurd HA.out (by simp [impl_ValidSources.l0])
  | succ k1 =>
   have H := HA.out
   clear HA
   simp only [impl_ValidSources.l0] at H
   by_cases c2 : x7_1 < (l0.length : Int)
   · rw [if_pos c2] at H
     have c2b0 : decide (x7_1 < (l0.length : Int)) = true := decide_eq_true c2
     clear c2
     by_cases c3 : 0 ≤ x7_1
     · rw [if_pos c3] at H
       have c3b0 : decide (0 ≤ x7_1) = true := decide_eq_true c3
       clear c3
       by_cases c4 : x7_1 < (l0.length : Int)
       · rw [if_pos c4] at H
         have c4b0 : decide (x7_1 < (l0.length : Int)) = true := decide_eq_true c4
         clear c4
         replace H := Option.bind_eq_some_iff.mp H
         obtain ⟨t194, A50, H⟩ := H
         replace H : (if t194 = true then ((impl_isSeed.f ((rd_T69 l0 x7_1).f2)).bind fun t195 => (if t195 = true then (impl_ValidSources.l0 k1 l0 l0 (l0.length : Int) (wrap64 (x7_1 + 1))) else (some false))) else (some false)) = some r := H
         have A5 := Aside0.mk A50
         clear A50
         by_cases c6 : t194 = true
         · subst c6
           have H1 : ((impl_isSeed.f ((rd_T69 l0 x7_1).f2)).bind fun t195 => (if t195 = true then (impl_ValidSources.l0 k1 l0 l0 (l0.length : Int) (wrap64 (x7_1 + 1))) else (some false))) = some r := by rw [if_pos rfl] at H; exact H
           clear H
           have H := H1
           clear H1
           replace H := Option.bind_eq_some_iff.mp H
           obtain ⟨t195, A70, H⟩ := H
           replace H : (if t195 = true then (impl_ValidSources.l0 k1 l0 l0 (l0.length : Int) (wrap64 (x7_1 + 1))) else (some false)) = some r := H
           have A7 := Aside0.mk A70
           clear A70
           by_cases c8 : t195 = true
           · subst c8
             have H1 : (impl_ValidSources.l0 k1 l0 l0 (l0.length : Int) (wrap64 (x7_1 + 1))) = some r := by rw [if_pos rfl] at H; exact H
             clear H
             have H := H1
             clear H1
             have H' := Aside0.mk H
             clear H
             have p192 : 0 ≤ (x7_1 : Int) := of_decide_eq_true (by first | (with_reducible assumption) | assumption)
             have q192 : x7_1 < (l0.length : Int) := of_decide_eq_true (by first | (with_reducible assumption) | assumption)
             obtain ⟨ad192, e192, hx192_0, hx192_1, hx192_2, hx192_3⟩ := at_T69 HR0.out x7_1 p192 q192
             cases e192
             replace hx192_0 := (HB.out.cell (World.block_lt_of_cell? w _ hx192_0)).trans hx192_0
             replace hx192_1 := (HB.out.cell (World.block_lt_of_cell? w _ hx192_1)).trans hx192_1
             replace hx192_2 := (HB.out.cell (World.block_lt_of_cell? w _ hx192_2)).trans hx192_2
             replace hx192_3 := (HB.out.cell (World.block_lt_of_cell? w _ hx192_3)).trans hx192_3
             replace p192 := eq_true p192
             replace q192 := eq_true q192
             go_wp2_with (first | ((with_reducible refine gate_dst (N := 4) rfl ?_); refine box_event ?hg (N := 4) ?hd (cs := #[.int .i64 0, .int .i64 0, .float .f32 (0 : Nat), .int .i64 0]) (t := 69) ?hr ?_; (case hd => rfl); (case hg => rfl); (case hr => first | (go_simp; done) | (go_simp; rfl)); intro gb193 hg w9 hbox hb; have n0_ := Aside0.mk (below_step (by repeat (first | (with_reducible first | exact HB.out | apply below_alloc | apply pw_below_drewN | apply below_drew1) | exact HB.out)) hb); have n1_ := Aside0.mk (hbox); have n2_ := Aside0.mk ((by rw [hg]; exact (below_size (by repeat (first | (with_reducible first | exact HB.out | apply below_alloc | apply pw_below_drewN | apply below_drew1) | exact HB.out))) : w.heap.size ≤ gb193)); have n3_ := Aside0.mk ((by rw [hg]; exact (below_size (by repeat (first | (with_reducible first | exact HB.out | apply below_alloc | apply pw_below_drewN | apply below_drew1) | exact HB.out))) : w.heap.size ≤ gb193)); clear HB; have HB := n0_; have BK193 := n1_; have GW193 := n2_; have GE193 := n3_; clear n0_ n1_ n2_ n3_; clear hb hbox hg; have hcz10_0 : w9.cell? ⟨gb193, 0, none⟩ = some (.int .i64 0) := (blk_cell BK193.out 0).trans rfl; have hcz10_1 : w9.cell? ⟨gb193, 1, none⟩ = some (.int .i64 0) := (blk_cell BK193.out 1).trans rfl; have hcz10_2 : w9.cell? ⟨gb193, 2, none⟩ = some (.float .f32 (0 : Nat)) := (blk_cell BK193.out 2).trans rfl; have hcz10_3 : w9.cell? ⟨gb193, 3, none⟩ = some (.int .i64 0) := (blk_cell BK193.out 3).trans rfl; have hfz10_0 := blk_frozen BK193.out 0; have hfz10_1 := blk_frozen BK193.out 1; have hfz10_2 := blk_frozen BK193.out 2; have hfz10_3 := blk_frozen BK193.out 3) | ((with_reducible refine gate_callee (f := 44) rfl ?_); refine goesL_ (some 13) rfl rfl Try.func44 (by kernel_rfl) rfl #[.agg #[.int .i64 ((rd_T69 l0 x7_1).f0.f0), .int .i64 ((rd_T69 l0 x7_1).f0.f1)]] rfl (by (try simp only [List.map_toArray, List.map_cons, List.map_nil]); first | done | rfl | (simp only [List.length_drop, List.length_take]; rfl)) ?_; (with_reducible refine (impl_ValidDirection.calls ((rd_T69 l0 x7_1).f0.f0) ((rd_T69 l0 x7_1).f0.f1) true _ A5.out).mono ?_); rintro e w11 ⟨rfl, hb⟩; refine ⟨_, rfl, ?_⟩; have n0_ := Aside0.mk (blk_below (g := gb193) (o := .cells #[.int .i64 ((rd_T69 l0 x7_1).f0.f0), .int .i64 ((rd_T69 l0 x7_1).f0.f1), .float .f32 ((rd_T69 l0 x7_1).f1), .int .i64 ((rd_T69 l0 x7_1).f2)] 69 (0, 0)) (by (with_reducible repeat (first | refine blk_drewN ?_ _ | refine blk_drew ?_ | refine blk_alloc ?_ _)); refine blk_put (cs := #[.int .i64 ((rd_T69 l0 x7_1).f0.f0), .int .i64 ((rd_T69 l0 x7_1).f0.f1), .float .f32 ((rd_T69 l0 x7_1).f1), .int .i64 0]) ?_ 3 _ rfl; (with_reducible repeat (first | refine blk_drewN ?_ _ | refine blk_drew ?_ | refine blk_alloc ?_ _)); refine blk_put (cs := #[.int .i64 ((rd_T69 l0 x7_1).f0.f0), .int .i64 ((rd_T69 l0 x7_1).f0.f1), .float .f32 (0 : Nat), .int .i64 0]) ?_ 2 _ rfl; (with_reducible repeat (first | refine blk_drewN ?_ _ | refine blk_drew ?_ | refine blk_alloc ?_ _)); refine blk_put (cs := #[.int .i64 ((rd_T69 l0 x7_1).f0.f0), .int .i64 0, .float .f32 (0 : Nat), .int .i64 0]) ?_ 1 _ rfl; (with_reducible repeat (first | refine blk_drewN ?_ _ | refine blk_drew ?_ | refine blk_alloc ?_ _)); refine blk_put (cs := #[.int .i64 0, .int .i64 0, .float .f32 (0 : Nat), .int .i64 0]) ?_ 0 _ rfl; (with_reducible repeat (first | refine blk_drewN ?_ _ | refine blk_drew ?_ | refine blk_alloc ?_ _)); exact BK193.out) hb); have n1_ := Aside0.mk (below_step (by repeat (first | (with_reducible first | exact HB.out | apply below_alloc | apply pw_below_drewN | apply below_drew1 | refine below_set ?_ GE193.out) | exact HB.out)) hb); clear BK193; clear HB; have BK193 := n0_; have HB := n1_; clear n0_ n1_; (try clear hb); (try clear hb2); (try clear hk); (try clear hi); have hcz12_0 : w11.cell? ⟨gb193, 0, none⟩ = some (.int .i64 ((rd_T69 l0 x7_1).f0.f0)) := (blk_cell BK193.out 0).trans rfl; have hcz12_1 : w11.cell? ⟨gb193, 1, none⟩ = some (.int .i64 ((rd_T69 l0 x7_1).f0.f1)) := (blk_cell BK193.out 1).trans rfl; have hcz12_2 : w11.cell? ⟨gb193, 2, none⟩ = some (.float .f32 ((rd_T69 l0 x7_1).f1)) := (blk_cell BK193.out 2).trans rfl; have hcz12_3 : w11.cell? ⟨gb193, 3, none⟩ = some (.int .i64 ((rd_T69 l0 x7_1).f2)) := (blk_cell BK193.out 3).trans rfl; have hfz12_0 := blk_frozen BK193.out 0; have hfz12_1 := blk_frozen BK193.out 1; have hfz12_2 := blk_frozen BK193.out 2; have hfz12_3 := blk_frozen BK193.out 3) | (go_at_call 45; (with_reducible refine (impl_isSeed.calls ((rd_T69 l0 x7_1).f2) true _ A7.out).mono ?_); rintro e w' ⟨rfl, ⟨nd, rfl⟩⟩))
             go_roundg k1
             case measure => have := HK1.out; omega
             case rel => exact ⟨(wrap64 (x7_1 + 1)), (by first | rfl | (simp; done) | (simp [*]; done)), H', ⟨by have := HK1.out; omega⟩, ⟨by repeat (first | (with_reducible first | exact HB.out | apply below_alloc | apply pw_below_drewN | apply below_drew1 | refine below_set ?_ GE193.out) | exact HB.out)⟩⟩
           · replace c8 := Bool.eq_false_iff.mpr c8
             subst c8
             have H1 : (some false) = some r := by rw [if_neg (show ¬ (false = true) by decide)] at H; exact H
             clear H
             have H := H1
             clear H1
             obtain rfl := Option.some.inj H
             have p192 : 0 ≤ (x7_1 : Int) := of_decide_eq_true (by first | (with_reducible assumption) | assumption)
             have q192 : x7_1 < (l0.length : Int) := of_decide_eq_true (by first | (with_reducible assumption) | assumption)
             obtain ⟨ad192, e192, hx192_0, hx192_1, hx192_2, hx192_3⟩ := at_T69 HR0.out x7_1 p192 q192
             cases e192
             replace hx192_0 := (HB.out.cell (World.block_lt_of_cell? w _ hx192_0)).trans hx192_0
             replace hx192_1 := (HB.out.cell (World.block_lt_of_cell? w _ hx192_1)).trans hx192_1
             replace hx192_2 := (HB.out.cell (World.block_lt_of_cell? w _ hx192_2)).trans hx192_2
             replace hx192_3 := (HB.out.cell (World.block_lt_of_cell? w _ hx192_3)).trans hx192_3
             replace p192 := eq_true p192
             replace q192 := eq_true q192
             go_wp2_with (first | ((with_reducible refine gate_dst (N := 4) rfl ?_); refine box_event ?hg (N := 4) ?hd (cs := #[.int .i64 0, .int .i64 0, .float .f32 (0 : Nat), .int .i64 0]) (t := 69) ?hr ?_; (case hd => rfl); (case hg => rfl); (case hr => first | (go_simp; done) | (go_simp; rfl)); intro gb193 hg w13 hbox hb; have n0_ := Aside0.mk (below_step (by repeat (first | (with_reducible first | exact HB.out | apply below_alloc | apply pw_below_drewN | apply below_drew1) | exact HB.out)) hb); have n1_ := Aside0.mk (hbox); have n2_ := Aside0.mk ((by rw [hg]; exact (below_size (by repeat (first | (with_reducible first | exact HB.out | apply below_alloc | apply pw_below_drewN | apply below_drew1) | exact HB.out))) : w.heap.size ≤ gb193)); have n3_ := Aside0.mk ((by rw [hg]; exact (below_size (by repeat (first | (with_reducible first | exact HB.out | apply below_alloc | apply pw_below_drewN | apply below_drew1) | exact HB.out))) : w.heap.size ≤ gb193)); clear HB; have HB := n0_; have BK193 := n1_; have GW193 := n2_; have GE193 := n3_; clear n0_ n1_ n2_ n3_; clear hb hbox hg; have hcz14_0 : w13.cell? ⟨gb193, 0, none⟩ = some (.int .i64 0) := (blk_cell BK193.out 0).trans rfl; have hcz14_1 : w13.cell? ⟨gb193, 1, none⟩ = some (.int .i64 0) := (blk_cell BK193.out 1).trans rfl; have hcz14_2 : w13.cell? ⟨gb193, 2, none⟩ = some (.float .f32 (0 : Nat)) := (blk_cell BK193.out 2).trans rfl; have hcz14_3 : w13.cell? ⟨gb193, 3, none⟩ = some (.int .i64 0) := (blk_cell BK193.out 3).trans rfl; have hfz14_0 := blk_frozen BK193.out 0; have hfz14_1 := blk_frozen BK193.out 1; have hfz14_2 := blk_frozen BK193.out 2; have hfz14_3 := blk_frozen BK193.out 3) | ((with_reducible refine gate_callee (f := 44) rfl ?_); refine goesL_ (some 13) rfl rfl Try.func44 (by kernel_rfl) rfl #[.agg #[.int .i64 ((rd_T69 l0 x7_1).f0.f0), .int .i64 ((rd_T69 l0 x7_1).f0.f1)]] rfl (by (try simp only [List.map_toArray, List.map_cons, List.map_nil]); first | done | rfl | (simp only [List.length_drop, List.length_take]; rfl)) ?_; (with_reducible refine (impl_ValidDirection.calls ((rd_T69 l0 x7_1).f0.f0) ((rd_T69 l0 x7_1).f0.f1) true _ A5.out).mono ?_); rintro e w15 ⟨rfl, hb⟩; refine ⟨_, rfl, ?_⟩; have n0_ := Aside0.mk (blk_below (g := gb193) (o := .cells #[.int .i64 ((rd_T69 l0 x7_1).f0.f0), .int .i64 ((rd_T69 l0 x7_1).f0.f1), .float .f32 ((rd_T69 l0 x7_1).f1), .int .i64 ((rd_T69 l0 x7_1).f2)] 69 (0, 0)) (by (with_reducible repeat (first | refine blk_drewN ?_ _ | refine blk_drew ?_ | refine blk_alloc ?_ _)); refine blk_put (cs := #[.int .i64 ((rd_T69 l0 x7_1).f0.f0), .int .i64 ((rd_T69 l0 x7_1).f0.f1), .float .f32 ((rd_T69 l0 x7_1).f1), .int .i64 0]) ?_ 3 _ rfl; (with_reducible repeat (first | refine blk_drewN ?_ _ | refine blk_drew ?_ | refine blk_alloc ?_ _)); refine blk_put (cs := #[.int .i64 ((rd_T69 l0 x7_1).f0.f0), .int .i64 ((rd_T69 l0 x7_1).f0.f1), .float .f32 (0 : Nat), .int .i64 0]) ?_ 2 _ rfl; (with_reducible repeat (first | refine blk_drewN ?_ _ | refine blk_drew ?_ | refine blk_alloc ?_ _)); refine blk_put (cs := #[.int .i64 ((rd_T69 l0 x7_1).f0.f0), .int .i64 0, .float .f32 (0 : Nat), .int .i64 0]) ?_ 1 _ rfl; (with_reducible repeat (first | refine blk_drewN ?_ _ | refine blk_drew ?_ | refine blk_alloc ?_ _)); refine blk_put (cs := #[.int .i64 0, .int .i64 0, .float .f32 (0 : Nat), .int .i64 0]) ?_ 0 _ rfl; (with_reducible repeat (first | refine blk_drewN ?_ _ | refine blk_drew ?_ | refine blk_alloc ?_ _)); exact BK193.out) hb); have n1_ := Aside0.mk (below_step (by repeat (first | (with_reducible first | exact HB.out | apply below_alloc | apply pw_below_drewN | apply below_drew1 | refine below_set ?_ GE193.out) | exact HB.out)) hb); clear BK193; clear HB; have BK193 := n0_; have HB := n1_; clear n0_ n1_; (try clear hb); (try clear hb2); (try clear hk); (try clear hi); have hcz16_0 : w15.cell? ⟨gb193, 0, none⟩ = some (.int .i64 ((rd_T69 l0 x7_1).f0.f0)) := (blk_cell BK193.out 0).trans rfl; have hcz16_1 : w15.cell? ⟨gb193, 1, none⟩ = some (.int .i64 ((rd_T69 l0 x7_1).f0.f1)) := (blk_cell BK193.out 1).trans rfl; have hcz16_2 : w15.cell? ⟨gb193, 2, none⟩ = some (.float .f32 ((rd_T69 l0 x7_1).f1)) := (blk_cell BK193.out 2).trans rfl; have hcz16_3 : w15.cell? ⟨gb193, 3, none⟩ = some (.int .i64 ((rd_T69 l0 x7_1).f2)) := (blk_cell BK193.out 3).trans rfl; have hfz16_0 := blk_frozen BK193.out 0; have hfz16_1 := blk_frozen BK193.out 1; have hfz16_2 := blk_frozen BK193.out 2; have hfz16_3 := blk_frozen BK193.out 3) | (go_at_call 45; (with_reducible refine (impl_isSeed.calls ((rd_T69 l0 x7_1).f2) false _ A7.out).mono ?_); rintro e w' ⟨rfl, ⟨nd, rfl⟩⟩))
             go_ret
             exact ⟨by first | rfl | (simp [errW_none, errW_some] <;> rfl) | (simp [*, errW_none, errW_some] <;> rfl), by repeat (first | (with_reducible first | exact HB.out | apply below_alloc | apply pw_below_drewN | apply below_drew1 | refine below_set ?_ GE193.out) | exact HB.out)⟩
         · replace c6 := Bool.eq_false_iff.mpr c6
           subst c6
           have H1 : (some false) = some r := by rw [if_neg (show ¬ (false = true) by decide)] at H; exact H
           clear H
           have H := H1
           clear H1
           obtain rfl := Option.some.inj H
           have p192 : 0 ≤ (x7_1 : Int) := of_decide_eq_true (by first | (with_reducible assumption) | assumption)
           have q192 : x7_1 < (l0.length : Int) := of_decide_eq_true (by first | (with_reducible assumption) | assumption)
           obtain ⟨ad192, e192, hx192_0, hx192_1, hx192_2, hx192_3⟩ := at_T69 HR0.out x7_1 p192 q192
           cases e192
           replace hx192_0 := (HB.out.cell (World.block_lt_of_cell? w _ hx192_0)).trans hx192_0
           replace hx192_1 := (HB.out.cell (World.block_lt_of_cell? w _ hx192_1)).trans hx192_1
           replace hx192_2 := (HB.out.cell (World.block_lt_of_cell? w _ hx192_2)).trans hx192_2
           replace hx192_3 := (HB.out.cell (World.block_lt_of_cell? w _ hx192_3)).trans hx192_3
           replace p192 := eq_true p192
           replace q192 := eq_true q192
           go_wp2_with (first | ((with_reducible refine gate_dst (N := 4) rfl ?_); refine box_event ?hg (N := 4) ?hd (cs := #[.int .i64 0, .int .i64 0, .float .f32 (0 : Nat), .int .i64 0]) (t := 69) ?hr ?_; (case hd => rfl); (case hg => rfl); (case hr => first | (go_simp; done) | (go_simp; rfl)); intro gb193 hg w17 hbox hb; have n0_ := Aside0.mk (below_step (by repeat (first | (with_reducible first | exact HB.out | apply below_alloc | apply pw_below_drewN | apply below_drew1) | exact HB.out)) hb); have n1_ := Aside0.mk (hbox); have n2_ := Aside0.mk ((by rw [hg]; exact (below_size (by repeat (first | (with_reducible first | exact HB.out | apply below_alloc | apply pw_below_drewN | apply below_drew1) | exact HB.out))) : w.heap.size ≤ gb193)); have n3_ := Aside0.mk ((by rw [hg]; exact (below_size (by repeat (first | (with_reducible first | exact HB.out | apply below_alloc | apply pw_below_drewN | apply below_drew1) | exact HB.out))) : w.heap.size ≤ gb193)); clear HB; have HB := n0_; have BK193 := n1_; have GW193 := n2_; have GE193 := n3_; clear n0_ n1_ n2_ n3_; clear hb hbox hg; have hcz18_0 : w17.cell? ⟨gb193, 0, none⟩ = some (.int .i64 0) := (blk_cell BK193.out 0).trans rfl; have hcz18_1 : w17.cell? ⟨gb193, 1, none⟩ = some (.int .i64 0) := (blk_cell BK193.out 1).trans rfl; have hcz18_2 : w17.cell? ⟨gb193, 2, none⟩ = some (.float .f32 (0 : Nat)) := (blk_cell BK193.out 2).trans rfl; have hcz18_3 : w17.cell? ⟨gb193, 3, none⟩ = some (.int .i64 0) := (blk_cell BK193.out 3).trans rfl; have hfz18_0 := blk_frozen BK193.out 0; have hfz18_1 := blk_frozen BK193.out 1; have hfz18_2 := blk_frozen BK193.out 2; have hfz18_3 := blk_frozen BK193.out 3) | ((with_reducible refine gate_callee (f := 44) rfl ?_); refine goesL_ (some 13) rfl rfl Try.func44 (by kernel_rfl) rfl #[.agg #[.int .i64 ((rd_T69 l0 x7_1).f0.f0), .int .i64 ((rd_T69 l0 x7_1).f0.f1)]] rfl (by (try simp only [List.map_toArray, List.map_cons, List.map_nil]); first | done | rfl | (simp only [List.length_drop, List.length_take]; rfl)) ?_; (with_reducible refine (impl_ValidDirection.calls ((rd_T69 l0 x7_1).f0.f0) ((rd_T69 l0 x7_1).f0.f1) false _ A5.out).mono ?_); rintro e w19 ⟨rfl, hb⟩; refine ⟨_, rfl, ?_⟩; have n0_ := Aside0.mk (blk_below (g := gb193) (o := .cells #[.int .i64 ((rd_T69 l0 x7_1).f0.f0), .int .i64 ((rd_T69 l0 x7_1).f0.f1), .float .f32 ((rd_T69 l0 x7_1).f1), .int .i64 ((rd_T69 l0 x7_1).f2)] 69 (0, 0)) (by (with_reducible repeat (first | refine blk_drewN ?_ _ | refine blk_drew ?_ | refine blk_alloc ?_ _)); refine blk_put (cs := #[.int .i64 ((rd_T69 l0 x7_1).f0.f0), .int .i64 ((rd_T69 l0 x7_1).f0.f1), .float .f32 ((rd_T69 l0 x7_1).f1), .int .i64 0]) ?_ 3 _ rfl; (with_reducible repeat (first | refine blk_drewN ?_ _ | refine blk_drew ?_ | refine blk_alloc ?_ _)); refine blk_put (cs := #[.int .i64 ((rd_T69 l0 x7_1).f0.f0), .int .i64 ((rd_T69 l0 x7_1).f0.f1), .float .f32 (0 : Nat), .int .i64 0]) ?_ 2 _ rfl; (with_reducible repeat (first | refine blk_drewN ?_ _ | refine blk_drew ?_ | refine blk_alloc ?_ _)); refine blk_put (cs := #[.int .i64 ((rd_T69 l0 x7_1).f0.f0), .int .i64 0, .float .f32 (0 : Nat), .int .i64 0]) ?_ 1 _ rfl; (with_reducible repeat (first | refine blk_drewN ?_ _ | refine blk_drew ?_ | refine blk_alloc ?_ _)); refine blk_put (cs := #[.int .i64 0, .int .i64 0, .float .f32 (0 : Nat), .int .i64 0]) ?_ 0 _ rfl; (with_reducible repeat (first | refine blk_drewN ?_ _ | refine blk_drew ?_ | refine blk_alloc ?_ _)); exact BK193.out) hb); have n1_ := Aside0.mk (below_step (by repeat (first | (with_reducible first | exact HB.out | apply below_alloc | apply pw_below_drewN | apply below_drew1 | refine below_set ?_ GE193.out) | exact HB.out)) hb); clear BK193; clear HB; have BK193 := n0_; have HB := n1_; clear n0_ n1_; (try clear hb); (try clear hb2); (try clear hk); (try clear hi)))
           go_ret
           exact ⟨by first | rfl | (simp [errW_none, errW_some] <;> rfl) | (simp [*, errW_none, errW_some] <;> rfl), by repeat (first | (with_reducible first | exact HB.out | apply below_alloc | apply pw_below_drewN | apply below_drew1 | refine below_set ?_ GE193.out) | exact HB.out)⟩
       · rw [if_neg c4] at H
         exact absurd H (by simp)
     · rw [if_neg c3] at H
       exact absurd H (by simp)
   · rw [if_neg c2] at H
     have c2b0 : decide (x7_1 < (l0.length : Int)) = false := decide_eq_false c2
     clear c2
     obtain rfl := Option.some.inj H
     go_wp2
     go_ret
     exact ⟨by first | rfl | (simp [errW_none, errW_some] <;> rfl) | (simp [*, errW_none, errW_some] <;> rfl), by repeat (first | (with_reducible first | exact HB.out | apply below_alloc | apply pw_below_drewN | apply below_drew1) | exact HB.out)⟩

/-! ### impl_isCount: function 82 -/
def impl_isCount.f (a0 : Int) : Option (Bool) := (impl_within.f a0 1 16).bind fun t196 => (some t196)
set_option maxHeartbeats 8000000 in
set_option maxRecDepth 100000 in
theorem impl_isCount.calls (a0 : Int) (r : Bool) (w : World) (h : impl_isCount.f a0 = some r) :
 Calls Try.prog 82 #[.int .i64 a0] w fun e w' => e = .returned (.bool r) ∧ Drawn0 w w' := by
 have H : ((impl_within.f a0 1 16).bind fun t196 => (some t196)) = some r := h
 clear h
 replace H := Option.bind_eq_some_iff.mp H
 obtain ⟨t196, A20, H⟩ := H
 replace H : (some t196) = some r := H
 have A2 := Aside0.mk A20
 clear A20
 obtain rfl := Option.some.inj H
 go_enter Try.func82, Try.ntmps82
 go_wp2_with (first | ((with_reducible refine gate_callee (f := 39) rfl ?_); refine goesL_ (some 4) rfl rfl Try.func39 (by kernel_rfl) rfl #[.int .i64 a0, .int .i64 1, .int .i64 16] rfl (by (try simp only [List.map_toArray, List.map_cons, List.map_nil]); first | done | rfl | (simp only [List.length_drop, List.length_take]; rfl)) ?_; (with_reducible refine (impl_within.calls a0 1 16 t196 _ A2.out).mono ?_); rintro e w' ⟨rfl, ⟨nd, rfl⟩⟩; refine ⟨_, rfl, ?_⟩))
 go_ret
 exact ⟨by first | rfl | (simp; done) | (simp [*]; done), by repeat (first | exact Drawn0.refl _ | apply Drawn0.step)⟩

/-! ### impl_isCoordinate: function 83 -/
def impl_isCoordinate.f (a0 : Int) : Option (Bool) := (impl_within.f a0 (-4096) 4096).bind fun t197 => (some t197)
set_option maxHeartbeats 8000000 in
set_option maxRecDepth 100000 in
theorem impl_isCoordinate.calls (a0 : Int) (r : Bool) (w : World) (h : impl_isCoordinate.f a0 = some r) :
 Calls Try.prog 83 #[.int .i64 a0] w fun e w' => e = .returned (.bool r) ∧ Drawn0 w w' := by
 have H : ((impl_within.f a0 (-4096) 4096).bind fun t197 => (some t197)) = some r := h
 clear h
 replace H := Option.bind_eq_some_iff.mp H
 obtain ⟨t197, A20, H⟩ := H
 replace H : (some t197) = some r := H
 have A2 := Aside0.mk A20
 clear A20
 obtain rfl := Option.some.inj H
 go_enter Try.func83, Try.ntmps83
 go_wp2_with (first | ((with_reducible refine gate_callee (f := 39) rfl ?_); refine goesL_ (some 4) rfl rfl Try.func39 (by kernel_rfl) rfl #[.int .i64 a0, .int .i64 (-4096), .int .i64 4096] rfl (by (try simp only [List.map_toArray, List.map_cons, List.map_nil]); first | done | rfl | (simp only [List.length_drop, List.length_take]; rfl)) ?_; (with_reducible refine (impl_within.calls a0 (-4096) 4096 t197 _ A2.out).mono ?_); rintro e w' ⟨rfl, ⟨nd, rfl⟩⟩; refine ⟨_, rfl, ?_⟩))
 go_ret
 exact ⟨by first | rfl | (simp; done) | (simp [*]; done), by repeat (first | exact Drawn0.refl _ | apply Drawn0.step)⟩

/-! ### impl_Place_111: function 111 -/
def impl_Place_111.l0 : Nat → List (S88) → Int → Int → Int → Int → Option (Int)
 | 0, _, _, _, _, _ => none
 | k + 1, x0, x7, x8, x199000, x199001 => if x8 < x7 then (if 0 ≤ x8 then (if x8 < (x0.length : Int) then (if (x199000 == ((rd_T88 x0 x8).f0) && (x199001 == ((rd_T88 x0 x8).f1))) = true then (some x8) else (impl_Place_111.l0 k x0 x7 (wrap64 (x8 + 1)) x199000 x199001)) else (none)) else (none)) else (some (-1))
def impl_Place_111.f (k : Nat) (l0 : List (S88)) (a1_0 : Int) (a1_1 : Int) : Option (Int) := impl_Place_111.l0 k l0 (l0.length : Int) 0 a1_0 a1_1
theorem impl_Place_111.mono_l : ∀ k, (∀ y0 y1 y2 y3 y4, LeO (impl_Place_111.l0 k y0 y1 y2 y3 y4) (impl_Place_111.l0 (k + 1) y0 y1 y2 y3 y4))
 | 0 => fun _ _ _ _ _ r h => by simp [impl_Place_111.l0] at h
 | k + 1 => by
  have ih0 := impl_Place_111.mono_l k
  · intro y0 y1 y2 y3 y4
    unfold impl_Place_111.l0
    repeat' first
    | (with_reducible exact ih0 _ _ _ _ _)
    | (with_reducible exact LeO.refl _)
    | (with_reducible exact LeO.none _)
    | (with_reducible refine LeO.ite ?_ ?_)
    | (with_reducible refine LeO.bind ?_ (fun _ => ?_))
    | exact ih0 _ _ _ _ _
    | exact LeO.none _
    | refine LeO.ite ?_ ?_
    | refine LeO.bind ?_ (fun _ => ?_)
theorem impl_Place_111.mono : ∀ a0 a1 a2 k, LeO (impl_Place_111.f k a0 a1 a2) (impl_Place_111.f (k + 1) a0 a1 a2) := by
 intro a0 a1 a2 k
 have ih0 := impl_Place_111.mono_l k
 unfold impl_Place_111.f
 repeat' first
  | (with_reducible exact ih0 _ _ _ _ _)
  | (with_reducible exact LeO.refl _)
  | (with_reducible exact LeO.none _)
  | (with_reducible refine LeO.ite ?_ ?_)
  | (with_reducible refine LeO.bind ?_ (fun _ => ?_))
  | exact ih0 _ _ _ _ _
  | exact LeO.none _
  | refine LeO.ite ?_ ?_
  | refine LeO.bind ?_ (fun _ => ?_)
set_option maxHeartbeats 8000000 in
set_option maxRecDepth 100000 in
theorem impl_Place_111.calls (k : Nat) (A0 : Option Addr) (c0 : Nat) (l0 : List (S88)) (a1_0 : Int) (a1_1 : Int) (r : Int) (w : World) (hr0 : Kd.C k88 w A0 l0.length l0) (hc0 : l0.length ≤ c0) (h : impl_Place_111.f k l0 a1_0 a1_1 = some r) :
 Calls Try.prog 111 #[.slice A0 l0.length c0, .agg #[.int .i64 a1_0, .int .i64 a1_1]] w fun e w' => e = .returned (.int .i64 r) ∧ Below w.heap.size w w' := by
 have hu88 := Try.underlying88
 have HR0 := Aside0.mk hr0
 have HC0 := Aside0.mk hc0
 clear hr0 hc0
 have HB := Aside0.mk (Below.refl w.heap.size w)
 have H : (impl_Place_111.l0 k l0 (l0.length : Int) 0 a1_0 a1_1) = some r := h
 clear h
 have H' := Aside0.mk H
 clear H
 go_enter Try.func111, Try.ntmps111
 go_wp2_with (first | ((with_reducible refine gate_dst (N := 3) rfl ?_); refine box_event ?hg (N := 3) ?hd (cs := #[.int .i64 a1_0, .int .i64 a1_1]) (t := 88) ?hr ?_; (case hd => rfl); (case hg => rfl); (case hr => first | (go_simp; done) | (go_simp; rfl)); intro gb198 hg w3 hbox hb; have n0_ := Aside0.mk (below_step (by repeat (first | (with_reducible first | exact HB.out | apply below_alloc | apply pw_below_drewN | apply below_drew1) | exact HB.out)) hb); have n1_ := Aside0.mk (hbox); have n2_ := Aside0.mk ((by rw [hg]; exact (below_size (by repeat (first | (with_reducible first | exact HB.out | apply below_alloc | apply pw_below_drewN | apply below_drew1) | exact HB.out))) : w.heap.size ≤ gb198)); have n3_ := Aside0.mk ((by rw [hg]; exact (below_size (by repeat (first | (with_reducible first | exact HB.out | apply below_alloc | apply pw_below_drewN | apply below_drew1) | exact HB.out))) : w.heap.size ≤ gb198)); clear HB; have HB := n0_; have BK198 := n1_; have GW198 := n2_; have GE198 := n3_; clear n0_ n1_ n2_ n3_; clear hb hbox hg))
 repeat (go_quiet (first | ((with_reducible refine gate_dst (N := 3) rfl ?_); refine box_event ?hg (N := 3) ?hd (cs := #[.int .i64 a1_0, .int .i64 a1_1]) (t := 88) ?hr ?_; (case hd => rfl); (case hg => rfl); (case hr => first | (go_simp; done) | (go_simp; rfl)); intro gb198 hg w3 hbox hb; have n0_ := Aside0.mk (below_step (by repeat (first | (with_reducible first | exact HB.out | apply below_alloc | apply pw_below_drewN | apply below_drew1) | exact HB.out)) hb); have n1_ := Aside0.mk (hbox); have n2_ := Aside0.mk ((by rw [hg]; exact (below_size (by repeat (first | (with_reducible first | exact HB.out | apply below_alloc | apply pw_below_drewN | apply below_drew1) | exact HB.out))) : w.heap.size ≤ gb198)); have n3_ := Aside0.mk ((by rw [hg]; exact (below_size (by repeat (first | (with_reducible first | exact HB.out | apply below_alloc | apply pw_below_drewN | apply below_drew1) | exact HB.out))) : w.heap.size ≤ gb198)); clear HB; have HB := n0_; have BK198 := n1_; have GW198 := n2_; have GE198 := n3_; clear n0_ n1_ n2_ n3_; clear hb hbox hg)); try go_wp2_with (first | ((with_reducible refine gate_dst (N := 3) rfl ?_); refine box_event ?hg (N := 3) ?hd (cs := #[.int .i64 a1_0, .int .i64 a1_1]) (t := 88) ?hr ?_; (case hd => rfl); (case hg => rfl); (case hr => first | (go_simp; done) | (go_simp; rfl)); intro gb198 hg w3 hbox hb; have n0_ := Aside0.mk (below_step (by repeat (first | (with_reducible first | exact HB.out | apply below_alloc | apply pw_below_drewN | apply below_drew1) | exact HB.out)) hb); have n1_ := Aside0.mk (hbox); have n2_ := Aside0.mk ((by rw [hg]; exact (below_size (by repeat (first | (with_reducible first | exact HB.out | apply below_alloc | apply pw_below_drewN | apply below_drew1) | exact HB.out))) : w.heap.size ≤ gb198)); have n3_ := Aside0.mk ((by rw [hg]; exact (below_size (by repeat (first | (with_reducible first | exact HB.out | apply below_alloc | apply pw_below_drewN | apply below_drew1) | exact HB.out))) : w.heap.size ≤ gb198)); clear HB; have HB := n0_; have BK198 := n1_; have GW198 := n2_; have GE198 := n3_; clear n0_ n1_ n2_ n3_; clear hb hbox hg)))
 go_loopg [8] k (fun kq v8 w' => ∃ (x8_1 : Int), v8 = .int .i64 x8_1 ∧ Aside0 (impl_Place_111.l0 kq l0 (l0.length : Int) x8_1 a1_0 a1_1 = some r) ∧ Aside0 (kq ≤ k) ∧ Aside0 (w'.heap[gb198]? = some (.cells #[.int .i64 a1_0, .int .i64 a1_1] 88 (0, 0))) ∧ Aside0 (Below w.heap.size w w'))
 case atStart => exact ⟨(0), (by first | rfl | (simp; done) | (simp [*]; done)), H', ⟨Nat.le_refl _⟩, ⟨by (with_reducible repeat (first | refine blk_drewN ?_ _ | refine blk_drew ?_ | refine blk_alloc ?_ _)); exact BK198.out⟩, ⟨by repeat (first | (with_reducible first | exact HB.out | apply below_alloc | apply pw_below_drewN | apply below_drew1 | refine below_set ?_ GE198.out) | exact HB.out)⟩⟩
 case round =>
  clear H'
  (try clear c1); (try clear p2)
  obtain ⟨x8_1, rfl, HA, HK1, BK198, HB⟩ := hrel
  cases gk with
  | zero => exact absurd HA.out (by simp [impl_Place_111.l0])
  | succ k1 =>
   have H := HA.out
   clear HA
   simp only [impl_Place_111.l0] at H
   by_cases c4 : x8_1 < (l0.length : Int)
   · rw [if_pos c4] at H
     have c4b0 : decide (x8_1 < (l0.length : Int)) = true := decide_eq_true c4
     clear c4
     by_cases c5 : 0 ≤ x8_1
     · rw [if_pos c5] at H
       have c5b0 : decide (0 ≤ x8_1) = true := decide_eq_true c5
       clear c5
       by_cases c6 : x8_1 < (l0.length : Int)
       · rw [if_pos c6] at H
         have c6b0 : decide (x8_1 < (l0.length : Int)) = true := decide_eq_true c6
         clear c6
         by_cases c7 : (a1_0 == ((rd_T88 l0 x8_1).f0) && (a1_1 == ((rd_T88 l0 x8_1).f1))) = true
         · rw [if_pos c7] at H
           have c7b0 : (a1_0 == ((rd_T88 l0 x8_1).f0) && (a1_1 == ((rd_T88 l0 x8_1).f1))) = true := c7
           (try (have c7b1 : decide (a1_0 = ((rd_T88 l0 x8_1).f0) && (a1_1 == ((rd_T88 l0 x8_1).f1))) = true := by simpa using c7))
           (try (have c7b2 : (a1_0 == ((rd_T88 l0 x8_1).f0) && (a1_1 == ((rd_T88 l0 x8_1).f1))) = true := by simpa using c7))
           clear c7
           obtain rfl := Option.some.inj H
           have hcz8_0 : wr.cell? ⟨gb198, 0, none⟩ = some (.int .i64 a1_0) := (blk_cell BK198.out 0).trans rfl
           have hcz8_1 : wr.cell? ⟨gb198, 1, none⟩ = some (.int .i64 a1_1) := (blk_cell BK198.out 1).trans rfl
           have hfz8_0 := blk_frozen BK198.out 0
           have hfz8_1 := blk_frozen BK198.out 1
           have p199 : 0 ≤ (x8_1 : Int) := of_decide_eq_true (by first | (with_reducible assumption) | assumption)
           have q199 : x8_1 < (l0.length : Int) := of_decide_eq_true (by first | (with_reducible assumption) | assumption)
           obtain ⟨ad199, e199, hx199_0, hx199_1⟩ := at_T88 HR0.out x8_1 p199 q199
           cases e199
           replace hx199_0 := (HB.out.cell (World.block_lt_of_cell? w _ hx199_0)).trans hx199_0
           replace hx199_1 := (HB.out.cell (World.block_lt_of_cell? w _ hx199_1)).trans hx199_1
           replace p199 := eq_true p199
           replace q199 := eq_true q199
           go_wp2
           repeat (go_quiet (fail); try go_wp2)
           go_ret
           exact ⟨by first | rfl | (simp [errW_none, errW_some] <;> rfl) | (simp [*, errW_none, errW_some] <;> rfl), by repeat (first | (with_reducible first | exact HB.out | apply below_alloc | apply pw_below_drewN | apply below_drew1 | refine below_set ?_ GE198.out) | exact HB.out)⟩
         · rw [if_neg c7] at H
           have c7b0 : (a1_0 == ((rd_T88 l0 x8_1).f0) && (a1_1 == ((rd_T88 l0 x8_1).f1))) = false := by simpa using c7
           (try (have c7b1 : decide (a1_0 = ((rd_T88 l0 x8_1).f0) && (a1_1 == ((rd_T88 l0 x8_1).f1))) = false := by simpa using c7))
           (try (have c7b2 : (a1_0 == ((rd_T88 l0 x8_1).f0) && (a1_1 == ((rd_T88 l0 x8_1).f1))) = false := by simpa using c7))
           (try (have c7b3 : ¬ (a1_0 = ((rd_T88 l0 x8_1).f0) && (a1_1 == ((rd_T88 l0 x8_1).f1))) := by simpa using c7))
           clear c7
           have H' := Aside0.mk H
           clear H
           have hcz9_0 : wr.cell? ⟨gb198, 0, none⟩ = some (.int .i64 a1_0) := (blk_cell BK198.out 0).trans rfl
           have hcz9_1 : wr.cell? ⟨gb198, 1, none⟩ = some (.int .i64 a1_1) := (blk_cell BK198.out 1).trans rfl
           have hfz9_0 := blk_frozen BK198.out 0
           have hfz9_1 := blk_frozen BK198.out 1
           have p199 : 0 ≤ (x8_1 : Int) := of_decide_eq_true (by first | (with_reducible assumption) | assumption)
           have q199 : x8_1 < (l0.length : Int) := of_decide_eq_true (by first | (with_reducible assumption) | assumption)
           obtain ⟨ad199, e199, hx199_0, hx199_1⟩ := at_T88 HR0.out x8_1 p199 q199
           cases e199
           replace hx199_0 := (HB.out.cell (World.block_lt_of_cell? w _ hx199_0)).trans hx199_0
           replace hx199_1 := (HB.out.cell (World.block_lt_of_cell? w _ hx199_1)).trans hx199_1
           replace p199 := eq_true p199
           replace q199 := eq_true q199
           go_wp2
           repeat (go_quiet (fail); try go_wp2)
           go_roundg k1
           case measure => have := HK1.out; omega
           case rel => exact ⟨(wrap64 (x8_1 + 1)), (by first | rfl | (simp; done) | (simp [*]; done)), H', ⟨by have := HK1.out; omega⟩, ⟨by (with_reducible repeat (first | refine blk_drewN ?_ _ | refine blk_drew ?_ | refine blk_alloc ?_ _)); exact BK198.out⟩, ⟨by repeat (first | (with_reducible first | exact HB.out | apply below_alloc | apply pw_below_drewN | apply below_drew1 | refine below_set ?_ GE198.out) | exact HB.out)⟩⟩
       · rw [if_neg c6] at H
         exact absurd H (by simp)
     · rw [if_neg c5] at H
       exact absurd H (by simp)
   · rw [if_neg c4] at H
     have c4b0 : decide (x8_1 < (l0.length : Int)) = false := decide_eq_false c4
     clear c4
     obtain rfl := Option.some.inj H
     go_wp2
     repeat (go_quiet (fail); try go_wp2)
     go_ret
     exact ⟨by first | rfl | (simp [errW_none, errW_some] <;> rfl) | (simp [*, errW_none, errW_some] <;> rfl), by repeat (first | (with_reducible first | exact HB.out | apply below_alloc | apply pw_below_drewN | apply below_drew1 | refine below_set ?_ GE198.out) | exact HB.out)⟩

/-! ### impl_Place_84: function 84 -/
def impl_Place_84.f (k : Nat) (l0 : List (S88)) (a1_0 : Int) (a1_1 : Int) : Option (Bool) := (impl_Place_111.f k l0 a1_0 a1_1).bind fun t201 => (some (decide (t201 ≥ 0)))
theorem impl_Place_84.mono : ∀ a0 a1 a2 k, LeO (impl_Place_84.f k a0 a1 a2) (impl_Place_84.f (k + 1) a0 a1 a2) := by
 intro a0 a1 a2 k
 unfold impl_Place_84.f
 repeat' first
  | (with_reducible exact impl_Place_111.mono _ _ _ _)
  | (with_reducible exact LeO.refl _)
  | (with_reducible exact LeO.none _)
  | (with_reducible refine LeO.ite ?_ ?_)
  | (with_reducible refine LeO.bind ?_ (fun _ => ?_))
  | exact impl_Place_111.mono _ _ _ _
  | exact LeO.none _
  | refine LeO.ite ?_ ?_
  | refine LeO.bind ?_ (fun _ => ?_)
set_option maxHeartbeats 8000000 in
set_option maxRecDepth 100000 in
theorem impl_Place_84.calls (k : Nat) (A0 : Option Addr) (c0 : Nat) (l0 : List (S88)) (a1_0 : Int) (a1_1 : Int) (r : Bool) (w : World) (hr0 : Kd.C k88 w A0 l0.length l0) (hc0 : l0.length ≤ c0) (h : impl_Place_84.f k l0 a1_0 a1_1 = some r) :
 Calls Try.prog 84 #[.slice A0 l0.length c0, .agg #[.int .i64 a1_0, .int .i64 a1_1]] w fun e w' => e = .returned (.bool r) ∧ Below w.heap.size w w' := by
 have hu88 := Try.underlying88
 have HR0 := Aside0.mk hr0
 have HC0 := Aside0.mk hc0
 clear hr0 hc0
 have HB := Aside0.mk (Below.refl w.heap.size w)
 have H : ((impl_Place_111.f k l0 a1_0 a1_1).bind fun t201 => (some (decide (t201 ≥ 0)))) = some r := h
 clear h
 replace H := Option.bind_eq_some_iff.mp H
 obtain ⟨t201, A30, H⟩ := H
 replace H : (some (decide (t201 ≥ 0))) = some r := H
 have A3 := Aside0.mk A30
 clear A30
 obtain rfl := Option.some.inj H
 go_enter Try.func84, Try.ntmps84
 go_wp2_with (first | ((with_reducible refine gate_dst (N := 3) rfl ?_); refine box_event ?hg (N := 3) ?hd (cs := #[.int .i64 a1_0, .int .i64 a1_1]) (t := 88) ?hr ?_; (case hd => rfl); (case hg => rfl); (case hr => first | (go_simp; done) | (go_simp; rfl)); intro gb200 hg w4 hbox hb; have n0_ := Aside0.mk (below_step (by repeat (first | (with_reducible first | exact HB.out | apply below_alloc | apply pw_below_drewN | apply below_drew1) | exact HB.out)) hb); have n1_ := Aside0.mk (hbox); have n2_ := Aside0.mk ((by rw [hg]; exact (below_size (by repeat (first | (with_reducible first | exact HB.out | apply below_alloc | apply pw_below_drewN | apply below_drew1) | exact HB.out))) : w.heap.size ≤ gb200)); have n3_ := Aside0.mk ((by rw [hg]; exact (below_size (by repeat (first | (with_reducible first | exact HB.out | apply below_alloc | apply pw_below_drewN | apply below_drew1) | exact HB.out))) : w.heap.size ≤ gb200)); clear HB; have HB := n0_; have BK200 := n1_; have GW200 := n2_; have GE200 := n3_; clear n0_ n1_ n2_ n3_; clear hb hbox hg; have hcz5_0 : w4.cell? ⟨gb200, 0, none⟩ = some (.int .i64 a1_0) := (blk_cell BK200.out 0).trans rfl; have hcz5_1 : w4.cell? ⟨gb200, 1, none⟩ = some (.int .i64 a1_1) := (blk_cell BK200.out 1).trans rfl; have hfz5_0 := blk_frozen BK200.out 0; have hfz5_1 := blk_frozen BK200.out 1) | ((with_reducible refine gate_callee (f := 111) rfl ?_); refine goesL_ (some 7) rfl rfl Try.func111 (by kernel_rfl) rfl #[.slice A0 l0.length c0, .agg #[.int .i64 a1_0, .int .i64 a1_1]] rfl (by (try simp only [List.map_toArray, List.map_cons, List.map_nil]); first | done | rfl | (simp only [List.length_drop, List.length_take]; rfl)) ?_; (with_reducible refine (impl_Place_111.calls k _ _ l0 a1_0 a1_1 t201 _ ?side1 ?side2 A3.out).mono ?_); (case side1 => repeat (first | exact (Kd.C_below HR0.out HB.out) | (with_reducible refine Kd.C_alloc ?_ _) | (with_reducible refine Kd.C_drewN ?_ _) | (with_reducible refine Kd.C_drew ?_))); (case side2 => exact HC0.out); rintro e w6 ⟨rfl, hb⟩; refine ⟨_, rfl, ?_⟩; have n0_ := Aside0.mk (blk_below (g := gb200) (o := .cells #[.int .i64 a1_0, .int .i64 a1_1] 88 (0, 0)) (by (with_reducible repeat (first | refine blk_drewN ?_ _ | refine blk_drew ?_ | refine blk_alloc ?_ _)); exact BK200.out) hb); have n1_ := Aside0.mk (below_step (by repeat (first | (with_reducible first | exact HB.out | apply below_alloc | apply pw_below_drewN | apply below_drew1 | refine below_set ?_ GE200.out) | exact HB.out)) hb); clear BK200; clear HB; have BK200 := n0_; have HB := n1_; clear n0_ n1_; (try clear hb); (try clear hb2); (try clear hk); (try clear hi)))
 go_ret
 exact ⟨by first | rfl | (simp [errW_none, errW_some] <;> rfl) | (simp [*, errW_none, errW_some] <;> rfl), by repeat (first | (with_reducible first | exact HB.out | apply below_alloc | apply pw_below_drewN | apply below_drew1 | refine below_set ?_ GE200.out) | exact HB.out)⟩

/-! ### impl_ValidPlaces: function 60 -/
def impl_ValidPlaces.l0 : Nat → List (S88) → List (S88) → Int → Int → Option (Bool)
 | 0, _, _, _, _ => none
 | k + 1, x0, x9, x10, x11 => if x11 < x10 then (if 0 ≤ x11 then (if x11 < (x9.length : Int) then ((impl_isCoordinate.f ((rd_T88 x9 x11).f0)).bind fun t205 => (if t205 = true then ((impl_isCoordinate.f ((rd_T88 x9 x11).f1)).bind fun t206 => (if t206 = true then (if x11 ≤ (x0.length : Int) then ((impl_Place_84.f k (x0.take (x11 : Int).toNat) ((rd_T88 x9 x11).f0) ((rd_T88 x9 x11).f1)).bind fun t211 => (if t211 = true then (some false) else (impl_ValidPlaces.l0 k x0 x9 x10 (wrap64 (x11 + 1))))) else (none)) else (some false))) else (some false))) else (none)) else (none)) else (some true)
def impl_ValidPlaces.f (k : Nat) (l0 : List (S88)) : Option (Bool) := (impl_isCount.f (l0.length : Int)).bind fun t202 => (if t202 = true then (impl_ValidPlaces.l0 k l0 l0 (l0.length : Int) 0) else (some false))
theorem impl_ValidPlaces.mono_l : ∀ k, (∀ y0 y1 y2 y3, LeO (impl_ValidPlaces.l0 k y0 y1 y2 y3) (impl_ValidPlaces.l0 (k + 1) y0 y1 y2 y3))
 | 0 => fun _ _ _ _ r h => by simp [impl_ValidPlaces.l0] at h
 | k + 1 => by
  have ih0 := impl_ValidPlaces.mono_l k
  · intro y0 y1 y2 y3
    unfold impl_ValidPlaces.l0
    repeat' first
    | (with_reducible exact ih0 _ _ _ _)
    | (with_reducible exact impl_Place_84.mono _ _ _ _)
    | (with_reducible exact LeO.refl _)
    | (with_reducible exact LeO.none _)
    | (with_reducible refine LeO.ite ?_ ?_)
    | (with_reducible refine LeO.bind ?_ (fun _ => ?_))
    | exact ih0 _ _ _ _
    | exact impl_Place_84.mono _ _ _ _
    | exact LeO.none _
    | refine LeO.ite ?_ ?_
    | refine LeO.bind ?_ (fun _ => ?_)
theorem impl_ValidPlaces.mono : ∀ a0 k, LeO (impl_ValidPlaces.f k a0) (impl_ValidPlaces.f (k + 1) a0) := by
 intro a0 k
 have ih0 := impl_ValidPlaces.mono_l k
 unfold impl_ValidPlaces.f
 repeat' first
  | (with_reducible exact ih0 _ _ _ _)
  | (with_reducible exact impl_Place_84.mono _ _ _ _)
  | (with_reducible exact LeO.refl _)
  | (with_reducible exact LeO.none _)
  | (with_reducible refine LeO.ite ?_ ?_)
  | (with_reducible refine LeO.bind ?_ (fun _ => ?_))
  | exact ih0 _ _ _ _
  | exact impl_Place_84.mono _ _ _ _
  | exact LeO.none _
  | refine LeO.ite ?_ ?_
  | refine LeO.bind ?_ (fun _ => ?_)
def impl_ValidPlaces.T6 : Bool × List (List Nat × List Nat) := (true, [([], []), ([0], [0]), ([1], [1]), ([2], [2]), ([3, 2], [3]), ([4], [4]), ([5, 4], [4, 5]), ([6, 4, 4], [4, 6]), ([7, 4], [4, 7]), ([4, 8], [4, 8]), ([9, 7], [9]), ([10], [10]), ([10], [10]), ([11, 12, 10], [10, 11, 12]), ([10], [10]), ([13, 14, 10, 10], [10, 13, 14]), ([10, 15], [10, 15])])
def impl_ValidPlaces.B6 : List Nat := [0, 1, 3, 7, 15, 31, 63, 127, 255, 511, 1023, 2047, 2047, 8191, 2047, 32767, 65535]
theorem impl_ValidPlaces.tab6 : rtab .any (opsOf Try.f60 6) = impl_ValidPlaces.T6 := by kernel_rfl
theorem impl_ValidPlaces.bits6 : waitsOk impl_ValidPlaces.T6.2 impl_ValidPlaces.B6 = true := by kernel_rfl
set_option maxHeartbeats 8000000 in
set_option maxRecDepth 100000 in
theorem impl_ValidPlaces.calls (k : Nat) (A0 : Option Addr) (c0 : Nat) (l0 : List (S88)) (r : Bool) (w : World) (hr0 : Kd.C k88 w A0 l0.length l0) (hc0 : l0.length ≤ c0) (h : impl_ValidPlaces.f k l0 = some r) :
 Calls Try.prog 60 #[.slice A0 l0.length c0] w fun e w' => e = .returned (.bool r) ∧ Below w.heap.size w w' := by
 have hu88 := Try.underlying88
 have HR0 := Aside0.mk hr0
 have HC0 := Aside0.mk hc0
 clear hr0 hc0
 have HB := Aside0.mk (Below.refl w.heap.size w)
 have H : ((impl_isCount.f (l0.length : Int)).bind fun t202 => (if t202 = true then (impl_ValidPlaces.l0 k l0 l0 (l0.length : Int) 0) else (some false))) = some r := h
 clear h
 replace H := Option.bind_eq_some_iff.mp H
 obtain ⟨t202, A20, H⟩ := H
 replace H : (if t202 = true then (impl_ValidPlaces.l0 k l0 l0 (l0.length : Int) 0) else (some false)) = some r := H
 have A2 := Aside0.mk A20
 clear A20
 by_cases c3 : t202 = true
 · subst c3
   have H1 : (impl_ValidPlaces.l0 k l0 l0 (l0.length : Int) 0) = some r := by rw [if_pos rfl] at H; exact H
   clear H
   have H := H1
   clear H1
   have H' := Aside0.mk H
   clear H
   go_enter Try.func60, Try.ntmps60
   go_wp2_with (first | ((with_reducible refine gate_callee (f := 82) rfl ?_); refine goesL_ (some 7) rfl rfl Try.func82 (by kernel_rfl) rfl #[.int .i64 (l0.length : Int)] rfl (by (try simp only [List.map_toArray, List.map_cons, List.map_nil]); first | done | rfl | (simp only [List.length_drop, List.length_take]; rfl)) ?_; (with_reducible refine (impl_isCount.calls (l0.length : Int) true _ A2.out).mono ?_); rintro e w' ⟨rfl, ⟨nd, rfl⟩⟩; refine ⟨_, rfl, ?_⟩))
   go_loopg [11] k (fun kq v11 w' => ∃ (x11_1 : Int), v11 = .int .i64 x11_1 ∧ Aside0 (impl_ValidPlaces.l0 kq l0 l0 (l0.length : Int) x11_1 = some r) ∧ Aside0 (kq ≤ k) ∧ Aside0 (Below w.heap.size w w'))
   case atStart => exact ⟨(0), (by first | rfl | (simp; done) | (simp [*]; done)), H', ⟨Nat.le_refl _⟩, ⟨by repeat (first | (with_reducible first | exact HB.out | apply below_alloc | apply pw_below_drewN | apply below_drew1) | exact HB.out)⟩⟩
   case round =>
    clear H'
    (try clear p2); (try clear c3)
    obtain ⟨x11_1, rfl, HA, HK1, HB⟩ := hrel
    cases gk with
    | zero => exact absurd HA.out (by simp [impl_ValidPlaces.l0])
    | succ k1 =>
     have H := HA.out
     clear HA
     simp only [impl_ValidPlaces.l0] at H
     by_cases c4 : x11_1 < (l0.length : Int)
     · rw [if_pos c4] at H
       have c4b0 : decide (x11_1 < (l0.length : Int)) = true := decide_eq_true c4
       clear c4
       by_cases c5 : 0 ≤ x11_1
       · rw [if_pos c5] at H
         have c5b0 : decide (0 ≤ x11_1) = true := decide_eq_true c5
         clear c5
         by_cases c6 : x11_1 < (l0.length : Int)
         · rw [if_pos c6] at H
           have c6b0 : decide (x11_1 < (l0.length : Int)) = true := decide_eq_true c6
           clear c6
           replace H := Option.bind_eq_some_iff.mp H
           obtain ⟨t205, A70, H⟩ := H
           replace H : (if t205 = true then ((impl_isCoordinate.f ((rd_T88 l0 x11_1).f1)).bind fun t206 => (if t206 = true then (if x11_1 ≤ (l0.length : Int) then ((impl_Place_84.f k1 (l0.take (x11_1 : Int).toNat) ((rd_T88 l0 x11_1).f0) ((rd_T88 l0 x11_1).f1)).bind fun t211 => (if t211 = true then (some false) else (impl_ValidPlaces.l0 k1 l0 l0 (l0.length : Int) (wrap64 (x11_1 + 1))))) else (none)) else (some false))) else (some false)) = some r := H
           have A7 := Aside0.mk A70
           clear A70
           by_cases c8 : t205 = true
           · subst c8
             have H1 : ((impl_isCoordinate.f ((rd_T88 l0 x11_1).f1)).bind fun t206 => (if t206 = true then (if x11_1 ≤ (l0.length : Int) then ((impl_Place_84.f k1 (l0.take (x11_1 : Int).toNat) ((rd_T88 l0 x11_1).f0) ((rd_T88 l0 x11_1).f1)).bind fun t211 => (if t211 = true then (some false) else (impl_ValidPlaces.l0 k1 l0 l0 (l0.length : Int) (wrap64 (x11_1 + 1))))) else (none)) else (some false))) = some r := by rw [if_pos rfl] at H; exact H
             clear H
             have H := H1
             clear H1
             replace H := Option.bind_eq_some_iff.mp H
             obtain ⟨t206, A90, H⟩ := H
             replace H : (if t206 = true then (if x11_1 ≤ (l0.length : Int) then ((impl_Place_84.f k1 (l0.take (x11_1 : Int).toNat) ((rd_T88 l0 x11_1).f0) ((rd_T88 l0 x11_1).f1)).bind fun t211 => (if t211 = true then (some false) else (impl_ValidPlaces.l0 k1 l0 l0 (l0.length : Int) (wrap64 (x11_1 + 1))))) else (none)) else (some false)) = some r := H
             have A9 := Aside0.mk A90
             clear A90
             by_cases c10 : t206 = true
             · subst c10
               have H1 : (if x11_1 ≤ (l0.length : Int) then ((impl_Place_84.f k1 (l0.take (x11_1 : Int).toNat) ((rd_T88 l0 x11_1).f0) ((rd_T88 l0 x11_1).f1)).bind fun t211 => (if t211 = true then (some false) else (impl_ValidPlaces.l0 k1 l0 l0 (l0.length : Int) (wrap64 (x11_1 + 1))))) else (none)) = some r := by rw [if_pos rfl] at H; exact H
               clear H
               have H := H1
               clear H1
               have c11b0 := eq_true (of_decide_eq_true (by first | (with_reducible assumption) | assumption) : 0 ≤ x11_1)
               by_cases c12 : x11_1 ≤ (l0.length : Int)
               · rw [if_pos c12] at H
                 have c12b0 := eq_true c12
                 have c12b1 : decide (x11_1 ≤ (l0.length : Int)) = true := decide_eq_true c12
                 clear c12
                 obtain ⟨y207, hy207⟩ : ∃ y_ : List (S88), y_ = (l0.take (x11_1 : Int).toNat) := ⟨_, rfl⟩
                 replace H : ((impl_Place_84.f k1 y207 ((rd_T88 l0 x11_1).f0) ((rd_T88 l0 x11_1).f1)).bind fun t211 => (if t211 = true then (some false) else (impl_ValidPlaces.l0 k1 l0 l0 (l0.length : Int) (wrap64 (x11_1 + 1))))) = some r := by first | (rw [hy207]; with_reducible exact H) | (have H2_ := (Option.bind_some _ _).symm.trans H; rw [hy207]; with_reducible exact H2_) | (have H2_ := (Option.bind_some _ _).symm.trans H; with_reducible exact H2_) | with_reducible exact H | (rw [hy207]; exact H) | exact H
                 have Ny207 := Aside0.mk hy207
                 clear hy207
                 replace H := Option.bind_eq_some_iff.mp H
                 obtain ⟨t211, A130, H⟩ := H
                 replace H : (if t211 = true then (some false) else (impl_ValidPlaces.l0 k1 l0 l0 (l0.length : Int) (wrap64 (x11_1 + 1)))) = some r := H
                 have A13 := Aside0.mk A130
                 clear A130
                 by_cases c14 : t211 = true
                 · subst c14
                   have H1 : (some false) = some r := by rw [if_pos rfl] at H; exact H
                   clear H
                   have H := H1
                   clear H1
                   obtain rfl := Option.some.inj H
                   have p203 : 0 ≤ (x11_1 : Int) := of_decide_eq_true (by first | (with_reducible assumption) | assumption)
                   have q203 : x11_1 < (l0.length : Int) := of_decide_eq_true (by first | (with_reducible assumption) | assumption)
                   obtain ⟨ad203, e203, hx203_0, hx203_1⟩ := at_T88 HR0.out x11_1 p203 q203
                   cases e203
                   replace hx203_0 := (HB.out.cell (World.block_lt_of_cell? w _ hx203_0)).trans hx203_0
                   replace hx203_1 := (HB.out.cell (World.block_lt_of_cell? w _ hx203_1)).trans hx203_1
                   replace p203 := eq_true p203
                   replace q203 := eq_true q203
                   try go_wp2_with (first | ((with_reducible refine gate_dst (N := 4) rfl ?_); refine box_event ?hg (N := 4) ?hd (cs := #[.int .i64 0, .int .i64 0]) (t := 88) ?hr ?_; (case hd => rfl); (case hg => rfl); (case hr => first | (go_simp; done) | (go_simp; rfl)); intro gb204 hg w15 hbox hb; have n0_ := Aside0.mk (below_step (by repeat (first | (with_reducible first | exact HB.out | apply below_alloc | apply pw_below_drewN | apply below_drew1) | exact HB.out)) hb); have n1_ := Aside0.mk (hbox); have n2_ := Aside0.mk ((by rw [hg]; exact (below_size (by repeat (first | (with_reducible first | exact HB.out | apply below_alloc | apply pw_below_drewN | apply below_drew1) | exact HB.out))) : w.heap.size ≤ gb204)); have n3_ := Aside0.mk ((by rw [hg]; exact (below_size (by repeat (first | (with_reducible first | exact HB.out | apply below_alloc | apply pw_below_drewN | apply below_drew1) | exact HB.out))) : w.heap.size ≤ gb204)); clear HB; have HB := n0_; have BK204 := n1_; have GW204 := n2_; have GE204 := n3_; clear n0_ n1_ n2_ n3_; clear hb hbox hg; have hcz16_0 : w15.cell? ⟨gb204, 0, none⟩ = some (.int .i64 0) := (blk_cell BK204.out 0).trans rfl; have hcz16_1 : w15.cell? ⟨gb204, 1, none⟩ = some (.int .i64 0) := (blk_cell BK204.out 1).trans rfl; have hfz16_0 := blk_frozen BK204.out 0; have hfz16_1 := blk_frozen BK204.out 1))
                   have n0_ : Aside0 (((w15.setCell ⟨gb204, 0, none⟩ (.int .i64 ((rd_T88 l0 x11_1).f0))).setCell ⟨gb204, 1, none⟩ (.int .i64 ((rd_T88 l0 x11_1).f1))).heap[gb204]? = some (.cells #[.int .i64 ((rd_T88 l0 x11_1).f0), .int .i64 ((rd_T88 l0 x11_1).f1)] 88 (0, 0))) := ⟨by (with_reducible repeat (first | refine blk_drewN ?_ _ | refine blk_drew ?_ | refine blk_alloc ?_ _)); refine blk_put (cs := #[.int .i64 ((rd_T88 l0 x11_1).f0), .int .i64 0]) ?_ 1 _ rfl; (with_reducible repeat (first | refine blk_drewN ?_ _ | refine blk_drew ?_ | refine blk_alloc ?_ _)); refine blk_put (cs := #[.int .i64 0, .int .i64 0]) ?_ 0 _ rfl; (with_reducible repeat (first | refine blk_drewN ?_ _ | refine blk_drew ?_ | refine blk_alloc ?_ _)); exact BK204.out⟩
                   have n1_ : Aside0 (Below w.heap.size w ((w15.setCell ⟨gb204, 0, none⟩ (.int .i64 ((rd_T88 l0 x11_1).f0))).setCell ⟨gb204, 1, none⟩ (.int .i64 ((rd_T88 l0 x11_1).f1)))) := ⟨by repeat (first | (with_reducible first | exact HB.out | apply below_alloc | apply pw_below_drewN | apply below_drew1 | refine below_set ?_ GE204.out) | exact HB.out)⟩
                   (try clear BK204)
                   (try clear HB)
                   generalize ((w15.setCell ⟨gb204, 0, none⟩ (.int .i64 ((rd_T88 l0 x11_1).f0))).setCell ⟨gb204, 1, none⟩ (.int .i64 ((rd_T88 l0 x11_1).f1))) = w17 at n0_ n1_ ⊢
                   have BK204 := n0_
                   have HB := n1_
                   clear n0_ n1_
                   have n0_ := Aside0.mk (blk_drew BK204.out)
                   have n1_ := Aside0.mk (below_drew1 HB.out)
                   clear BK204
                   clear HB
                   have BK204 := n0_
                   have HB := n1_
                   clear n0_ n1_
                   refine start_ (n := 17) (S := fun w' => w'.cell? ⟨gb204, 0, none⟩ = some (.int .i64 ((rd_T88 l0 x11_1).f0)) ∧ w'.cell? ⟨gb204, 1, none⟩ = some (.int .i64 ((rd_T88 l0 x11_1).f1))) (ds := []) #[false, false, false, false, false, false, false, false, false, false, false, false, false, false, false, false, false] (by kernel_rfl) rfl rfl ⟨(blk_cell BK204.out 0).trans rfl, (blk_cell BK204.out 1).trans rfl⟩ (fun hHeld => ?_); refine with_tabW impl_ValidPlaces.tab6 impl_ValidPlaces.bits6 (fun HT_ HW_ => ?_)
                   generalize w17.drew = w18 at BK204 HB hHeld ⊢
                   refine pure_ (i := 0) (N := some 16) (v := ?_) (a' := ?_) #[true, false, false, false, false, false, false, false, false, false, false, false, false, false, false, false, false] rfl rfl (any_of HT_.out (by kernel_rfl)) (fun _ _ _ h => h) (Or.inl ⟨by rfl, ?_⟩) ?_ ?_; rotate_left 4
                   rotate_left; iterate 1 (rotate_left; (intro w'; go_simp; with_reducible rfl); rotate_left; (simp only [Act.put, List.setIfInBounds_toArray, List.set_cons_zero, List.set_cons_succ, i64_w, i32_w]; rfl))
                   refine take_ (i := 1) (N := some 17) (v := ?_) (a' := ?_) #[true, true, false, false, false, false, false, false, false, false, false, false, false, false, false, false, false] rfl rfl (take_ofW HT_.out HW_.out (by kernel_rfl)) (fun _ _ _ h => h) (Or.inl ⟨by rfl, ?_⟩) hHeld ?_ ?_
                   rotate_left
                   · rintro w' ⟨s0, s1⟩
                     go_simp
                     with_reducible rfl
                   rotate_left
                   · simp only [Act.put, List.setIfInBounds_toArray, List.set_cons_zero, List.set_cons_succ, i64_w, i32_w]
                     rfl
                   refine one_ (i := 2) (N := some 18) #[true, true, true, false, false, false, false, false, false, false, false, false, false, false, false, false, false] rfl rfl (one_of HT_.out (by kernel_rfl)) (by decide) (fun K hK => ?_)
                   refine goes_ Try.func83 (by kernel_rfl) rfl #[.int .i64 ((rd_T88 l0 x11_1).f0)] (by rfl) rfl rfl (by (try simp only [List.map_toArray, List.map_cons, List.map_nil]); first | done | rfl | (simp only [List.length_drop, List.length_take]; rfl)) ?_
                   with_reducible refine (impl_isCoordinate.calls ((rd_T88 l0 x11_1).f0) true _ A7.out).mono ?_
                   rintro e w' ⟨rfl, ⟨nd, rfl⟩⟩
                   refine ⟨_, rfl, ?_⟩
                   refine hK.out _ _ ⟨(blk_cell BK204.out 0).trans rfl, (blk_cell BK204.out 1).trans rfl⟩ (fun hHeld => ?_)
                   clear hK K
                   refine norm_ (a' := ?_) ?_ ?_
                   rotate_left
                   · show Act.put _ (some 18) _ = _
                     simp only [Act.put, List.setIfInBounds_toArray, List.set_cons_zero, List.set_cons_succ, i64_w, i32_w]
                     rfl
                   refine pure_ (i := 3) (N := some 19) (v := ?_) (a' := ?_) #[true, true, true, true, false, false, false, false, false, false, false, false, false, false, false, false, false] rfl rfl (any_of HT_.out (by kernel_rfl)) (fun _ _ _ h => h) (Or.inl ⟨by rfl, ?_⟩) ?_ ?_; rotate_left 4
                   refine pure_ (i := 4) (N := some 20) (v := ?_) (a' := ?_) #[true, true, true, true, true, false, false, false, false, false, false, false, false, false, false, false, false] rfl rfl (any_of HT_.out (by kernel_rfl)) (fun _ _ _ h => h) (Or.inl ⟨by rfl, ?_⟩) ?_ ?_; rotate_left 4
                   rotate_left; iterate 2 (rotate_left; (intro w'; go_simp; with_reducible rfl); rotate_left; (simp only [Act.put, List.setIfInBounds_toArray, List.set_cons_zero, List.set_cons_succ, i64_w, i32_w]; rfl))
                   refine pure_ (i := 5) (N := some 21) (v := ?_) (a' := ?_) #[true, true, true, true, true, true, false, false, false, false, false, false, false, false, false, false, false] rfl rfl (any_of HT_.out (by kernel_rfl)) (fun _ _ _ h => h) (Or.inl ⟨by rfl, ?_⟩) ?_ ?_; rotate_left; (intro w'; go_simp; with_reducible rfl); rotate_left; (simp only [Act.put, List.setIfInBounds_toArray, List.set_cons_zero, List.set_cons_succ, i64_w, i32_w]; rfl)
                   refine take_ (i := 6) (N := some 22) (v := ?_) (a' := ?_) #[true, true, true, true, true, true, true, false, false, false, false, false, false, false, false, false, false] rfl rfl (take_ofW HT_.out HW_.out (by kernel_rfl)) (fun _ _ _ h => h) (Or.inl ⟨by rfl, ?_⟩) hHeld ?_ ?_
                   rotate_left
                   · rintro w' ⟨s0, s1⟩
                     go_simp
                     with_reducible rfl
                   rotate_left
                   · simp only [Act.put, List.setIfInBounds_toArray, List.set_cons_zero, List.set_cons_succ, i64_w, i32_w]
                     rfl
                   refine one_ (i := 7) (N := some 23) #[true, true, true, true, true, true, true, true, false, false, false, false, false, false, false, false, false] rfl rfl (one_of HT_.out (by kernel_rfl)) (by decide) (fun K hK => ?_)
                   refine goes_ Try.func83 (by kernel_rfl) rfl #[.int .i64 ((rd_T88 l0 x11_1).f1)] (by rfl) rfl rfl (by (try simp only [List.map_toArray, List.map_cons, List.map_nil]); first | done | rfl | (simp only [List.length_drop, List.length_take]; rfl)) ?_
                   with_reducible refine (impl_isCoordinate.calls ((rd_T88 l0 x11_1).f1) true _ A9.out).mono ?_
                   rintro e w' ⟨rfl, ⟨nd, rfl⟩⟩
                   refine ⟨_, rfl, ?_⟩
                   have q19 : (x11_1 : Int) ≤ ((l0.length : Int) : Int) := of_decide_eq_true (by first | (with_reducible assumption) | assumption)
                   obtain ⟨i019, hi019, _, hsz19, _⟩ := info_parts info88
                   have hroom19 : l0.length ≤ c0 := HC0.out
                   have hC19 : Kd.C k88 _ (some ad203) l0.length l0 := HR0.out
                   have hcut19 := cut_to (P := Try.prog) 48 88 .i64 Try.underlying48 hi019 (some ad203) l0.length c0 x11_1 (of_decide_eq_true (by first | (with_reducible assumption) | assumption)) q19 hroom19
                   have hr19 := Kd.C_take (m := (x11_1 : Int).toNat) hC19 (by omega)
                   have hy19 : y207.length = (x11_1 : Int).toNat := (by rw [Ny207.out, List.length_take]; omega)
                   rw [← Ny207.out] at hr19
                   rw [← hy19] at hcut19
                   have HR210 := Aside0.mk hr19
                   have HC210 := Aside0.mk (show y207.length ≤ c0 from by omega)
                   clear hr19 hC19 hroom19 hi019 hsz19
                   have KY19 := Aside0.mk hy19
                   clear hy19
                   replace q19 := eq_true q19
                   refine hK.out _ _ ⟨(blk_cell BK204.out 0).trans rfl, (blk_cell BK204.out 1).trans rfl⟩ (fun hHeld => ?_)
                   clear hK K
                   refine norm_ (a' := ?_) ?_ ?_
                   rotate_left
                   · show Act.put _ (some 23) _ = _
                     simp only [Act.put, List.setIfInBounds_toArray, List.set_cons_zero, List.set_cons_succ, i64_w, i32_w]
                     rfl
                   refine pure_ (i := 8) (N := some 24) (v := ?_) (a' := ?_) #[true, true, true, true, true, true, true, true, true, false, false, false, false, false, false, false, false] rfl rfl (any_of HT_.out (by kernel_rfl)) (fun _ _ _ h => h) (Or.inl ⟨by rfl, ?_⟩) ?_ ?_; rotate_left; (intro w'; go_simp; with_reducible rfl); rotate_left; (simp only [Act.put, List.setIfInBounds_toArray, List.set_cons_zero, List.set_cons_succ, i64_w, i32_w]; rfl)
                   refine pure_ (i := 9) (N := some 25) (v := ?_) (a' := ?_) #[true, true, true, true, true, true, true, true, true, true, false, false, false, false, false, false, false] rfl rfl (any_of HT_.out (by kernel_rfl)) (fun _ _ _ h => h) (Or.inl ⟨by rfl, ?_⟩) ?_ ?_; rotate_left 4
                   refine pure_ (i := 10) (N := some 26) (v := ?_) (a' := ?_) #[true, true, true, true, true, true, true, true, true, true, true, false, false, false, false, false, false] rfl rfl (any_of HT_.out (by kernel_rfl)) (fun _ _ _ h => h) (Or.inl ⟨by rfl, ?_⟩) ?_ ?_; rotate_left 4
                   rotate_left; iterate 2 (rotate_left; (intro w'; go_simp; with_reducible rfl); rotate_left; (simp only [Act.put, List.setIfInBounds_toArray, List.set_cons_zero, List.set_cons_succ, i64_w, i32_w]; rfl))
                   refine pure_ (i := 11) (N := some 27) (v := ?_) (a' := ?_) #[true, true, true, true, true, true, true, true, true, true, true, true, false, false, false, false, false] rfl rfl (any_of HT_.out (by kernel_rfl)) (fun _ _ _ h => h) (Or.inl ⟨by rfl, ?_⟩) ?_ ?_; rotate_left; (intro w'; go_simp; with_reducible rfl); rotate_left; (simp only [Act.put, List.setIfInBounds_toArray, List.set_cons_zero, List.set_cons_succ, i64_w, i32_w]; rfl)
                   refine pure_ (i := 12) (N := some 28) (v := ?_) (a' := ?_) #[true, true, true, true, true, true, true, true, true, true, true, true, true, false, false, false, false] rfl rfl (any_of HT_.out (by kernel_rfl)) (fun _ _ _ h => h) (Or.inl ⟨by rfl, ?_⟩) ?_ ?_; rotate_left; (intro w'; go_simp; with_reducible rfl); rotate_left; (simp only [Act.put, List.setIfInBounds_toArray, List.set_cons_zero, List.set_cons_succ, i64_w, i32_w]; rfl)
                   refine pure_ (i := 13) (N := some 29) (v := ?_) (a' := ?_) #[true, true, true, true, true, true, true, true, true, true, true, true, true, true, false, false, false] rfl rfl (any_of HT_.out (by kernel_rfl)) (fun _ _ _ h => h) (Or.inl ⟨by rfl, ?_⟩) ?_ ?_; rotate_left; (intro w'; go_simp; with_reducible rfl); rotate_left; (simp only [Act.put, List.setIfInBounds_toArray, List.set_cons_zero, List.set_cons_succ, i64_w, i32_w]; rfl)
                   refine take_ (i := 14) (N := some 30) (v := ?_) (a' := ?_) #[true, true, true, true, true, true, true, true, true, true, true, true, true, true, true, false, false] rfl rfl (take_ofW HT_.out HW_.out (by kernel_rfl)) (fun _ _ _ h => h) (Or.inl ⟨by rfl, ?_⟩) hHeld ?_ ?_
                   rotate_left
                   · rintro w' ⟨s0, s1⟩
                     go_simp
                     with_reducible rfl
                   rotate_left
                   · simp only [Act.put, List.setIfInBounds_toArray, List.set_cons_zero, List.set_cons_succ, i64_w, i32_w]
                     rfl
                   refine one_ (i := 15) (N := some 31) #[true, true, true, true, true, true, true, true, true, true, true, true, true, true, true, true, false] rfl rfl (one_of HT_.out (by kernel_rfl)) (by decide) (fun K hK => ?_)
                   refine goes_ Try.func84 (by kernel_rfl) rfl #[.slice (some ad203) y207.length c0, .agg #[.int .i64 ((rd_T88 l0 x11_1).f0), .int .i64 ((rd_T88 l0 x11_1).f1)]] (by rfl) rfl rfl (by (try simp only [List.map_toArray, List.map_cons, List.map_nil]); first | done | rfl | (simp only [List.length_drop, List.length_take]; rfl)) ?_
                   with_reducible refine (impl_Place_84.calls k1 _ _ y207 ((rd_T88 l0 x11_1).f0) ((rd_T88 l0 x11_1).f1) true _ ?side1 ?side2 A13.out).mono ?_
                   (case side1 => repeat (first | exact (Kd.C_below HR210.out (by repeat (first | (with_reducible first | exact HB.out | apply below_alloc | apply pw_below_drewN | apply below_drew1 | refine below_set ?_ GE204.out) | exact HB.out))) | (with_reducible refine Kd.C_alloc ?_ _) | (with_reducible refine Kd.C_drewN ?_ _) | (with_reducible refine Kd.C_drew ?_)))
                   (case side2 => exact HC210.out)
                   rintro e w20 ⟨rfl, hb⟩
                   refine ⟨_, rfl, ?_⟩
                   have n0_ := Aside0.mk (blk_below (g := gb204) (o := .cells #[.int .i64 ((rd_T88 l0 x11_1).f0), .int .i64 ((rd_T88 l0 x11_1).f1)] 88 (0, 0)) (by (with_reducible repeat (first | refine blk_drewN ?_ _ | refine blk_drew ?_ | refine blk_alloc ?_ _)); exact BK204.out) hb)
                   have n1_ := Aside0.mk (below_step (by repeat (first | (with_reducible first | exact HB.out | apply below_alloc | apply pw_below_drewN | apply below_drew1 | refine below_set ?_ GE204.out) | exact HB.out)) hb)
                   clear BK204
                   clear HB
                   have BK204 := n0_
                   have HB := n1_
                   clear n0_ n1_
                   (try clear hb)
                   (try clear hb2)
                   (try clear hk)
                   (try clear hi)
                   refine hK.out _ _ ⟨(blk_cell BK204.out 0).trans rfl, (blk_cell BK204.out 1).trans rfl⟩ (fun hHeld => ?_)
                   clear hK K
                   refine norm_ (a' := ?_) ?_ ?_
                   rotate_left
                   · show Act.put _ (some 31) _ = _
                     simp only [Act.put, List.setIfInBounds_toArray, List.set_cons_zero, List.set_cons_succ, i64_w, i32_w]
                     rfl
                   refine pure_ (i := 16) (N := some 32) (v := ?_) (a' := ?_) #[true, true, true, true, true, true, true, true, true, true, true, true, true, true, true, true, true] rfl rfl (any_of HT_.out (by kernel_rfl)) (fun _ _ _ h => h) (Or.inl ⟨by rfl, ?_⟩) ?_ ?_; rotate_left 4
                   rotate_left; iterate 1 (rotate_left; (intro w'; go_simp; with_reducible rfl); rotate_left; (simp only [Act.put, List.setIfInBounds_toArray, List.set_cons_zero, List.set_cons_succ, i64_w, i32_w]; rfl))
                   refine done_ (done_of HT_.out (by kernel_rfl)) ?_
                   try go_wp2
                   go_ret
                   exact ⟨by first | rfl | (simp [errW_none, errW_some] <;> rfl) | (simp [*, errW_none, errW_some] <;> rfl), by repeat (first | (with_reducible first | exact HB.out | apply below_alloc | apply pw_below_drewN | apply below_drew1 | refine below_set ?_ GE204.out) | exact HB.out)⟩
                 · replace c14 := Bool.eq_false_iff.mpr c14
                   subst c14
                   have H1 : (impl_ValidPlaces.l0 k1 l0 l0 (l0.length : Int) (wrap64 (x11_1 + 1))) = some r := by rw [if_neg (show ¬ (false = true) by decide)] at H; exact H
                   clear H
                   have H := H1
                   clear H1
                   have H' := Aside0.mk H
                   clear H
                   have p203 : 0 ≤ (x11_1 : Int) := of_decide_eq_true (by first | (with_reducible assumption) | assumption)
                   have q203 : x11_1 < (l0.length : Int) := of_decide_eq_true (by first | (with_reducible assumption) | assumption)
                   obtain ⟨ad203, e203, hx203_0, hx203_1⟩ := at_T88 HR0.out x11_1 p203 q203
                   cases e203
                   replace hx203_0 := (HB.out.cell (World.block_lt_of_cell? w _ hx203_0)).trans hx203_0
                   replace hx203_1 := (HB.out.cell (World.block_lt_of_cell? w _ hx203_1)).trans hx203_1
                   replace p203 := eq_true p203
                   replace q203 := eq_true q203
                   try go_wp2_with (first | ((with_reducible refine gate_dst (N := 4) rfl ?_); refine box_event ?hg (N := 4) ?hd (cs := #[.int .i64 0, .int .i64 0]) (t := 88) ?hr ?_; (case hd => rfl); (case hg => rfl); (case hr => first | (go_simp; done) | (go_simp; rfl)); intro gb204 hg w21 hbox hb; have n0_ := Aside0.mk (below_step (by repeat (first | (with_reducible first | exact HB.out | apply below_alloc | apply pw_below_drewN | apply below_drew1) | exact HB.out)) hb); have n1_ := Aside0.mk (hbox); have n2_ := Aside0.mk ((by rw [hg]; exact (below_size (by repeat (first | (with_reducible first | exact HB.out | apply below_alloc | apply pw_below_drewN | apply below_drew1) | exact HB.out))) : w.heap.size ≤ gb204)); have n3_ := Aside0.mk ((by rw [hg]; exact (below_size (by repeat (first | (with_reducible first | exact HB.out | apply below_alloc | apply pw_below_drewN | apply below_drew1) | exact HB.out))) : w.heap.size ≤ gb204)); clear HB; have HB := n0_; have BK204 := n1_; have GW204 := n2_; have GE204 := n3_; clear n0_ n1_ n2_ n3_; clear hb hbox hg; have hcz22_0 : w21.cell? ⟨gb204, 0, none⟩ = some (.int .i64 0) := (blk_cell BK204.out 0).trans rfl; have hcz22_1 : w21.cell? ⟨gb204, 1, none⟩ = some (.int .i64 0) := (blk_cell BK204.out 1).trans rfl; have hfz22_0 := blk_frozen BK204.out 0; have hfz22_1 := blk_frozen BK204.out 1))
                   have n0_ : Aside0 (((w21.setCell ⟨gb204, 0, none⟩ (.int .i64 ((rd_T88 l0 x11_1).f0))).setCell ⟨gb204, 1, none⟩ (.int .i64 ((rd_T88 l0 x11_1).f1))).heap[gb204]? = some (.cells #[.int .i64 ((rd_T88 l0 x11_1).f0), .int .i64 ((rd_T88 l0 x11_1).f1)] 88 (0, 0))) := ⟨by (with_reducible repeat (first | refine blk_drewN ?_ _ | refine blk_drew ?_ | refine blk_alloc ?_ _)); refine blk_put (cs := #[.int .i64 ((rd_T88 l0 x11_1).f0), .int .i64 0]) ?_ 1 _ rfl; (with_reducible repeat (first | refine blk_drewN ?_ _ | refine blk_drew ?_ | refine blk_alloc ?_ _)); refine blk_put (cs := #[.int .i64 0, .int .i64 0]) ?_ 0 _ rfl; (with_reducible repeat (first | refine blk_drewN ?_ _ | refine blk_drew ?_ | refine blk_alloc ?_ _)); exact BK204.out⟩
                   have n1_ : Aside0 (Below w.heap.size w ((w21.setCell ⟨gb204, 0, none⟩ (.int .i64 ((rd_T88 l0 x11_1).f0))).setCell ⟨gb204, 1, none⟩ (.int .i64 ((rd_T88 l0 x11_1).f1)))) := ⟨by repeat (first | (with_reducible first | exact HB.out | apply below_alloc | apply pw_below_drewN | apply below_drew1 | refine below_set ?_ GE204.out) | exact HB.out)⟩
                   (try clear BK204)
                   (try clear HB)
                   generalize ((w21.setCell ⟨gb204, 0, none⟩ (.int .i64 ((rd_T88 l0 x11_1).f0))).setCell ⟨gb204, 1, none⟩ (.int .i64 ((rd_T88 l0 x11_1).f1))) = w23 at n0_ n1_ ⊢
                   have BK204 := n0_
                   have HB := n1_
                   clear n0_ n1_
                   have n0_ := Aside0.mk (blk_drew BK204.out)
                   have n1_ := Aside0.mk (below_drew1 HB.out)
                   clear BK204
                   clear HB
                   have BK204 := n0_
                   have HB := n1_
                   clear n0_ n1_
                   refine start_ (n := 17) (S := fun w' => w'.cell? ⟨gb204, 0, none⟩ = some (.int .i64 ((rd_T88 l0 x11_1).f0)) ∧ w'.cell? ⟨gb204, 1, none⟩ = some (.int .i64 ((rd_T88 l0 x11_1).f1))) (ds := []) #[false, false, false, false, false, false, false, false, false, false, false, false, false, false, false, false, false] (by kernel_rfl) rfl rfl ⟨(blk_cell BK204.out 0).trans rfl, (blk_cell BK204.out 1).trans rfl⟩ (fun hHeld => ?_); refine with_tabW impl_ValidPlaces.tab6 impl_ValidPlaces.bits6 (fun HT_ HW_ => ?_)
                   generalize w23.drew = w24 at BK204 HB hHeld ⊢
                   refine pure_ (i := 0) (N := some 16) (v := ?_) (a' := ?_) #[true, false, false, false, false, false, false, false, false, false, false, false, false, false, false, false, false] rfl rfl (any_of HT_.out (by kernel_rfl)) (fun _ _ _ h => h) (Or.inl ⟨by rfl, ?_⟩) ?_ ?_; rotate_left 4
                   rotate_left; iterate 1 (rotate_left; (intro w'; go_simp; with_reducible rfl); rotate_left; (simp only [Act.put, List.setIfInBounds_toArray, List.set_cons_zero, List.set_cons_succ, i64_w, i32_w]; rfl))
                   refine take_ (i := 1) (N := some 17) (v := ?_) (a' := ?_) #[true, true, false, false, false, false, false, false, false, false, false, false, false, false, false, false, false] rfl rfl (take_ofW HT_.out HW_.out (by kernel_rfl)) (fun _ _ _ h => h) (Or.inl ⟨by rfl, ?_⟩) hHeld ?_ ?_
                   rotate_left
                   · rintro w' ⟨s0, s1⟩
                     go_simp
                     with_reducible rfl
                   rotate_left
                   · simp only [Act.put, List.setIfInBounds_toArray, List.set_cons_zero, List.set_cons_succ, i64_w, i32_w]
                     rfl
                   refine one_ (i := 2) (N := some 18) #[true, true, true, false, false, false, false, false, false, false, false, false, false, false, false, false, false] rfl rfl (one_of HT_.out (by kernel_rfl)) (by decide) (fun K hK => ?_)
                   refine goes_ Try.func83 (by kernel_rfl) rfl #[.int .i64 ((rd_T88 l0 x11_1).f0)] (by rfl) rfl rfl (by (try simp only [List.map_toArray, List.map_cons, List.map_nil]); first | done | rfl | (simp only [List.length_drop, List.length_take]; rfl)) ?_
                   with_reducible refine (impl_isCoordinate.calls ((rd_T88 l0 x11_1).f0) true _ A7.out).mono ?_
                   rintro e w' ⟨rfl, ⟨nd, rfl⟩⟩
                   refine ⟨_, rfl, ?_⟩
                   refine hK.out _ _ ⟨(blk_cell BK204.out 0).trans rfl, (blk_cell BK204.out 1).trans rfl⟩ (fun hHeld => ?_)
                   clear hK K
                   refine norm_ (a' := ?_) ?_ ?_
                   rotate_left
                   · show Act.put _ (some 18) _ = _
                     simp only [Act.put, List.setIfInBounds_toArray, List.set_cons_zero, List.set_cons_succ, i64_w, i32_w]
                     rfl
                   refine pure_ (i := 3) (N := some 19) (v := ?_) (a' := ?_) #[true, true, true, true, false, false, false, false, false, false, false, false, false, false, false, false, false] rfl rfl (any_of HT_.out (by kernel_rfl)) (fun _ _ _ h => h) (Or.inl ⟨by rfl, ?_⟩) ?_ ?_; rotate_left 4
                   refine pure_ (i := 4) (N := some 20) (v := ?_) (a' := ?_) #[true, true, true, true, true, false, false, false, false, false, false, false, false, false, false, false, false] rfl rfl (any_of HT_.out (by kernel_rfl)) (fun _ _ _ h => h) (Or.inl ⟨by rfl, ?_⟩) ?_ ?_; rotate_left 4
                   rotate_left; iterate 2 (rotate_left; (intro w'; go_simp; with_reducible rfl); rotate_left; (simp only [Act.put, List.setIfInBounds_toArray, List.set_cons_zero, List.set_cons_succ, i64_w, i32_w]; rfl))
                   refine pure_ (i := 5) (N := some 21) (v := ?_) (a' := ?_) #[true, true, true, true, true, true, false, false, false, false, false, false, false, false, false, false, false] rfl rfl (any_of HT_.out (by kernel_rfl)) (fun _ _ _ h => h) (Or.inl ⟨by rfl, ?_⟩) ?_ ?_; rotate_left; (intro w'; go_simp; with_reducible rfl); rotate_left; (simp only [Act.put, List.setIfInBounds_toArray, List.set_cons_zero, List.set_cons_succ, i64_w, i32_w]; rfl)
                   refine take_ (i := 6) (N := some 22) (v := ?_) (a' := ?_) #[true, true, true, true, true, true, true, false, false, false, false, false, false, false, false, false, false] rfl rfl (take_ofW HT_.out HW_.out (by kernel_rfl)) (fun _ _ _ h => h) (Or.inl ⟨by rfl, ?_⟩) hHeld ?_ ?_
                   rotate_left
                   · rintro w' ⟨s0, s1⟩
                     go_simp
                     with_reducible rfl
                   rotate_left
                   · simp only [Act.put, List.setIfInBounds_toArray, List.set_cons_zero, List.set_cons_succ, i64_w, i32_w]
                     rfl
                   refine one_ (i := 7) (N := some 23) #[true, true, true, true, true, true, true, true, false, false, false, false, false, false, false, false, false] rfl rfl (one_of HT_.out (by kernel_rfl)) (by decide) (fun K hK => ?_)
                   refine goes_ Try.func83 (by kernel_rfl) rfl #[.int .i64 ((rd_T88 l0 x11_1).f1)] (by rfl) rfl rfl (by (try simp only [List.map_toArray, List.map_cons, List.map_nil]); first | done | rfl | (simp only [List.length_drop, List.length_take]; rfl)) ?_
                   with_reducible refine (impl_isCoordinate.calls ((rd_T88 l0 x11_1).f1) true _ A9.out).mono ?_
                   rintro e w' ⟨rfl, ⟨nd, rfl⟩⟩
                   refine ⟨_, rfl, ?_⟩
                   have q25 : (x11_1 : Int) ≤ ((l0.length : Int) : Int) := of_decide_eq_true (by first | (with_reducible assumption) | assumption)
                   obtain ⟨i025, hi025, _, hsz25, _⟩ := info_parts info88
                   have hroom25 : l0.length ≤ c0 := HC0.out
                   have hC25 : Kd.C k88 _ (some ad203) l0.length l0 := HR0.out
                   have hcut25 := cut_to (P := Try.prog) 48 88 .i64 Try.underlying48 hi025 (some ad203) l0.length c0 x11_1 (of_decide_eq_true (by first | (with_reducible assumption) | assumption)) q25 hroom25
                   have hr25 := Kd.C_take (m := (x11_1 : Int).toNat) hC25 (by omega)
                   have hy25 : y207.length = (x11_1 : Int).toNat := (by rw [Ny207.out, List.length_take]; omega)
                   rw [← Ny207.out] at hr25
                   rw [← hy25] at hcut25
                   have HR210 := Aside0.mk hr25
                   have HC210 := Aside0.mk (show y207.length ≤ c0 from by omega)
                   clear hr25 hC25 hroom25 hi025 hsz25
                   have KY25 := Aside0.mk hy25
                   clear hy25
                   replace q25 := eq_true q25
                   refine hK.out _ _ ⟨(blk_cell BK204.out 0).trans rfl, (blk_cell BK204.out 1).trans rfl⟩ (fun hHeld => ?_)
                   clear hK K
                   refine norm_ (a' := ?_) ?_ ?_
                   rotate_left
                   · show Act.put _ (some 23) _ = _
                     simp only [Act.put, List.setIfInBounds_toArray, List.set_cons_zero, List.set_cons_succ, i64_w, i32_w]
                     rfl
                   refine pure_ (i := 8) (N := some 24) (v := ?_) (a' := ?_) #[true, true, true, true, true, true, true, true, true, false, false, false, false, false, false, false, false] rfl rfl (any_of HT_.out (by kernel_rfl)) (fun _ _ _ h => h) (Or.inl ⟨by rfl, ?_⟩) ?_ ?_; rotate_left; (intro w'; go_simp; with_reducible rfl); rotate_left; (simp only [Act.put, List.setIfInBounds_toArray, List.set_cons_zero, List.set_cons_succ, i64_w, i32_w]; rfl)
                   refine pure_ (i := 9) (N := some 25) (v := ?_) (a' := ?_) #[true, true, true, true, true, true, true, true, true, true, false, false, false, false, false, false, false] rfl rfl (any_of HT_.out (by kernel_rfl)) (fun _ _ _ h => h) (Or.inl ⟨by rfl, ?_⟩) ?_ ?_; rotate_left 4
                   refine pure_ (i := 10) (N := some 26) (v := ?_) (a' := ?_) #[true, true, true, true, true, true, true, true, true, true, true, false, false, false, false, false, false] rfl rfl (any_of HT_.out (by kernel_rfl)) (fun _ _ _ h => h) (Or.inl ⟨by rfl, ?_⟩) ?_ ?_; rotate_left 4
                   rotate_left; iterate 2 (rotate_left; (intro w'; go_simp; with_reducible rfl); rotate_left; (simp only [Act.put, List.setIfInBounds_toArray, List.set_cons_zero, List.set_cons_succ, i64_w, i32_w]; rfl))
                   refine pure_ (i := 11) (N := some 27) (v := ?_) (a' := ?_) #[true, true, true, true, true, true, true, true, true, true, true, true, false, false, false, false, false] rfl rfl (any_of HT_.out (by kernel_rfl)) (fun _ _ _ h => h) (Or.inl ⟨by rfl, ?_⟩) ?_ ?_; rotate_left; (intro w'; go_simp; with_reducible rfl); rotate_left; (simp only [Act.put, List.setIfInBounds_toArray, List.set_cons_zero, List.set_cons_succ, i64_w, i32_w]; rfl)
                   refine pure_ (i := 12) (N := some 28) (v := ?_) (a' := ?_) #[true, true, true, true, true, true, true, true, true, true, true, true, true, false, false, false, false] rfl rfl (any_of HT_.out (by kernel_rfl)) (fun _ _ _ h => h) (Or.inl ⟨by rfl, ?_⟩) ?_ ?_; rotate_left; (intro w'; go_simp; with_reducible rfl); rotate_left; (simp only [Act.put, List.setIfInBounds_toArray, List.set_cons_zero, List.set_cons_succ, i64_w, i32_w]; rfl)
                   refine pure_ (i := 13) (N := some 29) (v := ?_) (a' := ?_) #[true, true, true, true, true, true, true, true, true, true, true, true, true, true, false, false, false] rfl rfl (any_of HT_.out (by kernel_rfl)) (fun _ _ _ h => h) (Or.inl ⟨by rfl, ?_⟩) ?_ ?_; rotate_left; (intro w'; go_simp; with_reducible rfl); rotate_left; (simp only [Act.put, List.setIfInBounds_toArray, List.set_cons_zero, List.set_cons_succ, i64_w, i32_w]; rfl)
                   refine take_ (i := 14) (N := some 30) (v := ?_) (a' := ?_) #[true, true, true, true, true, true, true, true, true, true, true, true, true, true, true, false, false] rfl rfl (take_ofW HT_.out HW_.out (by kernel_rfl)) (fun _ _ _ h => h) (Or.inl ⟨by rfl, ?_⟩) hHeld ?_ ?_
                   rotate_left
                   · rintro w' ⟨s0, s1⟩
                     go_simp
                     with_reducible rfl
                   rotate_left
                   · simp only [Act.put, List.setIfInBounds_toArray, List.set_cons_zero, List.set_cons_succ, i64_w, i32_w]
                     rfl
                   refine one_ (i := 15) (N := some 31) #[true, true, true, true, true, true, true, true, true, true, true, true, true, true, true, true, false] rfl rfl (one_of HT_.out (by kernel_rfl)) (by decide) (fun K hK => ?_)
                   refine goes_ Try.func84 (by kernel_rfl) rfl #[.slice (some ad203) y207.length c0, .agg #[.int .i64 ((rd_T88 l0 x11_1).f0), .int .i64 ((rd_T88 l0 x11_1).f1)]] (by rfl) rfl rfl (by (try simp only [List.map_toArray, List.map_cons, List.map_nil]); first | done | rfl | (simp only [List.length_drop, List.length_take]; rfl)) ?_
                   with_reducible refine (impl_Place_84.calls k1 _ _ y207 ((rd_T88 l0 x11_1).f0) ((rd_T88 l0 x11_1).f1) false _ ?side1 ?side2 A13.out).mono ?_
                   (case side1 => repeat (first | exact (Kd.C_below HR210.out (by repeat (first | (with_reducible first | exact HB.out | apply below_alloc | apply pw_below_drewN | apply below_drew1 | refine below_set ?_ GE204.out) | exact HB.out))) | (with_reducible refine Kd.C_alloc ?_ _) | (with_reducible refine Kd.C_drewN ?_ _) | (with_reducible refine Kd.C_drew ?_)))
                   (case side2 => exact HC210.out)
                   rintro e w26 ⟨rfl, hb⟩
                   refine ⟨_, rfl, ?_⟩
                   have n0_ := Aside0.mk (blk_below (g := gb204) (o := .cells #[.int .i64 ((rd_T88 l0 x11_1).f0), .int .i64 ((rd_T88 l0 x11_1).f1)] 88 (0, 0)) (by (with_reducible repeat (first | refine blk_drewN ?_ _ | refine blk_drew ?_ | refine blk_alloc ?_ _)); exact BK204.out) hb)
                   have n1_ := Aside0.mk (below_step (by repeat (first | (with_reducible first | exact HB.out | apply below_alloc | apply pw_below_drewN | apply below_drew1 | refine below_set ?_ GE204.out) | exact HB.out)) hb)
                   clear BK204
                   clear HB
                   have BK204 := n0_
                   have HB := n1_
                   clear n0_ n1_
                   (try clear hb)
                   (try clear hb2)
                   (try clear hk)
                   (try clear hi)
                   refine hK.out _ _ ⟨(blk_cell BK204.out 0).trans rfl, (blk_cell BK204.out 1).trans rfl⟩ (fun hHeld => ?_)
                   clear hK K
                   refine norm_ (a' := ?_) ?_ ?_
                   rotate_left
                   · show Act.put _ (some 31) _ = _
                     simp only [Act.put, List.setIfInBounds_toArray, List.set_cons_zero, List.set_cons_succ, i64_w, i32_w]
                     rfl
                   refine pure_ (i := 16) (N := some 32) (v := ?_) (a' := ?_) #[true, true, true, true, true, true, true, true, true, true, true, true, true, true, true, true, true] rfl rfl (any_of HT_.out (by kernel_rfl)) (fun _ _ _ h => h) (Or.inl ⟨by rfl, ?_⟩) ?_ ?_; rotate_left 4
                   rotate_left; iterate 1 (rotate_left; (intro w'; go_simp; with_reducible rfl); rotate_left; (simp only [Act.put, List.setIfInBounds_toArray, List.set_cons_zero, List.set_cons_succ, i64_w, i32_w]; rfl))
                   refine done_ (done_of HT_.out (by kernel_rfl)) ?_
                   try go_wp2
                   go_roundg k1
                   case measure => have := HK1.out; omega
                   case rel => exact ⟨(wrap64 (x11_1 + 1)), (by first | rfl | (simp; done) | (simp [*]; done)), H', ⟨by have := HK1.out; omega⟩, ⟨by repeat (first | (with_reducible first | exact HB.out | apply below_alloc | apply pw_below_drewN | apply below_drew1 | refine below_set ?_ GE204.out) | exact HB.out)⟩⟩
               · rw [if_neg c12] at H
                 exact absurd H (by simp)
             · replace c10 := Bool.eq_false_iff.mpr c10
               subst c10
               have H1 : (some false) = some r := by rw [if_neg (show ¬ (false = true) by decide)] at H; exact H
               clear H
               have H := H1
               clear H1
               obtain rfl := Option.some.inj H
               have p203 : 0 ≤ (x11_1 : Int) := of_decide_eq_true (by first | (with_reducible assumption) | assumption)
               have q203 : x11_1 < (l0.length : Int) := of_decide_eq_true (by first | (with_reducible assumption) | assumption)
               obtain ⟨ad203, e203, hx203_0, hx203_1⟩ := at_T88 HR0.out x11_1 p203 q203
               cases e203
               replace hx203_0 := (HB.out.cell (World.block_lt_of_cell? w _ hx203_0)).trans hx203_0
               replace hx203_1 := (HB.out.cell (World.block_lt_of_cell? w _ hx203_1)).trans hx203_1
               replace p203 := eq_true p203
               replace q203 := eq_true q203
               try go_wp2_with (first | ((with_reducible refine gate_dst (N := 4) rfl ?_); refine box_event ?hg (N := 4) ?hd (cs := #[.int .i64 0, .int .i64 0]) (t := 88) ?hr ?_; (case hd => rfl); (case hg => rfl); (case hr => first | (go_simp; done) | (go_simp; rfl)); intro gb204 hg w27 hbox hb; have n0_ := Aside0.mk (below_step (by repeat (first | (with_reducible first | exact HB.out | apply below_alloc | apply pw_below_drewN | apply below_drew1) | exact HB.out)) hb); have n1_ := Aside0.mk (hbox); have n2_ := Aside0.mk ((by rw [hg]; exact (below_size (by repeat (first | (with_reducible first | exact HB.out | apply below_alloc | apply pw_below_drewN | apply below_drew1) | exact HB.out))) : w.heap.size ≤ gb204)); have n3_ := Aside0.mk ((by rw [hg]; exact (below_size (by repeat (first | (with_reducible first | exact HB.out | apply below_alloc | apply pw_below_drewN | apply below_drew1) | exact HB.out))) : w.heap.size ≤ gb204)); clear HB; have HB := n0_; have BK204 := n1_; have GW204 := n2_; have GE204 := n3_; clear n0_ n1_ n2_ n3_; clear hb hbox hg; have hcz28_0 : w27.cell? ⟨gb204, 0, none⟩ = some (.int .i64 0) := (blk_cell BK204.out 0).trans rfl; have hcz28_1 : w27.cell? ⟨gb204, 1, none⟩ = some (.int .i64 0) := (blk_cell BK204.out 1).trans rfl; have hfz28_0 := blk_frozen BK204.out 0; have hfz28_1 := blk_frozen BK204.out 1))
               have n0_ : Aside0 (((w27.setCell ⟨gb204, 0, none⟩ (.int .i64 ((rd_T88 l0 x11_1).f0))).setCell ⟨gb204, 1, none⟩ (.int .i64 ((rd_T88 l0 x11_1).f1))).heap[gb204]? = some (.cells #[.int .i64 ((rd_T88 l0 x11_1).f0), .int .i64 ((rd_T88 l0 x11_1).f1)] 88 (0, 0))) := ⟨by (with_reducible repeat (first | refine blk_drewN ?_ _ | refine blk_drew ?_ | refine blk_alloc ?_ _)); refine blk_put (cs := #[.int .i64 ((rd_T88 l0 x11_1).f0), .int .i64 0]) ?_ 1 _ rfl; (with_reducible repeat (first | refine blk_drewN ?_ _ | refine blk_drew ?_ | refine blk_alloc ?_ _)); refine blk_put (cs := #[.int .i64 0, .int .i64 0]) ?_ 0 _ rfl; (with_reducible repeat (first | refine blk_drewN ?_ _ | refine blk_drew ?_ | refine blk_alloc ?_ _)); exact BK204.out⟩
               have n1_ : Aside0 (Below w.heap.size w ((w27.setCell ⟨gb204, 0, none⟩ (.int .i64 ((rd_T88 l0 x11_1).f0))).setCell ⟨gb204, 1, none⟩ (.int .i64 ((rd_T88 l0 x11_1).f1)))) := ⟨by repeat (first | (with_reducible first | exact HB.out | apply below_alloc | apply pw_below_drewN | apply below_drew1 | refine below_set ?_ GE204.out) | exact HB.out)⟩
               (try clear BK204)
               (try clear HB)
               generalize ((w27.setCell ⟨gb204, 0, none⟩ (.int .i64 ((rd_T88 l0 x11_1).f0))).setCell ⟨gb204, 1, none⟩ (.int .i64 ((rd_T88 l0 x11_1).f1))) = w29 at n0_ n1_ ⊢
               have BK204 := n0_
               have HB := n1_
               clear n0_ n1_
               have n0_ := Aside0.mk (blk_drew BK204.out)
               have n1_ := Aside0.mk (below_drew1 HB.out)
               clear BK204
               clear HB
               have BK204 := n0_
               have HB := n1_
               clear n0_ n1_
               refine start_ (n := 17) (S := fun w' => w'.cell? ⟨gb204, 0, none⟩ = some (.int .i64 ((rd_T88 l0 x11_1).f0)) ∧ w'.cell? ⟨gb204, 1, none⟩ = some (.int .i64 ((rd_T88 l0 x11_1).f1))) (ds := []) #[false, false, false, false, false, false, false, false, false, false, false, false, false, false, false, false, false] (by kernel_rfl) rfl rfl ⟨(blk_cell BK204.out 0).trans rfl, (blk_cell BK204.out 1).trans rfl⟩ (fun hHeld => ?_); refine with_tabW impl_ValidPlaces.tab6 impl_ValidPlaces.bits6 (fun HT_ HW_ => ?_)
               generalize w29.drew = w30 at BK204 HB hHeld ⊢
               refine pure_ (i := 0) (N := some 16) (v := ?_) (a' := ?_) #[true, false, false, false, false, false, false, false, false, false, false, false, false, false, false, false, false] rfl rfl (any_of HT_.out (by kernel_rfl)) (fun _ _ _ h => h) (Or.inl ⟨by rfl, ?_⟩) ?_ ?_; rotate_left 4
               rotate_left; iterate 1 (rotate_left; (intro w'; go_simp; with_reducible rfl); rotate_left; (simp only [Act.put, List.setIfInBounds_toArray, List.set_cons_zero, List.set_cons_succ, i64_w, i32_w]; rfl))
               refine take_ (i := 1) (N := some 17) (v := ?_) (a' := ?_) #[true, true, false, false, false, false, false, false, false, false, false, false, false, false, false, false, false] rfl rfl (take_ofW HT_.out HW_.out (by kernel_rfl)) (fun _ _ _ h => h) (Or.inl ⟨by rfl, ?_⟩) hHeld ?_ ?_
               rotate_left
               · rintro w' ⟨s0, s1⟩
                 go_simp
                 with_reducible rfl
               rotate_left
               · simp only [Act.put, List.setIfInBounds_toArray, List.set_cons_zero, List.set_cons_succ, i64_w, i32_w]
                 rfl
               refine one_ (i := 2) (N := some 18) #[true, true, true, false, false, false, false, false, false, false, false, false, false, false, false, false, false] rfl rfl (one_of HT_.out (by kernel_rfl)) (by decide) (fun K hK => ?_)
               refine goes_ Try.func83 (by kernel_rfl) rfl #[.int .i64 ((rd_T88 l0 x11_1).f0)] (by rfl) rfl rfl (by (try simp only [List.map_toArray, List.map_cons, List.map_nil]); first | done | rfl | (simp only [List.length_drop, List.length_take]; rfl)) ?_
               with_reducible refine (impl_isCoordinate.calls ((rd_T88 l0 x11_1).f0) true _ A7.out).mono ?_
               rintro e w' ⟨rfl, ⟨nd, rfl⟩⟩
               refine ⟨_, rfl, ?_⟩
               refine hK.out _ _ ⟨(blk_cell BK204.out 0).trans rfl, (blk_cell BK204.out 1).trans rfl⟩ (fun hHeld => ?_)
               clear hK K
               refine norm_ (a' := ?_) ?_ ?_
               rotate_left
               · show Act.put _ (some 18) _ = _
                 simp only [Act.put, List.setIfInBounds_toArray, List.set_cons_zero, List.set_cons_succ, i64_w, i32_w]
                 rfl
               refine pure_ (i := 3) (N := some 19) (v := ?_) (a' := ?_) #[true, true, true, true, false, false, false, false, false, false, false, false, false, false, false, false, false] rfl rfl (any_of HT_.out (by kernel_rfl)) (fun _ _ _ h => h) (Or.inl ⟨by rfl, ?_⟩) ?_ ?_; rotate_left 4
               refine pure_ (i := 4) (N := some 20) (v := ?_) (a' := ?_) #[true, true, true, true, true, false, false, false, false, false, false, false, false, false, false, false, false] rfl rfl (any_of HT_.out (by kernel_rfl)) (fun _ _ _ h => h) (Or.inl ⟨by rfl, ?_⟩) ?_ ?_; rotate_left 4
               rotate_left; iterate 2 (rotate_left; (intro w'; go_simp; with_reducible rfl); rotate_left; (simp only [Act.put, List.setIfInBounds_toArray, List.set_cons_zero, List.set_cons_succ, i64_w, i32_w]; rfl))
               refine pure_ (i := 5) (N := some 21) (v := ?_) (a' := ?_) #[true, true, true, true, true, true, false, false, false, false, false, false, false, false, false, false, false] rfl rfl (any_of HT_.out (by kernel_rfl)) (fun _ _ _ h => h) (Or.inl ⟨by rfl, ?_⟩) ?_ ?_; rotate_left; (intro w'; go_simp; with_reducible rfl); rotate_left; (simp only [Act.put, List.setIfInBounds_toArray, List.set_cons_zero, List.set_cons_succ, i64_w, i32_w]; rfl)
               refine take_ (i := 6) (N := some 22) (v := ?_) (a' := ?_) #[true, true, true, true, true, true, true, false, false, false, false, false, false, false, false, false, false] rfl rfl (take_ofW HT_.out HW_.out (by kernel_rfl)) (fun _ _ _ h => h) (Or.inl ⟨by rfl, ?_⟩) hHeld ?_ ?_
               rotate_left
               · rintro w' ⟨s0, s1⟩
                 go_simp
                 with_reducible rfl
               rotate_left
               · simp only [Act.put, List.setIfInBounds_toArray, List.set_cons_zero, List.set_cons_succ, i64_w, i32_w]
                 rfl
               refine one_ (i := 7) (N := some 23) #[true, true, true, true, true, true, true, true, false, false, false, false, false, false, false, false, false] rfl rfl (one_of HT_.out (by kernel_rfl)) (by decide) (fun K hK => ?_)
               refine goes_ Try.func83 (by kernel_rfl) rfl #[.int .i64 ((rd_T88 l0 x11_1).f1)] (by rfl) rfl rfl (by (try simp only [List.map_toArray, List.map_cons, List.map_nil]); first | done | rfl | (simp only [List.length_drop, List.length_take]; rfl)) ?_
               with_reducible refine (impl_isCoordinate.calls ((rd_T88 l0 x11_1).f1) false _ A9.out).mono ?_
               rintro e w' ⟨rfl, ⟨nd, rfl⟩⟩
               refine ⟨_, rfl, ?_⟩
               refine hK.out _ _ ⟨(blk_cell BK204.out 0).trans rfl, (blk_cell BK204.out 1).trans rfl⟩ (fun hHeld => ?_)
               clear hK K
               refine norm_ (a' := ?_) ?_ ?_
               rotate_left
               · show Act.put _ (some 23) _ = _
                 simp only [Act.put, List.setIfInBounds_toArray, List.set_cons_zero, List.set_cons_succ, i64_w, i32_w]
                 rfl
               refine pure_ (i := 8) (N := some 24) (v := ?_) (a' := ?_) #[true, true, true, true, true, true, true, true, true, false, false, false, false, false, false, false, false] rfl rfl (any_of HT_.out (by kernel_rfl)) (fun _ _ _ h => h) (Or.inl ⟨by rfl, ?_⟩) ?_ ?_; rotate_left; (intro w'; go_simp; with_reducible rfl); rotate_left; (simp only [Act.put, List.setIfInBounds_toArray, List.set_cons_zero, List.set_cons_succ, i64_w, i32_w]; rfl)
               refine pure_ (i := 9) (N := some 25) (v := ?_) (a' := ?_) #[true, true, true, true, true, true, true, true, true, true, false, false, false, false, false, false, false] rfl rfl (any_of HT_.out (by kernel_rfl)) (fun _ _ _ h => h) (Or.inl ⟨by rfl, ?_⟩) ?_ ?_; rotate_left 4
               refine pure_ (i := 10) (N := some 26) (v := ?_) (a' := ?_) #[true, true, true, true, true, true, true, true, true, true, true, false, false, false, false, false, false] rfl rfl (any_of HT_.out (by kernel_rfl)) (fun _ _ _ h => h) (Or.inl ⟨by rfl, ?_⟩) ?_ ?_; rotate_left 4
               rotate_left; iterate 2 (rotate_left; (intro w'; go_simp; with_reducible rfl); rotate_left; (simp only [Act.put, List.setIfInBounds_toArray, List.set_cons_zero, List.set_cons_succ, i64_w, i32_w]; rfl))
               refine pure_ (i := 11) (N := some 27) (v := undef) (a' := ?_) #[true, true, true, true, true, true, true, true, true, true, true, true, false, false, false, false, false] rfl rfl (any_of HT_.out (by kernel_rfl)) (fun _ _ _ h => h) (Or.inr ⟨by rfl, rfl⟩) ?_ ?_
               rotate_left
               · simp only [Act.put, List.setIfInBounds_toArray, List.set_cons_zero, List.set_cons_succ, i64_w, i32_w]
                 rfl
               refine pure_ (i := 12) (N := some 28) (v := undef) (a' := ?_) #[true, true, true, true, true, true, true, true, true, true, true, true, true, false, false, false, false] rfl rfl (any_of HT_.out (by kernel_rfl)) (fun _ _ _ h => h) (Or.inr ⟨by rfl, rfl⟩) ?_ ?_
               rotate_left
               · simp only [Act.put, List.setIfInBounds_toArray, List.set_cons_zero, List.set_cons_succ, i64_w, i32_w]
                 rfl
               refine pure_ (i := 13) (N := some 29) (v := undef) (a' := ?_) #[true, true, true, true, true, true, true, true, true, true, true, true, true, true, false, false, false] rfl rfl (any_of HT_.out (by kernel_rfl)) (fun _ _ _ h => h) (Or.inr ⟨by rfl, rfl⟩) ?_ ?_
               rotate_left
               · simp only [Act.put, List.setIfInBounds_toArray, List.set_cons_zero, List.set_cons_succ, i64_w, i32_w]
                 rfl
               refine pure_ (i := 14) (N := some 30) (v := undef) (a' := ?_) #[true, true, true, true, true, true, true, true, true, true, true, true, true, true, true, false, false] rfl rfl (any_of HT_.out (by kernel_rfl)) (fun _ _ _ h => h) (Or.inr ⟨by rfl, rfl⟩) ?_ ?_
               rotate_left
               · simp only [Act.put, List.setIfInBounds_toArray, List.set_cons_zero, List.set_cons_succ, i64_w, i32_w]
                 rfl
               refine pure_ (i := 15) (N := some 31) (v := undef) (a' := ?_) #[true, true, true, true, true, true, true, true, true, true, true, true, true, true, true, true, false] rfl rfl (any_of HT_.out (by kernel_rfl)) (fun _ _ _ h => h) (Or.inr ⟨by rfl, rfl⟩) ?_ ?_
               rotate_left
               · simp only [Act.put, List.setIfInBounds_toArray, List.set_cons_zero, List.set_cons_succ, i64_w, i32_w]
                 rfl
               refine pure_ (i := 16) (N := some 32) (v := ?_) (a' := ?_) #[true, true, true, true, true, true, true, true, true, true, true, true, true, true, true, true, true] rfl rfl (any_of HT_.out (by kernel_rfl)) (fun _ _ _ h => h) (Or.inl ⟨by rfl, ?_⟩) ?_ ?_; rotate_left 4
               rotate_left; iterate 1 (rotate_left; (intro w'; go_simp; with_reducible rfl); rotate_left; (simp only [Act.put, List.setIfInBounds_toArray, List.set_cons_zero, List.set_cons_succ, i64_w, i32_w]; rfl))
               refine done_ (done_of HT_.out (by kernel_rfl)) ?_
               try go_wp2
               go_ret
               exact ⟨by first | rfl | (simp [errW_none, errW_some] <;> rfl) | (simp [*, errW_none, errW_some] <;> rfl), by repeat (first | (with_reducible first | exact HB.out | apply below_alloc | apply pw_below_drewN | apply below_drew1 | refine below_set ?_ GE204.out) | exact HB.out)⟩
           · replace c8 := Bool.eq_false_iff.mpr c8
             subst c8
             have H1 : (some false) = some r := by rw [if_neg (show ¬ (false = true) by decide)] at H; exact H
             clear H
             have H := H1
             clear H1
             obtain rfl := Option.some.inj H
             have p203 : 0 ≤ (x11_1 : Int) := of_decide_eq_true (by first | (with_reducible assumption) | assumption)
             have q203 : x11_1 < (l0.length : Int) := of_decide_eq_true (by first | (with_reducible assumption) | assumption)
             obtain ⟨ad203, e203, hx203_0, hx203_1⟩ := at_T88 HR0.out x11_1 p203 q203
             cases e203
             replace hx203_0 := (HB.out.cell (World.block_lt_of_cell? w _ hx203_0)).trans hx203_0
             replace hx203_1 := (HB.out.cell (World.block_lt_of_cell? w _ hx203_1)).trans hx203_1
             replace p203 := eq_true p203
             replace q203 := eq_true q203
             try go_wp2_with (first | ((with_reducible refine gate_dst (N := 4) rfl ?_); refine box_event ?hg (N := 4) ?hd (cs := #[.int .i64 0, .int .i64 0]) (t := 88) ?hr ?_; (case hd => rfl); (case hg => rfl); (case hr => first | (go_simp; done) | (go_simp; rfl)); intro gb204 hg w31 hbox hb; have n0_ := Aside0.mk (below_step (by repeat (first | (with_reducible first | exact HB.out | apply below_alloc | apply pw_below_drewN | apply below_drew1) | exact HB.out)) hb); have n1_ := Aside0.mk (hbox); have n2_ := Aside0.mk ((by rw [hg]; exact (below_size (by repeat (first | (with_reducible first | exact HB.out | apply below_alloc | apply pw_below_drewN | apply below_drew1) | exact HB.out))) : w.heap.size ≤ gb204)); have n3_ := Aside0.mk ((by rw [hg]; exact (below_size (by repeat (first | (with_reducible first | exact HB.out | apply below_alloc | apply pw_below_drewN | apply below_drew1) | exact HB.out))) : w.heap.size ≤ gb204)); clear HB; have HB := n0_; have BK204 := n1_; have GW204 := n2_; have GE204 := n3_; clear n0_ n1_ n2_ n3_; clear hb hbox hg; have hcz32_0 : w31.cell? ⟨gb204, 0, none⟩ = some (.int .i64 0) := (blk_cell BK204.out 0).trans rfl; have hcz32_1 : w31.cell? ⟨gb204, 1, none⟩ = some (.int .i64 0) := (blk_cell BK204.out 1).trans rfl; have hfz32_0 := blk_frozen BK204.out 0; have hfz32_1 := blk_frozen BK204.out 1))
             have n0_ : Aside0 (((w31.setCell ⟨gb204, 0, none⟩ (.int .i64 ((rd_T88 l0 x11_1).f0))).setCell ⟨gb204, 1, none⟩ (.int .i64 ((rd_T88 l0 x11_1).f1))).heap[gb204]? = some (.cells #[.int .i64 ((rd_T88 l0 x11_1).f0), .int .i64 ((rd_T88 l0 x11_1).f1)] 88 (0, 0))) := ⟨by (with_reducible repeat (first | refine blk_drewN ?_ _ | refine blk_drew ?_ | refine blk_alloc ?_ _)); refine blk_put (cs := #[.int .i64 ((rd_T88 l0 x11_1).f0), .int .i64 0]) ?_ 1 _ rfl; (with_reducible repeat (first | refine blk_drewN ?_ _ | refine blk_drew ?_ | refine blk_alloc ?_ _)); refine blk_put (cs := #[.int .i64 0, .int .i64 0]) ?_ 0 _ rfl; (with_reducible repeat (first | refine blk_drewN ?_ _ | refine blk_drew ?_ | refine blk_alloc ?_ _)); exact BK204.out⟩
             have n1_ : Aside0 (Below w.heap.size w ((w31.setCell ⟨gb204, 0, none⟩ (.int .i64 ((rd_T88 l0 x11_1).f0))).setCell ⟨gb204, 1, none⟩ (.int .i64 ((rd_T88 l0 x11_1).f1)))) := ⟨by repeat (first | (with_reducible first | exact HB.out | apply below_alloc | apply pw_below_drewN | apply below_drew1 | refine below_set ?_ GE204.out) | exact HB.out)⟩
             (try clear BK204)
             (try clear HB)
             generalize ((w31.setCell ⟨gb204, 0, none⟩ (.int .i64 ((rd_T88 l0 x11_1).f0))).setCell ⟨gb204, 1, none⟩ (.int .i64 ((rd_T88 l0 x11_1).f1))) = w33 at n0_ n1_ ⊢
             have BK204 := n0_
             have HB := n1_
             clear n0_ n1_
             have n0_ := Aside0.mk (blk_drew BK204.out)
             have n1_ := Aside0.mk (below_drew1 HB.out)
             clear BK204
             clear HB
             have BK204 := n0_
             have HB := n1_
             clear n0_ n1_
             refine start_ (n := 17) (S := fun w' => w'.cell? ⟨gb204, 0, none⟩ = some (.int .i64 ((rd_T88 l0 x11_1).f0)) ∧ w'.cell? ⟨gb204, 1, none⟩ = some (.int .i64 ((rd_T88 l0 x11_1).f1))) (ds := []) #[false, false, false, false, false, false, false, false, false, false, false, false, false, false, false, false, false] (by kernel_rfl) rfl rfl ⟨(blk_cell BK204.out 0).trans rfl, (blk_cell BK204.out 1).trans rfl⟩ (fun hHeld => ?_); refine with_tabW impl_ValidPlaces.tab6 impl_ValidPlaces.bits6 (fun HT_ HW_ => ?_)
             generalize w33.drew = w34 at BK204 HB hHeld ⊢
             refine pure_ (i := 0) (N := some 16) (v := ?_) (a' := ?_) #[true, false, false, false, false, false, false, false, false, false, false, false, false, false, false, false, false] rfl rfl (any_of HT_.out (by kernel_rfl)) (fun _ _ _ h => h) (Or.inl ⟨by rfl, ?_⟩) ?_ ?_; rotate_left 4
             rotate_left; iterate 1 (rotate_left; (intro w'; go_simp; with_reducible rfl); rotate_left; (simp only [Act.put, List.setIfInBounds_toArray, List.set_cons_zero, List.set_cons_succ, i64_w, i32_w]; rfl))
             refine take_ (i := 1) (N := some 17) (v := ?_) (a' := ?_) #[true, true, false, false, false, false, false, false, false, false, false, false, false, false, false, false, false] rfl rfl (take_ofW HT_.out HW_.out (by kernel_rfl)) (fun _ _ _ h => h) (Or.inl ⟨by rfl, ?_⟩) hHeld ?_ ?_
             rotate_left
             · rintro w' ⟨s0, s1⟩
               go_simp
               with_reducible rfl
             rotate_left
             · simp only [Act.put, List.setIfInBounds_toArray, List.set_cons_zero, List.set_cons_succ, i64_w, i32_w]
               rfl
             refine one_ (i := 2) (N := some 18) #[true, true, true, false, false, false, false, false, false, false, false, false, false, false, false, false, false] rfl rfl (one_of HT_.out (by kernel_rfl)) (by decide) (fun K hK => ?_)
             refine goes_ Try.func83 (by kernel_rfl) rfl #[.int .i64 ((rd_T88 l0 x11_1).f0)] (by rfl) rfl rfl (by (try simp only [List.map_toArray, List.map_cons, List.map_nil]); first | done | rfl | (simp only [List.length_drop, List.length_take]; rfl)) ?_
             with_reducible refine (impl_isCoordinate.calls ((rd_T88 l0 x11_1).f0) false _ A7.out).mono ?_
             rintro e w' ⟨rfl, ⟨nd, rfl⟩⟩
             refine ⟨_, rfl, ?_⟩
             refine hK.out _ _ ⟨(blk_cell BK204.out 0).trans rfl, (blk_cell BK204.out 1).trans rfl⟩ (fun hHeld => ?_)
             clear hK K
             refine norm_ (a' := ?_) ?_ ?_
             rotate_left
             · show Act.put _ (some 18) _ = _
               simp only [Act.put, List.setIfInBounds_toArray, List.set_cons_zero, List.set_cons_succ, i64_w, i32_w]
               rfl
             refine pure_ (i := 3) (N := some 19) (v := ?_) (a' := ?_) #[true, true, true, true, false, false, false, false, false, false, false, false, false, false, false, false, false] rfl rfl (any_of HT_.out (by kernel_rfl)) (fun _ _ _ h => h) (Or.inl ⟨by rfl, ?_⟩) ?_ ?_; rotate_left 4
             refine pure_ (i := 4) (N := some 20) (v := ?_) (a' := ?_) #[true, true, true, true, true, false, false, false, false, false, false, false, false, false, false, false, false] rfl rfl (any_of HT_.out (by kernel_rfl)) (fun _ _ _ h => h) (Or.inl ⟨by rfl, ?_⟩) ?_ ?_; rotate_left 4
             rotate_left; iterate 2 (rotate_left; (intro w'; go_simp; with_reducible rfl); rotate_left; (simp only [Act.put, List.setIfInBounds_toArray, List.set_cons_zero, List.set_cons_succ, i64_w, i32_w]; rfl))
             refine pure_ (i := 5) (N := some 21) (v := undef) (a' := ?_) #[true, true, true, true, true, true, false, false, false, false, false, false, false, false, false, false, false] rfl rfl (any_of HT_.out (by kernel_rfl)) (fun _ _ _ h => h) (Or.inr ⟨by rfl, rfl⟩) ?_ ?_
             rotate_left
             · simp only [Act.put, List.setIfInBounds_toArray, List.set_cons_zero, List.set_cons_succ, i64_w, i32_w]
               rfl
             refine pure_ (i := 6) (N := some 22) (v := undef) (a' := ?_) #[true, true, true, true, true, true, true, false, false, false, false, false, false, false, false, false, false] rfl rfl (any_of HT_.out (by kernel_rfl)) (fun _ _ _ h => h) (Or.inr ⟨by rfl, rfl⟩) ?_ ?_
             rotate_left
             · simp only [Act.put, List.setIfInBounds_toArray, List.set_cons_zero, List.set_cons_succ, i64_w, i32_w]
               rfl
             refine pure_ (i := 7) (N := some 23) (v := undef) (a' := ?_) #[true, true, true, true, true, true, true, true, false, false, false, false, false, false, false, false, false] rfl rfl (any_of HT_.out (by kernel_rfl)) (fun _ _ _ h => h) (Or.inr ⟨by rfl, rfl⟩) ?_ ?_
             rotate_left
             · simp only [Act.put, List.setIfInBounds_toArray, List.set_cons_zero, List.set_cons_succ, i64_w, i32_w]
               rfl
             refine pure_ (i := 8) (N := some 24) (v := undef) (a' := ?_) #[true, true, true, true, true, true, true, true, true, false, false, false, false, false, false, false, false] rfl rfl (any_of HT_.out (by kernel_rfl)) (fun _ _ _ h => h) (Or.inr ⟨by rfl, rfl⟩) ?_ ?_
             rotate_left
             · simp only [Act.put, List.setIfInBounds_toArray, List.set_cons_zero, List.set_cons_succ, i64_w, i32_w]
               rfl
             refine pure_ (i := 9) (N := some 25) (v := ?_) (a' := ?_) #[true, true, true, true, true, true, true, true, true, true, false, false, false, false, false, false, false] rfl rfl (any_of HT_.out (by kernel_rfl)) (fun _ _ _ h => h) (Or.inl ⟨by rfl, ?_⟩) ?_ ?_; rotate_left 4
             refine pure_ (i := 10) (N := some 26) (v := ?_) (a' := ?_) #[true, true, true, true, true, true, true, true, true, true, true, false, false, false, false, false, false] rfl rfl (any_of HT_.out (by kernel_rfl)) (fun _ _ _ h => h) (Or.inl ⟨by rfl, ?_⟩) ?_ ?_; rotate_left 4
             rotate_left; iterate 2 (rotate_left; (intro w'; go_simp; with_reducible rfl); rotate_left; (simp only [Act.put, List.setIfInBounds_toArray, List.set_cons_zero, List.set_cons_succ, i64_w, i32_w]; rfl))
             refine pure_ (i := 11) (N := some 27) (v := undef) (a' := ?_) #[true, true, true, true, true, true, true, true, true, true, true, true, false, false, false, false, false] rfl rfl (any_of HT_.out (by kernel_rfl)) (fun _ _ _ h => h) (Or.inr ⟨by rfl, rfl⟩) ?_ ?_
             rotate_left
             · simp only [Act.put, List.setIfInBounds_toArray, List.set_cons_zero, List.set_cons_succ, i64_w, i32_w]
               rfl
             refine pure_ (i := 12) (N := some 28) (v := undef) (a' := ?_) #[true, true, true, true, true, true, true, true, true, true, true, true, true, false, false, false, false] rfl rfl (any_of HT_.out (by kernel_rfl)) (fun _ _ _ h => h) (Or.inr ⟨by rfl, rfl⟩) ?_ ?_
             rotate_left
             · simp only [Act.put, List.setIfInBounds_toArray, List.set_cons_zero, List.set_cons_succ, i64_w, i32_w]
               rfl
             refine pure_ (i := 13) (N := some 29) (v := undef) (a' := ?_) #[true, true, true, true, true, true, true, true, true, true, true, true, true, true, false, false, false] rfl rfl (any_of HT_.out (by kernel_rfl)) (fun _ _ _ h => h) (Or.inr ⟨by rfl, rfl⟩) ?_ ?_
             rotate_left
             · simp only [Act.put, List.setIfInBounds_toArray, List.set_cons_zero, List.set_cons_succ, i64_w, i32_w]
               rfl
             refine pure_ (i := 14) (N := some 30) (v := undef) (a' := ?_) #[true, true, true, true, true, true, true, true, true, true, true, true, true, true, true, false, false] rfl rfl (any_of HT_.out (by kernel_rfl)) (fun _ _ _ h => h) (Or.inr ⟨by rfl, rfl⟩) ?_ ?_
             rotate_left
             · simp only [Act.put, List.setIfInBounds_toArray, List.set_cons_zero, List.set_cons_succ, i64_w, i32_w]
               rfl
             refine pure_ (i := 15) (N := some 31) (v := undef) (a' := ?_) #[true, true, true, true, true, true, true, true, true, true, true, true, true, true, true, true, false] rfl rfl (any_of HT_.out (by kernel_rfl)) (fun _ _ _ h => h) (Or.inr ⟨by rfl, rfl⟩) ?_ ?_
             rotate_left
             · simp only [Act.put, List.setIfInBounds_toArray, List.set_cons_zero, List.set_cons_succ, i64_w, i32_w]
               rfl
             refine pure_ (i := 16) (N := some 32) (v := ?_) (a' := ?_) #[true, true, true, true, true, true, true, true, true, true, true, true, true, true, true, true, true] rfl rfl (any_of HT_.out (by kernel_rfl)) (fun _ _ _ h => h) (Or.inl ⟨by rfl, ?_⟩) ?_ ?_; rotate_left 4
             rotate_left; iterate 1 (rotate_left; (intro w'; go_simp; with_reducible rfl); rotate_left; (simp only [Act.put, List.setIfInBounds_toArray, List.set_cons_zero, List.set_cons_succ, i64_w, i32_w]; rfl))
             refine done_ (done_of HT_.out (by kernel_rfl)) ?_
             try go_wp2
             go_ret
             exact ⟨by first | rfl | (simp [errW_none, errW_some] <;> rfl) | (simp [*, errW_none, errW_some] <;> rfl), by repeat (first | (with_reducible first | exact HB.out | apply below_alloc | apply pw_below_drewN | apply below_drew1 | refine below_set ?_ GE204.out) | exact HB.out)⟩
         · rw [if_neg c6] at H
           exact absurd H (by simp)
       · rw [if_neg c5] at H
         exact absurd H (by simp)
     · rw [if_neg c4] at H
       have c4b0 : decide (x11_1 < (l0.length : Int)) = false := decide_eq_false c4
       clear c4
       obtain rfl := Option.some.inj H
       go_wp2
       go_ret
       exact ⟨by first | rfl | (simp [errW_none, errW_some] <;> rfl) | (simp [*, errW_none, errW_some] <;> rfl), by repeat (first | (with_reducible first | exact HB.out | apply below_alloc | apply pw_below_drewN | apply below_drew1) | exact HB.out)⟩
 · replace c3 := Bool.eq_false_iff.mpr c3
   subst c3
   have H1 : (some false) = some r := by rw [if_neg (show ¬ (false = true) by decide)] at H; exact H
   clear H
   have H := H1
   clear H1
   obtain rfl := Option.some.inj H
   go_enter Try.func60, Try.ntmps60
   go_wp2_with (first | ((with_reducible refine gate_callee (f := 82) rfl ?_); refine goesL_ (some 7) rfl rfl Try.func82 (by kernel_rfl) rfl #[.int .i64 (l0.length : Int)] rfl (by (try simp only [List.map_toArray, List.map_cons, List.map_nil]); first | done | rfl | (simp only [List.length_drop, List.length_take]; rfl)) ?_; (with_reducible refine (impl_isCount.calls (l0.length : Int) false _ A2.out).mono ?_); rintro e w' ⟨rfl, ⟨nd, rfl⟩⟩; refine ⟨_, rfl, ?_⟩))
   go_ret
   exact ⟨by first | rfl | (simp [errW_none, errW_some] <;> rfl) | (simp [*, errW_none, errW_some] <;> rfl), by repeat (first | (with_reducible first | exact HB.out | apply below_alloc | apply pw_below_drewN | apply below_drew1) | exact HB.out)⟩

/-! ### impl_isIndex: function 61 -/
def impl_isIndex.f (a0 : Int) : Option (Bool) := (impl_within.f a0 0 1000000).bind fun t212 => (some t212)
set_option maxHeartbeats 8000000 in
set_option maxRecDepth 100000 in
theorem impl_isIndex.calls (a0 : Int) (r : Bool) (w : World) (h : impl_isIndex.f a0 = some r) :
 Calls Try.prog 61 #[.int .i64 a0] w fun e w' => e = .returned (.bool r) ∧ Drawn0 w w' := by
 have H : ((impl_within.f a0 0 1000000).bind fun t212 => (some t212)) = some r := h
 clear h
 replace H := Option.bind_eq_some_iff.mp H
 obtain ⟨t212, A20, H⟩ := H
 replace H : (some t212) = some r := H
 have A2 := Aside0.mk A20
 clear A20
 obtain rfl := Option.some.inj H
 go_enter Try.func61, Try.ntmps61
 go_wp2_with (first | ((with_reducible refine gate_callee (f := 39) rfl ?_); refine goesL_ (some 4) rfl rfl Try.func39 (by kernel_rfl) rfl #[.int .i64 a0, .int .i64 0, .int .i64 1000000] rfl (by (try simp only [List.map_toArray, List.map_cons, List.map_nil]); first | done | rfl | (simp only [List.length_drop, List.length_take]; rfl)) ?_; (with_reducible refine (impl_within.calls a0 0 1000000 t212 _ A2.out).mono ?_); rintro e w' ⟨rfl, ⟨nd, rfl⟩⟩; refine ⟨_, rfl, ?_⟩))
 go_ret
 exact ⟨by first | rfl | (simp; done) | (simp [*]; done), by repeat (first | exact Drawn0.refl _ | apply Drawn0.step)⟩

/-! ### impl_ScaleComplex: function 85 -/
def impl_ScaleComplex.f (a0 : C64) (a1 : Nat) : Option C64 := some (scaleC a0 a1)
set_option maxHeartbeats 8000000 in
set_option maxRecDepth 100000 in
theorem impl_ScaleComplex.calls (a0 : C64) (a1 : Nat) (r : C64) (w : World) (h : impl_ScaleComplex.f a0 a1 = some r) :
 Calls Try.prog 85 #[.complex .f32 a0.re a0.im, .float .f32 a1] w fun e w' => ∃ q : C64, SameC q r ∧ e = .returned (.complex .f32 q.re q.im) ∧ Below w.heap.size w w' := by
 obtain rfl := Option.some.inj h
 have hm := fun t x y W => run_any (P := Try.prog) (op := .mul) (.inr (.inr (.inl rfl))) t .f32 x y W
 have HB := Below.refl w.heap.size w
 go_enter Try.func85, Try.ntmps85
 go_wp2
 go_ret
 exact ⟨⟨_, _⟩, ⟨same_rv (.refl _) (.refl _) _, same_rv (.refl _) (.refl _) _⟩, rfl, by repeat (first | exact HB | apply pw_below_drewN | apply below_drew1)⟩

/-! ### impl_nextSeed: function 129 -/
def impl_nextSeed.f (a0 : Int) : Option (Int) := some (Int.tmod (wrap64 ((wrap64 (1103515245 * a0)) + 12345)) 2147483648)
set_option maxHeartbeats 8000000 in
set_option maxRecDepth 100000 in
theorem impl_nextSeed.calls (a0 : Int) (r : Int) (w : World) (h : impl_nextSeed.f a0 = some r) :
 Calls Try.prog 129 #[.int .i64 a0] w fun e w' => e = .returned (.int .i64 r) ∧ Drawn0 w w' := by
 have H : (some (Int.tmod (wrap64 ((wrap64 (1103515245 * a0)) + 12345)) 2147483648)) = some r := h
 clear h
 obtain rfl := Option.some.inj H
 go_enter Try.func129, Try.ntmps129
 go_wp2
 go_ret
 exact ⟨by first | rfl | (simp; done) | (simp [*]; done), by repeat (first | exact Drawn0.refl _ | apply Drawn0.step)⟩

/-! ### impl_draw: function 112 -/
def impl_draw.f (a0 : Int) (a1 : Int) : Option (Int) := (impl_nextSeed.f (Int.tmod (wrap64 (a0 + (wrap64 (40503 * a1)))) 2147483648)).bind fun t213 => ((impl_nextSeed.f t213).bind fun t214 => (some (wrap64 (Int.tdiv t214 65536))))
set_option maxHeartbeats 8000000 in
set_option maxRecDepth 100000 in
theorem impl_draw.calls (a0 : Int) (a1 : Int) (r : Int) (w : World) (h : impl_draw.f a0 a1 = some r) :
 Calls Try.prog 112 #[.int .i64 a0, .int .i64 a1] w fun e w' => e = .returned (.int .i64 r) ∧ Drawn0 w w' := by
 have H : ((impl_nextSeed.f (Int.tmod (wrap64 (a0 + (wrap64 (40503 * a1)))) 2147483648)).bind fun t213 => ((impl_nextSeed.f t213).bind fun t214 => (some (wrap64 (Int.tdiv t214 65536))))) = some r := h
 clear h
 replace H := Option.bind_eq_some_iff.mp H
 obtain ⟨t213, A30, H⟩ := H
 replace H : ((impl_nextSeed.f t213).bind fun t214 => (some (wrap64 (Int.tdiv t214 65536)))) = some r := H
 have A3 := Aside0.mk A30
 clear A30
 replace H := Option.bind_eq_some_iff.mp H
 obtain ⟨t214, A40, H⟩ := H
 replace H : (some (wrap64 (Int.tdiv t214 65536))) = some r := H
 have A4 := Aside0.mk A40
 clear A40
 obtain rfl := Option.some.inj H
 go_enter Try.func112, Try.ntmps112
 go_wp2_with (first | ((with_reducible refine gate_callee (f := 129) rfl ?_); refine goesL_ (some 10) rfl rfl Try.func129 (by kernel_rfl) rfl #[.int .i64 (Int.tmod (wrap64 (a0 + (wrap64 (40503 * a1)))) 2147483648)] rfl (by (try simp only [List.map_toArray, List.map_cons, List.map_nil]); first | done | rfl | (simp only [List.length_drop, List.length_take]; rfl)) ?_; (with_reducible refine (impl_nextSeed.calls (Int.tmod (wrap64 (a0 + (wrap64 (40503 * a1)))) 2147483648) t213 _ A3.out).mono ?_); rintro e w' ⟨rfl, ⟨nd, rfl⟩⟩; refine ⟨_, rfl, ?_⟩) | ((with_reducible refine gate_callee (f := 129) rfl ?_); refine goesL_ (some 11) rfl rfl Try.func129 (by kernel_rfl) rfl #[.int .i64 t213] rfl (by (try simp only [List.map_toArray, List.map_cons, List.map_nil]); first | done | rfl | (simp only [List.length_drop, List.length_take]; rfl)) ?_; (with_reducible refine (impl_nextSeed.calls t213 t214 _ A4.out).mono ?_); rintro e w' ⟨rfl, ⟨nd, rfl⟩⟩; refine ⟨_, rfl, ?_⟩))
 go_ret
 exact ⟨by first | rfl | (simp; done) | (simp [*]; done), by repeat (first | exact Drawn0.refl _ | apply Drawn0.step)⟩

/-! ### impl_half: function 113 -/
def impl_half.f (a0 : Int) : Option (Nat) := if (Int.tmod a0 2) = 1 then (some 3204448256) else (some 1056964608)
set_option maxHeartbeats 8000000 in
set_option maxRecDepth 100000 in
theorem impl_half.calls (a0 : Int) (r : Nat) (w : World) (h : impl_half.f a0 = some r) :
 Calls Try.prog 113 #[.int .i64 a0] w fun e w' => e = .returned (.float .f32 r) ∧ Drawn0 w w' := by
 have H : (if (Int.tmod a0 2) = 1 then (some 3204448256) else (some 1056964608)) = some r := h
 clear h
 by_cases c2 : (Int.tmod a0 2) = 1
 · rw [if_pos c2] at H
   have c2b0 : ((Int.tmod a0 2) == 1) = true := beq_iff_eq.mpr c2
   have c2b1 : ((Int.tmod a0 2) != 1) = false := bne_eq_false_iff_eq.mpr c2
   clear c2
   obtain rfl := Option.some.inj H
   go_enter Try.func113, Try.ntmps113
   go_wp2
   go_ret
   exact ⟨by first | rfl | (simp; done) | (simp [*]; done), by repeat (first | exact Drawn0.refl _ | apply Drawn0.step)⟩
 · rw [if_neg c2] at H
   have c2b0 : ((Int.tmod a0 2) == 1) = false := beq_eq_false_iff_ne.mpr c2
   have c2b1 : ((Int.tmod a0 2) != 1) = true := bne_iff_ne.mpr c2
   obtain rfl := Option.some.inj H
   go_enter Try.func113, Try.ntmps113
   go_wp2
   go_ret
   exact ⟨by first | rfl | (simp; done) | (simp [*]; done), by repeat (first | exact Drawn0.refl _ | apply Drawn0.step)⟩

end Go.Proofs.Ytncckihaacceaaa.S
