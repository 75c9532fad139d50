/-
  Contracts of the program's functions, each a plain Lean function beside the machine's call: written by this session's program over the kit's print.
-/
import Derived.Test.YtekcngoemeadlaaBx0
import Derived.Test.YtekcngoemeadlaaBx4
namespace Go.Proofs.Ytekcngoemeadlaa.B
open Go.RowKit Go.Proofs.YtekcngoemeadlaaW.PrintWords Go.Proofs.YtekcngoemeadlaaW.PrintLast Go.Proofs.YtekcngoemeadlaaW.PrintMore
attribute [local go_sem] max2_int min2_int max_two min_two max_three min_three max_four min_four   -- for this text's walks alone
set_option linter.unusedVariables false
set_option linter.unusedSimpArgs false

/-! ### impl_switchTicks: function 56 -/
def impl_switchTicks.f (a0_0 : Int) (a0_1 : Int) (a1_0 : Int) (a1_1 : Int) : Option (Int) := (impl_far.f (wrap64 (a0_0 - a1_0))).bind fun t194 => ((impl_far.f (wrap64 (a0_1 - a1_1))).bind fun t195 => (some (wrap64 (Int.tdiv (wrap64 ((mx t194 t195) + 15)) 16))))
def impl_switchTicks.T1 : Bool × List (List Nat × List Nat) := (true, [([], []), ([0], [0]), ([], []), ([2], [2]), ([1, 3], [1, 3]), ([4], [4]), ([], []), ([6], [6]), ([], []), ([8], [8]), ([7, 9], [7, 9]), ([10, 5], [10]), ([5, 11], [5, 11]), ([12], [12]), ([13], [13]), ([14, 11, 0, 1, 2, 3, 4, 5, 6, 7, 8, 9, 10, 11, 12, 13, 14], [14])])
def impl_switchTicks.B1 : List Nat := [0, 1, 0, 4, 15, 31, 0, 64, 0, 256, 960, 2047, 4095, 8191, 16383, 32767]
theorem impl_switchTicks.tab1 : rtab .any (opsOf Try.f56 1) = impl_switchTicks.T1 := by kernel_rfl
theorem impl_switchTicks.bits1 : waitsOk impl_switchTicks.T1.2 impl_switchTicks.B1 = true := by kernel_rfl
set_option maxHeartbeats 8000000 in
set_option maxRecDepth 100000 in
theorem impl_switchTicks.calls (a0_0 : Int) (a0_1 : Int) (a1_0 : Int) (a1_1 : Int) (r : Int) (w : World) (h : impl_switchTicks.f a0_0 a0_1 a1_0 a1_1 = some r) :
    Calls Try.prog 56 #[.agg #[.int .i64 a0_0, .int .i64 a0_1], .agg #[.int .i64 a1_0, .int .i64 a1_1]] w fun e w' => e = .returned (.int .i64 r) ∧ Below w.heap.size w w' := by
  have hu26 := Try.underlying26
  have HB := Aside0.mk (Below.refl w.heap.size w)
  have H : ((impl_far.f (wrap64 (a0_0 - a1_0))).bind fun t194 => ((impl_far.f (wrap64 (a0_1 - a1_1))).bind fun t195 => (some (wrap64 (Int.tdiv (wrap64 ((mx t194 t195) + 15)) 16))))) = some r := h
  clear h
  replace H := Option.bind_eq_some_iff.mp H
  obtain ⟨t194, A30, H⟩ := H
  replace H : ((impl_far.f (wrap64 (a0_1 - a1_1))).bind fun t195 => (some (wrap64 (Int.tdiv (wrap64 ((mx t194 t195) + 15)) 16)))) = some r := H
  have A3 := Aside0.mk A30
  clear A30
  replace H := Option.bind_eq_some_iff.mp H
  obtain ⟨t195, A40, H⟩ := H
  replace H : (some (wrap64 (Int.tdiv (wrap64 ((mx t194 t195) + 15)) 16))) = some r := H
  have A4 := Aside0.mk A40
  clear A40
  obtain ⟨ji5, hji5⟩ : ∃ j_ : Int, (mx t194 t195) = j_ := ⟨_, rfl⟩
  replace H : (some (wrap64 (Int.tdiv (wrap64 ((ji5) + 15)) 16))) = some r := by first | (rw [hji5] at H; exact H) | (simp only [hji5] at H ⊢; exact H)
  (try rw [hji5] at A3)
  (try rw [hji5] at A4)
  have hji5_ : (if t194 < t195 then t195 else t194) = ji5 := hji5
  obtain rfl := Option.some.inj H
  go_enter Try.func56, Try.ntmps56
  try go_wp2_with (first | ((with_reducible refine gate_dst (N := 2) rfl ?_); refine box_event ?hg (N := 2) ?hd (cs := #[.int .i64 a0_0, .int .i64 a0_1]) (t := 26) ?hr ?_; (case hd => rfl); (case hg => rfl); (case hr => first | (go_simp; done) | (go_simp; rfl)); intro gb192 hg w6 hbox hb; have n0_ := Aside0.mk (below_step (by repeat (first | (with_reducible first | exact HB.out | apply below_alloc | apply pw_below_drewN | apply below_drew1) | exact HB.out)) hb); have n1_ := Aside0.mk (hbox); have n2_ := Aside0.mk ((by rw [hg]; exact (below_size (by repeat (first | (with_reducible first | exact HB.out | apply below_alloc | apply pw_below_drewN | apply below_drew1) | exact HB.out))) : w.heap.size ≤ gb192)); have n3_ := Aside0.mk ((by rw [hg]; exact (below_size (by repeat (first | (with_reducible first | exact HB.out | apply below_alloc | apply pw_below_drewN | apply below_drew1) | exact HB.out))) : w.heap.size ≤ gb192)); clear HB; have HB := n0_; have BK192 := n1_; have GW192 := n2_; have GE192 := n3_; clear n0_ n1_ n2_ n3_; clear hb hbox hg) | ((with_reducible refine gate_dst (N := 3) rfl ?_); refine box_event ?hg (N := 3) ?hd (cs := #[.int .i64 a1_0, .int .i64 a1_1]) (t := 26) ?hr ?_; (case hd => rfl); (case hg => rfl); (case hr => first | (go_simp; done) | (go_simp; rfl)); intro gb193 hg w7 hbox hb; have n0_ := Aside0.mk (blk_below (g := gb192) (o := .cells #[.int .i64 a0_0, .int .i64 a0_1] 26 (0, 0)) (by (with_reducible repeat (first | refine blk_drewN ?_ _ | refine blk_drew ?_ | refine blk_alloc ?_ _)); exact BK192.out) hb); have n1_ := Aside0.mk (below_step (by repeat (first | (with_reducible first | exact HB.out | apply below_alloc | apply pw_below_drewN | apply below_drew1 | refine below_set ?_ GE192.out) | exact HB.out)) hb); have n2_ := Aside0.mk (hbox); have n3_ := Aside0.mk ((by rw [hg]; exact (below_size (by repeat (first | (with_reducible first | exact HB.out | apply below_alloc | apply pw_below_drewN | apply below_drew1 | refine below_set ?_ GE192.out) | exact HB.out))) : w.heap.size ≤ gb193)); have n4_ := Aside0.mk ((by rw [hg]; exact (below_size (by repeat (first | (with_reducible first | exact HB.out | apply below_alloc | apply pw_below_drewN | apply below_drew1 | refine below_set ?_ GE192.out) | exact HB.out))) : w.heap.size ≤ gb193)); have n5_ := Aside0.mk ((by rw [hg]; exact Nat.ne_of_lt (blk_lt (g := gb192) (o := .cells #[.int .i64 a0_0, .int .i64 a0_1] 26 (0, 0)) (by (with_reducible repeat (first | refine blk_drewN ?_ _ | refine blk_drew ?_ | refine blk_alloc ?_ _)); exact BK192.out)) : gb192 ≠ gb193)); have n6_ := Aside0.mk ((by rw [hg]; exact Nat.ne_of_gt (blk_lt (g := gb192) (o := .cells #[.int .i64 a0_0, .int .i64 a0_1] 26 (0, 0)) (by (with_reducible repeat (first | refine blk_drewN ?_ _ | refine blk_drew ?_ | refine blk_alloc ?_ _)); exact BK192.out)) : gb193 ≠ gb192)); clear BK192; clear HB; have BK192 := n0_; have HB := n1_; have BK193 := n2_; have GW193 := n3_; have GE193 := n4_; have NB192_193 := n5_; have NB193_192 := n6_; clear n0_ n1_ n2_ n3_ n4_ n5_ n6_; clear hb hbox hg))
  have n0_ := Aside0.mk (blk_drew BK192.out)
  have n1_ := Aside0.mk (blk_drew BK193.out)
  have n2_ := Aside0.mk (below_drew1 HB.out)
  clear BK192
  clear BK193
  clear HB
  have BK192 := n0_
  have BK193 := n1_
  have HB := n2_
  clear n0_ n1_ n2_
  refine start_ (n := 16) (S := fun w' => w'.cell? ⟨gb192, 0, none⟩ = some (.int .i64 a0_0) ∧ w'.cell? ⟨gb192, 1, none⟩ = some (.int .i64 a0_1) ∧ w'.cell? ⟨gb193, 0, none⟩ = some (.int .i64 a1_0) ∧ w'.cell? ⟨gb193, 1, none⟩ = some (.int .i64 a1_1)) (ds := []) #[false, false, false, false, false, false, false, false, false, false, false, false, false, false, false, false] (by kernel_rfl) rfl rfl ⟨(blk_cell BK192.out 0).trans rfl, (blk_cell BK192.out 1).trans rfl, (blk_cell BK193.out 0).trans rfl, (blk_cell BK193.out 1).trans rfl⟩ (fun hHeld => ?_); refine with_tabW impl_switchTicks.tab1 impl_switchTicks.bits1 (fun HT_ HW_ => ?_)
  generalize w7.drew = w8 at BK192 BK193 HB hHeld ⊢
  refine pure_ (i := 0) (N := some 5) (v := ?_) (a' := ?_) #[true, false, false, false, false, false, false, false, false, false, false, false, false, false, false, false] rfl rfl (any_of HT_.out (by kernel_rfl)) (fun _ _ _ h => h) (Or.inl ⟨by rfl, ?_⟩) ?_ ?_
  rotate_left
  · intro w'
    go_simp
    with_reducible rfl
  rotate_left
  · simp only [Act.put, List.setIfInBounds_toArray, List.set_cons_zero, List.set_cons_succ, i64_w, i32_w]
    rfl
  refine pure_ (i := 2) (N := some 7) (v := ?_) (a' := ?_) #[true, false, true, false, false, false, false, false, false, false, false, false, false, false, false, false] rfl rfl (any_of HT_.out (by kernel_rfl)) (fun _ _ _ h => h) (Or.inl ⟨by rfl, ?_⟩) ?_ ?_
  rotate_left
  · intro w'
    go_simp
    with_reducible rfl
  rotate_left
  · simp only [Act.put, List.setIfInBounds_toArray, List.set_cons_zero, List.set_cons_succ, i64_w, i32_w]
    rfl
  refine pure_ (i := 6) (N := some 11) (v := ?_) (a' := ?_) #[true, false, true, false, false, false, true, false, false, false, false, false, false, false, false, false] rfl rfl (any_of HT_.out (by kernel_rfl)) (fun _ _ _ h => h) (Or.inl ⟨by rfl, ?_⟩) ?_ ?_
  rotate_left
  · intro w'
    go_simp
    with_reducible rfl
  rotate_left
  · simp only [Act.put, List.setIfInBounds_toArray, List.set_cons_zero, List.set_cons_succ, i64_w, i32_w]
    rfl
  refine pure_ (i := 8) (N := some 13) (v := ?_) (a' := ?_) #[true, false, true, false, false, false, true, false, true, false, false, false, false, false, false, false] rfl rfl (any_of HT_.out (by kernel_rfl)) (fun _ _ _ h => h) (Or.inl ⟨by rfl, ?_⟩) ?_ ?_
  rotate_left
  · intro w'
    go_simp
    with_reducible rfl
  rotate_left
  · simp only [Act.put, List.setIfInBounds_toArray, List.set_cons_zero, List.set_cons_succ, i64_w, i32_w]
    rfl
  refine take_ (i := 1) (N := some 6) (v := ?_) (a' := ?_) #[true, true, true, false, false, false, true, false, true, false, false, false, false, false, false, false] rfl rfl (take_ofW HT_.out HW_.out (by kernel_rfl)) (fun _ _ _ h => h) (Or.inl ⟨by rfl, ?_⟩) hHeld ?_ ?_
  rotate_left
  · rintro w' ⟨s0, s1, s2, s3⟩
    go_simp
    with_reducible rfl
  rotate_left
  · simp only [Act.put, List.setIfInBounds_toArray, List.set_cons_zero, List.set_cons_succ, i64_w, i32_w]
    rfl
  refine take_ (i := 3) (N := some 8) (v := ?_) (a' := ?_) #[true, true, true, true, false, false, true, false, true, false, false, false, false, false, false, false] rfl rfl (take_ofW HT_.out HW_.out (by kernel_rfl)) (fun _ _ _ h => h) (Or.inl ⟨by rfl, ?_⟩) hHeld ?_ ?_
  rotate_left
  · rintro w' ⟨s0, s1, s2, s3⟩
    go_simp
    with_reducible rfl
  rotate_left
  · simp only [Act.put, List.setIfInBounds_toArray, List.set_cons_zero, List.set_cons_succ, i64_w, i32_w]
    rfl
  refine pure_ (i := 4) (N := some 9) (v := ?_) (a' := ?_) #[true, true, true, true, true, false, true, false, true, false, false, false, false, false, false, false] rfl rfl (any_of HT_.out (by kernel_rfl)) (fun _ _ _ h => h) (Or.inl ⟨by rfl, ?_⟩) ?_ ?_
  rotate_left
  · intro w'
    go_simp
    with_reducible rfl
  rotate_left
  · simp only [Act.put, List.setIfInBounds_toArray, List.set_cons_zero, List.set_cons_succ, i64_w, i32_w]
    rfl
  refine take_ (i := 7) (N := some 12) (v := ?_) (a' := ?_) #[true, true, true, true, true, false, true, true, true, false, false, false, false, false, false, false] rfl rfl (take_ofW HT_.out HW_.out (by kernel_rfl)) (fun _ _ _ h => h) (Or.inl ⟨by rfl, ?_⟩) hHeld ?_ ?_
  rotate_left
  · rintro w' ⟨s0, s1, s2, s3⟩
    go_simp
    with_reducible rfl
  rotate_left
  · simp only [Act.put, List.setIfInBounds_toArray, List.set_cons_zero, List.set_cons_succ, i64_w, i32_w]
    rfl
  refine take_ (i := 9) (N := some 14) (v := ?_) (a' := ?_) #[true, true, true, true, true, false, true, true, true, true, false, false, false, false, false, false] rfl rfl (take_ofW HT_.out HW_.out (by kernel_rfl)) (fun _ _ _ h => h) (Or.inl ⟨by rfl, ?_⟩) hHeld ?_ ?_
  rotate_left
  · rintro w' ⟨s0, s1, s2, s3⟩
    go_simp
    with_reducible rfl
  rotate_left
  · simp only [Act.put, List.setIfInBounds_toArray, List.set_cons_zero, List.set_cons_succ, i64_w, i32_w]
    rfl
  refine pure_ (i := 10) (N := some 15) (v := ?_) (a' := ?_) #[true, true, true, true, true, false, true, true, true, true, true, false, false, false, false, false] rfl rfl (any_of HT_.out (by kernel_rfl)) (fun _ _ _ h => h) (Or.inl ⟨by rfl, ?_⟩) ?_ ?_
  rotate_left
  · intro w'
    go_simp
    with_reducible rfl
  rotate_left
  · simp only [Act.put, List.setIfInBounds_toArray, List.set_cons_zero, List.set_cons_succ, i64_w, i32_w]
    rfl
  refine one_ (i := 5) (N := some 10) #[true, true, true, true, true, true, true, true, true, true, true, false, false, false, false, false] rfl rfl (one_of HT_.out (by kernel_rfl)) (by decide) (fun K hK => ?_)
  refine goes_ Try.func77 (by kernel_rfl) rfl #[.int .i64 (wrap64 (a0_0 - a1_0))] (by rfl) rfl rfl (by (try simp only [List.map_toArray, List.map_cons, List.map_nil]); first | done | rfl | (simp only [List.length_drop, List.length_take]; rfl)) ?_
  with_reducible refine (impl_far.calls (wrap64 (a0_0 - a1_0)) t194 _ A3.out).mono ?_
  rintro e w9 ⟨rfl, hb⟩
  refine ⟨_, rfl, ?_⟩
  have n0_ := Aside0.mk (blk_below (g := gb192) (o := .cells #[.int .i64 a0_0, .int .i64 a0_1] 26 (0, 0)) (by (with_reducible repeat (first | refine blk_drewN ?_ _ | refine blk_drew ?_ | refine blk_alloc ?_ _)); exact BK192.out) hb)
  have n1_ := Aside0.mk (blk_below (g := gb193) (o := .cells #[.int .i64 a1_0, .int .i64 a1_1] 26 (0, 0)) (by (with_reducible repeat (first | refine blk_drewN ?_ _ | refine blk_drew ?_ | refine blk_alloc ?_ _)); exact BK193.out) hb)
  have n2_ := Aside0.mk (below_step (by repeat (first | (with_reducible first | exact HB.out | apply below_alloc | apply pw_below_drewN | apply below_drew1 | refine below_set ?_ GE192.out | refine below_set ?_ GE193.out) | exact HB.out)) hb)
  clear BK192
  clear BK193
  clear HB
  have BK192 := n0_
  have BK193 := n1_
  have HB := n2_
  clear n0_ n1_ n2_
  (try clear hb)
  (try clear hb2)
  (try clear hk)
  (try clear hi)
  refine hK.out _ _ ⟨(blk_cell BK192.out 0).trans rfl, (blk_cell BK192.out 1).trans rfl, (blk_cell BK193.out 0).trans rfl, (blk_cell BK193.out 1).trans rfl⟩ (fun hHeld => ?_)
  clear hK K
  refine norm_ (a' := ?_) ?_ ?_
  rotate_left
  · show Act.put _ (some 10) _ = _
    simp only [Act.put, List.setIfInBounds_toArray, List.set_cons_zero, List.set_cons_succ, i64_w, i32_w]
    rfl
  refine one_ (i := 11) (N := some 16) #[true, true, true, true, true, true, true, true, true, true, true, true, false, false, false, false] rfl rfl (one_of HT_.out (by kernel_rfl)) (by decide) (fun K hK => ?_)
  refine goes_ Try.func77 (by kernel_rfl) rfl #[.int .i64 (wrap64 (a0_1 - a1_1))] (by rfl) rfl rfl (by (try simp only [List.map_toArray, List.map_cons, List.map_nil]); first | done | rfl | (simp only [List.length_drop, List.length_take]; rfl)) ?_
  with_reducible refine (impl_far.calls (wrap64 (a0_1 - a1_1)) t195 _ A4.out).mono ?_
  rintro e w10 ⟨rfl, hb⟩
  refine ⟨_, rfl, ?_⟩
  have n0_ := Aside0.mk (blk_below (g := gb192) (o := .cells #[.int .i64 a0_0, .int .i64 a0_1] 26 (0, 0)) (by (with_reducible repeat (first | refine blk_drewN ?_ _ | refine blk_drew ?_ | refine blk_alloc ?_ _)); exact BK192.out) hb)
  have n1_ := Aside0.mk (blk_below (g := gb193) (o := .cells #[.int .i64 a1_0, .int .i64 a1_1] 26 (0, 0)) (by (with_reducible repeat (first | refine blk_drewN ?_ _ | refine blk_drew ?_ | refine blk_alloc ?_ _)); exact BK193.out) hb)
  have n2_ := Aside0.mk (below_step (by repeat (first | (with_reducible first | exact HB.out | apply below_alloc | apply pw_below_drewN | apply below_drew1 | refine below_set ?_ GE192.out | refine below_set ?_ GE193.out) | exact HB.out)) hb)
  clear BK192
  clear BK193
  clear HB
  have BK192 := n0_
  have BK193 := n1_
  have HB := n2_
  clear n0_ n1_ n2_
  (try clear hb)
  (try clear hb2)
  (try clear hk)
  (try clear hi)
  refine hK.out _ _ ⟨(blk_cell BK192.out 0).trans rfl, (blk_cell BK192.out 1).trans rfl, (blk_cell BK193.out 0).trans rfl, (blk_cell BK193.out 1).trans rfl⟩ (fun hHeld => ?_)
  clear hK K
  refine norm_ (a' := ?_) ?_ ?_
  rotate_left
  · show Act.put _ (some 16) _ = _
    simp only [Act.put, List.setIfInBounds_toArray, List.set_cons_zero, List.set_cons_succ, i64_w, i32_w]
    rfl
  refine pure_ (i := 12) (N := some 17) (v := ?_) (a' := ?_) #[true, true, true, true, true, true, true, true, true, true, true, true, true, false, false, false] rfl rfl (any_of HT_.out (by kernel_rfl)) (fun _ _ _ h => h) (Or.inl ⟨by rfl, ?_⟩) ?_ ?_
  rotate_left
  · intro w'
    go_simp
    with_reducible rfl
  rotate_left
  · simp only [Act.put, List.setIfInBounds_toArray, List.set_cons_zero, List.set_cons_succ, i64_w, i32_w]
    rfl
  refine pure_ (i := 13) (N := some 18) (v := ?_) (a' := ?_) #[true, true, true, true, true, true, true, true, true, true, true, true, true, true, false, false] rfl rfl (any_of HT_.out (by kernel_rfl)) (fun _ _ _ h => h) (Or.inl ⟨by rfl, ?_⟩) ?_ ?_
  rotate_left
  · intro w'
    go_simp
    with_reducible rfl
  rotate_left
  · simp only [Act.put, List.setIfInBounds_toArray, List.set_cons_zero, List.set_cons_succ, i64_w, i32_w]
    rfl
  refine pure_ (i := 14) (N := some 19) (v := ?_) (a' := ?_) #[true, true, true, true, true, true, true, true, true, true, true, true, true, true, true, false] rfl rfl (any_of HT_.out (by kernel_rfl)) (fun _ _ _ h => h) (Or.inl ⟨by rfl, ?_⟩) ?_ ?_
  rotate_left
  · intro w'
    go_simp
    with_reducible rfl
  rotate_left
  · simp only [Act.put, List.setIfInBounds_toArray, List.set_cons_zero, List.set_cons_succ, i64_w, i32_w]
    rfl
  refine pure_ (i := 15) (N := some 4) (v := ?_) (a' := ?_) #[true, true, true, true, true, true, true, true, true, true, true, true, true, true, true, true] rfl rfl (any_of HT_.out (by kernel_rfl)) (fun _ _ _ h => h) (Or.inl ⟨by rfl, ?_⟩) ?_ ?_
  rotate_left
  · intro w'
    go_simp
    with_reducible rfl
  rotate_left
  · simp only [Act.put, List.setIfInBounds_toArray, List.set_cons_zero, List.set_cons_succ, i64_w, i32_w]
    rfl
  refine done_ (done_of HT_.out (by kernel_rfl)) ?_
  try go_wp2
  go_ret
  exact ⟨by first | rfl | (simp [errW_none, errW_some] <;> rfl) | (simp only [← hji5]; first | rfl | (simp [errW_none, errW_some] <;> rfl)) | (simp [*, errW_none, errW_some] <;> rfl), by repeat (first | (with_reducible first | exact HB.out | apply below_alloc | apply pw_below_drewN | apply below_drew1 | refine below_set ?_ GE192.out | refine below_set ?_ GE193.out) | exact HB.out)⟩

/-! ### impl_jobsOf: function 84 -/
/-- How many of the first i slots have a beam. -/
def jcnt (l : List S81) (i : Nat) (b : Int) : Nat := (l.take i).countP (fun x => x.f0 == b)
/-- The number of the job of slot i: how many slots before it have its beam. -/
def jnum (l : List S81) (i : Nat) : Int := (jcnt l i (l.getD i z81).f0 : Nat)
def jobsL (l : List S81) : List Int := (List.range l.length).map (jnum l)
def jfits (l : List S81) : Bool := l.all fun x => decide (-9223372036854775808 ≤ x.f0) && decide (x.f0 ≤ 9223372036854775807)
theorem jcnt_succ (l : List S81) (i : Nat) (h : i < l.length) (b : Int) : jcnt l (i + 1) b = jcnt l i b + if l[i].f0 = b then 1 else 0 := by
  unfold jcnt
  rw [List.take_succ_eq_append_getElem h, List.countP_append, List.countP_singleton]
  simp
theorem jcnt_le (l : List S81) (i : Nat) (b : Int) : jcnt l i b ≤ i := Nat.le_trans List.countP_le_length (List.length_take_le _ _)
theorem jobs_succ (l : List S81) (i : Nat) : (List.range (i + 1)).map (jnum l) = (List.range i).map (jnum l) ++ [jnum l i] := by
  rw [List.range_succ, List.map_append]; rfl
def impl_jobsOf.f (l0 : List (S81)) : Option (List Int) := if jfits l0 = true then if l0.length ≤ 1000000000 then some (jobsL l0) else none else none
theorem zero2 (w : World) : (zeroValue 2).run Try.prog w = .ok (.int .i64 0) w := by kernel_rfl
theorem keyed2 : Maps.Keyed Try.prog 2 := Maps.int_keyed Try.underlying2
/-- The map after i rounds. -/
def MapIs (l : List S81) (i : Nat) (B : Nat) (wr : World) : Prop := ∃ D : DataW Unit, wr.ownsMap Try.prog 2 (plainElem Try.prog 2) B i D ∧ ∀ b : Int, (Lit.int .i64 b).wf = true → D.atKey (.int .i64 b) (.lit (.int .i64 0)) = .lit (.int .i64 (jcnt l i b : Nat))
theorem lit_int_inj {H : Type} {q : IntKind} {a b : Int} (h : (DataW.lit (.int q a) : DataW H) = .lit (.int q b)) : a = b := by
  injection h with h
  injection h
theorem R_of_nums {w : World} {base e n : Nat} {k : IntKind} {v : Value} {xs : List Int} (h : w.ownsRow base e 1 v n (nums k xs)) : Kd.R (Kd.int k) e w base (fun _ => True) v xs := by
  have hl : xs.length = n := by have := h.1; simp [nums] at this; exact this
  subst hl
  exact Kd.R_of_own h (fun _ _ => trivial)
set_option maxRecDepth 100000 in
set_option maxHeartbeats 2000000 in
theorem impl_jobsOf.calls (A0 : Option Addr) (c0 : Nat) (l0 : List (S81)) (r : List Int) (w : World) (hr0 : Kd.C k81 w A0 l0.length l0) (hc0 : l0.length ≤ c0) (h : impl_jobsOf.f l0 = some r) :
    Calls Try.prog 84 #[.slice A0 l0.length c0] w fun e w' => ∃ v0_ : Value, e = .returned (v0_) ∧ Kd.R (Kd.int .i64) 2 w' w.heap.size (fun _ => True) v0_ r ∧ Below w.heap.size w w' := by
  have HR := Aside0.mk hr0
  clear hr0
  unfold impl_jobsOf.f at h
  by_cases hf : jfits l0 = true
  · rw [if_pos hf] at h
    by_cases hl : l0.length ≤ 1000000000
    · rw [if_pos hl] at h
      obtain rfl := Option.some.inj h
      clear h
      have hmm := @run_makeMap Try.prog
      go_enter Try.func84, Try.ntmps84
      go_wp2
      go_loopw [3, 11] (fun v i wr => ∃ k : Nat, k ≤ l0.length ∧ i = .int .i64 k ∧ wr.ownsRow w.heap.size 2 1 v k (nums .i64 ((List.range k).map (jnum l0))) ∧ MapIs l0 k (w.heap.size + 1) wr ∧ Below w.heap.size w wr ∧ v.ownBlock ≠ some (w.heap.size + 1)) (fun _ i _ => l0.length - (intOf i).toNat)
      case atStart =>
        refine ⟨0, Nat.zero_le _, rfl, ?_, ?_, ?_, ?_⟩
        · have := own_lit w w.heap.size 2 .i64 [] (Nat.le_refl _) (by simp)
          exact this.alloc _
        · refine ⟨.map [], ?_, fun b _ => rfl⟩
          have := World.ownsMap_made (H := Unit) (w.alloc (.cells #[] 2)) Try.prog 2 (plainElem Try.prog 2)
          simpa using this
        · exact below_alloc (below_alloc (Below.refl _ _) _) _
        · simp [Value.ownBlock]
      case round =>
        obtain ⟨k, hk, rfl, hown, ⟨D, hM, hD⟩, hb, hne⟩ := hrel
        by_cases hlt : k < l0.length
        · obtain ⟨ad, hA, e0, e1⟩ := at_T81 (Kd.C_below HR.out hb) (k : Int) (by omega) (by omega)
          have hrd : rd_T81 l0 (k : Int) = l0[k] := by
            unfold rd_T81
            simp [List.getD_eq_getElem?_getD, List.getElem?_eq_getElem hlt]
          rw [hrd, Int.toNat_natCast] at e0 e1
          subst hA
          have hwf : (Lit.int .i64 l0[k].f0).wf = true := by
            have := List.all_eq_true.1 hf _ (List.getElem_mem hlt)
            simpa [Lit.wf, IntKind.min, IntKind.max, IntKind.signed, IntKind.bits] using this
          have HK := Aside0.mk (Maps.keyOf_int_mk (P := Try.prog) Try.underlying2 hwf)
          have HO := Aside0.mk hown
          have HM := Aside0.mk hM
          have HB := Aside0.mk hb
          have HN := Aside0.mk hne
          have HD := Aside0.mk hD
          have HC := Aside0.mk (hD _ hwf)
          have HJ := Aside0.mk (jobs_succ l0 k)
          have hjn : jnum l0 k = (jcnt l0 k l0[k].f0 : Nat) := by
            unfold jnum
            simp [List.getD_eq_getElem?_getD, List.getElem?_eq_getElem hlt]
          have HJN := Aside0.mk hjn
          have HW := Aside0.mk hwf
          have HLT : Aside0 (∀ g, Value.ownBlock _ = some g → g ≠ wr.heap.size) := ⟨fun g hg => by have := own_lt hown g hg; omega⟩
          have HLT : Aside0 (¬ Value.ownBlock _ = some wr.heap.size) := ⟨fun e => HLT.out _ e rfl⟩
          have HSZ := Aside0.mk hM.lt
          clear hrd hM hb hown hne hD hjn hwf
          go_wp2_with (first
            | (at_lookup; refine wpList_lookup_own_int _ rfl _ _ 121 rfl 2 2 .i64 keyed2 Try.underlying121 Try.underlying2 (zero2 _) (w.heap.size + 1) k D rfl (by first | exact HM.out.alloc _ | exact HM1.out) _ _ rfl HK.out ?_; intro c hat hwc; have hcc := lit_int_inj (hat.symm.trans HC.out); clear hat hwc; subst hcc)
            | (at_builtin; go_loud (refine print_append_num (w0 := w) w.heap.size rfl (.tmp 15) (.tmp 20) 41 2 .i64 8 rfl Try.underlying41 info2 (by omega) _ ((List.range k).map (jnum l0)) ((jcnt l0 k l0[k].f0 : Nat) : Int) rfl (by first | (go_simp; done) | (go_simp; rfl)) (by rw [List.length_map, List.length_range]; exact HO.out.alloc _) (below_alloc HB.out _) (by have := HB.out.size; simp; omega) (by simp; omega) ?_); intro v1 w1 hown1 hb1 hg1 hat1; have hq1 := (blk_cell (blk_grown (blk_new wr (.cells #[.int .i64 l0[k].f0, .int .i64 l0[k].f1] 81)) hg1 (fun e => HLT.out e.symm)) 0).trans rfl; have HM1 := Aside0.mk ((HM.out.alloc _).kept hg1 (fun e => HN.out e.symm)); have HO1 := Aside0.mk hown1; have HB1 := Aside0.mk hb1; have HA1 := Aside0.mk hat1; clear hown1 hb1 hg1 hat1)
            | (at_mapUpdate; refine wpList_mapUpdate_own _ rfl _ _ _ 121 rfl 2 2 keyed2 Try.underlying121 _ (w.heap.size + 1) k D rfl HM1.out (by unfold maxLen; omega) _ _ _ rfl rfl HK.out _ [] (plainElem_int Try.underlying2 (wrap64_wf _)) ?_; intro w2 hown2 hgrow2; have HM2 := Aside0.mk hown2; have HG2 := Aside0.mk hgrow2; clear hown2 hgrow2))
          go_roundw
          case rel =>
            refine ⟨k + 1, by omega, by go_num, ?_, ⟨_, HM2.out, fun b hb => ?_⟩, ?_, ?_⟩
            · rw [HJ.out, HJN.out]
              have := (HO1.out).kept HG2.out (.inr <| by
                show v1.ownBlock ≠ _
                rcases HA1.out with h | ⟨g, h, hg⟩
                · rw [h]; exact HN.out
                · rw [h]; intro e; have := HSZ.out; simp at hg; injection e with e; omega)
              simpa using this
            · rw [jcnt_succ l0 k hlt b]
              by_cases hbe : l0[k].f0 = b
              · subst hbe
                rw [Maps.atKey_put_same (HM1.out.isMap) (by first | trivial | (simp [WideAt.IsKeyLit]; done) | exact .int _ _)]
                rw [if_pos rfl]
                have hle := jcnt_le l0 k l0[k].f0
                exact congrArg (fun n => DataW.lit (Lit.int .i64 n)) (by unfold wrap64; omega)
              · rw [Maps.atKey_put_other (by intro e; injection e with _ e; exact hbe e.symm), HD.out b hb, if_neg hbe]
                simp
            · exact HB1.out.grown HG2.out (by have := HB1.out.size; omega) (fun j hj => by injection hj with hj; omega)
            · rcases HA1.out with h | ⟨g, h, hg⟩
              · rw [h]; exact HN.out
              · rw [h]; intro e; have := HSZ.out; simp at hg; injection e with e; omega
          case measure => (simp [intOf] <;> omega)
        · obtain rfl : l0.length = k := by omega
          have HO := Aside0.mk (R_of_nums hown)
          have HB := Aside0.mk hb
          clear hown hb hM hD hne
          go_wp2
          go_ret
          exact ⟨_, rfl, HO.out, HB.out⟩
    · rw [if_neg hl] at h; cases h
  · rw [if_neg hf] at h; cases h

end Go.Proofs.Ytekcngoemeadlaa.B
