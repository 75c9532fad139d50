/-
  Contracts of the program's functions, each a plain Lean function beside the machine's call: written by this session's program over the kit's print.
-/
import Derived.Test.YtekcngoemeadlaaBx0
import Derived.Test.YtekcngoemeadlaaBx2
namespace Go.Proofs.Ytekcngoemeadlaa.B
open Go.RowKit Go.Proofs.YtekcngoemeadlaaW.PrintWords Go.Proofs.YtekcngoemeadlaaW.PrintLast Go.Proofs.YtekcngoemeadlaaW.PrintMore
attribute [local go_sem] max2_int min2_int max_two min_two max_three min_three max_four min_four   -- for this text's walks alone
set_option linter.unusedVariables false
set_option linter.unusedSimpArgs false

/-! ### spec_l09Slots: function 82 -/
mutual
def spec_l09Slots.l0 : Nat → List (S54) → List (S81) → List Int → Int → Int → Option (Bool)
  | 0, _, _, _, _, _ => none
  | k + 1, x0, x1, x5, x16, x17 => if x17 < x16 then (if 0 ≤ x17 then (if x17 < (x1.length : Int) then ((spec_l00In.f ((rd_T81 x1 x17).f0) 0 (wrap64 ((x0.length : Int) - 1))).bind fun t160 => (if t160 = true then (if 0 ≤ ((rd_T81 x1 x17).f0) then (if ((rd_T81 x1 x17).f0) < (x5.length : Int) then (if ((rd_T81 x1 x17).f0) < (x0.length : Int) then ((spec_l00In.f ((rd_T81 x1 x17).f1) (wrap64 ((rd x5 ((rd_T81 x1 x17).f0)) * ((rd_T54 x0 ((rd_T81 x1 x17).f0)).f2))) 100000).bind fun t163 => (spec_l09Slots.j1 k x0 x1 x5 x17 x16 x17 (!t163) ((rd_T81 x1 x17).f0) ((rd_T81 x1 x17).f1))) else (none)) else (none)) else (none)) else (spec_l09Slots.j1 k x0 x1 x5 x17 x16 x17 true ((rd_T81 x1 x17).f0) ((rd_T81 x1 x17).f1)))) else (none)) else (none)) else (some true)
def spec_l09Slots.j1 : Nat → List (S54) → List (S81) → List Int → Int → Int → Int → Bool → Int → Int → Option (Bool)
  | 0, _, _, _, _, _, _, _, _, _ => none
  | k + 1, x0, x1, x5, x6, x16, x17, x48, x160000, x160001 => if x48 = true then (some false) else (if x6 > 0 then (if 0 ≤ (wrap64 (x6 - 1)) then (if (wrap64 (x6 - 1)) < (x1.length : Int) then (if 0 ≤ ((rd_T81 x1 (wrap64 (x6 - 1))).f0) then (if ((rd_T81 x1 (wrap64 (x6 - 1))).f0) < (x0.length : Int) then (if 0 ≤ x160000 then (if x160000 < (x0.length : Int) then ((spec_l09Switch.f ((rd_T54 x0 ((rd_T81 x1 (wrap64 (x6 - 1))).f0)).f0.f0) ((rd_T54 x0 ((rd_T81 x1 (wrap64 (x6 - 1))).f0)).f0.f1) ((rd_T54 x0 x160000).f0.f0) ((rd_T54 x0 x160000).f0.f1)).bind fun t169 => (if x160001 < (wrap64 ((wrap64 (((rd_T81 x1 (wrap64 (x6 - 1))).f1) + ((rd_T54 x0 ((rd_T81 x1 (wrap64 (x6 - 1))).f0)).f1))) + t169)) then (some false) else (if x160000 < (x5.length : Int) then (spec_l09Slots.l0 k x0 x1 (x5.set (x160000 : Int).toNat (wrap64 ((rd x5 x160000) + 1))) x16 (wrap64 (x17 + 1))) else (none)))) else (none)) else (none)) else (none)) else (none)) else (none)) else (none)) else (if 0 ≤ x160000 then (if x160000 < (x5.length : Int) then (spec_l09Slots.l0 k x0 x1 (x5.set (x160000 : Int).toNat (wrap64 ((rd x5 x160000) + 1))) x16 (wrap64 (x17 + 1))) else (none)) else (none)))
end
def spec_l09Slots.f (k : Nat) (l0 : List (S54)) (l1 : List (S81)) : Option (Bool) := if (l1.length : Int) > 200 then (some false) else (if 0 ≤ (l0.length : Int) then (if ((l0.length : Int) : Int).toNat ≤ 35184372088832 then (spec_l09Slots.l0 k l0 l1 (List.replicate ((l0.length : Int) : Int).toNat 0) (l1.length : Int) 0) else (none)) else (none))
theorem spec_l09Slots.mono_l : ∀ k, (∀ y0 y1 y2 y3 y4, LeO (spec_l09Slots.l0 k y0 y1 y2 y3 y4) (spec_l09Slots.l0 (k + 1) y0 y1 y2 y3 y4)) ∧ (∀ y0 y1 y2 y3 y4 y5 y6 y7 y8, LeO (spec_l09Slots.j1 k y0 y1 y2 y3 y4 y5 y6 y7 y8) (spec_l09Slots.j1 (k + 1) y0 y1 y2 y3 y4 y5 y6 y7 y8))
  | 0 => ⟨fun _ _ _ _ _ r h => by simp [spec_l09Slots.l0] at h, fun _ _ _ _ _ _ _ _ _ r h => by simp [spec_l09Slots.j1] at h⟩
  | k + 1 => by
    obtain ⟨ih0, ih1⟩ := spec_l09Slots.mono_l k
    refine ⟨?_, ?_⟩
    · intro y0 y1 y2 y3 y4
      unfold spec_l09Slots.l0
      repeat' first
      | (with_reducible exact ih0 _ _ _ _ _)
      | (with_reducible exact ih1 _ _ _ _ _ _ _ _ _)
      | (with_reducible exact LeO.refl _)
      | (with_reducible exact LeO.none _)
      | (with_reducible refine LeO.ite ?_ ?_)
      | (with_reducible refine LeO.bind ?_ (fun _ => ?_))
      | exact ih0 _ _ _ _ _
      | exact ih1 _ _ _ _ _ _ _ _ _
      | exact LeO.none _
      | refine LeO.ite ?_ ?_
      | refine LeO.bind ?_ (fun _ => ?_)
    · intro y0 y1 y2 y3 y4 y5 y6 y7 y8
      unfold spec_l09Slots.j1
      repeat' first
      | (with_reducible exact ih0 _ _ _ _ _)
      | (with_reducible exact ih1 _ _ _ _ _ _ _ _ _)
      | (with_reducible exact LeO.refl _)
      | (with_reducible exact LeO.none _)
      | (with_reducible refine LeO.ite ?_ ?_)
      | (with_reducible refine LeO.bind ?_ (fun _ => ?_))
      | exact ih0 _ _ _ _ _
      | exact ih1 _ _ _ _ _ _ _ _ _
      | exact LeO.none _
      | refine LeO.ite ?_ ?_
      | refine LeO.bind ?_ (fun _ => ?_)
theorem spec_l09Slots.mono : ∀ a0 a1 k, LeO (spec_l09Slots.f k a0 a1) (spec_l09Slots.f (k + 1) a0 a1) := by
  intro a0 a1 k
  obtain ⟨ih0, ih1⟩ := spec_l09Slots.mono_l k
  unfold spec_l09Slots.f
  repeat' first
      | (with_reducible exact ih0 _ _ _ _ _)
      | (with_reducible exact ih1 _ _ _ _ _ _ _ _ _)
      | (with_reducible exact LeO.refl _)
      | (with_reducible exact LeO.none _)
      | (with_reducible refine LeO.ite ?_ ?_)
      | (with_reducible refine LeO.bind ?_ (fun _ => ?_))
      | exact ih0 _ _ _ _ _
      | exact ih1 _ _ _ _ _ _ _ _ _
      | exact LeO.none _
      | refine LeO.ite ?_ ?_
      | refine LeO.bind ?_ (fun _ => ?_)
def spec_l09Slots.T8 : Bool × List (List Nat × List Nat) := (true, [([], []), ([0], [0]), ([], []), ([2], [2]), ([3], [3]), ([1, 4], [1, 4]), ([5], [5]), ([6, 5], [6]), ([7], [7]), ([8, 7], [7, 8]), ([7], [7]), ([7], [7]), ([11, 7], [7, 11]), ([10, 12, 7], [7, 10, 12]), ([13, 7], [7, 13]), ([7], [7]), ([7], [7]), ([16, 7], [7, 16]), ([15, 17, 7], [7, 15, 17]), ([18, 7], [7, 18]), ([19, 7], [7, 19]), ([14, 20, 7], [7, 14, 20]), ([9, 21, 7, 7], [7, 9, 21]), ([22, 7], [7, 22]), ([7, 23], [7, 23])])
def spec_l09Slots.B8 : List Nat := [0, 1, 0, 4, 12, 31, 63, 127, 255, 511, 255, 255, 2303, 7423, 15615, 255, 255, 65791, 229631, 491775, 1016063, 2096383, 4194303, 8388607, 16777215]
theorem spec_l09Slots.tab8 : rtab .any (opsOf Try.f82 8) = spec_l09Slots.T8 := by kernel_rfl
theorem spec_l09Slots.bits8 : waitsOk spec_l09Slots.T8.2 spec_l09Slots.B8 = true := by kernel_rfl
def spec_l09Slots.T12 : Bool × List (List Nat × List Nat) := (true, [([], []), ([0], [0]), ([], []), ([2], [2]), ([], []), ([], []), ([5], [5]), ([4, 6], [4, 6]), ([7], [7]), ([8], [8]), ([3, 9], [3, 9]), ([], []), ([], []), ([12], [12]), ([11, 13], [11, 13]), ([14], [14]), ([15], [15]), ([], []), ([], []), ([18], [18]), ([17, 19], [17, 19]), ([20], [20]), ([21], [21]), ([16, 22], [16, 22]), ([10, 23], [10, 23]), ([1, 24], [1, 24])])
def spec_l09Slots.B12 : List Nat := [0, 1, 0, 4, 0, 0, 32, 112, 240, 496, 1020, 0, 0, 4096, 14336, 30720, 63488, 0, 0, 262144, 917504, 1966080, 4063232, 8386560, 16777212, 33554431]
theorem spec_l09Slots.tab12 : rtab .any (opsOf Try.f82 12) = spec_l09Slots.T12 := by kernel_rfl
theorem spec_l09Slots.bits12 : waitsOk spec_l09Slots.T12.2 spec_l09Slots.B12 = true := by kernel_rfl
set_option maxHeartbeats 8000000 in
set_option maxRecDepth 100000 in
theorem spec_l09Slots.calls (k : Nat) (A0 : Option Addr) (c0 : Nat) (l0 : List (S54)) (A1 : Option Addr) (c1 : Nat) (l1 : List (S81)) (r : Bool) (w : World) (hr0 : Kd.C k54 w A0 l0.length l0) (hc0 : l0.length ≤ c0) (hr1 : Kd.C k81 w A1 l1.length l1) (hc1 : l1.length ≤ c1) (h : spec_l09Slots.f k l0 l1 = some r) :
    Calls Try.prog 82 #[.slice A0 l0.length c0, .slice A1 l1.length c1] w fun e w' => e = .returned (.bool r) ∧ Below w.heap.size w w' := by
  have hu81 := Try.underlying81
  have hu26 := Try.underlying26
  have HR0 := Aside0.mk hr0
  have HC0 := Aside0.mk hc0
  clear hr0 hc0
  have HR1 := Aside0.mk hr1
  have HC1 := Aside0.mk hc1
  clear hr1 hc1
  have HB := Aside0.mk (Below.refl w.heap.size w)
  have H : (if (l1.length : Int) > 200 then (some false) else (if 0 ≤ (l0.length : Int) then (if ((l0.length : Int) : Int).toNat ≤ 35184372088832 then (spec_l09Slots.l0 k l0 l1 (List.replicate ((l0.length : Int) : Int).toNat 0) (l1.length : Int) 0) else (none)) else (none))) = some r := h
  clear h
  by_cases c3 : (l1.length : Int) > 200
  · rw [if_pos c3] at H
    have c3b0 : decide (200 < (l1.length : Int)) = true := decide_eq_true c3
    have c3b1 : decide (200 < l1.length) = true := decide_eq_true (by omega)
    clear c3
    obtain rfl := Option.some.inj H
    go_enter Try.func82, Try.ntmps82
    go_wp2
    go_ret
    exact ⟨by first | rfl | (simp [errW_none, errW_some] <;> rfl) | (simp [*, errW_none, errW_some] <;> rfl), by repeat (first | (with_reducible first | exact HB.out | apply below_alloc | apply pw_below_drewN | apply below_drew1) | exact HB.out)⟩
  · rw [if_neg c3] at H
    have c3b0 : decide (200 < (l1.length : Int)) = false := decide_eq_false c3
    have c3b1 : decide (200 < l1.length) = false := decide_eq_false (by omega)
    clear c3
    by_cases c4 : 0 ≤ (l0.length : Int)
    · rw [if_pos c4] at H
      have c4b0 := eq_true c4
      have c4b1 : decide (0 ≤ (l0.length : Int)) = true := decide_eq_true c4
      clear c4
      by_cases c5 : ((l0.length : Int) : Int).toNat ≤ 35184372088832
      · rw [if_pos c5] at H
        have c5b0 := eq_true c5
        have c5b1 : decide (((l0.length : Int) : Int).toNat ≤ 35184372088832) = true := decide_eq_true c5
        clear c5
        obtain ⟨y155, hy155⟩ : ∃ y_ : List Int, y_ = (List.replicate ((l0.length : Int) : Int).toNat 0) := ⟨_, rfl⟩
        replace H : (spec_l09Slots.l0 k l0 l1 y155 (l1.length : Int) 0) = some r := by first | (rw [hy155]; with_reducible exact H) | (have H2_ := (Option.bind_some _ _).symm.trans H; rw [hy155]; with_reducible exact H2_) | (have H2_ := (Option.bind_some _ _).symm.trans H; with_reducible exact H2_) | with_reducible exact H | (rw [hy155]; exact H) | exact H
        have Ny155 := Aside0.mk hy155
        clear hy155
        have H' := Aside0.mk H
        clear H
        go_enter Try.func82, Try.ntmps82
        go_wp2_with (first | ((with_reducible refine gate_dst (N := 14) rfl ?_); refine Kd.R_make (Kd.int .i64) _ 2 rfl (N := 14) rfl 41 _ _ rfl (l0.length : Int) rfl rfl Try.underlying41 (.int .i64 0) 8 info2 rfl (by decide) (by omega) 0 (ok := fun _ => True) (okp := fun _ => True) rfl (fun _ hk => hk) trivial (of_decide_eq_true (by first | (with_reducible assumption) | assumption)) (Nat.le_trans (Nat.mul_le_mul_right _ (of_decide_eq_true (by first | (with_reducible assumption) | assumption) : (l0.length : Int).toNat ≤ 35184372088832)) (by omega)) (Below.refl _ _) (Nat.le_refl _) ?_; intro v156 w6 ho7 hb hg_ hnew_; clear hg_ hnew_; (first | rw [← Ny155.out] at ho7 | (simp only [Int.reduceToNat] at ho7; rw [← Ny155.out] at ho7)); have n0_ := Aside0.mk (Kd.R_lower ho7 (below_size (by repeat (first | (with_reducible first | exact HB.out | apply below_alloc | apply pw_below_drewN | apply below_drew1) | exact HB.out)))); have n1_ := Aside0.mk (below_step (by repeat (first | (with_reducible first | exact HB.out | apply below_alloc | apply pw_below_drewN | apply below_drew1) | exact HB.out)) hb); clear HB; have HO157 := n0_; have HB := n1_; clear n0_ n1_; clear hb ho7))
        go_loopg [17] k (fun kq v17 w' => ∃ (x5_1 : List Int) (x17_1 : Int), v17 = .int .i64 x17_1 ∧ Aside0 (spec_l09Slots.l0 kq l0 l1 x5_1 (l1.length : Int) x17_1 = some r) ∧ Aside0 (kq ≤ k) ∧ Aside0 (Kd.R (Kd.int .i64) 2 w' w.heap.size (fun _ => True) v156 x5_1) ∧ Aside0 (Below w.heap.size w w'))
        case atStart => exact ⟨(y155), (0), (by first | rfl | (simp; done) | (simp [*]; done)), H', ⟨Nat.le_refl _⟩, ⟨by (with_reducible repeat (first | apply Kd.R_alloc | apply Kd.R_drewN | apply Kd.R_drew)); exact HO157.out⟩, ⟨by repeat (first | (with_reducible first | exact HB.out | apply below_alloc | apply pw_below_drewN | apply below_drew1) | exact HB.out)⟩⟩
        case round =>
          clear H'
          try clear c1
          try clear p2
          try clear c3
          try clear c3b0
          try clear c3b1
          try clear c4
          try clear c4b0
          try clear c4b1
          try clear c5
          try clear c5b0
          try clear c5b1
          obtain ⟨x5_1, x17_1, rfl, HA, HK1, HO_5, HB⟩ := hrel
          cases gk with
          | zero => exact absurd HA.out (by simp [spec_l09Slots.l0])
          | succ k1 =>
            have H := HA.out
            clear HA
            simp only [spec_l09Slots.l0] at H
            by_cases c8 : x17_1 < (l1.length : Int)
            · rw [if_pos c8] at H
              have c8b0 : decide (x17_1 < (l1.length : Int)) = true := decide_eq_true c8
              clear c8
              by_cases c9 : 0 ≤ x17_1
              · rw [if_pos c9] at H
                have c9b0 : decide (0 ≤ x17_1) = true := decide_eq_true c9
                clear c9
                by_cases c10 : x17_1 < (l1.length : Int)
                · rw [if_pos c10] at H
                  have c10b0 : decide (x17_1 < (l1.length : Int)) = true := decide_eq_true c10
                  clear c10
                  have HC11 := Aside0.mk H
                  clear H
                  have p158 : 0 ≤ (x17_1 : Int) := of_decide_eq_true (by first | (with_reducible assumption) | assumption)
                  have q158 : x17_1 < (l1.length : Int) := of_decide_eq_true (by first | (with_reducible assumption) | assumption)
                  obtain ⟨ad158, e158, hx158_0, hx158_1⟩ := at_T81 HR1.out x17_1 p158 q158
                  cases e158
                  replace hx158_0 := (HB.out.cell (World.block_lt_of_cell? w _ hx158_0)).trans hx158_0
                  replace hx158_1 := (HB.out.cell (World.block_lt_of_cell? w _ hx158_1)).trans hx158_1
                  replace p158 := eq_true p158
                  replace q158 := eq_true q158
                  go_upto_region 8 with (first | ((with_reducible refine gate_dst (N := 7) rfl ?_); refine box_event ?hg (N := 7) ?hd (cs := #[.int .i64 0, .int .i64 0]) (t := 81) ?hr ?_; (case hd => rfl); (case hg => rfl); (case hr => first | (go_simp; done) | (go_simp; rfl)); intro gb159 hg w12 hbox hb; have n0_ := Aside0.mk (Kd.R_below (by (with_reducible repeat (first | apply Kd.R_alloc | apply Kd.R_drewN | apply Kd.R_drew)); exact HO_5.out) hb); have n1_ := Aside0.mk (below_step (by repeat (first | (with_reducible first | exact HB.out | apply below_alloc | apply pw_below_drewN | apply below_drew1) | exact HB.out)) hb); have n2_ := Aside0.mk (hbox); have n3_ := Aside0.mk ((by rw [hg]; exact (below_size (by repeat (first | (with_reducible first | exact HB.out | apply below_alloc | apply pw_below_drewN | apply below_drew1) | exact HB.out))) : w.heap.size ≤ gb159)); have n4_ := Aside0.mk ((by rw [hg]; exact (below_size (by repeat (first | (with_reducible first | exact HB.out | apply below_alloc | apply pw_below_drewN | apply below_drew1) | exact HB.out))) : w.heap.size ≤ gb159)); clear HO_5; clear HB; have HO_5 := n0_; have HB := n1_; have BK159 := n2_; have GW159 := n3_; have GE159 := n4_; clear n0_ n1_ n2_ n3_ n4_; clear hb hbox hg; have hcz13_0 : w12.cell? ⟨gb159, 0, none⟩ = some (.int .i64 0) := (blk_cell BK159.out 0).trans rfl; have hcz13_1 : w12.cell? ⟨gb159, 1, none⟩ = some (.int .i64 0) := (blk_cell BK159.out 1).trans rfl; have hfz13_0 := blk_frozen BK159.out 0; have hfz13_1 := blk_frozen BK159.out 1))
                  (try simp only [Act.put, List.setIfInBounds_toArray, List.set_cons_zero, List.set_cons_succ])
                  go_cut [48] (fun v48 wc => ∃ (kq : Nat) (x48_10 : Bool), v48 = .bool x48_10 ∧ Aside0 (spec_l09Slots.j1 kq l0 l1 x5_1 x17_1 (l1.length : Int) x17_1 x48_10 ((rd_T81 l1 x17_1).f0) ((rd_T81 l1 x17_1).f1) = some r) ∧ Aside0 (kq ≤ k1) ∧ Aside0 (Kd.R (Kd.int .i64) 2 wc w.heap.size (fun _ => True) v156 x5_1) ∧ Aside0 (wc.heap[gb159]? = some (.cells #[.int .i64 ((rd_T81 l1 x17_1).f0), .int .i64 ((rd_T81 l1 x17_1).f1)] 81 (0, 0))) ∧ Aside0 (Below w.heap.size w wc))
                  case first =>
                    have H := HC11.out
                    clear HC11
                    replace H := Option.bind_eq_some_iff.mp H
                    obtain ⟨t160, A140, H⟩ := H
                    replace H : (if t160 = true then (if 0 ≤ ((rd_T81 l1 x17_1).f0) then (if ((rd_T81 l1 x17_1).f0) < (x5_1.length : Int) then (if ((rd_T81 l1 x17_1).f0) < (l0.length : Int) then ((spec_l00In.f ((rd_T81 l1 x17_1).f1) (wrap64 ((rd x5_1 ((rd_T81 l1 x17_1).f0)) * ((rd_T54 l0 ((rd_T81 l1 x17_1).f0)).f2))) 100000).bind fun t163 => (spec_l09Slots.j1 k1 l0 l1 x5_1 x17_1 (l1.length : Int) x17_1 (!t163) ((rd_T81 l1 x17_1).f0) ((rd_T81 l1 x17_1).f1))) else (none)) else (none)) else (none)) else (spec_l09Slots.j1 k1 l0 l1 x5_1 x17_1 (l1.length : Int) x17_1 true ((rd_T81 l1 x17_1).f0) ((rd_T81 l1 x17_1).f1))) = some r := H
                    have A14 := Aside0.mk A140
                    clear A140
                    by_cases c15 : t160 = true
                    · subst c15
                      have H1 : (if 0 ≤ ((rd_T81 l1 x17_1).f0) then (if ((rd_T81 l1 x17_1).f0) < (x5_1.length : Int) then (if ((rd_T81 l1 x17_1).f0) < (l0.length : Int) then ((spec_l00In.f ((rd_T81 l1 x17_1).f1) (wrap64 ((rd x5_1 ((rd_T81 l1 x17_1).f0)) * ((rd_T54 l0 ((rd_T81 l1 x17_1).f0)).f2))) 100000).bind fun t163 => (spec_l09Slots.j1 k1 l0 l1 x5_1 x17_1 (l1.length : Int) x17_1 (!t163) ((rd_T81 l1 x17_1).f0) ((rd_T81 l1 x17_1).f1))) else (none)) else (none)) else (none)) = some r := by rw [if_pos rfl] at H; exact H
                      clear H
                      have H := H1
                      clear H1
                      by_cases c16 : 0 ≤ ((rd_T81 l1 x17_1).f0)
                      · rw [if_pos c16] at H
                        have c16b0 : decide (0 ≤ ((rd_T81 l1 x17_1).f0)) = true := decide_eq_true c16
                        clear c16
                        (first | rw [c16b0] | (simp only [i64_w, i32_w]; rw [c16b0]) | skip)
                        by_cases c17 : ((rd_T81 l1 x17_1).f0) < (x5_1.length : Int)
                        · rw [if_pos c17] at H
                          have c17b0 : decide (((rd_T81 l1 x17_1).f0) < (x5_1.length : Int)) = true := decide_eq_true c17
                          clear c17
                          by_cases c18 : ((rd_T81 l1 x17_1).f0) < (l0.length : Int)
                          · rw [if_pos c18] at H
                            have c18b0 : decide (((rd_T81 l1 x17_1).f0) < (l0.length : Int)) = true := decide_eq_true c18
                            clear c18
                            replace H := Option.bind_eq_some_iff.mp H
                            obtain ⟨t163, A190, H⟩ := H
                            replace H : (spec_l09Slots.j1 k1 l0 l1 x5_1 x17_1 (l1.length : Int) x17_1 (!t163) ((rd_T81 l1 x17_1).f0) ((rd_T81 l1 x17_1).f1)) = some r := H
                            have A19 := Aside0.mk A190
                            clear A190
                            have H' := Aside0.mk H
                            clear H
                            try go_wp2
                            have n0_ : Aside0 (Kd.R (Kd.int .i64) 2 ((w12.setCell ⟨gb159, 0, none⟩ (.int .i64 ((rd_T81 l1 x17_1).f0))).setCell ⟨gb159, 1, none⟩ (.int .i64 ((rd_T81 l1 x17_1).f1))) w.heap.size (fun _ => True) v156 x5_1) := ⟨by (with_reducible repeat (first | apply Kd.R_alloc | apply Kd.R_drewN | apply Kd.R_drew)); exact Kd.R_mono (Kd.R_far (p := ⟨gb159, 1, none⟩) (Kd.R_far (p := ⟨gb159, 0, none⟩) (Kd.R_types HO_5.out BK159.out (by decide)) (fun _ hk => hk.2) (.int .i64 ((rd_T81 l1 x17_1).f0))) (fun _ hk => hk.2) (.int .i64 ((rd_T81 l1 x17_1).f1))) (fun _ hk => trivial)⟩
                            have n1_ : Aside0 (((w12.setCell ⟨gb159, 0, none⟩ (.int .i64 ((rd_T81 l1 x17_1).f0))).setCell ⟨gb159, 1, none⟩ (.int .i64 ((rd_T81 l1 x17_1).f1))).heap[gb159]? = some (.cells #[.int .i64 ((rd_T81 l1 x17_1).f0), .int .i64 ((rd_T81 l1 x17_1).f1)] 81 (0, 0))) := ⟨by (with_reducible repeat (first | refine blk_drewN ?_ _ | refine blk_drew ?_ | refine blk_alloc ?_ _)); refine blk_put (cs := #[.int .i64 ((rd_T81 l1 x17_1).f0), .int .i64 0]) ?_ 1 _ rfl; (with_reducible repeat (first | refine blk_drewN ?_ _ | refine blk_drew ?_ | refine blk_alloc ?_ _)); refine blk_put (cs := #[.int .i64 0, .int .i64 0]) ?_ 0 _ rfl; (with_reducible repeat (first | refine blk_drewN ?_ _ | refine blk_drew ?_ | refine blk_alloc ?_ _)); exact BK159.out⟩
                            have n2_ : Aside0 (Below w.heap.size w ((w12.setCell ⟨gb159, 0, none⟩ (.int .i64 ((rd_T81 l1 x17_1).f0))).setCell ⟨gb159, 1, none⟩ (.int .i64 ((rd_T81 l1 x17_1).f1)))) := ⟨by repeat (first | (with_reducible first | exact HB.out | apply below_alloc | apply pw_below_drewN | apply below_drew1 | refine below_set ?_ GE159.out) | exact HB.out)⟩
                            (try clear HO_5)
                            (try clear BK159)
                            (try clear HB)
                            generalize ((w12.setCell ⟨gb159, 0, none⟩ (.int .i64 ((rd_T81 l1 x17_1).f0))).setCell ⟨gb159, 1, none⟩ (.int .i64 ((rd_T81 l1 x17_1).f1))) = w20 at n0_ n1_ n2_ ⊢
                            have HO_5 := n0_
                            have BK159 := n1_
                            have HB := n2_
                            clear n0_ n1_ n2_
                            have n0_ := Aside0.mk (Kd.R_drew HO_5.out)
                            have n1_ := Aside0.mk (blk_drew BK159.out)
                            have n2_ := Aside0.mk (below_drew1 HB.out)
                            clear HO_5
                            clear BK159
                            clear HB
                            have HO_5 := n0_
                            have BK159 := n1_
                            have HB := n2_
                            clear n0_ n1_ n2_
                            have p161 : 0 ≤ (((rd_T81 l1 x17_1).f0) : Int) := of_decide_eq_true (by first | (with_reducible assumption) | assumption)
                            have q161 : ((rd_T81 l1 x17_1).f0) < (x5_1.length : Int) := of_decide_eq_true (by first | (with_reducible assumption) | assumption)
                            try (obtain ⟨A_5, c_5, hv_5⟩ := Kd.R_slice HO_5.out; subst hv_5)
                            obtain ⟨ad161, e161, hx161_0⟩ := Kd.at_int (Kd.R_reads' HO_5.out).2.2 ((rd_T81 l1 x17_1).f0) p161 q161
                            cases e161
                            replace p161 := eq_true p161
                            replace q161 := eq_true q161
                            have p162 : 0 ≤ (((rd_T81 l1 x17_1).f0) : Int) := of_decide_eq_true (by first | (with_reducible assumption) | assumption)
                            have q162 : ((rd_T81 l1 x17_1).f0) < (l0.length : Int) := of_decide_eq_true (by first | (with_reducible assumption) | assumption)
                            obtain ⟨ad162, e162, hx162_0, hx162_1, hx162_2, hx162_3⟩ := at_T54 HR0.out ((rd_T81 l1 x17_1).f0) p162 q162
                            have hw162_3 := hx162_3
                            have hw162_2 := hx162_2
                            have hw162_1 := hx162_1
                            have hw162_0 := hx162_0
                            cases e162
                            replace hx162_0 := (HB.out.cell (World.block_lt_of_cell? w _ hx162_0)).trans hx162_0
                            replace hx162_1 := (HB.out.cell (World.block_lt_of_cell? w _ hx162_1)).trans hx162_1
                            replace hx162_2 := (HB.out.cell (World.block_lt_of_cell? w _ hx162_2)).trans hx162_2
                            replace hx162_3 := (HB.out.cell (World.block_lt_of_cell? w _ hx162_3)).trans hx162_3
                            replace p162 := eq_true p162
                            replace q162 := eq_true q162
                            refine start_ (n := 25) (S := fun w' => w'.cell? ⟨gb159, 0, none⟩ = some (.int .i64 ((rd_T81 l1 x17_1).f0)) ∧ w'.cell? ⟨gb159, 1, none⟩ = some (.int .i64 ((rd_T81 l1 x17_1).f1)) ∧ w'.cell? (ad161.add (((rd_T81 l1 x17_1).f0)).toNat) = some (.int .i64 (rd x5_1 ((rd_T81 l1 x17_1).f0))) ∧ w'.cell? (ad162.add ((((rd_T81 l1 x17_1).f0)).toNat * 4)) = some (.int .i64 ((rd_T54 l0 ((rd_T81 l1 x17_1).f0)).f0.f0)) ∧ w'.cell? ⟨(ad162.add ((((rd_T81 l1 x17_1).f0)).toNat * 4)).block, (ad162.add ((((rd_T81 l1 x17_1).f0)).toNat * 4)).off + 1, none⟩ = some (.int .i64 ((rd_T54 l0 ((rd_T81 l1 x17_1).f0)).f0.f1)) ∧ w'.cell? ⟨(ad162.add ((((rd_T81 l1 x17_1).f0)).toNat * 4)).block, (ad162.add ((((rd_T81 l1 x17_1).f0)).toNat * 4)).off + 2, none⟩ = some (.int .i64 ((rd_T54 l0 ((rd_T81 l1 x17_1).f0)).f1)) ∧ w'.cell? ⟨(ad162.add ((((rd_T81 l1 x17_1).f0)).toNat * 4)).block, (ad162.add ((((rd_T81 l1 x17_1).f0)).toNat * 4)).off + 3, none⟩ = some (.int .i64 ((rd_T54 l0 ((rd_T81 l1 x17_1).f0)).f2))) (ds := []) #[false, false, false, false, false, false, false, false, false, false, false, false, false, false, false, false, false, false, false, false, false, false, false, false, false] (by kernel_rfl) rfl rfl ⟨(blk_cell BK159.out 0).trans rfl, (blk_cell BK159.out 1).trans rfl, hx161_0, ((HB.out.cell (World.block_lt_of_cell? w _ hw162_0)).trans hw162_0), ((HB.out.cell (World.block_lt_of_cell? w _ hw162_1)).trans hw162_1), ((HB.out.cell (World.block_lt_of_cell? w _ hw162_2)).trans hw162_2), ((HB.out.cell (World.block_lt_of_cell? w _ hw162_3)).trans hw162_3)⟩ (fun hHeld => ?_); refine with_tabW spec_l09Slots.tab8 spec_l09Slots.bits8 (fun HT_ HW_ => ?_)
                            generalize w20.drew = w21 at HO_5 BK159 HB hx161_0 hx162_0 hx162_1 hx162_2 hx162_3 hHeld ⊢
                            refine pure_ (i := 0) (N := some 24) (v := ?_) (a' := ?_) #[true, false, false, false, false, false, false, false, false, false, false, false, false, false, false, false, false, false, false, false, false, false, false, false, false] rfl rfl (any_of HT_.out (by kernel_rfl)) (fun _ _ _ h => h) (Or.inl ⟨by rfl, ?_⟩) ?_ ?_
                            rotate_left
                            · intro w'
                              go_simp
                              with_reducible rfl
                            rotate_left
                            · simp only [Act.put, List.setIfInBounds_toArray, List.set_cons_zero, List.set_cons_succ, i64_w, i32_w]
                              rfl
                            refine pure_ (i := 2) (N := some 26) (v := ?_) (a' := ?_) #[true, false, true, false, false, false, false, false, false, false, false, false, false, false, false, false, false, false, false, false, false, false, false, false, false] rfl rfl (any_of HT_.out (by kernel_rfl)) (fun _ _ _ h => h) (Or.inl ⟨by rfl, ?_⟩) ?_ ?_
                            rotate_left
                            · intro w'
                              go_simp
                              with_reducible rfl
                            rotate_left
                            · simp only [Act.put, List.setIfInBounds_toArray, List.set_cons_zero, List.set_cons_succ, i64_w, i32_w]
                              rfl
                            refine pure_ (i := 3) (N := some 27) (v := ?_) (a' := ?_) #[true, false, true, true, false, false, false, false, false, false, false, false, false, false, false, false, false, false, false, false, false, false, false, false, false] rfl rfl (any_of HT_.out (by kernel_rfl)) (fun _ _ _ h => h) (Or.inl ⟨by rfl, ?_⟩) ?_ ?_
                            rotate_left
                            · intro w'
                              go_simp
                              with_reducible rfl
                            rotate_left
                            · simp only [Act.put, List.setIfInBounds_toArray, List.set_cons_zero, List.set_cons_succ, i64_w, i32_w]
                              rfl
                            refine pure_ (i := 4) (N := some 28) (v := ?_) (a' := ?_) #[true, false, true, true, true, false, false, false, false, false, false, false, false, false, false, false, false, false, false, false, false, false, false, false, false] rfl rfl (any_of HT_.out (by kernel_rfl)) (fun _ _ _ h => h) (Or.inl ⟨by rfl, ?_⟩) ?_ ?_
                            rotate_left
                            · intro w'
                              go_simp
                              with_reducible rfl
                            rotate_left
                            · simp only [Act.put, List.setIfInBounds_toArray, List.set_cons_zero, List.set_cons_succ, i64_w, i32_w]
                              rfl
                            refine take_ (i := 1) (N := some 25) (v := ?_) (a' := ?_) #[true, true, true, true, true, false, false, false, false, false, false, false, false, false, false, false, false, false, false, false, false, false, false, false, false] rfl rfl (take_ofW HT_.out HW_.out (by kernel_rfl)) (fun _ _ _ h => h) (Or.inl ⟨by rfl, ?_⟩) hHeld ?_ ?_
                            rotate_left
                            · rintro w' ⟨s0, s1, s2, s3, s4, s5, s6⟩
                              go_simp
                              with_reducible rfl
                            rotate_left
                            · simp only [Act.put, List.setIfInBounds_toArray, List.set_cons_zero, List.set_cons_succ, i64_w, i32_w]
                              rfl
                            refine one_ (i := 5) (N := some 29) #[true, true, true, true, true, true, false, false, false, false, false, false, false, false, false, false, false, false, false, false, false, false, false, false, false] rfl rfl (one_of HT_.out (by kernel_rfl)) (by decide) (fun K hK => ?_)
                            refine goes_ Try.func65 (by kernel_rfl) rfl #[.int .i64 ((rd_T81 l1 x17_1).f0), .int .i64 0, .int .i64 (wrap64 ((l0.length : Int) - 1))] (by rfl) rfl rfl (by (try simp only [List.map_toArray, List.map_cons, List.map_nil]); first | done | rfl | (simp only [List.length_drop, List.length_take]; rfl)) ?_
                            with_reducible refine (spec_l00In.calls ((rd_T81 l1 x17_1).f0) 0 (wrap64 ((l0.length : Int) - 1)) true _ A14.out).mono ?_
                            rintro e w' ⟨rfl, ⟨nd, rfl⟩⟩
                            refine ⟨_, rfl, ?_⟩
                            obtain ⟨Ao22, co22, eo22⟩ := Kd.R_slice HO_5.out
                            (first | subst eo22 | (injection eo22 with f1_ f2_ f3_; have f4_ := f1_.symm; have f5_ := f3_.symm; clear f1_ f2_ f3_; subst f4_; subst f5_))
                            refine hK.out _ _ ⟨(blk_cell BK159.out 0).trans rfl, (blk_cell BK159.out 1).trans rfl, hHeld.2.2.1, ((HB.out.cell (World.block_lt_of_cell? w _ hw162_0)).trans hw162_0), ((HB.out.cell (World.block_lt_of_cell? w _ hw162_1)).trans hw162_1), ((HB.out.cell (World.block_lt_of_cell? w _ hw162_2)).trans hw162_2), ((HB.out.cell (World.block_lt_of_cell? w _ hw162_3)).trans hw162_3)⟩ (fun hHeld => ?_)
                            clear hK K
                            refine norm_ (a' := ?_) ?_ ?_
                            rotate_left
                            · show Act.put _ (some 29) _ = _
                              simp only [Act.put, List.setIfInBounds_toArray, List.set_cons_zero, List.set_cons_succ, i64_w, i32_w]
                              rfl
                            refine pure_ (i := 6) (N := some 30) (v := ?_) (a' := ?_) #[true, true, true, true, true, true, true, false, false, false, false, false, false, false, false, false, false, false, false, false, false, false, false, false, false] rfl rfl (any_of HT_.out (by kernel_rfl)) (fun _ _ _ h => h) (Or.inl ⟨by rfl, ?_⟩) ?_ ?_
                            rotate_left
                            · intro w'
                              go_simp
                              with_reducible rfl
                            rotate_left
                            · simp only [Act.put, List.setIfInBounds_toArray, List.set_cons_zero, List.set_cons_succ, i64_w, i32_w]
                              rfl
                            refine pure_ (i := 7) (N := some 31) (v := ?_) (a' := ?_) #[true, true, true, true, true, true, true, true, false, false, false, false, false, false, false, false, false, false, false, false, false, false, false, false, false] rfl rfl (any_of HT_.out (by kernel_rfl)) (fun _ _ _ h => h) (Or.inl ⟨by rfl, ?_⟩) ?_ ?_
                            rotate_left
                            · intro w'
                              go_simp
                              with_reducible rfl
                            rotate_left
                            · simp only [Act.put, List.setIfInBounds_toArray, List.set_cons_zero, List.set_cons_succ, i64_w, i32_w]
                              rfl
                            refine pure_ (i := 8) (N := some 32) (v := ?_) (a' := ?_) #[true, true, true, true, true, true, true, true, true, false, false, false, false, false, false, false, false, false, false, false, false, false, false, false, false] rfl rfl (any_of HT_.out (by kernel_rfl)) (fun _ _ _ h => h) (Or.inl ⟨by rfl, ?_⟩) ?_ ?_
                            rotate_left
                            · intro w'
                              go_simp
                              with_reducible rfl
                            rotate_left
                            · simp only [Act.put, List.setIfInBounds_toArray, List.set_cons_zero, List.set_cons_succ, i64_w, i32_w]
                              rfl
                            refine pure_ (i := 10) (N := some 34) (v := ?_) (a' := ?_) #[true, true, true, true, true, true, true, true, true, false, true, false, false, false, false, false, false, false, false, false, false, false, false, false, false] rfl rfl (any_of HT_.out (by kernel_rfl)) (fun _ _ _ h => h) (Or.inl ⟨by rfl, ?_⟩) ?_ ?_
                            rotate_left
                            · intro w'
                              go_simp
                              with_reducible rfl
                            rotate_left
                            · simp only [Act.put, List.setIfInBounds_toArray, List.set_cons_zero, List.set_cons_succ, i64_w, i32_w]
                              rfl
                            refine pure_ (i := 11) (N := some 35) (v := ?_) (a' := ?_) #[true, true, true, true, true, true, true, true, true, false, true, true, false, false, false, false, false, false, false, false, false, false, false, false, false] rfl rfl (any_of HT_.out (by kernel_rfl)) (fun _ _ _ h => h) (Or.inl ⟨by rfl, ?_⟩) ?_ ?_
                            rotate_left
                            · intro w'
                              go_simp
                              with_reducible rfl
                            rotate_left
                            · simp only [Act.put, List.setIfInBounds_toArray, List.set_cons_zero, List.set_cons_succ, i64_w, i32_w]
                              rfl
                            refine pure_ (i := 15) (N := some 39) (v := ?_) (a' := ?_) #[true, true, true, true, true, true, true, true, true, false, true, true, false, false, false, true, false, false, false, false, false, false, false, false, false] rfl rfl (any_of HT_.out (by kernel_rfl)) (fun _ _ _ h => h) (Or.inl ⟨by rfl, ?_⟩) ?_ ?_
                            rotate_left
                            · intro w'
                              go_simp
                              with_reducible rfl
                            rotate_left
                            · simp only [Act.put, List.setIfInBounds_toArray, List.set_cons_zero, List.set_cons_succ, i64_w, i32_w]
                              rfl
                            refine pure_ (i := 16) (N := some 40) (v := ?_) (a' := ?_) #[true, true, true, true, true, true, true, true, true, false, true, true, false, false, false, true, true, false, false, false, false, false, false, false, false] rfl rfl (any_of HT_.out (by kernel_rfl)) (fun _ _ _ h => h) (Or.inl ⟨by rfl, ?_⟩) ?_ ?_
                            rotate_left
                            · intro w'
                              go_simp
                              with_reducible rfl
                            rotate_left
                            · simp only [Act.put, List.setIfInBounds_toArray, List.set_cons_zero, List.set_cons_succ, i64_w, i32_w]
                              rfl
                            refine take_ (i := 9) (N := some 33) (v := ?_) (a' := ?_) #[true, true, true, true, true, true, true, true, true, true, true, true, false, false, false, true, true, false, false, false, false, false, false, false, false] rfl rfl (take_ofW HT_.out HW_.out (by kernel_rfl)) (fun _ _ _ h => h) (Or.inl ⟨by rfl, ?_⟩) hHeld ?_ ?_
                            rotate_left
                            · rintro w' ⟨s0, s1, s2, s3, s4, s5, s6⟩
                              go_simp
                              with_reducible rfl
                            rotate_left
                            · simp only [Act.put, List.setIfInBounds_toArray, List.set_cons_zero, List.set_cons_succ, i64_w, i32_w]
                              rfl
                            refine take_ (i := 12) (N := some 36) (v := ?_) (a' := ?_) #[true, true, true, true, true, true, true, true, true, true, true, true, true, false, false, true, true, false, false, false, false, false, false, false, false] rfl rfl (take_ofW HT_.out HW_.out (by kernel_rfl)) (fun _ _ _ h => h) (Or.inl ⟨by rfl, ?_⟩) hHeld ?_ ?_
                            rotate_left
                            · rintro w' ⟨s0, s1, s2, s3, s4, s5, s6⟩
                              go_simp
                              with_reducible rfl
                            rotate_left
                            · simp only [Act.put, List.setIfInBounds_toArray, List.set_cons_zero, List.set_cons_succ, i64_w, i32_w]
                              rfl
                            refine pure_ (i := 13) (N := some 37) (v := ?_) (a' := ?_) #[true, true, true, true, true, true, true, true, true, true, true, true, true, true, false, true, true, false, false, false, false, false, false, false, false] rfl rfl (any_of HT_.out (by kernel_rfl)) (fun _ _ _ h => h) (Or.inl ⟨by rfl, ?_⟩) ?_ ?_
                            rotate_left
                            · intro w'
                              go_simp
                              with_reducible rfl
                            rotate_left
                            · simp only [Act.put, List.setIfInBounds_toArray, List.set_cons_zero, List.set_cons_succ, i64_w, i32_w]
                              rfl
                            refine take_ (i := 14) (N := some 38) (v := ?_) (a' := ?_) #[true, true, true, true, true, true, true, true, true, true, true, true, true, true, true, true, true, false, false, false, false, false, false, false, false] rfl rfl (take_ofW HT_.out HW_.out (by kernel_rfl)) (fun _ _ _ h => h) (Or.inl ⟨by rfl, ?_⟩) hHeld ?_ ?_
                            rotate_left
                            · rintro w' ⟨s0, s1, s2, s3, s4, s5, s6⟩
                              go_simp
                              with_reducible rfl
                            rotate_left
                            · simp only [Act.put, List.setIfInBounds_toArray, List.set_cons_zero, List.set_cons_succ, i64_w, i32_w]
                              rfl
                            refine take_ (i := 17) (N := some 41) (v := ?_) (a' := ?_) #[true, true, true, true, true, true, true, true, true, true, true, true, true, true, true, true, true, true, false, false, false, false, false, false, false] rfl rfl (take_ofW HT_.out HW_.out (by kernel_rfl)) (fun _ _ _ h => h) (Or.inl ⟨by rfl, ?_⟩) hHeld ?_ ?_
                            rotate_left
                            · rintro w' ⟨s0, s1, s2, s3, s4, s5, s6⟩
                              go_simp
                              with_reducible rfl
                            rotate_left
                            · simp only [Act.put, List.setIfInBounds_toArray, List.set_cons_zero, List.set_cons_succ, i64_w, i32_w]
                              rfl
                            refine pure_ (i := 18) (N := some 42) (v := ?_) (a' := ?_) #[true, true, true, true, true, true, true, true, true, true, true, true, true, true, true, true, true, true, true, false, false, false, false, false, false] rfl rfl (any_of HT_.out (by kernel_rfl)) (fun _ _ _ h => h) (Or.inl ⟨by rfl, ?_⟩) ?_ ?_
                            rotate_left
                            · intro w'
                              go_simp
                              with_reducible rfl
                            rotate_left
                            · simp only [Act.put, List.setIfInBounds_toArray, List.set_cons_zero, List.set_cons_succ, i64_w, i32_w]
                              rfl
                            refine pure_ (i := 19) (N := some 43) (v := ?_) (a' := ?_) #[true, true, true, true, true, true, true, true, true, true, true, true, true, true, true, true, true, true, true, true, false, false, false, false, false] rfl rfl (any_of HT_.out (by kernel_rfl)) (fun _ _ _ h => h) (Or.inl ⟨by rfl, ?_⟩) ?_ ?_
                            rotate_left
                            · intro w'
                              go_simp
                              with_reducible rfl
                            rotate_left
                            · simp only [Act.put, List.setIfInBounds_toArray, List.set_cons_zero, List.set_cons_succ, i64_w, i32_w]
                              rfl
                            refine take_ (i := 20) (N := some 44) (v := ?_) (a' := ?_) #[true, true, true, true, true, true, true, true, true, true, true, true, true, true, true, true, true, true, true, true, true, false, false, false, false] rfl rfl (take_ofW HT_.out HW_.out (by kernel_rfl)) (fun _ _ _ h => h) (Or.inl ⟨by rfl, ?_⟩) hHeld ?_ ?_
                            rotate_left
                            · rintro w' ⟨s0, s1, s2, s3, s4, s5, s6⟩
                              go_simp
                              with_reducible rfl
                            rotate_left
                            · simp only [Act.put, List.setIfInBounds_toArray, List.set_cons_zero, List.set_cons_succ, i64_w, i32_w]
                              rfl
                            refine pure_ (i := 21) (N := some 45) (v := ?_) (a' := ?_) #[true, true, true, true, true, true, true, true, true, true, true, true, true, true, true, true, true, true, true, true, true, true, false, false, false] rfl rfl (any_of HT_.out (by kernel_rfl)) (fun _ _ _ h => h) (Or.inl ⟨by rfl, ?_⟩) ?_ ?_
                            rotate_left
                            · intro w'
                              go_simp
                              with_reducible rfl
                            rotate_left
                            · simp only [Act.put, List.setIfInBounds_toArray, List.set_cons_zero, List.set_cons_succ, i64_w, i32_w]
                              rfl
                            refine one_ (i := 22) (N := some 46) #[true, true, true, true, true, true, true, true, true, true, true, true, true, true, true, true, true, true, true, true, true, true, true, false, false] rfl rfl (one_of HT_.out (by kernel_rfl)) (by decide) (fun K hK => ?_)
                            refine goes_ Try.func65 (by kernel_rfl) rfl #[.int .i64 ((rd_T81 l1 x17_1).f1), .int .i64 (wrap64 ((rd x5_1 ((rd_T81 l1 x17_1).f0)) * ((rd_T54 l0 ((rd_T81 l1 x17_1).f0)).f2))), .int .i64 100000] (by rfl) rfl rfl (by (try simp only [List.map_toArray, List.map_cons, List.map_nil]); first | done | rfl | (simp only [List.length_drop, List.length_take]; rfl)) ?_
                            with_reducible refine (spec_l00In.calls ((rd_T81 l1 x17_1).f1) (wrap64 ((rd x5_1 ((rd_T81 l1 x17_1).f0)) * ((rd_T54 l0 ((rd_T81 l1 x17_1).f0)).f2))) 100000 t163 _ A19.out).mono ?_
                            rintro e w' ⟨rfl, ⟨nd, rfl⟩⟩
                            refine ⟨_, rfl, ?_⟩
                            refine hK.out _ _ ⟨(blk_cell BK159.out 0).trans rfl, (blk_cell BK159.out 1).trans rfl, hHeld.2.2.1, ((HB.out.cell (World.block_lt_of_cell? w _ hw162_0)).trans hw162_0), ((HB.out.cell (World.block_lt_of_cell? w _ hw162_1)).trans hw162_1), ((HB.out.cell (World.block_lt_of_cell? w _ hw162_2)).trans hw162_2), ((HB.out.cell (World.block_lt_of_cell? w _ hw162_3)).trans hw162_3)⟩ (fun hHeld => ?_)
                            clear hK K
                            refine norm_ (a' := ?_) ?_ ?_
                            rotate_left
                            · show Act.put _ (some 46) _ = _
                              simp only [Act.put, List.setIfInBounds_toArray, List.set_cons_zero, List.set_cons_succ, i64_w, i32_w]
                              rfl
                            refine pure_ (i := 23) (N := some 47) (v := ?_) (a' := ?_) #[true, true, true, true, true, true, true, true, true, true, true, true, true, true, true, true, true, true, true, true, true, true, true, true, false] rfl rfl (any_of HT_.out (by kernel_rfl)) (fun _ _ _ h => h) (Or.inl ⟨by rfl, ?_⟩) ?_ ?_
                            rotate_left
                            · intro w'
                              go_simp
                              with_reducible rfl
                            rotate_left
                            · simp only [Act.put, List.setIfInBounds_toArray, List.set_cons_zero, List.set_cons_succ, i64_w, i32_w]
                              rfl
                            refine pure_ (i := 24) (N := some 48) (v := ?_) (a' := ?_) #[true, true, true, true, true, true, true, true, true, true, true, true, true, true, true, true, true, true, true, true, true, true, true, true, true] rfl rfl (any_of HT_.out (by kernel_rfl)) (fun _ _ _ h => h) (Or.inl ⟨by rfl, ?_⟩) ?_ ?_
                            rotate_left
                            · intro w'
                              go_simp
                              with_reducible rfl
                            rotate_left
                            · simp only [Act.put, List.setIfInBounds_toArray, List.set_cons_zero, List.set_cons_succ, i64_w, i32_w]
                              rfl
                            refine done_ (done_of HT_.out (by kernel_rfl)) ?_
                            try go_wp2
                            go_meet
                            case rel => exact ⟨_, (!t163), (by first | rfl | (simp; done) | (simp [*]; done)), H', ⟨by have := HK1.out; first | omega | exact Nat.le_refl _⟩, ⟨by (with_reducible repeat (first | apply Kd.R_alloc | apply Kd.R_drewN | apply Kd.R_drew)); exact HO_5.out⟩, ⟨by (with_reducible repeat (first | refine blk_drewN ?_ _ | refine blk_drew ?_ | refine blk_alloc ?_ _)); exact BK159.out⟩, ⟨by repeat (first | (with_reducible first | exact HB.out | apply below_alloc | apply pw_below_drewN | apply below_drew1 | refine below_set ?_ GE159.out) | exact HB.out)⟩⟩
                          · rw [if_neg c18] at H
                            exact absurd H (by simp)
                        · rw [if_neg c17] at H
                          exact absurd H (by simp)
                      · rw [if_neg c16] at H
                        exact absurd H (by simp)
                    · replace c15 := Bool.eq_false_iff.mpr c15
                      subst c15
                      have H1 : (spec_l09Slots.j1 k1 l0 l1 x5_1 x17_1 (l1.length : Int) x17_1 true ((rd_T81 l1 x17_1).f0) ((rd_T81 l1 x17_1).f1)) = some r := by rw [if_neg (show ¬ (false = true) by decide)] at H; exact H
                      clear H
                      have H := H1
                      clear H1
                      have H' := Aside0.mk H
                      clear H
                      try go_wp2
                      have n0_ : Aside0 (Kd.R (Kd.int .i64) 2 ((w12.setCell ⟨gb159, 0, none⟩ (.int .i64 ((rd_T81 l1 x17_1).f0))).setCell ⟨gb159, 1, none⟩ (.int .i64 ((rd_T81 l1 x17_1).f1))) w.heap.size (fun _ => True) v156 x5_1) := ⟨by (with_reducible repeat (first | apply Kd.R_alloc | apply Kd.R_drewN | apply Kd.R_drew)); exact Kd.R_mono (Kd.R_far (p := ⟨gb159, 1, none⟩) (Kd.R_far (p := ⟨gb159, 0, none⟩) (Kd.R_types HO_5.out BK159.out (by decide)) (fun _ hk => hk.2) (.int .i64 ((rd_T81 l1 x17_1).f0))) (fun _ hk => hk.2) (.int .i64 ((rd_T81 l1 x17_1).f1))) (fun _ hk => trivial)⟩
                      have n1_ : Aside0 (((w12.setCell ⟨gb159, 0, none⟩ (.int .i64 ((rd_T81 l1 x17_1).f0))).setCell ⟨gb159, 1, none⟩ (.int .i64 ((rd_T81 l1 x17_1).f1))).heap[gb159]? = some (.cells #[.int .i64 ((rd_T81 l1 x17_1).f0), .int .i64 ((rd_T81 l1 x17_1).f1)] 81 (0, 0))) := ⟨by (with_reducible repeat (first | refine blk_drewN ?_ _ | refine blk_drew ?_ | refine blk_alloc ?_ _)); refine blk_put (cs := #[.int .i64 ((rd_T81 l1 x17_1).f0), .int .i64 0]) ?_ 1 _ rfl; (with_reducible repeat (first | refine blk_drewN ?_ _ | refine blk_drew ?_ | refine blk_alloc ?_ _)); refine blk_put (cs := #[.int .i64 0, .int .i64 0]) ?_ 0 _ rfl; (with_reducible repeat (first | refine blk_drewN ?_ _ | refine blk_drew ?_ | refine blk_alloc ?_ _)); exact BK159.out⟩
                      have n2_ : Aside0 (Below w.heap.size w ((w12.setCell ⟨gb159, 0, none⟩ (.int .i64 ((rd_T81 l1 x17_1).f0))).setCell ⟨gb159, 1, none⟩ (.int .i64 ((rd_T81 l1 x17_1).f1)))) := ⟨by repeat (first | (with_reducible first | exact HB.out | apply below_alloc | apply pw_below_drewN | apply below_drew1 | refine below_set ?_ GE159.out) | exact HB.out)⟩
                      (try clear HO_5)
                      (try clear BK159)
                      (try clear HB)
                      generalize ((w12.setCell ⟨gb159, 0, none⟩ (.int .i64 ((rd_T81 l1 x17_1).f0))).setCell ⟨gb159, 1, none⟩ (.int .i64 ((rd_T81 l1 x17_1).f1))) = w23 at n0_ n1_ n2_ ⊢
                      have HO_5 := n0_
                      have BK159 := n1_
                      have HB := n2_
                      clear n0_ n1_ n2_
                      have n0_ := Aside0.mk (Kd.R_drew HO_5.out)
                      have n1_ := Aside0.mk (blk_drew BK159.out)
                      have n2_ := Aside0.mk (below_drew1 HB.out)
                      clear HO_5
                      clear BK159
                      clear HB
                      have HO_5 := n0_
                      have BK159 := n1_
                      have HB := n2_
                      clear n0_ n1_ n2_
                      refine start_ (n := 25) (S := fun w' => w'.cell? ⟨gb159, 0, none⟩ = some (.int .i64 ((rd_T81 l1 x17_1).f0)) ∧ w'.cell? ⟨gb159, 1, none⟩ = some (.int .i64 ((rd_T81 l1 x17_1).f1))) (ds := []) #[false, false, false, false, false, false, false, false, false, false, false, false, false, false, false, false, false, false, false, false, false, false, false, false, false] (by kernel_rfl) rfl rfl ⟨(blk_cell BK159.out 0).trans rfl, (blk_cell BK159.out 1).trans rfl⟩ (fun hHeld => ?_); refine with_tabW spec_l09Slots.tab8 spec_l09Slots.bits8 (fun HT_ HW_ => ?_)
                      generalize w23.drew = w24 at HO_5 BK159 HB hHeld ⊢
                      refine pure_ (i := 0) (N := some 24) (v := ?_) (a' := ?_) #[true, false, false, false, false, false, false, false, false, false, false, false, false, false, false, false, false, false, false, false, false, false, false, false, false] rfl rfl (any_of HT_.out (by kernel_rfl)) (fun _ _ _ h => h) (Or.inl ⟨by rfl, ?_⟩) ?_ ?_
                      rotate_left
                      · intro w'
                        go_simp
                        with_reducible rfl
                      rotate_left
                      · simp only [Act.put, List.setIfInBounds_toArray, List.set_cons_zero, List.set_cons_succ, i64_w, i32_w]
                        rfl
                      refine pure_ (i := 2) (N := some 26) (v := ?_) (a' := ?_) #[true, false, true, false, false, false, false, false, false, false, false, false, false, false, false, false, false, false, false, false, false, false, false, false, false] rfl rfl (any_of HT_.out (by kernel_rfl)) (fun _ _ _ h => h) (Or.inl ⟨by rfl, ?_⟩) ?_ ?_
                      rotate_left
                      · intro w'
                        go_simp
                        with_reducible rfl
                      rotate_left
                      · simp only [Act.put, List.setIfInBounds_toArray, List.set_cons_zero, List.set_cons_succ, i64_w, i32_w]
                        rfl
                      refine pure_ (i := 3) (N := some 27) (v := ?_) (a' := ?_) #[true, false, true, true, false, false, false, false, false, false, false, false, false, false, false, false, false, false, false, false, false, false, false, false, false] rfl rfl (any_of HT_.out (by kernel_rfl)) (fun _ _ _ h => h) (Or.inl ⟨by rfl, ?_⟩) ?_ ?_
                      rotate_left
                      · intro w'
                        go_simp
                        with_reducible rfl
                      rotate_left
                      · simp only [Act.put, List.setIfInBounds_toArray, List.set_cons_zero, List.set_cons_succ, i64_w, i32_w]
                        rfl
                      refine pure_ (i := 4) (N := some 28) (v := ?_) (a' := ?_) #[true, false, true, true, true, false, false, false, false, false, false, false, false, false, false, false, false, false, false, false, false, false, false, false, false] rfl rfl (any_of HT_.out (by kernel_rfl)) (fun _ _ _ h => h) (Or.inl ⟨by rfl, ?_⟩) ?_ ?_
                      rotate_left
                      · intro w'
                        go_simp
                        with_reducible rfl
                      rotate_left
                      · simp only [Act.put, List.setIfInBounds_toArray, List.set_cons_zero, List.set_cons_succ, i64_w, i32_w]
                        rfl
                      refine take_ (i := 1) (N := some 25) (v := ?_) (a' := ?_) #[true, true, true, true, true, false, false, false, false, false, false, false, false, false, false, false, false, false, false, false, false, false, false, false, false] rfl rfl (take_ofW HT_.out HW_.out (by kernel_rfl)) (fun _ _ _ h => h) (Or.inl ⟨by rfl, ?_⟩) hHeld ?_ ?_
                      rotate_left
                      · rintro w' ⟨s0, s1⟩
                        go_simp
                        with_reducible rfl
                      rotate_left
                      · simp only [Act.put, List.setIfInBounds_toArray, List.set_cons_zero, List.set_cons_succ, i64_w, i32_w]
                        rfl
                      refine one_ (i := 5) (N := some 29) #[true, true, true, true, true, true, false, false, false, false, false, false, false, false, false, false, false, false, false, false, false, false, false, false, false] rfl rfl (one_of HT_.out (by kernel_rfl)) (by decide) (fun K hK => ?_)
                      refine goes_ Try.func65 (by kernel_rfl) rfl #[.int .i64 ((rd_T81 l1 x17_1).f0), .int .i64 0, .int .i64 (wrap64 ((l0.length : Int) - 1))] (by rfl) rfl rfl (by (try simp only [List.map_toArray, List.map_cons, List.map_nil]); first | done | rfl | (simp only [List.length_drop, List.length_take]; rfl)) ?_
                      with_reducible refine (spec_l00In.calls ((rd_T81 l1 x17_1).f0) 0 (wrap64 ((l0.length : Int) - 1)) false _ A14.out).mono ?_
                      rintro e w' ⟨rfl, ⟨nd, rfl⟩⟩
                      refine ⟨_, rfl, ?_⟩
                      refine hK.out _ _ ⟨(blk_cell BK159.out 0).trans rfl, (blk_cell BK159.out 1).trans rfl⟩ (fun hHeld => ?_)
                      clear hK K
                      refine norm_ (a' := ?_) ?_ ?_
                      rotate_left
                      · show Act.put _ (some 29) _ = _
                        simp only [Act.put, List.setIfInBounds_toArray, List.set_cons_zero, List.set_cons_succ, i64_w, i32_w]
                        rfl
                      refine pure_ (i := 6) (N := some 30) (v := ?_) (a' := ?_) #[true, true, true, true, true, true, true, false, false, false, false, false, false, false, false, false, false, false, false, false, false, false, false, false, false] rfl rfl (any_of HT_.out (by kernel_rfl)) (fun _ _ _ h => h) (Or.inl ⟨by rfl, ?_⟩) ?_ ?_
                      rotate_left
                      · intro w'
                        go_simp
                        with_reducible rfl
                      rotate_left
                      · simp only [Act.put, List.setIfInBounds_toArray, List.set_cons_zero, List.set_cons_succ, i64_w, i32_w]
                        rfl
                      refine pure_ (i := 7) (N := some 31) (v := ?_) (a' := ?_) #[true, true, true, true, true, true, true, true, false, false, false, false, false, false, false, false, false, false, false, false, false, false, false, false, false] rfl rfl (any_of HT_.out (by kernel_rfl)) (fun _ _ _ h => h) (Or.inl ⟨by rfl, ?_⟩) ?_ ?_
                      rotate_left
                      · intro w'
                        go_simp
                        with_reducible rfl
                      rotate_left
                      · simp only [Act.put, List.setIfInBounds_toArray, List.set_cons_zero, List.set_cons_succ, i64_w, i32_w]
                        rfl
                      refine pure_ (i := 8) (N := some 32) (v := undef) (a' := ?_) #[true, true, true, true, true, true, true, true, true, false, false, false, false, false, false, false, false, false, false, false, false, false, false, false, false] rfl rfl (any_of HT_.out (by kernel_rfl)) (fun _ _ _ h => h) (Or.inr ⟨by rfl, rfl⟩) ?_ ?_
                      rotate_left
                      · simp only [Act.put, List.setIfInBounds_toArray, List.set_cons_zero, List.set_cons_succ, i64_w, i32_w]
                        rfl
                      refine pure_ (i := 9) (N := some 33) (v := undef) (a' := ?_) #[true, true, true, true, true, true, true, true, true, true, false, false, false, false, false, false, false, false, false, false, false, false, false, false, false] rfl rfl (any_of HT_.out (by kernel_rfl)) (fun _ _ _ h => h) (Or.inr ⟨by rfl, rfl⟩) ?_ ?_
                      rotate_left
                      · simp only [Act.put, List.setIfInBounds_toArray, List.set_cons_zero, List.set_cons_succ, i64_w, i32_w]
                        rfl
                      refine pure_ (i := 10) (N := some 34) (v := undef) (a' := ?_) #[true, true, true, true, true, true, true, true, true, true, true, false, false, false, false, false, false, false, false, false, false, false, false, false, false] rfl rfl (any_of HT_.out (by kernel_rfl)) (fun _ _ _ h => h) (Or.inr ⟨by rfl, rfl⟩) ?_ ?_
                      rotate_left
                      · simp only [Act.put, List.setIfInBounds_toArray, List.set_cons_zero, List.set_cons_succ, i64_w, i32_w]
                        rfl
                      refine pure_ (i := 11) (N := some 35) (v := undef) (a' := ?_) #[true, true, true, true, true, true, true, true, true, true, true, true, false, false, false, false, false, false, false, false, false, false, false, false, false] rfl rfl (any_of HT_.out (by kernel_rfl)) (fun _ _ _ h => h) (Or.inr ⟨by rfl, rfl⟩) ?_ ?_
                      rotate_left
                      · simp only [Act.put, List.setIfInBounds_toArray, List.set_cons_zero, List.set_cons_succ, i64_w, i32_w]
                        rfl
                      refine pure_ (i := 12) (N := some 36) (v := undef) (a' := ?_) #[true, true, true, true, true, true, true, true, true, true, true, true, true, false, false, false, false, false, false, false, false, false, false, false, false] rfl rfl (any_of HT_.out (by kernel_rfl)) (fun _ _ _ h => h) (Or.inr ⟨by rfl, rfl⟩) ?_ ?_
                      rotate_left
                      · simp only [Act.put, List.setIfInBounds_toArray, List.set_cons_zero, List.set_cons_succ, i64_w, i32_w]
                        rfl
                      refine pure_ (i := 13) (N := some 37) (v := undef) (a' := ?_) #[true, true, true, true, true, true, true, true, true, true, true, true, true, true, false, false, false, false, false, false, false, false, false, false, false] rfl rfl (any_of HT_.out (by kernel_rfl)) (fun _ _ _ h => h) (Or.inr ⟨by rfl, rfl⟩) ?_ ?_
                      rotate_left
                      · simp only [Act.put, List.setIfInBounds_toArray, List.set_cons_zero, List.set_cons_succ, i64_w, i32_w]
                        rfl
                      refine pure_ (i := 14) (N := some 38) (v := undef) (a' := ?_) #[true, true, true, true, true, true, true, true, true, true, true, true, true, true, true, false, false, false, false, false, false, false, false, false, false] rfl rfl (any_of HT_.out (by kernel_rfl)) (fun _ _ _ h => h) (Or.inr ⟨by rfl, rfl⟩) ?_ ?_
                      rotate_left
                      · simp only [Act.put, List.setIfInBounds_toArray, List.set_cons_zero, List.set_cons_succ, i64_w, i32_w]
                        rfl
                      refine pure_ (i := 15) (N := some 39) (v := undef) (a' := ?_) #[true, true, true, true, true, true, true, true, true, true, true, true, true, true, true, true, false, false, false, false, false, false, false, false, false] rfl rfl (any_of HT_.out (by kernel_rfl)) (fun _ _ _ h => h) (Or.inr ⟨by rfl, rfl⟩) ?_ ?_
                      rotate_left
                      · simp only [Act.put, List.setIfInBounds_toArray, List.set_cons_zero, List.set_cons_succ, i64_w, i32_w]
                        rfl
                      refine pure_ (i := 16) (N := some 40) (v := undef) (a' := ?_) #[true, true, true, true, true, true, true, true, true, true, true, true, true, true, true, true, true, false, false, false, false, false, false, false, false] rfl rfl (any_of HT_.out (by kernel_rfl)) (fun _ _ _ h => h) (Or.inr ⟨by rfl, rfl⟩) ?_ ?_
                      rotate_left
                      · simp only [Act.put, List.setIfInBounds_toArray, List.set_cons_zero, List.set_cons_succ, i64_w, i32_w]
                        rfl
                      refine pure_ (i := 17) (N := some 41) (v := undef) (a' := ?_) #[true, true, true, true, true, true, true, true, true, true, true, true, true, true, true, true, true, true, false, false, false, false, false, false, false] rfl rfl (any_of HT_.out (by kernel_rfl)) (fun _ _ _ h => h) (Or.inr ⟨by rfl, rfl⟩) ?_ ?_
                      rotate_left
                      · simp only [Act.put, List.setIfInBounds_toArray, List.set_cons_zero, List.set_cons_succ, i64_w, i32_w]
                        rfl
                      refine pure_ (i := 18) (N := some 42) (v := undef) (a' := ?_) #[true, true, true, true, true, true, true, true, true, true, true, true, true, true, true, true, true, true, true, false, false, false, false, false, false] rfl rfl (any_of HT_.out (by kernel_rfl)) (fun _ _ _ h => h) (Or.inr ⟨by rfl, rfl⟩) ?_ ?_
                      rotate_left
                      · simp only [Act.put, List.setIfInBounds_toArray, List.set_cons_zero, List.set_cons_succ, i64_w, i32_w]
                        rfl
                      refine pure_ (i := 19) (N := some 43) (v := undef) (a' := ?_) #[true, true, true, true, true, true, true, true, true, true, true, true, true, true, true, true, true, true, true, true, false, false, false, false, false] rfl rfl (any_of HT_.out (by kernel_rfl)) (fun _ _ _ h => h) (Or.inr ⟨by rfl, rfl⟩) ?_ ?_
                      rotate_left
                      · simp only [Act.put, List.setIfInBounds_toArray, List.set_cons_zero, List.set_cons_succ, i64_w, i32_w]
                        rfl
                      refine pure_ (i := 20) (N := some 44) (v := undef) (a' := ?_) #[true, true, true, true, true, true, true, true, true, true, true, true, true, true, true, true, true, true, true, true, true, false, false, false, false] rfl rfl (any_of HT_.out (by kernel_rfl)) (fun _ _ _ h => h) (Or.inr ⟨by rfl, rfl⟩) ?_ ?_
                      rotate_left
                      · simp only [Act.put, List.setIfInBounds_toArray, List.set_cons_zero, List.set_cons_succ, i64_w, i32_w]
                        rfl
                      refine pure_ (i := 21) (N := some 45) (v := undef) (a' := ?_) #[true, true, true, true, true, true, true, true, true, true, true, true, true, true, true, true, true, true, true, true, true, true, false, false, false] rfl rfl (any_of HT_.out (by kernel_rfl)) (fun _ _ _ h => h) (Or.inr ⟨by rfl, rfl⟩) ?_ ?_
                      rotate_left
                      · simp only [Act.put, List.setIfInBounds_toArray, List.set_cons_zero, List.set_cons_succ, i64_w, i32_w]
                        rfl
                      refine pure_ (i := 22) (N := some 46) (v := undef) (a' := ?_) #[true, true, true, true, true, true, true, true, true, true, true, true, true, true, true, true, true, true, true, true, true, true, true, false, false] rfl rfl (any_of HT_.out (by kernel_rfl)) (fun _ _ _ h => h) (Or.inr ⟨by rfl, rfl⟩) ?_ ?_
                      rotate_left
                      · simp only [Act.put, List.setIfInBounds_toArray, List.set_cons_zero, List.set_cons_succ, i64_w, i32_w]
                        rfl
                      refine pure_ (i := 23) (N := some 47) (v := undef) (a' := ?_) #[true, true, true, true, true, true, true, true, true, true, true, true, true, true, true, true, true, true, true, true, true, true, true, true, false] rfl rfl (any_of HT_.out (by kernel_rfl)) (fun _ _ _ h => h) (Or.inr ⟨by rfl, rfl⟩) ?_ ?_
                      rotate_left
                      · simp only [Act.put, List.setIfInBounds_toArray, List.set_cons_zero, List.set_cons_succ, i64_w, i32_w]
                        rfl
                      refine pure_ (i := 24) (N := some 48) (v := ?_) (a' := ?_) #[true, true, true, true, true, true, true, true, true, true, true, true, true, true, true, true, true, true, true, true, true, true, true, true, true] rfl rfl (any_of HT_.out (by kernel_rfl)) (fun _ _ _ h => h) (Or.inl ⟨by rfl, ?_⟩) ?_ ?_
                      rotate_left
                      · intro w'
                        go_simp
                        with_reducible rfl
                      rotate_left
                      · simp only [Act.put, List.setIfInBounds_toArray, List.set_cons_zero, List.set_cons_succ, i64_w, i32_w]
                        rfl
                      refine done_ (done_of HT_.out (by kernel_rfl)) ?_
                      try go_wp2
                      go_meet
                      case rel => exact ⟨_, (true), (by first | rfl | (simp; done) | (simp [*]; done)), H', ⟨by have := HK1.out; first | omega | exact Nat.le_refl _⟩, ⟨by (with_reducible repeat (first | apply Kd.R_alloc | apply Kd.R_drewN | apply Kd.R_drew)); exact HO_5.out⟩, ⟨by (with_reducible repeat (first | refine blk_drewN ?_ _ | refine blk_drew ?_ | refine blk_alloc ?_ _)); exact BK159.out⟩, ⟨by repeat (first | (with_reducible first | exact HB.out | apply below_alloc | apply pw_below_drewN | apply below_drew1 | refine below_set ?_ GE159.out) | exact HB.out)⟩⟩
                  case rest =>
                    clear HC11
                    try clear c1
                    try clear p1
                    try clear q1
                    try clear hx1
                    try clear p2
                    try clear c3
                    try clear c3b0
                    try clear c3b1
                    try clear c4
                    try clear c4b0
                    try clear c4b1
                    try clear c5
                    try clear c5b0
                    try clear c5b1
                    try clear c6
                    try clear p6
                    try clear c8
                    try clear c8b0
                    try clear c9
                    try clear c9b0
                    try clear c10
                    try clear c10b0
                    try clear c15
                    try clear p15
                    try clear q15
                    try clear hx15
                    try clear c16
                    try clear c16b0
                    try clear p16
                    try clear q16
                    try clear hx16
                    try clear c17
                    try clear c17b0
                    try clear c18
                    try clear c18b0
                    try clear hcz13_0
                    try clear hcz13_1
                    try clear hfz13_0
                    try clear hfz13_1
                    try clear hx158_0
                    try clear hx158_1
                    try clear hx161_0
                    try clear hx162_0
                    try clear hx162_1
                    try clear hx162_2
                    try clear hx162_3
                    try clear p158
                    try clear p161
                    try clear p162
                    try clear p2
                    try clear q158
                    try clear q161
                    try clear q162
                    obtain ⟨kq, x48_10, rfl, HA, HJ10, HO_5, BK159, HB⟩ := hcut
                    cases kq with
                    | zero => exact absurd HA.out (by simp [spec_l09Slots.j1])
                    | succ kj10 =>
                      have H := HA.out
                      clear HA
                      simp only [spec_l09Slots.j1] at H
                      by_cases c25 : x48_10 = true
                      · subst c25
                        have H1 : (some false) = some r := by rw [if_pos rfl] at H; exact H
                        clear H
                        have H := H1
                        clear H1
                        obtain rfl := Option.some.inj H
                        go_wp2
                        go_ret
                        exact ⟨by first | rfl | (simp [errW_none, errW_some] <;> rfl) | (simp [*, errW_none, errW_some] <;> rfl), by repeat (first | (with_reducible first | exact HB.out | apply below_alloc | apply pw_below_drewN | apply below_drew1 | refine below_set ?_ GE159.out) | exact HB.out)⟩
                      · replace c25 := Bool.eq_false_iff.mpr c25
                        subst c25
                        have H1 : (if x17_1 > 0 then (if 0 ≤ (wrap64 (x17_1 - 1)) then (if (wrap64 (x17_1 - 1)) < (l1.length : Int) then (if 0 ≤ ((rd_T81 l1 (wrap64 (x17_1 - 1))).f0) then (if ((rd_T81 l1 (wrap64 (x17_1 - 1))).f0) < (l0.length : Int) then (if 0 ≤ ((rd_T81 l1 x17_1).f0) then (if ((rd_T81 l1 x17_1).f0) < (l0.length : Int) then ((spec_l09Switch.f ((rd_T54 l0 ((rd_T81 l1 (wrap64 (x17_1 - 1))).f0)).f0.f0) ((rd_T54 l0 ((rd_T81 l1 (wrap64 (x17_1 - 1))).f0)).f0.f1) ((rd_T54 l0 ((rd_T81 l1 x17_1).f0)).f0.f0) ((rd_T54 l0 ((rd_T81 l1 x17_1).f0)).f0.f1)).bind fun t169 => (if ((rd_T81 l1 x17_1).f1) < (wrap64 ((wrap64 (((rd_T81 l1 (wrap64 (x17_1 - 1))).f1) + ((rd_T54 l0 ((rd_T81 l1 (wrap64 (x17_1 - 1))).f0)).f1))) + t169)) then (some false) else (if ((rd_T81 l1 x17_1).f0) < (x5_1.length : Int) then (spec_l09Slots.l0 kj10 l0 l1 (x5_1.set (((rd_T81 l1 x17_1).f0) : Int).toNat (wrap64 ((rd x5_1 ((rd_T81 l1 x17_1).f0)) + 1))) (l1.length : Int) (wrap64 (x17_1 + 1))) else (none)))) else (none)) else (none)) else (none)) else (none)) else (none)) else (none)) else (if 0 ≤ ((rd_T81 l1 x17_1).f0) then (if ((rd_T81 l1 x17_1).f0) < (x5_1.length : Int) then (spec_l09Slots.l0 kj10 l0 l1 (x5_1.set (((rd_T81 l1 x17_1).f0) : Int).toNat (wrap64 ((rd x5_1 ((rd_T81 l1 x17_1).f0)) + 1))) (l1.length : Int) (wrap64 (x17_1 + 1))) else (none)) else (none))) = some r := by rw [if_neg (show ¬ (false = true) by decide)] at H; exact H
                        clear H
                        have H := H1
                        clear H1
                        by_cases c26 : x17_1 > 0
                        · rw [if_pos c26] at H
                          have c26b0 : decide (0 < x17_1) = true := decide_eq_true c26
                          clear c26
                          obtain ⟨ji27, hji27⟩ : ∃ j_ : Int, (wrap64 (x17_1 - 1)) = j_ := ⟨_, rfl⟩
                          replace H : (if 0 ≤ (ji27) then (if (ji27) < (l1.length : Int) then (if 0 ≤ ((rd_T81 l1 (ji27)).f0) then (if ((rd_T81 l1 (ji27)).f0) < (l0.length : Int) then (if 0 ≤ ((rd_T81 l1 x17_1).f0) then (if ((rd_T81 l1 x17_1).f0) < (l0.length : Int) then ((spec_l09Switch.f ((rd_T54 l0 ((rd_T81 l1 (ji27)).f0)).f0.f0) ((rd_T54 l0 ((rd_T81 l1 (ji27)).f0)).f0.f1) ((rd_T54 l0 ((rd_T81 l1 x17_1).f0)).f0.f0) ((rd_T54 l0 ((rd_T81 l1 x17_1).f0)).f0.f1)).bind fun t169 => (if ((rd_T81 l1 x17_1).f1) < (wrap64 ((wrap64 (((rd_T81 l1 (ji27)).f1) + ((rd_T54 l0 ((rd_T81 l1 (ji27)).f0)).f1))) + t169)) then (some false) else (if ((rd_T81 l1 x17_1).f0) < (x5_1.length : Int) then (spec_l09Slots.l0 kj10 l0 l1 (x5_1.set (((rd_T81 l1 x17_1).f0) : Int).toNat (wrap64 ((rd x5_1 ((rd_T81 l1 x17_1).f0)) + 1))) (l1.length : Int) (wrap64 (x17_1 + 1))) else (none)))) else (none)) else (none)) else (none)) else (none)) else (none)) else (none)) = some r := by first | (rw [hji27] at H; exact H) | (simp only [hji27] at H ⊢; exact H)
                          have hji27w : (IntKind.i64.wrap (x17_1 - 1)) = ji27 := (i64_w _).trans hji27
                          by_cases c28 : 0 ≤ (ji27)
                          · rw [if_pos c28] at H
                            have c28b0 : decide (0 ≤ (ji27)) = true := decide_eq_true c28
                            clear c28
                            by_cases c29 : (ji27) < (l1.length : Int)
                            · rw [if_pos c29] at H
                              have c29b0 : decide ((ji27) < (l1.length : Int)) = true := decide_eq_true c29
                              clear c29
                              by_cases c30 : 0 ≤ ((rd_T81 l1 (ji27)).f0)
                              · rw [if_pos c30] at H
                                have c30b0 : decide (0 ≤ ((rd_T81 l1 (ji27)).f0)) = true := decide_eq_true c30
                                clear c30
                                by_cases c31 : ((rd_T81 l1 (ji27)).f0) < (l0.length : Int)
                                · rw [if_pos c31] at H
                                  have c31b0 : decide (((rd_T81 l1 (ji27)).f0) < (l0.length : Int)) = true := decide_eq_true c31
                                  clear c31
                                  by_cases c32 : 0 ≤ ((rd_T81 l1 x17_1).f0)
                                  · rw [if_pos c32] at H
                                    have c32b0 : decide (0 ≤ ((rd_T81 l1 x17_1).f0)) = true := decide_eq_true c32
                                    clear c32
                                    by_cases c33 : ((rd_T81 l1 x17_1).f0) < (l0.length : Int)
                                    · rw [if_pos c33] at H
                                      have c33b0 : decide (((rd_T81 l1 x17_1).f0) < (l0.length : Int)) = true := decide_eq_true c33
                                      clear c33
                                      replace H := Option.bind_eq_some_iff.mp H
                                      obtain ⟨t169, A340, H⟩ := H
                                      replace H : (if ((rd_T81 l1 x17_1).f1) < (wrap64 ((wrap64 (((rd_T81 l1 (ji27)).f1) + ((rd_T54 l0 ((rd_T81 l1 (ji27)).f0)).f1))) + t169)) then (some false) else (if ((rd_T81 l1 x17_1).f0) < (x5_1.length : Int) then (spec_l09Slots.l0 kj10 l0 l1 (x5_1.set (((rd_T81 l1 x17_1).f0) : Int).toNat (wrap64 ((rd x5_1 ((rd_T81 l1 x17_1).f0)) + 1))) (l1.length : Int) (wrap64 (x17_1 + 1))) else (none))) = some r := H
                                      have A34 := Aside0.mk A340
                                      clear A340
                                      by_cases c35 : ((rd_T81 l1 x17_1).f1) < (wrap64 ((wrap64 (((rd_T81 l1 (ji27)).f1) + ((rd_T54 l0 ((rd_T81 l1 (ji27)).f0)).f1))) + t169))
                                      · rw [if_pos c35] at H
                                        have c35b0 : decide (((rd_T81 l1 x17_1).f1) < (wrap64 ((wrap64 (((rd_T81 l1 (ji27)).f1) + ((rd_T54 l0 ((rd_T81 l1 (ji27)).f0)).f1))) + t169))) = true := decide_eq_true c35
                                        clear c35
                                        obtain rfl := Option.some.inj H
                                        have p164 : 0 ≤ ((ji27) : Int) := of_decide_eq_true (by first | (with_reducible assumption) | assumption)
                                        have q164 : (ji27) < (l1.length : Int) := of_decide_eq_true (by first | (with_reducible assumption) | assumption)
                                        obtain ⟨ad164, e164, hx164_0, hx164_1⟩ := at_T81 HR1.out (ji27) p164 q164
                                        obtain rfl : ad158 = ad164 := (by injection e164)
                                        replace hx164_0 := (HB.out.cell (World.block_lt_of_cell? w _ hx164_0)).trans hx164_0
                                        replace hx164_1 := (HB.out.cell (World.block_lt_of_cell? w _ hx164_1)).trans hx164_1
                                        replace p164 := eq_true p164
                                        replace q164 := eq_true q164
                                        try go_wp2_with (first | ((with_reducible refine gate_dst (N := 8) rfl ?_); refine box_event ?hg (N := 8) ?hd (cs := #[.int .i64 0, .int .i64 0]) (t := 81) ?hr ?_; (case hd => rfl); (case hg => rfl); (case hr => first | (go_simp; done) | (go_simp; rfl)); intro gb165 hg w36 hbox hb; have n0_ := Aside0.mk (Kd.R_below (by (with_reducible repeat (first | apply Kd.R_alloc | apply Kd.R_drewN | apply Kd.R_drew)); exact HO_5.out) hb); have n1_ := Aside0.mk (blk_below (g := gb159) (o := .cells #[.int .i64 ((rd_T81 l1 x17_1).f0), .int .i64 ((rd_T81 l1 x17_1).f1)] 81 (0, 0)) (by (with_reducible repeat (first | refine blk_drewN ?_ _ | refine blk_drew ?_ | refine blk_alloc ?_ _)); exact BK159.out) hb); have n2_ := Aside0.mk (below_step (by repeat (first | (with_reducible first | exact HB.out | apply below_alloc | apply pw_below_drewN | apply below_drew1 | refine below_set ?_ GE159.out) | exact HB.out)) hb); have n3_ := Aside0.mk (hbox); have n4_ := Aside0.mk ((by rw [hg]; exact (below_size (by repeat (first | (with_reducible first | exact HB.out | apply below_alloc | apply pw_below_drewN | apply below_drew1 | refine below_set ?_ GE159.out) | exact HB.out))) : w.heap.size ≤ gb165)); have n5_ := Aside0.mk ((by rw [hg]; exact (below_size (by repeat (first | (with_reducible first | exact HB.out | apply below_alloc | apply pw_below_drewN | apply below_drew1 | refine below_set ?_ GE159.out) | exact HB.out))) : w.heap.size ≤ gb165)); have n6_ := Aside0.mk ((by rw [hg]; exact Nat.ne_of_lt (blk_lt (g := gb159) (o := .cells #[.int .i64 ((rd_T81 l1 x17_1).f0), .int .i64 ((rd_T81 l1 x17_1).f1)] 81 (0, 0)) (by (with_reducible repeat (first | refine blk_drewN ?_ _ | refine blk_drew ?_ | refine blk_alloc ?_ _)); exact BK159.out)) : gb159 ≠ gb165)); have n7_ := Aside0.mk ((by rw [hg]; exact Nat.ne_of_gt (blk_lt (g := gb159) (o := .cells #[.int .i64 ((rd_T81 l1 x17_1).f0), .int .i64 ((rd_T81 l1 x17_1).f1)] 81 (0, 0)) (by (with_reducible repeat (first | refine blk_drewN ?_ _ | refine blk_drew ?_ | refine blk_alloc ?_ _)); exact BK159.out)) : gb165 ≠ gb159)); clear HO_5; clear BK159; clear HB; have HO_5 := n0_; have BK159 := n1_; have HB := n2_; have BK165 := n3_; have GW165 := n4_; have GE165 := n5_; have NB159_165 := n6_; have NB165_159 := n7_; clear n0_ n1_ n2_ n3_ n4_ n5_ n6_ n7_; clear hb hbox hg; have hnb37 := NB165_159.out; have hnc37 := NB159_165.out; have hcz38_0 : w36.cell? ⟨gb165, 0, none⟩ = some (.int .i64 0) := (blk_cell BK165.out 0).trans rfl; have hcz38_1 : w36.cell? ⟨gb165, 1, none⟩ = some (.int .i64 0) := (blk_cell BK165.out 1).trans rfl; have hfz38_0 := blk_frozen BK165.out 0; have hfz38_1 := blk_frozen BK165.out 1))
                                        have n0_ : Aside0 (Kd.R (Kd.int .i64) 2 ((w36.setCell ⟨gb165, 0, none⟩ (.int .i64 ((rd_T81 l1 (ji27)).f0))).setCell ⟨gb165, 1, none⟩ (.int .i64 ((rd_T81 l1 (ji27)).f1))) w.heap.size (fun _ => True) v156 x5_1) := ⟨by (with_reducible repeat (first | apply Kd.R_alloc | apply Kd.R_drewN | apply Kd.R_drew)); exact Kd.R_mono (Kd.R_far (p := ⟨gb165, 1, none⟩) (Kd.R_far (p := ⟨gb165, 0, none⟩) (Kd.R_types HO_5.out BK165.out (by decide)) (fun _ hk => hk.2) (.int .i64 ((rd_T81 l1 (ji27)).f0))) (fun _ hk => hk.2) (.int .i64 ((rd_T81 l1 (ji27)).f1))) (fun _ hk => trivial)⟩
                                        have n1_ : Aside0 (((w36.setCell ⟨gb165, 0, none⟩ (.int .i64 ((rd_T81 l1 (ji27)).f0))).setCell ⟨gb165, 1, none⟩ (.int .i64 ((rd_T81 l1 (ji27)).f1))).heap[gb159]? = some (.cells #[.int .i64 ((rd_T81 l1 x17_1).f0), .int .i64 ((rd_T81 l1 x17_1).f1)] 81 (0, 0))) := ⟨by (with_reducible repeat (first | refine blk_drewN ?_ _ | refine blk_drew ?_ | refine blk_alloc ?_ _)); refine blk_far ?_ NB159_165.out _; (with_reducible repeat (first | refine blk_drewN ?_ _ | refine blk_drew ?_ | refine blk_alloc ?_ _)); refine blk_far ?_ NB159_165.out _; (with_reducible repeat (first | refine blk_drewN ?_ _ | refine blk_drew ?_ | refine blk_alloc ?_ _)); exact BK159.out⟩
                                        have n2_ : Aside0 (((w36.setCell ⟨gb165, 0, none⟩ (.int .i64 ((rd_T81 l1 (ji27)).f0))).setCell ⟨gb165, 1, none⟩ (.int .i64 ((rd_T81 l1 (ji27)).f1))).heap[gb165]? = some (.cells #[.int .i64 ((rd_T81 l1 (ji27)).f0), .int .i64 ((rd_T81 l1 (ji27)).f1)] 81 (0, 0))) := ⟨by (with_reducible repeat (first | refine blk_drewN ?_ _ | refine blk_drew ?_ | refine blk_alloc ?_ _)); refine blk_put (cs := #[.int .i64 ((rd_T81 l1 (ji27)).f0), .int .i64 0]) ?_ 1 _ rfl; (with_reducible repeat (first | refine blk_drewN ?_ _ | refine blk_drew ?_ | refine blk_alloc ?_ _)); refine blk_put (cs := #[.int .i64 0, .int .i64 0]) ?_ 0 _ rfl; (with_reducible repeat (first | refine blk_drewN ?_ _ | refine blk_drew ?_ | refine blk_alloc ?_ _)); exact BK165.out⟩
                                        have n3_ : Aside0 (Below w.heap.size w ((w36.setCell ⟨gb165, 0, none⟩ (.int .i64 ((rd_T81 l1 (ji27)).f0))).setCell ⟨gb165, 1, none⟩ (.int .i64 ((rd_T81 l1 (ji27)).f1)))) := ⟨by repeat (first | (with_reducible first | exact HB.out | apply below_alloc | apply pw_below_drewN | apply below_drew1 | refine below_set ?_ GE159.out | refine below_set ?_ GE165.out) | exact HB.out)⟩
                                        (try clear HO_5)
                                        (try clear BK159)
                                        (try clear BK165)
                                        (try clear HB)
                                        generalize ((w36.setCell ⟨gb165, 0, none⟩ (.int .i64 ((rd_T81 l1 (ji27)).f0))).setCell ⟨gb165, 1, none⟩ (.int .i64 ((rd_T81 l1 (ji27)).f1))) = w39 at n0_ n1_ n2_ n3_ ⊢
                                        have HO_5 := n0_
                                        have BK159 := n1_
                                        have BK165 := n2_
                                        have HB := n3_
                                        clear n0_ n1_ n2_ n3_
                                        have n0_ := Aside0.mk (Kd.R_drew HO_5.out)
                                        have n1_ := Aside0.mk (blk_drew BK159.out)
                                        have n2_ := Aside0.mk (blk_drew BK165.out)
                                        have n3_ := Aside0.mk (below_drew1 HB.out)
                                        clear HO_5
                                        clear BK159
                                        clear BK165
                                        clear HB
                                        have HO_5 := n0_
                                        have BK159 := n1_
                                        have BK165 := n2_
                                        have HB := n3_
                                        clear n0_ n1_ n2_ n3_
                                        have p166 : 0 ≤ (((rd_T81 l1 (ji27)).f0) : Int) := of_decide_eq_true (by first | (with_reducible assumption) | assumption)
                                        have q166 : ((rd_T81 l1 (ji27)).f0) < (l0.length : Int) := of_decide_eq_true (by first | (with_reducible assumption) | assumption)
                                        obtain ⟨ad166, e166, hx166_0, hx166_1, hx166_2, hx166_3⟩ := at_T54 HR0.out ((rd_T81 l1 (ji27)).f0) p166 q166
                                        have hw166_3 := hx166_3
                                        have hw166_2 := hx166_2
                                        have hw166_1 := hx166_1
                                        have hw166_0 := hx166_0
                                        cases e166
                                        replace hx166_0 := (HB.out.cell (World.block_lt_of_cell? w _ hx166_0)).trans hx166_0
                                        replace hx166_1 := (HB.out.cell (World.block_lt_of_cell? w _ hx166_1)).trans hx166_1
                                        replace hx166_2 := (HB.out.cell (World.block_lt_of_cell? w _ hx166_2)).trans hx166_2
                                        replace hx166_3 := (HB.out.cell (World.block_lt_of_cell? w _ hx166_3)).trans hx166_3
                                        replace p166 := eq_true p166
                                        replace q166 := eq_true q166
                                        have p167 : 0 ≤ (((rd_T81 l1 (ji27)).f0) : Int) := of_decide_eq_true (by first | (with_reducible assumption) | assumption)
                                        have q167 : ((rd_T81 l1 (ji27)).f0) < (l0.length : Int) := of_decide_eq_true (by first | (with_reducible assumption) | assumption)
                                        obtain ⟨ad167, e167, hx167_0, hx167_1, hx167_2, hx167_3⟩ := at_T54 HR0.out ((rd_T81 l1 (ji27)).f0) p167 q167
                                        have hw167_3 := hx167_3
                                        have hw167_2 := hx167_2
                                        have hw167_1 := hx167_1
                                        have hw167_0 := hx167_0
                                        obtain rfl : ad166 = ad167 := (by injection e167)
                                        replace hx167_0 := (HB.out.cell (World.block_lt_of_cell? w _ hx167_0)).trans hx167_0
                                        replace hx167_1 := (HB.out.cell (World.block_lt_of_cell? w _ hx167_1)).trans hx167_1
                                        replace hx167_2 := (HB.out.cell (World.block_lt_of_cell? w _ hx167_2)).trans hx167_2
                                        replace hx167_3 := (HB.out.cell (World.block_lt_of_cell? w _ hx167_3)).trans hx167_3
                                        replace p167 := eq_true p167
                                        replace q167 := eq_true q167
                                        have p168 : 0 ≤ (((rd_T81 l1 x17_1).f0) : Int) := of_decide_eq_true (by first | (with_reducible assumption) | assumption)
                                        have q168 : ((rd_T81 l1 x17_1).f0) < (l0.length : Int) := of_decide_eq_true (by first | (with_reducible assumption) | assumption)
                                        obtain ⟨ad168, e168, hx168_0, hx168_1, hx168_2, hx168_3⟩ := at_T54 HR0.out ((rd_T81 l1 x17_1).f0) p168 q168
                                        have hw168_3 := hx168_3
                                        have hw168_2 := hx168_2
                                        have hw168_1 := hx168_1
                                        have hw168_0 := hx168_0
                                        obtain rfl : ad166 = ad168 := (by injection e168)
                                        replace hx168_0 := (HB.out.cell (World.block_lt_of_cell? w _ hx168_0)).trans hx168_0
                                        replace hx168_1 := (HB.out.cell (World.block_lt_of_cell? w _ hx168_1)).trans hx168_1
                                        replace hx168_2 := (HB.out.cell (World.block_lt_of_cell? w _ hx168_2)).trans hx168_2
                                        replace hx168_3 := (HB.out.cell (World.block_lt_of_cell? w _ hx168_3)).trans hx168_3
                                        replace p168 := eq_true p168
                                        replace q168 := eq_true q168
                                        refine start_ (n := 26) (S := fun w' => w'.cell? ⟨gb159, 0, none⟩ = some (.int .i64 ((rd_T81 l1 x17_1).f0)) ∧ w'.cell? ⟨gb159, 1, none⟩ = some (.int .i64 ((rd_T81 l1 x17_1).f1)) ∧ w'.cell? ⟨gb165, 0, none⟩ = some (.int .i64 ((rd_T81 l1 (ji27)).f0)) ∧ w'.cell? ⟨gb165, 1, none⟩ = some (.int .i64 ((rd_T81 l1 (ji27)).f1)) ∧ w'.cell? (ad166.add ((((rd_T81 l1 (ji27)).f0)).toNat * 4)) = some (.int .i64 ((rd_T54 l0 ((rd_T81 l1 (ji27)).f0)).f0.f0)) ∧ w'.cell? ⟨(ad166.add ((((rd_T81 l1 (ji27)).f0)).toNat * 4)).block, (ad166.add ((((rd_T81 l1 (ji27)).f0)).toNat * 4)).off + 1, none⟩ = some (.int .i64 ((rd_T54 l0 ((rd_T81 l1 (ji27)).f0)).f0.f1)) ∧ w'.cell? ⟨(ad166.add ((((rd_T81 l1 (ji27)).f0)).toNat * 4)).block, (ad166.add ((((rd_T81 l1 (ji27)).f0)).toNat * 4)).off + 2, none⟩ = some (.int .i64 ((rd_T54 l0 ((rd_T81 l1 (ji27)).f0)).f1)) ∧ w'.cell? ⟨(ad166.add ((((rd_T81 l1 (ji27)).f0)).toNat * 4)).block, (ad166.add ((((rd_T81 l1 (ji27)).f0)).toNat * 4)).off + 3, none⟩ = some (.int .i64 ((rd_T54 l0 ((rd_T81 l1 (ji27)).f0)).f2)) ∧ w'.cell? (ad166.add ((((rd_T81 l1 (ji27)).f0)).toNat * 4)) = some (.int .i64 ((rd_T54 l0 ((rd_T81 l1 (ji27)).f0)).f0.f0)) ∧ w'.cell? ⟨(ad166.add ((((rd_T81 l1 (ji27)).f0)).toNat * 4)).block, (ad166.add ((((rd_T81 l1 (ji27)).f0)).toNat * 4)).off + 1, none⟩ = some (.int .i64 ((rd_T54 l0 ((rd_T81 l1 (ji27)).f0)).f0.f1)) ∧ w'.cell? ⟨(ad166.add ((((rd_T81 l1 (ji27)).f0)).toNat * 4)).block, (ad166.add ((((rd_T81 l1 (ji27)).f0)).toNat * 4)).off + 2, none⟩ = some (.int .i64 ((rd_T54 l0 ((rd_T81 l1 (ji27)).f0)).f1)) ∧ w'.cell? ⟨(ad166.add ((((rd_T81 l1 (ji27)).f0)).toNat * 4)).block, (ad166.add ((((rd_T81 l1 (ji27)).f0)).toNat * 4)).off + 3, none⟩ = some (.int .i64 ((rd_T54 l0 ((rd_T81 l1 (ji27)).f0)).f2)) ∧ w'.cell? (ad166.add ((((rd_T81 l1 x17_1).f0)).toNat * 4)) = some (.int .i64 ((rd_T54 l0 ((rd_T81 l1 x17_1).f0)).f0.f0)) ∧ w'.cell? ⟨(ad166.add ((((rd_T81 l1 x17_1).f0)).toNat * 4)).block, (ad166.add ((((rd_T81 l1 x17_1).f0)).toNat * 4)).off + 1, none⟩ = some (.int .i64 ((rd_T54 l0 ((rd_T81 l1 x17_1).f0)).f0.f1)) ∧ w'.cell? ⟨(ad166.add ((((rd_T81 l1 x17_1).f0)).toNat * 4)).block, (ad166.add ((((rd_T81 l1 x17_1).f0)).toNat * 4)).off + 2, none⟩ = some (.int .i64 ((rd_T54 l0 ((rd_T81 l1 x17_1).f0)).f1)) ∧ w'.cell? ⟨(ad166.add ((((rd_T81 l1 x17_1).f0)).toNat * 4)).block, (ad166.add ((((rd_T81 l1 x17_1).f0)).toNat * 4)).off + 3, none⟩ = some (.int .i64 ((rd_T54 l0 ((rd_T81 l1 x17_1).f0)).f2))) (ds := []) #[false, false, false, false, false, false, false, false, false, false, false, false, false, false, false, false, false, false, false, false, false, false, false, false, false, false] (by kernel_rfl) rfl rfl ⟨(blk_cell BK159.out 0).trans rfl, (blk_cell BK159.out 1).trans rfl, (blk_cell BK165.out 0).trans rfl, (blk_cell BK165.out 1).trans rfl, ((HB.out.cell (World.block_lt_of_cell? w _ hw166_0)).trans hw166_0), ((HB.out.cell (World.block_lt_of_cell? w _ hw166_1)).trans hw166_1), ((HB.out.cell (World.block_lt_of_cell? w _ hw166_2)).trans hw166_2), ((HB.out.cell (World.block_lt_of_cell? w _ hw166_3)).trans hw166_3), ((HB.out.cell (World.block_lt_of_cell? w _ hw167_0)).trans hw167_0), ((HB.out.cell (World.block_lt_of_cell? w _ hw167_1)).trans hw167_1), ((HB.out.cell (World.block_lt_of_cell? w _ hw167_2)).trans hw167_2), ((HB.out.cell (World.block_lt_of_cell? w _ hw167_3)).trans hw167_3), ((HB.out.cell (World.block_lt_of_cell? w _ hw168_0)).trans hw168_0), ((HB.out.cell (World.block_lt_of_cell? w _ hw168_1)).trans hw168_1), ((HB.out.cell (World.block_lt_of_cell? w _ hw168_2)).trans hw168_2), ((HB.out.cell (World.block_lt_of_cell? w _ hw168_3)).trans hw168_3)⟩ (fun hHeld => ?_); refine with_tabW spec_l09Slots.tab12 spec_l09Slots.bits12 (fun HT_ HW_ => ?_)
                                        generalize w39.drew = w40 at HO_5 BK159 BK165 HB hx166_0 hx166_1 hx166_2 hx166_3 hx167_0 hx167_1 hx167_2 hx167_3 hx168_0 hx168_1 hx168_2 hx168_3 hHeld ⊢
                                        refine pure_ (i := 0) (N := some 56) (v := ?_) (a' := ?_) #[true, false, false, false, false, false, false, false, false, false, false, false, false, false, false, false, false, false, false, false, false, false, false, false, false, false] rfl rfl (any_of HT_.out (by kernel_rfl)) (fun _ _ _ h => h) (Or.inl ⟨by rfl, ?_⟩) ?_ ?_
                                        rotate_left
                                        · intro w'
                                          go_simp
                                          with_reducible rfl
                                        rotate_left
                                        · simp only [Act.put, List.setIfInBounds_toArray, List.set_cons_zero, List.set_cons_succ, i64_w, i32_w]
                                          rfl
                                        refine pure_ (i := 2) (N := some 58) (v := ?_) (a' := ?_) #[true, false, true, false, false, false, false, false, false, false, false, false, false, false, false, false, false, false, false, false, false, false, false, false, false, false] rfl rfl (any_of HT_.out (by kernel_rfl)) (fun _ _ _ h => h) (Or.inl ⟨by rfl, ?_⟩) ?_ ?_
                                        rotate_left
                                        · intro w'
                                          go_simp
                                          with_reducible rfl
                                        rotate_left
                                        · simp only [Act.put, List.setIfInBounds_toArray, List.set_cons_zero, List.set_cons_succ, i64_w, i32_w]
                                          rfl
                                        refine pure_ (i := 4) (N := some 60) (v := ?_) (a' := ?_) #[true, false, true, false, true, false, false, false, false, false, false, false, false, false, false, false, false, false, false, false, false, false, false, false, false, false] rfl rfl (any_of HT_.out (by kernel_rfl)) (fun _ _ _ h => h) (Or.inl ⟨by rfl, ?_⟩) ?_ ?_
                                        rotate_left
                                        · intro w'
                                          go_simp
                                          with_reducible rfl
                                        rotate_left
                                        · simp only [Act.put, List.setIfInBounds_toArray, List.set_cons_zero, List.set_cons_succ, i64_w, i32_w]
                                          rfl
                                        refine pure_ (i := 5) (N := some 61) (v := ?_) (a' := ?_) #[true, false, true, false, true, true, false, false, false, false, false, false, false, false, false, false, false, false, false, false, false, false, false, false, false, false] rfl rfl (any_of HT_.out (by kernel_rfl)) (fun _ _ _ h => h) (Or.inl ⟨by rfl, ?_⟩) ?_ ?_
                                        rotate_left
                                        · intro w'
                                          go_simp
                                          with_reducible rfl
                                        rotate_left
                                        · simp only [Act.put, List.setIfInBounds_toArray, List.set_cons_zero, List.set_cons_succ, i64_w, i32_w]
                                          rfl
                                        refine pure_ (i := 11) (N := some 67) (v := ?_) (a' := ?_) #[true, false, true, false, true, true, false, false, false, false, false, true, false, false, false, false, false, false, false, false, false, false, false, false, false, false] rfl rfl (any_of HT_.out (by kernel_rfl)) (fun _ _ _ h => h) (Or.inl ⟨by rfl, ?_⟩) ?_ ?_
                                        rotate_left
                                        · intro w'
                                          go_simp
                                          with_reducible rfl
                                        rotate_left
                                        · simp only [Act.put, List.setIfInBounds_toArray, List.set_cons_zero, List.set_cons_succ, i64_w, i32_w]
                                          rfl
                                        refine pure_ (i := 12) (N := some 68) (v := ?_) (a' := ?_) #[true, false, true, false, true, true, false, false, false, false, false, true, true, false, false, false, false, false, false, false, false, false, false, false, false, false] rfl rfl (any_of HT_.out (by kernel_rfl)) (fun _ _ _ h => h) (Or.inl ⟨by rfl, ?_⟩) ?_ ?_
                                        rotate_left
                                        · intro w'
                                          go_simp
                                          with_reducible rfl
                                        rotate_left
                                        · simp only [Act.put, List.setIfInBounds_toArray, List.set_cons_zero, List.set_cons_succ, i64_w, i32_w]
                                          rfl
                                        refine pure_ (i := 17) (N := some 73) (v := ?_) (a' := ?_) #[true, false, true, false, true, true, false, false, false, false, false, true, true, false, false, false, false, true, false, false, false, false, false, false, false, false] rfl rfl (any_of HT_.out (by kernel_rfl)) (fun _ _ _ h => h) (Or.inl ⟨by rfl, ?_⟩) ?_ ?_
                                        rotate_left
                                        · intro w'
                                          go_simp
                                          with_reducible rfl
                                        rotate_left
                                        · simp only [Act.put, List.setIfInBounds_toArray, List.set_cons_zero, List.set_cons_succ, i64_w, i32_w]
                                          rfl
                                        refine pure_ (i := 18) (N := some 74) (v := ?_) (a' := ?_) #[true, false, true, false, true, true, false, false, false, false, false, true, true, false, false, false, false, true, true, false, false, false, false, false, false, false] rfl rfl (any_of HT_.out (by kernel_rfl)) (fun _ _ _ h => h) (Or.inl ⟨by rfl, ?_⟩) ?_ ?_
                                        rotate_left
                                        · intro w'
                                          go_simp
                                          with_reducible rfl
                                        rotate_left
                                        · simp only [Act.put, List.setIfInBounds_toArray, List.set_cons_zero, List.set_cons_succ, i64_w, i32_w]
                                          rfl
                                        refine take_ (i := 1) (N := some 57) (v := ?_) (a' := ?_) #[true, true, true, false, true, true, false, false, false, false, false, true, true, false, false, false, false, true, true, false, false, false, false, false, false, false] rfl rfl (take_ofW HT_.out HW_.out (by kernel_rfl)) (fun _ _ _ h => h) (Or.inl ⟨by rfl, ?_⟩) hHeld ?_ ?_
                                        rotate_left
                                        · rintro w' ⟨s0, s1, s2, s3, s4, s5, s6, s7, s8, s9, s10, s11, s12, s13, s14, s15⟩
                                          go_simp
                                          with_reducible rfl
                                        rotate_left
                                        · simp only [Act.put, List.setIfInBounds_toArray, List.set_cons_zero, List.set_cons_succ, i64_w, i32_w]
                                          rfl
                                        refine take_ (i := 3) (N := some 59) (v := ?_) (a' := ?_) #[true, true, true, true, true, true, false, false, false, false, false, true, true, false, false, false, false, true, true, false, false, false, false, false, false, false] rfl rfl (take_ofW HT_.out HW_.out (by kernel_rfl)) (fun _ _ _ h => h) (Or.inl ⟨by rfl, ?_⟩) hHeld ?_ ?_
                                        rotate_left
                                        · rintro w' ⟨s0, s1, s2, s3, s4, s5, s6, s7, s8, s9, s10, s11, s12, s13, s14, s15⟩
                                          go_simp
                                          with_reducible rfl
                                        rotate_left
                                        · simp only [Act.put, List.setIfInBounds_toArray, List.set_cons_zero, List.set_cons_succ, i64_w, i32_w]
                                          rfl
                                        refine take_ (i := 6) (N := some 62) (v := ?_) (a' := ?_) #[true, true, true, true, true, true, true, false, false, false, false, true, true, false, false, false, false, true, true, false, false, false, false, false, false, false] rfl rfl (take_ofW HT_.out HW_.out (by kernel_rfl)) (fun _ _ _ h => h) (Or.inl ⟨by rfl, ?_⟩) hHeld ?_ ?_
                                        rotate_left
                                        · rintro w' ⟨s0, s1, s2, s3, s4, s5, s6, s7, s8, s9, s10, s11, s12, s13, s14, s15⟩
                                          go_simp
                                          with_reducible rfl
                                        rotate_left
                                        · simp only [Act.put, List.setIfInBounds_toArray, List.set_cons_zero, List.set_cons_succ, i64_w, i32_w]
                                          rfl
                                        refine pure_ (i := 7) (N := some 63) (v := ?_) (a' := ?_) #[true, true, true, true, true, true, true, true, false, false, false, true, true, false, false, false, false, true, true, false, false, false, false, false, false, false] rfl rfl (any_of HT_.out (by kernel_rfl)) (fun _ _ _ h => h) (Or.inl ⟨by rfl, ?_⟩) ?_ ?_
                                        rotate_left
                                        · intro w'
                                          go_simp
                                          with_reducible rfl
                                        rotate_left
                                        · simp only [Act.put, List.setIfInBounds_toArray, List.set_cons_zero, List.set_cons_succ, i64_w, i32_w]
                                          rfl
                                        refine pure_ (i := 8) (N := some 64) (v := ?_) (a' := ?_) #[true, true, true, true, true, true, true, true, true, false, false, true, true, false, false, false, false, true, true, false, false, false, false, false, false, false] rfl rfl (any_of HT_.out (by kernel_rfl)) (fun _ _ _ h => h) (Or.inl ⟨by rfl, ?_⟩) ?_ ?_
                                        rotate_left
                                        · intro w'
                                          go_simp
                                          with_reducible rfl
                                        rotate_left
                                        · simp only [Act.put, List.setIfInBounds_toArray, List.set_cons_zero, List.set_cons_succ, i64_w, i32_w]
                                          rfl
                                        refine take_ (i := 9) (N := some 65) (v := ?_) (a' := ?_) #[true, true, true, true, true, true, true, true, true, true, false, true, true, false, false, false, false, true, true, false, false, false, false, false, false, false] rfl rfl (take_ofW HT_.out HW_.out (by kernel_rfl)) (fun _ _ _ h => h) (Or.inl ⟨by rfl, ?_⟩) hHeld ?_ ?_
                                        rotate_left
                                        · rintro w' ⟨s0, s1, s2, s3, s4, s5, s6, s7, s8, s9, s10, s11, s12, s13, s14, s15⟩
                                          go_simp
                                          with_reducible rfl
                                        rotate_left
                                        · simp only [Act.put, List.setIfInBounds_toArray, List.set_cons_zero, List.set_cons_succ, i64_w, i32_w]
                                          rfl
                                        refine pure_ (i := 10) (N := some 66) (v := ?_) (a' := ?_) #[true, true, true, true, true, true, true, true, true, true, true, true, true, false, false, false, false, true, true, false, false, false, false, false, false, false] rfl rfl (any_of HT_.out (by kernel_rfl)) (fun _ _ _ h => h) (Or.inl ⟨by rfl, ?_⟩) ?_ ?_
                                        rotate_left
                                        · intro w'
                                          go_simp
                                          with_reducible rfl
                                        rotate_left
                                        · simp only [Act.put, List.setIfInBounds_toArray, List.set_cons_zero, List.set_cons_succ, i64_w, i32_w]
                                          rfl
                                        refine take_ (i := 13) (N := some 69) (v := ?_) (a' := ?_) #[true, true, true, true, true, true, true, true, true, true, true, true, true, true, false, false, false, true, true, false, false, false, false, false, false, false] rfl rfl (take_ofW HT_.out HW_.out (by kernel_rfl)) (fun _ _ _ h => h) (Or.inl ⟨by rfl, ?_⟩) hHeld ?_ ?_
                                        rotate_left
                                        · rintro w' ⟨s0, s1, s2, s3, s4, s5, s6, s7, s8, s9, s10, s11, s12, s13, s14, s15⟩
                                          go_simp
                                          with_reducible rfl
                                        rotate_left
                                        · simp only [Act.put, List.setIfInBounds_toArray, List.set_cons_zero, List.set_cons_succ, i64_w, i32_w]
                                          rfl
                                        refine pure_ (i := 14) (N := some 70) (v := ?_) (a' := ?_) #[true, true, true, true, true, true, true, true, true, true, true, true, true, true, true, false, false, true, true, false, false, false, false, false, false, false] rfl rfl (any_of HT_.out (by kernel_rfl)) (fun _ _ _ h => h) (Or.inl ⟨by rfl, ?_⟩) ?_ ?_
                                        rotate_left
                                        · intro w'
                                          go_simp
                                          with_reducible rfl
                                        rotate_left
                                        · simp only [Act.put, List.setIfInBounds_toArray, List.set_cons_zero, List.set_cons_succ, i64_w, i32_w]
                                          rfl
                                        refine pure_ (i := 15) (N := some 71) (v := ?_) (a' := ?_) #[true, true, true, true, true, true, true, true, true, true, true, true, true, true, true, true, false, true, true, false, false, false, false, false, false, false] rfl rfl (any_of HT_.out (by kernel_rfl)) (fun _ _ _ h => h) (Or.inl ⟨by rfl, ?_⟩) ?_ ?_
                                        rotate_left
                                        · intro w'
                                          go_simp
                                          with_reducible rfl
                                        rotate_left
                                        · simp only [Act.put, List.setIfInBounds_toArray, List.set_cons_zero, List.set_cons_succ, i64_w, i32_w]
                                          rfl
                                        refine take_ (i := 16) (N := some 72) (v := ?_) (a' := ?_) #[true, true, true, true, true, true, true, true, true, true, true, true, true, true, true, true, true, true, true, false, false, false, false, false, false, false] rfl rfl (take_ofW HT_.out HW_.out (by kernel_rfl)) (fun _ _ _ h => h) (Or.inl ⟨by rfl, ?_⟩) hHeld ?_ ?_
                                        rotate_left
                                        · rintro w' ⟨s0, s1, s2, s3, s4, s5, s6, s7, s8, s9, s10, s11, s12, s13, s14, s15⟩
                                          go_simp
                                          with_reducible rfl
                                        rotate_left
                                        · simp only [Act.put, List.setIfInBounds_toArray, List.set_cons_zero, List.set_cons_succ, i64_w, i32_w]
                                          rfl
                                        refine take_ (i := 19) (N := some 75) (v := ?_) (a' := ?_) #[true, true, true, true, true, true, true, true, true, true, true, true, true, true, true, true, true, true, true, true, false, false, false, false, false, false] rfl rfl (take_ofW HT_.out HW_.out (by kernel_rfl)) (fun _ _ _ h => h) (Or.inl ⟨by rfl, ?_⟩) hHeld ?_ ?_
                                        rotate_left
                                        · rintro w' ⟨s0, s1, s2, s3, s4, s5, s6, s7, s8, s9, s10, s11, s12, s13, s14, s15⟩
                                          go_simp
                                          with_reducible rfl
                                        rotate_left
                                        · simp only [Act.put, List.setIfInBounds_toArray, List.set_cons_zero, List.set_cons_succ, i64_w, i32_w]
                                          rfl
                                        refine pure_ (i := 20) (N := some 76) (v := ?_) (a' := ?_) #[true, true, true, true, true, true, true, true, true, true, true, true, true, true, true, true, true, true, true, true, true, false, false, false, false, false] rfl rfl (any_of HT_.out (by kernel_rfl)) (fun _ _ _ h => h) (Or.inl ⟨by rfl, ?_⟩) ?_ ?_
                                        rotate_left
                                        · intro w'
                                          go_simp
                                          with_reducible rfl
                                        rotate_left
                                        · simp only [Act.put, List.setIfInBounds_toArray, List.set_cons_zero, List.set_cons_succ, i64_w, i32_w]
                                          rfl
                                        refine pure_ (i := 21) (N := some 77) (v := ?_) (a' := ?_) #[true, true, true, true, true, true, true, true, true, true, true, true, true, true, true, true, true, true, true, true, true, true, false, false, false, false] rfl rfl (any_of HT_.out (by kernel_rfl)) (fun _ _ _ h => h) (Or.inl ⟨by rfl, ?_⟩) ?_ ?_
                                        rotate_left
                                        · intro w'
                                          go_simp
                                          with_reducible rfl
                                        rotate_left
                                        · simp only [Act.put, List.setIfInBounds_toArray, List.set_cons_zero, List.set_cons_succ, i64_w, i32_w]
                                          rfl
                                        refine take_ (i := 22) (N := some 78) (v := ?_) (a' := ?_) #[true, true, true, true, true, true, true, true, true, true, true, true, true, true, true, true, true, true, true, true, true, true, true, false, false, false] rfl rfl (take_ofW HT_.out HW_.out (by kernel_rfl)) (fun _ _ _ h => h) (Or.inl ⟨by rfl, ?_⟩) hHeld ?_ ?_
                                        rotate_left
                                        · rintro w' ⟨s0, s1, s2, s3, s4, s5, s6, s7, s8, s9, s10, s11, s12, s13, s14, s15⟩
                                          go_simp
                                          with_reducible rfl
                                        rotate_left
                                        · simp only [Act.put, List.setIfInBounds_toArray, List.set_cons_zero, List.set_cons_succ, i64_w, i32_w]
                                          rfl
                                        refine one_ (i := 23) (N := some 79) #[true, true, true, true, true, true, true, true, true, true, true, true, true, true, true, true, true, true, true, true, true, true, true, true, false, false] rfl rfl (one_of HT_.out (by kernel_rfl)) (by decide) (fun K hK => ?_)
                                        refine goes_ Try.func54 (by kernel_rfl) rfl #[.agg #[.int .i64 ((rd_T54 l0 ((rd_T81 l1 (ji27)).f0)).f0.f0), .int .i64 ((rd_T54 l0 ((rd_T81 l1 (ji27)).f0)).f0.f1)], .agg #[.int .i64 ((rd_T54 l0 ((rd_T81 l1 x17_1).f0)).f0.f0), .int .i64 ((rd_T54 l0 ((rd_T81 l1 x17_1).f0)).f0.f1)]] (by rfl) rfl rfl (by (try simp only [List.map_toArray, List.map_cons, List.map_nil]); first | done | (simp only [hji27]; rfl) | rfl | (simp only [List.length_drop, List.length_take]; rfl)) ?_
                                        with_reducible refine (spec_l09Switch.calls ((rd_T54 l0 ((rd_T81 l1 (ji27)).f0)).f0.f0) ((rd_T54 l0 ((rd_T81 l1 (ji27)).f0)).f0.f1) ((rd_T54 l0 ((rd_T81 l1 x17_1).f0)).f0.f0) ((rd_T54 l0 ((rd_T81 l1 x17_1).f0)).f0.f1) t169 _ A34.out).mono ?_
                                        rintro e w41 ⟨rfl, hb⟩
                                        refine ⟨_, rfl, ?_⟩
                                        have n0_ := Aside0.mk (Kd.R_below (by (with_reducible repeat (first | apply Kd.R_alloc | apply Kd.R_drewN | apply Kd.R_drew)); exact HO_5.out) hb)
                                        have n1_ := Aside0.mk (blk_below (g := gb159) (o := .cells #[.int .i64 ((rd_T81 l1 x17_1).f0), .int .i64 ((rd_T81 l1 x17_1).f1)] 81 (0, 0)) (by (with_reducible repeat (first | refine blk_drewN ?_ _ | refine blk_drew ?_ | refine blk_alloc ?_ _)); exact BK159.out) hb)
                                        have n2_ := Aside0.mk (blk_below (g := gb165) (o := .cells #[.int .i64 ((rd_T81 l1 (ji27)).f0), .int .i64 ((rd_T81 l1 (ji27)).f1)] 81 (0, 0)) (by (with_reducible repeat (first | refine blk_drewN ?_ _ | refine blk_drew ?_ | refine blk_alloc ?_ _)); exact BK165.out) hb)
                                        have n3_ := Aside0.mk (below_step (by repeat (first | (with_reducible first | exact HB.out | apply below_alloc | apply pw_below_drewN | apply below_drew1 | refine below_set ?_ GE159.out | refine below_set ?_ GE165.out) | exact HB.out)) hb)
                                        clear HO_5
                                        clear BK159
                                        clear BK165
                                        clear HB
                                        have HO_5 := n0_
                                        have BK159 := n1_
                                        have BK165 := n2_
                                        have HB := n3_
                                        clear n0_ n1_ n2_ n3_
                                        (try clear hb)
                                        (try clear hb2)
                                        (try clear hk)
                                        (try clear hi)
                                        refine hK.out _ _ ⟨(blk_cell BK159.out 0).trans rfl, (blk_cell BK159.out 1).trans rfl, (blk_cell BK165.out 0).trans rfl, (blk_cell BK165.out 1).trans rfl, ((HB.out.cell (World.block_lt_of_cell? w _ hw166_0)).trans hw166_0), ((HB.out.cell (World.block_lt_of_cell? w _ hw166_1)).trans hw166_1), ((HB.out.cell (World.block_lt_of_cell? w _ hw166_2)).trans hw166_2), ((HB.out.cell (World.block_lt_of_cell? w _ hw166_3)).trans hw166_3), ((HB.out.cell (World.block_lt_of_cell? w _ hw167_0)).trans hw167_0), ((HB.out.cell (World.block_lt_of_cell? w _ hw167_1)).trans hw167_1), ((HB.out.cell (World.block_lt_of_cell? w _ hw167_2)).trans hw167_2), ((HB.out.cell (World.block_lt_of_cell? w _ hw167_3)).trans hw167_3), ((HB.out.cell (World.block_lt_of_cell? w _ hw168_0)).trans hw168_0), ((HB.out.cell (World.block_lt_of_cell? w _ hw168_1)).trans hw168_1), ((HB.out.cell (World.block_lt_of_cell? w _ hw168_2)).trans hw168_2), ((HB.out.cell (World.block_lt_of_cell? w _ hw168_3)).trans hw168_3)⟩ (fun hHeld => ?_)
                                        clear hK K
                                        refine norm_ (a' := ?_) ?_ ?_
                                        rotate_left
                                        · show Act.put _ (some 79) _ = _
                                          simp only [Act.put, List.setIfInBounds_toArray, List.set_cons_zero, List.set_cons_succ, i64_w, i32_w]
                                          rfl
                                        refine pure_ (i := 24) (N := some 80) (v := ?_) (a' := ?_) #[true, true, true, true, true, true, true, true, true, true, true, true, true, true, true, true, true, true, true, true, true, true, true, true, true, false] rfl rfl (any_of HT_.out (by kernel_rfl)) (fun _ _ _ h => h) (Or.inl ⟨by rfl, ?_⟩) ?_ ?_
                                        rotate_left
                                        · intro w'
                                          go_simp
                                          with_reducible rfl
                                        rotate_left
                                        · simp only [Act.put, List.setIfInBounds_toArray, List.set_cons_zero, List.set_cons_succ, i64_w, i32_w]
                                          rfl
                                        refine pure_ (i := 25) (N := some 81) (v := ?_) (a' := ?_) #[true, true, true, true, true, true, true, true, true, true, true, true, true, true, true, true, true, true, true, true, true, true, true, true, true, true] rfl rfl (any_of HT_.out (by kernel_rfl)) (fun _ _ _ h => h) (Or.inl ⟨by rfl, ?_⟩) ?_ ?_
                                        rotate_left
                                        · intro w'
                                          go_simp
                                          with_reducible rfl
                                        rotate_left
                                        · simp only [Act.put, List.setIfInBounds_toArray, List.set_cons_zero, List.set_cons_succ, i64_w, i32_w]
                                          rfl
                                        refine done_ (done_of HT_.out (by kernel_rfl)) ?_
                                        try go_wp2
                                        go_ret
                                        exact ⟨by first | rfl | (simp [errW_none, errW_some] <;> rfl) | (simp only [← hji27]; first | rfl | (simp [errW_none, errW_some] <;> rfl)) | (simp [*, errW_none, errW_some] <;> rfl), by repeat (first | (with_reducible first | exact HB.out | apply below_alloc | apply pw_below_drewN | apply below_drew1 | refine below_set ?_ GE159.out | refine below_set ?_ GE165.out) | exact HB.out)⟩
                                      · rw [if_neg c35] at H
                                        have c35b0 : decide (((rd_T81 l1 x17_1).f1) < (wrap64 ((wrap64 (((rd_T81 l1 (ji27)).f1) + ((rd_T54 l0 ((rd_T81 l1 (ji27)).f0)).f1))) + t169))) = false := decide_eq_false c35
                                        clear c35
                                        by_cases c42 : ((rd_T81 l1 x17_1).f0) < (x5_1.length : Int)
                                        · rw [if_pos c42] at H
                                          have c42b0 : decide (((rd_T81 l1 x17_1).f0) < (x5_1.length : Int)) = true := decide_eq_true c42
                                          clear c42
                                          obtain ⟨y171, hy171⟩ : ∃ y_ : List Int, y_ = (x5_1.set (((rd_T81 l1 x17_1).f0) : Int).toNat (wrap64 ((rd x5_1 ((rd_T81 l1 x17_1).f0)) + 1))) := ⟨_, rfl⟩
                                          replace H : (spec_l09Slots.l0 kj10 l0 l1 y171 (l1.length : Int) (wrap64 (x17_1 + 1))) = some r := by first | (rw [hy171]; with_reducible exact H) | (have H2_ := (Option.bind_some _ _).symm.trans H; rw [hy171]; with_reducible exact H2_) | (have H2_ := (Option.bind_some _ _).symm.trans H; with_reducible exact H2_) | with_reducible exact H | (rw [hy171]; exact H) | exact H
                                          have Ny171 := Aside0.mk hy171
                                          clear hy171
                                          have H' := Aside0.mk H
                                          clear H
                                          have p164 : 0 ≤ ((ji27) : Int) := of_decide_eq_true (by first | (with_reducible assumption) | assumption)
                                          have q164 : (ji27) < (l1.length : Int) := of_decide_eq_true (by first | (with_reducible assumption) | assumption)
                                          obtain ⟨ad164, e164, hx164_0, hx164_1⟩ := at_T81 HR1.out (ji27) p164 q164
                                          obtain rfl : ad158 = ad164 := (by injection e164)
                                          replace hx164_0 := (HB.out.cell (World.block_lt_of_cell? w _ hx164_0)).trans hx164_0
                                          replace hx164_1 := (HB.out.cell (World.block_lt_of_cell? w _ hx164_1)).trans hx164_1
                                          replace p164 := eq_true p164
                                          replace q164 := eq_true q164
                                          try go_wp2_with (first | ((with_reducible refine gate_dst (N := 8) rfl ?_); refine box_event ?hg (N := 8) ?hd (cs := #[.int .i64 0, .int .i64 0]) (t := 81) ?hr ?_; (case hd => rfl); (case hg => rfl); (case hr => first | (go_simp; done) | (go_simp; rfl)); intro gb165 hg w44 hbox hb; have n0_ := Aside0.mk (Kd.R_below (by (with_reducible repeat (first | apply Kd.R_alloc | apply Kd.R_drewN | apply Kd.R_drew)); exact HO_5.out) hb); have n1_ := Aside0.mk (blk_below (g := gb159) (o := .cells #[.int .i64 ((rd_T81 l1 x17_1).f0), .int .i64 ((rd_T81 l1 x17_1).f1)] 81 (0, 0)) (by (with_reducible repeat (first | refine blk_drewN ?_ _ | refine blk_drew ?_ | refine blk_alloc ?_ _)); exact BK159.out) hb); have n2_ := Aside0.mk (below_step (by repeat (first | (with_reducible first | exact HB.out | apply below_alloc | apply pw_below_drewN | apply below_drew1 | refine below_set ?_ GE159.out) | exact HB.out)) hb); have n3_ := Aside0.mk (hbox); have n4_ := Aside0.mk ((by rw [hg]; exact (below_size (by repeat (first | (with_reducible first | exact HB.out | apply below_alloc | apply pw_below_drewN | apply below_drew1 | refine below_set ?_ GE159.out) | exact HB.out))) : w.heap.size ≤ gb165)); have n5_ := Aside0.mk ((by rw [hg]; exact (below_size (by repeat (first | (with_reducible first | exact HB.out | apply below_alloc | apply pw_below_drewN | apply below_drew1 | refine below_set ?_ GE159.out) | exact HB.out))) : w.heap.size ≤ gb165)); have n6_ := Aside0.mk ((by rw [hg]; exact Nat.ne_of_lt (blk_lt (g := gb159) (o := .cells #[.int .i64 ((rd_T81 l1 x17_1).f0), .int .i64 ((rd_T81 l1 x17_1).f1)] 81 (0, 0)) (by (with_reducible repeat (first | refine blk_drewN ?_ _ | refine blk_drew ?_ | refine blk_alloc ?_ _)); exact BK159.out)) : gb159 ≠ gb165)); have n7_ := Aside0.mk ((by rw [hg]; exact Nat.ne_of_gt (blk_lt (g := gb159) (o := .cells #[.int .i64 ((rd_T81 l1 x17_1).f0), .int .i64 ((rd_T81 l1 x17_1).f1)] 81 (0, 0)) (by (with_reducible repeat (first | refine blk_drewN ?_ _ | refine blk_drew ?_ | refine blk_alloc ?_ _)); exact BK159.out)) : gb165 ≠ gb159)); clear HO_5; clear BK159; clear HB; have HO_5 := n0_; have BK159 := n1_; have HB := n2_; have BK165 := n3_; have GW165 := n4_; have GE165 := n5_; have NB159_165 := n6_; have NB165_159 := n7_; clear n0_ n1_ n2_ n3_ n4_ n5_ n6_ n7_; clear hb hbox hg; have hnb45 := NB165_159.out; have hnc45 := NB159_165.out; have hcz46_0 : w44.cell? ⟨gb165, 0, none⟩ = some (.int .i64 0) := (blk_cell BK165.out 0).trans rfl; have hcz46_1 : w44.cell? ⟨gb165, 1, none⟩ = some (.int .i64 0) := (blk_cell BK165.out 1).trans rfl; have hfz46_0 := blk_frozen BK165.out 0; have hfz46_1 := blk_frozen BK165.out 1))
                                          have n0_ : Aside0 (Kd.R (Kd.int .i64) 2 ((w44.setCell ⟨gb165, 0, none⟩ (.int .i64 ((rd_T81 l1 (ji27)).f0))).setCell ⟨gb165, 1, none⟩ (.int .i64 ((rd_T81 l1 (ji27)).f1))) w.heap.size (fun _ => True) v156 x5_1) := ⟨by (with_reducible repeat (first | apply Kd.R_alloc | apply Kd.R_drewN | apply Kd.R_drew)); exact Kd.R_mono (Kd.R_far (p := ⟨gb165, 1, none⟩) (Kd.R_far (p := ⟨gb165, 0, none⟩) (Kd.R_types HO_5.out BK165.out (by decide)) (fun _ hk => hk.2) (.int .i64 ((rd_T81 l1 (ji27)).f0))) (fun _ hk => hk.2) (.int .i64 ((rd_T81 l1 (ji27)).f1))) (fun _ hk => trivial)⟩
                                          have n1_ : Aside0 (((w44.setCell ⟨gb165, 0, none⟩ (.int .i64 ((rd_T81 l1 (ji27)).f0))).setCell ⟨gb165, 1, none⟩ (.int .i64 ((rd_T81 l1 (ji27)).f1))).heap[gb159]? = some (.cells #[.int .i64 ((rd_T81 l1 x17_1).f0), .int .i64 ((rd_T81 l1 x17_1).f1)] 81 (0, 0))) := ⟨by (with_reducible repeat (first | refine blk_drewN ?_ _ | refine blk_drew ?_ | refine blk_alloc ?_ _)); refine blk_far ?_ NB159_165.out _; (with_reducible repeat (first | refine blk_drewN ?_ _ | refine blk_drew ?_ | refine blk_alloc ?_ _)); refine blk_far ?_ NB159_165.out _; (with_reducible repeat (first | refine blk_drewN ?_ _ | refine blk_drew ?_ | refine blk_alloc ?_ _)); exact BK159.out⟩
                                          have n2_ : Aside0 (((w44.setCell ⟨gb165, 0, none⟩ (.int .i64 ((rd_T81 l1 (ji27)).f0))).setCell ⟨gb165, 1, none⟩ (.int .i64 ((rd_T81 l1 (ji27)).f1))).heap[gb165]? = some (.cells #[.int .i64 ((rd_T81 l1 (ji27)).f0), .int .i64 ((rd_T81 l1 (ji27)).f1)] 81 (0, 0))) := ⟨by (with_reducible repeat (first | refine blk_drewN ?_ _ | refine blk_drew ?_ | refine blk_alloc ?_ _)); refine blk_put (cs := #[.int .i64 ((rd_T81 l1 (ji27)).f0), .int .i64 0]) ?_ 1 _ rfl; (with_reducible repeat (first | refine blk_drewN ?_ _ | refine blk_drew ?_ | refine blk_alloc ?_ _)); refine blk_put (cs := #[.int .i64 0, .int .i64 0]) ?_ 0 _ rfl; (with_reducible repeat (first | refine blk_drewN ?_ _ | refine blk_drew ?_ | refine blk_alloc ?_ _)); exact BK165.out⟩
                                          have n3_ : Aside0 (Below w.heap.size w ((w44.setCell ⟨gb165, 0, none⟩ (.int .i64 ((rd_T81 l1 (ji27)).f0))).setCell ⟨gb165, 1, none⟩ (.int .i64 ((rd_T81 l1 (ji27)).f1)))) := ⟨by repeat (first | (with_reducible first | exact HB.out | apply below_alloc | apply pw_below_drewN | apply below_drew1 | refine below_set ?_ GE159.out | refine below_set ?_ GE165.out) | exact HB.out)⟩
                                          (try clear HO_5)
                                          (try clear BK159)
                                          (try clear BK165)
                                          (try clear HB)
                                          generalize ((w44.setCell ⟨gb165, 0, none⟩ (.int .i64 ((rd_T81 l1 (ji27)).f0))).setCell ⟨gb165, 1, none⟩ (.int .i64 ((rd_T81 l1 (ji27)).f1))) = w47 at n0_ n1_ n2_ n3_ ⊢
                                          have HO_5 := n0_
                                          have BK159 := n1_
                                          have BK165 := n2_
                                          have HB := n3_
                                          clear n0_ n1_ n2_ n3_
                                          have n0_ := Aside0.mk (Kd.R_drew HO_5.out)
                                          have n1_ := Aside0.mk (blk_drew BK159.out)
                                          have n2_ := Aside0.mk (blk_drew BK165.out)
                                          have n3_ := Aside0.mk (below_drew1 HB.out)
                                          clear HO_5
                                          clear BK159
                                          clear BK165
                                          clear HB
                                          have HO_5 := n0_
                                          have BK159 := n1_
                                          have BK165 := n2_
                                          have HB := n3_
                                          clear n0_ n1_ n2_ n3_
                                          have p166 : 0 ≤ (((rd_T81 l1 (ji27)).f0) : Int) := of_decide_eq_true (by first | (with_reducible assumption) | assumption)
                                          have q166 : ((rd_T81 l1 (ji27)).f0) < (l0.length : Int) := of_decide_eq_true (by first | (with_reducible assumption) | assumption)
                                          obtain ⟨ad166, e166, hx166_0, hx166_1, hx166_2, hx166_3⟩ := at_T54 HR0.out ((rd_T81 l1 (ji27)).f0) p166 q166
                                          have hw166_3 := hx166_3
                                          have hw166_2 := hx166_2
                                          have hw166_1 := hx166_1
                                          have hw166_0 := hx166_0
                                          cases e166
                                          replace hx166_0 := (HB.out.cell (World.block_lt_of_cell? w _ hx166_0)).trans hx166_0
                                          replace hx166_1 := (HB.out.cell (World.block_lt_of_cell? w _ hx166_1)).trans hx166_1
                                          replace hx166_2 := (HB.out.cell (World.block_lt_of_cell? w _ hx166_2)).trans hx166_2
                                          replace hx166_3 := (HB.out.cell (World.block_lt_of_cell? w _ hx166_3)).trans hx166_3
                                          replace p166 := eq_true p166
                                          replace q166 := eq_true q166
                                          have p167 : 0 ≤ (((rd_T81 l1 (ji27)).f0) : Int) := of_decide_eq_true (by first | (with_reducible assumption) | assumption)
                                          have q167 : ((rd_T81 l1 (ji27)).f0) < (l0.length : Int) := of_decide_eq_true (by first | (with_reducible assumption) | assumption)
                                          obtain ⟨ad167, e167, hx167_0, hx167_1, hx167_2, hx167_3⟩ := at_T54 HR0.out ((rd_T81 l1 (ji27)).f0) p167 q167
                                          have hw167_3 := hx167_3
                                          have hw167_2 := hx167_2
                                          have hw167_1 := hx167_1
                                          have hw167_0 := hx167_0
                                          obtain rfl : ad166 = ad167 := (by injection e167)
                                          replace hx167_0 := (HB.out.cell (World.block_lt_of_cell? w _ hx167_0)).trans hx167_0
                                          replace hx167_1 := (HB.out.cell (World.block_lt_of_cell? w _ hx167_1)).trans hx167_1
                                          replace hx167_2 := (HB.out.cell (World.block_lt_of_cell? w _ hx167_2)).trans hx167_2
                                          replace hx167_3 := (HB.out.cell (World.block_lt_of_cell? w _ hx167_3)).trans hx167_3
                                          replace p167 := eq_true p167
                                          replace q167 := eq_true q167
                                          have p168 : 0 ≤ (((rd_T81 l1 x17_1).f0) : Int) := of_decide_eq_true (by first | (with_reducible assumption) | assumption)
                                          have q168 : ((rd_T81 l1 x17_1).f0) < (l0.length : Int) := of_decide_eq_true (by first | (with_reducible assumption) | assumption)
                                          obtain ⟨ad168, e168, hx168_0, hx168_1, hx168_2, hx168_3⟩ := at_T54 HR0.out ((rd_T81 l1 x17_1).f0) p168 q168
                                          have hw168_3 := hx168_3
                                          have hw168_2 := hx168_2
                                          have hw168_1 := hx168_1
                                          have hw168_0 := hx168_0
                                          obtain rfl : ad166 = ad168 := (by injection e168)
                                          replace hx168_0 := (HB.out.cell (World.block_lt_of_cell? w _ hx168_0)).trans hx168_0
                                          replace hx168_1 := (HB.out.cell (World.block_lt_of_cell? w _ hx168_1)).trans hx168_1
                                          replace hx168_2 := (HB.out.cell (World.block_lt_of_cell? w _ hx168_2)).trans hx168_2
                                          replace hx168_3 := (HB.out.cell (World.block_lt_of_cell? w _ hx168_3)).trans hx168_3
                                          replace p168 := eq_true p168
                                          replace q168 := eq_true q168
                                          refine start_ (n := 26) (S := fun w' => w'.cell? ⟨gb159, 0, none⟩ = some (.int .i64 ((rd_T81 l1 x17_1).f0)) ∧ w'.cell? ⟨gb159, 1, none⟩ = some (.int .i64 ((rd_T81 l1 x17_1).f1)) ∧ w'.cell? ⟨gb165, 0, none⟩ = some (.int .i64 ((rd_T81 l1 (ji27)).f0)) ∧ w'.cell? ⟨gb165, 1, none⟩ = some (.int .i64 ((rd_T81 l1 (ji27)).f1)) ∧ w'.cell? (ad166.add ((((rd_T81 l1 (ji27)).f0)).toNat * 4)) = some (.int .i64 ((rd_T54 l0 ((rd_T81 l1 (ji27)).f0)).f0.f0)) ∧ w'.cell? ⟨(ad166.add ((((rd_T81 l1 (ji27)).f0)).toNat * 4)).block, (ad166.add ((((rd_T81 l1 (ji27)).f0)).toNat * 4)).off + 1, none⟩ = some (.int .i64 ((rd_T54 l0 ((rd_T81 l1 (ji27)).f0)).f0.f1)) ∧ w'.cell? ⟨(ad166.add ((((rd_T81 l1 (ji27)).f0)).toNat * 4)).block, (ad166.add ((((rd_T81 l1 (ji27)).f0)).toNat * 4)).off + 2, none⟩ = some (.int .i64 ((rd_T54 l0 ((rd_T81 l1 (ji27)).f0)).f1)) ∧ w'.cell? ⟨(ad166.add ((((rd_T81 l1 (ji27)).f0)).toNat * 4)).block, (ad166.add ((((rd_T81 l1 (ji27)).f0)).toNat * 4)).off + 3, none⟩ = some (.int .i64 ((rd_T54 l0 ((rd_T81 l1 (ji27)).f0)).f2)) ∧ w'.cell? (ad166.add ((((rd_T81 l1 (ji27)).f0)).toNat * 4)) = some (.int .i64 ((rd_T54 l0 ((rd_T81 l1 (ji27)).f0)).f0.f0)) ∧ w'.cell? ⟨(ad166.add ((((rd_T81 l1 (ji27)).f0)).toNat * 4)).block, (ad166.add ((((rd_T81 l1 (ji27)).f0)).toNat * 4)).off + 1, none⟩ = some (.int .i64 ((rd_T54 l0 ((rd_T81 l1 (ji27)).f0)).f0.f1)) ∧ w'.cell? ⟨(ad166.add ((((rd_T81 l1 (ji27)).f0)).toNat * 4)).block, (ad166.add ((((rd_T81 l1 (ji27)).f0)).toNat * 4)).off + 2, none⟩ = some (.int .i64 ((rd_T54 l0 ((rd_T81 l1 (ji27)).f0)).f1)) ∧ w'.cell? ⟨(ad166.add ((((rd_T81 l1 (ji27)).f0)).toNat * 4)).block, (ad166.add ((((rd_T81 l1 (ji27)).f0)).toNat * 4)).off + 3, none⟩ = some (.int .i64 ((rd_T54 l0 ((rd_T81 l1 (ji27)).f0)).f2)) ∧ w'.cell? (ad166.add ((((rd_T81 l1 x17_1).f0)).toNat * 4)) = some (.int .i64 ((rd_T54 l0 ((rd_T81 l1 x17_1).f0)).f0.f0)) ∧ w'.cell? ⟨(ad166.add ((((rd_T81 l1 x17_1).f0)).toNat * 4)).block, (ad166.add ((((rd_T81 l1 x17_1).f0)).toNat * 4)).off + 1, none⟩ = some (.int .i64 ((rd_T54 l0 ((rd_T81 l1 x17_1).f0)).f0.f1)) ∧ w'.cell? ⟨(ad166.add ((((rd_T81 l1 x17_1).f0)).toNat * 4)).block, (ad166.add ((((rd_T81 l1 x17_1).f0)).toNat * 4)).off + 2, none⟩ = some (.int .i64 ((rd_T54 l0 ((rd_T81 l1 x17_1).f0)).f1)) ∧ w'.cell? ⟨(ad166.add ((((rd_T81 l1 x17_1).f0)).toNat * 4)).block, (ad166.add ((((rd_T81 l1 x17_1).f0)).toNat * 4)).off + 3, none⟩ = some (.int .i64 ((rd_T54 l0 ((rd_T81 l1 x17_1).f0)).f2))) (ds := []) #[false, false, false, false, false, false, false, false, false, false, false, false, false, false, false, false, false, false, false, false, false, false, false, false, false, false] (by kernel_rfl) rfl rfl ⟨(blk_cell BK159.out 0).trans rfl, (blk_cell BK159.out 1).trans rfl, (blk_cell BK165.out 0).trans rfl, (blk_cell BK165.out 1).trans rfl, ((HB.out.cell (World.block_lt_of_cell? w _ hw166_0)).trans hw166_0), ((HB.out.cell (World.block_lt_of_cell? w _ hw166_1)).trans hw166_1), ((HB.out.cell (World.block_lt_of_cell? w _ hw166_2)).trans hw166_2), ((HB.out.cell (World.block_lt_of_cell? w _ hw166_3)).trans hw166_3), ((HB.out.cell (World.block_lt_of_cell? w _ hw167_0)).trans hw167_0), ((HB.out.cell (World.block_lt_of_cell? w _ hw167_1)).trans hw167_1), ((HB.out.cell (World.block_lt_of_cell? w _ hw167_2)).trans hw167_2), ((HB.out.cell (World.block_lt_of_cell? w _ hw167_3)).trans hw167_3), ((HB.out.cell (World.block_lt_of_cell? w _ hw168_0)).trans hw168_0), ((HB.out.cell (World.block_lt_of_cell? w _ hw168_1)).trans hw168_1), ((HB.out.cell (World.block_lt_of_cell? w _ hw168_2)).trans hw168_2), ((HB.out.cell (World.block_lt_of_cell? w _ hw168_3)).trans hw168_3)⟩ (fun hHeld => ?_); refine with_tabW spec_l09Slots.tab12 spec_l09Slots.bits12 (fun HT_ HW_ => ?_)
                                          generalize w47.drew = w48 at HO_5 BK159 BK165 HB hx166_0 hx166_1 hx166_2 hx166_3 hx167_0 hx167_1 hx167_2 hx167_3 hx168_0 hx168_1 hx168_2 hx168_3 hHeld ⊢
                                          refine pure_ (i := 0) (N := some 56) (v := ?_) (a' := ?_) #[true, false, false, false, false, false, false, false, false, false, false, false, false, false, false, false, false, false, false, false, false, false, false, false, false, false] rfl rfl (any_of HT_.out (by kernel_rfl)) (fun _ _ _ h => h) (Or.inl ⟨by rfl, ?_⟩) ?_ ?_
                                          rotate_left
                                          · intro w'
                                            go_simp
                                            with_reducible rfl
                                          rotate_left
                                          · simp only [Act.put, List.setIfInBounds_toArray, List.set_cons_zero, List.set_cons_succ, i64_w, i32_w]
                                            rfl
                                          refine pure_ (i := 2) (N := some 58) (v := ?_) (a' := ?_) #[true, false, true, false, false, false, false, false, false, false, false, false, false, false, false, false, false, false, false, false, false, false, false, false, false, false] rfl rfl (any_of HT_.out (by kernel_rfl)) (fun _ _ _ h => h) (Or.inl ⟨by rfl, ?_⟩) ?_ ?_
                                          rotate_left
                                          · intro w'
                                            go_simp
                                            with_reducible rfl
                                          rotate_left
                                          · simp only [Act.put, List.setIfInBounds_toArray, List.set_cons_zero, List.set_cons_succ, i64_w, i32_w]
                                            rfl
                                          refine pure_ (i := 4) (N := some 60) (v := ?_) (a' := ?_) #[true, false, true, false, true, false, false, false, false, false, false, false, false, false, false, false, false, false, false, false, false, false, false, false, false, false] rfl rfl (any_of HT_.out (by kernel_rfl)) (fun _ _ _ h => h) (Or.inl ⟨by rfl, ?_⟩) ?_ ?_
                                          rotate_left
                                          · intro w'
                                            go_simp
                                            with_reducible rfl
                                          rotate_left
                                          · simp only [Act.put, List.setIfInBounds_toArray, List.set_cons_zero, List.set_cons_succ, i64_w, i32_w]
                                            rfl
                                          refine pure_ (i := 5) (N := some 61) (v := ?_) (a' := ?_) #[true, false, true, false, true, true, false, false, false, false, false, false, false, false, false, false, false, false, false, false, false, false, false, false, false, false] rfl rfl (any_of HT_.out (by kernel_rfl)) (fun _ _ _ h => h) (Or.inl ⟨by rfl, ?_⟩) ?_ ?_
                                          rotate_left
                                          · intro w'
                                            go_simp
                                            with_reducible rfl
                                          rotate_left
                                          · simp only [Act.put, List.setIfInBounds_toArray, List.set_cons_zero, List.set_cons_succ, i64_w, i32_w]
                                            rfl
                                          refine pure_ (i := 11) (N := some 67) (v := ?_) (a' := ?_) #[true, false, true, false, true, true, false, false, false, false, false, true, false, false, false, false, false, false, false, false, false, false, false, false, false, false] rfl rfl (any_of HT_.out (by kernel_rfl)) (fun _ _ _ h => h) (Or.inl ⟨by rfl, ?_⟩) ?_ ?_
                                          rotate_left
                                          · intro w'
                                            go_simp
                                            with_reducible rfl
                                          rotate_left
                                          · simp only [Act.put, List.setIfInBounds_toArray, List.set_cons_zero, List.set_cons_succ, i64_w, i32_w]
                                            rfl
                                          refine pure_ (i := 12) (N := some 68) (v := ?_) (a' := ?_) #[true, false, true, false, true, true, false, false, false, false, false, true, true, false, false, false, false, false, false, false, false, false, false, false, false, false] rfl rfl (any_of HT_.out (by kernel_rfl)) (fun _ _ _ h => h) (Or.inl ⟨by rfl, ?_⟩) ?_ ?_
                                          rotate_left
                                          · intro w'
                                            go_simp
                                            with_reducible rfl
                                          rotate_left
                                          · simp only [Act.put, List.setIfInBounds_toArray, List.set_cons_zero, List.set_cons_succ, i64_w, i32_w]
                                            rfl
                                          refine pure_ (i := 17) (N := some 73) (v := ?_) (a' := ?_) #[true, false, true, false, true, true, false, false, false, false, false, true, true, false, false, false, false, true, false, false, false, false, false, false, false, false] rfl rfl (any_of HT_.out (by kernel_rfl)) (fun _ _ _ h => h) (Or.inl ⟨by rfl, ?_⟩) ?_ ?_
                                          rotate_left
                                          · intro w'
                                            go_simp
                                            with_reducible rfl
                                          rotate_left
                                          · simp only [Act.put, List.setIfInBounds_toArray, List.set_cons_zero, List.set_cons_succ, i64_w, i32_w]
                                            rfl
                                          refine pure_ (i := 18) (N := some 74) (v := ?_) (a' := ?_) #[true, false, true, false, true, true, false, false, false, false, false, true, true, false, false, false, false, true, true, false, false, false, false, false, false, false] rfl rfl (any_of HT_.out (by kernel_rfl)) (fun _ _ _ h => h) (Or.inl ⟨by rfl, ?_⟩) ?_ ?_
                                          rotate_left
                                          · intro w'
                                            go_simp
                                            with_reducible rfl
                                          rotate_left
                                          · simp only [Act.put, List.setIfInBounds_toArray, List.set_cons_zero, List.set_cons_succ, i64_w, i32_w]
                                            rfl
                                          refine take_ (i := 1) (N := some 57) (v := ?_) (a' := ?_) #[true, true, true, false, true, true, false, false, false, false, false, true, true, false, false, false, false, true, true, false, false, false, false, false, false, false] rfl rfl (take_ofW HT_.out HW_.out (by kernel_rfl)) (fun _ _ _ h => h) (Or.inl ⟨by rfl, ?_⟩) hHeld ?_ ?_
                                          rotate_left
                                          · rintro w' ⟨s0, s1, s2, s3, s4, s5, s6, s7, s8, s9, s10, s11, s12, s13, s14, s15⟩
                                            go_simp
                                            with_reducible rfl
                                          rotate_left
                                          · simp only [Act.put, List.setIfInBounds_toArray, List.set_cons_zero, List.set_cons_succ, i64_w, i32_w]
                                            rfl
                                          refine take_ (i := 3) (N := some 59) (v := ?_) (a' := ?_) #[true, true, true, true, true, true, false, false, false, false, false, true, true, false, false, false, false, true, true, false, false, false, false, false, false, false] rfl rfl (take_ofW HT_.out HW_.out (by kernel_rfl)) (fun _ _ _ h => h) (Or.inl ⟨by rfl, ?_⟩) hHeld ?_ ?_
                                          rotate_left
                                          · rintro w' ⟨s0, s1, s2, s3, s4, s5, s6, s7, s8, s9, s10, s11, s12, s13, s14, s15⟩
                                            go_simp
                                            with_reducible rfl
                                          rotate_left
                                          · simp only [Act.put, List.setIfInBounds_toArray, List.set_cons_zero, List.set_cons_succ, i64_w, i32_w]
                                            rfl
                                          refine take_ (i := 6) (N := some 62) (v := ?_) (a' := ?_) #[true, true, true, true, true, true, true, false, false, false, false, true, true, false, false, false, false, true, true, false, false, false, false, false, false, false] rfl rfl (take_ofW HT_.out HW_.out (by kernel_rfl)) (fun _ _ _ h => h) (Or.inl ⟨by rfl, ?_⟩) hHeld ?_ ?_
                                          rotate_left
                                          · rintro w' ⟨s0, s1, s2, s3, s4, s5, s6, s7, s8, s9, s10, s11, s12, s13, s14, s15⟩
                                            go_simp
                                            with_reducible rfl
                                          rotate_left
                                          · simp only [Act.put, List.setIfInBounds_toArray, List.set_cons_zero, List.set_cons_succ, i64_w, i32_w]
                                            rfl
                                          refine pure_ (i := 7) (N := some 63) (v := ?_) (a' := ?_) #[true, true, true, true, true, true, true, true, false, false, false, true, true, false, false, false, false, true, true, false, false, false, false, false, false, false] rfl rfl (any_of HT_.out (by kernel_rfl)) (fun _ _ _ h => h) (Or.inl ⟨by rfl, ?_⟩) ?_ ?_
                                          rotate_left
                                          · intro w'
                                            go_simp
                                            with_reducible rfl
                                          rotate_left
                                          · simp only [Act.put, List.setIfInBounds_toArray, List.set_cons_zero, List.set_cons_succ, i64_w, i32_w]
                                            rfl
                                          refine pure_ (i := 8) (N := some 64) (v := ?_) (a' := ?_) #[true, true, true, true, true, true, true, true, true, false, false, true, true, false, false, false, false, true, true, false, false, false, false, false, false, false] rfl rfl (any_of HT_.out (by kernel_rfl)) (fun _ _ _ h => h) (Or.inl ⟨by rfl, ?_⟩) ?_ ?_
                                          rotate_left
                                          · intro w'
                                            go_simp
                                            with_reducible rfl
                                          rotate_left
                                          · simp only [Act.put, List.setIfInBounds_toArray, List.set_cons_zero, List.set_cons_succ, i64_w, i32_w]
                                            rfl
                                          refine take_ (i := 9) (N := some 65) (v := ?_) (a' := ?_) #[true, true, true, true, true, true, true, true, true, true, false, true, true, false, false, false, false, true, true, false, false, false, false, false, false, false] rfl rfl (take_ofW HT_.out HW_.out (by kernel_rfl)) (fun _ _ _ h => h) (Or.inl ⟨by rfl, ?_⟩) hHeld ?_ ?_
                                          rotate_left
                                          · rintro w' ⟨s0, s1, s2, s3, s4, s5, s6, s7, s8, s9, s10, s11, s12, s13, s14, s15⟩
                                            go_simp
                                            with_reducible rfl
                                          rotate_left
                                          · simp only [Act.put, List.setIfInBounds_toArray, List.set_cons_zero, List.set_cons_succ, i64_w, i32_w]
                                            rfl
                                          refine pure_ (i := 10) (N := some 66) (v := ?_) (a' := ?_) #[true, true, true, true, true, true, true, true, true, true, true, true, true, false, false, false, false, true, true, false, false, false, false, false, false, false] rfl rfl (any_of HT_.out (by kernel_rfl)) (fun _ _ _ h => h) (Or.inl ⟨by rfl, ?_⟩) ?_ ?_
                                          rotate_left
                                          · intro w'
                                            go_simp
                                            with_reducible rfl
                                          rotate_left
                                          · simp only [Act.put, List.setIfInBounds_toArray, List.set_cons_zero, List.set_cons_succ, i64_w, i32_w]
                                            rfl
                                          refine take_ (i := 13) (N := some 69) (v := ?_) (a' := ?_) #[true, true, true, true, true, true, true, true, true, true, true, true, true, true, false, false, false, true, true, false, false, false, false, false, false, false] rfl rfl (take_ofW HT_.out HW_.out (by kernel_rfl)) (fun _ _ _ h => h) (Or.inl ⟨by rfl, ?_⟩) hHeld ?_ ?_
                                          rotate_left
                                          · rintro w' ⟨s0, s1, s2, s3, s4, s5, s6, s7, s8, s9, s10, s11, s12, s13, s14, s15⟩
                                            go_simp
                                            with_reducible rfl
                                          rotate_left
                                          · simp only [Act.put, List.setIfInBounds_toArray, List.set_cons_zero, List.set_cons_succ, i64_w, i32_w]
                                            rfl
                                          refine pure_ (i := 14) (N := some 70) (v := ?_) (a' := ?_) #[true, true, true, true, true, true, true, true, true, true, true, true, true, true, true, false, false, true, true, false, false, false, false, false, false, false] rfl rfl (any_of HT_.out (by kernel_rfl)) (fun _ _ _ h => h) (Or.inl ⟨by rfl, ?_⟩) ?_ ?_
                                          rotate_left
                                          · intro w'
                                            go_simp
                                            with_reducible rfl
                                          rotate_left
                                          · simp only [Act.put, List.setIfInBounds_toArray, List.set_cons_zero, List.set_cons_succ, i64_w, i32_w]
                                            rfl
                                          refine pure_ (i := 15) (N := some 71) (v := ?_) (a' := ?_) #[true, true, true, true, true, true, true, true, true, true, true, true, true, true, true, true, false, true, true, false, false, false, false, false, false, false] rfl rfl (any_of HT_.out (by kernel_rfl)) (fun _ _ _ h => h) (Or.inl ⟨by rfl, ?_⟩) ?_ ?_
                                          rotate_left
                                          · intro w'
                                            go_simp
                                            with_reducible rfl
                                          rotate_left
                                          · simp only [Act.put, List.setIfInBounds_toArray, List.set_cons_zero, List.set_cons_succ, i64_w, i32_w]
                                            rfl
                                          refine take_ (i := 16) (N := some 72) (v := ?_) (a' := ?_) #[true, true, true, true, true, true, true, true, true, true, true, true, true, true, true, true, true, true, true, false, false, false, false, false, false, false] rfl rfl (take_ofW HT_.out HW_.out (by kernel_rfl)) (fun _ _ _ h => h) (Or.inl ⟨by rfl, ?_⟩) hHeld ?_ ?_
                                          rotate_left
                                          · rintro w' ⟨s0, s1, s2, s3, s4, s5, s6, s7, s8, s9, s10, s11, s12, s13, s14, s15⟩
                                            go_simp
                                            with_reducible rfl
                                          rotate_left
                                          · simp only [Act.put, List.setIfInBounds_toArray, List.set_cons_zero, List.set_cons_succ, i64_w, i32_w]
                                            rfl
                                          refine take_ (i := 19) (N := some 75) (v := ?_) (a' := ?_) #[true, true, true, true, true, true, true, true, true, true, true, true, true, true, true, true, true, true, true, true, false, false, false, false, false, false] rfl rfl (take_ofW HT_.out HW_.out (by kernel_rfl)) (fun _ _ _ h => h) (Or.inl ⟨by rfl, ?_⟩) hHeld ?_ ?_
                                          rotate_left
                                          · rintro w' ⟨s0, s1, s2, s3, s4, s5, s6, s7, s8, s9, s10, s11, s12, s13, s14, s15⟩
                                            go_simp
                                            with_reducible rfl
                                          rotate_left
                                          · simp only [Act.put, List.setIfInBounds_toArray, List.set_cons_zero, List.set_cons_succ, i64_w, i32_w]
                                            rfl
                                          refine pure_ (i := 20) (N := some 76) (v := ?_) (a' := ?_) #[true, true, true, true, true, true, true, true, true, true, true, true, true, true, true, true, true, true, true, true, true, false, false, false, false, false] rfl rfl (any_of HT_.out (by kernel_rfl)) (fun _ _ _ h => h) (Or.inl ⟨by rfl, ?_⟩) ?_ ?_
                                          rotate_left
                                          · intro w'
                                            go_simp
                                            with_reducible rfl
                                          rotate_left
                                          · simp only [Act.put, List.setIfInBounds_toArray, List.set_cons_zero, List.set_cons_succ, i64_w, i32_w]
                                            rfl
                                          refine pure_ (i := 21) (N := some 77) (v := ?_) (a' := ?_) #[true, true, true, true, true, true, true, true, true, true, true, true, true, true, true, true, true, true, true, true, true, true, false, false, false, false] rfl rfl (any_of HT_.out (by kernel_rfl)) (fun _ _ _ h => h) (Or.inl ⟨by rfl, ?_⟩) ?_ ?_
                                          rotate_left
                                          · intro w'
                                            go_simp
                                            with_reducible rfl
                                          rotate_left
                                          · simp only [Act.put, List.setIfInBounds_toArray, List.set_cons_zero, List.set_cons_succ, i64_w, i32_w]
                                            rfl
                                          refine take_ (i := 22) (N := some 78) (v := ?_) (a' := ?_) #[true, true, true, true, true, true, true, true, true, true, true, true, true, true, true, true, true, true, true, true, true, true, true, false, false, false] rfl rfl (take_ofW HT_.out HW_.out (by kernel_rfl)) (fun _ _ _ h => h) (Or.inl ⟨by rfl, ?_⟩) hHeld ?_ ?_
                                          rotate_left
                                          · rintro w' ⟨s0, s1, s2, s3, s4, s5, s6, s7, s8, s9, s10, s11, s12, s13, s14, s15⟩
                                            go_simp
                                            with_reducible rfl
                                          rotate_left
                                          · simp only [Act.put, List.setIfInBounds_toArray, List.set_cons_zero, List.set_cons_succ, i64_w, i32_w]
                                            rfl
                                          refine one_ (i := 23) (N := some 79) #[true, true, true, true, true, true, true, true, true, true, true, true, true, true, true, true, true, true, true, true, true, true, true, true, false, false] rfl rfl (one_of HT_.out (by kernel_rfl)) (by decide) (fun K hK => ?_)
                                          refine goes_ Try.func54 (by kernel_rfl) rfl #[.agg #[.int .i64 ((rd_T54 l0 ((rd_T81 l1 (ji27)).f0)).f0.f0), .int .i64 ((rd_T54 l0 ((rd_T81 l1 (ji27)).f0)).f0.f1)], .agg #[.int .i64 ((rd_T54 l0 ((rd_T81 l1 x17_1).f0)).f0.f0), .int .i64 ((rd_T54 l0 ((rd_T81 l1 x17_1).f0)).f0.f1)]] (by rfl) rfl rfl (by (try simp only [List.map_toArray, List.map_cons, List.map_nil]); first | done | (simp only [hji27]; rfl) | rfl | (simp only [List.length_drop, List.length_take]; rfl)) ?_
                                          with_reducible refine (spec_l09Switch.calls ((rd_T54 l0 ((rd_T81 l1 (ji27)).f0)).f0.f0) ((rd_T54 l0 ((rd_T81 l1 (ji27)).f0)).f0.f1) ((rd_T54 l0 ((rd_T81 l1 x17_1).f0)).f0.f0) ((rd_T54 l0 ((rd_T81 l1 x17_1).f0)).f0.f1) t169 _ A34.out).mono ?_
                                          rintro e w49 ⟨rfl, hb⟩
                                          refine ⟨_, rfl, ?_⟩
                                          have n0_ := Aside0.mk (Kd.R_below (by (with_reducible repeat (first | apply Kd.R_alloc | apply Kd.R_drewN | apply Kd.R_drew)); exact HO_5.out) hb)
                                          have n1_ := Aside0.mk (blk_below (g := gb159) (o := .cells #[.int .i64 ((rd_T81 l1 x17_1).f0), .int .i64 ((rd_T81 l1 x17_1).f1)] 81 (0, 0)) (by (with_reducible repeat (first | refine blk_drewN ?_ _ | refine blk_drew ?_ | refine blk_alloc ?_ _)); exact BK159.out) hb)
                                          have n2_ := Aside0.mk (blk_below (g := gb165) (o := .cells #[.int .i64 ((rd_T81 l1 (ji27)).f0), .int .i64 ((rd_T81 l1 (ji27)).f1)] 81 (0, 0)) (by (with_reducible repeat (first | refine blk_drewN ?_ _ | refine blk_drew ?_ | refine blk_alloc ?_ _)); exact BK165.out) hb)
                                          have n3_ := Aside0.mk (below_step (by repeat (first | (with_reducible first | exact HB.out | apply below_alloc | apply pw_below_drewN | apply below_drew1 | refine below_set ?_ GE159.out | refine below_set ?_ GE165.out) | exact HB.out)) hb)
                                          clear HO_5
                                          clear BK159
                                          clear BK165
                                          clear HB
                                          have HO_5 := n0_
                                          have BK159 := n1_
                                          have BK165 := n2_
                                          have HB := n3_
                                          clear n0_ n1_ n2_ n3_
                                          (try clear hb)
                                          (try clear hb2)
                                          (try clear hk)
                                          (try clear hi)
                                          refine hK.out _ _ ⟨(blk_cell BK159.out 0).trans rfl, (blk_cell BK159.out 1).trans rfl, (blk_cell BK165.out 0).trans rfl, (blk_cell BK165.out 1).trans rfl, ((HB.out.cell (World.block_lt_of_cell? w _ hw166_0)).trans hw166_0), ((HB.out.cell (World.block_lt_of_cell? w _ hw166_1)).trans hw166_1), ((HB.out.cell (World.block_lt_of_cell? w _ hw166_2)).trans hw166_2), ((HB.out.cell (World.block_lt_of_cell? w _ hw166_3)).trans hw166_3), ((HB.out.cell (World.block_lt_of_cell? w _ hw167_0)).trans hw167_0), ((HB.out.cell (World.block_lt_of_cell? w _ hw167_1)).trans hw167_1), ((HB.out.cell (World.block_lt_of_cell? w _ hw167_2)).trans hw167_2), ((HB.out.cell (World.block_lt_of_cell? w _ hw167_3)).trans hw167_3), ((HB.out.cell (World.block_lt_of_cell? w _ hw168_0)).trans hw168_0), ((HB.out.cell (World.block_lt_of_cell? w _ hw168_1)).trans hw168_1), ((HB.out.cell (World.block_lt_of_cell? w _ hw168_2)).trans hw168_2), ((HB.out.cell (World.block_lt_of_cell? w _ hw168_3)).trans hw168_3)⟩ (fun hHeld => ?_)
                                          clear hK K
                                          refine norm_ (a' := ?_) ?_ ?_
                                          rotate_left
                                          · show Act.put _ (some 79) _ = _
                                            simp only [Act.put, List.setIfInBounds_toArray, List.set_cons_zero, List.set_cons_succ, i64_w, i32_w]
                                            rfl
                                          refine pure_ (i := 24) (N := some 80) (v := ?_) (a' := ?_) #[true, true, true, true, true, true, true, true, true, true, true, true, true, true, true, true, true, true, true, true, true, true, true, true, true, false] rfl rfl (any_of HT_.out (by kernel_rfl)) (fun _ _ _ h => h) (Or.inl ⟨by rfl, ?_⟩) ?_ ?_
                                          rotate_left
                                          · intro w'
                                            go_simp
                                            with_reducible rfl
                                          rotate_left
                                          · simp only [Act.put, List.setIfInBounds_toArray, List.set_cons_zero, List.set_cons_succ, i64_w, i32_w]
                                            rfl
                                          refine pure_ (i := 25) (N := some 81) (v := ?_) (a' := ?_) #[true, true, true, true, true, true, true, true, true, true, true, true, true, true, true, true, true, true, true, true, true, true, true, true, true, true] rfl rfl (any_of HT_.out (by kernel_rfl)) (fun _ _ _ h => h) (Or.inl ⟨by rfl, ?_⟩) ?_ ?_
                                          rotate_left
                                          · intro w'
                                            go_simp
                                            with_reducible rfl
                                          rotate_left
                                          · simp only [Act.put, List.setIfInBounds_toArray, List.set_cons_zero, List.set_cons_succ, i64_w, i32_w]
                                            rfl
                                          refine done_ (done_of HT_.out (by kernel_rfl)) ?_
                                          have hcz50_0 : w49.cell? ⟨gb159, 0, none⟩ = some (.int .i64 ((rd_T81 l1 x17_1).f0)) := (blk_cell BK159.out 0).trans rfl
                                          have hcz50_1 : w49.cell? ⟨gb159, 1, none⟩ = some (.int .i64 ((rd_T81 l1 x17_1).f1)) := (blk_cell BK159.out 1).trans rfl
                                          have hfz50_0 := blk_frozen BK159.out 0
                                          have hfz50_1 := blk_frozen BK159.out 1
                                          obtain ⟨Ao51, co51, eo51⟩ := Kd.R_slice HO_5.out
                                          subst eo51
                                          have p170 : 0 ≤ (((rd_T81 l1 x17_1).f0) : Int) := of_decide_eq_true (by first | (with_reducible assumption) | assumption)
                                          have q170 : ((rd_T81 l1 x17_1).f0) < (x5_1.length : Int) := of_decide_eq_true (by first | (with_reducible assumption) | assumption)
                                          try (obtain ⟨A_5, c_5, hv_5⟩ := Kd.R_slice HO_5.out; subst hv_5)
                                          obtain ⟨ad170, e170, hx170_0⟩ := Kd.at_int (Kd.R_reads' HO_5.out).2.2 ((rd_T81 l1 x17_1).f0) p170 q170
                                          cases e170
                                          replace p170 := eq_true p170
                                          replace q170 := eq_true q170
                                          have p43 : 0 ≤ (((rd_T81 l1 x17_1).f0) : Int) := of_decide_eq_true (by first | (with_reducible assumption) | assumption)
                                          have q43 : (((rd_T81 l1 x17_1).f0) : Int) < ((x5_1.length : Int) : Int) := of_decide_eq_true (by first | (with_reducible assumption) | assumption)
                                          obtain ⟨go43, co43, eo43, gb43, gl43, cl43, HG43⟩ := Kd.R_form HO_5.out (by omega)
                                          (first | cases eo43 | (injection eo43 with ea_ en_ ec_; (first | subst ea_ | (injection ea_ with ea_; subst ea_)); subst ec_; clear en_))
                                          have GB43 := Aside0.mk gb43
                                          have GG43 := Aside0.mk HG43
                                          clear gb43 gl43 HG43
                                          (first | simp only [add_plain] at hx170_0 | skip)
                                          obtain ⟨hx43_0, hf43_0⟩ := Kd.R_celln 0 HO_5.out (((rd_T81 l1 x17_1).f0) : Int) p43 q43
                                          replace p43 := eq_true p43
                                          replace q43 := eq_true q43
                                          obtain ⟨hy52_, hz52_⟩ := Kd.R_celln 0 HO_5.out (((rd_T81 l1 x17_1).f0) : Int) (of_decide_eq_true (by first | (with_reducible assumption) | assumption)) (of_decide_eq_true (by first | (with_reducible assumption) | assumption))
                                          have HP52 := Kd.R_putg HO_5.out (((rd_T81 l1 x17_1).f0) : Int) (wrap64 ((rd x5_1 ((rd_T81 l1 x17_1).f0)) + 1))
                                          try go_wp2_with (first | ((with_reducible refine gate_store (t := 2) (p := 88) rfl ?_); refine store_event (t := 2) (p := 88) (v := ?vo_w53) (w1 := (w49.setCell ⟨go43, (((rd_T81 l1 x17_1).f0) : Int).toNat, none⟩ (.int .i64 (wrap64 ((rd x5_1 ((rd_T81 l1 x17_1).f0)) + 1))))) ?hg ?ho ?hn ?hr ?_; (case ho => rfl); (case hg => rfl); (case hn => rfl); (case hr => first | (go_simp; done) | (go_simp; rfl)); intro w53 hw; have hg : w49.grownBy w53 (some go43) := (by rw [hw]; exact HP52.2); have hp_ : Kd.R (Kd.int .i64) 2 w53 w.heap.size (fun _ => True) (.slice (some ⟨go43, 0, none⟩) x5_1.length co51) y171 := (by rw [hw, Ny171.out]; exact HP52.1); clear HP52; have n0_ := Aside0.mk (hp_); have n1_ := Aside0.mk (blk_grown (g := gb159) (o := .cells #[.int .i64 ((rd_T81 l1 x17_1).f0), .int .i64 ((rd_T81 l1 x17_1).f1)] 81 (0, 0)) (by (with_reducible repeat (first | refine blk_drewN ?_ _ | refine blk_drew ?_ | refine blk_alloc ?_ _)); exact BK159.out) hg (Kd.R_ne HO_5.out BK159.out (by decide))); have n2_ := Aside0.mk (blk_grown (g := gb165) (o := .cells #[.int .i64 ((rd_T81 l1 (ji27)).f0), .int .i64 ((rd_T81 l1 (ji27)).f1)] 81 (0, 0)) (by (with_reducible repeat (first | refine blk_drewN ?_ _ | refine blk_drew ?_ | refine blk_alloc ?_ _)); exact BK165.out) hg (Kd.R_ne HO_5.out BK165.out (by decide))); have n3_ := Aside0.mk ((by rw [hw]; exact below_set (HB.out) GB43.out : Below w.heap.size w w53)); clear HO_5; clear BK159; clear BK165; clear HB; have HO_5 := n0_; have BK159 := n1_; have BK165 := n2_; have HB := n3_; clear n0_ n1_ n2_ n3_; clear hg hw hp_))
                                          go_roundg kj10
                                          case measure => have := HK1.out; have := HJ10.out; omega
                                          case rel => exact ⟨(y171), (wrap64 (x17_1 + 1)), (by first | rfl | (simp; done) | (simp [*]; done)), H', ⟨by have := HK1.out; have := HJ10.out; omega⟩, ⟨by (with_reducible repeat (first | apply Kd.R_alloc | apply Kd.R_drewN | apply Kd.R_drew)); exact HO_5.out⟩, ⟨by repeat (first | (with_reducible first | exact HB.out | apply below_alloc | apply pw_below_drewN | apply below_drew1 | refine below_set ?_ GE159.out | refine below_set ?_ GE165.out) | exact HB.out)⟩⟩
                                        · rw [if_neg c42] at H
                                          exact absurd H (by simp)
                                    · rw [if_neg c33] at H
                                      exact absurd H (by simp)
                                  · rw [if_neg c32] at H
                                    exact absurd H (by simp)
                                · rw [if_neg c31] at H
                                  exact absurd H (by simp)
                              · rw [if_neg c30] at H
                                exact absurd H (by simp)
                            · rw [if_neg c29] at H
                              exact absurd H (by simp)
                          · rw [if_neg c28] at H
                            exact absurd H (by simp)
                        · rw [if_neg c26] at H
                          have c26b0 : decide (0 < x17_1) = false := decide_eq_false c26
                          clear c26
                          by_cases c54 : 0 ≤ ((rd_T81 l1 x17_1).f0)
                          · rw [if_pos c54] at H
                            have c54b0 : decide (0 ≤ ((rd_T81 l1 x17_1).f0)) = true := decide_eq_true c54
                            clear c54
                            by_cases c55 : ((rd_T81 l1 x17_1).f0) < (x5_1.length : Int)
                            · rw [if_pos c55] at H
                              have c55b0 : decide (((rd_T81 l1 x17_1).f0) < (x5_1.length : Int)) = true := decide_eq_true c55
                              clear c55
                              obtain ⟨y173, hy173⟩ : ∃ y_ : List Int, y_ = (x5_1.set (((rd_T81 l1 x17_1).f0) : Int).toNat (wrap64 ((rd x5_1 ((rd_T81 l1 x17_1).f0)) + 1))) := ⟨_, rfl⟩
                              replace H : (spec_l09Slots.l0 kj10 l0 l1 y173 (l1.length : Int) (wrap64 (x17_1 + 1))) = some r := by first | (rw [hy173]; with_reducible exact H) | (have H2_ := (Option.bind_some _ _).symm.trans H; rw [hy173]; with_reducible exact H2_) | (have H2_ := (Option.bind_some _ _).symm.trans H; with_reducible exact H2_) | with_reducible exact H | (rw [hy173]; exact H) | exact H
                              have Ny173 := Aside0.mk hy173
                              clear hy173
                              have H' := Aside0.mk H
                              clear H
                              have hcz57_0 : wc.cell? ⟨gb159, 0, none⟩ = some (.int .i64 ((rd_T81 l1 x17_1).f0)) := (blk_cell BK159.out 0).trans rfl
                              have hcz57_1 : wc.cell? ⟨gb159, 1, none⟩ = some (.int .i64 ((rd_T81 l1 x17_1).f1)) := (blk_cell BK159.out 1).trans rfl
                              have hfz57_0 := blk_frozen BK159.out 0
                              have hfz57_1 := blk_frozen BK159.out 1
                              obtain ⟨Ao58, co58, eo58⟩ := Kd.R_slice HO_5.out
                              subst eo58
                              have p172 : 0 ≤ (((rd_T81 l1 x17_1).f0) : Int) := of_decide_eq_true (by first | (with_reducible assumption) | assumption)
                              have q172 : ((rd_T81 l1 x17_1).f0) < (x5_1.length : Int) := of_decide_eq_true (by first | (with_reducible assumption) | assumption)
                              try (obtain ⟨A_5, c_5, hv_5⟩ := Kd.R_slice HO_5.out; subst hv_5)
                              obtain ⟨ad172, e172, hx172_0⟩ := Kd.at_int (Kd.R_reads' HO_5.out).2.2 ((rd_T81 l1 x17_1).f0) p172 q172
                              cases e172
                              replace p172 := eq_true p172
                              replace q172 := eq_true q172
                              have p56 : 0 ≤ (((rd_T81 l1 x17_1).f0) : Int) := of_decide_eq_true (by first | (with_reducible assumption) | assumption)
                              have q56 : (((rd_T81 l1 x17_1).f0) : Int) < ((x5_1.length : Int) : Int) := of_decide_eq_true (by first | (with_reducible assumption) | assumption)
                              obtain ⟨go56, co56, eo56, gb56, gl56, cl56, HG56⟩ := Kd.R_form HO_5.out (by omega)
                              (first | cases eo56 | (injection eo56 with ea_ en_ ec_; (first | subst ea_ | (injection ea_ with ea_; subst ea_)); subst ec_; clear en_))
                              have GB56 := Aside0.mk gb56
                              have GG56 := Aside0.mk HG56
                              clear gb56 gl56 HG56
                              (first | simp only [add_plain] at hx172_0 | skip)
                              obtain ⟨hx56_0, hf56_0⟩ := Kd.R_celln 0 HO_5.out (((rd_T81 l1 x17_1).f0) : Int) p56 q56
                              replace p56 := eq_true p56
                              replace q56 := eq_true q56
                              have HP59 := Kd.R_putg HO_5.out (((rd_T81 l1 x17_1).f0) : Int) (wrap64 ((rd x5_1 ((rd_T81 l1 x17_1).f0)) + 1))
                              go_wp2_with (first | ((with_reducible refine gate_store (t := 2) (p := 88) rfl ?_); refine store_event (t := 2) (p := 88) (v := ?vo_w60) (w1 := (wc.setCell ⟨go56, (((rd_T81 l1 x17_1).f0) : Int).toNat, none⟩ (.int .i64 (wrap64 ((rd x5_1 ((rd_T81 l1 x17_1).f0)) + 1))))) ?hg ?ho ?hn ?hr ?_; (case ho => rfl); (case hg => rfl); (case hn => rfl); (case hr => first | (go_simp; done) | (go_simp; rfl)); intro w60 hw; have hg : wc.grownBy w60 (some go56) := (by rw [hw]; exact HP59.2); have hp_ : Kd.R (Kd.int .i64) 2 w60 w.heap.size (fun _ => True) (.slice (some ⟨go56, 0, none⟩) x5_1.length co58) y173 := (by rw [hw, Ny173.out]; exact HP59.1); clear HP59; have n0_ := Aside0.mk (hp_); have n1_ := Aside0.mk (blk_grown (g := gb159) (o := .cells #[.int .i64 ((rd_T81 l1 x17_1).f0), .int .i64 ((rd_T81 l1 x17_1).f1)] 81 (0, 0)) (by (with_reducible repeat (first | refine blk_drewN ?_ _ | refine blk_drew ?_ | refine blk_alloc ?_ _)); exact BK159.out) hg (Kd.R_ne HO_5.out BK159.out (by decide))); have n2_ := Aside0.mk ((by rw [hw]; exact below_set (HB.out) GB56.out : Below w.heap.size w w60)); clear HO_5; clear BK159; clear HB; have HO_5 := n0_; have BK159 := n1_; have HB := n2_; clear n0_ n1_ n2_; clear hg hw hp_))
                              go_roundg kj10
                              case measure => have := HK1.out; have := HJ10.out; omega
                              case rel => exact ⟨(y173), (wrap64 (x17_1 + 1)), (by first | rfl | (simp; done) | (simp [*]; done)), H', ⟨by have := HK1.out; have := HJ10.out; omega⟩, ⟨by (with_reducible repeat (first | apply Kd.R_alloc | apply Kd.R_drewN | apply Kd.R_drew)); exact HO_5.out⟩, ⟨by repeat (first | (with_reducible first | exact HB.out | apply below_alloc | apply pw_below_drewN | apply below_drew1 | refine below_set ?_ GE159.out) | exact HB.out)⟩⟩
                            · rw [if_neg c55] at H
                              exact absurd H (by simp)
                          · rw [if_neg c54] at H
                            exact absurd H (by simp)
                · rw [if_neg c10] at H
                  exact absurd H (by simp)
              · rw [if_neg c9] at H
                exact absurd H (by simp)
            · rw [if_neg c8] at H
              have c8b0 : decide (x17_1 < (l1.length : Int)) = false := decide_eq_false c8
              clear c8
              obtain rfl := Option.some.inj H
              go_wp2
              go_ret
              exact ⟨by first | rfl | (simp [errW_none, errW_some] <;> rfl) | (simp [*, errW_none, errW_some] <;> rfl), by repeat (first | (with_reducible first | exact HB.out | apply below_alloc | apply pw_below_drewN | apply below_drew1) | exact HB.out)⟩
      · rw [if_neg c5] at H
        exact absurd H (by simp)
    · rw [if_neg c4] at H
      exact absurd H (by simp)

end Go.Proofs.Ytekcngoemeadlaa.B
