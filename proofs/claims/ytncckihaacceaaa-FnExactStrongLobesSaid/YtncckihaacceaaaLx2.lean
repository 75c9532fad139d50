/-
  Contracts of the program's functions, each a plain Lean function beside the machine's call: written by this session's program over the kit's print.
-/
import Derived.Test.YtncckihaacceaaaLx0
namespace Go.Proofs.Ytncckihaacceaaa.L
open Go.RowKit Go.Proofs.YtncckihaacceaaaW.PrintWords Go.Proofs.YtncckihaacceaaaW.PrintLast Go.Proofs.YtncckihaacceaaaW.PrintMore
attribute [local go_sem] max2_int min2_int max_two min_two max_three min_three max_four min_four   -- for this text's walks alone
set_option linter.unusedVariables false
set_option linter.unusedSimpArgs false

/-! ### spec_l03Runs: function 49 -/
mutual
def spec_l03Runs.l0 : Nat → List Nat → Bool → List Int → Int → Option (List Int)
 | 0, _, _, _, _ => none
 | k + 1, x0, x1, x5, x6 => if x6 < (x0.length : Int) then (if 0 ≤ x6 then (if (FloatKind.f32.format.order (rdOf (0 : Nat) x0 x6) (rdOf (0 : Nat) x0 x6) != some .eq) = true then (spec_l03Runs.l0 k x0 x1 x5 (wrap64 (x6 + 1))) else (spec_l03Runs.l1 k x0 x1 x5 x6 x6)) else (none)) else (some x5)
def spec_l03Runs.j2 : Nat → List Nat → Bool → List Int → Int → Int → Option (List Int)
 | 0, _, _, _, _, _ => none
 | k + 1, x0, x1, x5, x6, x7 => if x6 > 0 then (if x1 = true then (if 0 ≤ (wrap64 (x6 - 1)) then (if (wrap64 (x6 - 1)) < (x0.length : Int) then (if 0 ≤ x6 then (if x6 < (x0.length : Int) then (if (FloatKind.f32.format.order (rdOf (0 : Nat) x0 (wrap64 (x6 - 1))) (rdOf (0 : Nat) x0 x6) == some .lt) = true then (spec_l03Runs.j3 k x0 x1 x5 x6 x7 true) else (spec_l03Runs.j3 k x0 x1 x5 x6 x7 false)) else (none)) else (none)) else (none)) else (none)) else (if 0 ≤ (wrap64 (x6 - 1)) then (if (wrap64 (x6 - 1)) < (x0.length : Int) then (if 0 ≤ x6 then (if x6 < (x0.length : Int) then (spec_l03Runs.j3 k x0 x1 x5 x6 x7 (FloatKind.f32.format.order (rdOf (0 : Nat) x0 (wrap64 (x6 - 1))) (rdOf (0 : Nat) x0 x6) == some .gt)) else (none)) else (none)) else (none)) else (none))) else (spec_l03Runs.j3 k x0 x1 x5 x6 x7 true)
def spec_l03Runs.j3 : Nat → List Nat → Bool → List Int → Int → Int → Bool → Option (List Int)
 | 0, _, _, _, _, _, _ => none
 | k + 1, x0, x1, x5, x6, x7, x8 => if (wrap64 (x7 + 1)) < (x0.length : Int) then (if x8 = true then (if x1 = true then (if 0 ≤ (wrap64 (x7 + 1)) then (if 0 ≤ x6 then (if x6 < (x0.length : Int) then (if (FloatKind.f32.format.order (rdOf (0 : Nat) x0 (wrap64 (x7 + 1))) (rdOf (0 : Nat) x0 x6) == some .lt) = true then (if x5.length < 17592186044416 then (spec_l03Runs.l0 k x0 x1 (x5 ++ [x6]) (wrap64 (x7 + 1))) else (none)) else (spec_l03Runs.l0 k x0 x1 x5 (wrap64 (x7 + 1)))) else (none)) else (none)) else (none)) else (if 0 ≤ (wrap64 (x7 + 1)) then (if 0 ≤ x6 then (if x6 < (x0.length : Int) then (if (FloatKind.f32.format.order (rdOf (0 : Nat) x0 (wrap64 (x7 + 1))) (rdOf (0 : Nat) x0 x6) == some .gt) = true then (if x5.length < 17592186044416 then (spec_l03Runs.l0 k x0 x1 (x5 ++ [x6]) (wrap64 (x7 + 1))) else (none)) else (spec_l03Runs.l0 k x0 x1 x5 (wrap64 (x7 + 1)))) else (none)) else (none)) else (none))) else (spec_l03Runs.l0 k x0 x1 x5 (wrap64 (x7 + 1)))) else (if x8 = true then (if x5.length < 17592186044416 then (spec_l03Runs.l0 k x0 x1 (x5 ++ [x6]) (wrap64 (x7 + 1))) else (none)) else (spec_l03Runs.l0 k x0 x1 x5 (wrap64 (x7 + 1))))
def spec_l03Runs.l1 : Nat → List Nat → Bool → List Int → Int → Int → Option (List Int)
 | 0, _, _, _, _, _ => none
 | k + 1, x0, x1, x5, x6, x7 => if (wrap64 (x7 + 1)) < (x0.length : Int) then (if 0 ≤ (wrap64 (x7 + 1)) then (if 0 ≤ x6 then (if x6 < (x0.length : Int) then (if (FloatKind.f32.format.order (rdOf (0 : Nat) x0 (wrap64 (x7 + 1))) (rdOf (0 : Nat) x0 x6) == some .eq) = true then (spec_l03Runs.l1 k x0 x1 x5 x6 (wrap64 (x7 + 1))) else (spec_l03Runs.j2 k x0 x1 x5 x6 x7)) else (none)) else (none)) else (none)) else (spec_l03Runs.j2 k x0 x1 x5 x6 x7)
end
def spec_l03Runs.f (k : Nat) (l0 : List Nat) (a1 : Bool) : Option (List Int) := spec_l03Runs.l0 k l0 a1 (([] : List Int)) 0
theorem spec_l03Runs.mono_l : ∀ k, (∀ y0 y1 y2 y3, LeO (spec_l03Runs.l0 k y0 y1 y2 y3) (spec_l03Runs.l0 (k + 1) y0 y1 y2 y3)) ∧ (∀ y0 y1 y2 y3 y4, LeO (spec_l03Runs.j2 k y0 y1 y2 y3 y4) (spec_l03Runs.j2 (k + 1) y0 y1 y2 y3 y4)) ∧ (∀ y0 y1 y2 y3 y4 y5, LeO (spec_l03Runs.j3 k y0 y1 y2 y3 y4 y5) (spec_l03Runs.j3 (k + 1) y0 y1 y2 y3 y4 y5)) ∧ (∀ y0 y1 y2 y3 y4, LeO (spec_l03Runs.l1 k y0 y1 y2 y3 y4) (spec_l03Runs.l1 (k + 1) y0 y1 y2 y3 y4))
 | 0 => ⟨fun _ _ _ _ r h => by simp [spec_l03Runs.l0] at h, fun _ _ _ _ _ r h => by simp [spec_l03Runs.j2] at h, fun _ _ _ _ _ _ r h => by simp [spec_l03Runs.j3] at h, fun _ _ _ _ _ r h => by simp [spec_l03Runs.l1] at h⟩
 | k + 1 => by
  obtain ⟨ih0, ih1, ih2, ih3⟩ := spec_l03Runs.mono_l k
  refine ⟨?_, ?_, ?_, ?_⟩
  · intro y0 y1 y2 y3
    unfold spec_l03Runs.l0
    repeat' first
    | (with_reducible exact ih0 _ _ _ _)
    | (with_reducible exact ih1 _ _ _ _ _)
    | (with_reducible exact ih2 _ _ _ _ _ _)
    | (with_reducible exact ih3 _ _ _ _ _)
    | (with_reducible exact LeO.refl _)
    | (with_reducible exact LeO.none _)
    | (with_reducible refine LeO.ite ?_ ?_)
    | (with_reducible refine LeO.bind ?_ (fun _ => ?_))
    | exact ih0 _ _ _ _
    | exact ih1 _ _ _ _ _
    | exact ih2 _ _ _ _ _ _
    | exact ih3 _ _ _ _ _
    | exact LeO.none _
    | refine LeO.ite ?_ ?_
    | refine LeO.bind ?_ (fun _ => ?_)
  · intro y0 y1 y2 y3 y4
    unfold spec_l03Runs.j2
    repeat' first
    | (with_reducible exact ih0 _ _ _ _)
    | (with_reducible exact ih1 _ _ _ _ _)
    | (with_reducible exact ih2 _ _ _ _ _ _)
    | (with_reducible exact ih3 _ _ _ _ _)
    | (with_reducible exact LeO.refl _)
    | (with_reducible exact LeO.none _)
    | (with_reducible refine LeO.ite ?_ ?_)
    | (with_reducible refine LeO.bind ?_ (fun _ => ?_))
    | exact ih0 _ _ _ _
    | exact ih1 _ _ _ _ _
    | exact ih2 _ _ _ _ _ _
    | exact ih3 _ _ _ _ _
    | exact LeO.none _
    | refine LeO.ite ?_ ?_
    | refine LeO.bind ?_ (fun _ => ?_)
  · intro y0 y1 y2 y3 y4 y5
    unfold spec_l03Runs.j3
    repeat' first
    | (with_reducible exact ih0 _ _ _ _)
    | (with_reducible exact ih1 _ _ _ _ _)
    | (with_reducible exact ih2 _ _ _ _ _ _)
    | (with_reducible exact ih3 _ _ _ _ _)
    | (with_reducible exact LeO.refl _)
    | (with_reducible exact LeO.none _)
    | (with_reducible refine LeO.ite ?_ ?_)
    | (with_reducible refine LeO.bind ?_ (fun _ => ?_))
    | exact ih0 _ _ _ _
    | exact ih1 _ _ _ _ _
    | exact ih2 _ _ _ _ _ _
    | exact ih3 _ _ _ _ _
    | exact LeO.none _
    | refine LeO.ite ?_ ?_
    | refine LeO.bind ?_ (fun _ => ?_)
  · intro y0 y1 y2 y3 y4
    unfold spec_l03Runs.l1
    repeat' first
    | (with_reducible exact ih0 _ _ _ _)
    | (with_reducible exact ih1 _ _ _ _ _)
    | (with_reducible exact ih2 _ _ _ _ _ _)
    | (with_reducible exact ih3 _ _ _ _ _)
    | (with_reducible exact LeO.refl _)
    | (with_reducible exact LeO.none _)
    | (with_reducible refine LeO.ite ?_ ?_)
    | (with_reducible refine LeO.bind ?_ (fun _ => ?_))
    | exact ih0 _ _ _ _
    | exact ih1 _ _ _ _ _
    | exact ih2 _ _ _ _ _ _
    | exact ih3 _ _ _ _ _
    | exact LeO.none _
    | refine LeO.ite ?_ ?_
    | refine LeO.bind ?_ (fun _ => ?_)
theorem spec_l03Runs.mono : ∀ a0 a1 k, LeO (spec_l03Runs.f k a0 a1) (spec_l03Runs.f (k + 1) a0 a1) := by
 intro a0 a1 k
 obtain ⟨ih0, ih1, ih2, ih3⟩ := spec_l03Runs.mono_l k
 unfold spec_l03Runs.f
 repeat' first
  | (with_reducible exact ih0 _ _ _ _)
  | (with_reducible exact ih1 _ _ _ _ _)
  | (with_reducible exact ih2 _ _ _ _ _ _)
  | (with_reducible exact ih3 _ _ _ _ _)
  | (with_reducible exact LeO.refl _)
  | (with_reducible exact LeO.none _)
  | (with_reducible refine LeO.ite ?_ ?_)
  | (with_reducible refine LeO.bind ?_ (fun _ => ?_))
  | exact ih0 _ _ _ _
  | exact ih1 _ _ _ _ _
  | exact ih2 _ _ _ _ _ _
  | exact ih3 _ _ _ _ _
  | exact LeO.none _
  | refine LeO.ite ?_ ?_
  | refine LeO.bind ?_ (fun _ => ?_)
set_option maxHeartbeats 8000000 in
set_option maxRecDepth 100000 in
theorem spec_l03Runs.calls (k : Nat) (A0 : Option Addr) (c0 : Nat) (l0 : List Nat) (a1 : Bool) (r : List Int) (w : World) (hr0 : Kd.C Kd.f32 w A0 l0.length l0) (hc0 : l0.length ≤ c0) (h : spec_l03Runs.f k l0 a1 = some r) :
 Calls Try.prog 49 #[.slice A0 l0.length c0, .bool a1] w fun e w' => ∃ v0_ : Value, e = .returned (v0_) ∧ Kd.R (Kd.int .i64) 2 w' w.heap.size (fun _ => True) v0_ r ∧ Below w.heap.size w w' := by
 have HR0 := Aside0.mk hr0
 have HC0 := Aside0.mk hc0
 clear hr0 hc0
 have HB := Aside0.mk (Below.refl w.heap.size w)
 have H : (spec_l03Runs.l0 k l0 a1 (([] : List Int)) 0) = some r := h
 clear h
 obtain ⟨y106, hy106⟩ : ∃ y_ : List Int, y_ = (([] : List Int)) := ⟨_, rfl⟩
 replace H : (spec_l03Runs.l0 k l0 a1 y106 0) = some r := by first | (rw [hy106]; with_reducible exact H) | (have H2_ := (Option.bind_some _ _).symm.trans H; rw [hy106]; with_reducible exact H2_) | (have H2_ := (Option.bind_some _ _).symm.trans H; with_reducible exact H2_) | with_reducible exact H | (rw [hy106]; exact H) | exact H
 have Ny106 := Aside0.mk hy106
 clear hy106
 have H' := Aside0.mk H
 clear H
 go_enter Try.func49, Try.ntmps49
 go_wp2_with (first | ((with_reducible refine gate_dst (N := 9) rfl ?_); refine Kd.R_lit (Kd.int .i64) _ 2 ?hg (N := 9) ?hd (xs := ([] : List Int)) (inner := []) (ok := fun _ => True) (okp := fun _ => True) ?hr ?hp (fun _ hk => hk) trivial (Below.refl _ _) (Nat.le_refl _) (by simp) ?_; (case hd => rfl); (case hg => rfl); (case hr => first | (go_simp; done) | (go_simp; rfl)); (case hp => exact (Reps.none _ _)); intro v107 w3 ho4 hb hg_ hnew_; clear hg_ hnew_; (first | rw [← Ny106.out] at ho4 | (simp only [Int.reduceToNat] at ho4; rw [← Ny106.out] at ho4)); have n0_ := Aside0.mk (Kd.R_lower ho4 (below_size (by repeat (first | (with_reducible first | exact HB.out | apply below_alloc | apply pw_below_drewN | apply below_drew1) | exact HB.out)))); have n1_ := Aside0.mk (below_step (by repeat (first | (with_reducible first | exact HB.out | apply below_alloc | apply pw_below_drewN | apply below_drew1) | exact HB.out)) hb); clear HB; have HO108 := n0_; have HB := n1_; clear n0_ n1_; clear hb ho4))
 repeat (go_quiet (first | ((with_reducible refine gate_dst (N := 9) rfl ?_); refine Kd.R_lit (Kd.int .i64) _ 2 ?hg (N := 9) ?hd (xs := ([] : List Int)) (inner := []) (ok := fun _ => True) (okp := fun _ => True) ?hr ?hp (fun _ hk => hk) trivial (Below.refl _ _) (Nat.le_refl _) (by simp) ?_; (case hd => rfl); (case hg => rfl); (case hr => first | (go_simp; done) | (go_simp; rfl)); (case hp => exact (Reps.none _ _)); intro v107 w3 ho4 hb hg_ hnew_; clear hg_ hnew_; (first | rw [← Ny106.out] at ho4 | (simp only [Int.reduceToNat] at ho4; rw [← Ny106.out] at ho4)); have n0_ := Aside0.mk (Kd.R_lower ho4 (below_size (by repeat (first | (with_reducible first | exact HB.out | apply below_alloc | apply pw_below_drewN | apply below_drew1) | exact HB.out)))); have n1_ := Aside0.mk (below_step (by repeat (first | (with_reducible first | exact HB.out | apply below_alloc | apply pw_below_drewN | apply below_drew1) | exact HB.out)) hb); clear HB; have HO108 := n0_; have HB := n1_; clear n0_ n1_; clear hb ho4)); try go_wp2_with (first | ((with_reducible refine gate_dst (N := 9) rfl ?_); refine Kd.R_lit (Kd.int .i64) _ 2 ?hg (N := 9) ?hd (xs := ([] : List Int)) (inner := []) (ok := fun _ => True) (okp := fun _ => True) ?hr ?hp (fun _ hk => hk) trivial (Below.refl _ _) (Nat.le_refl _) (by simp) ?_; (case hd => rfl); (case hg => rfl); (case hr => first | (go_simp; done) | (go_simp; rfl)); (case hp => exact (Reps.none _ _)); intro v107 w3 ho4 hb hg_ hnew_; clear hg_ hnew_; (first | rw [← Ny106.out] at ho4 | (simp only [Int.reduceToNat] at ho4; rw [← Ny106.out] at ho4)); have n0_ := Aside0.mk (Kd.R_lower ho4 (below_size (by repeat (first | (with_reducible first | exact HB.out | apply below_alloc | apply pw_below_drewN | apply below_drew1) | exact HB.out)))); have n1_ := Aside0.mk (below_step (by repeat (first | (with_reducible first | exact HB.out | apply below_alloc | apply pw_below_drewN | apply below_drew1) | exact HB.out)) hb); clear HB; have HO108 := n0_; have HB := n1_; clear n0_ n1_; clear hb ho4)))
 go_loopg [5, 6] k (fun kq v5 v6 w' => ∃ (x5_1 : List Int) (x6_1 : Int), v6 = .int .i64 x6_1 ∧ Aside0 (spec_l03Runs.l0 kq l0 a1 x5_1 x6_1 = some r) ∧ Aside0 (kq ≤ k) ∧ Aside0 (Kd.R (Kd.int .i64) 2 w' w.heap.size (fun _ => True) v5 x5_1) ∧ Aside0 (Below w.heap.size w w'))
 case atStart => exact ⟨(y106), (0), (by first | rfl | (simp; done) | (simp [*]; done)), H', ⟨Nat.le_refl _⟩, ⟨by (with_reducible repeat (first | apply Kd.R_alloc | apply Kd.R_drewN | apply Kd.R_drew)); exact HO108.out⟩, ⟨by repeat (first | (with_reducible first | exact HB.out | apply below_alloc | apply pw_below_drewN | apply below_drew1) | exact HB.out)⟩⟩
 case round =>
  clear H'
  (try clear p2); (try clear c4)
  obtain ⟨x5_1, x6_1, rfl, HA, HK1, HO_5, HB⟩ := hrel
  cases gk with
  | zero => exact absurd HA.out (by simp [spec_l03Runs.l0])
  | succ k1 =>
   have H := HA.out
   clear HA
   simp only [spec_l03Runs.l0] at H
   by_cases c5 : x6_1 < (l0.length : Int)
   · rw [if_pos c5] at H
     have c5b0 : decide (x6_1 < (l0.length : Int)) = true := decide_eq_true c5
     clear c5
     by_cases c6 : 0 ≤ x6_1
     · rw [if_pos c6] at H
       have c6b0 : decide (0 ≤ x6_1) = true := decide_eq_true c6
       clear c6
       by_cases c7 : (FloatKind.f32.format.order (rdOf (0 : Nat) l0 x6_1) (rdOf (0 : Nat) l0 x6_1) != some .eq) = true
       · rw [if_pos c7] at H
         have c7b0 : (FloatKind.f32.format.order (rdOf (0 : Nat) l0 x6_1) (rdOf (0 : Nat) l0 x6_1) != some .eq) = true := c7
         (try (have c7b1 : decide (FloatKind.f32.format.order (rdOf (0 : Nat) l0 x6_1) (rdOf (0 : Nat) l0 x6_1) = some .eq) = false := by simpa using c7))
         (try (have c7b2 : (FloatKind.f32.format.order (rdOf (0 : Nat) l0 x6_1) (rdOf (0 : Nat) l0 x6_1) == some .eq) = false := by simpa using c7))
         (try (have c7b3 : ¬ (FloatKind.f32.format.order (rdOf (0 : Nat) l0 x6_1) (rdOf (0 : Nat) l0 x6_1) = some .eq) := by simpa using c7))
         clear c7
         as_aux_lemma =>
          have H' := Aside0.mk H
          clear H
          have p109 : 0 ≤ (x6_1 : Int) := of_decide_eq_true (by first | (with_reducible assumption) | assumption)
          have q109 : x6_1 < (l0.length : Int) := of_decide_eq_true (by first | (with_reducible assumption) | assumption)
          obtain ⟨ad109, e109, hx109_0⟩ := Kd.at_f32 HR0.out x6_1 p109 q109
          cases e109
          replace hx109_0 := (HB.out.cell (World.block_lt_of_cell? w _ hx109_0)).trans hx109_0
          replace p109 := eq_true p109
          replace q109 := eq_true q109
          have p110 : 0 ≤ (x6_1 : Int) := of_decide_eq_true (by first | (with_reducible assumption) | assumption)
          have q110 : x6_1 < (l0.length : Int) := of_decide_eq_true (by first | (with_reducible assumption) | assumption)
          obtain ⟨ad110, e110, hx110_0⟩ := Kd.at_f32 HR0.out x6_1 p110 q110
          obtain rfl : ad109 = ad110 := (by injection e110)
          replace hx110_0 := (HB.out.cell (World.block_lt_of_cell? w _ hx110_0)).trans hx110_0
          replace p110 := eq_true p110
          replace q110 := eq_true q110
          go_wp2
          repeat (go_quiet (fail); try go_wp2)
          go_roundg k1
          case measure => have := HK1.out; omega
          case rel => exact ⟨(x5_1), (wrap64 (x6_1 + 1)), (by first | rfl | (simp; done) | (simp [*]; done)), H', ⟨by have := HK1.out; omega⟩, ⟨by (with_reducible repeat (first | apply Kd.R_alloc | apply Kd.R_drewN | apply Kd.R_drew)); exact HO_5.out⟩, ⟨by repeat (first | (with_reducible first | exact HB.out | apply below_alloc | apply pw_below_drewN | apply below_drew1) | exact HB.out)⟩⟩
       · rw [if_neg c7] at H
         have c7b0 : (FloatKind.f32.format.order (rdOf (0 : Nat) l0 x6_1) (rdOf (0 : Nat) l0 x6_1) != some .eq) = false := by simpa using c7
         (try (have c7b1 : decide (FloatKind.f32.format.order (rdOf (0 : Nat) l0 x6_1) (rdOf (0 : Nat) l0 x6_1) = some .eq) = true := by simpa using c7))
         (try (have c7b2 : (FloatKind.f32.format.order (rdOf (0 : Nat) l0 x6_1) (rdOf (0 : Nat) l0 x6_1) == some .eq) = true := by simpa using c7))
         clear c7
         have HC8 := Aside0.mk H
         clear H
         have p109 : 0 ≤ (x6_1 : Int) := of_decide_eq_true (by first | (with_reducible assumption) | assumption)
         have q109 : x6_1 < (l0.length : Int) := of_decide_eq_true (by first | (with_reducible assumption) | assumption)
         obtain ⟨ad109, e109, hx109_0⟩ := Kd.at_f32 HR0.out x6_1 p109 q109
         cases e109
         replace hx109_0 := (HB.out.cell (World.block_lt_of_cell? w _ hx109_0)).trans hx109_0
         replace p109 := eq_true p109
         replace q109 := eq_true q109
         have p110 : 0 ≤ (x6_1 : Int) := of_decide_eq_true (by first | (with_reducible assumption) | assumption)
         have q110 : x6_1 < (l0.length : Int) := of_decide_eq_true (by first | (with_reducible assumption) | assumption)
         obtain ⟨ad110, e110, hx110_0⟩ := Kd.at_f32 HR0.out x6_1 p110 q110
         obtain rfl : ad109 = ad110 := (by injection e110)
         replace hx110_0 := (HB.out.cell (World.block_lt_of_cell? w _ hx110_0)).trans hx110_0
         replace p110 := eq_true p110
         replace q110 := eq_true q110
         go_upto_block 2 with (fail)
         repeat (go_quiet (fail); go_upto_block 2 with (fail))
         go_cut [7] (fun v7 wc => ∃ (kq : Nat) (x7_7 : Int), v7 = .int .i64 x7_7 ∧ Aside0 (spec_l03Runs.j2 kq l0 a1 x5_1 x6_1 x7_7 = some r) ∧ Aside0 (kq ≤ k1) ∧ Aside0 (Kd.R (Kd.int .i64) 2 wc w.heap.size (fun _ => True) u5 x5_1) ∧ Aside0 (Below w.heap.size w wc))
         case first =>
          have H := HC8.out
          clear HC8
          have H' := Aside0.mk H
          clear H
          go_wp2
          repeat (go_quiet (fail); try go_wp2)
          go_loopg [7] k1 (fun kq v7 w' => ∃ (x7_2 : Int), v7 = .int .i64 x7_2 ∧ Aside0 (spec_l03Runs.l1 kq l0 a1 x5_1 x6_1 x7_2 = some r) ∧ Aside0 (kq ≤ k1) ∧ Aside0 (Kd.R (Kd.int .i64) 2 w' w.heap.size (fun _ => True) u5 x5_1) ∧ Aside0 (Below w.heap.size w w'))
          case atStart => exact ⟨(x6_1), (by first | rfl | (simp; done) | (simp [*]; done)), H', ⟨Nat.le_refl _⟩, ⟨by (with_reducible repeat (first | apply Kd.R_alloc | apply Kd.R_drewN | apply Kd.R_drew)); exact HO_5.out⟩, ⟨by repeat (first | (with_reducible first | exact HB.out | apply below_alloc | apply pw_below_drewN | apply below_drew1) | exact HB.out)⟩⟩
          case round =>
           clear H'
           (try clear p1); (try clear q1); (try clear hx1); (try clear p2); (try clear c4); (try clear c5); (try clear c5b0); (try clear c6); (try clear c6b0); (try clear p6); (try clear c7); (try clear c7b0); (try clear c7b1); (try clear c7b2); (try clear hx109_0); (try clear hx110_0); (try clear p109); (try clear p110); (try clear p2); (try clear q109); (try clear q110)
           obtain ⟨x7_2, rfl, HA, HK2, HO_5, HB⟩ := hrel
           cases gk with
           | zero => exact absurd HA.out (by simp [spec_l03Runs.l1])
           | succ k2 =>
            have H := HA.out
            clear HA
            simp only [spec_l03Runs.l1] at H
            by_cases c9 : (wrap64 (x7_2 + 1)) < (l0.length : Int)
            · rw [if_pos c9] at H
              have c9b0 : decide ((wrap64 (x7_2 + 1)) < (l0.length : Int)) = true := decide_eq_true c9
              clear c9
              (first | rw [c9b0] | (simp only [i64_w, i32_w]; rw [c9b0]) | skip)
              obtain ⟨ji10, hji10⟩ : ∃ j_ : Int, (wrap64 (x7_2 + 1)) = j_ := ⟨_, rfl⟩
              replace H : (if 0 ≤ (ji10) then (if 0 ≤ x6_1 then (if x6_1 < (l0.length : Int) then (if (FloatKind.f32.format.order (rdOf (0 : Nat) l0 (ji10)) (rdOf (0 : Nat) l0 x6_1) == some .eq) = true then (spec_l03Runs.l1 k2 l0 a1 x5_1 x6_1 ji10) else (spec_l03Runs.j2 k2 l0 a1 x5_1 x6_1 x7_2)) else (none)) else (none)) else (none)) = some r := by first | (rw [hji10] at H; exact H) | (simp only [hji10] at H ⊢; exact H)
              (try rw [hji10] at c9b0)
              have hji10w : (IntKind.i64.wrap (x7_2 + 1)) = ji10 := (i64_w _).trans hji10
              by_cases c11 : 0 ≤ (ji10)
              · rw [if_pos c11] at H
                have c11b0 : decide (0 ≤ (ji10)) = true := decide_eq_true c11
                clear c11
                by_cases c12 : 0 ≤ x6_1
                · rw [if_pos c12] at H
                  have c12b0 : decide (0 ≤ x6_1) = true := decide_eq_true c12
                  clear c12
                  by_cases c13 : x6_1 < (l0.length : Int)
                  · rw [if_pos c13] at H
                    have c13b0 : decide (x6_1 < (l0.length : Int)) = true := decide_eq_true c13
                    clear c13
                    by_cases c14 : (FloatKind.f32.format.order (rdOf (0 : Nat) l0 (ji10)) (rdOf (0 : Nat) l0 x6_1) == some .eq) = true
                    · rw [if_pos c14] at H
                      have c14b0 : (FloatKind.f32.format.order (rdOf (0 : Nat) l0 (ji10)) (rdOf (0 : Nat) l0 x6_1) == some .eq) = true := c14
                      (try (have c14b1 : decide (FloatKind.f32.format.order (rdOf (0 : Nat) l0 (ji10)) (rdOf (0 : Nat) l0 x6_1) = some .eq) = true := by simpa using c14))
                      (try (have c14b2 : (FloatKind.f32.format.order (rdOf (0 : Nat) l0 (ji10)) (rdOf (0 : Nat) l0 x6_1) == some .eq) = true := by simpa using c14))
                      clear c14
                      as_aux_lemma =>
                       have H' := Aside0.mk H
                       clear H
                       have p111 : 0 ≤ ((ji10) : Int) := of_decide_eq_true (by first | (with_reducible assumption) | assumption)
                       have q111 : (ji10) < (l0.length : Int) := of_decide_eq_true (by first | (with_reducible assumption) | assumption)
                       obtain ⟨ad111, e111, hx111_0⟩ := Kd.at_f32 HR0.out (ji10) p111 q111
                       obtain rfl : ad109 = ad111 := (by injection e111)
                       replace hx111_0 := (HB.out.cell (World.block_lt_of_cell? w _ hx111_0)).trans hx111_0
                       replace p111 := eq_true p111
                       replace q111 := eq_true q111
                       have p112 : 0 ≤ (x6_1 : Int) := of_decide_eq_true (by first | (with_reducible assumption) | assumption)
                       have q112 : x6_1 < (l0.length : Int) := of_decide_eq_true (by first | (with_reducible assumption) | assumption)
                       obtain ⟨ad112, e112, hx112_0⟩ := Kd.at_f32 HR0.out x6_1 p112 q112
                       obtain rfl : ad109 = ad112 := (by injection e112)
                       replace hx112_0 := (HB.out.cell (World.block_lt_of_cell? w _ hx112_0)).trans hx112_0
                       replace p112 := eq_true p112
                       replace q112 := eq_true q112
                       go_wp2
                       repeat (go_quiet (fail); try go_wp2)
                       go_roundg k2
                       case measure => have := HK1.out; have := HK2.out; omega
                       case rel => exact ⟨(ji10), (by first | rfl | (simp; done) | (simp only [← hji10] <;> (first | rfl | simp)) | (simp [*]; done)), H', ⟨by have := HK1.out; have := HK2.out; omega⟩, ⟨by (with_reducible repeat (first | apply Kd.R_alloc | apply Kd.R_drewN | apply Kd.R_drew)); exact HO_5.out⟩, ⟨by repeat (first | (with_reducible first | exact HB.out | apply below_alloc | apply pw_below_drewN | apply below_drew1) | exact HB.out)⟩⟩
                    · rw [if_neg c14] at H
                      have c14b0 : (FloatKind.f32.format.order (rdOf (0 : Nat) l0 (ji10)) (rdOf (0 : Nat) l0 x6_1) == some .eq) = false := by simpa using c14
                      (try (have c14b1 : decide (FloatKind.f32.format.order (rdOf (0 : Nat) l0 (ji10)) (rdOf (0 : Nat) l0 x6_1) = some .eq) = false := by simpa using c14))
                      (try (have c14b2 : (FloatKind.f32.format.order (rdOf (0 : Nat) l0 (ji10)) (rdOf (0 : Nat) l0 x6_1) == some .eq) = false := by simpa using c14))
                      (try (have c14b3 : ¬ (FloatKind.f32.format.order (rdOf (0 : Nat) l0 (ji10)) (rdOf (0 : Nat) l0 x6_1) = some .eq) := by simpa using c14))
                      clear c14
                      as_aux_lemma =>
                       have H' := Aside0.mk H
                       clear H
                       have p111 : 0 ≤ ((ji10) : Int) := of_decide_eq_true (by first | (with_reducible assumption) | assumption)
                       have q111 : (ji10) < (l0.length : Int) := of_decide_eq_true (by first | (with_reducible assumption) | assumption)
                       obtain ⟨ad111, e111, hx111_0⟩ := Kd.at_f32 HR0.out (ji10) p111 q111
                       obtain rfl : ad109 = ad111 := (by injection e111)
                       replace hx111_0 := (HB.out.cell (World.block_lt_of_cell? w _ hx111_0)).trans hx111_0
                       replace p111 := eq_true p111
                       replace q111 := eq_true q111
                       have p112 : 0 ≤ (x6_1 : Int) := of_decide_eq_true (by first | (with_reducible assumption) | assumption)
                       have q112 : x6_1 < (l0.length : Int) := of_decide_eq_true (by first | (with_reducible assumption) | assumption)
                       obtain ⟨ad112, e112, hx112_0⟩ := Kd.at_f32 HR0.out x6_1 p112 q112
                       obtain rfl : ad109 = ad112 := (by injection e112)
                       replace hx112_0 := (HB.out.cell (World.block_lt_of_cell? w _ hx112_0)).trans hx112_0
                       replace p112 := eq_true p112
                       replace q112 := eq_true q112
                       go_wp2
                       repeat (go_quiet (fail); try go_wp2)
                       go_meet
                       case rel => exact ⟨_, (x7_2), (by first | rfl | (simp; done) | (simp [*]; done)), H', ⟨by have := HK1.out; have := HK2.out; first | omega | exact Nat.le_refl _⟩, ⟨by (with_reducible repeat (first | apply Kd.R_alloc | apply Kd.R_drewN | apply Kd.R_drew)); exact HO_5.out⟩, ⟨by repeat (first | (with_reducible first | exact HB.out | apply below_alloc | apply pw_below_drewN | apply below_drew1) | exact HB.out)⟩⟩
                  · rw [if_neg c13] at H
                    exact absurd H (by simp)
                · rw [if_neg c12] at H
                  exact absurd H (by simp)
              · rw [if_neg c11] at H
                exact absurd H (by simp)
            · rw [if_neg c9] at H
              have c9b0 : decide ((wrap64 (x7_2 + 1)) < (l0.length : Int)) = false := decide_eq_false c9
              clear c9
              (first | rw [c9b0] | (simp only [i64_w, i32_w]; rw [c9b0]) | skip)
              as_aux_lemma =>
               have H' := Aside0.mk H
               clear H
               go_wp2
               repeat (go_quiet (fail); try go_wp2)
               go_meet
               case rel => exact ⟨_, (x7_2), (by first | rfl | (simp; done) | (simp [*]; done)), H', ⟨by have := HK1.out; have := HK2.out; first | omega | exact Nat.le_refl _⟩, ⟨by (with_reducible repeat (first | apply Kd.R_alloc | apply Kd.R_drewN | apply Kd.R_drew)); exact HO_5.out⟩, ⟨by repeat (first | (with_reducible first | exact HB.out | apply below_alloc | apply pw_below_drewN | apply below_drew1) | exact HB.out)⟩⟩
         case rest =>
          clear HC8
          (try clear c1); (try clear p1); (try clear q1); (try clear hx1); (try clear p2); (try clear c4); (try clear c5); (try clear c5b0); (try clear c6); (try clear c6b0); (try clear p6); (try clear c7); (try clear c7b0); (try clear c7b1); (try clear c7b2); (try clear c9); (try clear c9b0); (try clear p10); (try clear q10); (try clear hx10); (try clear c11); (try clear c11b0); (try clear p11); (try clear q11); (try clear hx11); (try clear c12); (try clear c12b0); (try clear c13); (try clear c13b0); (try clear c14); (try clear c14b0); (try clear c14b1); (try clear c14b2); (try clear hx109_0); (try clear hx110_0); (try clear hx111_0); (try clear hx112_0); (try clear p1); (try clear p109); (try clear p110); (try clear p111); (try clear p112); (try clear p2); (try clear p6); (try clear q1); (try clear q109); (try clear q110); (try clear q111); (try clear q112)
          obtain ⟨kq, x7_7, rfl, HA, HJ7, HO_5, HB⟩ := hcut
          cases kq with
          | zero => exact absurd HA.out (by simp [spec_l03Runs.j2])
          | succ kj7 =>
           have H := HA.out
           clear HA
           simp only [spec_l03Runs.j2] at H
           have HC15 := Aside0.mk H
           clear H
           go_upto_if 46 with (fail)
           repeat (go_quiet (fail); go_upto_if 46 with (fail))
           go_cut [8] (fun v8 wc => ∃ (kq : Nat) (x8_14 : Bool), v8 = .bool x8_14 ∧ Aside0 (spec_l03Runs.j3 kq l0 a1 x5_1 x6_1 x7_7 x8_14 = some r) ∧ Aside0 (kq ≤ kj7) ∧ Aside0 (Kd.R (Kd.int .i64) 2 wc w.heap.size (fun _ => True) u5 x5_1) ∧ Aside0 (Below w.heap.size w wc))
           case first =>
            have H := HC15.out
            clear HC15
            by_cases c16 : x6_1 > 0
            · rw [if_pos c16] at H
              have c16b0 : decide (0 < x6_1) = true := decide_eq_true c16
              clear c16
              (first | rw [c16b0] | (simp only [i64_w, i32_w]; rw [c16b0]) | skip)
              by_cases c17 : a1 = true
              · subst c17
                have H1 : (if 0 ≤ (wrap64 (x6_1 - 1)) then (if (wrap64 (x6_1 - 1)) < (l0.length : Int) then (if 0 ≤ x6_1 then (if x6_1 < (l0.length : Int) then (if (FloatKind.f32.format.order (rdOf (0 : Nat) l0 (wrap64 (x6_1 - 1))) (rdOf (0 : Nat) l0 x6_1) == some .lt) = true then (spec_l03Runs.j3 kj7 l0 true x5_1 x6_1 x7_7 true) else (spec_l03Runs.j3 kj7 l0 true x5_1 x6_1 x7_7 false)) else (none)) else (none)) else (none)) else (none)) = some r := by rw [if_pos rfl] at H; exact H
                clear H
                have H := H1
                clear H1
                obtain ⟨ji18, hji18⟩ : ∃ j_ : Int, (wrap64 (x6_1 - 1)) = j_ := ⟨_, rfl⟩
                replace H : (if 0 ≤ (ji18) then (if (ji18) < (l0.length : Int) then (if 0 ≤ x6_1 then (if x6_1 < (l0.length : Int) then (if (FloatKind.f32.format.order (rdOf (0 : Nat) l0 (ji18)) (rdOf (0 : Nat) l0 x6_1) == some .lt) = true then (spec_l03Runs.j3 kj7 l0 true x5_1 x6_1 x7_7 true) else (spec_l03Runs.j3 kj7 l0 true x5_1 x6_1 x7_7 false)) else (none)) else (none)) else (none)) else (none)) = some r := by first | (rw [hji18] at H; exact H) | (simp only [hji18] at H ⊢; exact H)
                have hji18w : (IntKind.i64.wrap (x6_1 - 1)) = ji18 := (i64_w _).trans hji18
                by_cases c19 : 0 ≤ (ji18)
                · rw [if_pos c19] at H
                  have c19b0 : decide (0 ≤ (ji18)) = true := decide_eq_true c19
                  clear c19
                  by_cases c20 : (ji18) < (l0.length : Int)
                  · rw [if_pos c20] at H
                    have c20b0 : decide ((ji18) < (l0.length : Int)) = true := decide_eq_true c20
                    clear c20
                    by_cases c21 : 0 ≤ x6_1
                    · rw [if_pos c21] at H
                      have c21b0 : decide (0 ≤ x6_1) = true := decide_eq_true c21
                      clear c21
                      by_cases c22 : x6_1 < (l0.length : Int)
                      · rw [if_pos c22] at H
                        have c22b0 : decide (x6_1 < (l0.length : Int)) = true := decide_eq_true c22
                        clear c22
                        by_cases c23 : (FloatKind.f32.format.order (rdOf (0 : Nat) l0 (ji18)) (rdOf (0 : Nat) l0 x6_1) == some .lt) = true
                        · rw [if_pos c23] at H
                          have c23b0 : (FloatKind.f32.format.order (rdOf (0 : Nat) l0 (ji18)) (rdOf (0 : Nat) l0 x6_1) == some .lt) = true := c23
                          (try (have c23b1 : decide (FloatKind.f32.format.order (rdOf (0 : Nat) l0 (ji18)) (rdOf (0 : Nat) l0 x6_1) = some .lt) = true := by simpa using c23))
                          (try (have c23b2 : (FloatKind.f32.format.order (rdOf (0 : Nat) l0 (ji18)) (rdOf (0 : Nat) l0 x6_1) == some .lt) = true := by simpa using c23))
                          clear c23
                          as_aux_lemma =>
                           have H' := Aside0.mk H
                           clear H
                           have p113 : 0 ≤ ((ji18) : Int) := of_decide_eq_true (by first | (with_reducible assumption) | assumption)
                           have q113 : (ji18) < (l0.length : Int) := of_decide_eq_true (by first | (with_reducible assumption) | assumption)
                           obtain ⟨ad113, e113, hx113_0⟩ := Kd.at_f32 HR0.out (ji18) p113 q113
                           obtain rfl : ad109 = ad113 := (by injection e113)
                           replace hx113_0 := (HB.out.cell (World.block_lt_of_cell? w _ hx113_0)).trans hx113_0
                           replace p113 := eq_true p113
                           replace q113 := eq_true q113
                           have p114 : 0 ≤ (x6_1 : Int) := of_decide_eq_true (by first | (with_reducible assumption) | assumption)
                           have q114 : x6_1 < (l0.length : Int) := of_decide_eq_true (by first | (with_reducible assumption) | assumption)
                           obtain ⟨ad114, e114, hx114_0⟩ := Kd.at_f32 HR0.out x6_1 p114 q114
                           obtain rfl : ad109 = ad114 := (by injection e114)
                           replace hx114_0 := (HB.out.cell (World.block_lt_of_cell? w _ hx114_0)).trans hx114_0
                           replace p114 := eq_true p114
                           replace q114 := eq_true q114
                           go_wp2
                           repeat (go_quiet (fail); try go_wp2)
                           go_meet
                           case rel => exact ⟨_, (true), (by first | rfl | (simp; done) | (simp [*]; done)), H', ⟨by have := HK1.out; have := HJ7.out; first | omega | exact Nat.le_refl _⟩, ⟨by (with_reducible repeat (first | apply Kd.R_alloc | apply Kd.R_drewN | apply Kd.R_drew)); exact HO_5.out⟩, ⟨by repeat (first | (with_reducible first | exact HB.out | apply below_alloc | apply pw_below_drewN | apply below_drew1) | exact HB.out)⟩⟩
                        · rw [if_neg c23] at H
                          have c23b0 : (FloatKind.f32.format.order (rdOf (0 : Nat) l0 (ji18)) (rdOf (0 : Nat) l0 x6_1) == some .lt) = false := by simpa using c23
                          (try (have c23b1 : decide (FloatKind.f32.format.order (rdOf (0 : Nat) l0 (ji18)) (rdOf (0 : Nat) l0 x6_1) = some .lt) = false := by simpa using c23))
                          (try (have c23b2 : (FloatKind.f32.format.order (rdOf (0 : Nat) l0 (ji18)) (rdOf (0 : Nat) l0 x6_1) == some .lt) = false := by simpa using c23))
                          (try (have c23b3 : ¬ (FloatKind.f32.format.order (rdOf (0 : Nat) l0 (ji18)) (rdOf (0 : Nat) l0 x6_1) = some .lt) := by simpa using c23))
                          clear c23
                          as_aux_lemma =>
                           have H' := Aside0.mk H
                           clear H
                           have p113 : 0 ≤ ((ji18) : Int) := of_decide_eq_true (by first | (with_reducible assumption) | assumption)
                           have q113 : (ji18) < (l0.length : Int) := of_decide_eq_true (by first | (with_reducible assumption) | assumption)
                           obtain ⟨ad113, e113, hx113_0⟩ := Kd.at_f32 HR0.out (ji18) p113 q113
                           obtain rfl : ad109 = ad113 := (by injection e113)
                           replace hx113_0 := (HB.out.cell (World.block_lt_of_cell? w _ hx113_0)).trans hx113_0
                           replace p113 := eq_true p113
                           replace q113 := eq_true q113
                           have p114 : 0 ≤ (x6_1 : Int) := of_decide_eq_true (by first | (with_reducible assumption) | assumption)
                           have q114 : x6_1 < (l0.length : Int) := of_decide_eq_true (by first | (with_reducible assumption) | assumption)
                           obtain ⟨ad114, e114, hx114_0⟩ := Kd.at_f32 HR0.out x6_1 p114 q114
                           obtain rfl : ad109 = ad114 := (by injection e114)
                           replace hx114_0 := (HB.out.cell (World.block_lt_of_cell? w _ hx114_0)).trans hx114_0
                           replace p114 := eq_true p114
                           replace q114 := eq_true q114
                           go_wp2
                           repeat (go_quiet (fail); try go_wp2)
                           go_meet
                           case rel => exact ⟨_, (false), (by first | rfl | (simp; done) | (simp [*]; done)), H', ⟨by have := HK1.out; have := HJ7.out; first | omega | exact Nat.le_refl _⟩, ⟨by (with_reducible repeat (first | apply Kd.R_alloc | apply Kd.R_drewN | apply Kd.R_drew)); exact HO_5.out⟩, ⟨by repeat (first | (with_reducible first | exact HB.out | apply below_alloc | apply pw_below_drewN | apply below_drew1) | exact HB.out)⟩⟩
                      · rw [if_neg c22] at H
                        exact absurd H (by simp)
                    · rw [if_neg c21] at H
                      exact absurd H (by simp)
                  · rw [if_neg c20] at H
                    exact absurd H (by simp)
                · rw [if_neg c19] at H
                  exact absurd H (by simp)
              · replace c17 := Bool.eq_false_iff.mpr c17
                subst c17
                have H1 : (if 0 ≤ (wrap64 (x6_1 - 1)) then (if (wrap64 (x6_1 - 1)) < (l0.length : Int) then (if 0 ≤ x6_1 then (if x6_1 < (l0.length : Int) then (spec_l03Runs.j3 kj7 l0 false x5_1 x6_1 x7_7 (FloatKind.f32.format.order (rdOf (0 : Nat) l0 (wrap64 (x6_1 - 1))) (rdOf (0 : Nat) l0 x6_1) == some .gt)) else (none)) else (none)) else (none)) else (none)) = some r := by rw [if_neg (show ¬ (false = true) by decide)] at H; exact H
                clear H
                have H := H1
                clear H1
                obtain ⟨ji24, hji24⟩ : ∃ j_ : Int, (wrap64 (x6_1 - 1)) = j_ := ⟨_, rfl⟩
                replace H : (if 0 ≤ (ji24) then (if (ji24) < (l0.length : Int) then (if 0 ≤ x6_1 then (if x6_1 < (l0.length : Int) then (spec_l03Runs.j3 kj7 l0 false x5_1 x6_1 x7_7 (FloatKind.f32.format.order (rdOf (0 : Nat) l0 (ji24)) (rdOf (0 : Nat) l0 x6_1) == some .gt)) else (none)) else (none)) else (none)) else (none)) = some r := by first | (rw [hji24] at H; exact H) | (simp only [hji24] at H ⊢; exact H)
                have hji24w : (IntKind.i64.wrap (x6_1 - 1)) = ji24 := (i64_w _).trans hji24
                by_cases c25 : 0 ≤ (ji24)
                · rw [if_pos c25] at H
                  have c25b0 : decide (0 ≤ (ji24)) = true := decide_eq_true c25
                  clear c25
                  by_cases c26 : (ji24) < (l0.length : Int)
                  · rw [if_pos c26] at H
                    have c26b0 : decide ((ji24) < (l0.length : Int)) = true := decide_eq_true c26
                    clear c26
                    by_cases c27 : 0 ≤ x6_1
                    · rw [if_pos c27] at H
                      have c27b0 : decide (0 ≤ x6_1) = true := decide_eq_true c27
                      clear c27
                      by_cases c28 : x6_1 < (l0.length : Int)
                      · rw [if_pos c28] at H
                        have c28b0 : decide (x6_1 < (l0.length : Int)) = true := decide_eq_true c28
                        clear c28
                        as_aux_lemma =>
                         have H' := Aside0.mk H
                         clear H
                         have p115 : 0 ≤ ((ji24) : Int) := of_decide_eq_true (by first | (with_reducible assumption) | assumption)
                         have q115 : (ji24) < (l0.length : Int) := of_decide_eq_true (by first | (with_reducible assumption) | assumption)
                         obtain ⟨ad115, e115, hx115_0⟩ := Kd.at_f32 HR0.out (ji24) p115 q115
                         obtain rfl : ad109 = ad115 := (by injection e115)
                         replace hx115_0 := (HB.out.cell (World.block_lt_of_cell? w _ hx115_0)).trans hx115_0
                         replace p115 := eq_true p115
                         replace q115 := eq_true q115
                         have p116 : 0 ≤ (x6_1 : Int) := of_decide_eq_true (by first | (with_reducible assumption) | assumption)
                         have q116 : x6_1 < (l0.length : Int) := of_decide_eq_true (by first | (with_reducible assumption) | assumption)
                         obtain ⟨ad116, e116, hx116_0⟩ := Kd.at_f32 HR0.out x6_1 p116 q116
                         obtain rfl : ad109 = ad116 := (by injection e116)
                         replace hx116_0 := (HB.out.cell (World.block_lt_of_cell? w _ hx116_0)).trans hx116_0
                         replace p116 := eq_true p116
                         replace q116 := eq_true q116
                         go_wp2
                         repeat (go_quiet (fail); try go_wp2)
                         go_meet
                         case rel => exact ⟨_, ((FloatKind.f32.format.order (rdOf (0 : Nat) l0 (ji24)) (rdOf (0 : Nat) l0 x6_1) == some .gt)), (by first | rfl | (simp; done) | (simp only [← hji24] <;> (first | rfl | simp)) | (simp [*]; done)), H', ⟨by have := HK1.out; have := HJ7.out; first | omega | exact Nat.le_refl _⟩, ⟨by (with_reducible repeat (first | apply Kd.R_alloc | apply Kd.R_drewN | apply Kd.R_drew)); exact HO_5.out⟩, ⟨by repeat (first | (with_reducible first | exact HB.out | apply below_alloc | apply pw_below_drewN | apply below_drew1) | exact HB.out)⟩⟩
                      · rw [if_neg c28] at H
                        exact absurd H (by simp)
                    · rw [if_neg c27] at H
                      exact absurd H (by simp)
                  · rw [if_neg c26] at H
                    exact absurd H (by simp)
                · rw [if_neg c25] at H
                  exact absurd H (by simp)
            · rw [if_neg c16] at H
              have c16b0 : decide (0 < x6_1) = false := decide_eq_false c16
              clear c16
              (first | rw [c16b0] | (simp only [i64_w, i32_w]; rw [c16b0]) | skip)
              as_aux_lemma =>
               have H' := Aside0.mk H
               clear H
               go_wp2
               repeat (go_quiet (fail); try go_wp2)
               go_meet
               case rel => exact ⟨_, (true), (by first | rfl | (simp; done) | (simp [*]; done)), H', ⟨by have := HK1.out; have := HJ7.out; first | omega | exact Nat.le_refl _⟩, ⟨by (with_reducible repeat (first | apply Kd.R_alloc | apply Kd.R_drewN | apply Kd.R_drew)); exact HO_5.out⟩, ⟨by repeat (first | (with_reducible first | exact HB.out | apply below_alloc | apply pw_below_drewN | apply below_drew1) | exact HB.out)⟩⟩
           case rest =>
            clear HC15
            (try clear c1); (try clear p1); (try clear q1); (try clear hx1); (try clear c2); (try clear p2); (try clear c4); (try clear c5); (try clear c5b0); (try clear c6); (try clear c6b0); (try clear p6); (try clear c7); (try clear c7b0); (try clear c7b1); (try clear c7b2); (try clear c9); (try clear c9b0); (try clear p10); (try clear q10); (try clear hx10); (try clear c11); (try clear c11b0); (try clear p11); (try clear q11); (try clear hx11); (try clear c12); (try clear c12b0); (try clear c13); (try clear c13b0); (try clear c14); (try clear c14b0); (try clear c14b1); (try clear c14b2); (try clear c16); (try clear c16b0); (try clear c17); (try clear c19); (try clear c19b0); (try clear c20); (try clear c20b0); (try clear c21); (try clear c21b0); (try clear c22); (try clear c22b0); (try clear c23); (try clear c23b0); (try clear c23b1); (try clear c23b2); (try clear c25); (try clear c25b0); (try clear c26); (try clear c26b0); (try clear c27); (try clear c27b0); (try clear c28); (try clear c28b0); (try clear hx109_0); (try clear hx110_0); (try clear hx111_0); (try clear hx112_0); (try clear hx113_0); (try clear hx114_0); (try clear hx115_0); (try clear hx116_0); (try clear p1); (try clear p10); (try clear p109); (try clear p11); (try clear p110); (try clear p111); (try clear p112); (try clear p113); (try clear p114); (try clear p115); (try clear p116); (try clear p2); (try clear p6); (try clear q1); (try clear q10); (try clear q109); (try clear q11); (try clear q110); (try clear q111); (try clear q112); (try clear q113); (try clear q114); (try clear q115); (try clear q116)
            obtain ⟨kq, x8_14, rfl, HA, HJ14, HO_5, HB⟩ := hcut
            cases kq with
            | zero => exact absurd HA.out (by simp [spec_l03Runs.j3])
            | succ kj14 =>
             have H := HA.out
             clear HA
             simp only [spec_l03Runs.j3] at H
             by_cases c29 : (wrap64 (x7_7 + 1)) < (l0.length : Int)
             · rw [if_pos c29] at H
               have c29b0 : decide ((wrap64 (x7_7 + 1)) < (l0.length : Int)) = true := decide_eq_true c29
               clear c29
               by_cases c30 : x8_14 = true
               · subst c30
                 have H1 : (if a1 = true then (if 0 ≤ (wrap64 (x7_7 + 1)) then (if 0 ≤ x6_1 then (if x6_1 < (l0.length : Int) then (if (FloatKind.f32.format.order (rdOf (0 : Nat) l0 (wrap64 (x7_7 + 1))) (rdOf (0 : Nat) l0 x6_1) == some .lt) = true then (if x5_1.length < 17592186044416 then (spec_l03Runs.l0 kj14 l0 a1 (x5_1 ++ [x6_1]) (wrap64 (x7_7 + 1))) else (none)) else (spec_l03Runs.l0 kj14 l0 a1 x5_1 (wrap64 (x7_7 + 1)))) else (none)) else (none)) else (none)) else (if 0 ≤ (wrap64 (x7_7 + 1)) then (if 0 ≤ x6_1 then (if x6_1 < (l0.length : Int) then (if (FloatKind.f32.format.order (rdOf (0 : Nat) l0 (wrap64 (x7_7 + 1))) (rdOf (0 : Nat) l0 x6_1) == some .gt) = true then (if x5_1.length < 17592186044416 then (spec_l03Runs.l0 kj14 l0 a1 (x5_1 ++ [x6_1]) (wrap64 (x7_7 + 1))) else (none)) else (spec_l03Runs.l0 kj14 l0 a1 x5_1 (wrap64 (x7_7 + 1)))) else (none)) else (none)) else (none))) = some r := by rw [if_pos rfl] at H; exact H
                 clear H
                 have H := H1
                 clear H1
                 by_cases c31 : a1 = true
                 · subst c31
                   have H1 : (if 0 ≤ (wrap64 (x7_7 + 1)) then (if 0 ≤ x6_1 then (if x6_1 < (l0.length : Int) then (if (FloatKind.f32.format.order (rdOf (0 : Nat) l0 (wrap64 (x7_7 + 1))) (rdOf (0 : Nat) l0 x6_1) == some .lt) = true then (if x5_1.length < 17592186044416 then (spec_l03Runs.l0 kj14 l0 true (x5_1 ++ [x6_1]) (wrap64 (x7_7 + 1))) else (none)) else (spec_l03Runs.l0 kj14 l0 true x5_1 (wrap64 (x7_7 + 1)))) else (none)) else (none)) else (none)) = some r := by rw [if_pos rfl] at H; exact H
                   clear H
                   have H := H1
                   clear H1
                   obtain ⟨ji32, hji32⟩ : ∃ j_ : Int, (wrap64 (x7_7 + 1)) = j_ := ⟨_, rfl⟩
                   replace H : (if 0 ≤ (ji32) then (if 0 ≤ x6_1 then (if x6_1 < (l0.length : Int) then (if (FloatKind.f32.format.order (rdOf (0 : Nat) l0 (ji32)) (rdOf (0 : Nat) l0 x6_1) == some .lt) = true then (if x5_1.length < 17592186044416 then (spec_l03Runs.l0 kj14 l0 true (x5_1 ++ [x6_1]) ji32) else (none)) else (spec_l03Runs.l0 kj14 l0 true x5_1 ji32)) else (none)) else (none)) else (none)) = some r := by first | (rw [hji32] at H; exact H) | (simp only [hji32] at H ⊢; exact H)
                   (try rw [hji32] at c29b0)
                   have hji32w : (IntKind.i64.wrap (x7_7 + 1)) = ji32 := (i64_w _).trans hji32
                   by_cases c33 : 0 ≤ (ji32)
                   · rw [if_pos c33] at H
                     have c33b0 : decide (0 ≤ (ji32)) = true := decide_eq_true c33
                     clear c33
                     by_cases c34 : 0 ≤ x6_1
                     · rw [if_pos c34] at H
                       have c34b0 : decide (0 ≤ x6_1) = true := decide_eq_true c34
                       clear c34
                       by_cases c35 : x6_1 < (l0.length : Int)
                       · rw [if_pos c35] at H
                         have c35b0 : decide (x6_1 < (l0.length : Int)) = true := decide_eq_true c35
                         clear c35
                         by_cases c36 : (FloatKind.f32.format.order (rdOf (0 : Nat) l0 (ji32)) (rdOf (0 : Nat) l0 x6_1) == some .lt) = true
                         · rw [if_pos c36] at H
                           have c36b0 : (FloatKind.f32.format.order (rdOf (0 : Nat) l0 (ji32)) (rdOf (0 : Nat) l0 x6_1) == some .lt) = true := c36
                           (try (have c36b1 : decide (FloatKind.f32.format.order (rdOf (0 : Nat) l0 (ji32)) (rdOf (0 : Nat) l0 x6_1) = some .lt) = true := by simpa using c36))
                           (try (have c36b2 : (FloatKind.f32.format.order (rdOf (0 : Nat) l0 (ji32)) (rdOf (0 : Nat) l0 x6_1) == some .lt) = true := by simpa using c36))
                           clear c36
                           by_cases c37 : x5_1.length < 17592186044416
                           · rw [if_pos c37] at H
                             have LMc37 := Aside0.mk c37
                             clear c37
                             obtain ⟨y119, hy119⟩ : ∃ y_ : List Int, y_ = (x5_1 ++ [x6_1]) := ⟨_, rfl⟩
                             replace H : (spec_l03Runs.l0 kj14 l0 true y119 ji32) = some r := by first | (rw [hy119]; with_reducible exact H) | (have H2_ := (Option.bind_some _ _).symm.trans H; rw [hy119]; with_reducible exact H2_) | (have H2_ := (Option.bind_some _ _).symm.trans H; with_reducible exact H2_) | with_reducible exact H | (rw [hy119]; exact H) | exact H
                             have Ny119 := Aside0.mk hy119
                             clear hy119
                             as_aux_lemma =>
                              have H' := Aside0.mk H
                              clear H
                              have p117 : 0 ≤ ((ji32) : Int) := of_decide_eq_true (by first | (with_reducible assumption) | assumption)
                              have q117 : (ji32) < (l0.length : Int) := of_decide_eq_true (by first | (with_reducible assumption) | assumption)
                              obtain ⟨ad117, e117, hx117_0⟩ := Kd.at_f32 HR0.out (ji32) p117 q117
                              obtain rfl : ad109 = ad117 := (by injection e117)
                              replace hx117_0 := (HB.out.cell (World.block_lt_of_cell? w _ hx117_0)).trans hx117_0
                              replace p117 := eq_true p117
                              replace q117 := eq_true q117
                              have p118 : 0 ≤ (x6_1 : Int) := of_decide_eq_true (by first | (with_reducible assumption) | assumption)
                              have q118 : x6_1 < (l0.length : Int) := of_decide_eq_true (by first | (with_reducible assumption) | assumption)
                              obtain ⟨ad118, e118, hx118_0⟩ := Kd.at_f32 HR0.out x6_1 p118 q118
                              obtain rfl : ad109 = ad118 := (by injection e118)
                              replace hx118_0 := (HB.out.cell (World.block_lt_of_cell? w _ hx118_0)).trans hx118_0
                              replace p118 := eq_true p118
                              replace q118 := eq_true q118
                              go_wp2_with (first | ((with_reducible refine gate_builtin (b := .append) (xs := #[.tmp 114, .tmp 116]) rfl ?_); at_builtin; refine Kd.R_append (Kd.int .i64) (w0 := w) w.heap.size rfl (.tmp 114) (.tmp 116) 36 2 (.int .i64 0) 8 rfl Try.underlying36 info2 rfl (by decide) (by omega) u5 x5_1 x6_1 [.int .i64 x6_1] (fun _ => True) (fun _ => False) rfl rfl ?aP (fun _ hk => hk.elim) ?aF ?aO ?aB ?aS ?aL ?_; (case aP => exact rfl); (case aB => exact (by repeat (first | (with_reducible first | exact HB.out | apply below_alloc | apply pw_below_drewN | apply below_drew1) | exact HB.out))); (case aF => exact (fun _ _ => trivial)); (case aO => exact (by (with_reducible repeat (first | apply Kd.R_alloc | apply Kd.R_drewN | apply Kd.R_drew)); exact HO_5.out)); (case aS => exact (below_size (by repeat (first | (with_reducible first | exact HB.out | apply below_alloc | apply pw_below_drewN | apply below_drew1) | exact HB.out)))); (case aL => have := LMc37.out; omega); intro v120 w38 ho hb hg hat; rw [← Ny119.out] at ho; have n0_ := Aside0.mk (hb); have n1_ := Aside0.mk (ho); clear HB; clear HO_5; have HB := n0_; have HO121 := n1_; clear n0_ n1_; clear ho hb hg hat))
                              repeat (go_quiet (first | ((with_reducible refine gate_builtin (b := .append) (xs := #[.tmp 114, .tmp 116]) rfl ?_); at_builtin; refine Kd.R_append (Kd.int .i64) (w0 := w) w.heap.size rfl (.tmp 114) (.tmp 116) 36 2 (.int .i64 0) 8 rfl Try.underlying36 info2 rfl (by decide) (by omega) u5 x5_1 x6_1 [.int .i64 x6_1] (fun _ => True) (fun _ => False) rfl rfl ?aP (fun _ hk => hk.elim) ?aF ?aO ?aB ?aS ?aL ?_; (case aP => exact rfl); (case aB => exact (by repeat (first | (with_reducible first | exact HB.out | apply below_alloc | apply pw_below_drewN | apply below_drew1) | exact HB.out))); (case aF => exact (fun _ _ => trivial)); (case aO => exact (by (with_reducible repeat (first | apply Kd.R_alloc | apply Kd.R_drewN | apply Kd.R_drew)); exact HO_5.out)); (case aS => exact (below_size (by repeat (first | (with_reducible first | exact HB.out | apply below_alloc | apply pw_below_drewN | apply below_drew1) | exact HB.out)))); (case aL => have := LMc37.out; omega); intro v120 w38 ho hb hg hat; rw [← Ny119.out] at ho; have n0_ := Aside0.mk (hb); have n1_ := Aside0.mk (ho); clear HB; clear HO_5; have HB := n0_; have HO121 := n1_; clear n0_ n1_; clear ho hb hg hat)); try go_wp2_with (first | ((with_reducible refine gate_builtin (b := .append) (xs := #[.tmp 114, .tmp 116]) rfl ?_); at_builtin; refine Kd.R_append (Kd.int .i64) (w0 := w) w.heap.size rfl (.tmp 114) (.tmp 116) 36 2 (.int .i64 0) 8 rfl Try.underlying36 info2 rfl (by decide) (by omega) u5 x5_1 x6_1 [.int .i64 x6_1] (fun _ => True) (fun _ => False) rfl rfl ?aP (fun _ hk => hk.elim) ?aF ?aO ?aB ?aS ?aL ?_; (case aP => exact rfl); (case aB => exact (by repeat (first | (with_reducible first | exact HB.out | apply below_alloc | apply pw_below_drewN | apply below_drew1) | exact HB.out))); (case aF => exact (fun _ _ => trivial)); (case aO => exact (by (with_reducible repeat (first | apply Kd.R_alloc | apply Kd.R_drewN | apply Kd.R_drew)); exact HO_5.out)); (case aS => exact (below_size (by repeat (first | (with_reducible first | exact HB.out | apply below_alloc | apply pw_below_drewN | apply below_drew1) | exact HB.out)))); (case aL => have := LMc37.out; omega); intro v120 w38 ho hb hg hat; rw [← Ny119.out] at ho; have n0_ := Aside0.mk (hb); have n1_ := Aside0.mk (ho); clear HB; clear HO_5; have HB := n0_; have HO121 := n1_; clear n0_ n1_; clear ho hb hg hat)))
                              go_roundg kj14
                              case measure => have := HK1.out; have := HJ7.out; have := HJ14.out; omega
                              case rel => exact ⟨(y119), (ji32), (by first | rfl | (simp; done) | (simp only [← hji32] <;> (first | rfl | simp)) | (simp [*]; done)), H', ⟨by have := HK1.out; have := HJ7.out; have := HJ14.out; omega⟩, ⟨by (with_reducible repeat (first | apply Kd.R_alloc | apply Kd.R_drewN | apply Kd.R_drew)); exact HO121.out⟩, ⟨by repeat (first | (with_reducible first | exact HB.out | apply below_alloc | apply pw_below_drewN | apply below_drew1) | exact HB.out)⟩⟩
                           · rw [if_neg c37] at H
                             exact absurd H (by simp)
                         · rw [if_neg c36] at H
                           have c36b0 : (FloatKind.f32.format.order (rdOf (0 : Nat) l0 (ji32)) (rdOf (0 : Nat) l0 x6_1) == some .lt) = false := by simpa using c36
                           (try (have c36b1 : decide (FloatKind.f32.format.order (rdOf (0 : Nat) l0 (ji32)) (rdOf (0 : Nat) l0 x6_1) = some .lt) = false := by simpa using c36))
                           (try (have c36b2 : (FloatKind.f32.format.order (rdOf (0 : Nat) l0 (ji32)) (rdOf (0 : Nat) l0 x6_1) == some .lt) = false := by simpa using c36))
                           (try (have c36b3 : ¬ (FloatKind.f32.format.order (rdOf (0 : Nat) l0 (ji32)) (rdOf (0 : Nat) l0 x6_1) = some .lt) := by simpa using c36))
                           clear c36
                           as_aux_lemma =>
                            have H' := Aside0.mk H
                            clear H
                            have p117 : 0 ≤ ((ji32) : Int) := of_decide_eq_true (by first | (with_reducible assumption) | assumption)
                            have q117 : (ji32) < (l0.length : Int) := of_decide_eq_true (by first | (with_reducible assumption) | assumption)
                            obtain ⟨ad117, e117, hx117_0⟩ := Kd.at_f32 HR0.out (ji32) p117 q117
                            obtain rfl : ad109 = ad117 := (by injection e117)
                            replace hx117_0 := (HB.out.cell (World.block_lt_of_cell? w _ hx117_0)).trans hx117_0
                            replace p117 := eq_true p117
                            replace q117 := eq_true q117
                            have p118 : 0 ≤ (x6_1 : Int) := of_decide_eq_true (by first | (with_reducible assumption) | assumption)
                            have q118 : x6_1 < (l0.length : Int) := of_decide_eq_true (by first | (with_reducible assumption) | assumption)
                            obtain ⟨ad118, e118, hx118_0⟩ := Kd.at_f32 HR0.out x6_1 p118 q118
                            obtain rfl : ad109 = ad118 := (by injection e118)
                            replace hx118_0 := (HB.out.cell (World.block_lt_of_cell? w _ hx118_0)).trans hx118_0
                            replace p118 := eq_true p118
                            replace q118 := eq_true q118
                            go_wp2
                            repeat (go_quiet (fail); try go_wp2)
                            go_roundg kj14
                            case measure => have := HK1.out; have := HJ7.out; have := HJ14.out; omega
                            case rel => exact ⟨(x5_1), (ji32), (by first | rfl | (simp; done) | (simp only [← hji32] <;> (first | rfl | simp)) | (simp [*]; done)), H', ⟨by have := HK1.out; have := HJ7.out; have := HJ14.out; omega⟩, ⟨by (with_reducible repeat (first | apply Kd.R_alloc | apply Kd.R_drewN | apply Kd.R_drew)); exact HO_5.out⟩, ⟨by repeat (first | (with_reducible first | exact HB.out | apply below_alloc | apply pw_below_drewN | apply below_drew1) | exact HB.out)⟩⟩
                       · rw [if_neg c35] at H
                         exact absurd H (by simp)
                     · rw [if_neg c34] at H
                       exact absurd H (by simp)
                   · rw [if_neg c33] at H
                     exact absurd H (by simp)
                 · replace c31 := Bool.eq_false_iff.mpr c31
                   subst c31
                   have H1 : (if 0 ≤ (wrap64 (x7_7 + 1)) then (if 0 ≤ x6_1 then (if x6_1 < (l0.length : Int) then (if (FloatKind.f32.format.order (rdOf (0 : Nat) l0 (wrap64 (x7_7 + 1))) (rdOf (0 : Nat) l0 x6_1) == some .gt) = true then (if x5_1.length < 17592186044416 then (spec_l03Runs.l0 kj14 l0 false (x5_1 ++ [x6_1]) (wrap64 (x7_7 + 1))) else (none)) else (spec_l03Runs.l0 kj14 l0 false x5_1 (wrap64 (x7_7 + 1)))) else (none)) else (none)) else (none)) = some r := by rw [if_neg (show ¬ (false = true) by decide)] at H; exact H
                   clear H
                   have H := H1
                   clear H1
                   obtain ⟨ji39, hji39⟩ : ∃ j_ : Int, (wrap64 (x7_7 + 1)) = j_ := ⟨_, rfl⟩
                   replace H : (if 0 ≤ (ji39) then (if 0 ≤ x6_1 then (if x6_1 < (l0.length : Int) then (if (FloatKind.f32.format.order (rdOf (0 : Nat) l0 (ji39)) (rdOf (0 : Nat) l0 x6_1) == some .gt) = true then (if x5_1.length < 17592186044416 then (spec_l03Runs.l0 kj14 l0 false (x5_1 ++ [x6_1]) ji39) else (none)) else (spec_l03Runs.l0 kj14 l0 false x5_1 ji39)) else (none)) else (none)) else (none)) = some r := by first | (rw [hji39] at H; exact H) | (simp only [hji39] at H ⊢; exact H)
                   (try rw [hji39] at c29b0)
                   have hji39w : (IntKind.i64.wrap (x7_7 + 1)) = ji39 := (i64_w _).trans hji39
                   by_cases c40 : 0 ≤ (ji39)
                   · rw [if_pos c40] at H
                     have c40b0 : decide (0 ≤ (ji39)) = true := decide_eq_true c40
                     clear c40
                     by_cases c41 : 0 ≤ x6_1
                     · rw [if_pos c41] at H
                       have c41b0 : decide (0 ≤ x6_1) = true := decide_eq_true c41
                       clear c41
                       by_cases c42 : x6_1 < (l0.length : Int)
                       · rw [if_pos c42] at H
                         have c42b0 : decide (x6_1 < (l0.length : Int)) = true := decide_eq_true c42
                         clear c42
                         by_cases c43 : (FloatKind.f32.format.order (rdOf (0 : Nat) l0 (ji39)) (rdOf (0 : Nat) l0 x6_1) == some .gt) = true
                         · rw [if_pos c43] at H
                           have c43b0 : (FloatKind.f32.format.order (rdOf (0 : Nat) l0 (ji39)) (rdOf (0 : Nat) l0 x6_1) == some .gt) = true := c43
                           (try (have c43b1 : decide (FloatKind.f32.format.order (rdOf (0 : Nat) l0 (ji39)) (rdOf (0 : Nat) l0 x6_1) = some .gt) = true := by simpa using c43))
                           (try (have c43b2 : (FloatKind.f32.format.order (rdOf (0 : Nat) l0 (ji39)) (rdOf (0 : Nat) l0 x6_1) == some .gt) = true := by simpa using c43))
                           clear c43
                           by_cases c44 : x5_1.length < 17592186044416
                           · rw [if_pos c44] at H
                             have LMc44 := Aside0.mk c44
                             clear c44
                             obtain ⟨y124, hy124⟩ : ∃ y_ : List Int, y_ = (x5_1 ++ [x6_1]) := ⟨_, rfl⟩
                             replace H : (spec_l03Runs.l0 kj14 l0 false y124 ji39) = some r := by first | (rw [hy124]; with_reducible exact H) | (have H2_ := (Option.bind_some _ _).symm.trans H; rw [hy124]; with_reducible exact H2_) | (have H2_ := (Option.bind_some _ _).symm.trans H; with_reducible exact H2_) | with_reducible exact H | (rw [hy124]; exact H) | exact H
                             have Ny124 := Aside0.mk hy124
                             clear hy124
                             as_aux_lemma =>
                              have H' := Aside0.mk H
                              clear H
                              have p122 : 0 ≤ ((ji39) : Int) := of_decide_eq_true (by first | (with_reducible assumption) | assumption)
                              have q122 : (ji39) < (l0.length : Int) := of_decide_eq_true (by first | (with_reducible assumption) | assumption)
                              obtain ⟨ad122, e122, hx122_0⟩ := Kd.at_f32 HR0.out (ji39) p122 q122
                              obtain rfl : ad109 = ad122 := (by injection e122)
                              replace hx122_0 := (HB.out.cell (World.block_lt_of_cell? w _ hx122_0)).trans hx122_0
                              replace p122 := eq_true p122
                              replace q122 := eq_true q122
                              have p123 : 0 ≤ (x6_1 : Int) := of_decide_eq_true (by first | (with_reducible assumption) | assumption)
                              have q123 : x6_1 < (l0.length : Int) := of_decide_eq_true (by first | (with_reducible assumption) | assumption)
                              obtain ⟨ad123, e123, hx123_0⟩ := Kd.at_f32 HR0.out x6_1 p123 q123
                              obtain rfl : ad109 = ad123 := (by injection e123)
                              replace hx123_0 := (HB.out.cell (World.block_lt_of_cell? w _ hx123_0)).trans hx123_0
                              replace p123 := eq_true p123
                              replace q123 := eq_true q123
                              go_wp2_with (first | ((with_reducible refine gate_builtin (b := .append) (xs := #[.tmp 114, .tmp 116]) rfl ?_); at_builtin; refine Kd.R_append (Kd.int .i64) (w0 := w) w.heap.size rfl (.tmp 114) (.tmp 116) 36 2 (.int .i64 0) 8 rfl Try.underlying36 info2 rfl (by decide) (by omega) u5 x5_1 x6_1 [.int .i64 x6_1] (fun _ => True) (fun _ => False) rfl rfl ?aP (fun _ hk => hk.elim) ?aF ?aO ?aB ?aS ?aL ?_; (case aP => exact rfl); (case aB => exact (by repeat (first | (with_reducible first | exact HB.out | apply below_alloc | apply pw_below_drewN | apply below_drew1) | exact HB.out))); (case aF => exact (fun _ _ => trivial)); (case aO => exact (by (with_reducible repeat (first | apply Kd.R_alloc | apply Kd.R_drewN | apply Kd.R_drew)); exact HO_5.out)); (case aS => exact (below_size (by repeat (first | (with_reducible first | exact HB.out | apply below_alloc | apply pw_below_drewN | apply below_drew1) | exact HB.out)))); (case aL => have := LMc44.out; omega); intro v125 w45 ho hb hg hat; rw [← Ny124.out] at ho; have n0_ := Aside0.mk (hb); have n1_ := Aside0.mk (ho); clear HB; clear HO_5; have HB := n0_; have HO126 := n1_; clear n0_ n1_; clear ho hb hg hat))
                              repeat (go_quiet (first | ((with_reducible refine gate_builtin (b := .append) (xs := #[.tmp 114, .tmp 116]) rfl ?_); at_builtin; refine Kd.R_append (Kd.int .i64) (w0 := w) w.heap.size rfl (.tmp 114) (.tmp 116) 36 2 (.int .i64 0) 8 rfl Try.underlying36 info2 rfl (by decide) (by omega) u5 x5_1 x6_1 [.int .i64 x6_1] (fun _ => True) (fun _ => False) rfl rfl ?aP (fun _ hk => hk.elim) ?aF ?aO ?aB ?aS ?aL ?_; (case aP => exact rfl); (case aB => exact (by repeat (first | (with_reducible first | exact HB.out | apply below_alloc | apply pw_below_drewN | apply below_drew1) | exact HB.out))); (case aF => exact (fun _ _ => trivial)); (case aO => exact (by (with_reducible repeat (first | apply Kd.R_alloc | apply Kd.R_drewN | apply Kd.R_drew)); exact HO_5.out)); (case aS => exact (below_size (by repeat (first | (with_reducible first | exact HB.out | apply below_alloc | apply pw_below_drewN | apply below_drew1) | exact HB.out)))); (case aL => have := LMc44.out; omega); intro v125 w45 ho hb hg hat; rw [← Ny124.out] at ho; have n0_ := Aside0.mk (hb); have n1_ := Aside0.mk (ho); clear HB; clear HO_5; have HB := n0_; have HO126 := n1_; clear n0_ n1_; clear ho hb hg hat)); try go_wp2_with (first | ((with_reducible refine gate_builtin (b := .append) (xs := #[.tmp 114, .tmp 116]) rfl ?_); at_builtin; refine Kd.R_append (Kd.int .i64) (w0 := w) w.heap.size rfl (.tmp 114) (.tmp 116) 36 2 (.int .i64 0) 8 rfl Try.underlying36 info2 rfl (by decide) (by omega) u5 x5_1 x6_1 [.int .i64 x6_1] (fun _ => True) (fun _ => False) rfl rfl ?aP (fun _ hk => hk.elim) ?aF ?aO ?aB ?aS ?aL ?_; (case aP => exact rfl); (case aB => exact (by repeat (first | (with_reducible first | exact HB.out | apply below_alloc | apply pw_below_drewN | apply below_drew1) | exact HB.out))); (case aF => exact (fun _ _ => trivial)); (case aO => exact (by (with_reducible repeat (first | apply Kd.R_alloc | apply Kd.R_drewN | apply Kd.R_drew)); exact HO_5.out)); (case aS => exact (below_size (by repeat (first | (with_reducible first | exact HB.out | apply below_alloc | apply pw_below_drewN | apply below_drew1) | exact HB.out)))); (case aL => have := LMc44.out; omega); intro v125 w45 ho hb hg hat; rw [← Ny124.out] at ho; have n0_ := Aside0.mk (hb); have n1_ := Aside0.mk (ho); clear HB; clear HO_5; have HB := n0_; have HO126 := n1_; clear n0_ n1_; clear ho hb hg hat)))
                              go_roundg kj14
                              case measure => have := HK1.out; have := HJ7.out; have := HJ14.out; omega
                              case rel => exact ⟨(y124), (ji39), (by first | rfl | (simp; done) | (simp only [← hji39] <;> (first | rfl | simp)) | (simp [*]; done)), H', ⟨by have := HK1.out; have := HJ7.out; have := HJ14.out; omega⟩, ⟨by (with_reducible repeat (first | apply Kd.R_alloc | apply Kd.R_drewN | apply Kd.R_drew)); exact HO126.out⟩, ⟨by repeat (first | (with_reducible first | exact HB.out | apply below_alloc | apply pw_below_drewN | apply below_drew1) | exact HB.out)⟩⟩
                           · rw [if_neg c44] at H
                             exact absurd H (by simp)
                         · rw [if_neg c43] at H
                           have c43b0 : (FloatKind.f32.format.order (rdOf (0 : Nat) l0 (ji39)) (rdOf (0 : Nat) l0 x6_1) == some .gt) = false := by simpa using c43
                           (try (have c43b1 : decide (FloatKind.f32.format.order (rdOf (0 : Nat) l0 (ji39)) (rdOf (0 : Nat) l0 x6_1) = some .gt) = false := by simpa using c43))
                           (try (have c43b2 : (FloatKind.f32.format.order (rdOf (0 : Nat) l0 (ji39)) (rdOf (0 : Nat) l0 x6_1) == some .gt) = false := by simpa using c43))
                           (try (have c43b3 : ¬ (FloatKind.f32.format.order (rdOf (0 : Nat) l0 (ji39)) (rdOf (0 : Nat) l0 x6_1) = some .gt) := by simpa using c43))
                           clear c43
                           as_aux_lemma =>
                            have H' := Aside0.mk H
                            clear H
                            have p122 : 0 ≤ ((ji39) : Int) := of_decide_eq_true (by first | (with_reducible assumption) | assumption)
                            have q122 : (ji39) < (l0.length : Int) := of_decide_eq_true (by first | (with_reducible assumption) | assumption)
                            obtain ⟨ad122, e122, hx122_0⟩ := Kd.at_f32 HR0.out (ji39) p122 q122
                            obtain rfl : ad109 = ad122 := (by injection e122)
                            replace hx122_0 := (HB.out.cell (World.block_lt_of_cell? w _ hx122_0)).trans hx122_0
                            replace p122 := eq_true p122
                            replace q122 := eq_true q122
                            have p123 : 0 ≤ (x6_1 : Int) := of_decide_eq_true (by first | (with_reducible assumption) | assumption)
                            have q123 : x6_1 < (l0.length : Int) := of_decide_eq_true (by first | (with_reducible assumption) | assumption)
                            obtain ⟨ad123, e123, hx123_0⟩ := Kd.at_f32 HR0.out x6_1 p123 q123
                            obtain rfl : ad109 = ad123 := (by injection e123)
                            replace hx123_0 := (HB.out.cell (World.block_lt_of_cell? w _ hx123_0)).trans hx123_0
                            replace p123 := eq_true p123
                            replace q123 := eq_true q123
                            go_wp2
                            repeat (go_quiet (fail); try go_wp2)
                            go_roundg kj14
                            case measure => have := HK1.out; have := HJ7.out; have := HJ14.out; omega
                            case rel => exact ⟨(x5_1), (ji39), (by first | rfl | (simp; done) | (simp only [← hji39] <;> (first | rfl | simp)) | (simp [*]; done)), H', ⟨by have := HK1.out; have := HJ7.out; have := HJ14.out; omega⟩, ⟨by (with_reducible repeat (first | apply Kd.R_alloc | apply Kd.R_drewN | apply Kd.R_drew)); exact HO_5.out⟩, ⟨by repeat (first | (with_reducible first | exact HB.out | apply below_alloc | apply pw_below_drewN | apply below_drew1) | exact HB.out)⟩⟩
                       · rw [if_neg c42] at H
                         exact absurd H (by simp)
                     · rw [if_neg c41] at H
                       exact absurd H (by simp)
                   · rw [if_neg c40] at H
                     exact absurd H (by simp)
               · replace c30 := Bool.eq_false_iff.mpr c30
                 subst c30
                 have H1 : (spec_l03Runs.l0 kj14 l0 a1 x5_1 (wrap64 (x7_7 + 1))) = some r := by rw [if_neg (show ¬ (false = true) by decide)] at H; exact H
                 clear H
                 have H := H1
                 clear H1
                 as_aux_lemma =>
                  have H' := Aside0.mk H
                  clear H
                  go_wp2
                  repeat (go_quiet (fail); try go_wp2)
                  go_roundg kj14
                  case measure => have := HK1.out; have := HJ7.out; have := HJ14.out; omega
                  case rel => exact ⟨(x5_1), (wrap64 (x7_7 + 1)), (by first | rfl | (simp; done) | (simp [*]; done)), H', ⟨by have := HK1.out; have := HJ7.out; have := HJ14.out; omega⟩, ⟨by (with_reducible repeat (first | apply Kd.R_alloc | apply Kd.R_drewN | apply Kd.R_drew)); exact HO_5.out⟩, ⟨by repeat (first | (with_reducible first | exact HB.out | apply below_alloc | apply pw_below_drewN | apply below_drew1) | exact HB.out)⟩⟩
             · rw [if_neg c29] at H
               have c29b0 : decide ((wrap64 (x7_7 + 1)) < (l0.length : Int)) = false := decide_eq_false c29
               clear c29
               by_cases c46 : x8_14 = true
               · subst c46
                 have H1 : (if x5_1.length < 17592186044416 then (spec_l03Runs.l0 kj14 l0 a1 (x5_1 ++ [x6_1]) (wrap64 (x7_7 + 1))) else (none)) = some r := by rw [if_pos rfl] at H; exact H
                 clear H
                 have H := H1
                 clear H1
                 by_cases c47 : x5_1.length < 17592186044416
                 · rw [if_pos c47] at H
                   have LMc47 := Aside0.mk c47
                   clear c47
                   obtain ⟨y127, hy127⟩ : ∃ y_ : List Int, y_ = (x5_1 ++ [x6_1]) := ⟨_, rfl⟩
                   replace H : (spec_l03Runs.l0 kj14 l0 a1 y127 (wrap64 (x7_7 + 1))) = some r := by first | (rw [hy127]; with_reducible exact H) | (have H2_ := (Option.bind_some _ _).symm.trans H; rw [hy127]; with_reducible exact H2_) | (have H2_ := (Option.bind_some _ _).symm.trans H; with_reducible exact H2_) | with_reducible exact H | (rw [hy127]; exact H) | exact H
                   have Ny127 := Aside0.mk hy127
                   clear hy127
                   as_aux_lemma =>
                    have H' := Aside0.mk H
                    clear H
                    go_wp2_with (first | ((with_reducible refine gate_builtin (b := .append) (xs := #[.tmp 114, .tmp 116]) rfl ?_); at_builtin; refine Kd.R_append (Kd.int .i64) (w0 := w) w.heap.size rfl (.tmp 114) (.tmp 116) 36 2 (.int .i64 0) 8 rfl Try.underlying36 info2 rfl (by decide) (by omega) u5 x5_1 x6_1 [.int .i64 x6_1] (fun _ => True) (fun _ => False) rfl rfl ?aP (fun _ hk => hk.elim) ?aF ?aO ?aB ?aS ?aL ?_; (case aP => exact rfl); (case aB => exact (by repeat (first | (with_reducible first | exact HB.out | apply below_alloc | apply pw_below_drewN | apply below_drew1) | exact HB.out))); (case aF => exact (fun _ _ => trivial)); (case aO => exact (by (with_reducible repeat (first | apply Kd.R_alloc | apply Kd.R_drewN | apply Kd.R_drew)); exact HO_5.out)); (case aS => exact (below_size (by repeat (first | (with_reducible first | exact HB.out | apply below_alloc | apply pw_below_drewN | apply below_drew1) | exact HB.out)))); (case aL => have := LMc47.out; omega); intro v128 w48 ho hb hg hat; rw [← Ny127.out] at ho; have n0_ := Aside0.mk (hb); have n1_ := Aside0.mk (ho); clear HB; clear HO_5; have HB := n0_; have HO129 := n1_; clear n0_ n1_; clear ho hb hg hat))
                    repeat (go_quiet (first | ((with_reducible refine gate_builtin (b := .append) (xs := #[.tmp 114, .tmp 116]) rfl ?_); at_builtin; refine Kd.R_append (Kd.int .i64) (w0 := w) w.heap.size rfl (.tmp 114) (.tmp 116) 36 2 (.int .i64 0) 8 rfl Try.underlying36 info2 rfl (by decide) (by omega) u5 x5_1 x6_1 [.int .i64 x6_1] (fun _ => True) (fun _ => False) rfl rfl ?aP (fun _ hk => hk.elim) ?aF ?aO ?aB ?aS ?aL ?_; (case aP => exact rfl); (case aB => exact (by repeat (first | (with_reducible first | exact HB.out | apply below_alloc | apply pw_below_drewN | apply below_drew1) | exact HB.out))); (case aF => exact (fun _ _ => trivial)); (case aO => exact (by (with_reducible repeat (first | apply Kd.R_alloc | apply Kd.R_drewN | apply Kd.R_drew)); exact HO_5.out)); (case aS => exact (below_size (by repeat (first | (with_reducible first | exact HB.out | apply below_alloc | apply pw_below_drewN | apply below_drew1) | exact HB.out)))); (case aL => have := LMc47.out; omega); intro v128 w48 ho hb hg hat; rw [← Ny127.out] at ho; have n0_ := Aside0.mk (hb); have n1_ := Aside0.mk (ho); clear HB; clear HO_5; have HB := n0_; have HO129 := n1_; clear n0_ n1_; clear ho hb hg hat)); try go_wp2_with (first | ((with_reducible refine gate_builtin (b := .append) (xs := #[.tmp 114, .tmp 116]) rfl ?_); at_builtin; refine Kd.R_append (Kd.int .i64) (w0 := w) w.heap.size rfl (.tmp 114) (.tmp 116) 36 2 (.int .i64 0) 8 rfl Try.underlying36 info2 rfl (by decide) (by omega) u5 x5_1 x6_1 [.int .i64 x6_1] (fun _ => True) (fun _ => False) rfl rfl ?aP (fun _ hk => hk.elim) ?aF ?aO ?aB ?aS ?aL ?_; (case aP => exact rfl); (case aB => exact (by repeat (first | (with_reducible first | exact HB.out | apply below_alloc | apply pw_below_drewN | apply below_drew1) | exact HB.out))); (case aF => exact (fun _ _ => trivial)); (case aO => exact (by (with_reducible repeat (first | apply Kd.R_alloc | apply Kd.R_drewN | apply Kd.R_drew)); exact HO_5.out)); (case aS => exact (below_size (by repeat (first | (with_reducible first | exact HB.out | apply below_alloc | apply pw_below_drewN | apply below_drew1) | exact HB.out)))); (case aL => have := LMc47.out; omega); intro v128 w48 ho hb hg hat; rw [← Ny127.out] at ho; have n0_ := Aside0.mk (hb); have n1_ := Aside0.mk (ho); clear HB; clear HO_5; have HB := n0_; have HO129 := n1_; clear n0_ n1_; clear ho hb hg hat)))
                    go_roundg kj14
                    case measure => have := HK1.out; have := HJ7.out; have := HJ14.out; omega
                    case rel => exact ⟨(y127), (wrap64 (x7_7 + 1)), (by first | rfl | (simp; done) | (simp [*]; done)), H', ⟨by have := HK1.out; have := HJ7.out; have := HJ14.out; omega⟩, ⟨by (with_reducible repeat (first | apply Kd.R_alloc | apply Kd.R_drewN | apply Kd.R_drew)); exact HO129.out⟩, ⟨by repeat (first | (with_reducible first | exact HB.out | apply below_alloc | apply pw_below_drewN | apply below_drew1) | exact HB.out)⟩⟩
                 · rw [if_neg c47] at H
                   exact absurd H (by simp)
               · replace c46 := Bool.eq_false_iff.mpr c46
                 subst c46
                 have H1 : (spec_l03Runs.l0 kj14 l0 a1 x5_1 (wrap64 (x7_7 + 1))) = some r := by rw [if_neg (show ¬ (false = true) by decide)] at H; exact H
                 clear H
                 have H := H1
                 clear H1
                 as_aux_lemma =>
                  have H' := Aside0.mk H
                  clear H
                  go_wp2
                  repeat (go_quiet (fail); try go_wp2)
                  go_roundg kj14
                  case measure => have := HK1.out; have := HJ7.out; have := HJ14.out; omega
                  case rel => exact ⟨(x5_1), (wrap64 (x7_7 + 1)), (by first | rfl | (simp; done) | (simp [*]; done)), H', ⟨by have := HK1.out; have := HJ7.out; have := HJ14.out; omega⟩, ⟨by (with_reducible repeat (first | apply Kd.R_alloc | apply Kd.R_drewN | apply Kd.R_drew)); exact HO_5.out⟩, ⟨by repeat (first | (with_reducible first | exact HB.out | apply below_alloc | apply pw_below_drewN | apply below_drew1) | exact HB.out)⟩⟩
     · rw [if_neg c6] at H
       exact absurd H (by simp)
   · rw [if_neg c5] at H
     have c5b0 : decide (x6_1 < (l0.length : Int)) = false := decide_eq_false c5
     clear c5
     as_aux_lemma =>
      obtain rfl := Option.some.inj H
      go_wp2
      repeat (go_quiet (fail); try go_wp2)
      go_ret
      exact ⟨_, by first | rfl | (simp [errW_none, errW_some] <;> rfl) | (simp [*, errW_none, errW_some] <;> rfl), by (with_reducible repeat (first | apply Kd.R_alloc | apply Kd.R_drewN | apply Kd.R_drew)); exact HO_5.out, by repeat (first | (with_reducible first | exact HB.out | apply below_alloc | apply pw_below_drewN | apply below_drew1) | exact HB.out)⟩

/-! ### spec_l00Has: function 50 -/
def spec_l00Has.l0 : Nat → List Int → Int → Int → Option (Bool)
 | 0, _, _, _ => none
 | k + 1, x0, x1, x5 => if x5 < (x0.length : Int) then (if 0 ≤ x5 then (if (rd x0 x5) = x1 then (some true) else (spec_l00Has.l0 k x0 x1 (wrap64 (x5 + 1)))) else (none)) else (some false)
def spec_l00Has.f (k : Nat) (l0 : List Int) (a1 : Int) : Option (Bool) := spec_l00Has.l0 k l0 a1 0
theorem spec_l00Has.mono_l : ∀ k, (∀ y0 y1 y2, LeO (spec_l00Has.l0 k y0 y1 y2) (spec_l00Has.l0 (k + 1) y0 y1 y2))
 | 0 => fun _ _ _ r h => by simp [spec_l00Has.l0] at h
 | k + 1 => by
  have ih0 := spec_l00Has.mono_l k
  · intro y0 y1 y2
    unfold spec_l00Has.l0
    repeat' first
    | (with_reducible exact ih0 _ _ _)
    | (with_reducible exact LeO.refl _)
    | (with_reducible exact LeO.none _)
    | (with_reducible refine LeO.ite ?_ ?_)
    | (with_reducible refine LeO.bind ?_ (fun _ => ?_))
    | exact ih0 _ _ _
    | exact LeO.none _
    | refine LeO.ite ?_ ?_
    | refine LeO.bind ?_ (fun _ => ?_)
theorem spec_l00Has.mono : ∀ a0 a1 k, LeO (spec_l00Has.f k a0 a1) (spec_l00Has.f (k + 1) a0 a1) := by
 intro a0 a1 k
 have ih0 := spec_l00Has.mono_l k
 unfold spec_l00Has.f
 repeat' first
  | (with_reducible exact ih0 _ _ _)
  | (with_reducible exact LeO.refl _)
  | (with_reducible exact LeO.none _)
  | (with_reducible refine LeO.ite ?_ ?_)
  | (with_reducible refine LeO.bind ?_ (fun _ => ?_))
  | exact ih0 _ _ _
  | exact LeO.none _
  | refine LeO.ite ?_ ?_
  | refine LeO.bind ?_ (fun _ => ?_)
set_option maxHeartbeats 8000000 in
set_option maxRecDepth 100000 in
theorem spec_l00Has.calls (k : Nat) (A0 : Option Addr) (c0 : Nat) (l0 : List Int) (a1 : Int) (r : Bool) (w : World) (hr0 : Kd.C (Kd.int .i64) w A0 l0.length l0) (hc0 : l0.length ≤ c0) (h : spec_l00Has.f k l0 a1 = some r) :
 Calls Try.prog 50 #[.slice A0 l0.length c0, .int .i64 a1] w fun e w' => e = .returned (.bool r) ∧ Drawn0 w w' := by
 have HR0 := Aside0.mk hr0
 have HC0 := Aside0.mk hc0
 clear hr0 hc0
 have H : (spec_l00Has.l0 k l0 a1 0) = some r := h
 clear h
 have H' := Aside0.mk H
 clear H
 go_enter Try.func50, Try.ntmps50
 go_wp2
 go_loopg [5] k (fun kq v5 w' => ∃ (x5_1 : Int), v5 = .int .i64 x5_1 ∧ Aside0 (spec_l00Has.l0 kq l0 a1 x5_1 = some r) ∧ Aside0 (kq ≤ k) ∧ Drawn0 w w')
 case atStart => exact ⟨(0), (by first | rfl | (simp; done) | (simp [*]; done)), H', ⟨Nat.le_refl _⟩, by repeat (first | exact Drawn0.refl _ | apply Drawn0.step)⟩
 case round =>
  clear H'
  (try clear p2)
  obtain ⟨x5_1, rfl, HA, HK1, ⟨m1, rfl⟩⟩ := hrel
  cases gk with
  | zero => exact absurd HA.out (by simp [spec_l00Has.l0])
  | succ k1 =>
   have H := HA.out
   clear HA
   simp only [spec_l00Has.l0] at H
   by_cases c3 : x5_1 < (l0.length : Int)
   · rw [if_pos c3] at H
     have c3b0 : decide (x5_1 < (l0.length : Int)) = true := decide_eq_true c3
     clear c3
     by_cases c4 : 0 ≤ x5_1
     · rw [if_pos c4] at H
       have c4b0 : decide (0 ≤ x5_1) = true := decide_eq_true c4
       clear c4
       by_cases c5 : (rd l0 x5_1) = a1
       · rw [if_pos c5] at H
         have c5b0 : ((rd l0 x5_1) == a1) = true := beq_iff_eq.mpr c5
         have c5b1 : ((rd l0 x5_1) != a1) = false := bne_eq_false_iff_eq.mpr c5
         clear c5
         as_aux_lemma =>
          obtain rfl := Option.some.inj H
          have p130 : 0 ≤ (x5_1 : Int) := of_decide_eq_true (by first | (with_reducible assumption) | assumption)
          have q130 : x5_1 < (l0.length : Int) := of_decide_eq_true (by first | (with_reducible assumption) | assumption)
          obtain ⟨ad130, e130, hx130_0⟩ := Kd.at_int HR0.out x5_1 p130 q130
          cases e130
          replace p130 := eq_true p130
          replace q130 := eq_true q130
          go_wp2
          go_ret
          exact ⟨by first | rfl | (simp; done) | (simp [*]; done), by repeat (first | exact Drawn0.refl _ | apply Drawn0.step)⟩
       · rw [if_neg c5] at H
         have c5b0 : ((rd l0 x5_1) == a1) = false := beq_eq_false_iff_ne.mpr c5
         have c5b1 : ((rd l0 x5_1) != a1) = true := bne_iff_ne.mpr c5
         as_aux_lemma =>
          have H' := Aside0.mk H
          clear H
          have p130 : 0 ≤ (x5_1 : Int) := of_decide_eq_true (by first | (with_reducible assumption) | assumption)
          have q130 : x5_1 < (l0.length : Int) := of_decide_eq_true (by first | (with_reducible assumption) | assumption)
          obtain ⟨ad130, e130, hx130_0⟩ := Kd.at_int HR0.out x5_1 p130 q130
          cases e130
          replace p130 := eq_true p130
          replace q130 := eq_true q130
          go_wp2
          go_roundg k1
          case measure => have := HK1.out; omega
          case rel => exact ⟨(wrap64 (x5_1 + 1)), (by first | rfl | (simp; done) | (simp [*]; done)), H', ⟨by have := HK1.out; omega⟩, by repeat (first | exact Drawn0.refl _ | apply Drawn0.step)⟩
     · rw [if_neg c4] at H
       exact absurd H (by simp)
   · rw [if_neg c3] at H
     have c3b0 : decide (x5_1 < (l0.length : Int)) = false := decide_eq_false c3
     clear c3
     as_aux_lemma =>
      obtain rfl := Option.some.inj H
      go_wp2
      go_ret
      exact ⟨by first | rfl | (simp; done) | (simp [*]; done), by repeat (first | exact Drawn0.refl _ | apply Drawn0.step)⟩

end Go.Proofs.Ytncckihaacceaaa.L
