/-
  Contracts of the program's functions, each a plain Lean function beside the machine's call: written by this session's program over the kit's print.
-/
import Derived.Test.YtncckihaacceaaaSx0
import Derived.Test.YtncckihaacceaaaSx2
import Derived.Test.YtncckihaacceaaaSx3
namespace Go.Proofs.Ytncckihaacceaaa.S
open Go.RowKit Go.Proofs.YtncckihaacceaaaW.PrintWords Go.Proofs.YtncckihaacceaaaW.PrintLast Go.Proofs.YtncckihaacceaaaW.PrintMore
attribute [local go_sem] max2_int min2_int max_two min_two max_three min_three max_four min_four   -- for this text's walks alone
set_option linter.unusedVariables false
set_option linter.unusedSimpArgs false

/-! ### impl_ValidPlaces: function 60 -/
def impl_ValidPlaces.l0 : Nat → List (S88) → List (S88) → Int → Int → Option (Bool)
 | 0, _, _, _, _ => none
 | k + 1, x0, x9, x10, x11 => if x11 < x10 then (if 0 ≤ x11 then (if x11 < (x9.length : Int) then ((impl_isCoordinate.f ((rd_T88 x9 x11).f0)).bind fun t225 => (if t225 = true then ((impl_isCoordinate.f ((rd_T88 x9 x11).f1)).bind fun t226 => (if t226 = true then (if x11 ≤ (x0.length : Int) then ((impl_Place_84.f k (x0.take (x11 : Int).toNat) ((rd_T88 x9 x11).f0) ((rd_T88 x9 x11).f1)).bind fun t231 => (if t231 = true then (some false) else (impl_ValidPlaces.l0 k x0 x9 x10 (wrap64 (x11 + 1))))) else (none)) else (some false))) else (some false))) else (none)) else (none)) else (some true)
def impl_ValidPlaces.f (k : Nat) (l0 : List (S88)) : Option (Bool) := (impl_isCount.f (l0.length : Int)).bind fun t222 => (if t222 = true then (impl_ValidPlaces.l0 k l0 l0 (l0.length : Int) 0) else (some false))
def impl_ValidPlaces.T6 : Bool × List (List Nat × List Nat) := (true, [([], []), ([0], [0]), ([1], [1]), ([2], [2]), ([3, 2], [3]), ([4], [4]), ([5, 4], [4, 5]), ([6, 4, 4], [4, 6]), ([7, 4], [4, 7]), ([4, 8], [4, 8]), ([9, 7], [9]), ([10], [10]), ([10], [10]), ([11, 12, 10], [10, 11, 12]), ([10], [10]), ([13, 14, 10, 10], [10, 13, 14]), ([10, 15], [10, 15])])
def impl_ValidPlaces.B6 : List Nat := [0, 1, 3, 7, 15, 31, 63, 127, 255, 511, 1023, 2047, 2047, 8191, 2047, 32767, 65535]
theorem impl_ValidPlaces.tab6 : rtab .any (opsOf Try.f60 6) = impl_ValidPlaces.T6 := by kernel_rfl
theorem impl_ValidPlaces.bits6 : waitsOk impl_ValidPlaces.T6.2 impl_ValidPlaces.B6 = true := by kernel_rfl
set_option maxHeartbeats 8000000 in
set_option maxRecDepth 100000 in
theorem impl_ValidPlaces.calls (k : Nat) (A0 : Option Addr) (c0 : Nat) (l0 : List (S88)) (r : Bool) (w : World) (hr0 : Kd.C k88 w A0 l0.length l0) (hc0 : l0.length ≤ c0) (h : impl_ValidPlaces.f k l0 = some r) :
 Calls Try.prog 60 #[.slice A0 l0.length c0] w fun e w' => e = .returned (.bool r) ∧ Below w.heap.size w w' := by
 have hu88 := Try.underlying88
 have HR0 := Aside0.mk hr0
 have HC0 := Aside0.mk hc0
 clear hr0 hc0
 have HB := Aside0.mk (Below.refl w.heap.size w)
 have H : ((impl_isCount.f (l0.length : Int)).bind fun t222 => (if t222 = true then (impl_ValidPlaces.l0 k l0 l0 (l0.length : Int) 0) else (some false))) = some r := h
 clear h
 replace H := Option.bind_eq_some_iff.mp H
 obtain ⟨t222, A20, H⟩ := H
 replace H : (if t222 = true then (impl_ValidPlaces.l0 k l0 l0 (l0.length : Int) 0) else (some false)) = some r := H
 have A2 := Aside0.mk A20
 clear A20
 by_cases c3 : t222 = true
 · subst c3
   have H1 : (impl_ValidPlaces.l0 k l0 l0 (l0.length : Int) 0) = some r := by rw [if_pos rfl] at H; exact H
   clear H
   have H := H1
   clear H1
   have H' := Aside0.mk H
   clear H
   go_enter Try.func60, Try.ntmps60
   go_wp2_with (first | ((with_reducible refine gate_callee (f := 82) rfl ?_); refine goesL_ (some 7) rfl rfl Try.func82 (by kernel_rfl) rfl #[.int .i64 (l0.length : Int)] rfl (by (try simp only [List.map_toArray, List.map_cons, List.map_nil]); first | done | rfl | (simp only [List.length_drop, List.length_take]; rfl)) ?_; (with_reducible refine (impl_isCount.calls (l0.length : Int) true _ A2.out).mono ?_); rintro e w' ⟨rfl, ⟨nd, rfl⟩⟩; refine ⟨_, rfl, ?_⟩))
   go_loopg [11] k (fun kq v11 w' => ∃ (x11_1 : Int), v11 = .int .i64 x11_1 ∧ Aside0 (impl_ValidPlaces.l0 kq l0 l0 (l0.length : Int) x11_1 = some r) ∧ Aside0 (kq ≤ k) ∧ Aside0 (Below w.heap.size w w'))
   case atStart => exact ⟨(0), (by first | rfl | (simp; done) | (simp [*]; done)), H', ⟨Nat.le_refl _⟩, ⟨by repeat (first | (with_reducible first | exact HB.out | apply below_alloc | apply pw_below_drewN | apply below_drew1) | exact HB.out)⟩⟩
   case round =>
    clear H'
    (try clear p2); (try clear c3)
    obtain ⟨x11_1, rfl, HA, HK1, HB⟩ := hrel
    cases gk with
    | zero => exact absurd HA.out (by simp [impl_ValidPlaces.l0])
    | succ k1 =>
     have H := HA.out
     clear HA
     simp only [impl_ValidPlaces.l0] at H
     by_cases c4 : x11_1 < (l0.length : Int)
     · rw [if_pos c4] at H
       have c4b0 : decide (x11_1 < (l0.length : Int)) = true := decide_eq_true c4
       clear c4
       by_cases c5 : 0 ≤ x11_1
       · rw [if_pos c5] at H
         have c5b0 : decide (0 ≤ x11_1) = true := decide_eq_true c5
         clear c5
         by_cases c6 : x11_1 < (l0.length : Int)
         · rw [if_pos c6] at H
           have c6b0 : decide (x11_1 < (l0.length : Int)) = true := decide_eq_true c6
           clear c6
           replace H := Option.bind_eq_some_iff.mp H
           obtain ⟨t225, A70, H⟩ := H
           replace H : (if t225 = true then ((impl_isCoordinate.f ((rd_T88 l0 x11_1).f1)).bind fun t226 => (if t226 = true then (if x11_1 ≤ (l0.length : Int) then ((impl_Place_84.f k1 (l0.take (x11_1 : Int).toNat) ((rd_T88 l0 x11_1).f0) ((rd_T88 l0 x11_1).f1)).bind fun t231 => (if t231 = true then (some false) else (impl_ValidPlaces.l0 k1 l0 l0 (l0.length : Int) (wrap64 (x11_1 + 1))))) else (none)) else (some false))) else (some false)) = some r := H
           have A7 := Aside0.mk A70
           clear A70
           by_cases c8 : t225 = true
           · subst c8
             have H1 : ((impl_isCoordinate.f ((rd_T88 l0 x11_1).f1)).bind fun t226 => (if t226 = true then (if x11_1 ≤ (l0.length : Int) then ((impl_Place_84.f k1 (l0.take (x11_1 : Int).toNat) ((rd_T88 l0 x11_1).f0) ((rd_T88 l0 x11_1).f1)).bind fun t231 => (if t231 = true then (some false) else (impl_ValidPlaces.l0 k1 l0 l0 (l0.length : Int) (wrap64 (x11_1 + 1))))) else (none)) else (some false))) = some r := by rw [if_pos rfl] at H; exact H
             clear H
             have H := H1
             clear H1
             replace H := Option.bind_eq_some_iff.mp H
             obtain ⟨t226, A90, H⟩ := H
             replace H : (if t226 = true then (if x11_1 ≤ (l0.length : Int) then ((impl_Place_84.f k1 (l0.take (x11_1 : Int).toNat) ((rd_T88 l0 x11_1).f0) ((rd_T88 l0 x11_1).f1)).bind fun t231 => (if t231 = true then (some false) else (impl_ValidPlaces.l0 k1 l0 l0 (l0.length : Int) (wrap64 (x11_1 + 1))))) else (none)) else (some false)) = some r := H
             have A9 := Aside0.mk A90
             clear A90
             by_cases c10 : t226 = true
             · subst c10
               have H1 : (if x11_1 ≤ (l0.length : Int) then ((impl_Place_84.f k1 (l0.take (x11_1 : Int).toNat) ((rd_T88 l0 x11_1).f0) ((rd_T88 l0 x11_1).f1)).bind fun t231 => (if t231 = true then (some false) else (impl_ValidPlaces.l0 k1 l0 l0 (l0.length : Int) (wrap64 (x11_1 + 1))))) else (none)) = some r := by rw [if_pos rfl] at H; exact H
               clear H
               have H := H1
               clear H1
               have c11b0 := eq_true (of_decide_eq_true (by first | (with_reducible assumption) | assumption) : 0 ≤ x11_1)
               by_cases c12 : x11_1 ≤ (l0.length : Int)
               · rw [if_pos c12] at H
                 have c12b0 := eq_true c12
                 have c12b1 : decide (x11_1 ≤ (l0.length : Int)) = true := decide_eq_true c12
                 clear c12
                 obtain ⟨y227, hy227⟩ : ∃ y_ : List (S88), y_ = (l0.take (x11_1 : Int).toNat) := ⟨_, rfl⟩
                 replace H : ((impl_Place_84.f k1 y227 ((rd_T88 l0 x11_1).f0) ((rd_T88 l0 x11_1).f1)).bind fun t231 => (if t231 = true then (some false) else (impl_ValidPlaces.l0 k1 l0 l0 (l0.length : Int) (wrap64 (x11_1 + 1))))) = some r := by first | (rw [hy227]; with_reducible exact H) | (have H2_ := (Option.bind_some _ _).symm.trans H; rw [hy227]; with_reducible exact H2_) | (have H2_ := (Option.bind_some _ _).symm.trans H; with_reducible exact H2_) | with_reducible exact H | (rw [hy227]; exact H) | exact H
                 have Ny227 := Aside0.mk hy227
                 clear hy227
                 replace H := Option.bind_eq_some_iff.mp H
                 obtain ⟨t231, A130, H⟩ := H
                 replace H : (if t231 = true then (some false) else (impl_ValidPlaces.l0 k1 l0 l0 (l0.length : Int) (wrap64 (x11_1 + 1)))) = some r := H
                 have A13 := Aside0.mk A130
                 clear A130
                 by_cases c14 : t231 = true
                 · subst c14
                   have H1 : (some false) = some r := by rw [if_pos rfl] at H; exact H
                   clear H
                   have H := H1
                   clear H1
                   obtain rfl := Option.some.inj H
                   have p223 : 0 ≤ (x11_1 : Int) := of_decide_eq_true (by first | (with_reducible assumption) | assumption)
                   have q223 : x11_1 < (l0.length : Int) := of_decide_eq_true (by first | (with_reducible assumption) | assumption)
                   obtain ⟨ad223, e223, hx223_0, hx223_1⟩ := at_T88 HR0.out x11_1 p223 q223
                   cases e223
                   replace hx223_0 := (HB.out.cell (World.block_lt_of_cell? w _ hx223_0)).trans hx223_0
                   replace hx223_1 := (HB.out.cell (World.block_lt_of_cell? w _ hx223_1)).trans hx223_1
                   replace p223 := eq_true p223
                   replace q223 := eq_true q223
                   try go_wp2_with (first | ((with_reducible refine gate_dst (N := 4) rfl ?_); refine box_event ?hg (N := 4) ?hd (cs := #[.int .i64 0, .int .i64 0]) (t := 88) ?hr ?_; (case hd => rfl); (case hg => rfl); (case hr => first | (go_simp; done) | (go_simp; rfl)); intro gb224 hg w15 hbox hb; have n0_ := Aside0.mk (below_step (by repeat (first | (with_reducible first | exact HB.out | apply below_alloc | apply pw_below_drewN | apply below_drew1) | exact HB.out)) hb); have n1_ := Aside0.mk (hbox); have n2_ := Aside0.mk ((by rw [hg]; exact (below_size (by repeat (first | (with_reducible first | exact HB.out | apply below_alloc | apply pw_below_drewN | apply below_drew1) | exact HB.out))) : w.heap.size ≤ gb224)); have n3_ := Aside0.mk ((by rw [hg]; exact (below_size (by repeat (first | (with_reducible first | exact HB.out | apply below_alloc | apply pw_below_drewN | apply below_drew1) | exact HB.out))) : w.heap.size ≤ gb224)); clear HB; have HB := n0_; have BK224 := n1_; have GW224 := n2_; have GE224 := n3_; clear n0_ n1_ n2_ n3_; clear hb hbox hg; have hcz16_0 : w15.cell? ⟨gb224, 0, none⟩ = some (.int .i64 0) := (blk_cell BK224.out 0).trans rfl; have hcz16_1 : w15.cell? ⟨gb224, 1, none⟩ = some (.int .i64 0) := (blk_cell BK224.out 1).trans rfl; have hfz16_0 := blk_frozen BK224.out 0; have hfz16_1 := blk_frozen BK224.out 1))
                   have n0_ : Aside0 (((w15.setCell ⟨gb224, 0, none⟩ (.int .i64 ((rd_T88 l0 x11_1).f0))).setCell ⟨gb224, 1, none⟩ (.int .i64 ((rd_T88 l0 x11_1).f1))).heap[gb224]? = some (.cells #[.int .i64 ((rd_T88 l0 x11_1).f0), .int .i64 ((rd_T88 l0 x11_1).f1)] 88 (0, 0))) := ⟨by (with_reducible repeat (first | refine blk_drewN ?_ _ | refine blk_drew ?_ | refine blk_alloc ?_ _)); refine blk_put (cs := #[.int .i64 ((rd_T88 l0 x11_1).f0), .int .i64 0]) ?_ 1 _ rfl; (with_reducible repeat (first | refine blk_drewN ?_ _ | refine blk_drew ?_ | refine blk_alloc ?_ _)); refine blk_put (cs := #[.int .i64 0, .int .i64 0]) ?_ 0 _ rfl; (with_reducible repeat (first | refine blk_drewN ?_ _ | refine blk_drew ?_ | refine blk_alloc ?_ _)); exact BK224.out⟩
                   have n1_ : Aside0 (Below w.heap.size w ((w15.setCell ⟨gb224, 0, none⟩ (.int .i64 ((rd_T88 l0 x11_1).f0))).setCell ⟨gb224, 1, none⟩ (.int .i64 ((rd_T88 l0 x11_1).f1)))) := ⟨by repeat (first | (with_reducible first | exact HB.out | apply below_alloc | apply pw_below_drewN | apply below_drew1 | refine below_set ?_ GE224.out) | exact HB.out)⟩
                   (try clear BK224)
                   (try clear HB)
                   generalize ((w15.setCell ⟨gb224, 0, none⟩ (.int .i64 ((rd_T88 l0 x11_1).f0))).setCell ⟨gb224, 1, none⟩ (.int .i64 ((rd_T88 l0 x11_1).f1))) = w17 at n0_ n1_ ⊢
                   have BK224 := n0_
                   have HB := n1_
                   clear n0_ n1_
                   have n0_ := Aside0.mk (blk_drew BK224.out)
                   have n1_ := Aside0.mk (below_drew1 HB.out)
                   clear BK224
                   clear HB
                   have BK224 := n0_
                   have HB := n1_
                   clear n0_ n1_
                   refine start_ (n := 17) (S := fun w' => w'.cell? ⟨gb224, 0, none⟩ = some (.int .i64 ((rd_T88 l0 x11_1).f0)) ∧ w'.cell? ⟨gb224, 1, none⟩ = some (.int .i64 ((rd_T88 l0 x11_1).f1))) (ds := []) #[false, false, false, false, false, false, false, false, false, false, false, false, false, false, false, false, false] (by kernel_rfl) rfl rfl ⟨(blk_cell BK224.out 0).trans rfl, (blk_cell BK224.out 1).trans rfl⟩ (fun hHeld => ?_); refine with_tabW impl_ValidPlaces.tab6 impl_ValidPlaces.bits6 (fun HT_ HW_ => ?_)
                   generalize w17.drew = w18 at BK224 HB hHeld ⊢
                   refine pure_ (i := 0) (N := some 16) (v := ?_) (a' := ?_) #[true, false, false, false, false, false, false, false, false, false, false, false, false, false, false, false, false] rfl rfl (any_of HT_.out (by kernel_rfl)) (fun _ _ _ h => h) (Or.inl ⟨by rfl, ?_⟩) ?_ ?_; rotate_left 4
                   rotate_left; iterate 1 (rotate_left; (intro w'; go_simp; with_reducible rfl); rotate_left; (simp only [Act.put, List.setIfInBounds_toArray, List.set_cons_zero, List.set_cons_succ, i64_w, i32_w]; rfl))
                   refine take_ (i := 1) (N := some 17) (v := ?_) (a' := ?_) #[true, true, false, false, false, false, false, false, false, false, false, false, false, false, false, false, false] rfl rfl (take_ofW HT_.out HW_.out (by kernel_rfl)) (fun _ _ _ h => h) (Or.inl ⟨by rfl, ?_⟩) hHeld ?_ ?_
                   rotate_left
                   · rintro w' ⟨s0, s1⟩
                     go_simp
                     with_reducible rfl
                   rotate_left
                   · simp only [Act.put, List.setIfInBounds_toArray, List.set_cons_zero, List.set_cons_succ, i64_w, i32_w]
                     rfl
                   refine one_ (i := 2) (N := some 18) #[true, true, true, false, false, false, false, false, false, false, false, false, false, false, false, false, false] rfl rfl (one_of HT_.out (by kernel_rfl)) (by decide) (fun K hK => ?_)
                   refine goes_ Try.func83 (by kernel_rfl) rfl #[.int .i64 ((rd_T88 l0 x11_1).f0)] (by rfl) rfl rfl (by (try simp only [List.map_toArray, List.map_cons, List.map_nil]); first | done | rfl | (simp only [List.length_drop, List.length_take]; rfl)) ?_
                   with_reducible refine (impl_isCoordinate.calls ((rd_T88 l0 x11_1).f0) true _ A7.out).mono ?_
                   rintro e w' ⟨rfl, ⟨nd, rfl⟩⟩
                   refine ⟨_, rfl, ?_⟩
                   refine hK.out _ _ ⟨(blk_cell BK224.out 0).trans rfl, (blk_cell BK224.out 1).trans rfl⟩ (fun hHeld => ?_)
                   clear hK K
                   refine norm_ (a' := ?_) ?_ ?_
                   rotate_left
                   · show Act.put _ (some 18) _ = _
                     simp only [Act.put, List.setIfInBounds_toArray, List.set_cons_zero, List.set_cons_succ, i64_w, i32_w]
                     rfl
                   refine pure_ (i := 3) (N := some 19) (v := ?_) (a' := ?_) #[true, true, true, true, false, false, false, false, false, false, false, false, false, false, false, false, false] rfl rfl (any_of HT_.out (by kernel_rfl)) (fun _ _ _ h => h) (Or.inl ⟨by rfl, ?_⟩) ?_ ?_; rotate_left 4
                   refine pure_ (i := 4) (N := some 20) (v := ?_) (a' := ?_) #[true, true, true, true, true, false, false, false, false, false, false, false, false, false, false, false, false] rfl rfl (any_of HT_.out (by kernel_rfl)) (fun _ _ _ h => h) (Or.inl ⟨by rfl, ?_⟩) ?_ ?_; rotate_left 4
                   rotate_left; iterate 2 (rotate_left; (intro w'; go_simp; with_reducible rfl); rotate_left; (simp only [Act.put, List.setIfInBounds_toArray, List.set_cons_zero, List.set_cons_succ, i64_w, i32_w]; rfl))
                   refine pure_ (i := 5) (N := some 21) (v := ?_) (a' := ?_) #[true, true, true, true, true, true, false, false, false, false, false, false, false, false, false, false, false] rfl rfl (any_of HT_.out (by kernel_rfl)) (fun _ _ _ h => h) (Or.inl ⟨by rfl, ?_⟩) ?_ ?_; rotate_left; (intro w'; go_simp; with_reducible rfl); rotate_left; (simp only [Act.put, List.setIfInBounds_toArray, List.set_cons_zero, List.set_cons_succ, i64_w, i32_w]; rfl)
                   refine take_ (i := 6) (N := some 22) (v := ?_) (a' := ?_) #[true, true, true, true, true, true, true, false, false, false, false, false, false, false, false, false, false] rfl rfl (take_ofW HT_.out HW_.out (by kernel_rfl)) (fun _ _ _ h => h) (Or.inl ⟨by rfl, ?_⟩) hHeld ?_ ?_
                   rotate_left
                   · rintro w' ⟨s0, s1⟩
                     go_simp
                     with_reducible rfl
                   rotate_left
                   · simp only [Act.put, List.setIfInBounds_toArray, List.set_cons_zero, List.set_cons_succ, i64_w, i32_w]
                     rfl
                   refine one_ (i := 7) (N := some 23) #[true, true, true, true, true, true, true, true, false, false, false, false, false, false, false, false, false] rfl rfl (one_of HT_.out (by kernel_rfl)) (by decide) (fun K hK => ?_)
                   refine goes_ Try.func83 (by kernel_rfl) rfl #[.int .i64 ((rd_T88 l0 x11_1).f1)] (by rfl) rfl rfl (by (try simp only [List.map_toArray, List.map_cons, List.map_nil]); first | done | rfl | (simp only [List.length_drop, List.length_take]; rfl)) ?_
                   with_reducible refine (impl_isCoordinate.calls ((rd_T88 l0 x11_1).f1) true _ A9.out).mono ?_
                   rintro e w' ⟨rfl, ⟨nd, rfl⟩⟩
                   refine ⟨_, rfl, ?_⟩
                   have q19 : (x11_1 : Int) ≤ ((l0.length : Int) : Int) := of_decide_eq_true (by first | (with_reducible assumption) | assumption)
                   obtain ⟨i019, hi019, _, hsz19, _⟩ := info_parts info88
                   have hroom19 : l0.length ≤ c0 := HC0.out
                   have hC19 : Kd.C k88 _ (some ad223) l0.length l0 := HR0.out
                   have hcut19 := cut_to (P := Try.prog) 48 88 .i64 Try.underlying48 hi019 (some ad223) l0.length c0 x11_1 (of_decide_eq_true (by first | (with_reducible assumption) | assumption)) q19 hroom19
                   have hr19 := Kd.C_take (m := (x11_1 : Int).toNat) hC19 (by omega)
                   have hy19 : y227.length = (x11_1 : Int).toNat := (by rw [Ny227.out, List.length_take]; omega)
                   rw [← Ny227.out] at hr19
                   rw [← hy19] at hcut19
                   have HR230 := Aside0.mk hr19
                   have HC230 := Aside0.mk (show y227.length ≤ c0 from by omega)
                   clear hr19 hC19 hroom19 hi019 hsz19
                   have KY19 := Aside0.mk hy19
                   clear hy19
                   replace q19 := eq_true q19
                   refine hK.out _ _ ⟨(blk_cell BK224.out 0).trans rfl, (blk_cell BK224.out 1).trans rfl⟩ (fun hHeld => ?_)
                   clear hK K
                   refine norm_ (a' := ?_) ?_ ?_
                   rotate_left
                   · show Act.put _ (some 23) _ = _
                     simp only [Act.put, List.setIfInBounds_toArray, List.set_cons_zero, List.set_cons_succ, i64_w, i32_w]
                     rfl
                   refine pure_ (i := 8) (N := some 24) (v := ?_) (a' := ?_) #[true, true, true, true, true, true, true, true, true, false, false, false, false, false, false, false, false] rfl rfl (any_of HT_.out (by kernel_rfl)) (fun _ _ _ h => h) (Or.inl ⟨by rfl, ?_⟩) ?_ ?_; rotate_left; (intro w'; go_simp; with_reducible rfl); rotate_left; (simp only [Act.put, List.setIfInBounds_toArray, List.set_cons_zero, List.set_cons_succ, i64_w, i32_w]; rfl)
                   refine pure_ (i := 9) (N := some 25) (v := ?_) (a' := ?_) #[true, true, true, true, true, true, true, true, true, true, false, false, false, false, false, false, false] rfl rfl (any_of HT_.out (by kernel_rfl)) (fun _ _ _ h => h) (Or.inl ⟨by rfl, ?_⟩) ?_ ?_; rotate_left 4
                   refine pure_ (i := 10) (N := some 26) (v := ?_) (a' := ?_) #[true, true, true, true, true, true, true, true, true, true, true, false, false, false, false, false, false] rfl rfl (any_of HT_.out (by kernel_rfl)) (fun _ _ _ h => h) (Or.inl ⟨by rfl, ?_⟩) ?_ ?_; rotate_left 4
                   rotate_left; iterate 2 (rotate_left; (intro w'; go_simp; with_reducible rfl); rotate_left; (simp only [Act.put, List.setIfInBounds_toArray, List.set_cons_zero, List.set_cons_succ, i64_w, i32_w]; rfl))
                   refine pure_ (i := 11) (N := some 27) (v := ?_) (a' := ?_) #[true, true, true, true, true, true, true, true, true, true, true, true, false, false, false, false, false] rfl rfl (any_of HT_.out (by kernel_rfl)) (fun _ _ _ h => h) (Or.inl ⟨by rfl, ?_⟩) ?_ ?_; rotate_left; (intro w'; go_simp; with_reducible rfl); rotate_left; (simp only [Act.put, List.setIfInBounds_toArray, List.set_cons_zero, List.set_cons_succ, i64_w, i32_w]; rfl)
                   refine pure_ (i := 12) (N := some 28) (v := ?_) (a' := ?_) #[true, true, true, true, true, true, true, true, true, true, true, true, true, false, false, false, false] rfl rfl (any_of HT_.out (by kernel_rfl)) (fun _ _ _ h => h) (Or.inl ⟨by rfl, ?_⟩) ?_ ?_; rotate_left; (intro w'; go_simp; with_reducible rfl); rotate_left; (simp only [Act.put, List.setIfInBounds_toArray, List.set_cons_zero, List.set_cons_succ, i64_w, i32_w]; rfl)
                   refine pure_ (i := 13) (N := some 29) (v := ?_) (a' := ?_) #[true, true, true, true, true, true, true, true, true, true, true, true, true, true, false, false, false] rfl rfl (any_of HT_.out (by kernel_rfl)) (fun _ _ _ h => h) (Or.inl ⟨by rfl, ?_⟩) ?_ ?_; rotate_left; (intro w'; go_simp; with_reducible rfl); rotate_left; (simp only [Act.put, List.setIfInBounds_toArray, List.set_cons_zero, List.set_cons_succ, i64_w, i32_w]; rfl)
                   refine take_ (i := 14) (N := some 30) (v := ?_) (a' := ?_) #[true, true, true, true, true, true, true, true, true, true, true, true, true, true, true, false, false] rfl rfl (take_ofW HT_.out HW_.out (by kernel_rfl)) (fun _ _ _ h => h) (Or.inl ⟨by rfl, ?_⟩) hHeld ?_ ?_
                   rotate_left
                   · rintro w' ⟨s0, s1⟩
                     go_simp
                     with_reducible rfl
                   rotate_left
                   · simp only [Act.put, List.setIfInBounds_toArray, List.set_cons_zero, List.set_cons_succ, i64_w, i32_w]
                     rfl
                   refine one_ (i := 15) (N := some 31) #[true, true, true, true, true, true, true, true, true, true, true, true, true, true, true, true, false] rfl rfl (one_of HT_.out (by kernel_rfl)) (by decide) (fun K hK => ?_)
                   refine goes_ Try.func84 (by kernel_rfl) rfl #[.slice (some ad223) y227.length c0, .agg #[.int .i64 ((rd_T88 l0 x11_1).f0), .int .i64 ((rd_T88 l0 x11_1).f1)]] (by rfl) rfl rfl (by (try simp only [List.map_toArray, List.map_cons, List.map_nil]); first | done | rfl | (simp only [List.length_drop, List.length_take]; rfl)) ?_
                   with_reducible refine (impl_Place_84.calls k1 _ _ y227 ((rd_T88 l0 x11_1).f0) ((rd_T88 l0 x11_1).f1) true _ ?side1 ?side2 A13.out).mono ?_
                   (case side1 => repeat (first | exact (Kd.C_below HR230.out (by repeat (first | (with_reducible first | exact HB.out | apply below_alloc | apply pw_below_drewN | apply below_drew1 | refine below_set ?_ GE224.out) | exact HB.out))) | (with_reducible refine Kd.C_alloc ?_ _) | (with_reducible refine Kd.C_drewN ?_ _) | (with_reducible refine Kd.C_drew ?_)))
                   (case side2 => exact HC230.out)
                   rintro e w20 ⟨rfl, hb⟩
                   refine ⟨_, rfl, ?_⟩
                   have n0_ := Aside0.mk (blk_below (g := gb224) (o := .cells #[.int .i64 ((rd_T88 l0 x11_1).f0), .int .i64 ((rd_T88 l0 x11_1).f1)] 88 (0, 0)) (by (with_reducible repeat (first | refine blk_drewN ?_ _ | refine blk_drew ?_ | refine blk_alloc ?_ _)); exact BK224.out) hb)
                   have n1_ := Aside0.mk (below_step (by repeat (first | (with_reducible first | exact HB.out | apply below_alloc | apply pw_below_drewN | apply below_drew1 | refine below_set ?_ GE224.out) | exact HB.out)) hb)
                   clear BK224
                   clear HB
                   have BK224 := n0_
                   have HB := n1_
                   clear n0_ n1_
                   (try clear hb)
                   (try clear hb2)
                   (try clear hk)
                   (try clear hi)
                   refine hK.out _ _ ⟨(blk_cell BK224.out 0).trans rfl, (blk_cell BK224.out 1).trans rfl⟩ (fun hHeld => ?_)
                   clear hK K
                   refine norm_ (a' := ?_) ?_ ?_
                   rotate_left
                   · show Act.put _ (some 31) _ = _
                     simp only [Act.put, List.setIfInBounds_toArray, List.set_cons_zero, List.set_cons_succ, i64_w, i32_w]
                     rfl
                   refine pure_ (i := 16) (N := some 32) (v := ?_) (a' := ?_) #[true, true, true, true, true, true, true, true, true, true, true, true, true, true, true, true, true] rfl rfl (any_of HT_.out (by kernel_rfl)) (fun _ _ _ h => h) (Or.inl ⟨by rfl, ?_⟩) ?_ ?_; rotate_left 4
                   rotate_left; iterate 1 (rotate_left; (intro w'; go_simp; with_reducible rfl); rotate_left; (simp only [Act.put, List.setIfInBounds_toArray, List.set_cons_zero, List.set_cons_succ, i64_w, i32_w]; rfl))
                   refine done_ (done_of HT_.out (by kernel_rfl)) ?_
                   try go_wp2
                   go_ret
                   exact ⟨by first | rfl | (simp [errW_none, errW_some] <;> rfl) | (simp [*, errW_none, errW_some] <;> rfl), by repeat (first | (with_reducible first | exact HB.out | apply below_alloc | apply pw_below_drewN | apply below_drew1 | refine below_set ?_ GE224.out) | exact HB.out)⟩
                 · replace c14 := Bool.eq_false_iff.mpr c14
                   subst c14
                   have H1 : (impl_ValidPlaces.l0 k1 l0 l0 (l0.length : Int) (wrap64 (x11_1 + 1))) = some r := by rw [if_neg (show ¬ (false = true) by decide)] at H; exact H
                   clear H
                   have H := H1
                   clear H1
                   have H' := Aside0.mk H
                   clear H
                   have p223 : 0 ≤ (x11_1 : Int) := of_decide_eq_true (by first | (with_reducible assumption) | assumption)
                   have q223 : x11_1 < (l0.length : Int) := of_decide_eq_true (by first | (with_reducible assumption) | assumption)
                   obtain ⟨ad223, e223, hx223_0, hx223_1⟩ := at_T88 HR0.out x11_1 p223 q223
                   cases e223
                   replace hx223_0 := (HB.out.cell (World.block_lt_of_cell? w _ hx223_0)).trans hx223_0
                   replace hx223_1 := (HB.out.cell (World.block_lt_of_cell? w _ hx223_1)).trans hx223_1
                   replace p223 := eq_true p223
                   replace q223 := eq_true q223
                   try go_wp2_with (first | ((with_reducible refine gate_dst (N := 4) rfl ?_); refine box_event ?hg (N := 4) ?hd (cs := #[.int .i64 0, .int .i64 0]) (t := 88) ?hr ?_; (case hd => rfl); (case hg => rfl); (case hr => first | (go_simp; done) | (go_simp; rfl)); intro gb224 hg w21 hbox hb; have n0_ := Aside0.mk (below_step (by repeat (first | (with_reducible first | exact HB.out | apply below_alloc | apply pw_below_drewN | apply below_drew1) | exact HB.out)) hb); have n1_ := Aside0.mk (hbox); have n2_ := Aside0.mk ((by rw [hg]; exact (below_size (by repeat (first | (with_reducible first | exact HB.out | apply below_alloc | apply pw_below_drewN | apply below_drew1) | exact HB.out))) : w.heap.size ≤ gb224)); have n3_ := Aside0.mk ((by rw [hg]; exact (below_size (by repeat (first | (with_reducible first | exact HB.out | apply below_alloc | apply pw_below_drewN | apply below_drew1) | exact HB.out))) : w.heap.size ≤ gb224)); clear HB; have HB := n0_; have BK224 := n1_; have GW224 := n2_; have GE224 := n3_; clear n0_ n1_ n2_ n3_; clear hb hbox hg; have hcz22_0 : w21.cell? ⟨gb224, 0, none⟩ = some (.int .i64 0) := (blk_cell BK224.out 0).trans rfl; have hcz22_1 : w21.cell? ⟨gb224, 1, none⟩ = some (.int .i64 0) := (blk_cell BK224.out 1).trans rfl; have hfz22_0 := blk_frozen BK224.out 0; have hfz22_1 := blk_frozen BK224.out 1))
                   have n0_ : Aside0 (((w21.setCell ⟨gb224, 0, none⟩ (.int .i64 ((rd_T88 l0 x11_1).f0))).setCell ⟨gb224, 1, none⟩ (.int .i64 ((rd_T88 l0 x11_1).f1))).heap[gb224]? = some (.cells #[.int .i64 ((rd_T88 l0 x11_1).f0), .int .i64 ((rd_T88 l0 x11_1).f1)] 88 (0, 0))) := ⟨by (with_reducible repeat (first | refine blk_drewN ?_ _ | refine blk_drew ?_ | refine blk_alloc ?_ _)); refine blk_put (cs := #[.int .i64 ((rd_T88 l0 x11_1).f0), .int .i64 0]) ?_ 1 _ rfl; (with_reducible repeat (first | refine blk_drewN ?_ _ | refine blk_drew ?_ | refine blk_alloc ?_ _)); refine blk_put (cs := #[.int .i64 0, .int .i64 0]) ?_ 0 _ rfl; (with_reducible repeat (first | refine blk_drewN ?_ _ | refine blk_drew ?_ | refine blk_alloc ?_ _)); exact BK224.out⟩
                   have n1_ : Aside0 (Below w.heap.size w ((w21.setCell ⟨gb224, 0, none⟩ (.int .i64 ((rd_T88 l0 x11_1).f0))).setCell ⟨gb224, 1, none⟩ (.int .i64 ((rd_T88 l0 x11_1).f1)))) := ⟨by repeat (first | (with_reducible first | exact HB.out | apply below_alloc | apply pw_below_drewN | apply below_drew1 | refine below_set ?_ GE224.out) | exact HB.out)⟩
                   (try clear BK224)
                   (try clear HB)
                   generalize ((w21.setCell ⟨gb224, 0, none⟩ (.int .i64 ((rd_T88 l0 x11_1).f0))).setCell ⟨gb224, 1, none⟩ (.int .i64 ((rd_T88 l0 x11_1).f1))) = w23 at n0_ n1_ ⊢
                   have BK224 := n0_
                   have HB := n1_
                   clear n0_ n1_
                   have n0_ := Aside0.mk (blk_drew BK224.out)
                   have n1_ := Aside0.mk (below_drew1 HB.out)
                   clear BK224
                   clear HB
                   have BK224 := n0_
                   have HB := n1_
                   clear n0_ n1_
                   refine start_ (n := 17) (S := fun w' => w'.cell? ⟨gb224, 0, none⟩ = some (.int .i64 ((rd_T88 l0 x11_1).f0)) ∧ w'.cell? ⟨gb224, 1, none⟩ = some (.int .i64 ((rd_T88 l0 x11_1).f1))) (ds := []) #[false, false, false, false, false, false, false, false, false, false, false, false, false, false, false, false, false] (by kernel_rfl) rfl rfl ⟨(blk_cell BK224.out 0).trans rfl, (blk_cell BK224.out 1).trans rfl⟩ (fun hHeld => ?_); refine with_tabW impl_ValidPlaces.tab6 impl_ValidPlaces.bits6 (fun HT_ HW_ => ?_)
                   generalize w23.drew = w24 at BK224 HB hHeld ⊢
                   refine pure_ (i := 0) (N := some 16) (v := ?_) (a' := ?_) #[true, false, false, false, false, false, false, false, false, false, false, false, false, false, false, false, false] rfl rfl (any_of HT_.out (by kernel_rfl)) (fun _ _ _ h => h) (Or.inl ⟨by rfl, ?_⟩) ?_ ?_; rotate_left 4
                   rotate_left; iterate 1 (rotate_left; (intro w'; go_simp; with_reducible rfl); rotate_left; (simp only [Act.put, List.setIfInBounds_toArray, List.set_cons_zero, List.set_cons_succ, i64_w, i32_w]; rfl))
                   refine take_ (i := 1) (N := some 17) (v := ?_) (a' := ?_) #[true, true, false, false, false, false, false, false, false, false, false, false, false, false, false, false, false] rfl rfl (take_ofW HT_.out HW_.out (by kernel_rfl)) (fun _ _ _ h => h) (Or.inl ⟨by rfl, ?_⟩) hHeld ?_ ?_
                   rotate_left
                   · rintro w' ⟨s0, s1⟩
                     go_simp
                     with_reducible rfl
                   rotate_left
                   · simp only [Act.put, List.setIfInBounds_toArray, List.set_cons_zero, List.set_cons_succ, i64_w, i32_w]
                     rfl
                   refine one_ (i := 2) (N := some 18) #[true, true, true, false, false, false, false, false, false, false, false, false, false, false, false, false, false] rfl rfl (one_of HT_.out (by kernel_rfl)) (by decide) (fun K hK => ?_)
                   refine goes_ Try.func83 (by kernel_rfl) rfl #[.int .i64 ((rd_T88 l0 x11_1).f0)] (by rfl) rfl rfl (by (try simp only [List.map_toArray, List.map_cons, List.map_nil]); first | done | rfl | (simp only [List.length_drop, List.length_take]; rfl)) ?_
                   with_reducible refine (impl_isCoordinate.calls ((rd_T88 l0 x11_1).f0) true _ A7.out).mono ?_
                   rintro e w' ⟨rfl, ⟨nd, rfl⟩⟩
                   refine ⟨_, rfl, ?_⟩
                   refine hK.out _ _ ⟨(blk_cell BK224.out 0).trans rfl, (blk_cell BK224.out 1).trans rfl⟩ (fun hHeld => ?_)
                   clear hK K
                   refine norm_ (a' := ?_) ?_ ?_
                   rotate_left
                   · show Act.put _ (some 18) _ = _
                     simp only [Act.put, List.setIfInBounds_toArray, List.set_cons_zero, List.set_cons_succ, i64_w, i32_w]
                     rfl
                   refine pure_ (i := 3) (N := some 19) (v := ?_) (a' := ?_) #[true, true, true, true, false, false, false, false, false, false, false, false, false, false, false, false, false] rfl rfl (any_of HT_.out (by kernel_rfl)) (fun _ _ _ h => h) (Or.inl ⟨by rfl, ?_⟩) ?_ ?_; rotate_left 4
                   refine pure_ (i := 4) (N := some 20) (v := ?_) (a' := ?_) #[true, true, true, true, true, false, false, false, false, false, false, false, false, false, false, false, false] rfl rfl (any_of HT_.out (by kernel_rfl)) (fun _ _ _ h => h) (Or.inl ⟨by rfl, ?_⟩) ?_ ?_; rotate_left 4
                   rotate_left; iterate 2 (rotate_left; (intro w'; go_simp; with_reducible rfl); rotate_left; (simp only [Act.put, List.setIfInBounds_toArray, List.set_cons_zero, List.set_cons_succ, i64_w, i32_w]; rfl))
                   refine pure_ (i := 5) (N := some 21) (v := ?_) (a' := ?_) #[true, true, true, true, true, true, false, false, false, false, false, false, false, false, false, false, false] rfl rfl (any_of HT_.out (by kernel_rfl)) (fun _ _ _ h => h) (Or.inl ⟨by rfl, ?_⟩) ?_ ?_; rotate_left; (intro w'; go_simp; with_reducible rfl); rotate_left; (simp only [Act.put, List.setIfInBounds_toArray, List.set_cons_zero, List.set_cons_succ, i64_w, i32_w]; rfl)
                   refine take_ (i := 6) (N := some 22) (v := ?_) (a' := ?_) #[true, true, true, true, true, true, true, false, false, false, false, false, false, false, false, false, false] rfl rfl (take_ofW HT_.out HW_.out (by kernel_rfl)) (fun _ _ _ h => h) (Or.inl ⟨by rfl, ?_⟩) hHeld ?_ ?_
                   rotate_left
                   · rintro w' ⟨s0, s1⟩
                     go_simp
                     with_reducible rfl
                   rotate_left
                   · simp only [Act.put, List.setIfInBounds_toArray, List.set_cons_zero, List.set_cons_succ, i64_w, i32_w]
                     rfl
                   refine one_ (i := 7) (N := some 23) #[true, true, true, true, true, true, true, true, false, false, false, false, false, false, false, false, false] rfl rfl (one_of HT_.out (by kernel_rfl)) (by decide) (fun K hK => ?_)
                   refine goes_ Try.func83 (by kernel_rfl) rfl #[.int .i64 ((rd_T88 l0 x11_1).f1)] (by rfl) rfl rfl (by (try simp only [List.map_toArray, List.map_cons, List.map_nil]); first | done | rfl | (simp only [List.length_drop, List.length_take]; rfl)) ?_
                   with_reducible refine (impl_isCoordinate.calls ((rd_T88 l0 x11_1).f1) true _ A9.out).mono ?_
                   rintro e w' ⟨rfl, ⟨nd, rfl⟩⟩
                   refine ⟨_, rfl, ?_⟩
                   have q25 : (x11_1 : Int) ≤ ((l0.length : Int) : Int) := of_decide_eq_true (by first | (with_reducible assumption) | assumption)
                   obtain ⟨i025, hi025, _, hsz25, _⟩ := info_parts info88
                   have hroom25 : l0.length ≤ c0 := HC0.out
                   have hC25 : Kd.C k88 _ (some ad223) l0.length l0 := HR0.out
                   have hcut25 := cut_to (P := Try.prog) 48 88 .i64 Try.underlying48 hi025 (some ad223) l0.length c0 x11_1 (of_decide_eq_true (by first | (with_reducible assumption) | assumption)) q25 hroom25
                   have hr25 := Kd.C_take (m := (x11_1 : Int).toNat) hC25 (by omega)
                   have hy25 : y227.length = (x11_1 : Int).toNat := (by rw [Ny227.out, List.length_take]; omega)
                   rw [← Ny227.out] at hr25
                   rw [← hy25] at hcut25
                   have HR230 := Aside0.mk hr25
                   have HC230 := Aside0.mk (show y227.length ≤ c0 from by omega)
                   clear hr25 hC25 hroom25 hi025 hsz25
                   have KY25 := Aside0.mk hy25
                   clear hy25
                   replace q25 := eq_true q25
                   refine hK.out _ _ ⟨(blk_cell BK224.out 0).trans rfl, (blk_cell BK224.out 1).trans rfl⟩ (fun hHeld => ?_)
                   clear hK K
                   refine norm_ (a' := ?_) ?_ ?_
                   rotate_left
                   · show Act.put _ (some 23) _ = _
                     simp only [Act.put, List.setIfInBounds_toArray, List.set_cons_zero, List.set_cons_succ, i64_w, i32_w]
                     rfl
                   refine pure_ (i := 8) (N := some 24) (v := ?_) (a' := ?_) #[true, true, true, true, true, true, true, true, true, false, false, false, false, false, false, false, false] rfl rfl (any_of HT_.out (by kernel_rfl)) (fun _ _ _ h => h) (Or.inl ⟨by rfl, ?_⟩) ?_ ?_; rotate_left; (intro w'; go_simp; with_reducible rfl); rotate_left; (simp only [Act.put, List.setIfInBounds_toArray, List.set_cons_zero, List.set_cons_succ, i64_w, i32_w]; rfl)
                   refine pure_ (i := 9) (N := some 25) (v := ?_) (a' := ?_) #[true, true, true, true, true, true, true, true, true, true, false, false, false, false, false, false, false] rfl rfl (any_of HT_.out (by kernel_rfl)) (fun _ _ _ h => h) (Or.inl ⟨by rfl, ?_⟩) ?_ ?_; rotate_left 4
                   refine pure_ (i := 10) (N := some 26) (v := ?_) (a' := ?_) #[true, true, true, true, true, true, true, true, true, true, true, false, false, false, false, false, false] rfl rfl (any_of HT_.out (by kernel_rfl)) (fun _ _ _ h => h) (Or.inl ⟨by rfl, ?_⟩) ?_ ?_; rotate_left 4
                   rotate_left; iterate 2 (rotate_left; (intro w'; go_simp; with_reducible rfl); rotate_left; (simp only [Act.put, List.setIfInBounds_toArray, List.set_cons_zero, List.set_cons_succ, i64_w, i32_w]; rfl))
                   refine pure_ (i := 11) (N := some 27) (v := ?_) (a' := ?_) #[true, true, true, true, true, true, true, true, true, true, true, true, false, false, false, false, false] rfl rfl (any_of HT_.out (by kernel_rfl)) (fun _ _ _ h => h) (Or.inl ⟨by rfl, ?_⟩) ?_ ?_; rotate_left; (intro w'; go_simp; with_reducible rfl); rotate_left; (simp only [Act.put, List.setIfInBounds_toArray, List.set_cons_zero, List.set_cons_succ, i64_w, i32_w]; rfl)
                   refine pure_ (i := 12) (N := some 28) (v := ?_) (a' := ?_) #[true, true, true, true, true, true, true, true, true, true, true, true, true, false, false, false, false] rfl rfl (any_of HT_.out (by kernel_rfl)) (fun _ _ _ h => h) (Or.inl ⟨by rfl, ?_⟩) ?_ ?_; rotate_left; (intro w'; go_simp; with_reducible rfl); rotate_left; (simp only [Act.put, List.setIfInBounds_toArray, List.set_cons_zero, List.set_cons_succ, i64_w, i32_w]; rfl)
                   refine pure_ (i := 13) (N := some 29) (v := ?_) (a' := ?_) #[true, true, true, true, true, true, true, true, true, true, true, true, true, true, false, false, false] rfl rfl (any_of HT_.out (by kernel_rfl)) (fun _ _ _ h => h) (Or.inl ⟨by rfl, ?_⟩) ?_ ?_; rotate_left; (intro w'; go_simp; with_reducible rfl); rotate_left; (simp only [Act.put, List.setIfInBounds_toArray, List.set_cons_zero, List.set_cons_succ, i64_w, i32_w]; rfl)
                   refine take_ (i := 14) (N := some 30) (v := ?_) (a' := ?_) #[true, true, true, true, true, true, true, true, true, true, true, true, true, true, true, false, false] rfl rfl (take_ofW HT_.out HW_.out (by kernel_rfl)) (fun _ _ _ h => h) (Or.inl ⟨by rfl, ?_⟩) hHeld ?_ ?_
                   rotate_left
                   · rintro w' ⟨s0, s1⟩
                     go_simp
                     with_reducible rfl
                   rotate_left
                   · simp only [Act.put, List.setIfInBounds_toArray, List.set_cons_zero, List.set_cons_succ, i64_w, i32_w]
                     rfl
                   refine one_ (i := 15) (N := some 31) #[true, true, true, true, true, true, true, true, true, true, true, true, true, true, true, true, false] rfl rfl (one_of HT_.out (by kernel_rfl)) (by decide) (fun K hK => ?_)
                   refine goes_ Try.func84 (by kernel_rfl) rfl #[.slice (some ad223) y227.length c0, .agg #[.int .i64 ((rd_T88 l0 x11_1).f0), .int .i64 ((rd_T88 l0 x11_1).f1)]] (by rfl) rfl rfl (by (try simp only [List.map_toArray, List.map_cons, List.map_nil]); first | done | rfl | (simp only [List.length_drop, List.length_take]; rfl)) ?_
                   with_reducible refine (impl_Place_84.calls k1 _ _ y227 ((rd_T88 l0 x11_1).f0) ((rd_T88 l0 x11_1).f1) false _ ?side1 ?side2 A13.out).mono ?_
                   (case side1 => repeat (first | exact (Kd.C_below HR230.out (by repeat (first | (with_reducible first | exact HB.out | apply below_alloc | apply pw_below_drewN | apply below_drew1 | refine below_set ?_ GE224.out) | exact HB.out))) | (with_reducible refine Kd.C_alloc ?_ _) | (with_reducible refine Kd.C_drewN ?_ _) | (with_reducible refine Kd.C_drew ?_)))
                   (case side2 => exact HC230.out)
                   rintro e w26 ⟨rfl, hb⟩
                   refine ⟨_, rfl, ?_⟩
                   have n0_ := Aside0.mk (blk_below (g := gb224) (o := .cells #[.int .i64 ((rd_T88 l0 x11_1).f0), .int .i64 ((rd_T88 l0 x11_1).f1)] 88 (0, 0)) (by (with_reducible repeat (first | refine blk_drewN ?_ _ | refine blk_drew ?_ | refine blk_alloc ?_ _)); exact BK224.out) hb)
                   have n1_ := Aside0.mk (below_step (by repeat (first | (with_reducible first | exact HB.out | apply below_alloc | apply pw_below_drewN | apply below_drew1 | refine below_set ?_ GE224.out) | exact HB.out)) hb)
                   clear BK224
                   clear HB
                   have BK224 := n0_
                   have HB := n1_
                   clear n0_ n1_
                   (try clear hb)
                   (try clear hb2)
                   (try clear hk)
                   (try clear hi)
                   refine hK.out _ _ ⟨(blk_cell BK224.out 0).trans rfl, (blk_cell BK224.out 1).trans rfl⟩ (fun hHeld => ?_)
                   clear hK K
                   refine norm_ (a' := ?_) ?_ ?_
                   rotate_left
                   · show Act.put _ (some 31) _ = _
                     simp only [Act.put, List.setIfInBounds_toArray, List.set_cons_zero, List.set_cons_succ, i64_w, i32_w]
                     rfl
                   refine pure_ (i := 16) (N := some 32) (v := ?_) (a' := ?_) #[true, true, true, true, true, true, true, true, true, true, true, true, true, true, true, true, true] rfl rfl (any_of HT_.out (by kernel_rfl)) (fun _ _ _ h => h) (Or.inl ⟨by rfl, ?_⟩) ?_ ?_; rotate_left 4
                   rotate_left; iterate 1 (rotate_left; (intro w'; go_simp; with_reducible rfl); rotate_left; (simp only [Act.put, List.setIfInBounds_toArray, List.set_cons_zero, List.set_cons_succ, i64_w, i32_w]; rfl))
                   refine done_ (done_of HT_.out (by kernel_rfl)) ?_
                   try go_wp2
                   go_roundg k1
                   case measure => have := HK1.out; omega
                   case rel => exact ⟨(wrap64 (x11_1 + 1)), (by first | rfl | (simp; done) | (simp [*]; done)), H', ⟨by have := HK1.out; omega⟩, ⟨by repeat (first | (with_reducible first | exact HB.out | apply below_alloc | apply pw_below_drewN | apply below_drew1 | refine below_set ?_ GE224.out) | exact HB.out)⟩⟩
               · rw [if_neg c12] at H
                 exact absurd H (by simp)
             · replace c10 := Bool.eq_false_iff.mpr c10
               subst c10
               have H1 : (some false) = some r := by rw [if_neg (show ¬ (false = true) by decide)] at H; exact H
               clear H
               have H := H1
               clear H1
               obtain rfl := Option.some.inj H
               have p223 : 0 ≤ (x11_1 : Int) := of_decide_eq_true (by first | (with_reducible assumption) | assumption)
               have q223 : x11_1 < (l0.length : Int) := of_decide_eq_true (by first | (with_reducible assumption) | assumption)
               obtain ⟨ad223, e223, hx223_0, hx223_1⟩ := at_T88 HR0.out x11_1 p223 q223
               cases e223
               replace hx223_0 := (HB.out.cell (World.block_lt_of_cell? w _ hx223_0)).trans hx223_0
               replace hx223_1 := (HB.out.cell (World.block_lt_of_cell? w _ hx223_1)).trans hx223_1
               replace p223 := eq_true p223
               replace q223 := eq_true q223
               try go_wp2_with (first | ((with_reducible refine gate_dst (N := 4) rfl ?_); refine box_event ?hg (N := 4) ?hd (cs := #[.int .i64 0, .int .i64 0]) (t := 88) ?hr ?_; (case hd => rfl); (case hg => rfl); (case hr => first | (go_simp; done) | (go_simp; rfl)); intro gb224 hg w27 hbox hb; have n0_ := Aside0.mk (below_step (by repeat (first | (with_reducible first | exact HB.out | apply below_alloc | apply pw_below_drewN | apply below_drew1) | exact HB.out)) hb); have n1_ := Aside0.mk (hbox); have n2_ := Aside0.mk ((by rw [hg]; exact (below_size (by repeat (first | (with_reducible first | exact HB.out | apply below_alloc | apply pw_below_drewN | apply below_drew1) | exact HB.out))) : w.heap.size ≤ gb224)); have n3_ := Aside0.mk ((by rw [hg]; exact (below_size (by repeat (first | (with_reducible first | exact HB.out | apply below_alloc | apply pw_below_drewN | apply below_drew1) | exact HB.out))) : w.heap.size ≤ gb224)); clear HB; have HB := n0_; have BK224 := n1_; have GW224 := n2_; have GE224 := n3_; clear n0_ n1_ n2_ n3_; clear hb hbox hg; have hcz28_0 : w27.cell? ⟨gb224, 0, none⟩ = some (.int .i64 0) := (blk_cell BK224.out 0).trans rfl; have hcz28_1 : w27.cell? ⟨gb224, 1, none⟩ = some (.int .i64 0) := (blk_cell BK224.out 1).trans rfl; have hfz28_0 := blk_frozen BK224.out 0; have hfz28_1 := blk_frozen BK224.out 1))
               have n0_ : Aside0 (((w27.setCell ⟨gb224, 0, none⟩ (.int .i64 ((rd_T88 l0 x11_1).f0))).setCell ⟨gb224, 1, none⟩ (.int .i64 ((rd_T88 l0 x11_1).f1))).heap[gb224]? = some (.cells #[.int .i64 ((rd_T88 l0 x11_1).f0), .int .i64 ((rd_T88 l0 x11_1).f1)] 88 (0, 0))) := ⟨by (with_reducible repeat (first | refine blk_drewN ?_ _ | refine blk_drew ?_ | refine blk_alloc ?_ _)); refine blk_put (cs := #[.int .i64 ((rd_T88 l0 x11_1).f0), .int .i64 0]) ?_ 1 _ rfl; (with_reducible repeat (first | refine blk_drewN ?_ _ | refine blk_drew ?_ | refine blk_alloc ?_ _)); refine blk_put (cs := #[.int .i64 0, .int .i64 0]) ?_ 0 _ rfl; (with_reducible repeat (first | refine blk_drewN ?_ _ | refine blk_drew ?_ | refine blk_alloc ?_ _)); exact BK224.out⟩
               have n1_ : Aside0 (Below w.heap.size w ((w27.setCell ⟨gb224, 0, none⟩ (.int .i64 ((rd_T88 l0 x11_1).f0))).setCell ⟨gb224, 1, none⟩ (.int .i64 ((rd_T88 l0 x11_1).f1)))) := ⟨by repeat (first | (with_reducible first | exact HB.out | apply below_alloc | apply pw_below_drewN | apply below_drew1 | refine below_set ?_ GE224.out) | exact HB.out)⟩
               (try clear BK224)
               (try clear HB)
               generalize ((w27.setCell ⟨gb224, 0, none⟩ (.int .i64 ((rd_T88 l0 x11_1).f0))).setCell ⟨gb224, 1, none⟩ (.int .i64 ((rd_T88 l0 x11_1).f1))) = w29 at n0_ n1_ ⊢
               have BK224 := n0_
               have HB := n1_
               clear n0_ n1_
               have n0_ := Aside0.mk (blk_drew BK224.out)
               have n1_ := Aside0.mk (below_drew1 HB.out)
               clear BK224
               clear HB
               have BK224 := n0_
               have HB := n1_
               clear n0_ n1_
               refine start_ (n := 17) (S := fun w' => w'.cell? ⟨gb224, 0, none⟩ = some (.int .i64 ((rd_T88 l0 x11_1).f0)) ∧ w'.cell? ⟨gb224, 1, none⟩ = some (.int .i64 ((rd_T88 l0 x11_1).f1))) (ds := []) #[false, false, false, false, false, false, false, false, false, false, false, false, false, false, false, false, false] (by kernel_rfl) rfl rfl ⟨(blk_cell BK224.out 0).trans rfl, (blk_cell BK224.out 1).trans rfl⟩ (fun hHeld => ?_); refine with_tabW impl_ValidPlaces.tab6 impl_ValidPlaces.bits6 (fun HT_ HW_ => ?_)
               generalize w29.drew = w30 at BK224 HB hHeld ⊢
               refine pure_ (i := 0) (N := some 16) (v := ?_) (a' := ?_) #[true, false, false, false, false, false, false, false, false, false, false, false, false, false, false, false, false] rfl rfl (any_of HT_.out (by kernel_rfl)) (fun _ _ _ h => h) (Or.inl ⟨by rfl, ?_⟩) ?_ ?_; rotate_left 4
               rotate_left; iterate 1 (rotate_left; (intro w'; go_simp; with_reducible rfl); rotate_left; (simp only [Act.put, List.setIfInBounds_toArray, List.set_cons_zero, List.set_cons_succ, i64_w, i32_w]; rfl))
               refine take_ (i := 1) (N := some 17) (v := ?_) (a' := ?_) #[true, true, false, false, false, false, false, false, false, false, false, false, false, false, false, false, false] rfl rfl (take_ofW HT_.out HW_.out (by kernel_rfl)) (fun _ _ _ h => h) (Or.inl ⟨by rfl, ?_⟩) hHeld ?_ ?_
               rotate_left
               · rintro w' ⟨s0, s1⟩
                 go_simp
                 with_reducible rfl
               rotate_left
               · simp only [Act.put, List.setIfInBounds_toArray, List.set_cons_zero, List.set_cons_succ, i64_w, i32_w]
                 rfl
               refine one_ (i := 2) (N := some 18) #[true, true, true, false, false, false, false, false, false, false, false, false, false, false, false, false, false] rfl rfl (one_of HT_.out (by kernel_rfl)) (by decide) (fun K hK => ?_)
               refine goes_ Try.func83 (by kernel_rfl) rfl #[.int .i64 ((rd_T88 l0 x11_1).f0)] (by rfl) rfl rfl (by (try simp only [List.map_toArray, List.map_cons, List.map_nil]); first | done | rfl | (simp only [List.length_drop, List.length_take]; rfl)) ?_
               with_reducible refine (impl_isCoordinate.calls ((rd_T88 l0 x11_1).f0) true _ A7.out).mono ?_
               rintro e w' ⟨rfl, ⟨nd, rfl⟩⟩
               refine ⟨_, rfl, ?_⟩
               refine hK.out _ _ ⟨(blk_cell BK224.out 0).trans rfl, (blk_cell BK224.out 1).trans rfl⟩ (fun hHeld => ?_)
               clear hK K
               refine norm_ (a' := ?_) ?_ ?_
               rotate_left
               · show Act.put _ (some 18) _ = _
                 simp only [Act.put, List.setIfInBounds_toArray, List.set_cons_zero, List.set_cons_succ, i64_w, i32_w]
                 rfl
               refine pure_ (i := 3) (N := some 19) (v := ?_) (a' := ?_) #[true, true, true, true, false, false, false, false, false, false, false, false, false, false, false, false, false] rfl rfl (any_of HT_.out (by kernel_rfl)) (fun _ _ _ h => h) (Or.inl ⟨by rfl, ?_⟩) ?_ ?_; rotate_left 4
               refine pure_ (i := 4) (N := some 20) (v := ?_) (a' := ?_) #[true, true, true, true, true, false, false, false, false, false, false, false, false, false, false, false, false] rfl rfl (any_of HT_.out (by kernel_rfl)) (fun _ _ _ h => h) (Or.inl ⟨by rfl, ?_⟩) ?_ ?_; rotate_left 4
               rotate_left; iterate 2 (rotate_left; (intro w'; go_simp; with_reducible rfl); rotate_left; (simp only [Act.put, List.setIfInBounds_toArray, List.set_cons_zero, List.set_cons_succ, i64_w, i32_w]; rfl))
               refine pure_ (i := 5) (N := some 21) (v := ?_) (a' := ?_) #[true, true, true, true, true, true, false, false, false, false, false, false, false, false, false, false, false] rfl rfl (any_of HT_.out (by kernel_rfl)) (fun _ _ _ h => h) (Or.inl ⟨by rfl, ?_⟩) ?_ ?_; rotate_left; (intro w'; go_simp; with_reducible rfl); rotate_left; (simp only [Act.put, List.setIfInBounds_toArray, List.set_cons_zero, List.set_cons_succ, i64_w, i32_w]; rfl)
               refine take_ (i := 6) (N := some 22) (v := ?_) (a' := ?_) #[true, true, true, true, true, true, true, false, false, false, false, false, false, false, false, false, false] rfl rfl (take_ofW HT_.out HW_.out (by kernel_rfl)) (fun _ _ _ h => h) (Or.inl ⟨by rfl, ?_⟩) hHeld ?_ ?_
               rotate_left
               · rintro w' ⟨s0, s1⟩
                 go_simp
                 with_reducible rfl
               rotate_left
               · simp only [Act.put, List.setIfInBounds_toArray, List.set_cons_zero, List.set_cons_succ, i64_w, i32_w]
                 rfl
               refine one_ (i := 7) (N := some 23) #[true, true, true, true, true, true, true, true, false, false, false, false, false, false, false, false, false] rfl rfl (one_of HT_.out (by kernel_rfl)) (by decide) (fun K hK => ?_)
               refine goes_ Try.func83 (by kernel_rfl) rfl #[.int .i64 ((rd_T88 l0 x11_1).f1)] (by rfl) rfl rfl (by (try simp only [List.map_toArray, List.map_cons, List.map_nil]); first | done | rfl | (simp only [List.length_drop, List.length_take]; rfl)) ?_
               with_reducible refine (impl_isCoordinate.calls ((rd_T88 l0 x11_1).f1) false _ A9.out).mono ?_
               rintro e w' ⟨rfl, ⟨nd, rfl⟩⟩
               refine ⟨_, rfl, ?_⟩
               refine hK.out _ _ ⟨(blk_cell BK224.out 0).trans rfl, (blk_cell BK224.out 1).trans rfl⟩ (fun hHeld => ?_)
               clear hK K
               refine norm_ (a' := ?_) ?_ ?_
               rotate_left
               · show Act.put _ (some 23) _ = _
                 simp only [Act.put, List.setIfInBounds_toArray, List.set_cons_zero, List.set_cons_succ, i64_w, i32_w]
                 rfl
               refine pure_ (i := 8) (N := some 24) (v := ?_) (a' := ?_) #[true, true, true, true, true, true, true, true, true, false, false, false, false, false, false, false, false] rfl rfl (any_of HT_.out (by kernel_rfl)) (fun _ _ _ h => h) (Or.inl ⟨by rfl, ?_⟩) ?_ ?_; rotate_left; (intro w'; go_simp; with_reducible rfl); rotate_left; (simp only [Act.put, List.setIfInBounds_toArray, List.set_cons_zero, List.set_cons_succ, i64_w, i32_w]; rfl)
               refine pure_ (i := 9) (N := some 25) (v := ?_) (a' := ?_) #[true, true, true, true, true, true, true, true, true, true, false, false, false, false, false, false, false] rfl rfl (any_of HT_.out (by kernel_rfl)) (fun _ _ _ h => h) (Or.inl ⟨by rfl, ?_⟩) ?_ ?_; rotate_left 4
               refine pure_ (i := 10) (N := some 26) (v := ?_) (a' := ?_) #[true, true, true, true, true, true, true, true, true, true, true, false, false, false, false, false, false] rfl rfl (any_of HT_.out (by kernel_rfl)) (fun _ _ _ h => h) (Or.inl ⟨by rfl, ?_⟩) ?_ ?_; rotate_left 4
               rotate_left; iterate 2 (rotate_left; (intro w'; go_simp; with_reducible rfl); rotate_left; (simp only [Act.put, List.setIfInBounds_toArray, List.set_cons_zero, List.set_cons_succ, i64_w, i32_w]; rfl))
               refine pure_ (i := 11) (N := some 27) (v := undef) (a' := ?_) #[true, true, true, true, true, true, true, true, true, true, true, true, false, false, false, false, false] rfl rfl (any_of HT_.out (by kernel_rfl)) (fun _ _ _ h => h) (Or.inr ⟨by rfl, rfl⟩) ?_ ?_
               rotate_left
               · simp only [Act.put, List.setIfInBounds_toArray, List.set_cons_zero, List.set_cons_succ, i64_w, i32_w]
                 rfl
               refine pure_ (i := 12) (N := some 28) (v := undef) (a' := ?_) #[true, true, true, true, true, true, true, true, true, true, true, true, true, false, false, false, false] rfl rfl (any_of HT_.out (by kernel_rfl)) (fun _ _ _ h => h) (Or.inr ⟨by rfl, rfl⟩) ?_ ?_
               rotate_left
               · simp only [Act.put, List.setIfInBounds_toArray, List.set_cons_zero, List.set_cons_succ, i64_w, i32_w]
                 rfl
               refine pure_ (i := 13) (N := some 29) (v := undef) (a' := ?_) #[true, true, true, true, true, true, true, true, true, true, true, true, true, true, false, false, false] rfl rfl (any_of HT_.out (by kernel_rfl)) (fun _ _ _ h => h) (Or.inr ⟨by rfl, rfl⟩) ?_ ?_
               rotate_left
               · simp only [Act.put, List.setIfInBounds_toArray, List.set_cons_zero, List.set_cons_succ, i64_w, i32_w]
                 rfl
               refine pure_ (i := 14) (N := some 30) (v := undef) (a' := ?_) #[true, true, true, true, true, true, true, true, true, true, true, true, true, true, true, false, false] rfl rfl (any_of HT_.out (by kernel_rfl)) (fun _ _ _ h => h) (Or.inr ⟨by rfl, rfl⟩) ?_ ?_
               rotate_left
               · simp only [Act.put, List.setIfInBounds_toArray, List.set_cons_zero, List.set_cons_succ, i64_w, i32_w]
                 rfl
               refine pure_ (i := 15) (N := some 31) (v := undef) (a' := ?_) #[true, true, true, true, true, true, true, true, true, true, true, true, true, true, true, true, false] rfl rfl (any_of HT_.out (by kernel_rfl)) (fun _ _ _ h => h) (Or.inr ⟨by rfl, rfl⟩) ?_ ?_
               rotate_left
               · simp only [Act.put, List.setIfInBounds_toArray, List.set_cons_zero, List.set_cons_succ, i64_w, i32_w]
                 rfl
               refine pure_ (i := 16) (N := some 32) (v := ?_) (a' := ?_) #[true, true, true, true, true, true, true, true, true, true, true, true, true, true, true, true, true] rfl rfl (any_of HT_.out (by kernel_rfl)) (fun _ _ _ h => h) (Or.inl ⟨by rfl, ?_⟩) ?_ ?_; rotate_left 4
               rotate_left; iterate 1 (rotate_left; (intro w'; go_simp; with_reducible rfl); rotate_left; (simp only [Act.put, List.setIfInBounds_toArray, List.set_cons_zero, List.set_cons_succ, i64_w, i32_w]; rfl))
               refine done_ (done_of HT_.out (by kernel_rfl)) ?_
               try go_wp2
               go_ret
               exact ⟨by first | rfl | (simp [errW_none, errW_some] <;> rfl) | (simp [*, errW_none, errW_some] <;> rfl), by repeat (first | (with_reducible first | exact HB.out | apply below_alloc | apply pw_below_drewN | apply below_drew1 | refine below_set ?_ GE224.out) | exact HB.out)⟩
           · replace c8 := Bool.eq_false_iff.mpr c8
             subst c8
             have H1 : (some false) = some r := by rw [if_neg (show ¬ (false = true) by decide)] at H; exact H
             clear H
             have H := H1
             clear H1
             obtain rfl := Option.some.inj H
             have p223 : 0 ≤ (x11_1 : Int) := of_decide_eq_true (by first | (with_reducible assumption) | assumption)
             have q223 : x11_1 < (l0.length : Int) := of_decide_eq_true (by first | (with_reducible assumption) | assumption)
             obtain ⟨ad223, e223, hx223_0, hx223_1⟩ := at_T88 HR0.out x11_1 p223 q223
             cases e223
             replace hx223_0 := (HB.out.cell (World.block_lt_of_cell? w _ hx223_0)).trans hx223_0
             replace hx223_1 := (HB.out.cell (World.block_lt_of_cell? w _ hx223_1)).trans hx223_1
             replace p223 := eq_true p223
             replace q223 := eq_true q223
             try go_wp2_with (first | ((with_reducible refine gate_dst (N := 4) rfl ?_); refine box_event ?hg (N := 4) ?hd (cs := #[.int .i64 0, .int .i64 0]) (t := 88) ?hr ?_; (case hd => rfl); (case hg => rfl); (case hr => first | (go_simp; done) | (go_simp; rfl)); intro gb224 hg w31 hbox hb; have n0_ := Aside0.mk (below_step (by repeat (first | (with_reducible first | exact HB.out | apply below_alloc | apply pw_below_drewN | apply below_drew1) | exact HB.out)) hb); have n1_ := Aside0.mk (hbox); have n2_ := Aside0.mk ((by rw [hg]; exact (below_size (by repeat (first | (with_reducible first | exact HB.out | apply below_alloc | apply pw_below_drewN | apply below_drew1) | exact HB.out))) : w.heap.size ≤ gb224)); have n3_ := Aside0.mk ((by rw [hg]; exact (below_size (by repeat (first | (with_reducible first | exact HB.out | apply below_alloc | apply pw_below_drewN | apply below_drew1) | exact HB.out))) : w.heap.size ≤ gb224)); clear HB; have HB := n0_; have BK224 := n1_; have GW224 := n2_; have GE224 := n3_; clear n0_ n1_ n2_ n3_; clear hb hbox hg; have hcz32_0 : w31.cell? ⟨gb224, 0, none⟩ = some (.int .i64 0) := (blk_cell BK224.out 0).trans rfl; have hcz32_1 : w31.cell? ⟨gb224, 1, none⟩ = some (.int .i64 0) := (blk_cell BK224.out 1).trans rfl; have hfz32_0 := blk_frozen BK224.out 0; have hfz32_1 := blk_frozen BK224.out 1))
             have n0_ : Aside0 (((w31.setCell ⟨gb224, 0, none⟩ (.int .i64 ((rd_T88 l0 x11_1).f0))).setCell ⟨gb224, 1, none⟩ (.int .i64 ((rd_T88 l0 x11_1).f1))).heap[gb224]? = some (.cells #[.int .i64 ((rd_T88 l0 x11_1).f0), .int .i64 ((rd_T88 l0 x11_1).f1)] 88 (0, 0))) := ⟨by (with_reducible repeat (first | refine blk_drewN ?_ _ | refine blk_drew ?_ | refine blk_alloc ?_ _)); refine blk_put (cs := #[.int .i64 ((rd_T88 l0 x11_1).f0), .int .i64 0]) ?_ 1 _ rfl; (with_reducible repeat (first | refine blk_drewN ?_ _ | refine blk_drew ?_ | refine blk_alloc ?_ _)); refine blk_put (cs := #[.int .i64 0, .int .i64 0]) ?_ 0 _ rfl; (with_reducible repeat (first | refine blk_drewN ?_ _ | refine blk_drew ?_ | refine blk_alloc ?_ _)); exact BK224.out⟩
             have n1_ : Aside0 (Below w.heap.size w ((w31.setCell ⟨gb224, 0, none⟩ (.int .i64 ((rd_T88 l0 x11_1).f0))).setCell ⟨gb224, 1, none⟩ (.int .i64 ((rd_T88 l0 x11_1).f1)))) := ⟨by repeat (first | (with_reducible first | exact HB.out | apply below_alloc | apply pw_below_drewN | apply below_drew1 | refine below_set ?_ GE224.out) | exact HB.out)⟩
             (try clear BK224)
             (try clear HB)
             generalize ((w31.setCell ⟨gb224, 0, none⟩ (.int .i64 ((rd_T88 l0 x11_1).f0))).setCell ⟨gb224, 1, none⟩ (.int .i64 ((rd_T88 l0 x11_1).f1))) = w33 at n0_ n1_ ⊢
             have BK224 := n0_
             have HB := n1_
             clear n0_ n1_
             have n0_ := Aside0.mk (blk_drew BK224.out)
             have n1_ := Aside0.mk (below_drew1 HB.out)
             clear BK224
             clear HB
             have BK224 := n0_
             have HB := n1_
             clear n0_ n1_
             refine start_ (n := 17) (S := fun w' => w'.cell? ⟨gb224, 0, none⟩ = some (.int .i64 ((rd_T88 l0 x11_1).f0)) ∧ w'.cell? ⟨gb224, 1, none⟩ = some (.int .i64 ((rd_T88 l0 x11_1).f1))) (ds := []) #[false, false, false, false, false, false, false, false, false, false, false, false, false, false, false, false, false] (by kernel_rfl) rfl rfl ⟨(blk_cell BK224.out 0).trans rfl, (blk_cell BK224.out 1).trans rfl⟩ (fun hHeld => ?_); refine with_tabW impl_ValidPlaces.tab6 impl_ValidPlaces.bits6 (fun HT_ HW_ => ?_)
             generalize w33.drew = w34 at BK224 HB hHeld ⊢
             refine pure_ (i := 0) (N := some 16) (v := ?_) (a' := ?_) #[true, false, false, false, false, false, false, false, false, false, false, false, false, false, false, false, false] rfl rfl (any_of HT_.out (by kernel_rfl)) (fun _ _ _ h => h) (Or.inl ⟨by rfl, ?_⟩) ?_ ?_; rotate_left 4
             rotate_left; iterate 1 (rotate_left; (intro w'; go_simp; with_reducible rfl); rotate_left; (simp only [Act.put, List.setIfInBounds_toArray, List.set_cons_zero, List.set_cons_succ, i64_w, i32_w]; rfl))
             refine take_ (i := 1) (N := some 17) (v := ?_) (a' := ?_) #[true, true, false, false, false, false, false, false, false, false, false, false, false, false, false, false, false] rfl rfl (take_ofW HT_.out HW_.out (by kernel_rfl)) (fun _ _ _ h => h) (Or.inl ⟨by rfl, ?_⟩) hHeld ?_ ?_
             rotate_left
             · rintro w' ⟨s0, s1⟩
               go_simp
               with_reducible rfl
             rotate_left
             · simp only [Act.put, List.setIfInBounds_toArray, List.set_cons_zero, List.set_cons_succ, i64_w, i32_w]
               rfl
             refine one_ (i := 2) (N := some 18) #[true, true, true, false, false, false, false, false, false, false, false, false, false, false, false, false, false] rfl rfl (one_of HT_.out (by kernel_rfl)) (by decide) (fun K hK => ?_)
             refine goes_ Try.func83 (by kernel_rfl) rfl #[.int .i64 ((rd_T88 l0 x11_1).f0)] (by rfl) rfl rfl (by (try simp only [List.map_toArray, List.map_cons, List.map_nil]); first | done | rfl | (simp only [List.length_drop, List.length_take]; rfl)) ?_
             with_reducible refine (impl_isCoordinate.calls ((rd_T88 l0 x11_1).f0) false _ A7.out).mono ?_
             rintro e w' ⟨rfl, ⟨nd, rfl⟩⟩
             refine ⟨_, rfl, ?_⟩
             refine hK.out _ _ ⟨(blk_cell BK224.out 0).trans rfl, (blk_cell BK224.out 1).trans rfl⟩ (fun hHeld => ?_)
             clear hK K
             refine norm_ (a' := ?_) ?_ ?_
             rotate_left
             · show Act.put _ (some 18) _ = _
               simp only [Act.put, List.setIfInBounds_toArray, List.set_cons_zero, List.set_cons_succ, i64_w, i32_w]
               rfl
             refine pure_ (i := 3) (N := some 19) (v := ?_) (a' := ?_) #[true, true, true, true, false, false, false, false, false, false, false, false, false, false, false, false, false] rfl rfl (any_of HT_.out (by kernel_rfl)) (fun _ _ _ h => h) (Or.inl ⟨by rfl, ?_⟩) ?_ ?_; rotate_left 4
             refine pure_ (i := 4) (N := some 20) (v := ?_) (a' := ?_) #[true, true, true, true, true, false, false, false, false, false, false, false, false, false, false, false, false] rfl rfl (any_of HT_.out (by kernel_rfl)) (fun _ _ _ h => h) (Or.inl ⟨by rfl, ?_⟩) ?_ ?_; rotate_left 4
             rotate_left; iterate 2 (rotate_left; (intro w'; go_simp; with_reducible rfl); rotate_left; (simp only [Act.put, List.setIfInBounds_toArray, List.set_cons_zero, List.set_cons_succ, i64_w, i32_w]; rfl))
             refine pure_ (i := 5) (N := some 21) (v := undef) (a' := ?_) #[true, true, true, true, true, true, false, false, false, false, false, false, false, false, false, false, false] rfl rfl (any_of HT_.out (by kernel_rfl)) (fun _ _ _ h => h) (Or.inr ⟨by rfl, rfl⟩) ?_ ?_
             rotate_left
             · simp only [Act.put, List.setIfInBounds_toArray, List.set_cons_zero, List.set_cons_succ, i64_w, i32_w]
               rfl
             refine pure_ (i := 6) (N := some 22) (v := undef) (a' := ?_) #[true, true, true, true, true, true, true, false, false, false, false, false, false, false, false, false, false] rfl rfl (any_of HT_.out (by kernel_rfl)) (fun _ _ _ h => h) (Or.inr ⟨by rfl, rfl⟩) ?_ ?_
             rotate_left
             · simp only [Act.put, List.setIfInBounds_toArray, List.set_cons_zero, List.set_cons_succ, i64_w, i32_w]
               rfl
             refine pure_ (i := 7) (N := some 23) (v := undef) (a' := ?_) #[true, true, true, true, true, true, true, true, false, false, false, false, false, false, false, false, false] rfl rfl (any_of HT_.out (by kernel_rfl)) (fun _ _ _ h => h) (Or.inr ⟨by rfl, rfl⟩) ?_ ?_
             rotate_left
             · simp only [Act.put, List.setIfInBounds_toArray, List.set_cons_zero, List.set_cons_succ, i64_w, i32_w]
               rfl
             refine pure_ (i := 8) (N := some 24) (v := undef) (a' := ?_) #[true, true, true, true, true, true, true, true, true, false, false, false, false, false, false, false, false] rfl rfl (any_of HT_.out (by kernel_rfl)) (fun _ _ _ h => h) (Or.inr ⟨by rfl, rfl⟩) ?_ ?_
             rotate_left
             · simp only [Act.put, List.setIfInBounds_toArray, List.set_cons_zero, List.set_cons_succ, i64_w, i32_w]
               rfl
             refine pure_ (i := 9) (N := some 25) (v := ?_) (a' := ?_) #[true, true, true, true, true, true, true, true, true, true, false, false, false, false, false, false, false] rfl rfl (any_of HT_.out (by kernel_rfl)) (fun _ _ _ h => h) (Or.inl ⟨by rfl, ?_⟩) ?_ ?_; rotate_left 4
             refine pure_ (i := 10) (N := some 26) (v := ?_) (a' := ?_) #[true, true, true, true, true, true, true, true, true, true, true, false, false, false, false, false, false] rfl rfl (any_of HT_.out (by kernel_rfl)) (fun _ _ _ h => h) (Or.inl ⟨by rfl, ?_⟩) ?_ ?_; rotate_left 4
             rotate_left; iterate 2 (rotate_left; (intro w'; go_simp; with_reducible rfl); rotate_left; (simp only [Act.put, List.setIfInBounds_toArray, List.set_cons_zero, List.set_cons_succ, i64_w, i32_w]; rfl))
             refine pure_ (i := 11) (N := some 27) (v := undef) (a' := ?_) #[true, true, true, true, true, true, true, true, true, true, true, true, false, false, false, false, false] rfl rfl (any_of HT_.out (by kernel_rfl)) (fun _ _ _ h => h) (Or.inr ⟨by rfl, rfl⟩) ?_ ?_
             rotate_left
             · simp only [Act.put, List.setIfInBounds_toArray, List.set_cons_zero, List.set_cons_succ, i64_w, i32_w]
               rfl
             refine pure_ (i := 12) (N := some 28) (v := undef) (a' := ?_) #[true, true, true, true, true, true, true, true, true, true, true, true, true, false, false, false, false] rfl rfl (any_of HT_.out (by kernel_rfl)) (fun _ _ _ h => h) (Or.inr ⟨by rfl, rfl⟩) ?_ ?_
             rotate_left
             · simp only [Act.put, List.setIfInBounds_toArray, List.set_cons_zero, List.set_cons_succ, i64_w, i32_w]
               rfl
             refine pure_ (i := 13) (N := some 29) (v := undef) (a' := ?_) #[true, true, true, true, true, true, true, true, true, true, true, true, true, true, false, false, false] rfl rfl (any_of HT_.out (by kernel_rfl)) (fun _ _ _ h => h) (Or.inr ⟨by rfl, rfl⟩) ?_ ?_
             rotate_left
             · simp only [Act.put, List.setIfInBounds_toArray, List.set_cons_zero, List.set_cons_succ, i64_w, i32_w]
               rfl
             refine pure_ (i := 14) (N := some 30) (v := undef) (a' := ?_) #[true, true, true, true, true, true, true, true, true, true, true, true, true, true, true, false, false] rfl rfl (any_of HT_.out (by kernel_rfl)) (fun _ _ _ h => h) (Or.inr ⟨by rfl, rfl⟩) ?_ ?_
             rotate_left
             · simp only [Act.put, List.setIfInBounds_toArray, List.set_cons_zero, List.set_cons_succ, i64_w, i32_w]
               rfl
             refine pure_ (i := 15) (N := some 31) (v := undef) (a' := ?_) #[true, true, true, true, true, true, true, true, true, true, true, true, true, true, true, true, false] rfl rfl (any_of HT_.out (by kernel_rfl)) (fun _ _ _ h => h) (Or.inr ⟨by rfl, rfl⟩) ?_ ?_
             rotate_left
             · simp only [Act.put, List.setIfInBounds_toArray, List.set_cons_zero, List.set_cons_succ, i64_w, i32_w]
               rfl
             refine pure_ (i := 16) (N := some 32) (v := ?_) (a' := ?_) #[true, true, true, true, true, true, true, true, true, true, true, true, true, true, true, true, true] rfl rfl (any_of HT_.out (by kernel_rfl)) (fun _ _ _ h => h) (Or.inl ⟨by rfl, ?_⟩) ?_ ?_; rotate_left 4
             rotate_left; iterate 1 (rotate_left; (intro w'; go_simp; with_reducible rfl); rotate_left; (simp only [Act.put, List.setIfInBounds_toArray, List.set_cons_zero, List.set_cons_succ, i64_w, i32_w]; rfl))
             refine done_ (done_of HT_.out (by kernel_rfl)) ?_
             try go_wp2
             go_ret
             exact ⟨by first | rfl | (simp [errW_none, errW_some] <;> rfl) | (simp [*, errW_none, errW_some] <;> rfl), by repeat (first | (with_reducible first | exact HB.out | apply below_alloc | apply pw_below_drewN | apply below_drew1 | refine below_set ?_ GE224.out) | exact HB.out)⟩
         · rw [if_neg c6] at H
           exact absurd H (by simp)
       · rw [if_neg c5] at H
         exact absurd H (by simp)
     · rw [if_neg c4] at H
       have c4b0 : decide (x11_1 < (l0.length : Int)) = false := decide_eq_false c4
       clear c4
       obtain rfl := Option.some.inj H
       go_wp2
       go_ret
       exact ⟨by first | rfl | (simp [errW_none, errW_some] <;> rfl) | (simp [*, errW_none, errW_some] <;> rfl), by repeat (first | (with_reducible first | exact HB.out | apply below_alloc | apply pw_below_drewN | apply below_drew1) | exact HB.out)⟩
 · replace c3 := Bool.eq_false_iff.mpr c3
   subst c3
   have H1 : (some false) = some r := by rw [if_neg (show ¬ (false = true) by decide)] at H; exact H
   clear H
   have H := H1
   clear H1
   obtain rfl := Option.some.inj H
   go_enter Try.func60, Try.ntmps60
   go_wp2_with (first | ((with_reducible refine gate_callee (f := 82) rfl ?_); refine goesL_ (some 7) rfl rfl Try.func82 (by kernel_rfl) rfl #[.int .i64 (l0.length : Int)] rfl (by (try simp only [List.map_toArray, List.map_cons, List.map_nil]); first | done | rfl | (simp only [List.length_drop, List.length_take]; rfl)) ?_; (with_reducible refine (impl_isCount.calls (l0.length : Int) false _ A2.out).mono ?_); rintro e w' ⟨rfl, ⟨nd, rfl⟩⟩; refine ⟨_, rfl, ?_⟩))
   go_ret
   exact ⟨by first | rfl | (simp [errW_none, errW_some] <;> rfl) | (simp [*, errW_none, errW_some] <;> rfl), by repeat (first | (with_reducible first | exact HB.out | apply below_alloc | apply pw_below_drewN | apply below_drew1) | exact HB.out)⟩

/-! ### impl_isIndex: function 61 -/
def impl_isIndex.f (a0 : Int) : Option (Bool) := (impl_within.f a0 0 1000000).bind fun t232 => (some t232)
set_option maxHeartbeats 8000000 in
set_option maxRecDepth 100000 in
theorem impl_isIndex.calls (a0 : Int) (r : Bool) (w : World) (h : impl_isIndex.f a0 = some r) :
 Calls Try.prog 61 #[.int .i64 a0] w fun e w' => e = .returned (.bool r) ∧ Drawn0 w w' := by
 have H : ((impl_within.f a0 0 1000000).bind fun t232 => (some t232)) = some r := h
 clear h
 replace H := Option.bind_eq_some_iff.mp H
 obtain ⟨t232, A20, H⟩ := H
 replace H : (some t232) = some r := H
 have A2 := Aside0.mk A20
 clear A20
 obtain rfl := Option.some.inj H
 go_enter Try.func61, Try.ntmps61
 go_wp2_with (first | ((with_reducible refine gate_callee (f := 39) rfl ?_); refine goesL_ (some 4) rfl rfl Try.func39 (by kernel_rfl) rfl #[.int .i64 a0, .int .i64 0, .int .i64 1000000] rfl (by (try simp only [List.map_toArray, List.map_cons, List.map_nil]); first | done | rfl | (simp only [List.length_drop, List.length_take]; rfl)) ?_; (with_reducible refine (impl_within.calls a0 0 1000000 t232 _ A2.out).mono ?_); rintro e w' ⟨rfl, ⟨nd, rfl⟩⟩; refine ⟨_, rfl, ?_⟩))
 go_ret
 exact ⟨by first | rfl | (simp; done) | (simp [*]; done), by repeat (first | exact Drawn0.refl _ | apply Drawn0.step)⟩

/-! ### impl_ScaleComplex: function 85 -/
def impl_ScaleComplex.f (a0 : C64) (a1 : Nat) : Option C64 := some (scaleC a0 a1)
set_option maxHeartbeats 8000000 in
set_option maxRecDepth 100000 in
theorem impl_ScaleComplex.calls (a0 : C64) (a1 : Nat) (r : C64) (w : World) (h : impl_ScaleComplex.f a0 a1 = some r) :
 Calls Try.prog 85 #[.complex .f32 a0.re a0.im, .float .f32 a1] w fun e w' => ∃ q : C64, SameC q r ∧ e = .returned (.complex .f32 q.re q.im) ∧ Below w.heap.size w w' := by
 obtain rfl := Option.some.inj h
 have hm := fun t x y W => run_any (P := Try.prog) (op := .mul) (.inr (.inr (.inl rfl))) t .f32 x y W
 have HB := Below.refl w.heap.size w
 go_enter Try.func85, Try.ntmps85
 go_wp2
 go_ret
 exact ⟨⟨_, _⟩, ⟨same_rv (.refl _) (.refl _) _, same_rv (.refl _) (.refl _) _⟩, rfl, by repeat (first | exact HB | apply pw_below_drewN | apply below_drew1)⟩

/-! ### impl_nextSeed: function 129 -/
def impl_nextSeed.f (a0 : Int) : Option (Int) := some (Int.tmod (wrap64 ((wrap64 (1103515245 * a0)) + 12345)) 2147483648)
set_option maxHeartbeats 8000000 in
set_option maxRecDepth 100000 in
theorem impl_nextSeed.calls (a0 : Int) (r : Int) (w : World) (h : impl_nextSeed.f a0 = some r) :
 Calls Try.prog 129 #[.int .i64 a0] w fun e w' => e = .returned (.int .i64 r) ∧ Drawn0 w w' := by
 have H : (some (Int.tmod (wrap64 ((wrap64 (1103515245 * a0)) + 12345)) 2147483648)) = some r := h
 clear h
 obtain rfl := Option.some.inj H
 go_enter Try.func129, Try.ntmps129
 go_wp2
 go_ret
 exact ⟨by first | rfl | (simp; done) | (simp [*]; done), by repeat (first | exact Drawn0.refl _ | apply Drawn0.step)⟩

/-! ### impl_draw: function 112 -/
def impl_draw.f (a0 : Int) (a1 : Int) : Option (Int) := (impl_nextSeed.f (Int.tmod (wrap64 (a0 + (wrap64 (40503 * a1)))) 2147483648)).bind fun t233 => ((impl_nextSeed.f t233).bind fun t234 => (some (wrap64 (Int.tdiv t234 65536))))
set_option maxHeartbeats 8000000 in
set_option maxRecDepth 100000 in
theorem impl_draw.calls (a0 : Int) (a1 : Int) (r : Int) (w : World) (h : impl_draw.f a0 a1 = some r) :
 Calls Try.prog 112 #[.int .i64 a0, .int .i64 a1] w fun e w' => e = .returned (.int .i64 r) ∧ Drawn0 w w' := by
 have H : ((impl_nextSeed.f (Int.tmod (wrap64 (a0 + (wrap64 (40503 * a1)))) 2147483648)).bind fun t233 => ((impl_nextSeed.f t233).bind fun t234 => (some (wrap64 (Int.tdiv t234 65536))))) = some r := h
 clear h
 replace H := Option.bind_eq_some_iff.mp H
 obtain ⟨t233, A30, H⟩ := H
 replace H : ((impl_nextSeed.f t233).bind fun t234 => (some (wrap64 (Int.tdiv t234 65536)))) = some r := H
 have A3 := Aside0.mk A30
 clear A30
 replace H := Option.bind_eq_some_iff.mp H
 obtain ⟨t234, A40, H⟩ := H
 replace H : (some (wrap64 (Int.tdiv t234 65536))) = some r := H
 have A4 := Aside0.mk A40
 clear A40
 obtain rfl := Option.some.inj H
 go_enter Try.func112, Try.ntmps112
 go_wp2_with (first | ((with_reducible refine gate_callee (f := 129) rfl ?_); refine goesL_ (some 10) rfl rfl Try.func129 (by kernel_rfl) rfl #[.int .i64 (Int.tmod (wrap64 (a0 + (wrap64 (40503 * a1)))) 2147483648)] rfl (by (try simp only [List.map_toArray, List.map_cons, List.map_nil]); first | done | rfl | (simp only [List.length_drop, List.length_take]; rfl)) ?_; (with_reducible refine (impl_nextSeed.calls (Int.tmod (wrap64 (a0 + (wrap64 (40503 * a1)))) 2147483648) t233 _ A3.out).mono ?_); rintro e w' ⟨rfl, ⟨nd, rfl⟩⟩; refine ⟨_, rfl, ?_⟩) | ((with_reducible refine gate_callee (f := 129) rfl ?_); refine goesL_ (some 11) rfl rfl Try.func129 (by kernel_rfl) rfl #[.int .i64 t233] rfl (by (try simp only [List.map_toArray, List.map_cons, List.map_nil]); first | done | rfl | (simp only [List.length_drop, List.length_take]; rfl)) ?_; (with_reducible refine (impl_nextSeed.calls t233 t234 _ A4.out).mono ?_); rintro e w' ⟨rfl, ⟨nd, rfl⟩⟩; refine ⟨_, rfl, ?_⟩))
 go_ret
 exact ⟨by first | rfl | (simp; done) | (simp [*]; done), by repeat (first | exact Drawn0.refl _ | apply Drawn0.step)⟩

/-! ### impl_half: function 113 -/
def impl_half.f (a0 : Int) : Option (Nat) := if (Int.tmod a0 2) = 1 then (some 3204448256) else (some 1056964608)
set_option maxHeartbeats 8000000 in
set_option maxRecDepth 100000 in
theorem impl_half.calls (a0 : Int) (r : Nat) (w : World) (h : impl_half.f a0 = some r) :
 Calls Try.prog 113 #[.int .i64 a0] w fun e w' => e = .returned (.float .f32 r) ∧ Drawn0 w w' := by
 have H : (if (Int.tmod a0 2) = 1 then (some 3204448256) else (some 1056964608)) = some r := h
 clear h
 by_cases c2 : (Int.tmod a0 2) = 1
 · rw [if_pos c2] at H
   have c2b0 : ((Int.tmod a0 2) == 1) = true := beq_iff_eq.mpr c2
   have c2b1 : ((Int.tmod a0 2) != 1) = false := bne_eq_false_iff_eq.mpr c2
   clear c2
   obtain rfl := Option.some.inj H
   go_enter Try.func113, Try.ntmps113
   go_wp2
   go_ret
   exact ⟨by first | rfl | (simp; done) | (simp [*]; done), by repeat (first | exact Drawn0.refl _ | apply Drawn0.step)⟩
 · rw [if_neg c2] at H
   have c2b0 : ((Int.tmod a0 2) == 1) = false := beq_eq_false_iff_ne.mpr c2
   have c2b1 : ((Int.tmod a0 2) != 1) = true := bne_iff_ne.mpr c2
   obtain rfl := Option.some.inj H
   go_enter Try.func113, Try.ntmps113
   go_wp2
   go_ret
   exact ⟨by first | rfl | (simp; done) | (simp [*]; done), by repeat (first | exact Drawn0.refl _ | apply Drawn0.step)⟩

/-! ### impl_symbol: function 86 -/
def impl_symbol.f (a0 : Int) (a1 : Int) : Option (C64) := (impl_draw.f a0 (wrap64 (2 * a1))).bind fun t235 => ((impl_half.f (wrap64 (Int.tdiv t235 16384))).bind fun t236 => ((impl_half.f (wrap64 (Int.tdiv t235 8192))).bind fun t237 => (some (⟨t236, t237⟩ : C64))))
set_option maxHeartbeats 8000000 in
set_option maxRecDepth 100000 in
theorem impl_symbol.calls (a0 : Int) (a1 : Int) (r : C64) (w : World) (h : impl_symbol.f a0 a1 = some r) :
 Calls Try.prog 86 #[.int .i64 a0, .int .i64 a1] w fun e w' => e = .returned (.complex .f32 r.re r.im) ∧ Below w.heap.size w w' := by
 have HB := Aside0.mk (Below.refl w.heap.size w)
 have H : ((impl_draw.f a0 (wrap64 (2 * a1))).bind fun t235 => ((impl_half.f (wrap64 (Int.tdiv t235 16384))).bind fun t236 => ((impl_half.f (wrap64 (Int.tdiv t235 8192))).bind fun t237 => (some (⟨t236, t237⟩ : C64))))) = some r := h
 clear h
 replace H := Option.bind_eq_some_iff.mp H
 obtain ⟨t235, A30, H⟩ := H
 replace H : ((impl_half.f (wrap64 (Int.tdiv t235 16384))).bind fun t236 => ((impl_half.f (wrap64 (Int.tdiv t235 8192))).bind fun t237 => (some (⟨t236, t237⟩ : C64)))) = some r := H
 have A3 := Aside0.mk A30
 clear A30
 replace H := Option.bind_eq_some_iff.mp H
 obtain ⟨t236, A40, H⟩ := H
 replace H : ((impl_half.f (wrap64 (Int.tdiv t235 8192))).bind fun t237 => (some (⟨t236, t237⟩ : C64))) = some r := H
 have A4 := Aside0.mk A40
 clear A40
 replace H := Option.bind_eq_some_iff.mp H
 obtain ⟨t237, A50, H⟩ := H
 replace H : (some (⟨t236, t237⟩ : C64)) = some r := H
 have A5 := Aside0.mk A50
 clear A50
 obtain rfl := Option.some.inj H
 go_enter Try.func86, Try.ntmps86
 go_wp2_with (first | ((with_reducible refine gate_callee (f := 112) rfl ?_); refine goesL_ (some 9) rfl rfl Try.func112 (by kernel_rfl) rfl #[.int .i64 a0, .int .i64 (wrap64 (2 * a1))] rfl (by (try simp only [List.map_toArray, List.map_cons, List.map_nil]); first | done | rfl | (simp only [List.length_drop, List.length_take]; rfl)) ?_; (with_reducible refine (impl_draw.calls a0 (wrap64 (2 * a1)) t235 _ A3.out).mono ?_); rintro e w' ⟨rfl, ⟨nd, rfl⟩⟩; refine ⟨_, rfl, ?_⟩) | ((with_reducible refine gate_callee (f := 113) rfl ?_); refine goesL_ (some 12) rfl rfl Try.func113 (by kernel_rfl) rfl #[.int .i64 (wrap64 (Int.tdiv t235 16384))] rfl (by (try simp only [List.map_toArray, List.map_cons, List.map_nil]); first | done | rfl | (simp only [List.length_drop, List.length_take]; rfl)) ?_; (with_reducible refine (impl_half.calls (wrap64 (Int.tdiv t235 16384)) t236 _ A4.out).mono ?_); rintro e w' ⟨rfl, ⟨nd, rfl⟩⟩; refine ⟨_, rfl, ?_⟩) | ((with_reducible refine gate_callee (f := 113) rfl ?_); refine goesL_ (some 15) rfl rfl Try.func113 (by kernel_rfl) rfl #[.int .i64 (wrap64 (Int.tdiv t235 8192))] rfl (by (try simp only [List.map_toArray, List.map_cons, List.map_nil]); first | done | rfl | (simp only [List.length_drop, List.length_take]; rfl)) ?_; (with_reducible refine (impl_half.calls (wrap64 (Int.tdiv t235 8192)) t237 _ A5.out).mono ?_); rintro e w' ⟨rfl, ⟨nd, rfl⟩⟩; refine ⟨_, rfl, ?_⟩))
 go_ret
 exact ⟨by first | rfl | (simp [errW_none, errW_some] <;> rfl) | (simp [*, errW_none, errW_some] <;> rfl), by repeat (first | (with_reducible first | exact HB.out | apply below_alloc | apply pw_below_drewN | apply below_drew1) | exact HB.out)⟩

/-! ### impl_isFinite64: function 130 -/
def impl_isFinite64.f (a0 : Nat) : Option (Bool) := if FOk .sub .f64 a0 a0 = true then (some (FloatKind.f64.format.order (fq .sub .f64 a0 a0) 0 == some .eq)) else (none)
set_option maxHeartbeats 8000000 in
set_option maxRecDepth 100000 in
theorem impl_isFinite64.calls (a0 : Nat) (r : Bool) (w : World) (h : impl_isFinite64.f a0 = some r) :
 Calls Try.prog 130 #[.float .f64 a0] w fun e w' => e = .returned (.bool r) ∧ Drawn0 w w' := by
 have H : (if FOk .sub .f64 a0 a0 = true then (some (FloatKind.f64.format.order (fq .sub .f64 a0 a0) 0 == some .eq)) else (none)) = some r := h
 clear h
 by_cases c2 : FOk .sub .f64 a0 a0 = true
 · rw [if_pos c2] at H
   have fe2 := fun t w => frun (P := Try.prog) c2 t w
   have c2b0 : FOk .sub .f64 a0 a0 = true := c2
   clear c2
   obtain rfl := Option.some.inj H
   go_enter Try.func130, Try.ntmps130
   go_wp2
   go_ret
   exact ⟨by first | rfl | (simp; done) | (simp [*]; done), by repeat (first | exact Drawn0.refl _ | apply Drawn0.step)⟩
 · rw [if_neg c2] at H
   exact absurd H (by simp)

-- NOT PRINTED: function 139 (math_Float64bits)

/-! ### math_Abs: function 132 -/
-- quiet
def math_Abs.f (a0 : Nat) : Option Nat := if a0 < 18446744073709551616 then some (a0 % 9223372036854775808) else none
theorem run_bits64 (x : Nat) (W : World) : (callFunc 139 #[.float .f64 x]).run Try.prog W = .ok (.value (.int .u64 (x : Int))) W := by
 rw [run_callFunc_extern (fn := Try.f139) (e := Extern.MathFloatBits.float64bits) Try.func139 (by kernel_rfl) (by kernel_rfl) (by kernel_rfl) (by kernel_rfl)]
 rfl
theorem run_frombits64 (n : Int) (W : World) : (callFunc 138 #[.int .u64 n]).run Try.prog W = .ok (.value (.float .f64 n.toNat)) W := by
 rw [run_callFunc_extern (fn := Try.f138) (e := Extern.MathFloatBits.float64frombits) Try.func138 (by kernel_rfl) (by kernel_rfl) (by kernel_rfl) (by kernel_rfl)]
 rfl
set_option maxRecDepth 100000 in
theorem math_Abs.calls (a0 : Nat) (r : Nat) (w : World) (h : math_Abs.f a0 = some r) :
 Calls Try.prog 132 #[.float .f64 a0] w fun e w' => e = .returned (.float .f64 r) ∧ Drawn0 w w' := by
 unfold math_Abs.f at h
 by_cases hl : a0 < 18446744073709551616
 · rw [if_pos hl] at h
   obtain rfl := Option.some.inj h
   have hb := fun W => run_bits64 a0 W
   have hf := fun n W => run_frombits64 n W
   have hu := Try.underlying125
   go_enter Try.func132, Try.ntmps132
   go_wp2
   go_ret
   have e := u64_andNot_nat a0 9223372036854775808 hl (by decide)
   have e2 : (18446744073709551615 - 9223372036854775808 : Nat) = 2 ^ 63 - 1 := by decide
   rw [e2, Nat.and_two_pow_sub_one_eq_mod] at e
   refine ⟨?_, ⟨⟨0, rfl⟩⟩⟩
   show Ending.returned (.float .f64 (bits .andNot .u64 (a0 : Int) 9223372036854775808).toNat) = _
   rw [show ((9223372036854775808 : Int)) = ((9223372036854775808 : Nat) : Int) from rfl, e]
   rfl
 · rw [if_neg hl] at h; cases h

/-! ### impl_fraction: function 133 -/
def impl_fraction.f (a0 : Nat) : Option (Nat) := if FI 65 2 .f64 a0 = true then (if FOk .sub .f64 a0 (floatOfInt .f64 (fi .f64 a0)) = true then (if (FloatKind.f64.format.order (fq .sub .f64 a0 (floatOfInt .f64 (fi .f64 a0))) 0 == some .lt) = true then (if FOk .add .f64 (fq .sub .f64 a0 (floatOfInt .f64 (fi .f64 a0))) 4607182418800017408 = true then (some (fq .add .f64 (fq .sub .f64 a0 (floatOfInt .f64 (fi .f64 a0))) 4607182418800017408)) else (none)) else (some (fq .sub .f64 a0 (floatOfInt .f64 (fi .f64 a0))))) else (none)) else (none)
set_option maxHeartbeats 8000000 in
set_option maxRecDepth 100000 in
theorem impl_fraction.calls (a0 : Nat) (r : Nat) (w : World) (h : impl_fraction.f a0 = some r) :
 Calls Try.prog 133 #[.float .f64 a0] w fun e w' => e = .returned (.float .f64 r) ∧ Drawn0 w w' := by
 have hu2 := Try.underlying2
 have hu65 := Try.underlying65
 have H : (if FI 65 2 .f64 a0 = true then (if FOk .sub .f64 a0 (floatOfInt .f64 (fi .f64 a0)) = true then (if (FloatKind.f64.format.order (fq .sub .f64 a0 (floatOfInt .f64 (fi .f64 a0))) 0 == some .lt) = true then (if FOk .add .f64 (fq .sub .f64 a0 (floatOfInt .f64 (fi .f64 a0))) 4607182418800017408 = true then (some (fq .add .f64 (fq .sub .f64 a0 (floatOfInt .f64 (fi .f64 a0))) 4607182418800017408)) else (none)) else (some (fq .sub .f64 a0 (floatOfInt .f64 (fi .f64 a0))))) else (none)) else (none)) = some r := h
 clear h
 by_cases c2 : FI 65 2 .f64 a0 = true
 · rw [if_pos c2] at H
   have fe2 := fun w => fruni (P := Try.prog) (src := 65) (dst := 2) (by kernel_rfl) Try.underlying2 c2 w
   have c2b0 : FI 65 2 .f64 a0 = true := c2
   clear c2
   by_cases c3 : FOk .sub .f64 a0 (floatOfInt .f64 (fi .f64 a0)) = true
   · rw [if_pos c3] at H
     have fe3 := fun t w => frun (P := Try.prog) c3 t w
     have c3b0 : FOk .sub .f64 a0 (floatOfInt .f64 (fi .f64 a0)) = true := c3
     clear c3
     by_cases c4 : (FloatKind.f64.format.order (fq .sub .f64 a0 (floatOfInt .f64 (fi .f64 a0))) 0 == some .lt) = true
     · rw [if_pos c4] at H
       have c4b0 : (FloatKind.f64.format.order (fq .sub .f64 a0 (floatOfInt .f64 (fi .f64 a0))) 0 == some .lt) = true := c4
       (try (have c4b1 : decide (FloatKind.f64.format.order (fq .sub .f64 a0 (floatOfInt .f64 (fi .f64 a0))) 0 = some .lt) = true := by simpa using c4))
       (try (have c4b2 : (FloatKind.f64.format.order (fq .sub .f64 a0 (floatOfInt .f64 (fi .f64 a0))) 0 == some .lt) = true := by simpa using c4))
       clear c4
       by_cases c5 : FOk .add .f64 (fq .sub .f64 a0 (floatOfInt .f64 (fi .f64 a0))) 4607182418800017408 = true
       · rw [if_pos c5] at H
         have fe5 := fun t w => frun (P := Try.prog) c5 t w
         have c5b0 : FOk .add .f64 (fq .sub .f64 a0 (floatOfInt .f64 (fi .f64 a0))) 4607182418800017408 = true := c5
         clear c5
         obtain rfl := Option.some.inj H
         go_enter Try.func133, Try.ntmps133
         go_wp2
         go_ret
         exact ⟨by first | rfl | (simp; done) | (simp [*]; done), by repeat (first | exact Drawn0.refl _ | apply Drawn0.step)⟩
       · rw [if_neg c5] at H
         exact absurd H (by simp)
     · rw [if_neg c4] at H
       have c4b0 : (FloatKind.f64.format.order (fq .sub .f64 a0 (floatOfInt .f64 (fi .f64 a0))) 0 == some .lt) = false := by simpa using c4
       (try (have c4b1 : decide (FloatKind.f64.format.order (fq .sub .f64 a0 (floatOfInt .f64 (fi .f64 a0))) 0 = some .lt) = false := by simpa using c4))
       (try (have c4b2 : (FloatKind.f64.format.order (fq .sub .f64 a0 (floatOfInt .f64 (fi .f64 a0))) 0 == some .lt) = false := by simpa using c4))
       (try (have c4b3 : ¬ (FloatKind.f64.format.order (fq .sub .f64 a0 (floatOfInt .f64 (fi .f64 a0))) 0 = some .lt) := by simpa using c4))
       clear c4
       obtain rfl := Option.some.inj H
       go_enter Try.func133, Try.ntmps133
       go_wp2
       go_ret
       exact ⟨by first | rfl | (simp; done) | (simp [*]; done), by repeat (first | exact Drawn0.refl _ | apply Drawn0.step)⟩
   · rw [if_neg c3] at H
     exact absurd H (by simp)
 · rw [if_neg c2] at H
   exact absurd H (by simp)

/-! ### impl_sine: function 134 -/
mutual
def impl_sine.j0 : Nat → Nat → Bool → Option (Nat)
 | 0, _, _ => none
 | k + 1, x3, x4 => if (FloatKind.f64.format.order x3 4598175219545276416 == some .gt) = true then (if FOk .sub .f64 4602678819172646912 x3 = true then (impl_sine.j1 k (fq .sub .f64 4602678819172646912 x3) x4) else (none)) else (impl_sine.j1 k x3 x4)
def impl_sine.j1 : Nat → Nat → Bool → Option (Nat)
 | 0, _, _ => none
 | k + 1, x3, x4 => if FOk .mul .f64 x3 4618760256179416344 = true then (if FOk .mul .f64 (fq .mul .f64 x3 4618760256179416344) (fq .mul .f64 x3 4618760256179416344) = true then (impl_sine.l0 k x4 (fq .mul .f64 x3 4618760256179416344) (fq .mul .f64 (fq .mul .f64 x3 4618760256179416344) (fq .mul .f64 x3 4618760256179416344)) 4607182418800017408 4620693217682128896) else (none)) else (none)
def impl_sine.l0 : Nat → Bool → Nat → Nat → Nat → Nat → Option (Nat)
 | 0, _, _, _, _, _ => none
 | k + 1, x4, x5, x6, x7, x8 => if (FloatKind.f64.format.order x8 4607182418800017408 == some .gt || FloatKind.f64.format.order x8 4607182418800017408 == some .eq) = true then (if FOk .mul .f64 x6 x7 = true then (if FOk .mul .f64 4611686018427387904 x8 = true then (if FOk .add .f64 (fq .mul .f64 4611686018427387904 x8) 4607182418800017408 = true then (if FOk .mul .f64 (fq .mul .f64 4611686018427387904 x8) (fq .add .f64 (fq .mul .f64 4611686018427387904 x8) 4607182418800017408) = true then (if FOk .quo .f64 (fq .mul .f64 x6 x7) (fq .mul .f64 (fq .mul .f64 4611686018427387904 x8) (fq .add .f64 (fq .mul .f64 4611686018427387904 x8) 4607182418800017408)) = true then (if FOk .sub .f64 4607182418800017408 (fq .quo .f64 (fq .mul .f64 x6 x7) (fq .mul .f64 (fq .mul .f64 4611686018427387904 x8) (fq .add .f64 (fq .mul .f64 4611686018427387904 x8) 4607182418800017408))) = true then (if FOk .sub .f64 x8 4607182418800017408 = true then (impl_sine.l0 k x4 x5 x6 (fq .sub .f64 4607182418800017408 (fq .quo .f64 (fq .mul .f64 x6 x7) (fq .mul .f64 (fq .mul .f64 4611686018427387904 x8) (fq .add .f64 (fq .mul .f64 4611686018427387904 x8) 4607182418800017408)))) (fq .sub .f64 x8 4607182418800017408)) else (none)) else (none)) else (none)) else (none)) else (none)) else (none)) else (none)) else (if x4 = true then (if FOk .mul .f64 x5 x7 = true then (some (Go.Op.negFloat .f64 (fq .mul .f64 x5 x7))) else (none)) else (if FOk .mul .f64 x5 x7 = true then (some (fq .mul .f64 x5 x7)) else (none)))
end
def impl_sine.f (k : Nat) (a0 : Nat) : Option (Nat) := (impl_fraction.f a0).bind fun t238 => (if (FloatKind.f64.format.order t238 4602678819172646912 == some .gt || FloatKind.f64.format.order t238 4602678819172646912 == some .eq) = true then (if FOk .sub .f64 t238 4602678819172646912 = true then (impl_sine.j0 k (fq .sub .f64 t238 4602678819172646912) (FloatKind.f64.format.order t238 4602678819172646912 == some .gt || FloatKind.f64.format.order t238 4602678819172646912 == some .eq)) else (none)) else (impl_sine.j0 k t238 (FloatKind.f64.format.order t238 4602678819172646912 == some .gt || FloatKind.f64.format.order t238 4602678819172646912 == some .eq)))
set_option maxHeartbeats 8000000 in
set_option maxRecDepth 100000 in
theorem impl_sine.calls (k : Nat) (a0 : Nat) (r : Nat) (w : World) (h : impl_sine.f k a0 = some r) :
 Calls Try.prog 134 #[.float .f64 a0] w fun e w' => e = .returned (.float .f64 r) ∧ Drawn0 w w' := by
 have H : ((impl_fraction.f a0).bind fun t238 => (if (FloatKind.f64.format.order t238 4602678819172646912 == some .gt || FloatKind.f64.format.order t238 4602678819172646912 == some .eq) = true then (if FOk .sub .f64 t238 4602678819172646912 = true then (impl_sine.j0 k (fq .sub .f64 t238 4602678819172646912) (FloatKind.f64.format.order t238 4602678819172646912 == some .gt || FloatKind.f64.format.order t238 4602678819172646912 == some .eq)) else (none)) else (impl_sine.j0 k t238 (FloatKind.f64.format.order t238 4602678819172646912 == some .gt || FloatKind.f64.format.order t238 4602678819172646912 == some .eq)))) = some r := h
 clear h
 replace H := Option.bind_eq_some_iff.mp H
 obtain ⟨t238, A20, H⟩ := H
 replace H : (if (FloatKind.f64.format.order t238 4602678819172646912 == some .gt || FloatKind.f64.format.order t238 4602678819172646912 == some .eq) = true then (if FOk .sub .f64 t238 4602678819172646912 = true then (impl_sine.j0 k (fq .sub .f64 t238 4602678819172646912) (FloatKind.f64.format.order t238 4602678819172646912 == some .gt || FloatKind.f64.format.order t238 4602678819172646912 == some .eq)) else (none)) else (impl_sine.j0 k t238 (FloatKind.f64.format.order t238 4602678819172646912 == some .gt || FloatKind.f64.format.order t238 4602678819172646912 == some .eq))) = some r := H
 have A2 := Aside0.mk A20
 clear A20
 have HC3 := Aside0.mk H
 clear H
 go_enter Try.func134, Try.ntmps134
 go_upto_if 13 with (first | ((with_reducible refine gate_callee (f := 133) rfl ?_); refine goesL_ (some 10) rfl rfl Try.func133 (by kernel_rfl) rfl #[.float .f64 a0] rfl (by (try simp only [List.map_toArray, List.map_cons, List.map_nil]); first | done | rfl | (simp only [List.length_drop, List.length_take]; rfl)) ?_; (with_reducible refine (impl_fraction.calls a0 t238 _ A2.out).mono ?_); rintro e w' ⟨rfl, ⟨nd, rfl⟩⟩; refine ⟨_, rfl, ?_⟩))
 (try simp only [Act.put, List.setIfInBounds_toArray, List.set_cons_zero, List.set_cons_succ])
 obtain ⟨b4_, hb4_⟩ : ∃ b_ : Bool, (FloatKind.f64.format.order t238 4602678819172646912 == some .gt || FloatKind.f64.format.order t238 4602678819172646912 == some .eq) = b_ := ⟨_, rfl⟩
 rw [hb4_]
 have HCb_ := HC3.out
 rw [hb4_] at HCb_
 clear HC3
 have HC3 := Aside0.mk HCb_
 clear HCb_ hb4_
 go_cut [3] (fun v3 wc => ∃ (kq : Nat) (x3_2 : Nat), v3 = .float .f64 x3_2 ∧ Aside0 (impl_sine.j0 kq x3_2 b4_ = some r) ∧ Aside0 (kq ≤ k) ∧ Drawn0 w wc)
 case first =>
  have H := HC3.out
  clear HC3
  by_cases c4 : b4_ = true
  · rw [if_pos c4] at H
    have c4b0 : b4_ = true := c4
    (try (have c4b1 : decide (FloatKind.f64.format.order t238 4602678819172646912 = some .gt || FloatKind.f64.format.order t238 4602678819172646912 == some .eq) = true := by simpa using c4))
    (try (have c4b2 : b4_ = true := by simpa using c4))
    clear c4
    subst c4b0
    by_cases c5 : FOk .sub .f64 t238 4602678819172646912 = true
    · rw [if_pos c5] at H
      have fe5 := fun t w => frun (P := Try.prog) c5 t w
      have c5b0 : FOk .sub .f64 t238 4602678819172646912 = true := c5
      clear c5
      have H' := Aside0.mk H
      clear H
      go_wp2
      go_meet
      case rel => exact ⟨_, (fq .sub .f64 t238 4602678819172646912), (by first | rfl | (simp; done) | (simp [*]; done)), H', ⟨by first | omega | exact Nat.le_refl _⟩, by repeat (first | exact Drawn0.refl _ | apply Drawn0.step)⟩
    · rw [if_neg c5] at H
      exact absurd H (by simp)
  · rw [if_neg c4] at H
    have c4b0 : b4_ = false := by simpa using c4
    (try (have c4b1 : decide (FloatKind.f64.format.order t238 4602678819172646912 = some .gt || FloatKind.f64.format.order t238 4602678819172646912 == some .eq) = false := by simpa using c4))
    (try (have c4b2 : b4_ = false := by simpa using c4))
    (try (have c4b3 : ¬ (FloatKind.f64.format.order t238 4602678819172646912 = some .gt || FloatKind.f64.format.order t238 4602678819172646912 == some .eq) := by simpa using c4))
    clear c4
    subst c4b0
    have H' := Aside0.mk H
    clear H
    go_wp2
    go_meet
    case rel => exact ⟨_, (t238), (by first | rfl | (simp; done) | (simp [*]; done)), H', ⟨by first | omega | exact Nat.le_refl _⟩, by repeat (first | exact Drawn0.refl _ | apply Drawn0.step)⟩
 case rest =>
  clear HC3
  (try clear c1); (try clear p2); (try clear c4); (try clear c4b0); (try clear c4b1); (try clear c4b2); (try clear c5); (try clear c5b0)
  obtain ⟨kq, x3_2, rfl, HA, HJ2, ⟨mc2, rfl⟩⟩ := hcut
  cases kq with
  | zero => exact absurd HA.out (by simp [impl_sine.j0])
  | succ kj2 =>
   have H := HA.out
   clear HA
   simp only [impl_sine.j0] at H
   have HC6 := Aside0.mk H
   clear H
   go_upto_if 17 with (fail)
   go_cut [3] (fun v3 wc => ∃ (kq : Nat) (x3_5 : Nat), v3 = .float .f64 x3_5 ∧ Aside0 (impl_sine.j1 kq x3_5 b4_ = some r) ∧ Aside0 (kq ≤ kj2) ∧ Drawn0 w wc)
   case first =>
    have H := HC6.out
    clear HC6
    by_cases c7 : (FloatKind.f64.format.order x3_2 4598175219545276416 == some .gt) = true
    · rw [if_pos c7] at H
      have c7b0 : (FloatKind.f64.format.order x3_2 4598175219545276416 == some .gt) = true := c7
      (try (have c7b1 : decide (FloatKind.f64.format.order x3_2 4598175219545276416 = some .gt) = true := by simpa using c7))
      (try (have c7b2 : (FloatKind.f64.format.order x3_2 4598175219545276416 == some .gt) = true := by simpa using c7))
      clear c7
      (first | rw [c7b0] | (simp only [i64_w, i32_w]; rw [c7b0]) | skip)
      by_cases c8 : FOk .sub .f64 4602678819172646912 x3_2 = true
      · rw [if_pos c8] at H
        have fe8 := fun t w => frun (P := Try.prog) c8 t w
        have c8b0 : FOk .sub .f64 4602678819172646912 x3_2 = true := c8
        clear c8
        have H' := Aside0.mk H
        clear H
        go_wp2
        go_meet
        case rel => exact ⟨_, (fq .sub .f64 4602678819172646912 x3_2), (by first | rfl | (simp; done) | (simp [*]; done)), H', ⟨by have := HJ2.out; first | omega | exact Nat.le_refl _⟩, by repeat (first | exact Drawn0.refl _ | apply Drawn0.step)⟩
      · rw [if_neg c8] at H
        exact absurd H (by simp)
    · rw [if_neg c7] at H
      have c7b0 : (FloatKind.f64.format.order x3_2 4598175219545276416 == some .gt) = false := by simpa using c7
      (try (have c7b1 : decide (FloatKind.f64.format.order x3_2 4598175219545276416 = some .gt) = false := by simpa using c7))
      (try (have c7b2 : (FloatKind.f64.format.order x3_2 4598175219545276416 == some .gt) = false := by simpa using c7))
      (try (have c7b3 : ¬ (FloatKind.f64.format.order x3_2 4598175219545276416 = some .gt) := by simpa using c7))
      clear c7
      (first | rw [c7b0] | (simp only [i64_w, i32_w]; rw [c7b0]) | skip)
      have H' := Aside0.mk H
      clear H
      go_wp2
      go_meet
      case rel => exact ⟨_, (x3_2), (by first | rfl | (simp; done) | (simp [*]; done)), H', ⟨by have := HJ2.out; first | omega | exact Nat.le_refl _⟩, by repeat (first | exact Drawn0.refl _ | apply Drawn0.step)⟩
   case rest =>
    clear HC6
    (try clear c1); (try clear c2); (try clear p2); (try clear c4); (try clear c4b0); (try clear c4b1); (try clear c4b2); (try clear c5); (try clear c5b0); (try clear c7); (try clear c7b0); (try clear c7b1); (try clear c7b2); (try clear c8); (try clear c8b0); (try clear p2)
    obtain ⟨kq, x3_5, rfl, HA, HJ5, ⟨mc5, rfl⟩⟩ := hcut
    cases kq with
    | zero => exact absurd HA.out (by simp [impl_sine.j1])
    | succ kj5 =>
     have H := HA.out
     clear HA
     simp only [impl_sine.j1] at H
     by_cases c9 : FOk .mul .f64 x3_5 4618760256179416344 = true
     · rw [if_pos c9] at H
       have fe9 := fun t w => frun (P := Try.prog) c9 t w
       have c9b0 : FOk .mul .f64 x3_5 4618760256179416344 = true := c9
       clear c9
       by_cases c10 : FOk .mul .f64 (fq .mul .f64 x3_5 4618760256179416344) (fq .mul .f64 x3_5 4618760256179416344) = true
       · rw [if_pos c10] at H
         have fe10 := fun t w => frun (P := Try.prog) c10 t w
         have c10b0 : FOk .mul .f64 (fq .mul .f64 x3_5 4618760256179416344) (fq .mul .f64 x3_5 4618760256179416344) = true := c10
         clear c10
         have H' := Aside0.mk H
         clear H
         go_wp2
         go_loopg [7, 8] kj5 (fun kq v7 v8 w' => ∃ (x7_3 : Nat) (x8_3 : Nat), v7 = .float .f64 x7_3 ∧ v8 = .float .f64 x8_3 ∧ Aside0 (impl_sine.l0 kq b4_ (fq .mul .f64 x3_5 4618760256179416344) (fq .mul .f64 (fq .mul .f64 x3_5 4618760256179416344) (fq .mul .f64 x3_5 4618760256179416344)) x7_3 x8_3 = some r) ∧ Aside0 (kq ≤ kj5) ∧ Drawn0 w w')
         case atStart => exact ⟨(4607182418800017408), (4620693217682128896), (by first | rfl | (simp; done) | (simp [*]; done)), (by first | rfl | (simp; done) | (simp [*]; done)), H', ⟨Nat.le_refl _⟩, by repeat (first | exact Drawn0.refl _ | apply Drawn0.step)⟩
         case round =>
          clear H'
          (try clear c1); (try clear c2); (try clear p2); (try clear c4); (try clear c4b0); (try clear c4b1); (try clear c4b2); (try clear c5); (try clear c5b0); (try clear c7); (try clear c7b0); (try clear c7b1); (try clear c7b2); (try clear c8); (try clear c8b0); (try clear c9); (try clear c9b0); (try clear c10); (try clear c10b0); (try clear p2)
          obtain ⟨x7_3, x8_3, rfl, rfl, HA, HK3, ⟨m3, rfl⟩⟩ := hrel
          cases gk with
          | zero => exact absurd HA.out (by simp [impl_sine.l0])
          | succ k3 =>
           have H := HA.out
           clear HA
           simp only [impl_sine.l0] at H
           by_cases c11 : (FloatKind.f64.format.order x8_3 4607182418800017408 == some .gt || FloatKind.f64.format.order x8_3 4607182418800017408 == some .eq) = true
           · rw [if_pos c11] at H
             have c11b0 : (FloatKind.f64.format.order x8_3 4607182418800017408 == some .gt || FloatKind.f64.format.order x8_3 4607182418800017408 == some .eq) = true := c11
             (try (have c11b1 : decide (FloatKind.f64.format.order x8_3 4607182418800017408 = some .gt || FloatKind.f64.format.order x8_3 4607182418800017408 == some .eq) = true := by simpa using c11))
             (try (have c11b2 : (FloatKind.f64.format.order x8_3 4607182418800017408 == some .gt || FloatKind.f64.format.order x8_3 4607182418800017408 == some .eq) = true := by simpa using c11))
             clear c11
             by_cases c12 : FOk .mul .f64 (fq .mul .f64 (fq .mul .f64 x3_5 4618760256179416344) (fq .mul .f64 x3_5 4618760256179416344)) x7_3 = true
             · rw [if_pos c12] at H
               have fe12 := fun t w => frun (P := Try.prog) c12 t w
               have c12b0 : FOk .mul .f64 (fq .mul .f64 (fq .mul .f64 x3_5 4618760256179416344) (fq .mul .f64 x3_5 4618760256179416344)) x7_3 = true := c12
               clear c12
               by_cases c13 : FOk .mul .f64 4611686018427387904 x8_3 = true
               · rw [if_pos c13] at H
                 have fe13 := fun t w => frun (P := Try.prog) c13 t w
                 have c13b0 : FOk .mul .f64 4611686018427387904 x8_3 = true := c13
                 clear c13
                 by_cases c14 : FOk .add .f64 (fq .mul .f64 4611686018427387904 x8_3) 4607182418800017408 = true
                 · rw [if_pos c14] at H
                   have fe14 := fun t w => frun (P := Try.prog) c14 t w
                   have c14b0 : FOk .add .f64 (fq .mul .f64 4611686018427387904 x8_3) 4607182418800017408 = true := c14
                   clear c14
                   by_cases c15 : FOk .mul .f64 (fq .mul .f64 4611686018427387904 x8_3) (fq .add .f64 (fq .mul .f64 4611686018427387904 x8_3) 4607182418800017408) = true
                   · rw [if_pos c15] at H
                     have fe15 := fun t w => frun (P := Try.prog) c15 t w
                     have c15b0 : FOk .mul .f64 (fq .mul .f64 4611686018427387904 x8_3) (fq .add .f64 (fq .mul .f64 4611686018427387904 x8_3) 4607182418800017408) = true := c15
                     clear c15
                     by_cases c16 : FOk .quo .f64 (fq .mul .f64 (fq .mul .f64 (fq .mul .f64 x3_5 4618760256179416344) (fq .mul .f64 x3_5 4618760256179416344)) x7_3) (fq .mul .f64 (fq .mul .f64 4611686018427387904 x8_3) (fq .add .f64 (fq .mul .f64 4611686018427387904 x8_3) 4607182418800017408)) = true
                     · rw [if_pos c16] at H
                       have fe16 := fun t w => frun (P := Try.prog) c16 t w
                       have c16b0 : FOk .quo .f64 (fq .mul .f64 (fq .mul .f64 (fq .mul .f64 x3_5 4618760256179416344) (fq .mul .f64 x3_5 4618760256179416344)) x7_3) (fq .mul .f64 (fq .mul .f64 4611686018427387904 x8_3) (fq .add .f64 (fq .mul .f64 4611686018427387904 x8_3) 4607182418800017408)) = true := c16
                       clear c16
                       by_cases c17 : FOk .sub .f64 4607182418800017408 (fq .quo .f64 (fq .mul .f64 (fq .mul .f64 (fq .mul .f64 x3_5 4618760256179416344) (fq .mul .f64 x3_5 4618760256179416344)) x7_3) (fq .mul .f64 (fq .mul .f64 4611686018427387904 x8_3) (fq .add .f64 (fq .mul .f64 4611686018427387904 x8_3) 4607182418800017408))) = true
                       · rw [if_pos c17] at H
                         have fe17 := fun t w => frun (P := Try.prog) c17 t w
                         have c17b0 : FOk .sub .f64 4607182418800017408 (fq .quo .f64 (fq .mul .f64 (fq .mul .f64 (fq .mul .f64 x3_5 4618760256179416344) (fq .mul .f64 x3_5 4618760256179416344)) x7_3) (fq .mul .f64 (fq .mul .f64 4611686018427387904 x8_3) (fq .add .f64 (fq .mul .f64 4611686018427387904 x8_3) 4607182418800017408))) = true := c17
                         clear c17
                         by_cases c18 : FOk .sub .f64 x8_3 4607182418800017408 = true
                         · rw [if_pos c18] at H
                           have fe18 := fun t w => frun (P := Try.prog) c18 t w
                           have c18b0 : FOk .sub .f64 x8_3 4607182418800017408 = true := c18
                           clear c18
                           have H' := Aside0.mk H
                           clear H
                           go_wp2
                           go_roundg k3
                           case measure => have := HJ2.out; have := HJ5.out; have := HK3.out; omega
                           case rel => exact ⟨(fq .sub .f64 4607182418800017408 (fq .quo .f64 (fq .mul .f64 (fq .mul .f64 (fq .mul .f64 x3_5 4618760256179416344) (fq .mul .f64 x3_5 4618760256179416344)) x7_3) (fq .mul .f64 (fq .mul .f64 4611686018427387904 x8_3) (fq .add .f64 (fq .mul .f64 4611686018427387904 x8_3) 4607182418800017408)))), (fq .sub .f64 x8_3 4607182418800017408), (by first | rfl | (simp; done) | (simp [*]; done)), (by first | rfl | (simp; done) | (simp [*]; done)), H', ⟨by have := HJ2.out; have := HJ5.out; have := HK3.out; omega⟩, by repeat (first | exact Drawn0.refl _ | apply Drawn0.step)⟩
                         · rw [if_neg c18] at H
                           exact absurd H (by simp)
                       · rw [if_neg c17] at H
                         exact absurd H (by simp)
                     · rw [if_neg c16] at H
                       exact absurd H (by simp)
                   · rw [if_neg c15] at H
                     exact absurd H (by simp)
                 · rw [if_neg c14] at H
                   exact absurd H (by simp)
               · rw [if_neg c13] at H
                 exact absurd H (by simp)
             · rw [if_neg c12] at H
               exact absurd H (by simp)
           · rw [if_neg c11] at H
             have c11b0 : (FloatKind.f64.format.order x8_3 4607182418800017408 == some .gt || FloatKind.f64.format.order x8_3 4607182418800017408 == some .eq) = false := by simpa using c11
             (try (have c11b1 : decide (FloatKind.f64.format.order x8_3 4607182418800017408 = some .gt || FloatKind.f64.format.order x8_3 4607182418800017408 == some .eq) = false := by simpa using c11))
             (try (have c11b2 : (FloatKind.f64.format.order x8_3 4607182418800017408 == some .gt || FloatKind.f64.format.order x8_3 4607182418800017408 == some .eq) = false := by simpa using c11))
             (try (have c11b3 : ¬ (FloatKind.f64.format.order x8_3 4607182418800017408 = some .gt || FloatKind.f64.format.order x8_3 4607182418800017408 == some .eq) := by simpa using c11))
             clear c11
             by_cases c19 : b4_ = true
             · rw [if_pos c19] at H
               have c19b0 : b4_ = true := c19
               (try (have c19b1 : decide (FloatKind.f64.format.order t238 4602678819172646912 = some .gt || FloatKind.f64.format.order t238 4602678819172646912 == some .eq) = true := by simpa using c19))
               (try (have c19b2 : b4_ = true := by simpa using c19))
               clear c19
               subst c19b0
               by_cases c20 : FOk .mul .f64 (fq .mul .f64 x3_5 4618760256179416344) x7_3 = true
               · rw [if_pos c20] at H
                 have fe20 := fun t w => frun (P := Try.prog) c20 t w
                 have c20b0 : FOk .mul .f64 (fq .mul .f64 x3_5 4618760256179416344) x7_3 = true := c20
                 clear c20
                 obtain rfl := Option.some.inj H
                 go_wp2
                 go_ret
                 exact ⟨by first | rfl | (simp; done) | (simp [*]; done), by repeat (first | exact Drawn0.refl _ | apply Drawn0.step)⟩
               · rw [if_neg c20] at H
                 exact absurd H (by simp)
             · rw [if_neg c19] at H
               have c19b0 : b4_ = false := by simpa using c19
               (try (have c19b1 : decide (FloatKind.f64.format.order t238 4602678819172646912 = some .gt || FloatKind.f64.format.order t238 4602678819172646912 == some .eq) = false := by simpa using c19))
               (try (have c19b2 : b4_ = false := by simpa using c19))
               (try (have c19b3 : ¬ (FloatKind.f64.format.order t238 4602678819172646912 = some .gt || FloatKind.f64.format.order t238 4602678819172646912 == some .eq) := by simpa using c19))
               clear c19
               subst c19b0
               by_cases c21 : FOk .mul .f64 (fq .mul .f64 x3_5 4618760256179416344) x7_3 = true
               · rw [if_pos c21] at H
                 have fe21 := fun t w => frun (P := Try.prog) c21 t w
                 have c21b0 : FOk .mul .f64 (fq .mul .f64 x3_5 4618760256179416344) x7_3 = true := c21
                 clear c21
                 obtain rfl := Option.some.inj H
                 go_wp2
                 go_ret
                 exact ⟨by first | rfl | (simp; done) | (simp [*]; done), by repeat (first | exact Drawn0.refl _ | apply Drawn0.step)⟩
               · rw [if_neg c21] at H
                 exact absurd H (by simp)
       · rw [if_neg c10] at H
         exact absurd H (by simp)
     · rw [if_neg c9] at H
       exact absurd H (by simp)

/-! ### impl_PhasorOf: function 114 -/
def impl_PhasorOf.l0 : Nat → Nat → Int → Option (C64)
 | 0, _, _ => none
 | k + 1, x4, x5 => if (FloatKind.f64.format.order x4 4598175219545276416 == some .gt || FloatKind.f64.format.order x4 4598175219545276416 == some .eq) = true then (if FOk .sub .f64 x4 4598175219545276416 = true then (impl_PhasorOf.l0 k (fq .sub .f64 x4 4598175219545276416) (wrap64 (x5 + 1))) else (none)) else (if FOk .sub .f64 4598175219545276416 x4 = true then ((impl_sine.f k (fq .sub .f64 4598175219545276416 x4)).bind fun t243 => ((impl_sine.f k x4).bind fun t244 => (if x5 = 1 then (if FOk .sub .f64 0 t244 = true then (if FC 65 23 .f64 .f32 (fq .sub .f64 0 t244) = true then (if FC 65 23 .f64 .f32 t243 = true then (some (⟨fc .f64 .f32 (fq .sub .f64 0 t244), fc .f64 .f32 t243⟩ : C64)) else (none)) else (none)) else (none)) else (if x5 = 2 then (if FOk .sub .f64 0 t243 = true then (if FOk .sub .f64 0 t244 = true then (if FC 65 23 .f64 .f32 (fq .sub .f64 0 t243) = true then (if FC 65 23 .f64 .f32 (fq .sub .f64 0 t244) = true then (some (⟨fc .f64 .f32 (fq .sub .f64 0 t243), fc .f64 .f32 (fq .sub .f64 0 t244)⟩ : C64)) else (none)) else (none)) else (none)) else (none)) else (if x5 = 3 then (if FOk .sub .f64 0 t243 = true then (if FC 65 23 .f64 .f32 t244 = true then (if FC 65 23 .f64 .f32 (fq .sub .f64 0 t243) = true then (some (⟨fc .f64 .f32 t244, fc .f64 .f32 (fq .sub .f64 0 t243)⟩ : C64)) else (none)) else (none)) else (none)) else (if FC 65 23 .f64 .f32 t243 = true then (if FC 65 23 .f64 .f32 t244 = true then (some (⟨fc .f64 .f32 t243, fc .f64 .f32 t244⟩ : C64)) else (none)) else (none))))))) else (none))
def impl_PhasorOf.f (k : Nat) (a0 : Nat) : Option (C64) := (impl_isFinite64.f a0).bind fun t239 => (if t239 = true then ((math_Abs.f a0).bind fun t241 => (if (FloatKind.f64.format.order t241 4841369599423283200 == some .gt || FloatKind.f64.format.order t241 4841369599423283200 == some .eq) = true then (some (⟨1065353216, 0⟩ : C64)) else ((impl_fraction.f a0).bind fun t242 => (impl_PhasorOf.l0 k t242 0)))) else ((math_NaN.f).bind fun t240 => (if FC 65 23 .f64 .f32 t240 = true then (some (⟨fc .f64 .f32 t240, fc .f64 .f32 t240⟩ : C64)) else (none))))
set_option maxHeartbeats 8000000 in
set_option maxRecDepth 100000 in
theorem impl_PhasorOf.calls (k : Nat) (a0 : Nat) (r : C64) (w : World) (h : impl_PhasorOf.f k a0 = some r) :
 Calls Try.prog 114 #[.float .f64 a0] w fun e w' => e = .returned (.complex .f32 r.re r.im) ∧ Below w.heap.size w w' := by
 have hu23 := Try.underlying23
 have hu65 := Try.underlying65
 have HB := Aside0.mk (Below.refl w.heap.size w)
 have H : ((impl_isFinite64.f a0).bind fun t239 => (if t239 = true then ((math_Abs.f a0).bind fun t241 => (if (FloatKind.f64.format.order t241 4841369599423283200 == some .gt || FloatKind.f64.format.order t241 4841369599423283200 == some .eq) = true then (some (⟨1065353216, 0⟩ : C64)) else ((impl_fraction.f a0).bind fun t242 => (impl_PhasorOf.l0 k t242 0)))) else ((math_NaN.f).bind fun t240 => (if FC 65 23 .f64 .f32 t240 = true then (some (⟨fc .f64 .f32 t240, fc .f64 .f32 t240⟩ : C64)) else (none))))) = some r := h
 clear h
 replace H := Option.bind_eq_some_iff.mp H
 obtain ⟨t239, A20, H⟩ := H
 replace H : (if t239 = true then ((math_Abs.f a0).bind fun t241 => (if (FloatKind.f64.format.order t241 4841369599423283200 == some .gt || FloatKind.f64.format.order t241 4841369599423283200 == some .eq) = true then (some (⟨1065353216, 0⟩ : C64)) else ((impl_fraction.f a0).bind fun t242 => (impl_PhasorOf.l0 k t242 0)))) else ((math_NaN.f).bind fun t240 => (if FC 65 23 .f64 .f32 t240 = true then (some (⟨fc .f64 .f32 t240, fc .f64 .f32 t240⟩ : C64)) else (none)))) = some r := H
 have A2 := Aside0.mk A20
 clear A20
 by_cases c3 : t239 = true
 · subst c3
   have H1 : ((math_Abs.f a0).bind fun t241 => (if (FloatKind.f64.format.order t241 4841369599423283200 == some .gt || FloatKind.f64.format.order t241 4841369599423283200 == some .eq) = true then (some (⟨1065353216, 0⟩ : C64)) else ((impl_fraction.f a0).bind fun t242 => (impl_PhasorOf.l0 k t242 0)))) = some r := by rw [if_pos rfl] at H; exact H
   clear H
   have H := H1
   clear H1
   replace H := Option.bind_eq_some_iff.mp H
   obtain ⟨t241, A40, H⟩ := H
   replace H : (if (FloatKind.f64.format.order t241 4841369599423283200 == some .gt || FloatKind.f64.format.order t241 4841369599423283200 == some .eq) = true then (some (⟨1065353216, 0⟩ : C64)) else ((impl_fraction.f a0).bind fun t242 => (impl_PhasorOf.l0 k t242 0))) = some r := H
   have A4 := Aside0.mk A40
   clear A40
   by_cases c5 : (FloatKind.f64.format.order t241 4841369599423283200 == some .gt || FloatKind.f64.format.order t241 4841369599423283200 == some .eq) = true
   · rw [if_pos c5] at H
     have c5b0 : (FloatKind.f64.format.order t241 4841369599423283200 == some .gt || FloatKind.f64.format.order t241 4841369599423283200 == some .eq) = true := c5
     (try (have c5b1 : decide (FloatKind.f64.format.order t241 4841369599423283200 = some .gt || FloatKind.f64.format.order t241 4841369599423283200 == some .eq) = true := by simpa using c5))
     (try (have c5b2 : (FloatKind.f64.format.order t241 4841369599423283200 == some .gt || FloatKind.f64.format.order t241 4841369599423283200 == some .eq) = true := by simpa using c5))
     clear c5
     obtain rfl := Option.some.inj H
     go_enter Try.func114, Try.ntmps114
     go_wp2_with (first | ((with_reducible refine gate_callee (f := 130) rfl ?_); refine goesL_ (some 9) rfl rfl Try.func130 (by kernel_rfl) rfl #[.float .f64 a0] rfl (by (try simp only [List.map_toArray, List.map_cons, List.map_nil]); first | done | rfl | (simp only [List.length_drop, List.length_take]; rfl)) ?_; (with_reducible refine (impl_isFinite64.calls a0 true _ A2.out).mono ?_); rintro e w' ⟨rfl, ⟨nd, rfl⟩⟩; refine ⟨_, rfl, ?_⟩) | ((with_reducible refine gate_callee (f := 132) rfl ?_); refine goesL_ (some 17) rfl rfl Try.func132 (by kernel_rfl) rfl #[.float .f64 a0] rfl (by (try simp only [List.map_toArray, List.map_cons, List.map_nil]); first | done | rfl | (simp only [List.length_drop, List.length_take]; rfl)) ?_; (with_reducible refine (math_Abs.calls a0 t241 _ A4.out).mono ?_); rintro e w' ⟨rfl, ⟨nd, rfl⟩⟩; refine ⟨_, rfl, ?_⟩))
     go_ret
     exact ⟨by first | rfl | (simp [errW_none, errW_some] <;> rfl) | (simp [*, errW_none, errW_some] <;> rfl), by repeat (first | (with_reducible first | exact HB.out | apply below_alloc | apply pw_below_drewN | apply below_drew1) | exact HB.out)⟩
   · rw [if_neg c5] at H
     have c5b0 : (FloatKind.f64.format.order t241 4841369599423283200 == some .gt || FloatKind.f64.format.order t241 4841369599423283200 == some .eq) = false := by simpa using c5
     (try (have c5b1 : decide (FloatKind.f64.format.order t241 4841369599423283200 = some .gt || FloatKind.f64.format.order t241 4841369599423283200 == some .eq) = false := by simpa using c5))
     (try (have c5b2 : (FloatKind.f64.format.order t241 4841369599423283200 == some .gt || FloatKind.f64.format.order t241 4841369599423283200 == some .eq) = false := by simpa using c5))
     (try (have c5b3 : ¬ (FloatKind.f64.format.order t241 4841369599423283200 = some .gt || FloatKind.f64.format.order t241 4841369599423283200 == some .eq) := by simpa using c5))
     clear c5
     replace H := Option.bind_eq_some_iff.mp H
     obtain ⟨t242, A60, H⟩ := H
     replace H : (impl_PhasorOf.l0 k t242 0) = some r := H
     have A6 := Aside0.mk A60
     clear A60
     have H' := Aside0.mk H
     clear H
     go_enter Try.func114, Try.ntmps114
     go_wp2_with (first | ((with_reducible refine gate_callee (f := 130) rfl ?_); refine goesL_ (some 9) rfl rfl Try.func130 (by kernel_rfl) rfl #[.float .f64 a0] rfl (by (try simp only [List.map_toArray, List.map_cons, List.map_nil]); first | done | rfl | (simp only [List.length_drop, List.length_take]; rfl)) ?_; (with_reducible refine (impl_isFinite64.calls a0 true _ A2.out).mono ?_); rintro e w' ⟨rfl, ⟨nd, rfl⟩⟩; refine ⟨_, rfl, ?_⟩) | ((with_reducible refine gate_callee (f := 132) rfl ?_); refine goesL_ (some 17) rfl rfl Try.func132 (by kernel_rfl) rfl #[.float .f64 a0] rfl (by (try simp only [List.map_toArray, List.map_cons, List.map_nil]); first | done | rfl | (simp only [List.length_drop, List.length_take]; rfl)) ?_; (with_reducible refine (math_Abs.calls a0 t241 _ A4.out).mono ?_); rintro e w' ⟨rfl, ⟨nd, rfl⟩⟩; refine ⟨_, rfl, ?_⟩) | ((with_reducible refine gate_callee (f := 133) rfl ?_); refine goesL_ (some 20) rfl rfl Try.func133 (by kernel_rfl) rfl #[.float .f64 a0] rfl (by (try simp only [List.map_toArray, List.map_cons, List.map_nil]); first | done | rfl | (simp only [List.length_drop, List.length_take]; rfl)) ?_; (with_reducible refine (impl_fraction.calls a0 t242 _ A6.out).mono ?_); rintro e w' ⟨rfl, ⟨nd, rfl⟩⟩; refine ⟨_, rfl, ?_⟩))
     go_loopg [4, 5] k (fun kq v4 v5 w' => ∃ (x4_1 : Nat) (x5_1 : Int), v4 = .float .f64 x4_1 ∧ v5 = .int .i64 x5_1 ∧ Aside0 (impl_PhasorOf.l0 kq x4_1 x5_1 = some r) ∧ Aside0 (kq ≤ k) ∧ Aside0 (Below w.heap.size w w'))
     case atStart => exact ⟨(t242), (0), (by first | rfl | (simp; done) | (simp [*]; done)), (by first | rfl | (simp; done) | (simp [*]; done)), H', ⟨Nat.le_refl _⟩, ⟨by repeat (first | (with_reducible first | exact HB.out | apply below_alloc | apply pw_below_drewN | apply below_drew1) | exact HB.out)⟩⟩
     case round =>
      clear H'
      (try clear c1); (try clear p2); (try clear c3); (try clear c5); (try clear c5b0); (try clear c5b1); (try clear c5b2)
      obtain ⟨x4_1, x5_1, rfl, rfl, HA, HK1, HB⟩ := hrel
      cases gk with
      | zero => exact absurd HA.out (by simp [impl_PhasorOf.l0])
      | succ k1 =>
       have H := HA.out
       clear HA
       simp only [impl_PhasorOf.l0] at H
       by_cases c7 : (FloatKind.f64.format.order x4_1 4598175219545276416 == some .gt || FloatKind.f64.format.order x4_1 4598175219545276416 == some .eq) = true
       · rw [if_pos c7] at H
         have c7b0 : (FloatKind.f64.format.order x4_1 4598175219545276416 == some .gt || FloatKind.f64.format.order x4_1 4598175219545276416 == some .eq) = true := c7
         (try (have c7b1 : decide (FloatKind.f64.format.order x4_1 4598175219545276416 = some .gt || FloatKind.f64.format.order x4_1 4598175219545276416 == some .eq) = true := by simpa using c7))
         (try (have c7b2 : (FloatKind.f64.format.order x4_1 4598175219545276416 == some .gt || FloatKind.f64.format.order x4_1 4598175219545276416 == some .eq) = true := by simpa using c7))
         clear c7
         by_cases c8 : FOk .sub .f64 x4_1 4598175219545276416 = true
         · rw [if_pos c8] at H
           have fe8 := fun t w => frun (P := Try.prog) c8 t w
           have c8b0 : FOk .sub .f64 x4_1 4598175219545276416 = true := c8
           clear c8
           have H' := Aside0.mk H
           clear H
           go_wp2
           go_roundg k1
           case measure => have := HK1.out; omega
           case rel => exact ⟨(fq .sub .f64 x4_1 4598175219545276416), (wrap64 (x5_1 + 1)), (by first | rfl | (simp; done) | (simp [*]; done)), (by first | rfl | (simp; done) | (simp [*]; done)), H', ⟨by have := HK1.out; omega⟩, ⟨by repeat (first | (with_reducible first | exact HB.out | apply below_alloc | apply pw_below_drewN | apply below_drew1) | exact HB.out)⟩⟩
         · rw [if_neg c8] at H
           exact absurd H (by simp)
       · rw [if_neg c7] at H
         have c7b0 : (FloatKind.f64.format.order x4_1 4598175219545276416 == some .gt || FloatKind.f64.format.order x4_1 4598175219545276416 == some .eq) = false := by simpa using c7
         (try (have c7b1 : decide (FloatKind.f64.format.order x4_1 4598175219545276416 = some .gt || FloatKind.f64.format.order x4_1 4598175219545276416 == some .eq) = false := by simpa using c7))
         (try (have c7b2 : (FloatKind.f64.format.order x4_1 4598175219545276416 == some .gt || FloatKind.f64.format.order x4_1 4598175219545276416 == some .eq) = false := by simpa using c7))
         (try (have c7b3 : ¬ (FloatKind.f64.format.order x4_1 4598175219545276416 = some .gt || FloatKind.f64.format.order x4_1 4598175219545276416 == some .eq) := by simpa using c7))
         clear c7
         by_cases c9 : FOk .sub .f64 4598175219545276416 x4_1 = true
         · rw [if_pos c9] at H
           have fe9 := fun t w => frun (P := Try.prog) c9 t w
           have c9b0 : FOk .sub .f64 4598175219545276416 x4_1 = true := c9
           clear c9
           replace H := Option.bind_eq_some_iff.mp H
           obtain ⟨t243, A100, H⟩ := H
           replace H : ((impl_sine.f k1 x4_1).bind fun t244 => (if x5_1 = 1 then (if FOk .sub .f64 0 t244 = true then (if FC 65 23 .f64 .f32 (fq .sub .f64 0 t244) = true then (if FC 65 23 .f64 .f32 t243 = true then (some (⟨fc .f64 .f32 (fq .sub .f64 0 t244), fc .f64 .f32 t243⟩ : C64)) else (none)) else (none)) else (none)) else (if x5_1 = 2 then (if FOk .sub .f64 0 t243 = true then (if FOk .sub .f64 0 t244 = true then (if FC 65 23 .f64 .f32 (fq .sub .f64 0 t243) = true then (if FC 65 23 .f64 .f32 (fq .sub .f64 0 t244) = true then (some (⟨fc .f64 .f32 (fq .sub .f64 0 t243), fc .f64 .f32 (fq .sub .f64 0 t244)⟩ : C64)) else (none)) else (none)) else (none)) else (none)) else (if x5_1 = 3 then (if FOk .sub .f64 0 t243 = true then (if FC 65 23 .f64 .f32 t244 = true then (if FC 65 23 .f64 .f32 (fq .sub .f64 0 t243) = true then (some (⟨fc .f64 .f32 t244, fc .f64 .f32 (fq .sub .f64 0 t243)⟩ : C64)) else (none)) else (none)) else (none)) else (if FC 65 23 .f64 .f32 t243 = true then (if FC 65 23 .f64 .f32 t244 = true then (some (⟨fc .f64 .f32 t243, fc .f64 .f32 t244⟩ : C64)) else (none)) else (none)))))) = some r := H
           have A10 := Aside0.mk A100
           clear A100
           replace H := Option.bind_eq_some_iff.mp H
           obtain ⟨t244, A110, H⟩ := H
           replace H : (if x5_1 = 1 then (if FOk .sub .f64 0 t244 = true then (if FC 65 23 .f64 .f32 (fq .sub .f64 0 t244) = true then (if FC 65 23 .f64 .f32 t243 = true then (some (⟨fc .f64 .f32 (fq .sub .f64 0 t244), fc .f64 .f32 t243⟩ : C64)) else (none)) else (none)) else (none)) else (if x5_1 = 2 then (if FOk .sub .f64 0 t243 = true then (if FOk .sub .f64 0 t244 = true then (if FC 65 23 .f64 .f32 (fq .sub .f64 0 t243) = true then (if FC 65 23 .f64 .f32 (fq .sub .f64 0 t244) = true then (some (⟨fc .f64 .f32 (fq .sub .f64 0 t243), fc .f64 .f32 (fq .sub .f64 0 t244)⟩ : C64)) else (none)) else (none)) else (none)) else (none)) else (if x5_1 = 3 then (if FOk .sub .f64 0 t243 = true then (if FC 65 23 .f64 .f32 t244 = true then (if FC 65 23 .f64 .f32 (fq .sub .f64 0 t243) = true then (some (⟨fc .f64 .f32 t244, fc .f64 .f32 (fq .sub .f64 0 t243)⟩ : C64)) else (none)) else (none)) else (none)) else (if FC 65 23 .f64 .f32 t243 = true then (if FC 65 23 .f64 .f32 t244 = true then (some (⟨fc .f64 .f32 t243, fc .f64 .f32 t244⟩ : C64)) else (none)) else (none))))) = some r := H
           have A11 := Aside0.mk A110
           clear A110
           by_cases c12 : x5_1 = 1
           · rw [if_pos c12] at H
             have c12b0 : (x5_1 == 1) = true := beq_iff_eq.mpr c12
             have c12b1 : (x5_1 != 1) = false := bne_eq_false_iff_eq.mpr c12
             clear c12
             by_cases c13 : FOk .sub .f64 0 t244 = true
             · rw [if_pos c13] at H
               have fe13 := fun t w => frun (P := Try.prog) c13 t w
               have c13b0 : FOk .sub .f64 0 t244 = true := c13
               clear c13
               by_cases c14 : FC 65 23 .f64 .f32 (fq .sub .f64 0 t244) = true
               · rw [if_pos c14] at H
                 have fe14 := fun w => frunc (P := Try.prog) (src := 65) (dst := 23) (by kernel_rfl) Try.underlying23 c14 w
                 have c14b0 : FC 65 23 .f64 .f32 (fq .sub .f64 0 t244) = true := c14
                 clear c14
                 by_cases c15 : FC 65 23 .f64 .f32 t243 = true
                 · rw [if_pos c15] at H
                   have fe15 := fun w => frunc (P := Try.prog) (src := 65) (dst := 23) (by kernel_rfl) Try.underlying23 c15 w
                   have c15b0 : FC 65 23 .f64 .f32 t243 = true := c15
                   clear c15
                   obtain rfl := Option.some.inj H
                   go_wp2_with (first | ((with_reducible refine gate_callee (f := 134) rfl ?_); refine goesL_ (some 29) rfl rfl Try.func134 (by kernel_rfl) rfl #[.float .f64 (fq .sub .f64 4598175219545276416 x4_1)] rfl (by (try simp only [List.map_toArray, List.map_cons, List.map_nil]); first | done | rfl | (simp only [List.length_drop, List.length_take]; rfl)) ?_; (with_reducible refine (impl_sine.calls k1 (fq .sub .f64 4598175219545276416 x4_1) t243 _ A10.out).mono ?_); rintro e w' ⟨rfl, ⟨nd, rfl⟩⟩; refine ⟨_, rfl, ?_⟩) | ((with_reducible refine gate_callee (f := 134) rfl ?_); refine goesL_ (some 31) rfl rfl Try.func134 (by kernel_rfl) rfl #[.float .f64 x4_1] rfl (by (try simp only [List.map_toArray, List.map_cons, List.map_nil]); first | done | rfl | (simp only [List.length_drop, List.length_take]; rfl)) ?_; (with_reducible refine (impl_sine.calls k1 x4_1 t244 _ A11.out).mono ?_); rintro e w' ⟨rfl, ⟨nd, rfl⟩⟩; refine ⟨_, rfl, ?_⟩))
                   go_ret
                   exact ⟨by first | rfl | (simp [errW_none, errW_some] <;> rfl) | (simp [*, errW_none, errW_some] <;> rfl), by repeat (first | (with_reducible first | exact HB.out | apply below_alloc | apply pw_below_drewN | apply below_drew1) | exact HB.out)⟩
                 · rw [if_neg c15] at H
                   exact absurd H (by simp)
               · rw [if_neg c14] at H
                 exact absurd H (by simp)
             · rw [if_neg c13] at H
               exact absurd H (by simp)
           · rw [if_neg c12] at H
             have c12b0 : (x5_1 == 1) = false := beq_eq_false_iff_ne.mpr c12
             have c12b1 : (x5_1 != 1) = true := bne_iff_ne.mpr c12
             by_cases c16 : x5_1 = 2
             · rw [if_pos c16] at H
               have c16b0 : (x5_1 == 2) = true := beq_iff_eq.mpr c16
               have c16b1 : (x5_1 != 2) = false := bne_eq_false_iff_eq.mpr c16
               clear c16
               by_cases c17 : FOk .sub .f64 0 t243 = true
               · rw [if_pos c17] at H
                 have fe17 := fun t w => frun (P := Try.prog) c17 t w
                 have c17b0 : FOk .sub .f64 0 t243 = true := c17
                 clear c17
                 by_cases c18 : FOk .sub .f64 0 t244 = true
                 · rw [if_pos c18] at H
                   have fe18 := fun t w => frun (P := Try.prog) c18 t w
                   have c18b0 : FOk .sub .f64 0 t244 = true := c18
                   clear c18
                   by_cases c19 : FC 65 23 .f64 .f32 (fq .sub .f64 0 t243) = true
                   · rw [if_pos c19] at H
                     have fe19 := fun w => frunc (P := Try.prog) (src := 65) (dst := 23) (by kernel_rfl) Try.underlying23 c19 w
                     have c19b0 : FC 65 23 .f64 .f32 (fq .sub .f64 0 t243) = true := c19
                     clear c19
                     by_cases c20 : FC 65 23 .f64 .f32 (fq .sub .f64 0 t244) = true
                     · rw [if_pos c20] at H
                       have fe20 := fun w => frunc (P := Try.prog) (src := 65) (dst := 23) (by kernel_rfl) Try.underlying23 c20 w
                       have c20b0 : FC 65 23 .f64 .f32 (fq .sub .f64 0 t244) = true := c20
                       clear c20
                       obtain rfl := Option.some.inj H
                       go_wp2_with (first | ((with_reducible refine gate_callee (f := 134) rfl ?_); refine goesL_ (some 29) rfl rfl Try.func134 (by kernel_rfl) rfl #[.float .f64 (fq .sub .f64 4598175219545276416 x4_1)] rfl (by (try simp only [List.map_toArray, List.map_cons, List.map_nil]); first | done | rfl | (simp only [List.length_drop, List.length_take]; rfl)) ?_; (with_reducible refine (impl_sine.calls k1 (fq .sub .f64 4598175219545276416 x4_1) t243 _ A10.out).mono ?_); rintro e w' ⟨rfl, ⟨nd, rfl⟩⟩; refine ⟨_, rfl, ?_⟩) | ((with_reducible refine gate_callee (f := 134) rfl ?_); refine goesL_ (some 31) rfl rfl Try.func134 (by kernel_rfl) rfl #[.float .f64 x4_1] rfl (by (try simp only [List.map_toArray, List.map_cons, List.map_nil]); first | done | rfl | (simp only [List.length_drop, List.length_take]; rfl)) ?_; (with_reducible refine (impl_sine.calls k1 x4_1 t244 _ A11.out).mono ?_); rintro e w' ⟨rfl, ⟨nd, rfl⟩⟩; refine ⟨_, rfl, ?_⟩))
                       go_ret
                       exact ⟨by first | rfl | (simp [errW_none, errW_some] <;> rfl) | (simp [*, errW_none, errW_some] <;> rfl), by repeat (first | (with_reducible first | exact HB.out | apply below_alloc | apply pw_below_drewN | apply below_drew1) | exact HB.out)⟩
                     · rw [if_neg c20] at H
                       exact absurd H (by simp)
                   · rw [if_neg c19] at H
                     exact absurd H (by simp)
                 · rw [if_neg c18] at H
                   exact absurd H (by simp)
               · rw [if_neg c17] at H
                 exact absurd H (by simp)
             · rw [if_neg c16] at H
               have c16b0 : (x5_1 == 2) = false := beq_eq_false_iff_ne.mpr c16
               have c16b1 : (x5_1 != 2) = true := bne_iff_ne.mpr c16
               by_cases c21 : x5_1 = 3
               · rw [if_pos c21] at H
                 have c21b0 : (x5_1 == 3) = true := beq_iff_eq.mpr c21
                 have c21b1 : (x5_1 != 3) = false := bne_eq_false_iff_eq.mpr c21
                 clear c21
                 by_cases c22 : FOk .sub .f64 0 t243 = true
                 · rw [if_pos c22] at H
                   have fe22 := fun t w => frun (P := Try.prog) c22 t w
                   have c22b0 : FOk .sub .f64 0 t243 = true := c22
                   clear c22
                   by_cases c23 : FC 65 23 .f64 .f32 t244 = true
                   · rw [if_pos c23] at H
                     have fe23 := fun w => frunc (P := Try.prog) (src := 65) (dst := 23) (by kernel_rfl) Try.underlying23 c23 w
                     have c23b0 : FC 65 23 .f64 .f32 t244 = true := c23
                     clear c23
                     by_cases c24 : FC 65 23 .f64 .f32 (fq .sub .f64 0 t243) = true
                     · rw [if_pos c24] at H
                       have fe24 := fun w => frunc (P := Try.prog) (src := 65) (dst := 23) (by kernel_rfl) Try.underlying23 c24 w
                       have c24b0 : FC 65 23 .f64 .f32 (fq .sub .f64 0 t243) = true := c24
                       clear c24
                       obtain rfl := Option.some.inj H
                       go_wp2_with (first | ((with_reducible refine gate_callee (f := 134) rfl ?_); refine goesL_ (some 29) rfl rfl Try.func134 (by kernel_rfl) rfl #[.float .f64 (fq .sub .f64 4598175219545276416 x4_1)] rfl (by (try simp only [List.map_toArray, List.map_cons, List.map_nil]); first | done | rfl | (simp only [List.length_drop, List.length_take]; rfl)) ?_; (with_reducible refine (impl_sine.calls k1 (fq .sub .f64 4598175219545276416 x4_1) t243 _ A10.out).mono ?_); rintro e w' ⟨rfl, ⟨nd, rfl⟩⟩; refine ⟨_, rfl, ?_⟩) | ((with_reducible refine gate_callee (f := 134) rfl ?_); refine goesL_ (some 31) rfl rfl Try.func134 (by kernel_rfl) rfl #[.float .f64 x4_1] rfl (by (try simp only [List.map_toArray, List.map_cons, List.map_nil]); first | done | rfl | (simp only [List.length_drop, List.length_take]; rfl)) ?_; (with_reducible refine (impl_sine.calls k1 x4_1 t244 _ A11.out).mono ?_); rintro e w' ⟨rfl, ⟨nd, rfl⟩⟩; refine ⟨_, rfl, ?_⟩))
                       go_ret
                       exact ⟨by first | rfl | (simp [errW_none, errW_some] <;> rfl) | (simp [*, errW_none, errW_some] <;> rfl), by repeat (first | (with_reducible first | exact HB.out | apply below_alloc | apply pw_below_drewN | apply below_drew1) | exact HB.out)⟩
                     · rw [if_neg c24] at H
                       exact absurd H (by simp)
                   · rw [if_neg c23] at H
                     exact absurd H (by simp)
                 · rw [if_neg c22] at H
                   exact absurd H (by simp)
               · rw [if_neg c21] at H
                 have c21b0 : (x5_1 == 3) = false := beq_eq_false_iff_ne.mpr c21
                 have c21b1 : (x5_1 != 3) = true := bne_iff_ne.mpr c21
                 by_cases c25 : FC 65 23 .f64 .f32 t243 = true
                 · rw [if_pos c25] at H
                   have fe25 := fun w => frunc (P := Try.prog) (src := 65) (dst := 23) (by kernel_rfl) Try.underlying23 c25 w
                   have c25b0 : FC 65 23 .f64 .f32 t243 = true := c25
                   clear c25
                   by_cases c26 : FC 65 23 .f64 .f32 t244 = true
                   · rw [if_pos c26] at H
                     have fe26 := fun w => frunc (P := Try.prog) (src := 65) (dst := 23) (by kernel_rfl) Try.underlying23 c26 w
                     have c26b0 : FC 65 23 .f64 .f32 t244 = true := c26
                     clear c26
                     obtain rfl := Option.some.inj H
                     go_wp2_with (first | ((with_reducible refine gate_callee (f := 134) rfl ?_); refine goesL_ (some 29) rfl rfl Try.func134 (by kernel_rfl) rfl #[.float .f64 (fq .sub .f64 4598175219545276416 x4_1)] rfl (by (try simp only [List.map_toArray, List.map_cons, List.map_nil]); first | done | rfl | (simp only [List.length_drop, List.length_take]; rfl)) ?_; (with_reducible refine (impl_sine.calls k1 (fq .sub .f64 4598175219545276416 x4_1) t243 _ A10.out).mono ?_); rintro e w' ⟨rfl, ⟨nd, rfl⟩⟩; refine ⟨_, rfl, ?_⟩) | ((with_reducible refine gate_callee (f := 134) rfl ?_); refine goesL_ (some 31) rfl rfl Try.func134 (by kernel_rfl) rfl #[.float .f64 x4_1] rfl (by (try simp only [List.map_toArray, List.map_cons, List.map_nil]); first | done | rfl | (simp only [List.length_drop, List.length_take]; rfl)) ?_; (with_reducible refine (impl_sine.calls k1 x4_1 t244 _ A11.out).mono ?_); rintro e w' ⟨rfl, ⟨nd, rfl⟩⟩; refine ⟨_, rfl, ?_⟩))
                     go_ret
                     exact ⟨by first | rfl | (simp [errW_none, errW_some] <;> rfl) | (simp [*, errW_none, errW_some] <;> rfl), by repeat (first | (with_reducible first | exact HB.out | apply below_alloc | apply pw_below_drewN | apply below_drew1) | exact HB.out)⟩
                   · rw [if_neg c26] at H
                     exact absurd H (by simp)
                 · rw [if_neg c25] at H
                   exact absurd H (by simp)
         · rw [if_neg c9] at H
           exact absurd H (by simp)
 · replace c3 := Bool.eq_false_iff.mpr c3
   subst c3
   have H1 : ((math_NaN.f).bind fun t240 => (if FC 65 23 .f64 .f32 t240 = true then (some (⟨fc .f64 .f32 t240, fc .f64 .f32 t240⟩ : C64)) else (none))) = some r := by rw [if_neg (show ¬ (false = true) by decide)] at H; exact H
   clear H
   have H := H1
   clear H1
   replace H := Option.bind_eq_some_iff.mp H
   obtain ⟨t240, A270, H⟩ := H
   replace H : (if FC 65 23 .f64 .f32 t240 = true then (some (⟨fc .f64 .f32 t240, fc .f64 .f32 t240⟩ : C64)) else (none)) = some r := H
   have A27 := Aside0.mk A270
   clear A270
   by_cases c28 : FC 65 23 .f64 .f32 t240 = true
   · rw [if_pos c28] at H
     have fe28 := fun w => frunc (P := Try.prog) (src := 65) (dst := 23) (by kernel_rfl) Try.underlying23 c28 w
     have c28b0 : FC 65 23 .f64 .f32 t240 = true := c28
     clear c28
     obtain rfl := Option.some.inj H
     go_enter Try.func114, Try.ntmps114
     go_wp2_with (first | ((with_reducible refine gate_callee (f := 130) rfl ?_); refine goesL_ (some 9) rfl rfl Try.func130 (by kernel_rfl) rfl #[.float .f64 a0] rfl (by (try simp only [List.map_toArray, List.map_cons, List.map_nil]); first | done | rfl | (simp only [List.length_drop, List.length_take]; rfl)) ?_; (with_reducible refine (impl_isFinite64.calls a0 false _ A2.out).mono ?_); rintro e w' ⟨rfl, ⟨nd, rfl⟩⟩; refine ⟨_, rfl, ?_⟩) | ((with_reducible refine gate_callee (f := 131) rfl ?_); refine goesL_ (some 11) rfl rfl Try.func131 (by kernel_rfl) rfl #[] rfl (by (try simp only [List.map_toArray, List.map_cons, List.map_nil]); first | done | rfl | (simp only [List.length_drop, List.length_take]; rfl)) ?_; (with_reducible refine (math_NaN.calls  t240 _ A27.out).mono ?_); rintro e w' ⟨rfl, ⟨nd, rfl⟩⟩; refine ⟨_, rfl, ?_⟩))
     go_ret
     exact ⟨by first | rfl | (simp [errW_none, errW_some] <;> rfl) | (simp [*, errW_none, errW_some] <;> rfl), by repeat (first | (with_reducible first | exact HB.out | apply below_alloc | apply pw_below_drewN | apply below_drew1) | exact HB.out)⟩
   · rw [if_neg c28] at H
     exact absurd H (by simp)

/-! ### impl_steering: function 87 -/
def impl_steering.l0 : Nat → List C64 → List (S88) → Int → Int → Int → Int → Option (List C64)
 | 0, _, _, _, _, _, _ => none
 | k + 1, x5, x9, x10, x11, x246000, x246001 => if x11 < x10 then (if 0 ≤ x11 then (if x11 < (x9.length : Int) then (if FOk .quo .f64 (floatOfInt .f64 (wrap64 ((wrap64 (((rd_T88 x9 x11).f0) * x246000)) + (wrap64 (((rd_T88 x9 x11).f1) * x246001))))) 4661225614328463360 = true then ((impl_PhasorOf.f k (fq .quo .f64 (floatOfInt .f64 (wrap64 ((wrap64 (((rd_T88 x9 x11).f0) * x246000)) + (wrap64 (((rd_T88 x9 x11).f1) * x246001))))) 4661225614328463360)).bind fun t251 => (if x5.length < 17592186044416 then (impl_steering.l0 k (x5 ++ [t251]) x9 x10 (wrap64 (x11 + 1)) x246000 x246001) else (none))) else (none)) else (none)) else (none)) else (some x5)
def impl_steering.f (k : Nat) (l0 : List (S88)) (a1_0 : Int) (a1_1 : Int) : Option (List C64) := impl_steering.l0 k (([] : List C64)) l0 (l0.length : Int) 0 a1_0 a1_1
set_option maxHeartbeats 8000000 in
set_option maxRecDepth 100000 in
theorem impl_steering.calls (k : Nat) (A0 : Option Addr) (c0 : Nat) (l0 : List (S88)) (a1_0 : Int) (a1_1 : Int) (r : List C64) (w : World) (hr0 : Kd.C k88 w A0 l0.length l0) (hc0 : l0.length ≤ c0) (h : impl_steering.f k l0 a1_0 a1_1 = some r) :
 Calls Try.prog 87 #[.slice A0 l0.length c0, .agg #[.int .i64 a1_0, .int .i64 a1_1]] w fun e w' => ∃ v0_ : Value, e = .returned (v0_) ∧ Kd.R Kd.c64e 94 w' w.heap.size (fun _ => True) v0_ r ∧ Below w.heap.size w w' := by
 have hu2 := Try.underlying2
 have hu65 := Try.underlying65
 have hu67 := Try.underlying67
 have hu88 := Try.underlying88
 have HR0 := Aside0.mk hr0
 have HC0 := Aside0.mk hc0
 clear hr0 hc0
 have HB := Aside0.mk (Below.refl w.heap.size w)
 have H : (impl_steering.l0 k (([] : List C64)) l0 (l0.length : Int) 0 a1_0 a1_1) = some r := h
 clear h
 obtain ⟨y246, hy246⟩ : ∃ y_ : List C64, y_ = (([] : List C64)) := ⟨_, rfl⟩
 replace H : (impl_steering.l0 k y246 l0 (l0.length : Int) 0 a1_0 a1_1) = some r := by first | (rw [hy246]; with_reducible exact H) | (have H2_ := (Option.bind_some _ _).symm.trans H; rw [hy246]; with_reducible exact H2_) | (have H2_ := (Option.bind_some _ _).symm.trans H; with_reducible exact H2_) | with_reducible exact H | (rw [hy246]; exact H) | exact H
 have Ny246 := Aside0.mk hy246
 clear hy246
 have H' := Aside0.mk H
 clear H
 go_enter Try.func87, Try.ntmps87
 go_wp2_with (first | ((with_reducible refine gate_dst (N := 3) rfl ?_); refine box_event ?hg (N := 3) ?hd (cs := #[.int .i64 a1_0, .int .i64 a1_1]) (t := 67) ?hr ?_; (case hd => rfl); (case hg => rfl); (case hr => first | (go_simp; done) | (go_simp; rfl)); intro gb245 hg w3 hbox hb; have n0_ := Aside0.mk (below_step (by repeat (first | (with_reducible first | exact HB.out | apply below_alloc | apply pw_below_drewN | apply below_drew1) | exact HB.out)) hb); have n1_ := Aside0.mk (hbox); have n2_ := Aside0.mk ((by rw [hg]; exact (below_size (by repeat (first | (with_reducible first | exact HB.out | apply below_alloc | apply pw_below_drewN | apply below_drew1) | exact HB.out))) : w.heap.size ≤ gb245)); have n3_ := Aside0.mk ((by rw [hg]; exact (below_size (by repeat (first | (with_reducible first | exact HB.out | apply below_alloc | apply pw_below_drewN | apply below_drew1) | exact HB.out))) : w.heap.size ≤ gb245)); clear HB; have HB := n0_; have BK245 := n1_; have GW245 := n2_; have GE245 := n3_; clear n0_ n1_ n2_ n3_; clear hb hbox hg) | ((with_reducible refine gate_dst (N := 8) rfl ?_); refine Kd.R_lit Kd.c64e _ 94 ?hg (N := 8) ?hd (xs := ([] : List C64)) (inner := []) (ok := fun _ => True) (okp := fun _ => True) ?hr ?hp (fun _ hk => hk) trivial (Below.refl _ _) (Nat.le_refl _) (by simp) ?_; (case hd => rfl); (case hg => rfl); (case hr => first | (go_simp; done) | (go_simp; rfl)); (case hp => exact (Reps.none _ _)); intro v247 w4 ho5 hb hg_ hnew_; clear hg_ hnew_; (first | rw [← Ny246.out] at ho5 | (simp only [Int.reduceToNat] at ho5; rw [← Ny246.out] at ho5)); have n0_ := Aside0.mk (Kd.R_lower ho5 (below_size (by repeat (first | (with_reducible first | exact HB.out | apply below_alloc | apply pw_below_drewN | apply below_drew1 | refine below_set ?_ GE245.out) | exact HB.out)))); have n1_ := Aside0.mk (blk_below (g := gb245) (o := .cells #[.int .i64 a1_0, .int .i64 a1_1] 67 (0, 0)) (by (with_reducible repeat (first | refine blk_drewN ?_ _ | refine blk_drew ?_ | refine blk_alloc ?_ _)); exact BK245.out) hb); have n2_ := Aside0.mk (below_step (by repeat (first | (with_reducible first | exact HB.out | apply below_alloc | apply pw_below_drewN | apply below_drew1 | refine below_set ?_ GE245.out) | exact HB.out)) hb); clear BK245; clear HB; have HO248 := n0_; have BK245 := n1_; have HB := n2_; clear n0_ n1_ n2_; clear hb ho5))
 go_loopg [5, 11] k (fun kq v5 v11 w' => ∃ (x5_1 : List C64) (x11_1 : Int), v11 = .int .i64 x11_1 ∧ Aside0 (impl_steering.l0 kq x5_1 l0 (l0.length : Int) x11_1 a1_0 a1_1 = some r) ∧ Aside0 (kq ≤ k) ∧ Aside0 (Kd.R Kd.c64e 94 w' w.heap.size (fun _ => True) v5 x5_1) ∧ Aside0 (w'.heap[gb245]? = some (.cells #[.int .i64 a1_0, .int .i64 a1_1] 67 (0, 0))) ∧ Aside0 (Below w.heap.size w w'))
 case atStart => exact ⟨(y246), (0), (by first | rfl | (simp; done) | (simp [*]; done)), H', ⟨Nat.le_refl _⟩, ⟨by (with_reducible repeat (first | apply Kd.R_alloc | apply Kd.R_drewN | apply Kd.R_drew)); exact HO248.out⟩, ⟨by (with_reducible repeat (first | refine blk_drewN ?_ _ | refine blk_drew ?_ | refine blk_alloc ?_ _)); exact BK245.out⟩, ⟨by repeat (first | (with_reducible first | exact HB.out | apply below_alloc | apply pw_below_drewN | apply below_drew1 | refine below_set ?_ GE245.out) | exact HB.out)⟩⟩
 case round =>
  clear H'
  (try clear p2)
  obtain ⟨x5_1, x11_1, rfl, HA, HK1, HO_5, BK245, HB⟩ := hrel
  cases gk with
  | zero => exact absurd HA.out (by simp [impl_steering.l0])
  | succ k1 =>
   have H := HA.out
   clear HA
   simp only [impl_steering.l0] at H
   by_cases c6 : x11_1 < (l0.length : Int)
   · rw [if_pos c6] at H
     have c6b0 : decide (x11_1 < (l0.length : Int)) = true := decide_eq_true c6
     clear c6
     by_cases c7 : 0 ≤ x11_1
     · rw [if_pos c7] at H
       have c7b0 : decide (0 ≤ x11_1) = true := decide_eq_true c7
       clear c7
       by_cases c8 : x11_1 < (l0.length : Int)
       · rw [if_pos c8] at H
         have c8b0 : decide (x11_1 < (l0.length : Int)) = true := decide_eq_true c8
         clear c8
         by_cases c9 : FOk .quo .f64 (floatOfInt .f64 (wrap64 ((wrap64 (((rd_T88 l0 x11_1).f0) * a1_0)) + (wrap64 (((rd_T88 l0 x11_1).f1) * a1_1))))) 4661225614328463360 = true
         · rw [if_pos c9] at H
           have fe9 := fun t w => frun (P := Try.prog) c9 t w
           have c9b0 : FOk .quo .f64 (floatOfInt .f64 (wrap64 ((wrap64 (((rd_T88 l0 x11_1).f0) * a1_0)) + (wrap64 (((rd_T88 l0 x11_1).f1) * a1_1))))) 4661225614328463360 = true := c9
           clear c9
           replace H := Option.bind_eq_some_iff.mp H
           obtain ⟨t251, A100, H⟩ := H
           replace H : (if x5_1.length < 17592186044416 then (impl_steering.l0 k1 (x5_1 ++ [t251]) l0 (l0.length : Int) (wrap64 (x11_1 + 1)) a1_0 a1_1) else (none)) = some r := H
           have A10 := Aside0.mk A100
           clear A100
           by_cases c11 : x5_1.length < 17592186044416
           · rw [if_pos c11] at H
             have LMc11 := Aside0.mk c11
             clear c11
             obtain ⟨y252, hy252⟩ : ∃ y_ : List C64, y_ = (x5_1 ++ [t251]) := ⟨_, rfl⟩
             replace H : (impl_steering.l0 k1 y252 l0 (l0.length : Int) (wrap64 (x11_1 + 1)) a1_0 a1_1) = some r := by first | (rw [hy252]; with_reducible exact H) | (have H2_ := (Option.bind_some _ _).symm.trans H; rw [hy252]; with_reducible exact H2_) | (have H2_ := (Option.bind_some _ _).symm.trans H; with_reducible exact H2_) | with_reducible exact H | (rw [hy252]; exact H) | exact H
             have Ny252 := Aside0.mk hy252
             clear hy252
             have H' := Aside0.mk H
             clear H
             have p249 : 0 ≤ (x11_1 : Int) := of_decide_eq_true (by first | (with_reducible assumption) | assumption)
             have q249 : x11_1 < (l0.length : Int) := of_decide_eq_true (by first | (with_reducible assumption) | assumption)
             obtain ⟨ad249, e249, hx249_0, hx249_1⟩ := at_T88 HR0.out x11_1 p249 q249
             cases e249
             replace hx249_0 := (HB.out.cell (World.block_lt_of_cell? w _ hx249_0)).trans hx249_0
             replace hx249_1 := (HB.out.cell (World.block_lt_of_cell? w _ hx249_1)).trans hx249_1
             replace p249 := eq_true p249
             replace q249 := eq_true q249
             go_wp2_with (first | ((with_reducible refine gate_dst (N := 7) rfl ?_); refine box_event ?hg (N := 7) ?hd (cs := #[.int .i64 0, .int .i64 0]) (t := 88) ?hr ?_; (case hd => rfl); (case hg => rfl); (case hr => first | (go_simp; done) | (go_simp; rfl)); intro gb250 hg w12 hbox hb; have n0_ := Aside0.mk (Kd.R_below (by (with_reducible repeat (first | apply Kd.R_alloc | apply Kd.R_drewN | apply Kd.R_drew)); exact HO_5.out) hb); have n1_ := Aside0.mk (blk_below (g := gb245) (o := .cells #[.int .i64 a1_0, .int .i64 a1_1] 67 (0, 0)) (by (with_reducible repeat (first | refine blk_drewN ?_ _ | refine blk_drew ?_ | refine blk_alloc ?_ _)); exact BK245.out) hb); have n2_ := Aside0.mk (below_step (by repeat (first | (with_reducible first | exact HB.out | apply below_alloc | apply pw_below_drewN | apply below_drew1 | refine below_set ?_ GE245.out) | exact HB.out)) hb); have n3_ := Aside0.mk (hbox); have n4_ := Aside0.mk ((by rw [hg]; exact (below_size (by repeat (first | (with_reducible first | exact HB.out | apply below_alloc | apply pw_below_drewN | apply below_drew1 | refine below_set ?_ GE245.out) | exact HB.out))) : w.heap.size ≤ gb250)); have n5_ := Aside0.mk ((by rw [hg]; exact (below_size (by repeat (first | (with_reducible first | exact HB.out | apply below_alloc | apply pw_below_drewN | apply below_drew1 | refine below_set ?_ GE245.out) | exact HB.out))) : w.heap.size ≤ gb250)); have n6_ := Aside0.mk ((by rw [hg]; exact Nat.ne_of_lt (blk_lt (g := gb245) (o := .cells #[.int .i64 a1_0, .int .i64 a1_1] 67 (0, 0)) (by (with_reducible repeat (first | refine blk_drewN ?_ _ | refine blk_drew ?_ | refine blk_alloc ?_ _)); exact BK245.out)) : gb245 ≠ gb250)); have n7_ := Aside0.mk ((by rw [hg]; exact Nat.ne_of_gt (blk_lt (g := gb245) (o := .cells #[.int .i64 a1_0, .int .i64 a1_1] 67 (0, 0)) (by (with_reducible repeat (first | refine blk_drewN ?_ _ | refine blk_drew ?_ | refine blk_alloc ?_ _)); exact BK245.out)) : gb250 ≠ gb245)); clear HO_5; clear BK245; clear HB; have HO_5 := n0_; have BK245 := n1_; have HB := n2_; have BK250 := n3_; have GW250 := n4_; have GE250 := n5_; have NB245_250 := n6_; have NB250_245 := n7_; clear n0_ n1_ n2_ n3_ n4_ n5_ n6_ n7_; clear hb hbox hg; have hnb13 := NB250_245.out; have hnc13 := NB245_250.out; have hcz14_0 : w12.cell? ⟨gb250, 0, none⟩ = some (.int .i64 0) := (blk_cell BK250.out 0).trans rfl; have hcz14_1 : w12.cell? ⟨gb250, 1, none⟩ = some (.int .i64 0) := (blk_cell BK250.out 1).trans rfl; have hfz14_0 := blk_frozen BK250.out 0; have hfz14_1 := blk_frozen BK250.out 1; have hcz15_0 : w12.cell? ⟨gb245, 0, none⟩ = some (.int .i64 a1_0) := (blk_cell BK245.out 0).trans rfl; have hcz15_1 : w12.cell? ⟨gb245, 1, none⟩ = some (.int .i64 a1_1) := (blk_cell BK245.out 1).trans rfl; have hfz15_0 := blk_frozen BK245.out 0; have hfz15_1 := blk_frozen BK245.out 1) | ((with_reducible refine gate_callee (f := 114) rfl ?_); refine goesL_ (some 29) rfl rfl Try.func114 (by kernel_rfl) rfl #[.float .f64 (fq .quo .f64 (floatOfInt .f64 (wrap64 ((wrap64 (((rd_T88 l0 x11_1).f0) * a1_0)) + (wrap64 (((rd_T88 l0 x11_1).f1) * a1_1))))) 4661225614328463360)] rfl (by (try simp only [List.map_toArray, List.map_cons, List.map_nil]); first | done | rfl | (simp only [List.length_drop, List.length_take]; rfl)) ?_; (with_reducible refine (impl_PhasorOf.calls k1 (fq .quo .f64 (floatOfInt .f64 (wrap64 ((wrap64 (((rd_T88 l0 x11_1).f0) * a1_0)) + (wrap64 (((rd_T88 l0 x11_1).f1) * a1_1))))) 4661225614328463360) t251 _ A10.out).mono ?_); rintro e w16 ⟨rfl, hb⟩; refine ⟨_, rfl, ?_⟩; have n0_ := Aside0.mk (Kd.R_below (by (with_reducible repeat (first | apply Kd.R_alloc | apply Kd.R_drewN | apply Kd.R_drew)); exact (Kd.R_mono (Kd.R_far (p := ⟨gb250, 1, none⟩) (Kd.R_far (p := ⟨gb250, 0, none⟩) (Kd.R_types HO_5.out BK250.out (by decide)) (fun _ hk => hk.2) (.int .i64 ((rd_T88 l0 x11_1).f0))) (fun _ hk => hk.2) (.int .i64 ((rd_T88 l0 x11_1).f1))) (fun _ h_ => h_.1))) hb); have n1_ := Aside0.mk (blk_below (g := gb245) (o := .cells #[.int .i64 a1_0, .int .i64 a1_1] 67 (0, 0)) (by (with_reducible repeat (first | refine blk_drewN ?_ _ | refine blk_drew ?_ | refine blk_alloc ?_ _)); refine blk_far ?_ NB245_250.out _; (with_reducible repeat (first | refine blk_drewN ?_ _ | refine blk_drew ?_ | refine blk_alloc ?_ _)); refine blk_far ?_ NB245_250.out _; (with_reducible repeat (first | refine blk_drewN ?_ _ | refine blk_drew ?_ | refine blk_alloc ?_ _)); exact BK245.out) hb); have n2_ := Aside0.mk (blk_below (g := gb250) (o := .cells #[.int .i64 ((rd_T88 l0 x11_1).f0), .int .i64 ((rd_T88 l0 x11_1).f1)] 88 (0, 0)) (by (with_reducible repeat (first | refine blk_drewN ?_ _ | refine blk_drew ?_ | refine blk_alloc ?_ _)); refine blk_put (cs := #[.int .i64 ((rd_T88 l0 x11_1).f0), .int .i64 0]) ?_ 1 _ rfl; (with_reducible repeat (first | refine blk_drewN ?_ _ | refine blk_drew ?_ | refine blk_alloc ?_ _)); refine blk_put (cs := #[.int .i64 0, .int .i64 0]) ?_ 0 _ rfl; (with_reducible repeat (first | refine blk_drewN ?_ _ | refine blk_drew ?_ | refine blk_alloc ?_ _)); exact BK250.out) hb); have n3_ := Aside0.mk (below_step (by repeat (first | (with_reducible first | exact HB.out | apply below_alloc | apply pw_below_drewN | apply below_drew1 | refine below_set ?_ GE245.out | refine below_set ?_ GE250.out) | exact HB.out)) hb); clear HO_5; clear BK245; clear BK250; clear HB; have HO_5 := n0_; have BK245 := n1_; have BK250 := n2_; have HB := n3_; clear n0_ n1_ n2_ n3_; (try clear hb); (try clear hb2); (try clear hk); (try clear hi)) | ((with_reducible refine gate_builtin (b := .append) (xs := #[.tmp 15, .tmp 30]) rfl ?_); at_builtin; refine Kd.R_append Kd.c64e (w0 := w) w.heap.size rfl (.tmp 15) (.tmp 30) 45 94 (.complex .f32 0 0) 8 rfl Try.underlying45 info94 rfl (by decide) (by omega) u5 x5_1 t251 [.complex .f32 t251.re t251.im] (fun _ => True) (fun _ => False) rfl rfl ?aP (fun _ hk => hk.elim) ?aF ?aO ?aB ?aS ?aL ?_; (case aP => exact rfl); (case aB => exact (by repeat (first | (with_reducible first | exact HB.out | apply below_alloc | apply pw_below_drewN | apply below_drew1 | refine below_set ?_ GE245.out | refine below_set ?_ GE250.out) | exact HB.out))); (case aF => exact (fun _ _ => trivial)); (case aO => exact (by (with_reducible repeat (first | apply Kd.R_alloc | apply Kd.R_drewN | apply Kd.R_drew)); exact HO_5.out)); (case aS => exact (below_size (by repeat (first | (with_reducible first | exact HB.out | apply below_alloc | apply pw_below_drewN | apply below_drew1 | refine below_set ?_ GE245.out | refine below_set ?_ GE250.out) | exact HB.out)))); (case aL => have := LMc11.out; omega); intro v253 w17 ho hb hg hat; rw [← Ny252.out] at ho; have n0_ := Aside0.mk (blk_grown (g := gb245) (o := .cells #[.int .i64 a1_0, .int .i64 a1_1] 67 (0, 0)) (by (with_reducible repeat (first | refine blk_drewN ?_ _ | refine blk_drew ?_ | refine blk_alloc ?_ _)); exact BK245.out) hg (Kd.R_ne HO_5.out BK245.out (by decide))); have n1_ := Aside0.mk (blk_grown (g := gb250) (o := .cells #[.int .i64 ((rd_T88 l0 x11_1).f0), .int .i64 ((rd_T88 l0 x11_1).f1)] 88 (0, 0)) (by (with_reducible repeat (first | refine blk_drewN ?_ _ | refine blk_drew ?_ | refine blk_alloc ?_ _)); exact BK250.out) hg (Kd.R_ne HO_5.out BK250.out (by decide))); have n2_ := Aside0.mk (hb); have n3_ := Aside0.mk (ho); clear BK245; clear BK250; clear HB; clear HO_5; have BK245 := n0_; have BK250 := n1_; have HB := n2_; have HO254 := n3_; clear n0_ n1_ n2_ n3_; clear ho hb hg hat))
             go_roundg k1
             case measure => have := HK1.out; omega
             case rel => exact ⟨(y252), (wrap64 (x11_1 + 1)), (by first | rfl | (simp; done) | (simp [*]; done)), H', ⟨by have := HK1.out; omega⟩, ⟨by (with_reducible repeat (first | apply Kd.R_alloc | apply Kd.R_drewN | apply Kd.R_drew)); exact HO254.out⟩, ⟨by (with_reducible repeat (first | refine blk_drewN ?_ _ | refine blk_drew ?_ | refine blk_alloc ?_ _)); exact BK245.out⟩, ⟨by repeat (first | (with_reducible first | exact HB.out | apply below_alloc | apply pw_below_drewN | apply below_drew1 | refine below_set ?_ GE245.out | refine below_set ?_ GE250.out) | exact HB.out)⟩⟩
           · rw [if_neg c11] at H
             exact absurd H (by simp)
         · rw [if_neg c9] at H
           exact absurd H (by simp)
       · rw [if_neg c8] at H
         exact absurd H (by simp)
     · rw [if_neg c7] at H
       exact absurd H (by simp)
   · rw [if_neg c6] at H
     have c6b0 : decide (x11_1 < (l0.length : Int)) = false := decide_eq_false c6
     clear c6
     obtain rfl := Option.some.inj H
     go_wp2
     go_ret
     exact ⟨_, by first | rfl | (simp [errW_none, errW_some] <;> rfl) | (simp [*, errW_none, errW_some] <;> rfl), by (with_reducible repeat (first | apply Kd.R_alloc | apply Kd.R_drewN | apply Kd.R_drew)); exact HO_5.out, by repeat (first | (with_reducible first | exact HB.out | apply below_alloc | apply pw_below_drewN | apply below_drew1 | refine below_set ?_ GE245.out) | exact HB.out)⟩

/-! ### impl_add: function 88 -/
def impl_add.f (a0 a1 : C64) : Option C64 := some (addC a0 a1)
set_option maxHeartbeats 8000000 in
set_option maxRecDepth 100000 in
theorem impl_add.calls (b0 b1 a0 a1 : C64) (h0 : SameC b0 a0) (h1 : SameC b1 a1) (r : C64) (w : World) (h : impl_add.f a0 a1 = some r) :
 Calls Try.prog 88 #[.complex .f32 b0.re b0.im, .complex .f32 b1.re b1.im] w fun e w' => ∃ q : C64, SameC q r ∧ e = .returned (.complex .f32 q.re q.im) ∧ Below w.heap.size w w' := by
 obtain rfl := Option.some.inj h
 have hm := fun t x y W => run_any (P := Try.prog) (op := .add) (.inl rfl) t .f32 x y W
 have HB := Below.refl w.heap.size w
 go_enter Try.func88, Try.ntmps88
 go_wp2
 go_ret
 exact ⟨⟨_, _⟩, ⟨same_rv h0.1 h1.1 _, same_rv h0.2 h1.2 _⟩, rfl, by repeat (first | exact HB | apply pw_below_drewN | apply below_drew1)⟩

/-! ### impl_parts: function 115 -/
def impl_parts.f (a0 : C64) : Option (Nat × Nat) := if FC 23 65 .f32 .f64 a0.re = true then (if FC 23 65 .f32 .f64 a0.im = true then (some (fc .f32 .f64 a0.re, fc .f32 .f64 a0.im)) else (none)) else (none)
set_option maxHeartbeats 8000000 in
set_option maxRecDepth 100000 in
theorem impl_parts.calls (a0 : C64) (r1 : Nat) (r2 : Nat) (w : World) (h : impl_parts.f a0 = some (r1, r2)) :
 Calls Try.prog 115 #[.complex .f32 a0.re a0.im] w fun e w' => e = .returned (.tuple #[.float .f64 r1, .float .f64 r2]) ∧ Below w.heap.size w w' := by
 have hu23 := Try.underlying23
 have hu65 := Try.underlying65
 have HB := Aside0.mk (Below.refl w.heap.size w)
 have H : (if FC 23 65 .f32 .f64 a0.re = true then (if FC 23 65 .f32 .f64 a0.im = true then (some (fc .f32 .f64 a0.re, fc .f32 .f64 a0.im)) else (none)) else (none)) = some (r1, r2) := h
 clear h
 by_cases c2 : FC 23 65 .f32 .f64 a0.re = true
 · rw [if_pos c2] at H
   have fe2 := fun w => frunc (P := Try.prog) (src := 23) (dst := 65) (by kernel_rfl) Try.underlying65 c2 w
   have c2b0 : FC 23 65 .f32 .f64 a0.re = true := c2
   clear c2
   by_cases c3 : FC 23 65 .f32 .f64 a0.im = true
   · rw [if_pos c3] at H
     have fe3 := fun w => frunc (P := Try.prog) (src := 23) (dst := 65) (by kernel_rfl) Try.underlying65 c3 w
     have c3b0 : FC 23 65 .f32 .f64 a0.im = true := c3
     clear c3
     simp only [Option.some.injEq, Prod.mk.injEq] at H
     obtain ⟨rfl, rfl⟩ := H
     go_enter Try.func115, Try.ntmps115
     go_wp2
     go_ret2
     exact ⟨by first | rfl | (simp [errW_none, errW_some] <;> rfl) | (simp [*, errW_none, errW_some] <;> rfl), by repeat (first | (with_reducible first | exact HB.out | apply below_alloc | apply pw_below_drewN | apply below_drew1) | exact HB.out)⟩
   · rw [if_neg c3] at H
     exact absurd H (by simp)
 · rw [if_neg c2] at H
   exact absurd H (by simp)

/-! ### impl_times: function 116 -/
def impl_times.f (a0 : Nat) (a1 : Nat) (a2 : Nat) (a3 : Nat) : Option (Nat × Nat) := if FOk .mul .f64 a0 a2 = true then (if FOk .mul .f64 a1 a3 = true then (if FOk .sub .f64 (fq .mul .f64 a0 a2) (fq .mul .f64 a1 a3) = true then (if FOk .mul .f64 a0 a3 = true then (if FOk .mul .f64 a1 a2 = true then (if FOk .add .f64 (fq .mul .f64 a0 a3) (fq .mul .f64 a1 a2) = true then (some (fq .sub .f64 (fq .mul .f64 a0 a2) (fq .mul .f64 a1 a3), fq .add .f64 (fq .mul .f64 a0 a3) (fq .mul .f64 a1 a2))) else (none)) else (none)) else (none)) else (none)) else (none)) else (none)
set_option maxHeartbeats 8000000 in
set_option maxRecDepth 100000 in
theorem impl_times.calls (a0 : Nat) (a1 : Nat) (a2 : Nat) (a3 : Nat) (r1 : Nat) (r2 : Nat) (w : World) (h : impl_times.f a0 a1 a2 a3 = some (r1, r2)) :
 Calls Try.prog 116 #[.float .f64 a0, .float .f64 a1, .float .f64 a2, .float .f64 a3] w fun e w' => e = .returned (.tuple #[.float .f64 r1, .float .f64 r2]) ∧ Drawn0 w w' := by
 have H : (if FOk .mul .f64 a0 a2 = true then (if FOk .mul .f64 a1 a3 = true then (if FOk .sub .f64 (fq .mul .f64 a0 a2) (fq .mul .f64 a1 a3) = true then (if FOk .mul .f64 a0 a3 = true then (if FOk .mul .f64 a1 a2 = true then (if FOk .add .f64 (fq .mul .f64 a0 a3) (fq .mul .f64 a1 a2) = true then (some (fq .sub .f64 (fq .mul .f64 a0 a2) (fq .mul .f64 a1 a3), fq .add .f64 (fq .mul .f64 a0 a3) (fq .mul .f64 a1 a2))) else (none)) else (none)) else (none)) else (none)) else (none)) else (none)) = some (r1, r2) := h
 clear h
 by_cases c5 : FOk .mul .f64 a0 a2 = true
 · rw [if_pos c5] at H
   have fe5 := fun t w => frun (P := Try.prog) c5 t w
   have c5b0 : FOk .mul .f64 a0 a2 = true := c5
   clear c5
   by_cases c6 : FOk .mul .f64 a1 a3 = true
   · rw [if_pos c6] at H
     have fe6 := fun t w => frun (P := Try.prog) c6 t w
     have c6b0 : FOk .mul .f64 a1 a3 = true := c6
     clear c6
     by_cases c7 : FOk .sub .f64 (fq .mul .f64 a0 a2) (fq .mul .f64 a1 a3) = true
     · rw [if_pos c7] at H
       have fe7 := fun t w => frun (P := Try.prog) c7 t w
       have c7b0 : FOk .sub .f64 (fq .mul .f64 a0 a2) (fq .mul .f64 a1 a3) = true := c7
       clear c7
       by_cases c8 : FOk .mul .f64 a0 a3 = true
       · rw [if_pos c8] at H
         have fe8 := fun t w => frun (P := Try.prog) c8 t w
         have c8b0 : FOk .mul .f64 a0 a3 = true := c8
         clear c8
         by_cases c9 : FOk .mul .f64 a1 a2 = true
         · rw [if_pos c9] at H
           have fe9 := fun t w => frun (P := Try.prog) c9 t w
           have c9b0 : FOk .mul .f64 a1 a2 = true := c9
           clear c9
           by_cases c10 : FOk .add .f64 (fq .mul .f64 a0 a3) (fq .mul .f64 a1 a2) = true
           · rw [if_pos c10] at H
             have fe10 := fun t w => frun (P := Try.prog) c10 t w
             have c10b0 : FOk .add .f64 (fq .mul .f64 a0 a3) (fq .mul .f64 a1 a2) = true := c10
             clear c10
             simp only [Option.some.injEq, Prod.mk.injEq] at H
             obtain ⟨rfl, rfl⟩ := H
             go_enter Try.func116, Try.ntmps116
             go_wp2
             go_ret2
             exact ⟨by first | rfl | (simp; done) | (simp [*]; done), by repeat (first | exact Drawn0.refl _ | apply Drawn0.step)⟩
           · rw [if_neg c10] at H
             exact absurd H (by simp)
         · rw [if_neg c9] at H
           exact absurd H (by simp)
       · rw [if_neg c8] at H
         exact absurd H (by simp)
     · rw [if_neg c7] at H
       exact absurd H (by simp)
   · rw [if_neg c6] at H
     exact absurd H (by simp)
 · rw [if_neg c5] at H
   exact absurd H (by simp)

/-! ### impl_MulComplex: function 89 -/
def impl_MulComplex.f (a0 a1 : C64) : Option C64 := mulC a0 a1
set_option maxRecDepth 100000 in
theorem parts_any (b a : C64) (hb : SameC b a) (w : World) : Calls Try.prog 115 #[.complex .f32 b.re b.im] w fun e w' => ∃ q : C64, SameD q ⟨nc .f32 .f64 a.re, nc .f32 .f64 a.im⟩ ∧ e = .returned (.tuple #[.float .f64 q.re, .float .f64 q.im]) ∧ Drawn0 w w' := by
 have hc := fun x W => run_conv_any (P := Try.prog) (src := 23) (dst := 65) (s := .f32) (k := .f64) Try.underlying23 Try.underlying65 (by decide) x W
 go_enter Try.func115, Try.ntmps115
 go_wp2
 go_ret2
 exact ⟨⟨_, _⟩, ⟨same_wide hb.1 _, same_wide hb.2 _⟩, rfl, ⟨⟨_, rfl⟩⟩⟩
set_option maxRecDepth 100000 in
theorem times_any (b c x y : C64) (hb : SameD b x) (hc : SameD c y) (w : World) : Calls Try.prog 116 #[.float .f64 b.re, .float .f64 b.im, .float .f64 c.re, .float .f64 c.im] w fun e w' => ∃ q : C64, SameD q ⟨nq .sub .f64 (nq .mul .f64 x.re y.re) (nq .mul .f64 x.im y.im), nq .add .f64 (nq .mul .f64 x.re y.im) (nq .mul .f64 x.im y.re)⟩ ∧ e = .returned (.tuple #[.float .f64 q.re, .float .f64 q.im]) ∧ Drawn0 w w' := by
 have hm := fun t x y W => run_any (P := Try.prog) (op := .mul) (.inr (.inr (.inl rfl))) t .f64 x y W
 have ha := fun t x y W => run_any (P := Try.prog) (op := .add) (.inl rfl) t .f64 x y W
 have hs := fun t x y W => run_any (P := Try.prog) (op := .sub) (.inr (.inl rfl)) t .f64 x y W
 go_enter Try.func116, Try.ntmps116
 go_wp2
 go_ret2
 exact ⟨⟨_, _⟩, ⟨same_rv (same_rv hb.1 hc.1 _) (same_rv hb.2 hc.2 _) _, same_rv (same_rv hb.1 hc.2 _) (same_rv hb.2 hc.1 _) _⟩, rfl, ⟨⟨_, rfl⟩⟩⟩
set_option maxHeartbeats 8000000 in
set_option maxRecDepth 100000 in
theorem impl_MulComplex.calls (b0 b1 a0 a1 : C64) (h0 : SameC b0 a0) (h1 : SameC b1 a1) (r : C64) (w : World) (h : impl_MulComplex.f a0 a1 = some r) :
 Calls Try.prog 89 #[.complex .f32 b0.re b0.im, .complex .f32 b1.re b1.im] w fun e w' => ∃ q : C64, SameC q r ∧ e = .returned (.complex .f32 q.re q.im) ∧ Below w.heap.size w w' := by
 unfold impl_MulComplex.f mulC at h
 by_cases hn : NarOk (mulR a0 a1) = true ∧ NarOk (mulI a0 a1) = true
 · rw [if_pos hn] at h
   obtain rfl := Option.some.inj h
   have HB := Below.refl w.heap.size w
   have hc := fun x W => run_conv_any (P := Try.prog) (src := 65) (dst := 23) (s := .f64) (k := .f32) Try.underlying65 Try.underlying23 (by decide) x W
   go_enter Try.func89, Try.ntmps89
   go_wp2_with fail
   refine (parts_any b0 a0 h0 _).mono ?_
   rintro e w1 ⟨q1, hq1, rfl, ⟨⟨n1, rfl⟩⟩⟩
   go_wp2_with fail
   refine (parts_any b1 a1 h1 _).mono ?_
   rintro e w2 ⟨q2, hq2, rfl, ⟨⟨n2, rfl⟩⟩⟩
   go_wp2_with fail
   refine (times_any q1 q2 _ _ hq1 hq2 _).mono ?_
   rintro e w3 ⟨q3, hq3, rfl, ⟨⟨n3, rfl⟩⟩⟩
   go_wp2_with fail
   go_ret
   exact ⟨⟨_, _⟩, ⟨same_narrow hq3.1 hn.1 _, same_narrow hq3.2 hn.2 _⟩, rfl, by repeat (first | exact HB | apply pw_below_drewN | apply below_drew1)⟩
 · rw [if_neg hn] at h; cases h

/-! ### impl_noise: function 90 -/
/-- One part of the noise. -/
def partF (a0 k : Int) : Option Nat := (impl_draw.f a0 k).bind fun d => if FOk .sub .f32 (floatOfInt .f32 d) 1182793728 = true then (if FOk .quo .f32 (fq .sub .f32 (floatOfInt .f32 d) 1182793728) 1182793728 = true then some (fq .quo .f32 (fq .sub .f32 (floatOfInt .f32 d) 1182793728) 1182793728) else none) else none
def impl_noise.f (a0 a1 a2 : Int) (a3 : Nat) : Option C64 := (partF a0 (wrap64 (2 * wrap64 (wrap64 (wrap64 (16 * a1) + a2) + 1000000)))).bind fun x => (partF a0 (wrap64 (wrap64 (2 * wrap64 (wrap64 (wrap64 (16 * a1) + a2) + 1000000)) + 1))).bind fun y => some (scaleC ⟨x, y⟩ a3)
set_option maxHeartbeats 8000000 in
set_option maxRecDepth 100000 in
theorem part_calls (a0 k : Int) (ad : Addr) (r : Nat) (w : World) (hcell : w.cell? ad = some (.int .i64 a0)) (h : partF a0 k = some r) :
 Calls Try.prog 117 #[.int .i64 k, .pointer (some ad)] w fun e w' => e = .returned (.float .f32 r) ∧ Drawn0 w w' := by
 obtain ⟨d, hd, h⟩ := Option.bind_eq_some_iff.1 h
 by_cases c1 : FOk .sub .f32 (floatOfInt .f32 d) 1182793728 = true
 · rw [if_pos c1] at h
   by_cases c2 : FOk .quo .f32 (fq .sub .f32 (floatOfInt .f32 d) 1182793728) 1182793728 = true
   · rw [if_pos c2] at h
     obtain rfl := Option.some.inj h
     have hu2 := Try.underlying2
     have hu23 := Try.underlying23
     have f1 := fun t w => frun (P := Try.prog) c1 t w
     have f2 := fun t w => frun (P := Try.prog) c2 t w
     go_enter Try.func117, Try.ntmps117
     go_wp2_with fail
     refine (impl_draw.calls a0 k d _ hd).mono ?_
     rintro e w1 ⟨rfl, ⟨⟨n1, rfl⟩⟩⟩
     go_wp2_with fail
     go_ret
     exact ⟨rfl, ⟨⟨_, rfl⟩⟩⟩
   · rw [if_neg c2] at h; cases h
 · rw [if_neg c1] at h; cases h
set_option maxHeartbeats 8000000 in
set_option maxRecDepth 100000 in
theorem impl_noise.calls (a0 a1 a2 : Int) (a3 : Nat) (r : C64) (w : World) (h : impl_noise.f a0 a1 a2 a3 = some r) :
 Calls Try.prog 90 #[.int .i64 a0, .int .i64 a1, .int .i64 a2, .float .f32 a3] w fun e w' => ∃ q : C64, SameC q r ∧ e = .returned (.complex .f32 q.re q.im) ∧ Below w.heap.size w w' := by
 obtain ⟨x, hx, h⟩ := Option.bind_eq_some_iff.1 h
 obtain ⟨y, hy, h⟩ := Option.bind_eq_some_iff.1 h
 obtain rfl := Option.some.inj h
 have HB := below_alloc (Below.refl w.heap.size w) (.cells #[.int .i64 a0] 2)
 have hcell : (w.alloc (.cells #[.int .i64 a0] 2)).cell? ⟨w.heap.size, 0, none⟩ = some (.int .i64 a0) := (blk_cell (heap_alloc_new w (.cells #[.int .i64 a0] 2)) 0).trans rfl
 go_enter Try.func90, Try.ntmps90
 go_wp2_with fail
 refine (part_calls a0 _ _ x _ hcell hx).mono ?_
 rintro e w1 ⟨rfl, ⟨⟨n1, rfl⟩⟩⟩
 go_wp2_with fail
 refine (part_calls a0 _ _ y _ ((World.cell?_drewN _ _ _).trans hcell) hy).mono ?_
 rintro e w2 ⟨rfl, ⟨⟨n2, rfl⟩⟩⟩
 go_wp2_with fail
 refine (impl_ScaleComplex.calls ⟨x, y⟩ a3 _ _ rfl).mono ?_
 rintro e w3 ⟨q, hq, rfl, hb⟩
 go_wp2_with fail
 go_ret
 exact ⟨q, hq, rfl, below_step (pw_below_drewN HB _) hb⟩

/-! ### impl_snapshot: function 62 -/
-- rounds
mutual
def impl_snapshot.l0 : Nat → List (S88) → Nat → Int → Int → List C64 → List (S69) → Int → Int → Option (List C64)
 | 0, _, _, _, _, _, _, _, _ => none
 | k + 1, x0, x2, x3, x4, x11, x21, x22, x23 => if x23 < x22 then (if 0 ≤ x23 then (if x23 < (x21.length : Int) then ((impl_symbol.f ((rd_T69 x21 x23).f2) x4).bind fun t258 => ((impl_ScaleComplex.f t258 ((rd_T69 x21 x23).f1)).bind fun t259 => ((impl_steering.f k x0 ((rd_T69 x21 x23).f0.f0) ((rd_T69 x21 x23).f0.f1)).bind fun t260 => (impl_snapshot.l1 k x0 x2 x3 x4 x11 t259 x21 x22 x23 t260 (t260.length : Int) 0)))) else (none)) else (none)) else (impl_snapshot.l2 k x2 x3 x4 x11 (x11.length : Int) 0)
def impl_snapshot.l1 : Nat → List (S88) → Nat → Int → Int → List C64 → C64 → List (S69) → Int → Int → List C64 → Int → Int → Option (List C64)
 | 0, _, _, _, _, _, _, _, _, _, _, _, _ => none
 | k + 1, x0, x2, x3, x4, x11, x14, x21, x22, x23, x37, x38, x39 => if x39 < x38 then (if 0 ≤ x39 then (if x39 < (x37.length : Int) then (if x39 < (x11.length : Int) then ((impl_MulComplex.f x14 (rdOf c64z x37 x39)).bind fun t265 => ((impl_add.f (rdOf c64z x11 x39) t265).bind fun t266 => (impl_snapshot.l1 k x0 x2 x3 x4 (x11.set (x39 : Int).toNat t266) x14 x21 x22 x23 x37 x38 (wrap64 (x39 + 1))))) else (none)) else (none)) else (none)) else (impl_snapshot.l0 k x0 x2 x3 x4 x11 x21 x22 (wrap64 (x23 + 1)))
def impl_snapshot.l2 : Nat → Nat → Int → Int → List C64 → Int → Int → Option (List C64)
 | 0, _, _, _, _, _, _ => none
 | k + 1, x2, x3, x4, x11, x58, x59 => if x59 < x58 then (if 0 ≤ x59 then (if x59 < (x11.length : Int) then ((impl_noise.f x3 x4 x59 x2).bind fun t269 => ((impl_add.f (rdOf c64z x11 x59) t269).bind fun t270 => (impl_snapshot.l2 k x2 x3 x4 (x11.set (x59 : Int).toNat t270) x58 (wrap64 (x59 + 1))))) else (none)) else (none)) else (some x11)
end
def impl_snapshot.f (k : Nat) (l0 : List (S88)) (l1 : List (S69)) (a2 : Nat) (a3 : Int) (a4 : Int) : Option (List C64) := if 0 ≤ (l0.length : Int) then (if ((l0.length : Int) : Int).toNat ≤ 35184372088832 then (impl_snapshot.l0 k l0 a2 a3 a4 (List.replicate ((l0.length : Int) : Int).toNat c64z) l1 (l1.length : Int) 0) else (none)) else (none)
def impl_snapshot.T5 : Bool × List (List Nat × List Nat) := (true, [([], []), ([0], [0]), ([], []), ([1, 2], [1, 2]), ([], []), ([4], [4]), ([3, 5, 3], [3, 5]), ([6, 6, 0, 1, 2, 3, 4, 5, 6], [6])])
def impl_snapshot.B5 : List Nat := [0, 1, 0, 7, 0, 16, 63, 127]
theorem impl_snapshot.tab5 : rtab .any (opsOf Try.f62 5) = impl_snapshot.T5 := by kernel_rfl
theorem impl_snapshot.bits5 : waitsOk impl_snapshot.T5.2 impl_snapshot.B5 = true := by kernel_rfl
def impl_snapshot.T9 : Bool × List (List Nat × List Nat) := (true, [([], []), ([], []), ([], []), ([], []), ([2, 3], [2, 3]), ([4], [4]), ([], []), ([], []), ([6, 7], [6, 7]), ([5, 8, 8], [5, 8]), ([0, 1, 0, 1, 2, 3, 4, 5, 6, 7, 8, 9], [0, 1]), ([10, 9, 9, 0, 1, 2, 3, 4, 5, 6, 7, 8, 9], [9, 10])])
def impl_snapshot.B9 : List Nat := [0, 0, 0, 0, 12, 28, 0, 0, 192, 508, 1023, 2047]
theorem impl_snapshot.tab9 : rtab .any (opsOf Try.f62 9) = impl_snapshot.T9 := by kernel_rfl
theorem impl_snapshot.bits9 : waitsOk impl_snapshot.T9.2 impl_snapshot.B9 = true := by kernel_rfl
def impl_snapshot.T15 : Bool × List (List Nat × List Nat) := (true, [([], []), ([], []), ([], []), ([], []), ([2, 3], [2, 3]), ([4], [4]), ([], []), ([], []), ([], []), ([], []), ([6, 7, 8, 9], [6, 7, 8, 9]), ([5, 10, 10], [5, 10]), ([0, 1, 0, 1, 2, 3, 4, 5, 6, 7, 8, 9, 10, 11], [0, 1]), ([12, 11, 11, 0, 1, 2, 3, 4, 5, 6, 7, 8, 9, 10, 11], [11, 12])])
def impl_snapshot.B15 : List Nat := [0, 0, 0, 0, 12, 28, 0, 0, 0, 0, 960, 2044, 4095, 8191]
theorem impl_snapshot.tab15 : rtab .any (opsOf Try.f62 15) = impl_snapshot.T15 := by kernel_rfl
theorem impl_snapshot.bits15 : waitsOk impl_snapshot.T15.2 impl_snapshot.B15 = true := by kernel_rfl
set_option maxHeartbeats 8000000 in
set_option maxRecDepth 100000 in
theorem impl_snapshot.calls (k : Nat) (A0 : Option Addr) (c0 : Nat) (l0 : List (S88)) (A1 : Option Addr) (c1 : Nat) (l1 : List (S69)) (a2 : Nat) (a3 : Int) (a4 : Int) (r : List C64) (w : World) (hr0 : Kd.C k88 w A0 l0.length l0) (hc0 : l0.length ≤ c0) (hr1 : Kd.C k69 w A1 l1.length l1) (hc1 : l1.length ≤ c1) (h : impl_snapshot.f k l0 l1 a2 a3 a4 = some r) :
 Calls Try.prog 62 #[.slice A0 l0.length c0, .slice A1 l1.length c1, .float .f32 a2, .int .i64 a3, .int .i64 a4] w fun e w' => ∃ v0_ : Value, e = .returned (v0_) ∧ Kd.R Kd.c64 94 w' w.heap.size (fun _ => True) v0_ r ∧ Below w.heap.size w w' := by
 have hu69 := Try.underlying69
 have hu67 := Try.underlying67
 have HR0 := Aside0.mk hr0
 have HC0 := Aside0.mk hc0
 clear hr0 hc0
 have HR1 := Aside0.mk hr1
 have HC1 := Aside0.mk hc1
 clear hr1 hc1
 have HB := Aside0.mk (Below.refl w.heap.size w)
 have H : (if 0 ≤ (l0.length : Int) then (if ((l0.length : Int) : Int).toNat ≤ 35184372088832 then (impl_snapshot.l0 k l0 a2 a3 a4 (List.replicate ((l0.length : Int) : Int).toNat c64z) l1 (l1.length : Int) 0) else (none)) else (none)) = some r := h
 clear h
 by_cases c6 : 0 ≤ (l0.length : Int)
 · rw [if_pos c6] at H
   have c6b0 := eq_true c6
   have c6b1 : decide (0 ≤ (l0.length : Int)) = true := decide_eq_true c6
   clear c6
   by_cases c7 : ((l0.length : Int) : Int).toNat ≤ 35184372088832
   · rw [if_pos c7] at H
     have c7b0 := eq_true c7
     have c7b1 : decide (((l0.length : Int) : Int).toNat ≤ 35184372088832) = true := decide_eq_true c7
     clear c7
     obtain ⟨y253, hy253⟩ : ∃ y_ : List C64, y_ = (List.replicate ((l0.length : Int) : Int).toNat c64z) := ⟨_, rfl⟩
     replace H : (impl_snapshot.l0 k l0 a2 a3 a4 y253 l1 (l1.length : Int) 0) = some r := by first | (rw [hy253]; with_reducible exact H) | (have H2_ := (Option.bind_some _ _).symm.trans H; rw [hy253]; with_reducible exact H2_) | (have H2_ := (Option.bind_some _ _).symm.trans H; with_reducible exact H2_) | with_reducible exact H | (rw [hy253]; exact H) | exact H
     have Ny253 := Aside0.mk hy253
     clear hy253
     have H' := Aside0.mk H
     clear H
     go_enter Try.func62, Try.ntmps62
     go_wp2_with (first | ((with_reducible refine gate_dst (N := 20) rfl ?_); refine Kd.R_make Kd.c64 _ 94 rfl (N := 20) rfl 45 _ _ rfl (l0.length : Int) rfl rfl Try.underlying45 (.complex .f32 0 0) 8 info94 rfl (by decide) (by omega) c64z (ok := fun _ => True) (okp := fun _ => True) ⟨c64z, .refl _, rfl⟩ (fun _ hk => hk) trivial (of_decide_eq_true (by first | (with_reducible assumption) | assumption)) (Nat.le_trans (Nat.mul_le_mul_right _ (of_decide_eq_true (by first | (with_reducible assumption) | assumption) : (l0.length : Int).toNat ≤ 35184372088832)) (by omega)) (Below.refl _ _) (Nat.le_refl _) ?_; intro v254 w8 ho9 hb hg_ hnew_; clear hg_ hnew_; (first | rw [← Ny253.out] at ho9 | (simp only [Int.reduceToNat] at ho9; rw [← Ny253.out] at ho9)); have n0_ := Aside0.mk (Kd.R_lower ho9 (below_size (by repeat (first | (with_reducible first | exact HB.out | apply below_alloc | apply pw_below_drewN | apply below_drew1) | exact HB.out)))); have n1_ := Aside0.mk (below_step (by repeat (first | (with_reducible first | exact HB.out | apply below_alloc | apply pw_below_drewN | apply below_drew1) | exact HB.out)) hb); clear HB; have HO255 := n0_; have HB := n1_; clear n0_ n1_; clear hb ho9))
     go_loopg [23] k (fun kq v23 w' => ∃ (x11_1 : List C64) (x23_1 : Int), v23 = .int .i64 x23_1 ∧ Aside0 (impl_snapshot.l0 kq l0 a2 a3 a4 x11_1 l1 (l1.length : Int) x23_1 = some r) ∧ Aside0 (kq ≤ k) ∧ Aside0 (Kd.R Kd.c64 94 w' w.heap.size (fun _ => True) v254 x11_1) ∧ Aside0 (Below w.heap.size w w'))
     case atStart => exact ⟨(y253), (0), (by first | rfl | (simp; done) | (simp [*]; done)), H', ⟨Nat.le_refl _⟩, ⟨by (with_reducible repeat (first | apply Kd.R_alloc | apply Kd.R_drewN | apply Kd.R_drew)); exact HO255.out⟩, ⟨by repeat (first | (with_reducible first | exact HB.out | apply below_alloc | apply pw_below_drewN | apply below_drew1) | exact HB.out)⟩⟩
     case round =>
      clear H'
      (try clear c1); (try clear p2); (try clear c6); (try clear c6b0); (try clear c6b1); (try clear c7); (try clear c7b0); (try clear c7b1)
      obtain ⟨x11_1, x23_1, rfl, HA, HK1, HO_11, HB⟩ := hrel
      cases gk with
      | zero => exact absurd HA.out (by simp [impl_snapshot.l0])
      | succ k1 =>
       have H := HA.out
       clear HA
       simp only [impl_snapshot.l0] at H
       by_cases c10 : x23_1 < (l1.length : Int)
       · rw [if_pos c10] at H
         have c10b0 : decide (x23_1 < (l1.length : Int)) = true := decide_eq_true c10
         clear c10
         by_cases c11 : 0 ≤ x23_1
         · rw [if_pos c11] at H
           have c11b0 : decide (0 ≤ x23_1) = true := decide_eq_true c11
           clear c11
           by_cases c12 : x23_1 < (l1.length : Int)
           · rw [if_pos c12] at H
             have c12b0 : decide (x23_1 < (l1.length : Int)) = true := decide_eq_true c12
             clear c12
             replace H := Option.bind_eq_some_iff.mp H
             obtain ⟨t258, A130, H⟩ := H
             replace H : ((impl_ScaleComplex.f t258 ((rd_T69 l1 x23_1).f1)).bind fun t259 => ((impl_steering.f k1 l0 ((rd_T69 l1 x23_1).f0.f0) ((rd_T69 l1 x23_1).f0.f1)).bind fun t260 => (impl_snapshot.l1 k1 l0 a2 a3 a4 x11_1 t259 l1 (l1.length : Int) x23_1 t260 (t260.length : Int) 0))) = some r := H
             have A13 := Aside0.mk A130
             clear A130
             replace H := Option.bind_eq_some_iff.mp H
             obtain ⟨t259, A140, H⟩ := H
             replace H : ((impl_steering.f k1 l0 ((rd_T69 l1 x23_1).f0.f0) ((rd_T69 l1 x23_1).f0.f1)).bind fun t260 => (impl_snapshot.l1 k1 l0 a2 a3 a4 x11_1 t259 l1 (l1.length : Int) x23_1 t260 (t260.length : Int) 0)) = some r := H
             have A14 := Aside0.mk A140
             clear A140
             replace H := Option.bind_eq_some_iff.mp H
             obtain ⟨t260, A150, H⟩ := H
             replace H : (impl_snapshot.l1 k1 l0 a2 a3 a4 x11_1 t259 l1 (l1.length : Int) x23_1 t260 (t260.length : Int) 0) = some r := H
             have A15 := Aside0.mk A150
             clear A150
             have H' := Aside0.mk H
             clear H
             have p256 : 0 ≤ (x23_1 : Int) := of_decide_eq_true (by first | (with_reducible assumption) | assumption)
             have q256 : x23_1 < (l1.length : Int) := of_decide_eq_true (by first | (with_reducible assumption) | assumption)
             obtain ⟨ad256, e256, hx256_0, hx256_1, hx256_2, hx256_3⟩ := at_T69 HR1.out x23_1 p256 q256
             cases e256
             replace hx256_0 := (HB.out.cell (World.block_lt_of_cell? w _ hx256_0)).trans hx256_0
             replace hx256_1 := (HB.out.cell (World.block_lt_of_cell? w _ hx256_1)).trans hx256_1
             replace hx256_2 := (HB.out.cell (World.block_lt_of_cell? w _ hx256_2)).trans hx256_2
             replace hx256_3 := (HB.out.cell (World.block_lt_of_cell? w _ hx256_3)).trans hx256_3
             replace p256 := eq_true p256
             replace q256 := eq_true q256
             try go_wp2_with (first | ((with_reducible refine gate_dst (N := 13) rfl ?_); refine box_event ?hg (N := 13) ?hd (cs := #[.int .i64 0, .int .i64 0, .float .f32 (0 : Nat), .int .i64 0]) (t := 69) ?hr ?_; (case hd => rfl); (case hg => rfl); (case hr => first | (go_simp; done) | (go_simp; rfl)); intro gb257 hg w16 hbox hb; have n0_ := Aside0.mk (Kd.R_below (by (with_reducible repeat (first | apply Kd.R_alloc | apply Kd.R_drewN | apply Kd.R_drew)); exact HO_11.out) hb); have n1_ := Aside0.mk (below_step (by repeat (first | (with_reducible first | exact HB.out | apply below_alloc | apply pw_below_drewN | apply below_drew1) | exact HB.out)) hb); have n2_ := Aside0.mk (hbox); have n3_ := Aside0.mk ((by rw [hg]; exact (below_size (by repeat (first | (with_reducible first | exact HB.out | apply below_alloc | apply pw_below_drewN | apply below_drew1) | exact HB.out))) : w.heap.size ≤ gb257)); have n4_ := Aside0.mk ((by rw [hg]; exact (below_size (by repeat (first | (with_reducible first | exact HB.out | apply below_alloc | apply pw_below_drewN | apply below_drew1) | exact HB.out))) : w.heap.size ≤ gb257)); clear HO_11; clear HB; have HO_11 := n0_; have HB := n1_; have BK257 := n2_; have GW257 := n3_; have GE257 := n4_; clear n0_ n1_ n2_ n3_ n4_; clear hb hbox hg; have hcz17_0 : w16.cell? ⟨gb257, 0, none⟩ = some (.int .i64 0) := (blk_cell BK257.out 0).trans rfl; have hcz17_1 : w16.cell? ⟨gb257, 1, none⟩ = some (.int .i64 0) := (blk_cell BK257.out 1).trans rfl; have hcz17_2 : w16.cell? ⟨gb257, 2, none⟩ = some (.float .f32 (0 : Nat)) := (blk_cell BK257.out 2).trans rfl; have hcz17_3 : w16.cell? ⟨gb257, 3, none⟩ = some (.int .i64 0) := (blk_cell BK257.out 3).trans rfl; have hfz17_0 := blk_frozen BK257.out 0; have hfz17_1 := blk_frozen BK257.out 1; have hfz17_2 := blk_frozen BK257.out 2; have hfz17_3 := blk_frozen BK257.out 3))
             have n0_ : Aside0 (Kd.R Kd.c64 94 ((((w16.setCell ⟨gb257, 0, none⟩ (.int .i64 ((rd_T69 l1 x23_1).f0.f0))).setCell ⟨gb257, 1, none⟩ (.int .i64 ((rd_T69 l1 x23_1).f0.f1))).setCell ⟨gb257, 2, none⟩ (.float .f32 ((rd_T69 l1 x23_1).f1))).setCell ⟨gb257, 3, none⟩ (.int .i64 ((rd_T69 l1 x23_1).f2))) w.heap.size (fun _ => True) v254 x11_1) := ⟨by (with_reducible repeat (first | apply Kd.R_alloc | apply Kd.R_drewN | apply Kd.R_drew)); exact Kd.R_mono (Kd.R_far (p := ⟨gb257, 3, none⟩) (Kd.R_far (p := ⟨gb257, 2, none⟩) (Kd.R_far (p := ⟨gb257, 1, none⟩) (Kd.R_far (p := ⟨gb257, 0, none⟩) (Kd.R_types HO_11.out BK257.out (by decide)) (fun _ hk => hk.2) (.int .i64 ((rd_T69 l1 x23_1).f0.f0))) (fun _ hk => hk.2) (.int .i64 ((rd_T69 l1 x23_1).f0.f1))) (fun _ hk => hk.2) (.float .f32 ((rd_T69 l1 x23_1).f1))) (fun _ hk => hk.2) (.int .i64 ((rd_T69 l1 x23_1).f2))) (fun _ hk => trivial)⟩
             have n1_ : Aside0 (((((w16.setCell ⟨gb257, 0, none⟩ (.int .i64 ((rd_T69 l1 x23_1).f0.f0))).setCell ⟨gb257, 1, none⟩ (.int .i64 ((rd_T69 l1 x23_1).f0.f1))).setCell ⟨gb257, 2, none⟩ (.float .f32 ((rd_T69 l1 x23_1).f1))).setCell ⟨gb257, 3, none⟩ (.int .i64 ((rd_T69 l1 x23_1).f2))).heap[gb257]? = some (.cells #[.int .i64 ((rd_T69 l1 x23_1).f0.f0), .int .i64 ((rd_T69 l1 x23_1).f0.f1), .float .f32 ((rd_T69 l1 x23_1).f1), .int .i64 ((rd_T69 l1 x23_1).f2)] 69 (0, 0))) := ⟨by (with_reducible repeat (first | refine blk_drewN ?_ _ | refine blk_drew ?_ | refine blk_alloc ?_ _)); refine blk_put (cs := #[.int .i64 ((rd_T69 l1 x23_1).f0.f0), .int .i64 ((rd_T69 l1 x23_1).f0.f1), .float .f32 ((rd_T69 l1 x23_1).f1), .int .i64 0]) ?_ 3 _ rfl; (with_reducible repeat (first | refine blk_drewN ?_ _ | refine blk_drew ?_ | refine blk_alloc ?_ _)); refine blk_put (cs := #[.int .i64 ((rd_T69 l1 x23_1).f0.f0), .int .i64 ((rd_T69 l1 x23_1).f0.f1), .float .f32 (0 : Nat), .int .i64 0]) ?_ 2 _ rfl; (with_reducible repeat (first | refine blk_drewN ?_ _ | refine blk_drew ?_ | refine blk_alloc ?_ _)); refine blk_put (cs := #[.int .i64 ((rd_T69 l1 x23_1).f0.f0), .int .i64 0, .float .f32 (0 : Nat), .int .i64 0]) ?_ 1 _ rfl; (with_reducible repeat (first | refine blk_drewN ?_ _ | refine blk_drew ?_ | refine blk_alloc ?_ _)); refine blk_put (cs := #[.int .i64 0, .int .i64 0, .float .f32 (0 : Nat), .int .i64 0]) ?_ 0 _ rfl; (with_reducible repeat (first | refine blk_drewN ?_ _ | refine blk_drew ?_ | refine blk_alloc ?_ _)); exact BK257.out⟩
             have n2_ : Aside0 (Below w.heap.size w ((((w16.setCell ⟨gb257, 0, none⟩ (.int .i64 ((rd_T69 l1 x23_1).f0.f0))).setCell ⟨gb257, 1, none⟩ (.int .i64 ((rd_T69 l1 x23_1).f0.f1))).setCell ⟨gb257, 2, none⟩ (.float .f32 ((rd_T69 l1 x23_1).f1))).setCell ⟨gb257, 3, none⟩ (.int .i64 ((rd_T69 l1 x23_1).f2)))) := ⟨by repeat (first | (with_reducible first | exact HB.out | apply below_alloc | apply pw_below_drewN | apply below_drew1 | refine below_set ?_ GE257.out) | exact HB.out)⟩
             (try clear HO_11)
             (try clear BK257)
             (try clear HB)
             generalize ((((w16.setCell ⟨gb257, 0, none⟩ (.int .i64 ((rd_T69 l1 x23_1).f0.f0))).setCell ⟨gb257, 1, none⟩ (.int .i64 ((rd_T69 l1 x23_1).f0.f1))).setCell ⟨gb257, 2, none⟩ (.float .f32 ((rd_T69 l1 x23_1).f1))).setCell ⟨gb257, 3, none⟩ (.int .i64 ((rd_T69 l1 x23_1).f2))) = w18 at n0_ n1_ n2_ ⊢
             have HO_11 := n0_
             have BK257 := n1_
             have HB := n2_
             clear n0_ n1_ n2_
             have n0_ := Aside0.mk (Kd.R_drew HO_11.out)
             have n1_ := Aside0.mk (blk_drew BK257.out)
             have n2_ := Aside0.mk (below_drew1 HB.out)
             clear HO_11
             clear BK257
             clear HB
             have HO_11 := n0_
             have BK257 := n1_
             have HB := n2_
             clear n0_ n1_ n2_
             refine start_ (n := 8) (S := fun w' => w'.cell? ⟨gb257, 0, none⟩ = some (.int .i64 ((rd_T69 l1 x23_1).f0.f0)) ∧ w'.cell? ⟨gb257, 1, none⟩ = some (.int .i64 ((rd_T69 l1 x23_1).f0.f1)) ∧ w'.cell? ⟨gb257, 2, none⟩ = some (.float .f32 ((rd_T69 l1 x23_1).f1)) ∧ w'.cell? ⟨gb257, 3, none⟩ = some (.int .i64 ((rd_T69 l1 x23_1).f2))) (ds := []) #[false, false, false, false, false, false, false, false] (by kernel_rfl) rfl rfl ⟨(blk_cell BK257.out 0).trans rfl, (blk_cell BK257.out 1).trans rfl, (blk_cell BK257.out 2).trans rfl, (blk_cell BK257.out 3).trans rfl⟩ (fun hHeld => ?_); refine with_tabW impl_snapshot.tab5 impl_snapshot.bits5 (fun HT_ HW_ => ?_)
             generalize w18.drew = w19 at HO_11 BK257 HB hHeld ⊢
             refine pure_ (i := 0) (N := some 27) (v := ?_) (a' := ?_) #[true, false, false, false, false, false, false, false] rfl rfl (any_of HT_.out (by kernel_rfl)) (fun _ _ _ h => h) (Or.inl ⟨by rfl, ?_⟩) ?_ ?_; rotate_left 4
             refine pure_ (i := 2) (N := some 29) (v := ?_) (a' := ?_) #[true, false, true, false, false, false, false, false] rfl rfl (any_of HT_.out (by kernel_rfl)) (fun _ _ _ h => h) (Or.inl ⟨by rfl, ?_⟩) ?_ ?_; rotate_left 4
             refine pure_ (i := 4) (N := some 31) (v := ?_) (a' := ?_) #[true, false, true, false, true, false, false, false] rfl rfl (any_of HT_.out (by kernel_rfl)) (fun _ _ _ h => h) (Or.inl ⟨by rfl, ?_⟩) ?_ ?_; rotate_left 4
             rotate_left; iterate 3 (rotate_left; (intro w'; go_simp; with_reducible rfl); rotate_left; (simp only [Act.put, List.setIfInBounds_toArray, List.set_cons_zero, List.set_cons_succ, i64_w, i32_w]; rfl))
             refine take_ (i := 1) (N := some 28) (v := ?_) (a' := ?_) #[true, true, true, false, true, false, false, false] rfl rfl (take_ofW HT_.out HW_.out (by kernel_rfl)) (fun _ _ _ h => h) (Or.inl ⟨by rfl, ?_⟩) hHeld ?_ ?_
             rotate_left
             · rintro w' ⟨s0, s1, s2, s3⟩
               go_simp
               with_reducible rfl
             rotate_left
             · simp only [Act.put, List.setIfInBounds_toArray, List.set_cons_zero, List.set_cons_succ, i64_w, i32_w]
               rfl
             refine take_ (i := 5) (N := some 32) (v := ?_) (a' := ?_) #[true, true, true, false, true, true, false, false] rfl rfl (take_ofW HT_.out HW_.out (by kernel_rfl)) (fun _ _ _ h => h) (Or.inl ⟨by rfl, ?_⟩) hHeld ?_ ?_
             rotate_left
             · rintro w' ⟨s0, s1, s2, s3⟩
               go_simp
               with_reducible rfl
             rotate_left
             · simp only [Act.put, List.setIfInBounds_toArray, List.set_cons_zero, List.set_cons_succ, i64_w, i32_w]
               rfl
             refine one_ (i := 3) (N := some 30) #[true, true, true, true, true, true, false, false] rfl rfl (one_of HT_.out (by kernel_rfl)) (by decide) (fun K hK => ?_)
             refine goes_ Try.func86 (by kernel_rfl) rfl #[.int .i64 ((rd_T69 l1 x23_1).f2), .int .i64 a4] (by rfl) rfl rfl (by (try simp only [List.map_toArray, List.map_cons, List.map_nil]); first | done | rfl | (simp only [List.length_drop, List.length_take]; rfl)) ?_
             with_reducible refine (impl_symbol.calls ((rd_T69 l1 x23_1).f2) a4 t258 _ A13.out).mono ?_
             rintro e w20 ⟨rfl, hb⟩
             refine ⟨_, rfl, ?_⟩
             have n0_ := Aside0.mk (Kd.R_below (by (with_reducible repeat (first | apply Kd.R_alloc | apply Kd.R_drewN | apply Kd.R_drew)); exact HO_11.out) hb)
             have n1_ := Aside0.mk (blk_below (g := gb257) (o := .cells #[.int .i64 ((rd_T69 l1 x23_1).f0.f0), .int .i64 ((rd_T69 l1 x23_1).f0.f1), .float .f32 ((rd_T69 l1 x23_1).f1), .int .i64 ((rd_T69 l1 x23_1).f2)] 69 (0, 0)) (by (with_reducible repeat (first | refine blk_drewN ?_ _ | refine blk_drew ?_ | refine blk_alloc ?_ _)); exact BK257.out) hb)
             have n2_ := Aside0.mk (below_step (by repeat (first | (with_reducible first | exact HB.out | apply below_alloc | apply pw_below_drewN | apply below_drew1 | refine below_set ?_ GE257.out) | exact HB.out)) hb)
             clear HO_11
             clear BK257
             clear HB
             have HO_11 := n0_
             have BK257 := n1_
             have HB := n2_
             clear n0_ n1_ n2_
             (try clear hb)
             (try clear hb2)
             (try clear hk)
             (try clear hi)
             refine hK.out _ _ ⟨(blk_cell BK257.out 0).trans rfl, (blk_cell BK257.out 1).trans rfl, (blk_cell BK257.out 2).trans rfl, (blk_cell BK257.out 3).trans rfl⟩ (fun hHeld => ?_)
             clear hK K
             refine norm_ (a' := ?_) ?_ ?_
             rotate_left
             · show Act.put _ (some 30) _ = _
               simp only [Act.put, List.setIfInBounds_toArray, List.set_cons_zero, List.set_cons_succ, i64_w, i32_w]
               rfl
             refine one_ (i := 6) (N := some 33) #[true, true, true, true, true, true, true, false] rfl rfl (one_of HT_.out (by kernel_rfl)) (by decide) (fun K hK => ?_)
             refine goes_ Try.func85 (by kernel_rfl) rfl #[.complex .f32 t258.re t258.im, .float .f32 ((rd_T69 l1 x23_1).f1)] (by rfl) rfl rfl (by (try simp only [List.map_toArray, List.map_cons, List.map_nil]); first | done | rfl | (simp only [List.length_drop, List.length_take]; rfl)) ?_
             with_reducible refine (impl_ScaleComplex.calls t258 ((rd_T69 l1 x23_1).f1) t259 _ A14.out).mono ?_
             rintro e w21 ⟨q259, hq259, rfl, hb⟩
             refine ⟨_, rfl, ?_⟩
             have n0_ := Aside0.mk (Kd.R_below (by (with_reducible repeat (first | apply Kd.R_alloc | apply Kd.R_drewN | apply Kd.R_drew)); exact HO_11.out) hb)
             have n1_ := Aside0.mk (blk_below (g := gb257) (o := .cells #[.int .i64 ((rd_T69 l1 x23_1).f0.f0), .int .i64 ((rd_T69 l1 x23_1).f0.f1), .float .f32 ((rd_T69 l1 x23_1).f1), .int .i64 ((rd_T69 l1 x23_1).f2)] 69 (0, 0)) (by (with_reducible repeat (first | refine blk_drewN ?_ _ | refine blk_drew ?_ | refine blk_alloc ?_ _)); exact BK257.out) hb)
             have n2_ := Aside0.mk (below_step (by repeat (first | (with_reducible first | exact HB.out | apply below_alloc | apply pw_below_drewN | apply below_drew1 | refine below_set ?_ GE257.out) | exact HB.out)) hb)
             clear HO_11
             clear BK257
             clear HB
             have HO_11 := n0_
             have BK257 := n1_
             have HB := n2_
             clear n0_ n1_ n2_
             (try clear hb)
             (try clear hb2)
             (try clear hk)
             (try clear hi)
             refine hK.out _ _ ⟨(blk_cell BK257.out 0).trans rfl, (blk_cell BK257.out 1).trans rfl, (blk_cell BK257.out 2).trans rfl, (blk_cell BK257.out 3).trans rfl⟩ (fun hHeld => ?_)
             clear hK K
             refine norm_ (a' := ?_) ?_ ?_
             rotate_left
             · show Act.put _ (some 33) _ = _
               simp only [Act.put, List.setIfInBounds_toArray, List.set_cons_zero, List.set_cons_succ, i64_w, i32_w]
               rfl
             refine pure_ (i := 7) (N := some 14) (v := ?_) (a' := ?_) #[true, true, true, true, true, true, true, true] rfl rfl (any_of HT_.out (by kernel_rfl)) (fun _ _ _ h => h) (Or.inl ⟨by rfl, ?_⟩) ?_ ?_; rotate_left 4
             rotate_left; iterate 1 (rotate_left; (intro w'; go_simp; with_reducible rfl); rotate_left; (simp only [Act.put, List.setIfInBounds_toArray, List.set_cons_zero, List.set_cons_succ, i64_w, i32_w]; rfl))
             refine done_ (done_of HT_.out (by kernel_rfl)) ?_
             have hcz22_0 : w21.cell? ⟨gb257, 0, none⟩ = some (.int .i64 ((rd_T69 l1 x23_1).f0.f0)) := (blk_cell BK257.out 0).trans rfl
             have hcz22_1 : w21.cell? ⟨gb257, 1, none⟩ = some (.int .i64 ((rd_T69 l1 x23_1).f0.f1)) := (blk_cell BK257.out 1).trans rfl
             have hcz22_2 : w21.cell? ⟨gb257, 2, none⟩ = some (.float .f32 ((rd_T69 l1 x23_1).f1)) := (blk_cell BK257.out 2).trans rfl
             have hcz22_3 : w21.cell? ⟨gb257, 3, none⟩ = some (.int .i64 ((rd_T69 l1 x23_1).f2)) := (blk_cell BK257.out 3).trans rfl
             have hfz22_0 := blk_frozen BK257.out 0
             have hfz22_1 := blk_frozen BK257.out 1
             have hfz22_2 := blk_frozen BK257.out 2
             have hfz22_3 := blk_frozen BK257.out 3
             try go_wp2_with (first | ((with_reducible refine gate_callee (f := 87) rfl ?_); refine goesL_ (some 37) rfl rfl Try.func87 (by kernel_rfl) rfl #[.slice A0 l0.length c0, .agg #[.int .i64 ((rd_T69 l1 x23_1).f0.f0), .int .i64 ((rd_T69 l1 x23_1).f0.f1)]] rfl (by (try simp only [List.map_toArray, List.map_cons, List.map_nil]); first | done | rfl | (simp only [List.length_drop, List.length_take]; rfl)) ?_; (with_reducible refine (impl_steering.calls k1 _ _ l0 ((rd_T69 l1 x23_1).f0.f0) ((rd_T69 l1 x23_1).f0.f1) t260 _ ?side1 ?side2 A15.out).mono ?_); (case side1 => repeat (first | exact (Kd.C_below HR0.out HB.out) | (with_reducible refine Kd.C_alloc ?_ _) | (with_reducible refine Kd.C_drewN ?_ _) | (with_reducible refine Kd.C_drew ?_))); (case side2 => exact HC0.out); rintro e w23 ⟨v261, rfl, ho0, hb⟩; refine ⟨_, rfl, ?_⟩; have n0_ := Aside0.mk (Kd.R_elder' (by (with_reducible repeat (first | apply Kd.R_alloc | apply Kd.R_drewN | apply Kd.R_drew)); exact HO_11.out) (Kd.R_base ho0) hb); have n1_ := Aside0.mk (Kd.R_lower (Kd.R_new' ho0 (Kd.R_lt (by (with_reducible repeat (first | apply Kd.R_alloc | apply Kd.R_drewN | apply Kd.R_drew)); exact HO_11.out))) (below_size (by repeat (first | (with_reducible first | exact HB.out | apply below_alloc | apply pw_below_drewN | apply below_drew1 | refine below_set ?_ GE257.out) | exact HB.out)))); have n2_ := Aside0.mk (blk_below (g := gb257) (o := .cells #[.int .i64 ((rd_T69 l1 x23_1).f0.f0), .int .i64 ((rd_T69 l1 x23_1).f0.f1), .float .f32 ((rd_T69 l1 x23_1).f1), .int .i64 ((rd_T69 l1 x23_1).f2)] 69 (0, 0)) (by (with_reducible repeat (first | refine blk_drewN ?_ _ | refine blk_drew ?_ | refine blk_alloc ?_ _)); exact BK257.out) hb); have n3_ := Aside0.mk (below_step (by repeat (first | (with_reducible first | exact HB.out | apply below_alloc | apply pw_below_drewN | apply below_drew1 | refine below_set ?_ GE257.out) | exact HB.out)) hb); clear HO_11; clear BK257; clear HB; have HO_11 := n0_; have HO262 := n1_; have BK257 := n2_; have HB := n3_; clear n0_ n1_ n2_ n3_; (try clear hb); (try clear hb2); (try clear hk); (try clear hi); (try clear ho0); obtain ⟨Ao24, co24, eo24⟩ := Kd.R_slice HO262.out; subst eo24))
             go_loopg [39] k1 (fun kq v39 w' => ∃ (x11_2 : List C64) (x39_2 : Int), v39 = .int .i64 x39_2 ∧ Aside0 (impl_snapshot.l1 kq l0 a2 a3 a4 x11_2 t259 l1 (l1.length : Int) x23_1 t260 (t260.length : Int) x39_2 = some r) ∧ Aside0 (kq ≤ k1) ∧ Aside0 (Kd.R Kd.c64 94 w' w.heap.size (fun k_ => some k_ ≠ ((.slice Ao24 t260.length co24) : Value).ownBlock) v254 x11_2) ∧ Aside0 (Kd.R Kd.c64e 94 w' w.heap.size (fun k_ => some k_ ≠ (v254 : Value).ownBlock) (.slice Ao24 t260.length co24) t260) ∧ Aside0 (w'.heap[gb257]? = some (.cells #[.int .i64 ((rd_T69 l1 x23_1).f0.f0), .int .i64 ((rd_T69 l1 x23_1).f0.f1), .float .f32 ((rd_T69 l1 x23_1).f1), .int .i64 ((rd_T69 l1 x23_1).f2)] 69 (0, 0))) ∧ Aside0 (Below w.heap.size w w'))
             case atStart => exact ⟨(x11_1), (0), (by first | rfl | (simp; done) | (simp [*]; done)), H', ⟨Nat.le_refl _⟩, ⟨by (with_reducible repeat (first | apply Kd.R_alloc | apply Kd.R_drewN | apply Kd.R_drew)); exact Kd.R_mono HO_11.out (fun _ hk => hk.2)⟩, ⟨by (with_reducible repeat (first | apply Kd.R_alloc | apply Kd.R_drewN | apply Kd.R_drew)); exact Kd.R_mono HO262.out (fun _ hk => hk.2)⟩, ⟨by (with_reducible repeat (first | refine blk_drewN ?_ _ | refine blk_drew ?_ | refine blk_alloc ?_ _)); exact BK257.out⟩, ⟨by repeat (first | (with_reducible first | exact HB.out | apply below_alloc | apply pw_below_drewN | apply below_drew1 | refine below_set ?_ GE257.out) | exact HB.out)⟩⟩
             case round =>
              clear H'
              (try clear c1); (try clear p2); (try clear q2); (try clear hx2); (try clear c6); (try clear c6b0); (try clear c6b1); (try clear c7); (try clear c7b0); (try clear c7b1); (try clear c8); (try clear c10); (try clear c10b0); (try clear c11); (try clear c11b0); (try clear c12); (try clear c12b0); (try clear hcz17_0); (try clear hcz17_1); (try clear hcz17_2); (try clear hcz17_3); (try clear hcz22_0); (try clear hcz22_1); (try clear hcz22_2); (try clear hcz22_3); (try clear hfz17_0); (try clear hfz17_1); (try clear hfz17_2); (try clear hfz17_3); (try clear hfz22_0); (try clear hfz22_1); (try clear hfz22_2); (try clear hfz22_3); (try clear hx256_0); (try clear hx256_1); (try clear hx256_2); (try clear hx256_3); (try clear p2); (try clear p256); (try clear q256)
              obtain ⟨x11_2, x39_2, rfl, HA, HK2, HO_11, HO_37, BK257, HB⟩ := hrel
              cases gk with
              | zero => exact absurd HA.out (by simp [impl_snapshot.l1])
              | succ k2 =>
               have H := HA.out
               clear HA
               simp only [impl_snapshot.l1] at H
               by_cases c25 : x39_2 < (t260.length : Int)
               · rw [if_pos c25] at H
                 have c25b0 : decide (x39_2 < (t260.length : Int)) = true := decide_eq_true c25
                 clear c25
                 by_cases c26 : 0 ≤ x39_2
                 · rw [if_pos c26] at H
                   have c26b0 : decide (0 ≤ x39_2) = true := decide_eq_true c26
                   clear c26
                   by_cases c27 : x39_2 < (t260.length : Int)
                   · rw [if_pos c27] at H
                     have c27b0 : decide (x39_2 < (t260.length : Int)) = true := decide_eq_true c27
                     clear c27
                     by_cases c28 : x39_2 < (x11_2.length : Int)
                     · rw [if_pos c28] at H
                       have c28b0 : decide (x39_2 < (x11_2.length : Int)) = true := decide_eq_true c28
                       clear c28
                       replace H := Option.bind_eq_some_iff.mp H
                       obtain ⟨t265, A290, H⟩ := H
                       replace H : ((impl_add.f (rdOf c64z x11_2 x39_2) t265).bind fun t266 => (impl_snapshot.l1 k2 l0 a2 a3 a4 (x11_2.set (x39_2 : Int).toNat t266) t259 l1 (l1.length : Int) x23_1 t260 (t260.length : Int) (wrap64 (x39_2 + 1)))) = some r := H
                       have A29 := Aside0.mk A290
                       clear A290
                       replace H := Option.bind_eq_some_iff.mp H
                       obtain ⟨t266, A300, H⟩ := H
                       replace H : (impl_snapshot.l1 k2 l0 a2 a3 a4 (x11_2.set (x39_2 : Int).toNat t266) t259 l1 (l1.length : Int) x23_1 t260 (t260.length : Int) (wrap64 (x39_2 + 1))) = some r := H
                       have A30 := Aside0.mk A300
                       clear A300
                       obtain ⟨y267, hy267⟩ : ∃ y_ : List C64, y_ = (x11_2.set (x39_2 : Int).toNat t266) := ⟨_, rfl⟩
                       replace H : (impl_snapshot.l1 k2 l0 a2 a3 a4 y267 t259 l1 (l1.length : Int) x23_1 t260 (t260.length : Int) (wrap64 (x39_2 + 1))) = some r := by first | (rw [hy267]; with_reducible exact H) | (have H2_ := (Option.bind_some _ _).symm.trans H; rw [hy267]; with_reducible exact H2_) | (have H2_ := (Option.bind_some _ _).symm.trans H; with_reducible exact H2_) | with_reducible exact H | (rw [hy267]; exact H) | exact H
                       have Ny267 := Aside0.mk hy267
                       clear hy267
                       as_aux_lemma =>
                        have H' := Aside0.mk H
                        clear H
                        have p263 : 0 ≤ (x39_2 : Int) := of_decide_eq_true (by first | (with_reducible assumption) | assumption)
                        have q263 : x39_2 < (t260.length : Int) := of_decide_eq_true (by first | (with_reducible assumption) | assumption)
                        obtain ⟨ad263, e263, hx263_0⟩ := Kd.at_c64e (Kd.R_reads' HO_37.out).2.2 x39_2 p263 q263
                        cases e263
                        replace p263 := eq_true p263
                        replace q263 := eq_true q263
                        try go_wp2
                        have n0_ := Aside0.mk (Kd.R_drew HO_11.out)
                        have n1_ := Aside0.mk (Kd.R_drew HO_37.out)
                        have n2_ := Aside0.mk (blk_drew BK257.out)
                        have n3_ := Aside0.mk (below_drew1 HB.out)
                        clear HO_11
                        clear HO_37
                        clear BK257
                        clear HB
                        have HO_11 := n0_
                        have HO_37 := n1_
                        have BK257 := n2_
                        have HB := n3_
                        clear n0_ n1_ n2_ n3_
                        obtain ⟨Ao33, co33, eo33⟩ := Kd.R_slice HO_11.out
                        (first | subst eo33 | (injection eo33 with f1_ f2_ f3_; have f4_ := f1_.symm; have f5_ := f3_.symm; clear f1_ f2_ f3_; subst f4_; subst f5_))
                        obtain ⟨z11, hz11, ho11_⟩ := Kd.c64_R_to HO_11.out
                        have n0_ := Aside0.mk ho11_
                        clear HO_11 ho11_
                        have HO_11 := n0_
                        clear n0_
                        have p264 : 0 ≤ (x39_2 : Int) := of_decide_eq_true (by first | (with_reducible assumption) | assumption)
                        have q264 : x39_2 < (x11_2.length : Int) := of_decide_eq_true (by first | (with_reducible assumption) | assumption)
                        obtain ⟨ad264, e264, hx264_0⟩ := Kd.at_c64e (Kd.R_reads' HO_11.out).2.2 x39_2 p264 (by rw [hz11.1]; exact q264)
                        cases e264
                        replace p264 := eq_true p264
                        replace q264 := eq_true q264
                        refine start_ (n := 12) (S := fun w' => w'.cell? (ad264.add (x39_2).toNat) = some (.complex .f32 ((rdOf c64z z11 x39_2).re) ((rdOf c64z z11 x39_2).im))) (ds := [11]) #[false, false, false, false, false, false, false, false, false, false, false, false] (by kernel_rfl) rfl rfl (hx264_0) (fun hHeld => ?_); refine with_tabW impl_snapshot.tab9 impl_snapshot.bits9 (fun HT_ HW_ => ?_)
                        generalize wr.drew = w32 at HO_11 HO_37 BK257 HB hx264_0 hHeld ⊢
                        refine pure_ (i := 0) (N := some 44) (v := ?_) (a' := ?_) #[true, false, false, false, false, false, false, false, false, false, false, false] rfl rfl (any_of HT_.out (by kernel_rfl)) (fun _ _ _ h => h) (Or.inl ⟨by rfl, ?_⟩) ?_ ?_; rotate_left 4
                        refine pure_ (i := 1) (N := some 45) (v := ?_) (a' := ?_) #[true, true, false, false, false, false, false, false, false, false, false, false] rfl rfl (any_of HT_.out (by kernel_rfl)) (fun _ _ _ h => h) (Or.inl ⟨by rfl, ?_⟩) ?_ ?_; rotate_left 4
                        refine pure_ (i := 2) (N := some 46) (v := ?_) (a' := ?_) #[true, true, true, false, false, false, false, false, false, false, false, false] rfl rfl (any_of HT_.out (by kernel_rfl)) (fun _ _ _ h => h) (Or.inl ⟨by rfl, ?_⟩) ?_ ?_; rotate_left 4
                        refine pure_ (i := 3) (N := some 47) (v := ?_) (a' := ?_) #[true, true, true, true, false, false, false, false, false, false, false, false] rfl rfl (any_of HT_.out (by kernel_rfl)) (fun _ _ _ h => h) (Or.inl ⟨by rfl, ?_⟩) ?_ ?_; rotate_left 4
                        refine pure_ (i := 4) (N := some 48) (v := ?_) (a' := ?_) #[true, true, true, true, true, false, false, false, false, false, false, false] rfl rfl (any_of HT_.out (by kernel_rfl)) (fun _ _ _ h => h) (Or.inl ⟨by rfl, ?_⟩) ?_ ?_; rotate_left 4
                        refine pure_ (i := 6) (N := some 50) (v := ?_) (a' := ?_) #[true, true, true, true, true, false, true, false, false, false, false, false] rfl rfl (any_of HT_.out (by kernel_rfl)) (fun _ _ _ h => h) (Or.inl ⟨by rfl, ?_⟩) ?_ ?_; rotate_left 4
                        refine pure_ (i := 7) (N := some 51) (v := ?_) (a' := ?_) #[true, true, true, true, true, false, true, true, false, false, false, false] rfl rfl (any_of HT_.out (by kernel_rfl)) (fun _ _ _ h => h) (Or.inl ⟨by rfl, ?_⟩) ?_ ?_; rotate_left 4
                        rotate_left; iterate 7 (rotate_left; (intro w'; go_simp; with_reducible rfl); rotate_left; (simp only [Act.put, List.setIfInBounds_toArray, List.set_cons_zero, List.set_cons_succ, i64_w, i32_w]; rfl))
                        refine take_ (i := 5) (N := some 49) (v := ?_) (a' := ?_) #[true, true, true, true, true, true, true, true, false, false, false, false] rfl rfl (take_ofW HT_.out HW_.out (by kernel_rfl)) (fun _ _ _ h => h) (Or.inl ⟨by rfl, ?_⟩) hHeld ?_ ?_
                        rotate_left
                        · intro w' s0
                          go_simp
                          with_reducible rfl
                        rotate_left
                        · simp only [Act.put, List.setIfInBounds_toArray, List.set_cons_zero, List.set_cons_succ, i64_w, i32_w]
                          rfl
                        refine one_ (i := 8) (N := some 52) #[true, true, true, true, true, true, true, true, true, false, false, false] rfl rfl (one_of HT_.out (by kernel_rfl)) (by decide) (fun K hK => ?_)
                        refine goes_ Try.func89 (by kernel_rfl) rfl #[.complex .f32 q259.re q259.im, .complex .f32 ((rdOf c64z t260 x39_2).re) ((rdOf c64z t260 x39_2).im)] (by rfl) rfl rfl (by (try simp only [List.map_toArray, List.map_cons, List.map_nil]); first | done | rfl | (simp only [List.length_drop, List.length_take]; rfl)) ?_
                        with_reducible refine (impl_MulComplex.calls q259 (rdOf c64z t260 x39_2) t259 (rdOf c64z t260 x39_2) hq259 (.refl _) t265 _ A29.out).mono ?_
                        rintro e w34 ⟨q265, hq265, rfl, hb⟩
                        have HS0_ := (hb.cell (World.block_lt_of_cell? _ _ (hHeld))).trans (hHeld)
                        refine ⟨_, rfl, ?_⟩
                        have n0_ := Aside0.mk (Kd.R_below (by (with_reducible repeat (first | apply Kd.R_alloc | apply Kd.R_drewN | apply Kd.R_drew)); exact HO_11.out) hb)
                        have n1_ := Aside0.mk (Kd.R_below (by (with_reducible repeat (first | apply Kd.R_alloc | apply Kd.R_drewN | apply Kd.R_drew)); exact HO_37.out) hb)
                        have n2_ := Aside0.mk (blk_below (g := gb257) (o := .cells #[.int .i64 ((rd_T69 l1 x23_1).f0.f0), .int .i64 ((rd_T69 l1 x23_1).f0.f1), .float .f32 ((rd_T69 l1 x23_1).f1), .int .i64 ((rd_T69 l1 x23_1).f2)] 69 (0, 0)) (by (with_reducible repeat (first | refine blk_drewN ?_ _ | refine blk_drew ?_ | refine blk_alloc ?_ _)); exact BK257.out) hb)
                        have n3_ := Aside0.mk (below_step (by repeat (first | (with_reducible first | exact HB.out | apply below_alloc | apply pw_below_drewN | apply below_drew1 | refine below_set ?_ GE257.out) | exact HB.out)) hb)
                        clear HO_11
                        clear HO_37
                        clear BK257
                        clear HB
                        have HO_11 := n0_
                        have HO_37 := n1_
                        have BK257 := n2_
                        have HB := n3_
                        clear n0_ n1_ n2_ n3_
                        (try clear hb)
                        (try clear hb2)
                        (try clear hk)
                        (try clear hi)
                        refine hK.out _ _ (HS0_) (fun hHeld => ?_)
                        clear hK K
                        refine norm_ (a' := ?_) ?_ ?_
                        rotate_left
                        · show Act.put _ (some 52) _ = _
                          simp only [Act.put, List.setIfInBounds_toArray, List.set_cons_zero, List.set_cons_succ, i64_w, i32_w]
                          rfl
                        refine one_ (i := 9) (N := some 53) #[true, true, true, true, true, true, true, true, true, true, false, false] rfl rfl (one_of HT_.out (by kernel_rfl)) (by decide) (fun K hK => ?_)
                        refine goes_ Try.func88 (by kernel_rfl) rfl #[.complex .f32 ((rdOf c64z z11 x39_2).re) ((rdOf c64z z11 x39_2).im), .complex .f32 q265.re q265.im] (by rfl) rfl rfl (by (try simp only [List.map_toArray, List.map_cons, List.map_nil]); first | done | rfl | (simp only [List.length_drop, List.length_take]; rfl)) ?_
                        with_reducible refine (impl_add.calls (rdOf c64z z11 x39_2) q265 (rdOf c64z x11_2 x39_2) t265 (hz11.rd _) hq265 t266 _ A30.out).mono ?_
                        rintro e w35 ⟨q266, hq266, rfl, hb⟩
                        have HS0_ := (hb.cell (World.block_lt_of_cell? _ _ (hHeld))).trans (hHeld)
                        refine ⟨_, rfl, ?_⟩
                        have n0_ := Aside0.mk (Kd.R_below (by (with_reducible repeat (first | apply Kd.R_alloc | apply Kd.R_drewN | apply Kd.R_drew)); exact HO_11.out) hb)
                        have n1_ := Aside0.mk (Kd.R_below (by (with_reducible repeat (first | apply Kd.R_alloc | apply Kd.R_drewN | apply Kd.R_drew)); exact HO_37.out) hb)
                        have n2_ := Aside0.mk (blk_below (g := gb257) (o := .cells #[.int .i64 ((rd_T69 l1 x23_1).f0.f0), .int .i64 ((rd_T69 l1 x23_1).f0.f1), .float .f32 ((rd_T69 l1 x23_1).f1), .int .i64 ((rd_T69 l1 x23_1).f2)] 69 (0, 0)) (by (with_reducible repeat (first | refine blk_drewN ?_ _ | refine blk_drew ?_ | refine blk_alloc ?_ _)); exact BK257.out) hb)
                        have n3_ := Aside0.mk (below_step (by repeat (first | (with_reducible first | exact HB.out | apply below_alloc | apply pw_below_drewN | apply below_drew1 | refine below_set ?_ GE257.out) | exact HB.out)) hb)
                        clear HO_11
                        clear HO_37
                        clear BK257
                        clear HB
                        have HO_11 := n0_
                        have HO_37 := n1_
                        have BK257 := n2_
                        have HB := n3_
                        clear n0_ n1_ n2_ n3_
                        (try clear hb)
                        (try clear hb2)
                        (try clear hk)
                        (try clear hi)
                        have p31 : 0 ≤ (x39_2 : Int) := of_decide_eq_true (by first | (with_reducible assumption) | assumption)
                        have q31 : (x39_2 : Int) < ((x11_2.length : Int) : Int) := of_decide_eq_true (by first | (with_reducible assumption) | assumption)
                        obtain ⟨go31, co31, eo31, gb31, gl31, cl31, HG31⟩ := Kd.R_form HO_11.out (by have e_ := hz11.1; omega)
                        (first | cases eo31 | (injection eo31 with ea_ en_ ec_; (first | subst ea_ | (injection ea_ with ea_; subst ea_)); subst ec_; clear en_))
                        have GB31 := Aside0.mk gb31
                        have GG31 := Aside0.mk HG31
                        clear gb31 gl31 HG31
                        (first | simp only [add_plain] at hx264_0 | skip)
                        obtain ⟨hx31_0, hf31_0⟩ := Kd.R_celln c64z HO_11.out (x39_2 : Int) p31 q31
                        replace p31 := eq_true p31
                        replace q31 := eq_true q31
                        have HP36 := Kd.R_putn HO_11.out (x39_2 : Int) q266
                        have HQ36 := Aside0.mk (Kd.c64_R_of (by rw [Ny267.out]; exact hz11.set _ hq266 : SameL _ y267) HP36)
                        clear HP36
                        refine hK.out _ _ (HS0_) (fun hHeld => ?_)
                        clear hK K
                        refine norm_ (a' := ?_) ?_ ?_
                        rotate_left
                        · show Act.put _ (some 53) _ = _
                          simp only [Act.put, List.setIfInBounds_toArray, List.set_cons_zero, List.set_cons_succ, i64_w, i32_w]
                          rfl
                        refine pure_ (i := 10) (N := some 54) (v := ?_) (a' := ?_) #[true, true, true, true, true, true, true, true, true, true, true, false] rfl rfl (any_of HT_.out (by kernel_rfl)) (fun _ _ _ h => h) (Or.inl ⟨by rfl, ?_⟩) ?_ ?_; rotate_left 4
                        rotate_left; iterate 1 (rotate_left; (intro w'; go_simp; with_reducible rfl); rotate_left; (simp only [Act.put, List.setIfInBounds_toArray, List.set_cons_zero, List.set_cons_succ, i64_w, i32_w]; rfl))
                        refine last_ (i := 11) (N := none) #[true, true, true, true, true, true, true, true, true, true, true, true] rfl rfl (one_of HT_.out (by kernel_rfl)) (by decide) (fun K hK => ?_)
                        refine skip_ (w1 := ?_) (by rfl) rfl ?_ ?_
                        rotate_left
                        · go_simp
                          rfl
                        refine hK.out _ _ ?_
                        clear hK K
                        refine done_ (done_of HT_.out (by kernel_rfl)) ?_
                        try go_wp2
                        go_roundg k2
                        case measure => have := HK1.out; have := HK2.out; omega
                        case rel => exact ⟨(y267), (wrap64 (x39_2 + 1)), (by first | rfl | (simp; done) | (simp [*]; done)), H', ⟨by have := HK1.out; have := HK2.out; omega⟩, ⟨by (with_reducible repeat (first | apply Kd.R_alloc | apply Kd.R_drewN | apply Kd.R_drew)); exact HQ36.out⟩, ⟨by (with_reducible repeat (first | apply Kd.R_alloc | apply Kd.R_drewN | apply Kd.R_drew)); exact Kd.R_mono (Kd.R_far (p := ⟨go31, (x39_2 : Int).toNat, none⟩) (Kd.R_mono HO_37.out (fun k_ hk => (⟨hk, fun e_ => hk (by rw [e_]; rfl)⟩ : _ ∧ k_ ≠ go31))) (fun _ hk => hk.2) (.complex .f32 q266.re q266.im)) (fun _ hk => hk.1)⟩, ⟨by (with_reducible repeat (first | refine blk_drewN ?_ _ | refine blk_drew ?_ | refine blk_alloc ?_ _)); refine blk_far ?_ (by have h_ := Kd.R_ne HO_11.out BK257.out (by decide); intro e_; exact h_ (by rw [e_]; rfl)) _; (with_reducible repeat (first | refine blk_drewN ?_ _ | refine blk_drew ?_ | refine blk_alloc ?_ _)); exact BK257.out⟩, ⟨by repeat (first | (with_reducible first | exact HB.out | apply below_alloc | apply pw_below_drewN | apply below_drew1 | refine below_set ?_ GB31.out | refine below_set ?_ GE257.out) | exact HB.out)⟩⟩
                     · rw [if_neg c28] at H
                       exact absurd H (by simp)
                   · rw [if_neg c27] at H
                     exact absurd H (by simp)
                 · rw [if_neg c26] at H
                   exact absurd H (by simp)
               · rw [if_neg c25] at H
                 have c25b0 : decide (x39_2 < (t260.length : Int)) = false := decide_eq_false c25
                 clear c25
                 as_aux_lemma =>
                  have H' := Aside0.mk H
                  clear H
                  go_wp2
                  go_roundg k2
                  case measure => have := HK1.out; have := HK2.out; omega
                  case rel => exact ⟨(x11_2), (wrap64 (x23_1 + 1)), (by first | rfl | (simp; done) | (simp [*]; done)), H', ⟨by have := HK1.out; have := HK2.out; omega⟩, ⟨by (with_reducible repeat (first | apply Kd.R_alloc | apply Kd.R_drewN | apply Kd.R_drew)); exact Kd.R_mono HO_11.out (fun _ hk => trivial)⟩, ⟨by repeat (first | (with_reducible first | exact HB.out | apply below_alloc | apply pw_below_drewN | apply below_drew1 | refine below_set ?_ GE257.out) | exact HB.out)⟩⟩
           · rw [if_neg c12] at H
             exact absurd H (by simp)
         · rw [if_neg c11] at H
           exact absurd H (by simp)
       · rw [if_neg c10] at H
         have c10b0 : decide (x23_1 < (l1.length : Int)) = false := decide_eq_false c10
         clear c10
         have H' := Aside0.mk H
         clear H
         obtain ⟨Ao37, co37, eo37⟩ := Kd.R_slice HO_11.out
         subst eo37
         go_wp2
         go_loopg [59] k1 (fun kq v59 w' => ∃ (x11_2 : List C64) (x59_2 : Int), v59 = .int .i64 x59_2 ∧ Aside0 (impl_snapshot.l2 kq a2 a3 a4 x11_2 (x11_1.length : Int) x59_2 = some r) ∧ Aside0 (kq ≤ k1) ∧ Aside0 (Kd.R Kd.c64 94 w' w.heap.size (fun _ => True) (.slice Ao37 x11_1.length co37) x11_2) ∧ Aside0 (Below w.heap.size w w'))
         case atStart => exact ⟨(x11_1), (0), (by first | rfl | (simp; done) | (simp [*]; done)), H', ⟨Nat.le_refl _⟩, ⟨by (with_reducible repeat (first | apply Kd.R_alloc | apply Kd.R_drewN | apply Kd.R_drew)); exact HO_11.out⟩, ⟨by repeat (first | (with_reducible first | exact HB.out | apply below_alloc | apply pw_below_drewN | apply below_drew1) | exact HB.out)⟩⟩
         case round =>
          clear H'
          (try clear c1); (try clear c2); (try clear p2); (try clear q2); (try clear hx2); (try clear p3); (try clear q3); (try clear hx3); (try clear c6); (try clear c6b0); (try clear c6b1); (try clear p6); (try clear c7); (try clear c7b0); (try clear c7b1); (try clear c8); (try clear c10); (try clear c10b0); (try clear c11); (try clear c11b0); (try clear c12); (try clear c12b0); (try clear c25); (try clear c25b0); (try clear p25); (try clear q25); (try clear hx25); (try clear c26); (try clear c26b0); (try clear p26); (try clear q26); (try clear hx26); (try clear c27); (try clear c27b0); (try clear c28); (try clear c28b0); (try clear p31); (try clear q31); (try clear hx31); (try clear hf31); (try clear hcz17_0); (try clear hcz17_1); (try clear hcz17_2); (try clear hcz17_3); (try clear hcz22_0); (try clear hcz22_1); (try clear hcz22_2); (try clear hcz22_3); (try clear hfz17_0); (try clear hfz17_1); (try clear hfz17_2); (try clear hfz17_3); (try clear hfz22_0); (try clear hfz22_1); (try clear hfz22_2); (try clear hfz22_3); (try clear hx256_0); (try clear hx256_1); (try clear hx256_2); (try clear hx256_3); (try clear hx263_0); (try clear hx264_0); (try clear hx31_0); (try clear p2); (try clear p256); (try clear p263); (try clear p264); (try clear p31); (try clear q2); (try clear q256); (try clear q263); (try clear q264); (try clear q31)
          obtain ⟨x11_2, x59_2, rfl, HA, HK2, HO_11, HB⟩ := hrel
          have hl11_2 := (Kd.R_reads' HO_11.out).1
          rw [hl11_2] at HO_11
          (try simp only [hl11_2])
          cases gk with
          | zero => exact absurd HA.out (by simp [impl_snapshot.l2])
          | succ k2 =>
           have H := HA.out
           clear HA
           simp only [impl_snapshot.l2] at H
           by_cases c38 : x59_2 < (x11_1.length : Int)
           · rw [if_pos c38] at H
             have c38b0 : decide (x59_2 < (x11_1.length : Int)) = true := decide_eq_true c38
             clear c38
             by_cases c39 : 0 ≤ x59_2
             · rw [if_pos c39] at H
               have c39b0 : decide (0 ≤ x59_2) = true := decide_eq_true c39
               clear c39
               by_cases c40 : x59_2 < (x11_2.length : Int)
               · rw [if_pos c40] at H
                 have c40b0 : decide (x59_2 < (x11_2.length : Int)) = true := decide_eq_true c40
                 clear c40
                 replace H := Option.bind_eq_some_iff.mp H
                 obtain ⟨t269, A410, H⟩ := H
                 replace H : ((impl_add.f (rdOf c64z x11_2 x59_2) t269).bind fun t270 => (impl_snapshot.l2 k2 a2 a3 a4 (x11_2.set (x59_2 : Int).toNat t270) (x11_1.length : Int) (wrap64 (x59_2 + 1)))) = some r := H
                 have A41 := Aside0.mk A410
                 clear A410
                 replace H := Option.bind_eq_some_iff.mp H
                 obtain ⟨t270, A420, H⟩ := H
                 replace H : (impl_snapshot.l2 k2 a2 a3 a4 (x11_2.set (x59_2 : Int).toNat t270) (x11_1.length : Int) (wrap64 (x59_2 + 1))) = some r := H
                 have A42 := Aside0.mk A420
                 clear A420
                 obtain ⟨y271, hy271⟩ : ∃ y_ : List C64, y_ = (x11_2.set (x59_2 : Int).toNat t270) := ⟨_, rfl⟩
                 replace H : (impl_snapshot.l2 k2 a2 a3 a4 y271 (x11_1.length : Int) (wrap64 (x59_2 + 1))) = some r := by first | (rw [hy271]; with_reducible exact H) | (have H2_ := (Option.bind_some _ _).symm.trans H; rw [hy271]; with_reducible exact H2_) | (have H2_ := (Option.bind_some _ _).symm.trans H; with_reducible exact H2_) | with_reducible exact H | (rw [hy271]; exact H) | exact H
                 have Ny271 := Aside0.mk hy271
                 clear hy271
                 as_aux_lemma =>
                  have H' := Aside0.mk H
                  clear H
                  obtain ⟨z11, hz11, ho11_⟩ := Kd.c64_R_to HO_11.out
                  have n0_ := Aside0.mk ho11_
                  clear HO_11 ho11_
                  have HO_11 := n0_
                  clear n0_
                  try go_wp2
                  have n0_ := Aside0.mk (Kd.R_drew HO_11.out)
                  have n1_ := Aside0.mk (below_drew1 HB.out)
                  clear HO_11
                  clear HB
                  have HO_11 := n0_
                  have HB := n1_
                  clear n0_ n1_
                  have p268 : 0 ≤ (x59_2 : Int) := of_decide_eq_true (by first | (with_reducible assumption) | assumption)
                  have q268 : x59_2 < (x11_2.length : Int) := of_decide_eq_true (by first | (with_reducible assumption) | assumption)
                  obtain ⟨ad268, e268, hx268_0⟩ := Kd.at_c64e (Kd.R_reads' HO_11.out).2.2 x59_2 p268 (by rw [hz11.1]; exact q268)
                  cases e268
                  replace p268 := eq_true p268
                  replace q268 := eq_true q268
                  refine start_ (n := 14) (S := fun w' => w'.cell? (ad268.add (x59_2).toNat) = some (.complex .f32 ((rdOf c64z z11 x59_2).re) ((rdOf c64z z11 x59_2).im))) (ds := [13]) #[false, false, false, false, false, false, false, false, false, false, false, false, false, false] (by kernel_rfl) rfl rfl (hx268_0) (fun hHeld => ?_); refine with_tabW impl_snapshot.tab15 impl_snapshot.bits15 (fun HT_ HW_ => ?_)
                  generalize wr.drew = w44 at HO_11 HB hx268_0 hHeld ⊢
                  refine pure_ (i := 0) (N := some 62) (v := ?_) (a' := ?_) #[true, false, false, false, false, false, false, false, false, false, false, false, false, false] rfl rfl (any_of HT_.out (by kernel_rfl)) (fun _ _ _ h => h) (Or.inl ⟨by rfl, ?_⟩) ?_ ?_; rotate_left 4
                  refine pure_ (i := 1) (N := some 63) (v := ?_) (a' := ?_) #[true, true, false, false, false, false, false, false, false, false, false, false, false, false] rfl rfl (any_of HT_.out (by kernel_rfl)) (fun _ _ _ h => h) (Or.inl ⟨by rfl, ?_⟩) ?_ ?_; rotate_left 4
                  refine pure_ (i := 2) (N := some 64) (v := ?_) (a' := ?_) #[true, true, true, false, false, false, false, false, false, false, false, false, false, false] rfl rfl (any_of HT_.out (by kernel_rfl)) (fun _ _ _ h => h) (Or.inl ⟨by rfl, ?_⟩) ?_ ?_; rotate_left 4
                  refine pure_ (i := 3) (N := some 65) (v := ?_) (a' := ?_) #[true, true, true, true, false, false, false, false, false, false, false, false, false, false] rfl rfl (any_of HT_.out (by kernel_rfl)) (fun _ _ _ h => h) (Or.inl ⟨by rfl, ?_⟩) ?_ ?_; rotate_left 4
                  refine pure_ (i := 4) (N := some 66) (v := ?_) (a' := ?_) #[true, true, true, true, true, false, false, false, false, false, false, false, false, false] rfl rfl (any_of HT_.out (by kernel_rfl)) (fun _ _ _ h => h) (Or.inl ⟨by rfl, ?_⟩) ?_ ?_; rotate_left 4
                  refine pure_ (i := 6) (N := some 68) (v := ?_) (a' := ?_) #[true, true, true, true, true, false, true, false, false, false, false, false, false, false] rfl rfl (any_of HT_.out (by kernel_rfl)) (fun _ _ _ h => h) (Or.inl ⟨by rfl, ?_⟩) ?_ ?_; rotate_left 4
                  refine pure_ (i := 7) (N := some 69) (v := ?_) (a' := ?_) #[true, true, true, true, true, false, true, true, false, false, false, false, false, false] rfl rfl (any_of HT_.out (by kernel_rfl)) (fun _ _ _ h => h) (Or.inl ⟨by rfl, ?_⟩) ?_ ?_; rotate_left 4
                  refine pure_ (i := 8) (N := some 70) (v := ?_) (a' := ?_) #[true, true, true, true, true, false, true, true, true, false, false, false, false, false] rfl rfl (any_of HT_.out (by kernel_rfl)) (fun _ _ _ h => h) (Or.inl ⟨by rfl, ?_⟩) ?_ ?_; rotate_left 4
                  refine pure_ (i := 9) (N := some 71) (v := ?_) (a' := ?_) #[true, true, true, true, true, false, true, true, true, true, false, false, false, false] rfl rfl (any_of HT_.out (by kernel_rfl)) (fun _ _ _ h => h) (Or.inl ⟨by rfl, ?_⟩) ?_ ?_; rotate_left 4
                  rotate_left; iterate 9 (rotate_left; (intro w'; go_simp; with_reducible rfl); rotate_left; (simp only [Act.put, List.setIfInBounds_toArray, List.set_cons_zero, List.set_cons_succ, i64_w, i32_w]; rfl))
                  refine take_ (i := 5) (N := some 67) (v := ?_) (a' := ?_) #[true, true, true, true, true, true, true, true, true, true, false, false, false, false] rfl rfl (take_ofW HT_.out HW_.out (by kernel_rfl)) (fun _ _ _ h => h) (Or.inl ⟨by rfl, ?_⟩) hHeld ?_ ?_
                  rotate_left
                  · intro w' s0
                    go_simp
                    with_reducible rfl
                  rotate_left
                  · simp only [Act.put, List.setIfInBounds_toArray, List.set_cons_zero, List.set_cons_succ, i64_w, i32_w]
                    rfl
                  refine one_ (i := 10) (N := some 72) #[true, true, true, true, true, true, true, true, true, true, true, false, false, false] rfl rfl (one_of HT_.out (by kernel_rfl)) (by decide) (fun K hK => ?_)
                  refine goes_ Try.func90 (by kernel_rfl) rfl #[.int .i64 a3, .int .i64 a4, .int .i64 x59_2, .float .f32 a2] (by rfl) rfl rfl (by (try simp only [List.map_toArray, List.map_cons, List.map_nil]); first | done | rfl | (simp only [List.length_drop, List.length_take]; rfl)) ?_
                  with_reducible refine (impl_noise.calls a3 a4 x59_2 a2 t269 _ A41.out).mono ?_
                  rintro e w45 ⟨q269, hq269, rfl, hb⟩
                  have HS0_ := (hb.cell (World.block_lt_of_cell? _ _ (hHeld))).trans (hHeld)
                  refine ⟨_, rfl, ?_⟩
                  have n0_ := Aside0.mk (Kd.R_below (by (with_reducible repeat (first | apply Kd.R_alloc | apply Kd.R_drewN | apply Kd.R_drew)); exact HO_11.out) hb)
                  have n1_ := Aside0.mk (below_step (by repeat (first | (with_reducible first | exact HB.out | apply below_alloc | apply pw_below_drewN | apply below_drew1) | exact HB.out)) hb)
                  clear HO_11
                  clear HB
                  have HO_11 := n0_
                  have HB := n1_
                  clear n0_ n1_
                  (try clear hb)
                  (try clear hb2)
                  (try clear hk)
                  (try clear hi)
                  refine hK.out _ _ (HS0_) (fun hHeld => ?_)
                  clear hK K
                  refine norm_ (a' := ?_) ?_ ?_
                  rotate_left
                  · show Act.put _ (some 72) _ = _
                    simp only [Act.put, List.setIfInBounds_toArray, List.set_cons_zero, List.set_cons_succ, i64_w, i32_w]
                    rfl
                  refine one_ (i := 11) (N := some 73) #[true, true, true, true, true, true, true, true, true, true, true, true, false, false] rfl rfl (one_of HT_.out (by kernel_rfl)) (by decide) (fun K hK => ?_)
                  refine goes_ Try.func88 (by kernel_rfl) rfl #[.complex .f32 ((rdOf c64z z11 x59_2).re) ((rdOf c64z z11 x59_2).im), .complex .f32 q269.re q269.im] (by rfl) rfl rfl (by (try simp only [List.map_toArray, List.map_cons, List.map_nil]); first | done | rfl | (simp only [List.length_drop, List.length_take]; rfl)) ?_
                  with_reducible refine (impl_add.calls (rdOf c64z z11 x59_2) q269 (rdOf c64z x11_2 x59_2) t269 (hz11.rd _) hq269 t270 _ A42.out).mono ?_
                  rintro e w46 ⟨q270, hq270, rfl, hb⟩
                  have HS0_ := (hb.cell (World.block_lt_of_cell? _ _ (hHeld))).trans (hHeld)
                  refine ⟨_, rfl, ?_⟩
                  have n0_ := Aside0.mk (Kd.R_below (by (with_reducible repeat (first | apply Kd.R_alloc | apply Kd.R_drewN | apply Kd.R_drew)); exact HO_11.out) hb)
                  have n1_ := Aside0.mk (below_step (by repeat (first | (with_reducible first | exact HB.out | apply below_alloc | apply pw_below_drewN | apply below_drew1) | exact HB.out)) hb)
                  clear HO_11
                  clear HB
                  have HO_11 := n0_
                  have HB := n1_
                  clear n0_ n1_
                  (try clear hb)
                  (try clear hb2)
                  (try clear hk)
                  (try clear hi)
                  have p43 : 0 ≤ (x59_2 : Int) := of_decide_eq_true (by first | (with_reducible assumption) | assumption)
                  have q43 : (x59_2 : Int) < ((x11_2.length : Int) : Int) := of_decide_eq_true (by first | (with_reducible assumption) | assumption)
                  obtain ⟨go43, co43, eo43, gb43, gl43, cl43, HG43⟩ := Kd.R_form HO_11.out (by have e_ := hz11.1; omega)
                  (first | cases eo43 | (injection eo43 with ea_ en_ ec_; (first | subst ea_ | (injection ea_ with ea_; subst ea_)); subst ec_; clear en_))
                  have GB43 := Aside0.mk gb43
                  have GG43 := Aside0.mk HG43
                  clear gb43 gl43 HG43
                  (first | simp only [add_plain] at hx268_0 | skip)
                  obtain ⟨hx43_0, hf43_0⟩ := Kd.R_celln c64z HO_11.out (x59_2 : Int) p43 q43
                  replace p43 := eq_true p43
                  replace q43 := eq_true q43
                  have HP47 := Kd.R_putn HO_11.out (x59_2 : Int) q270
                  have HQ47 := Aside0.mk (Kd.c64_R_of (by rw [Ny271.out]; exact hz11.set _ hq270 : SameL _ y271) HP47)
                  clear HP47
                  refine hK.out _ _ (HS0_) (fun hHeld => ?_)
                  clear hK K
                  refine norm_ (a' := ?_) ?_ ?_
                  rotate_left
                  · show Act.put _ (some 73) _ = _
                    simp only [Act.put, List.setIfInBounds_toArray, List.set_cons_zero, List.set_cons_succ, i64_w, i32_w]
                    rfl
                  refine pure_ (i := 12) (N := some 74) (v := ?_) (a' := ?_) #[true, true, true, true, true, true, true, true, true, true, true, true, true, false] rfl rfl (any_of HT_.out (by kernel_rfl)) (fun _ _ _ h => h) (Or.inl ⟨by rfl, ?_⟩) ?_ ?_; rotate_left 4
                  rotate_left; iterate 1 (rotate_left; (intro w'; go_simp; with_reducible rfl); rotate_left; (simp only [Act.put, List.setIfInBounds_toArray, List.set_cons_zero, List.set_cons_succ, i64_w, i32_w]; rfl))
                  refine last_ (i := 13) (N := none) #[true, true, true, true, true, true, true, true, true, true, true, true, true, true] rfl rfl (one_of HT_.out (by kernel_rfl)) (by decide) (fun K hK => ?_)
                  refine skip_ (w1 := ?_) (by rfl) rfl ?_ ?_
                  rotate_left
                  · go_simp
                    rfl
                  refine hK.out _ _ ?_
                  clear hK K
                  refine done_ (done_of HT_.out (by kernel_rfl)) ?_
                  try go_wp2
                  (try simp only [← hl11_2])
                  go_roundg k2
                  case measure => have := HK1.out; have := HK2.out; omega
                  case rel => exact ⟨(y271), (wrap64 (x59_2 + 1)), (by first | rfl | (simp; done) | (simp [*]; done)), H', ⟨by have := HK1.out; have := HK2.out; omega⟩, ⟨by (try simp only [hl11_2]); (with_reducible repeat (first | apply Kd.R_alloc | apply Kd.R_drewN | apply Kd.R_drew)); exact HQ47.out⟩, ⟨by repeat (first | (with_reducible first | exact HB.out | apply below_alloc | apply pw_below_drewN | apply below_drew1 | refine below_set ?_ GB43.out) | exact HB.out)⟩⟩
               · rw [if_neg c40] at H
                 exact absurd H (by simp)
             · rw [if_neg c39] at H
               exact absurd H (by simp)
           · rw [if_neg c38] at H
             have c38b0 : decide (x59_2 < (x11_1.length : Int)) = false := decide_eq_false c38
             clear c38
             as_aux_lemma =>
              obtain rfl := Option.some.inj H
              (try rw [hl11_2] at c38b0)
              go_wp2
              go_ret
              exact ⟨_, by first | rfl | (simp [errW_none, errW_some] <;> rfl) | (simp [*, errW_none, errW_some] <;> rfl), by (with_reducible repeat (first | apply Kd.R_alloc | apply Kd.R_drewN | apply Kd.R_drew)); exact HO_11.out, by repeat (first | (with_reducible first | exact HB.out | apply below_alloc | apply pw_below_drewN | apply below_drew1) | exact HB.out)⟩
   · rw [if_neg c7] at H
     exact absurd H (by simp)
 · rw [if_neg c6] at H
   exact absurd H (by simp)

/-! ### impl_SnapshotsOf: function 34 -/
mutual
def impl_SnapshotsOf.j0 : Nat → List (S88) → List (S69) → Nat → Int → Int → Int → Bool → Option ((List (List C64)) × Bool)
 | 0, _, _, _, _, _, _, _ => none
 | k + 1, x0, x1, x2, x3, x4, x5, x50 => if x50 = true then (some (([] : List (List C64)), false)) else (impl_SnapshotsOf.l0 k x0 x1 x2 x3 x4 (([] : List (List C64))) x5 0)
def impl_SnapshotsOf.l0 : Nat → List (S88) → List (S69) → Nat → Int → Int → List (List C64) → Int → Int → Option ((List (List C64)) × Bool)
 | 0, _, _, _, _, _, _, _, _ => none
 | k + 1, x0, x1, x2, x3, x4, x14, x52, x53 => if x53 < x52 then ((impl_snapshot.f k x0 x1 x2 x3 (wrap64 (x4 + x53))).bind fun t264 => (if x14.length < 5864062014805 then (impl_SnapshotsOf.l0 k x0 x1 x2 x3 x4 (x14 ++ [t264]) x52 (wrap64 (x53 + 1))) else (none))) else (some (x14, true))
end
def impl_SnapshotsOf.f (k : Nat) (l0 : List (S88)) (l1 : List (S69)) (a2 : Nat) (a3 : Int) (a4 : Int) (a5 : Int) : Option ((List (List C64)) × Bool) := (impl_ValidPlaces.f k l0).bind fun t255 => (if t255 = true then ((impl_ValidSources.f k l1).bind fun t256 => (if t256 = true then ((impl_isSeed.f a3).bind fun t257 => (if t257 = true then ((impl_isIndex.f a4).bind fun t258 => (if t258 = true then ((impl_within.f a5 0 64).bind fun t259 => (if t259 = true then (if a5 > 0 then ((impl_isIndex.f (wrap64 ((wrap64 (a4 + a5)) - 1))).bind fun t260 => (impl_SnapshotsOf.j0 k l0 l1 a2 a3 a4 a5 (!t260))) else (impl_SnapshotsOf.j0 k l0 l1 a2 a3 a4 a5 false)) else (impl_SnapshotsOf.j0 k l0 l1 a2 a3 a4 a5 true))) else (impl_SnapshotsOf.j0 k l0 l1 a2 a3 a4 a5 true))) else (impl_SnapshotsOf.j0 k l0 l1 a2 a3 a4 a5 true))) else (impl_SnapshotsOf.j0 k l0 l1 a2 a3 a4 a5 true))) else (impl_SnapshotsOf.j0 k l0 l1 a2 a3 a4 a5 true))
set_option maxHeartbeats 8000000 in
set_option maxRecDepth 100000 in
theorem impl_SnapshotsOf.calls (k : Nat) (A0 : Option Addr) (c0 : Nat) (l0 : List (S88)) (A1 : Option Addr) (c1 : Nat) (l1 : List (S69)) (a2 : Nat) (a3 : Int) (a4 : Int) (a5 : Int) (r1 : List (List C64)) (r2 : Bool) (w : World) (hr0 : Kd.C k88 w A0 l0.length l0) (hc0 : l0.length ≤ c0) (hr1 : Kd.C k69 w A1 l1.length l1) (hc1 : l1.length ≤ c1) (h : impl_SnapshotsOf.f k l0 l1 a2 a3 a4 a5 = some (r1, r2)) :
 Calls Try.prog 34 #[.slice A0 l0.length c0, .slice A1 l1.length c1, .float .f32 a2, .int .i64 a3, .int .i64 a4, .int .i64 a5] w fun e w' => ∃ v0_ : Value, e = .returned (.tuple #[v0_, .bool r2]) ∧ Kd.S (Kd.slice 94 Kd.c64) 45 w' w.heap.size (fun _ => True) v0_ r1 ∧ Below w.heap.size w w' := by
 have HR0 := Aside0.mk hr0
 have HC0 := Aside0.mk hc0
 clear hr0 hc0
 have HR1 := Aside0.mk hr1
 have HC1 := Aside0.mk hc1
 clear hr1 hc1
 have HB := Aside0.mk (Below.refl w.heap.size w)
 have H : ((impl_ValidPlaces.f k l0).bind fun t255 => (if t255 = true then ((impl_ValidSources.f k l1).bind fun t256 => (if t256 = true then ((impl_isSeed.f a3).bind fun t257 => (if t257 = true then ((impl_isIndex.f a4).bind fun t258 => (if t258 = true then ((impl_within.f a5 0 64).bind fun t259 => (if t259 = true then (if a5 > 0 then ((impl_isIndex.f (wrap64 ((wrap64 (a4 + a5)) - 1))).bind fun t260 => (impl_SnapshotsOf.j0 k l0 l1 a2 a3 a4 a5 (!t260))) else (impl_SnapshotsOf.j0 k l0 l1 a2 a3 a4 a5 false)) else (impl_SnapshotsOf.j0 k l0 l1 a2 a3 a4 a5 true))) else (impl_SnapshotsOf.j0 k l0 l1 a2 a3 a4 a5 true))) else (impl_SnapshotsOf.j0 k l0 l1 a2 a3 a4 a5 true))) else (impl_SnapshotsOf.j0 k l0 l1 a2 a3 a4 a5 true))) else (impl_SnapshotsOf.j0 k l0 l1 a2 a3 a4 a5 true))) = some (r1, r2) := h
 clear h
 have HC7 := Aside0.mk H
 clear H
 go_enter Try.func34, Try.ntmps34
 go_upto_region 1 with (fail)
 go_cut [50] (fun v50 wc => ∃ (kq : Nat) (x50_6 : Bool), v50 = .bool x50_6 ∧ Aside0 (impl_SnapshotsOf.j0 kq l0 l1 a2 a3 a4 a5 x50_6 = some (r1, r2)) ∧ Aside0 (kq ≤ k) ∧ Aside0 (Below w.heap.size w wc))
 case first =>
  have H := HC7.out
  clear HC7
  replace H := Option.bind_eq_some_iff.mp H
  obtain ⟨t255, A80, H⟩ := H
  replace H : (if t255 = true then ((impl_ValidSources.f k l1).bind fun t256 => (if t256 = true then ((impl_isSeed.f a3).bind fun t257 => (if t257 = true then ((impl_isIndex.f a4).bind fun t258 => (if t258 = true then ((impl_within.f a5 0 64).bind fun t259 => (if t259 = true then (if a5 > 0 then ((impl_isIndex.f (wrap64 ((wrap64 (a4 + a5)) - 1))).bind fun t260 => (impl_SnapshotsOf.j0 k l0 l1 a2 a3 a4 a5 (!t260))) else (impl_SnapshotsOf.j0 k l0 l1 a2 a3 a4 a5 false)) else (impl_SnapshotsOf.j0 k l0 l1 a2 a3 a4 a5 true))) else (impl_SnapshotsOf.j0 k l0 l1 a2 a3 a4 a5 true))) else (impl_SnapshotsOf.j0 k l0 l1 a2 a3 a4 a5 true))) else (impl_SnapshotsOf.j0 k l0 l1 a2 a3 a4 a5 true))) else (impl_SnapshotsOf.j0 k l0 l1 a2 a3 a4 a5 true)) = some (r1, r2) := H
  have A8 := Aside0.mk A80
  clear A80
  by_cases c9 : t255 = true
  · subst c9
    have H1 : ((impl_ValidSources.f k l1).bind fun t256 => (if t256 = true then ((impl_isSeed.f a3).bind fun t257 => (if t257 = true then ((impl_isIndex.f a4).bind fun t258 => (if t258 = true then ((impl_within.f a5 0 64).bind fun t259 => (if t259 = true then (if a5 > 0 then ((impl_isIndex.f (wrap64 ((wrap64 (a4 + a5)) - 1))).bind fun t260 => (impl_SnapshotsOf.j0 k l0 l1 a2 a3 a4 a5 (!t260))) else (impl_SnapshotsOf.j0 k l0 l1 a2 a3 a4 a5 false)) else (impl_SnapshotsOf.j0 k l0 l1 a2 a3 a4 a5 true))) else (impl_SnapshotsOf.j0 k l0 l1 a2 a3 a4 a5 true))) else (impl_SnapshotsOf.j0 k l0 l1 a2 a3 a4 a5 true))) else (impl_SnapshotsOf.j0 k l0 l1 a2 a3 a4 a5 true))) = some (r1, r2) := by rw [if_pos rfl] at H; exact H
    clear H
    have H := H1
    clear H1
    replace H := Option.bind_eq_some_iff.mp H
    obtain ⟨t256, A100, H⟩ := H
    replace H : (if t256 = true then ((impl_isSeed.f a3).bind fun t257 => (if t257 = true then ((impl_isIndex.f a4).bind fun t258 => (if t258 = true then ((impl_within.f a5 0 64).bind fun t259 => (if t259 = true then (if a5 > 0 then ((impl_isIndex.f (wrap64 ((wrap64 (a4 + a5)) - 1))).bind fun t260 => (impl_SnapshotsOf.j0 k l0 l1 a2 a3 a4 a5 (!t260))) else (impl_SnapshotsOf.j0 k l0 l1 a2 a3 a4 a5 false)) else (impl_SnapshotsOf.j0 k l0 l1 a2 a3 a4 a5 true))) else (impl_SnapshotsOf.j0 k l0 l1 a2 a3 a4 a5 true))) else (impl_SnapshotsOf.j0 k l0 l1 a2 a3 a4 a5 true))) else (impl_SnapshotsOf.j0 k l0 l1 a2 a3 a4 a5 true)) = some (r1, r2) := H
    have A10 := Aside0.mk A100
    clear A100
    by_cases c11 : t256 = true
    · subst c11
      have H1 : ((impl_isSeed.f a3).bind fun t257 => (if t257 = true then ((impl_isIndex.f a4).bind fun t258 => (if t258 = true then ((impl_within.f a5 0 64).bind fun t259 => (if t259 = true then (if a5 > 0 then ((impl_isIndex.f (wrap64 ((wrap64 (a4 + a5)) - 1))).bind fun t260 => (impl_SnapshotsOf.j0 k l0 l1 a2 a3 a4 a5 (!t260))) else (impl_SnapshotsOf.j0 k l0 l1 a2 a3 a4 a5 false)) else (impl_SnapshotsOf.j0 k l0 l1 a2 a3 a4 a5 true))) else (impl_SnapshotsOf.j0 k l0 l1 a2 a3 a4 a5 true))) else (impl_SnapshotsOf.j0 k l0 l1 a2 a3 a4 a5 true))) = some (r1, r2) := by rw [if_pos rfl] at H; exact H
      clear H
      have H := H1
      clear H1
      replace H := Option.bind_eq_some_iff.mp H
      obtain ⟨t257, A120, H⟩ := H
      replace H : (if t257 = true then ((impl_isIndex.f a4).bind fun t258 => (if t258 = true then ((impl_within.f a5 0 64).bind fun t259 => (if t259 = true then (if a5 > 0 then ((impl_isIndex.f (wrap64 ((wrap64 (a4 + a5)) - 1))).bind fun t260 => (impl_SnapshotsOf.j0 k l0 l1 a2 a3 a4 a5 (!t260))) else (impl_SnapshotsOf.j0 k l0 l1 a2 a3 a4 a5 false)) else (impl_SnapshotsOf.j0 k l0 l1 a2 a3 a4 a5 true))) else (impl_SnapshotsOf.j0 k l0 l1 a2 a3 a4 a5 true))) else (impl_SnapshotsOf.j0 k l0 l1 a2 a3 a4 a5 true)) = some (r1, r2) := H
      have A12 := Aside0.mk A120
      clear A120
      by_cases c13 : t257 = true
      · subst c13
        have H1 : ((impl_isIndex.f a4).bind fun t258 => (if t258 = true then ((impl_within.f a5 0 64).bind fun t259 => (if t259 = true then (if a5 > 0 then ((impl_isIndex.f (wrap64 ((wrap64 (a4 + a5)) - 1))).bind fun t260 => (impl_SnapshotsOf.j0 k l0 l1 a2 a3 a4 a5 (!t260))) else (impl_SnapshotsOf.j0 k l0 l1 a2 a3 a4 a5 false)) else (impl_SnapshotsOf.j0 k l0 l1 a2 a3 a4 a5 true))) else (impl_SnapshotsOf.j0 k l0 l1 a2 a3 a4 a5 true))) = some (r1, r2) := by rw [if_pos rfl] at H; exact H
        clear H
        have H := H1
        clear H1
        replace H := Option.bind_eq_some_iff.mp H
        obtain ⟨t258, A140, H⟩ := H
        replace H : (if t258 = true then ((impl_within.f a5 0 64).bind fun t259 => (if t259 = true then (if a5 > 0 then ((impl_isIndex.f (wrap64 ((wrap64 (a4 + a5)) - 1))).bind fun t260 => (impl_SnapshotsOf.j0 k l0 l1 a2 a3 a4 a5 (!t260))) else (impl_SnapshotsOf.j0 k l0 l1 a2 a3 a4 a5 false)) else (impl_SnapshotsOf.j0 k l0 l1 a2 a3 a4 a5 true))) else (impl_SnapshotsOf.j0 k l0 l1 a2 a3 a4 a5 true)) = some (r1, r2) := H
        have A14 := Aside0.mk A140
        clear A140
        by_cases c15 : t258 = true
        · subst c15
          have H1 : ((impl_within.f a5 0 64).bind fun t259 => (if t259 = true then (if a5 > 0 then ((impl_isIndex.f (wrap64 ((wrap64 (a4 + a5)) - 1))).bind fun t260 => (impl_SnapshotsOf.j0 k l0 l1 a2 a3 a4 a5 (!t260))) else (impl_SnapshotsOf.j0 k l0 l1 a2 a3 a4 a5 false)) else (impl_SnapshotsOf.j0 k l0 l1 a2 a3 a4 a5 true))) = some (r1, r2) := by rw [if_pos rfl] at H; exact H
          clear H
          have H := H1
          clear H1
          replace H := Option.bind_eq_some_iff.mp H
          obtain ⟨t259, A160, H⟩ := H
          replace H : (if t259 = true then (if a5 > 0 then ((impl_isIndex.f (wrap64 ((wrap64 (a4 + a5)) - 1))).bind fun t260 => (impl_SnapshotsOf.j0 k l0 l1 a2 a3 a4 a5 (!t260))) else (impl_SnapshotsOf.j0 k l0 l1 a2 a3 a4 a5 false)) else (impl_SnapshotsOf.j0 k l0 l1 a2 a3 a4 a5 true)) = some (r1, r2) := H
          have A16 := Aside0.mk A160
          clear A160
          by_cases c17 : t259 = true
          · subst c17
            have H1 : (if a5 > 0 then ((impl_isIndex.f (wrap64 ((wrap64 (a4 + a5)) - 1))).bind fun t260 => (impl_SnapshotsOf.j0 k l0 l1 a2 a3 a4 a5 (!t260))) else (impl_SnapshotsOf.j0 k l0 l1 a2 a3 a4 a5 false)) = some (r1, r2) := by rw [if_pos rfl] at H; exact H
            clear H
            have H := H1
            clear H1
            by_cases c18 : a5 > 0
            · rw [if_pos c18] at H
              have c18b0 : decide (0 < a5) = true := decide_eq_true c18
              clear c18
              (first | rw [c18b0] | (simp only [i64_w, i32_w]; rw [c18b0]) | skip)
              replace H := Option.bind_eq_some_iff.mp H
              obtain ⟨t260, A190, H⟩ := H
              replace H : (impl_SnapshotsOf.j0 k l0 l1 a2 a3 a4 a5 (!t260)) = some (r1, r2) := H
              have A19 := Aside0.mk A190
              clear A190
              have H' := Aside0.mk H
              clear H
              go_wp2_with (first | ((with_reducible refine gate_callee (f := 60) rfl ?_); refine goesL_ (some 17) rfl rfl Try.func60 (by kernel_rfl) rfl #[.slice A0 l0.length c0] rfl (by (try simp only [List.map_toArray, List.map_cons, List.map_nil]); first | done | rfl | (simp only [List.length_drop, List.length_take]; rfl)) ?_; (with_reducible refine (impl_ValidPlaces.calls k _ _ l0 true _ ?side1 ?side2 A8.out).mono ?_); (case side1 => repeat (first | exact (Kd.C_below HR0.out HB.out) | (with_reducible refine Kd.C_alloc ?_ _) | (with_reducible refine Kd.C_drewN ?_ _) | (with_reducible refine Kd.C_drew ?_))); (case side2 => exact HC0.out); rintro e w20 ⟨rfl, hb⟩; refine ⟨_, rfl, ?_⟩; have n0_ := Aside0.mk (below_step (by repeat (first | (with_reducible first | exact HB.out | apply below_alloc | apply pw_below_drewN | apply below_drew1) | exact HB.out)) hb); clear HB; have HB := n0_; clear n0_; (try clear hb); (try clear hb2); (try clear hk); (try clear hi)) | (go_at_call 15; (with_reducible refine (impl_ValidSources.calls k _ _ l1 true _ ?side1 ?side2 A10.out).mono ?_); (case side1 => repeat (first | exact (Kd.C_below HR1.out HB.out) | (with_reducible refine Kd.C_alloc ?_ _) | (with_reducible refine Kd.C_drewN ?_ _) | (with_reducible refine Kd.C_drew ?_))); (case side2 => exact HC1.out); rintro e w21 ⟨rfl, hb⟩; have n0_ := Aside0.mk (below_step (by repeat (first | (with_reducible first | exact HB.out | apply below_alloc | apply pw_below_drewN | apply below_drew1) | exact HB.out)) hb); clear HB; have HB := n0_; clear n0_; (try clear hb); (try clear hb2); (try clear hk); (try clear hi)) | (go_at_call 45; (with_reducible refine (impl_isSeed.calls a3 true _ A12.out).mono ?_); rintro e w' ⟨rfl, ⟨nd, rfl⟩⟩) | (go_at_call 61; (with_reducible refine (impl_isIndex.calls a4 true _ A14.out).mono ?_); rintro e w' ⟨rfl, ⟨nd, rfl⟩⟩) | (go_at_call 39; (with_reducible refine (impl_within.calls a5 0 64 true _ A16.out).mono ?_); rintro e w' ⟨rfl, ⟨nd, rfl⟩⟩) | (go_at_call 61; (with_reducible refine (impl_isIndex.calls (wrap64 ((wrap64 (a4 + a5)) - 1)) t260 _ A19.out).mono ?_); rintro e w' ⟨rfl, ⟨nd, rfl⟩⟩))
              go_meet
              case rel => exact ⟨_, (!t260), (by first | rfl | (simp; done) | (simp [*]; done)), H', ⟨by first | omega | exact Nat.le_refl _⟩, ⟨by repeat (first | (with_reducible first | exact HB.out | apply below_alloc | apply pw_below_drewN | apply below_drew1) | exact HB.out)⟩⟩
            · rw [if_neg c18] at H
              have c18b0 : decide (0 < a5) = false := decide_eq_false c18
              clear c18
              (first | rw [c18b0] | (simp only [i64_w, i32_w]; rw [c18b0]) | skip)
              have H' := Aside0.mk H
              clear H
              go_wp2_with (first | ((with_reducible refine gate_callee (f := 60) rfl ?_); refine goesL_ (some 17) rfl rfl Try.func60 (by kernel_rfl) rfl #[.slice A0 l0.length c0] rfl (by (try simp only [List.map_toArray, List.map_cons, List.map_nil]); first | done | rfl | (simp only [List.length_drop, List.length_take]; rfl)) ?_; (with_reducible refine (impl_ValidPlaces.calls k _ _ l0 true _ ?side1 ?side2 A8.out).mono ?_); (case side1 => repeat (first | exact (Kd.C_below HR0.out HB.out) | (with_reducible refine Kd.C_alloc ?_ _) | (with_reducible refine Kd.C_drewN ?_ _) | (with_reducible refine Kd.C_drew ?_))); (case side2 => exact HC0.out); rintro e w22 ⟨rfl, hb⟩; refine ⟨_, rfl, ?_⟩; have n0_ := Aside0.mk (below_step (by repeat (first | (with_reducible first | exact HB.out | apply below_alloc | apply pw_below_drewN | apply below_drew1) | exact HB.out)) hb); clear HB; have HB := n0_; clear n0_; (try clear hb); (try clear hb2); (try clear hk); (try clear hi)) | (go_at_call 15; (with_reducible refine (impl_ValidSources.calls k _ _ l1 true _ ?side1 ?side2 A10.out).mono ?_); (case side1 => repeat (first | exact (Kd.C_below HR1.out HB.out) | (with_reducible refine Kd.C_alloc ?_ _) | (with_reducible refine Kd.C_drewN ?_ _) | (with_reducible refine Kd.C_drew ?_))); (case side2 => exact HC1.out); rintro e w23 ⟨rfl, hb⟩; have n0_ := Aside0.mk (below_step (by repeat (first | (with_reducible first | exact HB.out | apply below_alloc | apply pw_below_drewN | apply below_drew1) | exact HB.out)) hb); clear HB; have HB := n0_; clear n0_; (try clear hb); (try clear hb2); (try clear hk); (try clear hi)) | (go_at_call 45; (with_reducible refine (impl_isSeed.calls a3 true _ A12.out).mono ?_); rintro e w' ⟨rfl, ⟨nd, rfl⟩⟩) | (go_at_call 61; (with_reducible refine (impl_isIndex.calls a4 true _ A14.out).mono ?_); rintro e w' ⟨rfl, ⟨nd, rfl⟩⟩) | (go_at_call 39; (with_reducible refine (impl_within.calls a5 0 64 true _ A16.out).mono ?_); rintro e w' ⟨rfl, ⟨nd, rfl⟩⟩))
              go_meet
              case rel => exact ⟨_, (false), (by first | rfl | (simp; done) | (simp [*]; done)), H', ⟨by first | omega | exact Nat.le_refl _⟩, ⟨by repeat (first | (with_reducible first | exact HB.out | apply below_alloc | apply pw_below_drewN | apply below_drew1) | exact HB.out)⟩⟩
          · replace c17 := Bool.eq_false_iff.mpr c17
            subst c17
            have H1 : (impl_SnapshotsOf.j0 k l0 l1 a2 a3 a4 a5 true) = some (r1, r2) := by rw [if_neg (show ¬ (false = true) by decide)] at H; exact H
            clear H
            have H := H1
            clear H1
            have H' := Aside0.mk H
            clear H
            go_wp2_with (first | ((with_reducible refine gate_callee (f := 60) rfl ?_); refine goesL_ (some 17) rfl rfl Try.func60 (by kernel_rfl) rfl #[.slice A0 l0.length c0] rfl (by (try simp only [List.map_toArray, List.map_cons, List.map_nil]); first | done | rfl | (simp only [List.length_drop, List.length_take]; rfl)) ?_; (with_reducible refine (impl_ValidPlaces.calls k _ _ l0 true _ ?side1 ?side2 A8.out).mono ?_); (case side1 => repeat (first | exact (Kd.C_below HR0.out HB.out) | (with_reducible refine Kd.C_alloc ?_ _) | (with_reducible refine Kd.C_drewN ?_ _) | (with_reducible refine Kd.C_drew ?_))); (case side2 => exact HC0.out); rintro e w24 ⟨rfl, hb⟩; refine ⟨_, rfl, ?_⟩; have n0_ := Aside0.mk (below_step (by repeat (first | (with_reducible first | exact HB.out | apply below_alloc | apply pw_below_drewN | apply below_drew1) | exact HB.out)) hb); clear HB; have HB := n0_; clear n0_; (try clear hb); (try clear hb2); (try clear hk); (try clear hi)) | (go_at_call 15; (with_reducible refine (impl_ValidSources.calls k _ _ l1 true _ ?side1 ?side2 A10.out).mono ?_); (case side1 => repeat (first | exact (Kd.C_below HR1.out HB.out) | (with_reducible refine Kd.C_alloc ?_ _) | (with_reducible refine Kd.C_drewN ?_ _) | (with_reducible refine Kd.C_drew ?_))); (case side2 => exact HC1.out); rintro e w25 ⟨rfl, hb⟩; have n0_ := Aside0.mk (below_step (by repeat (first | (with_reducible first | exact HB.out | apply below_alloc | apply pw_below_drewN | apply below_drew1) | exact HB.out)) hb); clear HB; have HB := n0_; clear n0_; (try clear hb); (try clear hb2); (try clear hk); (try clear hi)) | (go_at_call 45; (with_reducible refine (impl_isSeed.calls a3 true _ A12.out).mono ?_); rintro e w' ⟨rfl, ⟨nd, rfl⟩⟩) | (go_at_call 61; (with_reducible refine (impl_isIndex.calls a4 true _ A14.out).mono ?_); rintro e w' ⟨rfl, ⟨nd, rfl⟩⟩) | (go_at_call 39; (with_reducible refine (impl_within.calls a5 0 64 false _ A16.out).mono ?_); rintro e w' ⟨rfl, ⟨nd, rfl⟩⟩))
            go_meet
            case rel => exact ⟨_, (true), (by first | rfl | (simp; done) | (simp [*]; done)), H', ⟨by first | omega | exact Nat.le_refl _⟩, ⟨by repeat (first | (with_reducible first | exact HB.out | apply below_alloc | apply pw_below_drewN | apply below_drew1) | exact HB.out)⟩⟩
        · replace c15 := Bool.eq_false_iff.mpr c15
          subst c15
          have H1 : (impl_SnapshotsOf.j0 k l0 l1 a2 a3 a4 a5 true) = some (r1, r2) := by rw [if_neg (show ¬ (false = true) by decide)] at H; exact H
          clear H
          have H := H1
          clear H1
          have H' := Aside0.mk H
          clear H
          go_wp2_with (first | ((with_reducible refine gate_callee (f := 60) rfl ?_); refine goesL_ (some 17) rfl rfl Try.func60 (by kernel_rfl) rfl #[.slice A0 l0.length c0] rfl (by (try simp only [List.map_toArray, List.map_cons, List.map_nil]); first | done | rfl | (simp only [List.length_drop, List.length_take]; rfl)) ?_; (with_reducible refine (impl_ValidPlaces.calls k _ _ l0 true _ ?side1 ?side2 A8.out).mono ?_); (case side1 => repeat (first | exact (Kd.C_below HR0.out HB.out) | (with_reducible refine Kd.C_alloc ?_ _) | (with_reducible refine Kd.C_drewN ?_ _) | (with_reducible refine Kd.C_drew ?_))); (case side2 => exact HC0.out); rintro e w26 ⟨rfl, hb⟩; refine ⟨_, rfl, ?_⟩; have n0_ := Aside0.mk (below_step (by repeat (first | (with_reducible first | exact HB.out | apply below_alloc | apply pw_below_drewN | apply below_drew1) | exact HB.out)) hb); clear HB; have HB := n0_; clear n0_; (try clear hb); (try clear hb2); (try clear hk); (try clear hi)) | (go_at_call 15; (with_reducible refine (impl_ValidSources.calls k _ _ l1 true _ ?side1 ?side2 A10.out).mono ?_); (case side1 => repeat (first | exact (Kd.C_below HR1.out HB.out) | (with_reducible refine Kd.C_alloc ?_ _) | (with_reducible refine Kd.C_drewN ?_ _) | (with_reducible refine Kd.C_drew ?_))); (case side2 => exact HC1.out); rintro e w27 ⟨rfl, hb⟩; have n0_ := Aside0.mk (below_step (by repeat (first | (with_reducible first | exact HB.out | apply below_alloc | apply pw_below_drewN | apply below_drew1) | exact HB.out)) hb); clear HB; have HB := n0_; clear n0_; (try clear hb); (try clear hb2); (try clear hk); (try clear hi)) | (go_at_call 45; (with_reducible refine (impl_isSeed.calls a3 true _ A12.out).mono ?_); rintro e w' ⟨rfl, ⟨nd, rfl⟩⟩) | (go_at_call 61; (with_reducible refine (impl_isIndex.calls a4 false _ A14.out).mono ?_); rintro e w' ⟨rfl, ⟨nd, rfl⟩⟩))
          go_meet
          case rel => exact ⟨_, (true), (by first | rfl | (simp; done) | (simp [*]; done)), H', ⟨by first | omega | exact Nat.le_refl _⟩, ⟨by repeat (first | (with_reducible first | exact HB.out | apply below_alloc | apply pw_below_drewN | apply below_drew1) | exact HB.out)⟩⟩
      · replace c13 := Bool.eq_false_iff.mpr c13
        subst c13
        have H1 : (impl_SnapshotsOf.j0 k l0 l1 a2 a3 a4 a5 true) = some (r1, r2) := by rw [if_neg (show ¬ (false = true) by decide)] at H; exact H
        clear H
        have H := H1
        clear H1
        have H' := Aside0.mk H
        clear H
        go_wp2_with (first | ((with_reducible refine gate_callee (f := 60) rfl ?_); refine goesL_ (some 17) rfl rfl Try.func60 (by kernel_rfl) rfl #[.slice A0 l0.length c0] rfl (by (try simp only [List.map_toArray, List.map_cons, List.map_nil]); first | done | rfl | (simp only [List.length_drop, List.length_take]; rfl)) ?_; (with_reducible refine (impl_ValidPlaces.calls k _ _ l0 true _ ?side1 ?side2 A8.out).mono ?_); (case side1 => repeat (first | exact (Kd.C_below HR0.out HB.out) | (with_reducible refine Kd.C_alloc ?_ _) | (with_reducible refine Kd.C_drewN ?_ _) | (with_reducible refine Kd.C_drew ?_))); (case side2 => exact HC0.out); rintro e w28 ⟨rfl, hb⟩; refine ⟨_, rfl, ?_⟩; have n0_ := Aside0.mk (below_step (by repeat (first | (with_reducible first | exact HB.out | apply below_alloc | apply pw_below_drewN | apply below_drew1) | exact HB.out)) hb); clear HB; have HB := n0_; clear n0_; (try clear hb); (try clear hb2); (try clear hk); (try clear hi)) | (go_at_call 15; (with_reducible refine (impl_ValidSources.calls k _ _ l1 true _ ?side1 ?side2 A10.out).mono ?_); (case side1 => repeat (first | exact (Kd.C_below HR1.out HB.out) | (with_reducible refine Kd.C_alloc ?_ _) | (with_reducible refine Kd.C_drewN ?_ _) | (with_reducible refine Kd.C_drew ?_))); (case side2 => exact HC1.out); rintro e w29 ⟨rfl, hb⟩; have n0_ := Aside0.mk (below_step (by repeat (first | (with_reducible first | exact HB.out | apply below_alloc | apply pw_below_drewN | apply below_drew1) | exact HB.out)) hb); clear HB; have HB := n0_; clear n0_; (try clear hb); (try clear hb2); (try clear hk); (try clear hi)) | (go_at_call 45; (with_reducible refine (impl_isSeed.calls a3 false _ A12.out).mono ?_); rintro e w' ⟨rfl, ⟨nd, rfl⟩⟩))
        go_meet
        case rel => exact ⟨_, (true), (by first | rfl | (simp; done) | (simp [*]; done)), H', ⟨by first | omega | exact Nat.le_refl _⟩, ⟨by repeat (first | (with_reducible first | exact HB.out | apply below_alloc | apply pw_below_drewN | apply below_drew1) | exact HB.out)⟩⟩
    · replace c11 := Bool.eq_false_iff.mpr c11
      subst c11
      have H1 : (impl_SnapshotsOf.j0 k l0 l1 a2 a3 a4 a5 true) = some (r1, r2) := by rw [if_neg (show ¬ (false = true) by decide)] at H; exact H
      clear H
      have H := H1
      clear H1
      have H' := Aside0.mk H
      clear H
      go_wp2_with (first | ((with_reducible refine gate_callee (f := 60) rfl ?_); refine goesL_ (some 17) rfl rfl Try.func60 (by kernel_rfl) rfl #[.slice A0 l0.length c0] rfl (by (try simp only [List.map_toArray, List.map_cons, List.map_nil]); first | done | rfl | (simp only [List.length_drop, List.length_take]; rfl)) ?_; (with_reducible refine (impl_ValidPlaces.calls k _ _ l0 true _ ?side1 ?side2 A8.out).mono ?_); (case side1 => repeat (first | exact (Kd.C_below HR0.out HB.out) | (with_reducible refine Kd.C_alloc ?_ _) | (with_reducible refine Kd.C_drewN ?_ _) | (with_reducible refine Kd.C_drew ?_))); (case side2 => exact HC0.out); rintro e w30 ⟨rfl, hb⟩; refine ⟨_, rfl, ?_⟩; have n0_ := Aside0.mk (below_step (by repeat (first | (with_reducible first | exact HB.out | apply below_alloc | apply pw_below_drewN | apply below_drew1) | exact HB.out)) hb); clear HB; have HB := n0_; clear n0_; (try clear hb); (try clear hb2); (try clear hk); (try clear hi)) | (go_at_call 15; (with_reducible refine (impl_ValidSources.calls k _ _ l1 false _ ?side1 ?side2 A10.out).mono ?_); (case side1 => repeat (first | exact (Kd.C_below HR1.out HB.out) | (with_reducible refine Kd.C_alloc ?_ _) | (with_reducible refine Kd.C_drewN ?_ _) | (with_reducible refine Kd.C_drew ?_))); (case side2 => exact HC1.out); rintro e w31 ⟨rfl, hb⟩; have n0_ := Aside0.mk (below_step (by repeat (first | (with_reducible first | exact HB.out | apply below_alloc | apply pw_below_drewN | apply below_drew1) | exact HB.out)) hb); clear HB; have HB := n0_; clear n0_; (try clear hb); (try clear hb2); (try clear hk); (try clear hi)))
      go_meet
      case rel => exact ⟨_, (true), (by first | rfl | (simp; done) | (simp [*]; done)), H', ⟨by first | omega | exact Nat.le_refl _⟩, ⟨by repeat (first | (with_reducible first | exact HB.out | apply below_alloc | apply pw_below_drewN | apply below_drew1) | exact HB.out)⟩⟩
  · replace c9 := Bool.eq_false_iff.mpr c9
    subst c9
    have H1 : (impl_SnapshotsOf.j0 k l0 l1 a2 a3 a4 a5 true) = some (r1, r2) := by rw [if_neg (show ¬ (false = true) by decide)] at H; exact H
    clear H
    have H := H1
    clear H1
    have H' := Aside0.mk H
    clear H
    go_wp2_with (first | ((with_reducible refine gate_callee (f := 60) rfl ?_); refine goesL_ (some 17) rfl rfl Try.func60 (by kernel_rfl) rfl #[.slice A0 l0.length c0] rfl (by (try simp only [List.map_toArray, List.map_cons, List.map_nil]); first | done | rfl | (simp only [List.length_drop, List.length_take]; rfl)) ?_; (with_reducible refine (impl_ValidPlaces.calls k _ _ l0 false _ ?side1 ?side2 A8.out).mono ?_); (case side1 => repeat (first | exact (Kd.C_below HR0.out HB.out) | (with_reducible refine Kd.C_alloc ?_ _) | (with_reducible refine Kd.C_drewN ?_ _) | (with_reducible refine Kd.C_drew ?_))); (case side2 => exact HC0.out); rintro e w32 ⟨rfl, hb⟩; refine ⟨_, rfl, ?_⟩; have n0_ := Aside0.mk (below_step (by repeat (first | (with_reducible first | exact HB.out | apply below_alloc | apply pw_below_drewN | apply below_drew1) | exact HB.out)) hb); clear HB; have HB := n0_; clear n0_; (try clear hb); (try clear hb2); (try clear hk); (try clear hi)))
    go_meet
    case rel => exact ⟨_, (true), (by first | rfl | (simp; done) | (simp [*]; done)), H', ⟨by first | omega | exact Nat.le_refl _⟩, ⟨by repeat (first | (with_reducible first | exact HB.out | apply below_alloc | apply pw_below_drewN | apply below_drew1) | exact HB.out)⟩⟩
 case rest =>
  clear HC7
  (try clear c1); (try clear p2); (try clear c3); (try clear c6); (try clear p6); (try clear c9); (try clear c11); (try clear c13); (try clear c15); (try clear c17); (try clear c18); (try clear c18b0)
  obtain ⟨kq, x50_6, rfl, HA, HJ6, HB⟩ := hcut
  cases kq with
  | zero => exact absurd HA.out (by simp [impl_SnapshotsOf.j0])
  | succ kj6 =>
   have H := HA.out
   clear HA
   simp only [impl_SnapshotsOf.j0] at H
   by_cases c33 : x50_6 = true
   · subst c33
     have H1 : (some (([] : List (List C64)), false)) = some (r1, r2) := by rw [if_pos rfl] at H; exact H
     clear H
     have H := H1
     clear H1
     simp only [Option.some.injEq, Prod.mk.injEq] at H
     obtain ⟨rfl, rfl⟩ := H
     go_wp2
     go_ret2
     exact ⟨_, by first | rfl | (simp [errW_none, errW_some] <;> rfl) | (simp [*, errW_none, errW_some] <;> rfl), by first | exact Kd.S_nil _ _ _ _ _ | exact Kd.N_nil _ _ _ _ _ | exact Kd.V_nil _ _ _ _ _ | exact Kd.Q_nil _ _ _ _ _ | exact Kd.R_nil _ _ _ _ _, by repeat (first | (with_reducible first | exact HB.out | apply below_alloc | apply pw_below_drewN | apply below_drew1) | exact HB.out)⟩
   · replace c33 := Bool.eq_false_iff.mpr c33
     subst c33
     have H1 : (impl_SnapshotsOf.l0 kj6 l0 l1 a2 a3 a4 (([] : List (List C64))) a5 0) = some (r1, r2) := by rw [if_neg (show ¬ (false = true) by decide)] at H; exact H
     clear H
     have H := H1
     clear H1
     obtain ⟨y261, hy261⟩ : ∃ y_ : List (List C64), y_ = (([] : List (List C64))) := ⟨_, rfl⟩
     replace H : (impl_SnapshotsOf.l0 kj6 l0 l1 a2 a3 a4 y261 a5 0) = some (r1, r2) := by first | (rw [hy261]; with_reducible exact H) | (have H2_ := (Option.bind_some _ _).symm.trans H; rw [hy261]; with_reducible exact H2_) | (have H2_ := (Option.bind_some _ _).symm.trans H; with_reducible exact H2_) | with_reducible exact H | (rw [hy261]; exact H) | exact H
     have Ny261 := Aside0.mk hy261
     clear hy261
     have H' := Aside0.mk H
     clear H
     go_wp2_with (first | ((with_reducible refine gate_dst (N := 51) rfl ?_); refine Kd.S_lit (Kd.slice 94 Kd.c64) _ 45 ?hg (N := 51) ?hd (xs := ([] : List (List C64))) (inner := []) (ok := fun _ => True) (okp := fun _ => True) ?hr ?hp (fun _ hk => hk) trivial (Below.refl _ _) (Nat.le_refl _) (by simp) ?_; (case hd => rfl); (case hg => rfl); (case hr => first | (go_simp; done) | (go_simp; rfl)); (case hp => exact (Reps.none _ _)); intro v262 w34 ho35 hb hg_ hnew_; clear hg_ hnew_; (first | rw [← Ny261.out] at ho35 | (simp only [Int.reduceToNat] at ho35; rw [← Ny261.out] at ho35)); have n0_ := Aside0.mk (Kd.S_lower ho35 (below_size (by repeat (first | (with_reducible first | exact HB.out | apply below_alloc | apply pw_below_drewN | apply below_drew1) | exact HB.out)))); have n1_ := Aside0.mk (below_step (by repeat (first | (with_reducible first | exact HB.out | apply below_alloc | apply pw_below_drewN | apply below_drew1) | exact HB.out)) hb); clear HB; have HO263 := n0_; have HB := n1_; clear n0_ n1_; clear hb ho35))
     go_loopg [14, 53] kj6 (fun kq v14 v53 w' => ∃ (x14_2 : List (List C64)) (x53_2 : Int), v53 = .int .i64 x53_2 ∧ Aside0 (impl_SnapshotsOf.l0 kq l0 l1 a2 a3 a4 x14_2 a5 x53_2 = some (r1, r2)) ∧ Aside0 (kq ≤ kj6) ∧ Aside0 (Kd.S (Kd.slice 94 Kd.c64) 45 w' w.heap.size (fun _ => True) v14 x14_2) ∧ Aside0 (Below w.heap.size w w'))
     case atStart => exact ⟨(y261), (0), (by first | rfl | (simp; done) | (simp [*]; done)), H', ⟨Nat.le_refl _⟩, ⟨by (with_reducible repeat (first | apply Kd.S_alloc | apply Kd.S_drewN | apply Kd.S_drew)); exact HO263.out⟩, ⟨by repeat (first | (with_reducible first | exact HB.out | apply below_alloc | apply pw_below_drewN | apply below_drew1) | exact HB.out)⟩⟩
     case round =>
      clear H'
      (try clear c1); (try clear p2); (try clear c3); (try clear c6); (try clear p6); (try clear c9); (try clear c11); (try clear c13); (try clear c15); (try clear c17); (try clear c18); (try clear c18b0); (try clear c33); (try clear c34); (try clear p2); (try clear p6)
      obtain ⟨x14_2, x53_2, rfl, HA, HK2, HO_14, HB⟩ := hrel
      cases gk with
      | zero => exact absurd HA.out (by simp [impl_SnapshotsOf.l0])
      | succ k2 =>
       have H := HA.out
       clear HA
       simp only [impl_SnapshotsOf.l0] at H
       by_cases c36 : x53_2 < a5
       · rw [if_pos c36] at H
         have c36b0 : decide (x53_2 < a5) = true := decide_eq_true c36
         clear c36
         replace H := Option.bind_eq_some_iff.mp H
         obtain ⟨t264, A370, H⟩ := H
         replace H : (if x14_2.length < 5864062014805 then (impl_SnapshotsOf.l0 k2 l0 l1 a2 a3 a4 (x14_2 ++ [t264]) a5 (wrap64 (x53_2 + 1))) else (none)) = some (r1, r2) := H
         have A37 := Aside0.mk A370
         clear A370
         by_cases c38 : x14_2.length < 5864062014805
         · rw [if_pos c38] at H
           have LMc38 := Aside0.mk c38
           clear c38
           obtain ⟨y267, hy267⟩ : ∃ y_ : List (List C64), y_ = (x14_2 ++ [t264]) := ⟨_, rfl⟩
           replace H : (impl_SnapshotsOf.l0 k2 l0 l1 a2 a3 a4 y267 a5 (wrap64 (x53_2 + 1))) = some (r1, r2) := by first | (rw [hy267]; with_reducible exact H) | (have H2_ := (Option.bind_some _ _).symm.trans H; rw [hy267]; with_reducible exact H2_) | (have H2_ := (Option.bind_some _ _).symm.trans H; with_reducible exact H2_) | with_reducible exact H | (rw [hy267]; exact H) | exact H
           have Ny267 := Aside0.mk hy267
           clear hy267
           have H' := Aside0.mk H
           clear H
           go_wp2_with (first | ((with_reducible refine gate_callee (f := 62) rfl ?_); refine goesL_ (some 64) rfl rfl Try.func62 (by kernel_rfl) rfl #[.slice A0 l0.length c0, .slice A1 l1.length c1, .float .f32 a2, .int .i64 a3, .int .i64 (wrap64 (a4 + x53_2))] rfl (by (try simp only [List.map_toArray, List.map_cons, List.map_nil]); first | done | rfl | (simp only [List.length_drop, List.length_take]; rfl)) ?_; (with_reducible refine (impl_snapshot.calls k2 _ _ l0 _ _ l1 a2 a3 (wrap64 (a4 + x53_2)) t264 _ ?side1 ?side2 ?side3 ?side4 A37.out).mono ?_); (case side1 => repeat (first | exact (Kd.C_below HR0.out HB.out) | (with_reducible refine Kd.C_alloc ?_ _) | (with_reducible refine Kd.C_drewN ?_ _) | (with_reducible refine Kd.C_drew ?_))); (case side2 => exact HC0.out); (case side3 => repeat (first | exact (Kd.C_below HR1.out HB.out) | (with_reducible refine Kd.C_alloc ?_ _) | (with_reducible refine Kd.C_drewN ?_ _) | (with_reducible refine Kd.C_drew ?_))); (case side4 => exact HC1.out); rintro e w39 ⟨v265, rfl, ho0, hb⟩; refine ⟨_, rfl, ?_⟩; have n0_ := Aside0.mk (Kd.S_elder' (by (with_reducible repeat (first | apply Kd.S_alloc | apply Kd.S_drewN | apply Kd.S_drew)); exact HO_14.out) (Kd.R_base ho0) hb); have n1_ := Aside0.mk (Kd.R_lower ho0 (below_size (by repeat (first | (with_reducible first | exact HB.out | apply below_alloc | apply pw_below_drewN | apply below_drew1) | exact HB.out)))); have n2_ := Aside0.mk (below_step (by repeat (first | (with_reducible first | exact HB.out | apply below_alloc | apply pw_below_drewN | apply below_drew1) | exact HB.out)) hb); clear HO_14; clear HB; have HO_14 := n0_; have HO266 := n1_; have HB := n2_; clear n0_ n1_ n2_; (try clear hb); (try clear hb2); (try clear hk); (try clear hi); (try clear ho0); obtain ⟨Ao41, co41, eo41⟩ := Kd.R_slice HO266.out; subst eo41) | ((with_reducible refine gate_builtin (b := .append) (xs := #[.tmp 56, .tmp 65]) rfl ?_); at_builtin; refine Kd.S_append (Kd.slice 94 Kd.c64) (w0 := w) w.heap.size rfl (.tmp 56) (.tmp 65) 56 45 (.slice none 0 0) 24 rfl Try.underlying56 info45 rfl (by decide) (by omega) u14 x14_2 t264 [.slice Ao41 t264.length co41] (fun _ => True) (fun k_ => some k_ = (.slice Ao41 t264.length co41 : Value).ownBlock) rfl rfl ?aP (fun k_ hk_ => ((Kd.R_mono (ok' := fun k_ => ((fun _ => True)) k_ ∧ some k_ ≠ (u14 : Value).ownBlock) (Kd.R_apart' (HO266.out) (Kd.S_typed HO_14.out) (by decide)) (fun k_ hk => ⟨trivial, hk.2⟩))).1 k_ hk_.symm) ?aF ?aO ?aB ?aS ?aL ?_; (case aP => exact Kd.M_row (Kd.R_mono (Kd.R_tight rfl (Kd.R_mono (ok' := fun k_ => ((fun _ => True)) k_ ∧ some k_ ≠ (u14 : Value).ownBlock) (Kd.R_apart' (HO266.out) (Kd.S_typed HO_14.out) (by decide)) (fun k_ hk => ⟨trivial, hk.2⟩))) (fun _ h_ => h_))); (case aB => exact (by repeat (first | (with_reducible first | exact HB.out | apply below_alloc | apply pw_below_drewN | apply below_drew1) | exact HB.out))); (case aF => exact (fun _ _ => trivial)); (case aO => exact (by (with_reducible repeat (first | apply Kd.S_alloc | apply Kd.S_drewN | apply Kd.S_drew)); exact Kd.S_mono HO_14.out (fun k_ hk => ⟨trivial, fun e_ => hk.2 e_⟩))); (case aS => exact (below_size (by repeat (first | (with_reducible first | exact HB.out | apply below_alloc | apply pw_below_drewN | apply below_drew1) | exact HB.out)))); (case aL => have := LMc38.out; omega); intro v268 w40 ho hb hg hat; rw [← Ny267.out] at ho; have n0_ := Aside0.mk (hb); have n1_ := Aside0.mk (ho); clear HB; clear HO_14; clear HO266; have HB := n0_; have HO269 := n1_; clear n0_ n1_; clear ho hb hg hat))
           go_roundg k2
           case measure => have := HJ6.out; have := HK2.out; omega
           case rel => exact ⟨(y267), (wrap64 (x53_2 + 1)), (by first | rfl | (simp; done) | (simp [*]; done)), H', ⟨by have := HJ6.out; have := HK2.out; omega⟩, ⟨by (with_reducible repeat (first | apply Kd.S_alloc | apply Kd.S_drewN | apply Kd.S_drew)); exact HO269.out⟩, ⟨by repeat (first | (with_reducible first | exact HB.out | apply below_alloc | apply pw_below_drewN | apply below_drew1) | exact HB.out)⟩⟩
         · rw [if_neg c38] at H
           exact absurd H (by simp)
       · rw [if_neg c36] at H
         have c36b0 : decide (x53_2 < a5) = false := decide_eq_false c36
         clear c36
         simp only [Option.some.injEq, Prod.mk.injEq] at H
         obtain ⟨rfl, rfl⟩ := H
         go_wp2
         go_ret2
         exact ⟨_, by first | rfl | (simp [errW_none, errW_some] <;> rfl) | (simp [*, errW_none, errW_some] <;> rfl), by (with_reducible repeat (first | apply Kd.S_alloc | apply Kd.S_drewN | apply Kd.S_drew)); exact HO_14.out, by repeat (first | (with_reducible first | exact HB.out | apply below_alloc | apply pw_below_drewN | apply below_drew1) | exact HB.out)⟩

/-! ### laws_sameComplex: function 63 -/
def laws_sameComplex.f (a0 : C64) (a1 : C64) : Option (Bool) := (laws_sameFloat.f a0.re a1.re).bind fun t270 => (if t270 = true then ((laws_sameFloat.f a0.im a1.im).bind fun t271 => (some t271)) else (some false))
set_option maxHeartbeats 8000000 in
set_option maxRecDepth 100000 in
theorem laws_sameComplex.calls (a0 : C64) (a1 : C64) (r : Bool) (w : World) (h : laws_sameComplex.f a0 a1 = some r) :
 Calls Try.prog 63 #[.complex .f64 a0.re a0.im, .complex .f64 a1.re a1.im] w fun e w' => e = .returned (.bool r) ∧ Below w.heap.size w w' := by
 have HB := Aside0.mk (Below.refl w.heap.size w)
 have H : ((laws_sameFloat.f a0.re a1.re).bind fun t270 => (if t270 = true then ((laws_sameFloat.f a0.im a1.im).bind fun t271 => (some t271)) else (some false))) = some r := h
 clear h
 replace H := Option.bind_eq_some_iff.mp H
 obtain ⟨t270, A30, H⟩ := H
 replace H : (if t270 = true then ((laws_sameFloat.f a0.im a1.im).bind fun t271 => (some t271)) else (some false)) = some r := H
 have A3 := Aside0.mk A30
 clear A30
 by_cases c4 : t270 = true
 · subst c4
   have H1 : ((laws_sameFloat.f a0.im a1.im).bind fun t271 => (some t271)) = some r := by rw [if_pos rfl] at H; exact H
   clear H
   have H := H1
   clear H1
   replace H := Option.bind_eq_some_iff.mp H
   obtain ⟨t271, A50, H⟩ := H
   replace H : (some t271) = some r := H
   have A5 := Aside0.mk A50
   clear A50
   obtain rfl := Option.some.inj H
   go_enter Try.func63, Try.ntmps63
   go_wp2_with (first | ((with_reducible refine gate_callee (f := 41) rfl ?_); refine goesL_ (some 9) rfl rfl Try.func41 (by kernel_rfl) rfl #[.float .f64 a0.re, .float .f64 a1.re] rfl (by (try simp only [List.map_toArray, List.map_cons, List.map_nil]); first | done | rfl | (simp only [List.length_drop, List.length_take]; rfl)) ?_; (with_reducible refine (laws_sameFloat.calls a0.re a1.re true _ A3.out).mono ?_); rintro e w' ⟨rfl, ⟨nd, rfl⟩⟩; refine ⟨_, rfl, ?_⟩) | (go_at_call 41; (with_reducible refine (laws_sameFloat.calls a0.im a1.im t271 _ A5.out).mono ?_); rintro e w' ⟨rfl, ⟨nd, rfl⟩⟩))
   go_ret
   exact ⟨by first | rfl | (simp [errW_none, errW_some] <;> rfl) | (simp [*, errW_none, errW_some] <;> rfl), by repeat (first | (with_reducible first | exact HB.out | apply below_alloc | apply pw_below_drewN | apply below_drew1) | exact HB.out)⟩
 · replace c4 := Bool.eq_false_iff.mpr c4
   subst c4
   have H1 : (some false) = some r := by rw [if_neg (show ¬ (false = true) by decide)] at H; exact H
   clear H
   have H := H1
   clear H1
   obtain rfl := Option.some.inj H
   go_enter Try.func63, Try.ntmps63
   go_wp2_with (first | ((with_reducible refine gate_callee (f := 41) rfl ?_); refine goesL_ (some 9) rfl rfl Try.func41 (by kernel_rfl) rfl #[.float .f64 a0.re, .float .f64 a1.re] rfl (by (try simp only [List.map_toArray, List.map_cons, List.map_nil]); first | done | rfl | (simp only [List.length_drop, List.length_take]; rfl)) ?_; (with_reducible refine (laws_sameFloat.calls a0.re a1.re false _ A3.out).mono ?_); rintro e w' ⟨rfl, ⟨nd, rfl⟩⟩; refine ⟨_, rfl, ?_⟩))
   go_ret
   exact ⟨by first | rfl | (simp [errW_none, errW_some] <;> rfl) | (simp [*, errW_none, errW_some] <;> rfl), by repeat (first | (with_reducible first | exact HB.out | apply below_alloc | apply pw_below_drewN | apply below_drew1) | exact HB.out)⟩

end Go.Proofs.Ytncckihaacceaaa.S
