/-
  Contracts of the program's functions, each a plain Lean function beside the machine's call: written by this session's program over the kit's print.
-/
import Derived.Test.YtekcngoemeadlaaZx0
import Derived.Test.YtekcngoemeadlaaZx1
namespace Go.Proofs.Ytekcngoemeadlaa.Z
open Go.RowKit Go.Proofs.YtekcngoemeadlaaW.PrintWords Go.Proofs.YtekcngoemeadlaaW.PrintLast Go.Proofs.YtekcngoemeadlaaW.PrintMore
attribute [local go_sem] max2_int min2_int max_two min_two max_three min_three max_four min_four   -- for this text's walks alone
set_option linter.unusedVariables false
set_option linter.unusedSimpArgs false

/-! ### spec_l00Src_next: function 94 -/
def spec_l00Src_next.f (s0_0 : List Int) (s0_1 : Int) (s0_2 : Int) : Option (Int × Int × Int) := if s0_1 < (s0_0.length : Int) then (if 0 ≤ s0_1 then (if (wrap64 (s0_1 + 1)) ≤ (s0_0.length : Int) then (some (wrap64 (rd s0_0 s0_1), wrap64 (s0_1 + 1), IntKind.u64.wrap ((IntKind.u64.wrap ((IntKind.u64.wrap (s0_2 * 6364136223846793005)) + (IntKind.u64.wrap (wrap64 (rd s0_0 s0_1))))) + 1442695040888963407))) else (some (wrap64 (Go.bits .and .u64 ((IntKind.u64.wrap ((IntKind.u64.wrap ((IntKind.u64.wrap (s0_2 * 6364136223846793005)) + (IntKind.u64.wrap (wrap64 (rd s0_0 s0_1))))) + 1442695040888963407)) / 1099511627776) 255), wrap64 (s0_1 + 1), IntKind.u64.wrap ((IntKind.u64.wrap ((IntKind.u64.wrap (s0_2 * 6364136223846793005)) + (IntKind.u64.wrap (wrap64 (rd s0_0 s0_1))))) + 1442695040888963407)))) else (none)) else (if (wrap64 (s0_1 + 1)) ≤ (s0_0.length : Int) then (some (0, wrap64 (s0_1 + 1), IntKind.u64.wrap ((IntKind.u64.wrap (IntKind.u64.wrap (s0_2 * 6364136223846793005))) + 1442695040888963407))) else (some (wrap64 (Go.bits .and .u64 ((IntKind.u64.wrap ((IntKind.u64.wrap (IntKind.u64.wrap (s0_2 * 6364136223846793005))) + 1442695040888963407)) / 1099511627776) 255), wrap64 (s0_1 + 1), IntKind.u64.wrap ((IntKind.u64.wrap (IntKind.u64.wrap (s0_2 * 6364136223846793005))) + 1442695040888963407))))
set_option maxHeartbeats 8000000 in
set_option maxRecDepth 100000 in
theorem spec_l00Src_next.calls (g : Nat) (s0_0 : List Int) (s0_1 : Int) (s0_2 : Int) (r1 : Int) (r2 : Int) (r3 : Int) (w0 w : World) (hI : IsS118 w0 w g s0_0 s0_1 s0_2) (hB : Below w0.heap.size w0 w) (h : spec_l00Src_next.f s0_0 s0_1 s0_2 = some (r1, r2, r3)) :
 Calls Try.prog 94 #[.pointer (some ⟨g, 0, none⟩)] w fun e w' => e = .returned (.int .i64 r1) ∧ IsS118 w0 w' g s0_0 r2 r3 ∧ Below w0.heap.size w0 w' ∧ KeepBut w w' g none := by
 have HI0 := Aside0.mk hI
 have HK := Aside0.mk (KeepBut.refl w g none)
 have HL := Aside0.mk hB.size
 clear hI
 have HW0 := Aside0.mk hB.size
 have HB := Aside0.mk hB
 clear hB
 have H : (if s0_1 < (s0_0.length : Int) then (if 0 ≤ s0_1 then (if (wrap64 (s0_1 + 1)) ≤ (s0_0.length : Int) then (some (wrap64 (rd s0_0 s0_1), wrap64 (s0_1 + 1), IntKind.u64.wrap ((IntKind.u64.wrap ((IntKind.u64.wrap (s0_2 * 6364136223846793005)) + (IntKind.u64.wrap (wrap64 (rd s0_0 s0_1))))) + 1442695040888963407))) else (some (wrap64 (Go.bits .and .u64 ((IntKind.u64.wrap ((IntKind.u64.wrap ((IntKind.u64.wrap (s0_2 * 6364136223846793005)) + (IntKind.u64.wrap (wrap64 (rd s0_0 s0_1))))) + 1442695040888963407)) / 1099511627776) 255), wrap64 (s0_1 + 1), IntKind.u64.wrap ((IntKind.u64.wrap ((IntKind.u64.wrap (s0_2 * 6364136223846793005)) + (IntKind.u64.wrap (wrap64 (rd s0_0 s0_1))))) + 1442695040888963407)))) else (none)) else (if (wrap64 (s0_1 + 1)) ≤ (s0_0.length : Int) then (some (0, wrap64 (s0_1 + 1), IntKind.u64.wrap ((IntKind.u64.wrap (IntKind.u64.wrap (s0_2 * 6364136223846793005))) + 1442695040888963407))) else (some (wrap64 (Go.bits .and .u64 ((IntKind.u64.wrap ((IntKind.u64.wrap (IntKind.u64.wrap (s0_2 * 6364136223846793005))) + 1442695040888963407)) / 1099511627776) 255), wrap64 (s0_1 + 1), IntKind.u64.wrap ((IntKind.u64.wrap (IntKind.u64.wrap (s0_2 * 6364136223846793005))) + 1442695040888963407))))) = some (r1, r2, r3) := h
 clear h
 by_cases c2 : s0_1 < (s0_0.length : Int)
 · rw [if_pos c2] at H
   have c2b0 : decide (s0_1 < (s0_0.length : Int)) = true := decide_eq_true c2
   clear c2
   by_cases c3 : 0 ≤ s0_1
   · rw [if_pos c3] at H
     have c3b0 : decide (0 ≤ s0_1) = true := decide_eq_true c3
     clear c3
     by_cases c4 : (wrap64 (s0_1 + 1)) ≤ (s0_0.length : Int)
     · rw [if_pos c4] at H
       have c4b0 : decide ((wrap64 (s0_1 + 1)) ≤ (s0_0.length : Int)) = true := decide_eq_true c4
       clear c4
       as_aux_lemma =>
        simp only [Option.some.injEq, Prod.mk.injEq] at H
        obtain ⟨rfl, rfl, rfl⟩ := H
        obtain ⟨ASz5_0, cSz5_0, HGz5, hgz5, HSz5_0⟩ := HI0.out
        have hcz5_0 := cellS118_0 HGz5
        have hcz5_1 := cellS118_1 HGz5
        have hcz5_2 := cellS118_2 HGz5
        have hfz5_1 := blk_frozen HGz5 1
        have hfz5_2 := blk_frozen HGz5 2
        clear HGz5 hgz5
        have p125 : 0 ≤ (s0_1 : Int) := of_decide_eq_true (by first | (with_reducible assumption) | assumption)
        have q125 : s0_1 < (s0_0.length : Int) := of_decide_eq_true (by first | (with_reducible assumption) | assumption)
        obtain ⟨ad125, e125, hx125_0⟩ := Kd.at_int HSz5_0 s0_1 p125 q125
        cases e125
        replace hx125_0 := pw_cell_below HB.out hx125_0
        replace p125 := eq_true p125
        replace q125 := eq_true q125
        go_enter Try.func94, Try.ntmps94
        go_wp2
        repeat (go_quiet (fail); try go_wp2)
        go_ret
        exact ⟨by first | rfl | (simp [errW_none, errW_some] <;> rfl) | (simp [*, errW_none, errW_some] <;> rfl), by repeat (first | (with_reducible first | exact HI0.out | apply IsS118.alloc | apply IsS118.drewN | apply IsS118.drew | apply IsS118.set_1 | apply IsS118.set_2) | exact HI0.out), by repeat (first | (with_reducible first | exact HB.out | apply below_alloc | apply pw_below_drewN | apply below_drew1 | refine below_set ?_ (IsS118.ge HI0.out)) | exact HB.out), by repeat (first | (with_reducible first | exact HK.out | apply KeepBut.set_ | apply keep_drewN | apply keep_drew | apply keep_alloc) | exact HK.out)⟩
     · rw [if_neg c4] at H
       have c4b0 : decide ((wrap64 (s0_1 + 1)) ≤ (s0_0.length : Int)) = false := decide_eq_false c4
       clear c4
       as_aux_lemma =>
        simp only [Option.some.injEq, Prod.mk.injEq] at H
        obtain ⟨rfl, rfl, rfl⟩ := H
        obtain ⟨ASz6_0, cSz6_0, HGz6, hgz6, HSz6_0⟩ := HI0.out
        have hcz6_0 := cellS118_0 HGz6
        have hcz6_1 := cellS118_1 HGz6
        have hcz6_2 := cellS118_2 HGz6
        have hfz6_1 := blk_frozen HGz6 1
        have hfz6_2 := blk_frozen HGz6 2
        clear HGz6 hgz6
        have p125 : 0 ≤ (s0_1 : Int) := of_decide_eq_true (by first | (with_reducible assumption) | assumption)
        have q125 : s0_1 < (s0_0.length : Int) := of_decide_eq_true (by first | (with_reducible assumption) | assumption)
        obtain ⟨ad125, e125, hx125_0⟩ := Kd.at_int HSz6_0 s0_1 p125 q125
        cases e125
        replace hx125_0 := pw_cell_below HB.out hx125_0
        replace p125 := eq_true p125
        replace q125 := eq_true q125
        go_enter Try.func94, Try.ntmps94
        go_wp2
        repeat (go_quiet (fail); try go_wp2)
        go_ret
        exact ⟨by first | rfl | (simp [errW_none, errW_some] <;> rfl) | (simp [*, errW_none, errW_some] <;> rfl), by repeat (first | (with_reducible first | exact HI0.out | apply IsS118.alloc | apply IsS118.drewN | apply IsS118.drew | apply IsS118.set_1 | apply IsS118.set_2) | exact HI0.out), by repeat (first | (with_reducible first | exact HB.out | apply below_alloc | apply pw_below_drewN | apply below_drew1 | refine below_set ?_ (IsS118.ge HI0.out)) | exact HB.out), by repeat (first | (with_reducible first | exact HK.out | apply KeepBut.set_ | apply keep_drewN | apply keep_drew | apply keep_alloc) | exact HK.out)⟩
   · rw [if_neg c3] at H
     exact absurd H (by simp)
 · rw [if_neg c2] at H
   have c2b0 : decide (s0_1 < (s0_0.length : Int)) = false := decide_eq_false c2
   clear c2
   by_cases c7 : (wrap64 (s0_1 + 1)) ≤ (s0_0.length : Int)
   · rw [if_pos c7] at H
     have c7b0 : decide ((wrap64 (s0_1 + 1)) ≤ (s0_0.length : Int)) = true := decide_eq_true c7
     clear c7
     as_aux_lemma =>
      simp only [Option.some.injEq, Prod.mk.injEq] at H
      obtain ⟨rfl, rfl, rfl⟩ := H
      obtain ⟨ASz8_0, cSz8_0, HGz8, hgz8, HSz8_0⟩ := HI0.out
      have hcz8_0 := cellS118_0 HGz8
      have hcz8_1 := cellS118_1 HGz8
      have hcz8_2 := cellS118_2 HGz8
      have hfz8_1 := blk_frozen HGz8 1
      have hfz8_2 := blk_frozen HGz8 2
      clear HGz8 hgz8
      go_enter Try.func94, Try.ntmps94
      go_wp2
      repeat (go_quiet (fail); try go_wp2)
      go_ret
      exact ⟨by first | rfl | (simp [errW_none, errW_some] <;> rfl) | (simp [*, errW_none, errW_some] <;> rfl), by repeat (first | (with_reducible first | exact HI0.out | apply IsS118.alloc | apply IsS118.drewN | apply IsS118.drew | apply IsS118.set_1 | apply IsS118.set_2) | exact HI0.out), by repeat (first | (with_reducible first | exact HB.out | apply below_alloc | apply pw_below_drewN | apply below_drew1 | refine below_set ?_ (IsS118.ge HI0.out)) | exact HB.out), by repeat (first | (with_reducible first | exact HK.out | apply KeepBut.set_ | apply keep_drewN | apply keep_drew | apply keep_alloc) | exact HK.out)⟩
   · rw [if_neg c7] at H
     have c7b0 : decide ((wrap64 (s0_1 + 1)) ≤ (s0_0.length : Int)) = false := decide_eq_false c7
     clear c7
     as_aux_lemma =>
      simp only [Option.some.injEq, Prod.mk.injEq] at H
      obtain ⟨rfl, rfl, rfl⟩ := H
      obtain ⟨ASz9_0, cSz9_0, HGz9, hgz9, HSz9_0⟩ := HI0.out
      have hcz9_0 := cellS118_0 HGz9
      have hcz9_1 := cellS118_1 HGz9
      have hcz9_2 := cellS118_2 HGz9
      have hfz9_1 := blk_frozen HGz9 1
      have hfz9_2 := blk_frozen HGz9 2
      clear HGz9 hgz9
      go_enter Try.func94, Try.ntmps94
      go_wp2
      repeat (go_quiet (fail); try go_wp2)
      go_ret
      exact ⟨by first | rfl | (simp [errW_none, errW_some] <;> rfl) | (simp [*, errW_none, errW_some] <;> rfl), by repeat (first | (with_reducible first | exact HI0.out | apply IsS118.alloc | apply IsS118.drewN | apply IsS118.drew | apply IsS118.set_1 | apply IsS118.set_2) | exact HI0.out), by repeat (first | (with_reducible first | exact HB.out | apply below_alloc | apply pw_below_drewN | apply below_drew1 | refine below_set ?_ (IsS118.ge HI0.out)) | exact HB.out), by repeat (first | (with_reducible first | exact HK.out | apply KeepBut.set_ | apply keep_drewN | apply keep_drew | apply keep_alloc) | exact HK.out)⟩

/-! ### spec_l00Src_pick: function 81 -/
def spec_l00Src_pick.f (s0_0 : List Int) (s0_1 : Int) (s0_2 : Int) (a1 : Int) : Option (Int × Int × Int) := if a1 ≤ 1 then (some (0, s0_1, s0_2)) else ((spec_l00Src_next.f s0_0 s0_1 s0_2).bind fun bt126 => (if a1 > 200 then ((spec_l00Src_next.f s0_0 bt126.2.1 bt126.2.2).bind fun bt129 => (if a1 = 0 then (none) else (some (Int.tmod (wrap64 ((wrap64 (bt126.1 * 256)) + bt129.1)) a1, bt129.2.1, bt129.2.2)))) else (if a1 = 0 then (none) else (some (Int.tmod bt126.1 a1, bt126.2.1, bt126.2.2)))))
set_option maxHeartbeats 8000000 in
set_option maxRecDepth 100000 in
theorem spec_l00Src_pick.calls (g : Nat) (s0_0 : List Int) (s0_1 : Int) (s0_2 : Int) (a1 : Int) (r1 : Int) (r2 : Int) (r3 : Int) (w0 w : World) (hI : IsS118 w0 w g s0_0 s0_1 s0_2) (hB : Below w0.heap.size w0 w) (h : spec_l00Src_pick.f s0_0 s0_1 s0_2 a1 = some (r1, r2, r3)) :
 Calls Try.prog 81 #[.pointer (some ⟨g, 0, none⟩), .int .i64 a1] w fun e w' => e = .returned (.int .i64 r1) ∧ IsS118 w0 w' g s0_0 r2 r3 ∧ Below w0.heap.size w0 w' ∧ KeepBut w w' g none := by
 have HI0 := Aside0.mk hI
 have HK := Aside0.mk (KeepBut.refl w g none)
 have HL := Aside0.mk hB.size
 clear hI
 have HW0 := Aside0.mk hB.size
 have HB := Aside0.mk hB
 clear hB
 have H : (if a1 ≤ 1 then (some (0, s0_1, s0_2)) else ((spec_l00Src_next.f s0_0 s0_1 s0_2).bind fun bt126 => (if a1 > 200 then ((spec_l00Src_next.f s0_0 bt126.2.1 bt126.2.2).bind fun bt129 => (if a1 = 0 then (none) else (some (Int.tmod (wrap64 ((wrap64 (bt126.1 * 256)) + bt129.1)) a1, bt129.2.1, bt129.2.2)))) else (if a1 = 0 then (none) else (some (Int.tmod bt126.1 a1, bt126.2.1, bt126.2.2)))))) = some (r1, r2, r3) := h
 clear h
 by_cases c3 : a1 ≤ 1
 · rw [if_pos c3] at H
   have c3b0 : decide (a1 ≤ 1) = true := decide_eq_true c3
   clear c3
   as_aux_lemma =>
    simp only [Option.some.injEq, Prod.mk.injEq] at H
    obtain ⟨rfl, rfl, rfl⟩ := H
    go_enter Try.func81, Try.ntmps81
    go_wp2
    go_ret
    exact ⟨by first | rfl | (simp [errW_none, errW_some] <;> rfl) | (simp [*, errW_none, errW_some] <;> rfl), by repeat (first | (with_reducible first | exact HI0.out | apply IsS118.alloc | apply IsS118.drewN | apply IsS118.drew | apply IsS118.set_1 | apply IsS118.set_2) | exact HI0.out), by repeat (first | (with_reducible first | exact HB.out | apply below_alloc | apply pw_below_drewN | apply below_drew1 | refine below_set ?_ (IsS118.ge HI0.out)) | exact HB.out), by repeat (first | (with_reducible first | exact HK.out | apply KeepBut.set_ | apply keep_drewN | apply keep_drew | apply keep_alloc) | exact HK.out)⟩
 · rw [if_neg c3] at H
   have c3b0 : decide (a1 ≤ 1) = false := decide_eq_false c3
   clear c3
   replace H := Option.bind_eq_some_iff.mp H
   obtain ⟨⟨t126, t127, t128⟩, A40, H⟩ := H
   replace H : (if a1 > 200 then ((spec_l00Src_next.f s0_0 t127 t128).bind fun bt129 => (if a1 = 0 then (none) else (some (Int.tmod (wrap64 ((wrap64 (t126 * 256)) + bt129.1)) a1, bt129.2.1, bt129.2.2)))) else (if a1 = 0 then (none) else (some (Int.tmod t126 a1, t127, t128)))) = some (r1, r2, r3) := H
   have A4 := Aside0.mk A40
   clear A40
   by_cases c5 : a1 > 200
   · rw [if_pos c5] at H
     have c5b0 : decide (200 < a1) = true := decide_eq_true c5
     clear c5
     replace H := Option.bind_eq_some_iff.mp H
     obtain ⟨⟨t129, t130, t131⟩, A60, H⟩ := H
     replace H : (if a1 = 0 then (none) else (some (Int.tmod (wrap64 ((wrap64 (t126 * 256)) + t129)) a1, t130, t131))) = some (r1, r2, r3) := H
     have A6 := Aside0.mk A60
     clear A60
     by_cases c7 : a1 = 0
     · rw [if_pos c7] at H
       exact absurd H (by simp)
     · rw [if_neg c7] at H
       have c7b0 : (a1 == 0) = false := beq_eq_false_iff_ne.mpr c7
       have c7b1 : (a1 != 0) = true := bne_iff_ne.mpr c7
       as_aux_lemma =>
        simp only [Option.some.injEq, Prod.mk.injEq] at H
        obtain ⟨rfl, rfl, rfl⟩ := H
        go_enter Try.func81, Try.ntmps81
        go_wp2_with (first | ((with_reducible refine gate_callee (f := 94) rfl ?_); refine goesL_ (some 9) rfl rfl Try.func94 (by kernel_rfl) rfl #[.pointer (some ⟨g, 0, none⟩)] rfl (by (try simp only [List.map_toArray, List.map_cons, List.map_nil]); first | done | rfl | (simp only [List.length_drop, List.length_take]; rfl)) ?_; (with_reducible refine (spec_l00Src_next.calls g s0_0 s0_1 s0_2 t126 t127 t128 w0 _ ?side1 ?side2 A4.out).mono ?_); (case side1 => repeat (first | (with_reducible first | exact HI0.out | apply IsS118.alloc | apply IsS118.drewN | apply IsS118.drew | apply IsS118.set_1 | apply IsS118.set_2) | exact HI0.out)); (case side2 => repeat (first | (with_reducible first | exact HB.out | apply below_alloc | apply pw_below_drewN | apply below_drew1 | refine below_set ?_ (IsS118.ge HI0.out)) | exact HB.out)); rintro e w8 ⟨rfl, hi, hb, hk⟩; refine ⟨_, rfl, ?_⟩; have n0_ := Aside0.mk (KeepBut.trans (by repeat (first | (with_reducible first | exact HK.out | apply KeepBut.set_ | apply keep_drewN | apply keep_drew | apply keep_alloc) | exact HK.out)) hk (.inl rfl)); have n1_ := Aside0.mk (hb); have n2_ := Aside0.mk (hi); clear HK; clear HB; clear HI0; have HK := n0_; have HB := n1_; have HI0 := n2_; clear n0_ n1_ n2_; (try clear hb); (try clear hb2); (try clear hk); (try clear hi)) | ((with_reducible refine gate_callee (f := 94) rfl ?_); refine goesL_ (some 15) rfl rfl Try.func94 (by kernel_rfl) rfl #[.pointer (some ⟨g, 0, none⟩)] rfl (by (try simp only [List.map_toArray, List.map_cons, List.map_nil]); first | done | rfl | (simp only [List.length_drop, List.length_take]; rfl)) ?_; (with_reducible refine (spec_l00Src_next.calls g s0_0 t127 t128 t129 t130 t131 w0 _ ?side1 ?side2 A6.out).mono ?_); (case side1 => repeat (first | (with_reducible first | exact HI0.out | apply IsS118.alloc | apply IsS118.drewN | apply IsS118.drew | apply IsS118.set_1 | apply IsS118.set_2) | exact HI0.out)); (case side2 => repeat (first | (with_reducible first | exact HB.out | apply below_alloc | apply pw_below_drewN | apply below_drew1 | refine below_set ?_ (IsS118.ge HI0.out)) | exact HB.out)); rintro e w9 ⟨rfl, hi, hb, hk⟩; refine ⟨_, rfl, ?_⟩; have n0_ := Aside0.mk (KeepBut.trans (by repeat (first | (with_reducible first | exact HK.out | apply KeepBut.set_ | apply keep_drewN | apply keep_drew | apply keep_alloc) | exact HK.out)) hk (.inl rfl)); have n1_ := Aside0.mk (hb); have n2_ := Aside0.mk (hi); clear HK; clear HB; clear HI0; have HK := n0_; have HB := n1_; have HI0 := n2_; clear n0_ n1_ n2_; (try clear hb); (try clear hb2); (try clear hk); (try clear hi)))
        go_ret
        exact ⟨by first | rfl | (simp [errW_none, errW_some] <;> rfl) | (simp [*, errW_none, errW_some] <;> rfl), by repeat (first | (with_reducible first | exact HI0.out | apply IsS118.alloc | apply IsS118.drewN | apply IsS118.drew | apply IsS118.set_1 | apply IsS118.set_2) | exact HI0.out), by repeat (first | (with_reducible first | exact HB.out | apply below_alloc | apply pw_below_drewN | apply below_drew1 | refine below_set ?_ (IsS118.ge HI0.out)) | exact HB.out), by repeat (first | (with_reducible first | exact HK.out | apply KeepBut.set_ | apply keep_drewN | apply keep_drew | apply keep_alloc) | exact HK.out)⟩
   · rw [if_neg c5] at H
     have c5b0 : decide (200 < a1) = false := decide_eq_false c5
     clear c5
     by_cases c10 : a1 = 0
     · rw [if_pos c10] at H
       exact absurd H (by simp)
     · rw [if_neg c10] at H
       have c10b0 : (a1 == 0) = false := beq_eq_false_iff_ne.mpr c10
       have c10b1 : (a1 != 0) = true := bne_iff_ne.mpr c10
       as_aux_lemma =>
        simp only [Option.some.injEq, Prod.mk.injEq] at H
        obtain ⟨rfl, rfl, rfl⟩ := H
        go_enter Try.func81, Try.ntmps81
        go_wp2_with (first | ((with_reducible refine gate_callee (f := 94) rfl ?_); refine goesL_ (some 9) rfl rfl Try.func94 (by kernel_rfl) rfl #[.pointer (some ⟨g, 0, none⟩)] rfl (by (try simp only [List.map_toArray, List.map_cons, List.map_nil]); first | done | rfl | (simp only [List.length_drop, List.length_take]; rfl)) ?_; (with_reducible refine (spec_l00Src_next.calls g s0_0 s0_1 s0_2 t126 t127 t128 w0 _ ?side1 ?side2 A4.out).mono ?_); (case side1 => repeat (first | (with_reducible first | exact HI0.out | apply IsS118.alloc | apply IsS118.drewN | apply IsS118.drew | apply IsS118.set_1 | apply IsS118.set_2) | exact HI0.out)); (case side2 => repeat (first | (with_reducible first | exact HB.out | apply below_alloc | apply pw_below_drewN | apply below_drew1 | refine below_set ?_ (IsS118.ge HI0.out)) | exact HB.out)); rintro e w11 ⟨rfl, hi, hb, hk⟩; refine ⟨_, rfl, ?_⟩; have n0_ := Aside0.mk (KeepBut.trans (by repeat (first | (with_reducible first | exact HK.out | apply KeepBut.set_ | apply keep_drewN | apply keep_drew | apply keep_alloc) | exact HK.out)) hk (.inl rfl)); have n1_ := Aside0.mk (hb); have n2_ := Aside0.mk (hi); clear HK; clear HB; clear HI0; have HK := n0_; have HB := n1_; have HI0 := n2_; clear n0_ n1_ n2_; (try clear hb); (try clear hb2); (try clear hk); (try clear hi)))
        go_ret
        exact ⟨by first | rfl | (simp [errW_none, errW_some] <;> rfl) | (simp [*, errW_none, errW_some] <;> rfl), by repeat (first | (with_reducible first | exact HI0.out | apply IsS118.alloc | apply IsS118.drewN | apply IsS118.drew | apply IsS118.set_1 | apply IsS118.set_2) | exact HI0.out), by repeat (first | (with_reducible first | exact HB.out | apply below_alloc | apply pw_below_drewN | apply below_drew1 | refine below_set ?_ (IsS118.ge HI0.out)) | exact HB.out), by repeat (first | (with_reducible first | exact HK.out | apply KeepBut.set_ | apply keep_drewN | apply keep_drew | apply keep_alloc) | exact HK.out)⟩

/-! ### spec_l09DrawOk: function 73 -/
def spec_l09DrawOk.l0 : Nat → List (S54) → Int → List Int → Int → Int → Option ((List (S54)) × Int × Int)
 | 0, _, _, _, _, _ => none
 | k + 1, x3, x4, x1000, x1001, x1002 => if x4 > 0 then ((spec_l00Src_pick.f x1000 x1001 x1002 61).bind fun bt138 => ((spec_l00Src_pick.f x1000 bt138.2.1 bt138.2.2 61).bind fun bt142 => ((spec_l00Src_pick.f x1000 bt142.2.1 bt142.2.2 4).bind fun bt145 => ((spec_l00Src_pick.f x1000 bt145.2.1 bt145.2.2 20).bind fun bt148 => (if x3.length < 4398046511104 then (spec_l09DrawOk.l0 k (x3 ++ [(⟨(⟨wrap64 (bt138.1 - 30), wrap64 (bt142.1 - 30)⟩ : S26), wrap64 (1 + bt145.1), wrap64 ((wrap64 (1 + bt145.1)) + bt148.1)⟩ : S54)]) (wrap64 (x4 - 1)) x1000 bt148.2.1 bt148.2.2) else (none)))))) else (some (x3, x1001, x1002))
def spec_l09DrawOk.f (k : Nat) (s0_0 : List Int) (s0_1 : Int) (s0_2 : Int) : Option ((List (S54)) × Int × Int) := (spec_l00Src_pick.f s0_0 s0_1 s0_2 4).bind fun bt135 => (spec_l09DrawOk.l0 k (([] : List (S54))) (wrap64 (1 + bt135.1)) s0_0 bt135.2.1 bt135.2.2)
theorem spec_l09DrawOk.mono_l : ∀ k, (∀ y0 y1 y2 y3 y4, LeO (spec_l09DrawOk.l0 k y0 y1 y2 y3 y4) (spec_l09DrawOk.l0 (k + 1) y0 y1 y2 y3 y4))
 | 0 => fun _ _ _ _ _ r h => by simp [spec_l09DrawOk.l0] at h
 | k + 1 => by
  have ih0 := spec_l09DrawOk.mono_l k
  · intro y0 y1 y2 y3 y4
    unfold spec_l09DrawOk.l0
    repeat' first
    | (with_reducible exact ih0 _ _ _ _ _)
    | (with_reducible exact LeO.refl _)
    | (with_reducible exact LeO.none _)
    | (with_reducible refine LeO.ite ?_ ?_)
    | (with_reducible refine LeO.bind ?_ (fun _ => ?_))
    | exact ih0 _ _ _ _ _
    | exact LeO.none _
    | refine LeO.ite ?_ ?_
    | refine LeO.bind ?_ (fun _ => ?_)
theorem spec_l09DrawOk.mono : ∀ a0 a1 a2 k, LeO (spec_l09DrawOk.f k a0 a1 a2) (spec_l09DrawOk.f (k + 1) a0 a1 a2) := by
 intro a0 a1 a2 k
 have ih0 := spec_l09DrawOk.mono_l k
 unfold spec_l09DrawOk.f
 repeat' first
  | (with_reducible exact ih0 _ _ _ _ _)
  | (with_reducible exact LeO.refl _)
  | (with_reducible exact LeO.none _)
  | (with_reducible refine LeO.ite ?_ ?_)
  | (with_reducible refine LeO.bind ?_ (fun _ => ?_))
  | exact ih0 _ _ _ _ _
  | exact LeO.none _
  | refine LeO.ite ?_ ?_
  | refine LeO.bind ?_ (fun _ => ?_)
set_option maxHeartbeats 8000000 in
set_option maxRecDepth 100000 in
theorem spec_l09DrawOk.calls (k : Nat) (g : Nat) (s0_0 : List Int) (s0_1 : Int) (s0_2 : Int) (r1 : List (S54)) (r2 : Int) (r3 : Int) (w0 w : World) (hI : IsS118 w0 w g s0_0 s0_1 s0_2) (hB : Below w0.heap.size w0 w) (h : spec_l09DrawOk.f k s0_0 s0_1 s0_2 = some (r1, r2, r3)) :
 Calls Try.prog 73 #[.pointer (some ⟨g, 0, none⟩)] w fun e w' => ∃ v0_ : Value, e = .returned (v0_) ∧ Kd.R k54 54 w' w.heap.size (fun _ => True) v0_ r1 ∧ IsS118 w0 w' g s0_0 r2 r3 ∧ Below w0.heap.size w0 w' ∧ KeepBut w w' g none := by
 have hu26 := Try.underlying26
 have hu54 := Try.underlying54
 have HI0 := Aside0.mk hI
 have HK := Aside0.mk (KeepBut.refl w g none)
 have HL := Aside0.mk hB.size
 clear hI
 have HW0 := Aside0.mk hB.size
 have HB := Aside0.mk hB
 clear hB
 have H : ((spec_l00Src_pick.f s0_0 s0_1 s0_2 4).bind fun bt135 => (spec_l09DrawOk.l0 k (([] : List (S54))) (wrap64 (1 + bt135.1)) s0_0 bt135.2.1 bt135.2.2)) = some (r1, r2, r3) := h
 clear h
 obtain ⟨y132, hy132⟩ : ∃ y_ : List (S54), y_ = (([] : List (S54))) := ⟨_, rfl⟩
 replace H : ((spec_l00Src_pick.f s0_0 s0_1 s0_2 4).bind fun bt135 => (spec_l09DrawOk.l0 k y132 (wrap64 (1 + bt135.1)) s0_0 bt135.2.1 bt135.2.2)) = some (r1, r2, r3) := by first | (rw [hy132]; with_reducible exact H) | (have H2_ := (Option.bind_some _ _).symm.trans H; rw [hy132]; with_reducible exact H2_) | (have H2_ := (Option.bind_some _ _).symm.trans H; with_reducible exact H2_) | with_reducible exact H | (rw [hy132]; exact H) | exact H
 have Ny132 := Aside0.mk hy132
 clear hy132
 replace H := Option.bind_eq_some_iff.mp H
 obtain ⟨⟨t135, t136, t137⟩, A20, H⟩ := H
 replace H : (spec_l09DrawOk.l0 k y132 (wrap64 (1 + t135)) s0_0 t136 t137) = some (r1, r2, r3) := H
 have A2 := Aside0.mk A20
 clear A20
 have H' := Aside0.mk H
 clear H
 go_enter Try.func73, Try.ntmps73
 go_wp2_with (first | ((with_reducible refine gate_dst (N := 6) rfl ?_); refine Kd.R_lit k54 _ 54 ?hg (N := 6) ?hd (xs := ([] : List (S54))) (inner := []) (ok := fun _ => True) (okp := fun _ => True) ?hr ?hp (fun _ hk => hk) trivial (Below.refl _ _) (Nat.le_refl _) (by simp) ?_; (case hd => rfl); (case hg => rfl); (case hr => first | (go_simp; done) | (go_simp; rfl)); (case hp => exact (Reps.none _ _)); intro v133 w3 ho4 hb hg_ hnew_; clear hg_ hnew_; (first | rw [← Ny132.out] at ho4 | (simp only [Int.reduceToNat] at ho4; rw [← Ny132.out] at ho4)); have n0_ := Aside0.mk (Kd.R_lower ho4 (keep_size (w := w) (g := g) (row := none) (by repeat (first | (with_reducible first | exact HK.out | apply KeepBut.set_ | apply keep_drewN | apply keep_drew | apply keep_alloc) | exact HK.out)))); have n1_ := Aside0.mk (IsS118.below (by repeat (first | (with_reducible first | exact HI0.out | apply IsS118.alloc | apply IsS118.drewN | apply IsS118.drew | apply IsS118.set_1 | apply IsS118.set_2) | exact HI0.out)) hb); have n2_ := Aside0.mk (KeepBut.trans (by repeat (first | (with_reducible first | exact HK.out | apply KeepBut.set_ | apply keep_drewN | apply keep_drew | apply keep_alloc) | exact HK.out)) (KeepBut.of_below hb g none) (.inl rfl)); have n3_ := Aside0.mk (below_step (by repeat (first | (with_reducible first | exact HB.out | apply below_alloc | apply pw_below_drewN | apply below_drew1 | refine below_set ?_ (IsS118.ge HI0.out)) | exact HB.out)) hb); clear HI0; clear HK; clear HB; have HO134 := n0_; have HI0 := n1_; have HK := n2_; have HB := n3_; clear n0_ n1_ n2_ n3_; clear hb ho4) | ((with_reducible refine gate_callee (f := 81) rfl ?_); refine goesL_ (some 8) rfl rfl Try.func81 (by kernel_rfl) rfl #[.pointer (some ⟨g, 0, none⟩), .int .i64 4] rfl (by (try simp only [List.map_toArray, List.map_cons, List.map_nil]); first | done | rfl | (simp only [List.length_drop, List.length_take]; rfl)) ?_; (with_reducible refine (spec_l00Src_pick.calls g s0_0 s0_1 s0_2 4 t135 t136 t137 w0 _ ?side1 ?side2 A2.out).mono ?_); (case side1 => repeat (first | (with_reducible first | exact HI0.out | apply IsS118.alloc | apply IsS118.drewN | apply IsS118.drew | apply IsS118.set_1 | apply IsS118.set_2) | exact HI0.out)); (case side2 => repeat (first | (with_reducible first | exact HB.out | apply below_alloc | apply pw_below_drewN | apply below_drew1 | refine below_set ?_ (IsS118.ge HI0.out)) | exact HB.out)); rintro e w5 ⟨rfl, hi, hb, hk⟩; refine ⟨_, rfl, ?_⟩; have n0_ := Aside0.mk (Kd.R_mono (Kd.R_keep (IsS118.apart (show IsS118 w0 _ g s0_0 s0_1 s0_2 from by repeat (first | (with_reducible first | exact HI0.out | apply IsS118.alloc | apply IsS118.drewN | apply IsS118.drew | apply IsS118.set_1 | apply IsS118.set_2) | exact HI0.out)) (by (with_reducible repeat (first | apply Kd.R_alloc | apply Kd.R_drewN | apply Kd.R_drew)); exact HO134.out) (by decide)) hk (fun _ h => h.2)) (fun _ h => h.1)); have n1_ := Aside0.mk (KeepBut.trans (by repeat (first | (with_reducible first | exact HK.out | apply KeepBut.set_ | apply keep_drewN | apply keep_drew | apply keep_alloc) | exact HK.out)) hk (.inl rfl)); have n2_ := Aside0.mk (hb); have n3_ := Aside0.mk (hi); clear HO134; clear HK; clear HB; clear HI0; have HO134 := n0_; have HK := n1_; have HB := n2_; have HI0 := n3_; clear n0_ n1_ n2_ n3_; (try clear hb); (try clear hb2); (try clear hk); (try clear hi)))
 go_loopg [3, 4] k (fun kq v3 v4 w' => ∃ (x3_1 : List (S54)) (x4_1 : Int) (x1001_1 : Int) (x1002_1 : Int), v4 = .int .i64 x4_1 ∧ Aside0 (spec_l09DrawOk.l0 kq x3_1 x4_1 s0_0 x1001_1 x1002_1 = some (r1, r2, r3)) ∧ Aside0 (kq ≤ k) ∧ Aside0 (Kd.R k54 54 w' w.heap.size (fun _ => True) v3 x3_1) ∧ Aside0 (IsS118 w0 w' g s0_0 x1001_1 x1002_1) ∧ Aside0 (KeepBut w w' g none) ∧ Aside0 (Below w0.heap.size w0 w'))
 case atStart => exact ⟨(y132), (wrap64 (1 + t135)), (t136), (t137), (by first | rfl | (simp; done) | (simp [*]; done)), H', ⟨Nat.le_refl _⟩, ⟨by (with_reducible repeat (first | apply Kd.R_alloc | apply Kd.R_drewN | apply Kd.R_drew)); exact HO134.out⟩, ⟨by repeat (first | (with_reducible first | exact HI0.out | apply IsS118.alloc | apply IsS118.drewN | apply IsS118.drew | apply IsS118.set_1 | apply IsS118.set_2) | exact HI0.out)⟩, ⟨by repeat (first | (with_reducible first | exact HK.out | apply KeepBut.set_ | apply keep_drewN | apply keep_drew | apply keep_alloc) | exact HK.out)⟩, ⟨by repeat (first | (with_reducible first | exact HB.out | apply below_alloc | apply pw_below_drewN | apply below_drew1 | refine below_set ?_ (IsS118.ge HI0.out)) | exact HB.out)⟩⟩
 case round =>
  clear H'
  (try clear p2)
  obtain ⟨x3_1, x4_1, x1001_1, x1002_1, rfl, HA, HK1, HO_3, HI0, HK, HB⟩ := hrel
  cases gk with
  | zero => exact absurd HA.out (by simp [spec_l09DrawOk.l0])
  | succ k1 =>
   have H := HA.out
   clear HA
   simp only [spec_l09DrawOk.l0] at H
   by_cases c6 : x4_1 > 0
   · rw [if_pos c6] at H
     have c6b0 : decide (0 < x4_1) = true := decide_eq_true c6
     clear c6
     replace H := Option.bind_eq_some_iff.mp H
     obtain ⟨⟨t138, t139, t140⟩, A70, H⟩ := H
     replace H : ((spec_l00Src_pick.f s0_0 t139 t140 61).bind fun bt142 => ((spec_l00Src_pick.f s0_0 bt142.2.1 bt142.2.2 4).bind fun bt145 => ((spec_l00Src_pick.f s0_0 bt145.2.1 bt145.2.2 20).bind fun bt148 => (if x3_1.length < 4398046511104 then (spec_l09DrawOk.l0 k1 (x3_1 ++ [(⟨(⟨wrap64 (t138 - 30), wrap64 (bt142.1 - 30)⟩ : S26), wrap64 (1 + bt145.1), wrap64 ((wrap64 (1 + bt145.1)) + bt148.1)⟩ : S54)]) (wrap64 (x4_1 - 1)) s0_0 bt148.2.1 bt148.2.2) else (none))))) = some (r1, r2, r3) := H
     have A7 := Aside0.mk A70
     clear A70
     replace H := Option.bind_eq_some_iff.mp H
     obtain ⟨⟨t142, t143, t144⟩, A80, H⟩ := H
     replace H : ((spec_l00Src_pick.f s0_0 t143 t144 4).bind fun bt145 => ((spec_l00Src_pick.f s0_0 bt145.2.1 bt145.2.2 20).bind fun bt148 => (if x3_1.length < 4398046511104 then (spec_l09DrawOk.l0 k1 (x3_1 ++ [(⟨(⟨wrap64 (t138 - 30), wrap64 (t142 - 30)⟩ : S26), wrap64 (1 + bt145.1), wrap64 ((wrap64 (1 + bt145.1)) + bt148.1)⟩ : S54)]) (wrap64 (x4_1 - 1)) s0_0 bt148.2.1 bt148.2.2) else (none)))) = some (r1, r2, r3) := H
     have A8 := Aside0.mk A80
     clear A80
     replace H := Option.bind_eq_some_iff.mp H
     obtain ⟨⟨t145, t146, t147⟩, A90, H⟩ := H
     replace H : ((spec_l00Src_pick.f s0_0 t146 t147 20).bind fun bt148 => (if x3_1.length < 4398046511104 then (spec_l09DrawOk.l0 k1 (x3_1 ++ [(⟨(⟨wrap64 (t138 - 30), wrap64 (t142 - 30)⟩ : S26), wrap64 (1 + t145), wrap64 ((wrap64 (1 + t145)) + bt148.1)⟩ : S54)]) (wrap64 (x4_1 - 1)) s0_0 bt148.2.1 bt148.2.2) else (none))) = some (r1, r2, r3) := H
     have A9 := Aside0.mk A90
     clear A90
     replace H := Option.bind_eq_some_iff.mp H
     obtain ⟨⟨t148, t149, t150⟩, A100, H⟩ := H
     replace H : (if x3_1.length < 4398046511104 then (spec_l09DrawOk.l0 k1 (x3_1 ++ [(⟨(⟨wrap64 (t138 - 30), wrap64 (t142 - 30)⟩ : S26), wrap64 (1 + t145), wrap64 ((wrap64 (1 + t145)) + t148)⟩ : S54)]) (wrap64 (x4_1 - 1)) s0_0 t149 t150) else (none)) = some (r1, r2, r3) := H
     have A10 := Aside0.mk A100
     clear A100
     by_cases c11 : x3_1.length < 4398046511104
     · rw [if_pos c11] at H
       have LMc11 := Aside0.mk c11
       clear c11
       obtain ⟨y151, hy151⟩ : ∃ y_ : List (S54), y_ = (x3_1 ++ [(⟨(⟨wrap64 (t138 - 30), wrap64 (t142 - 30)⟩ : S26), wrap64 (1 + t145), wrap64 ((wrap64 (1 + t145)) + t148)⟩ : S54)]) := ⟨_, rfl⟩
       replace H : (spec_l09DrawOk.l0 k1 y151 (wrap64 (x4_1 - 1)) s0_0 t149 t150) = some (r1, r2, r3) := by first | (rw [hy151]; with_reducible exact H) | (have H2_ := (Option.bind_some _ _).symm.trans H; rw [hy151]; with_reducible exact H2_) | (have H2_ := (Option.bind_some _ _).symm.trans H; with_reducible exact H2_) | with_reducible exact H | (rw [hy151]; exact H) | exact H
       have Ny151 := Aside0.mk hy151
       clear hy151
       as_aux_lemma =>
        have H' := Aside0.mk H
        clear H
        try go_wp2_with (first | ((with_reducible refine gate_callee (f := 81) rfl ?_); refine goesL_ (some 15) rfl rfl Try.func81 (by kernel_rfl) rfl #[.pointer (some ⟨g, 0, none⟩), .int .i64 61] rfl (by (try simp only [List.map_toArray, List.map_cons, List.map_nil]); first | done | rfl | (simp only [List.length_drop, List.length_take]; rfl)) ?_; (with_reducible refine (spec_l00Src_pick.calls g s0_0 x1001_1 x1002_1 61 t138 t139 t140 w0 _ ?side1 ?side2 A7.out).mono ?_); (case side1 => repeat (first | (with_reducible first | exact HI0.out | apply IsS118.alloc | apply IsS118.drewN | apply IsS118.drew | apply IsS118.set_1 | apply IsS118.set_2) | exact HI0.out)); (case side2 => repeat (first | (with_reducible first | exact HB.out | apply below_alloc | apply pw_below_drewN | apply below_drew1 | refine below_set ?_ (IsS118.ge HI0.out)) | exact HB.out)); rintro e w12 ⟨rfl, hi, hb, hk⟩; refine ⟨_, rfl, ?_⟩; have n0_ := Aside0.mk (Kd.R_mono (Kd.R_keep (IsS118.apart (show IsS118 w0 _ g s0_0 x1001_1 x1002_1 from by repeat (first | (with_reducible first | exact HI0.out | apply IsS118.alloc | apply IsS118.drewN | apply IsS118.drew | apply IsS118.set_1 | apply IsS118.set_2) | exact HI0.out)) (by (with_reducible repeat (first | apply Kd.R_alloc | apply Kd.R_drewN | apply Kd.R_drew)); exact HO_3.out) (by decide)) hk (fun _ h => h.2)) (fun _ h => h.1)); have n1_ := Aside0.mk (KeepBut.trans (by repeat (first | (with_reducible first | exact HK.out | apply KeepBut.set_ | apply keep_drewN | apply keep_drew | apply keep_alloc) | exact HK.out)) hk (.inl rfl)); have n2_ := Aside0.mk (hb); have n3_ := Aside0.mk (hi); clear HO_3; clear HK; clear HB; clear HI0; have HO_3 := n0_; have HK := n1_; have HB := n2_; have HI0 := n3_; clear n0_ n1_ n2_ n3_; (try clear hb); (try clear hb2); (try clear hk); (try clear hi)) | ((with_reducible refine gate_dst (N := 5) rfl ?_); refine box_event ?hg (N := 5) ?hd (cs := #[.int .i64 0, .int .i64 0, .int .i64 0, .int .i64 0]) (t := 54) ?hr ?_; (case hd => rfl); (case hg => rfl); (case hr => first | (go_simp; done) | (go_simp; rfl)); intro gb141 hg w13 hbox hb; have n0_ := Aside0.mk (Kd.R_below (Kd.R_elderB (by (with_reducible repeat (first | apply Kd.R_alloc | apply Kd.R_drewN | apply Kd.R_drew)); exact HO_3.out) gb141 (Nat.le_of_eq hg.symm)) hb); have n1_ := Aside0.mk (IsS118.below (by repeat (first | (with_reducible first | exact HI0.out | apply IsS118.alloc | apply IsS118.drewN | apply IsS118.drew | apply IsS118.set_1 | apply IsS118.set_2) | exact HI0.out)) hb); have n2_ := Aside0.mk (KeepBut.trans (by repeat (first | (with_reducible first | exact HK.out | apply KeepBut.set_ | apply keep_drewN | apply keep_drew | apply keep_alloc) | exact HK.out)) (KeepBut.of_below hb g none) (.inl rfl)); have n3_ := Aside0.mk (below_step (by repeat (first | (with_reducible first | exact HB.out | apply below_alloc | apply pw_below_drewN | apply below_drew1 | refine below_set ?_ (IsS118.ge HI0.out)) | exact HB.out)) hb); have n4_ := Aside0.mk (hbox); have n5_ := Aside0.mk ((by rw [hg]; exact (keep_size (w := w) (g := g) (row := none) (by repeat (first | (with_reducible first | exact HK.out | apply KeepBut.set_ | apply keep_drewN | apply keep_drew | apply keep_alloc) | exact HK.out))) : w.heap.size ≤ gb141)); have n6_ := Aside0.mk ((Nat.le_trans HW0.out (by rw [hg]; exact (keep_size (w := w) (g := g) (row := none) (by repeat (first | (with_reducible first | exact HK.out | apply KeepBut.set_ | apply keep_drewN | apply keep_drew | apply keep_alloc) | exact HK.out))) : w.heap.size ≤ gb141) : w0.heap.size ≤ gb141)); have n7_ := Aside0.mk ((by rw [hg]; exact Nat.ne_of_lt (IsS118.lt (show IsS118 w0 _ g s0_0 t139 t140 from by repeat (first | (with_reducible first | exact HI0.out | apply IsS118.alloc | apply IsS118.drewN | apply IsS118.drew | apply IsS118.set_1 | apply IsS118.set_2) | exact HI0.out))) : g ≠ gb141)); have n8_ := Aside0.mk ((by rw [hg]; exact Nat.ne_of_gt (IsS118.lt (show IsS118 w0 _ g s0_0 t139 t140 from by repeat (first | (with_reducible first | exact HI0.out | apply IsS118.alloc | apply IsS118.drewN | apply IsS118.drew | apply IsS118.set_1 | apply IsS118.set_2) | exact HI0.out))) : gb141 ≠ g)); clear HO_3; clear HI0; clear HK; clear HB; have HO_3 := n0_; have HI0 := n1_; have HK := n2_; have HB := n3_; have BK141 := n4_; have GW141 := n5_; have GE141 := n6_; have NB0_141 := n7_; have NB141_0 := n8_; clear n0_ n1_ n2_ n3_ n4_ n5_ n6_ n7_ n8_; clear hb hbox hg; have hnb14 := NB141_0.out; have hnc14 := NB0_141.out; have hcz15_0 : w13.cell? ⟨gb141, 0, none⟩ = some (.int .i64 0) := (blk_cell BK141.out 0).trans rfl; have hcz15_1 : w13.cell? ⟨gb141, 1, none⟩ = some (.int .i64 0) := (blk_cell BK141.out 1).trans rfl; have hcz15_2 : w13.cell? ⟨gb141, 2, none⟩ = some (.int .i64 0) := (blk_cell BK141.out 2).trans rfl; have hcz15_3 : w13.cell? ⟨gb141, 3, none⟩ = some (.int .i64 0) := (blk_cell BK141.out 3).trans rfl; have hfz15_0 := blk_frozen BK141.out 0; have hfz15_1 := blk_frozen BK141.out 1; have hfz15_2 := blk_frozen BK141.out 2; have hfz15_3 := blk_frozen BK141.out 3) | ((with_reducible refine gate_callee (f := 81) rfl ?_); refine goesL_ (some 20) rfl rfl Try.func81 (by kernel_rfl) rfl #[.pointer (some ⟨g, 0, none⟩), .int .i64 61] rfl (by (try simp only [List.map_toArray, List.map_cons, List.map_nil]); first | done | rfl | (simp only [List.length_drop, List.length_take]; rfl)) ?_; (with_reducible refine (spec_l00Src_pick.calls g s0_0 t139 t140 61 t142 t143 t144 w0 _ ?side1 ?side2 A8.out).mono ?_); (case side1 => repeat (first | (with_reducible first | exact HI0.out | apply IsS118.alloc | apply IsS118.drewN | apply IsS118.drew | apply IsS118.set_1 | apply IsS118.set_2 | refine IsS118.far ?_ NB0_141.out _) | exact HI0.out)); (case side2 => repeat (first | (with_reducible first | exact HB.out | apply below_alloc | apply pw_below_drewN | apply below_drew1 | refine below_set ?_ (IsS118.ge HI0.out) | refine below_set ?_ GE141.out) | exact HB.out)); rintro e w16 ⟨rfl, hi, hb, hk⟩; refine ⟨_, rfl, ?_⟩; have n0_ := Aside0.mk (Kd.R_mono (Kd.R_keep (IsS118.apart (show IsS118 w0 _ g s0_0 t139 t140 from by repeat (first | (with_reducible first | exact HI0.out | apply IsS118.alloc | apply IsS118.drewN | apply IsS118.drew | apply IsS118.set_1 | apply IsS118.set_2 | refine IsS118.far ?_ NB0_141.out _) | exact HI0.out)) (by (with_reducible repeat (first | apply Kd.R_alloc | apply Kd.R_drewN | apply Kd.R_drew)); exact (Kd.R_mono (Kd.R_far (p := ⟨gb141, 3, none⟩) (Kd.R_far (p := ⟨gb141, 2, none⟩) (Kd.R_far (p := ⟨gb141, 1, none⟩) (Kd.R_far (p := ⟨gb141, 0, none⟩) (Kd.R_mono HO_3.out (fun k_ hk => (⟨hk, hk.2⟩ : _ ∧ k_ ≠ gb141))) (fun _ hk => hk.2) (.int .i64 (wrap64 (t138 - 30)))) (fun _ hk => hk.2) (.int .i64 0)) (fun _ hk => hk.2) (.int .i64 0)) (fun _ hk => hk.2) (.int .i64 0)) (fun _ h_ => h_.1))) (by decide)) hk (fun _ h => h.2)) (fun _ h => h.1)); have n1_ := Aside0.mk (KeepBut.blk hk (g' := gb141) (o := .cells #[.int .i64 (wrap64 (t138 - 30)), .int .i64 0, .int .i64 0, .int .i64 0] 54 (0, 0)) (by (with_reducible repeat (first | refine blk_drewN ?_ _ | refine blk_drew ?_ | refine blk_alloc ?_ _)); refine blk_put (cs := #[.int .i64 (wrap64 (t138 - 30)), .int .i64 0, .int .i64 0, .int .i64 0]) ?_ 3 _ rfl; (with_reducible repeat (first | refine blk_drewN ?_ _ | refine blk_drew ?_ | refine blk_alloc ?_ _)); refine blk_put (cs := #[.int .i64 (wrap64 (t138 - 30)), .int .i64 0, .int .i64 0, .int .i64 0]) ?_ 2 _ rfl; (with_reducible repeat (first | refine blk_drewN ?_ _ | refine blk_drew ?_ | refine blk_alloc ?_ _)); refine blk_put (cs := #[.int .i64 (wrap64 (t138 - 30)), .int .i64 0, .int .i64 0, .int .i64 0]) ?_ 1 _ rfl; (with_reducible repeat (first | refine blk_drewN ?_ _ | refine blk_drew ?_ | refine blk_alloc ?_ _)); refine blk_put (cs := #[.int .i64 0, .int .i64 0, .int .i64 0, .int .i64 0]) ?_ 0 _ rfl; (with_reducible repeat (first | refine blk_drewN ?_ _ | refine blk_drew ?_ | refine blk_alloc ?_ _)); exact BK141.out) NB141_0.out (by simp)); have n2_ := Aside0.mk (KeepBut.trans (by repeat (first | (with_reducible first | exact HK.out | apply KeepBut.set_ | apply keep_drewN | apply keep_drew | apply keep_alloc | refine keep_far ?_ GW141.out _) | exact HK.out)) hk (.inl rfl)); have n3_ := Aside0.mk (hb); have n4_ := Aside0.mk (hi); clear HO_3; clear BK141; clear HK; clear HB; clear HI0; have HO_3 := n0_; have BK141 := n1_; have HK := n2_; have HB := n3_; have HI0 := n4_; clear n0_ n1_ n2_ n3_ n4_; (try clear hb); (try clear hb2); (try clear hk); (try clear hi); have hcz17_0 : w16.cell? ⟨gb141, 0, none⟩ = some (.int .i64 (wrap64 (t138 - 30))) := (blk_cell BK141.out 0).trans rfl; have hcz17_1 : w16.cell? ⟨gb141, 1, none⟩ = some (.int .i64 0) := (blk_cell BK141.out 1).trans rfl; have hcz17_2 : w16.cell? ⟨gb141, 2, none⟩ = some (.int .i64 0) := (blk_cell BK141.out 2).trans rfl; have hcz17_3 : w16.cell? ⟨gb141, 3, none⟩ = some (.int .i64 0) := (blk_cell BK141.out 3).trans rfl; have hfz17_0 := blk_frozen BK141.out 0; have hfz17_1 := blk_frozen BK141.out 1; have hfz17_2 := blk_frozen BK141.out 2; have hfz17_3 := blk_frozen BK141.out 3) | ((with_reducible refine gate_callee (f := 81) rfl ?_); refine goesL_ (some 25) rfl rfl Try.func81 (by kernel_rfl) rfl #[.pointer (some ⟨g, 0, none⟩), .int .i64 4] rfl (by (try simp only [List.map_toArray, List.map_cons, List.map_nil]); first | done | rfl | (simp only [List.length_drop, List.length_take]; rfl)) ?_; (with_reducible refine (spec_l00Src_pick.calls g s0_0 t143 t144 4 t145 t146 t147 w0 _ ?side1 ?side2 A9.out).mono ?_); (case side1 => repeat (first | (with_reducible first | exact HI0.out | apply IsS118.alloc | apply IsS118.drewN | apply IsS118.drew | apply IsS118.set_1 | apply IsS118.set_2 | refine IsS118.far ?_ NB0_141.out _) | exact HI0.out)); (case side2 => repeat (first | (with_reducible first | exact HB.out | apply below_alloc | apply pw_below_drewN | apply below_drew1 | refine below_set ?_ (IsS118.ge HI0.out) | refine below_set ?_ GE141.out) | exact HB.out)); rintro e w18 ⟨rfl, hi, hb, hk⟩; refine ⟨_, rfl, ?_⟩; have n0_ := Aside0.mk (Kd.R_mono (Kd.R_keep (IsS118.apart (show IsS118 w0 _ g s0_0 t143 t144 from by repeat (first | (with_reducible first | exact HI0.out | apply IsS118.alloc | apply IsS118.drewN | apply IsS118.drew | apply IsS118.set_1 | apply IsS118.set_2 | refine IsS118.far ?_ NB0_141.out _) | exact HI0.out)) (by (with_reducible repeat (first | apply Kd.R_alloc | apply Kd.R_drewN | apply Kd.R_drew)); exact (Kd.R_mono (Kd.R_far (p := ⟨gb141, 1, none⟩) (Kd.R_mono HO_3.out (fun k_ hk => (⟨hk, hk.2⟩ : _ ∧ k_ ≠ gb141))) (fun _ hk => hk.2) (.int .i64 (wrap64 (t142 - 30)))) (fun _ h_ => h_.1))) (by decide)) hk (fun _ h => h.2)) (fun _ h => h.1)); have n1_ := Aside0.mk (KeepBut.blk hk (g' := gb141) (o := .cells #[.int .i64 (wrap64 (t138 - 30)), .int .i64 (wrap64 (t142 - 30)), .int .i64 0, .int .i64 0] 54 (0, 0)) (by (with_reducible repeat (first | refine blk_drewN ?_ _ | refine blk_drew ?_ | refine blk_alloc ?_ _)); refine blk_put (cs := #[.int .i64 (wrap64 (t138 - 30)), .int .i64 0, .int .i64 0, .int .i64 0]) ?_ 1 _ rfl; (with_reducible repeat (first | refine blk_drewN ?_ _ | refine blk_drew ?_ | refine blk_alloc ?_ _)); exact BK141.out) NB141_0.out (by simp)); have n2_ := Aside0.mk (KeepBut.trans (by repeat (first | (with_reducible first | exact HK.out | apply KeepBut.set_ | apply keep_drewN | apply keep_drew | apply keep_alloc | refine keep_far ?_ GW141.out _) | exact HK.out)) hk (.inl rfl)); have n3_ := Aside0.mk (hb); have n4_ := Aside0.mk (hi); clear HO_3; clear BK141; clear HK; clear HB; clear HI0; have HO_3 := n0_; have BK141 := n1_; have HK := n2_; have HB := n3_; have HI0 := n4_; clear n0_ n1_ n2_ n3_ n4_; (try clear hb); (try clear hb2); (try clear hk); (try clear hi); have hcz19_0 : w18.cell? ⟨gb141, 0, none⟩ = some (.int .i64 (wrap64 (t138 - 30))) := (blk_cell BK141.out 0).trans rfl; have hcz19_1 : w18.cell? ⟨gb141, 1, none⟩ = some (.int .i64 (wrap64 (t142 - 30))) := (blk_cell BK141.out 1).trans rfl; have hcz19_2 : w18.cell? ⟨gb141, 2, none⟩ = some (.int .i64 0) := (blk_cell BK141.out 2).trans rfl; have hcz19_3 : w18.cell? ⟨gb141, 3, none⟩ = some (.int .i64 0) := (blk_cell BK141.out 3).trans rfl; have hfz19_0 := blk_frozen BK141.out 0; have hfz19_1 := blk_frozen BK141.out 1; have hfz19_2 := blk_frozen BK141.out 2; have hfz19_3 := blk_frozen BK141.out 3))
        have n0_ : Aside0 (Kd.R k54 54 (w18.setCell ⟨gb141, 2, none⟩ (.int .i64 (wrap64 (1 + t145)))) w.heap.size (fun k_ => k_ ≠ gb141) u3 x3_1) := ⟨by (with_reducible repeat (first | apply Kd.R_alloc | apply Kd.R_drewN | apply Kd.R_drew)); exact Kd.R_mono (Kd.R_far (p := ⟨gb141, 2, none⟩) (Kd.R_mono HO_3.out (fun k_ hk => (⟨hk, hk.2⟩ : _ ∧ k_ ≠ gb141))) (fun _ hk => hk.2) (.int .i64 (wrap64 (1 + t145)))) (fun _ hk => hk.1.2)⟩
        have n1_ : Aside0 ((w18.setCell ⟨gb141, 2, none⟩ (.int .i64 (wrap64 (1 + t145)))).heap[gb141]? = some (.cells #[.int .i64 (wrap64 (t138 - 30)), .int .i64 (wrap64 (t142 - 30)), .int .i64 (wrap64 (1 + t145)), .int .i64 0] 54 (0, 0))) := ⟨by (with_reducible repeat (first | refine blk_drewN ?_ _ | refine blk_drew ?_ | refine blk_alloc ?_ _)); refine blk_put (cs := #[.int .i64 (wrap64 (t138 - 30)), .int .i64 (wrap64 (t142 - 30)), .int .i64 0, .int .i64 0]) ?_ 2 _ rfl; (with_reducible repeat (first | refine blk_drewN ?_ _ | refine blk_drew ?_ | refine blk_alloc ?_ _)); exact BK141.out⟩
        have n2_ : Aside0 (IsS118 w0 (w18.setCell ⟨gb141, 2, none⟩ (.int .i64 (wrap64 (1 + t145)))) g s0_0 t146 t147) := ⟨by repeat (first | (with_reducible first | exact HI0.out | apply IsS118.alloc | apply IsS118.drewN | apply IsS118.drew | apply IsS118.set_1 | apply IsS118.set_2 | refine IsS118.far ?_ NB0_141.out _) | exact HI0.out)⟩
        have n3_ : Aside0 (KeepBut w (w18.setCell ⟨gb141, 2, none⟩ (.int .i64 (wrap64 (1 + t145)))) g none) := ⟨by repeat (first | (with_reducible first | exact HK.out | apply KeepBut.set_ | apply keep_drewN | apply keep_drew | apply keep_alloc | refine keep_far ?_ GW141.out _) | exact HK.out)⟩
        have n4_ : Aside0 (Below w0.heap.size w0 (w18.setCell ⟨gb141, 2, none⟩ (.int .i64 (wrap64 (1 + t145))))) := ⟨by repeat (first | (with_reducible first | exact HB.out | apply below_alloc | apply pw_below_drewN | apply below_drew1 | refine below_set ?_ (IsS118.ge HI0.out) | refine below_set ?_ GE141.out) | exact HB.out)⟩
        (try clear HO_3)
        (try clear BK141)
        (try clear HI0)
        (try clear HK)
        (try clear HB)
        generalize (w18.setCell ⟨gb141, 2, none⟩ (.int .i64 (wrap64 (1 + t145)))) = w20 at n0_ n1_ n2_ n3_ n4_ ⊢
        have HO_3 := n0_
        have BK141 := n1_
        have HI0 := n2_
        have HK := n3_
        have HB := n4_
        clear n0_ n1_ n2_ n3_ n4_
        have n0_ := Aside0.mk (Kd.R_drew HO_3.out)
        have n1_ := Aside0.mk (blk_drew BK141.out)
        have n2_ := Aside0.mk (IsS118.drew HI0.out)
        have n3_ := Aside0.mk (keep_drew HK.out)
        have n4_ := Aside0.mk (below_drew1 HB.out)
        clear HO_3
        clear BK141
        clear HI0
        clear HK
        clear HB
        have HO_3 := n0_
        have BK141 := n1_
        have HI0 := n2_
        have HK := n3_
        have HB := n4_
        clear n0_ n1_ n2_ n3_ n4_
        refine start_ (n := 7) (S := fun w' => w'.cell? ⟨gb141, 0, none⟩ = some (.int .i64 (wrap64 (t138 - 30))) ∧ w'.cell? ⟨gb141, 1, none⟩ = some (.int .i64 (wrap64 (t142 - 30))) ∧ w'.cell? ⟨gb141, 2, none⟩ = some (.int .i64 (wrap64 (1 + t145))) ∧ w'.cell? ⟨gb141, 3, none⟩ = some (.int .i64 0)) (ds := [6]) #[false, false, false, false, false, false, false] (by kernel_rfl) rfl rfl ⟨(blk_cell BK141.out 0).trans rfl, (blk_cell BK141.out 1).trans rfl, (blk_cell BK141.out 2).trans rfl, (blk_cell BK141.out 3).trans rfl⟩ (fun hHeld => ?_)
        generalize w20.drew = w21 at HO_3 BK141 HI0 HK HB hHeld ⊢
        refine pure_ (i := 0) (N := some 28) (v := ?_) (a' := ?_) #[true, false, false, false, false, false, false] rfl rfl (by kernel_rfl) (fun _ _ _ h => h) (Or.inl ⟨by rfl, ?_⟩) ?_ ?_; rotate_left 4
        refine pure_ (i := 2) (N := some 30) (v := ?_) (a' := ?_) #[true, false, true, false, false, false, false] rfl rfl (by kernel_rfl) (fun _ _ _ h => h) (Or.inl ⟨by rfl, ?_⟩) ?_ ?_; rotate_left 4
        rotate_left; iterate 2 (rotate_left; (intro w'; go_simp; with_reducible rfl); rotate_left; (simp only [Act.put, List.setIfInBounds_toArray, List.set_cons_zero, List.set_cons_succ, i64_w, i32_w]; rfl))
        refine take_ (i := 1) (N := some 29) (v := ?_) (a' := ?_) #[true, true, true, false, false, false, false] rfl rfl (by kernel_rfl) (fun _ _ _ h => h) (Or.inl ⟨by rfl, ?_⟩) hHeld ?_ ?_
        rotate_left
        · rintro w' ⟨s0, s1, s2, s3⟩
          go_simp
          with_reducible rfl
        rotate_left
        · simp only [Act.put, List.setIfInBounds_toArray, List.set_cons_zero, List.set_cons_succ, i64_w, i32_w]
          rfl
        refine one_ (i := 3) (N := some 31) #[true, true, true, true, false, false, false] rfl rfl (by kernel_rfl) (by decide) (fun K hK => ?_)
        refine goes_ Try.func81 (by kernel_rfl) rfl #[.pointer (some ⟨g, 0, none⟩), .int .i64 20] (by rfl) rfl rfl (by (try simp only [List.map_toArray, List.map_cons, List.map_nil]); first | done | rfl | (simp only [List.length_drop, List.length_take]; rfl)) ?_
        with_reducible refine (spec_l00Src_pick.calls g s0_0 t146 t147 20 t148 t149 t150 w0 _ ?side1 ?side2 A10.out).mono ?_
        (case side1 => repeat (first | (with_reducible first | exact HI0.out | apply IsS118.alloc | apply IsS118.drewN | apply IsS118.drew | apply IsS118.set_1 | apply IsS118.set_2 | refine IsS118.far ?_ NB0_141.out _) | exact HI0.out))
        (case side2 => repeat (first | (with_reducible first | exact HB.out | apply below_alloc | apply pw_below_drewN | apply below_drew1 | refine below_set ?_ (IsS118.ge HI0.out) | refine below_set ?_ GE141.out) | exact HB.out))
        rintro e w22 ⟨rfl, hi, hb, hk⟩
        refine ⟨_, rfl, ?_⟩
        have n0_ := Aside0.mk (Kd.R_mono (Kd.R_keep (IsS118.apart (show IsS118 w0 _ g s0_0 t146 t147 from by repeat (first | (with_reducible first | exact HI0.out | apply IsS118.alloc | apply IsS118.drewN | apply IsS118.drew | apply IsS118.set_1 | apply IsS118.set_2 | refine IsS118.far ?_ NB0_141.out _) | exact HI0.out)) (by (with_reducible repeat (first | apply Kd.R_alloc | apply Kd.R_drewN | apply Kd.R_drew)); exact HO_3.out) (by decide)) hk (fun _ h => h.2)) (fun _ h => h.1))
        have n1_ := Aside0.mk (KeepBut.blk hk (g' := gb141) (o := .cells #[.int .i64 (wrap64 (t138 - 30)), .int .i64 (wrap64 (t142 - 30)), .int .i64 (wrap64 (1 + t145)), .int .i64 0] 54 (0, 0)) (by (with_reducible repeat (first | refine blk_drewN ?_ _ | refine blk_drew ?_ | refine blk_alloc ?_ _)); exact BK141.out) NB141_0.out (by simp))
        have n2_ := Aside0.mk (KeepBut.trans (by repeat (first | (with_reducible first | exact HK.out | apply KeepBut.set_ | apply keep_drewN | apply keep_drew | apply keep_alloc | refine keep_far ?_ GW141.out _) | exact HK.out)) hk (.inl rfl))
        have n3_ := Aside0.mk (hb)
        have n4_ := Aside0.mk (hi)
        clear HO_3
        clear BK141
        clear HK
        clear HB
        clear HI0
        have HO_3 := n0_
        have BK141 := n1_
        have HK := n2_
        have HB := n3_
        have HI0 := n4_
        clear n0_ n1_ n2_ n3_ n4_
        (try clear hb)
        (try clear hb2)
        (try clear hk)
        (try clear hi)
        refine hK.out _ _ ⟨(blk_cell BK141.out 0).trans rfl, (blk_cell BK141.out 1).trans rfl, (blk_cell BK141.out 2).trans rfl, (blk_cell BK141.out 3).trans rfl⟩ (fun hHeld => ?_)
        clear hK K
        refine norm_ (a' := ?_) ?_ ?_
        rotate_left
        · show Act.put _ (some 31) _ = _
          simp only [Act.put, List.setIfInBounds_toArray, List.set_cons_zero, List.set_cons_succ, i64_w, i32_w]
          rfl
        refine pure_ (i := 4) (N := some 32) (v := ?_) (a' := ?_) #[true, true, true, true, true, false, false] rfl rfl (by kernel_rfl) (fun _ _ _ h => h) (Or.inl ⟨by rfl, ?_⟩) ?_ ?_; rotate_left 4
        refine pure_ (i := 5) (N := some 33) (v := ?_) (a' := ?_) #[true, true, true, true, true, true, false] rfl rfl (by kernel_rfl) (fun _ _ _ h => h) (Or.inl ⟨by rfl, ?_⟩) ?_ ?_; rotate_left 4
        rotate_left; iterate 2 (rotate_left; (intro w'; go_simp; with_reducible rfl); rotate_left; (simp only [Act.put, List.setIfInBounds_toArray, List.set_cons_zero, List.set_cons_succ, i64_w, i32_w]; rfl))
        refine last_ (i := 6) (N := none) #[true, true, true, true, true, true, true] rfl rfl (by kernel_rfl) (by decide) (fun K hK => ?_)
        have hs23 : w22.cell? ⟨gb141, 3, none⟩ = some (.int .i64 0) := (blk_cell BK141.out 3).trans rfl
        have hfs23 := blk_frozen BK141.out 3
        refine skip_ (w1 := ?_) (by rfl) rfl ?_ ?_
        rotate_left
        · go_simp
          rfl
        refine hK.out _ _ ?_
        clear hK K
        refine done_ (by kernel_rfl) ?_
        have hcz24_0 : w22.cell? ⟨gb141, 0, none⟩ = some (.int .i64 (wrap64 (t138 - 30))) := (blk_cell BK141.out 0).trans rfl
        have hcz24_1 : w22.cell? ⟨gb141, 1, none⟩ = some (.int .i64 (wrap64 (t142 - 30))) := (blk_cell BK141.out 1).trans rfl
        have hcz24_2 : w22.cell? ⟨gb141, 2, none⟩ = some (.int .i64 (wrap64 (1 + t145))) := (blk_cell BK141.out 2).trans rfl
        have hcz24_3 : w22.cell? ⟨gb141, 3, none⟩ = some (.int .i64 0) := (blk_cell BK141.out 3).trans rfl
        have hfz24_0 := blk_frozen BK141.out 0
        have hfz24_1 := blk_frozen BK141.out 1
        have hfz24_2 := blk_frozen BK141.out 2
        have hfz24_3 := blk_frozen BK141.out 3
        try go_wp2_with (first | ((with_reducible refine gate_builtin (b := .append) (xs := #[.tmp 34, .tmp 36]) rfl ?_); at_builtin; refine Kd.R_append k54 w.heap.size rfl (.tmp 34) (.tmp 36) 32 54 (.agg #[(.int .i64 0), (.int .i64 0), (.int .i64 0), (.int .i64 0)]) 32 rfl Try.underlying32 info54 rfl (by decide) (by omega) u3 x3_1 (⟨(⟨wrap64 (t138 - 30), wrap64 (t142 - 30)⟩ : S26), wrap64 (1 + t145), wrap64 ((wrap64 (1 + t145)) + t148)⟩ : S54) [.int .i64 (wrap64 (t138 - 30)), .int .i64 (wrap64 (t142 - 30)), .int .i64 (wrap64 (1 + t145)), .int .i64 (wrap64 ((wrap64 (1 + t145)) + t148))] (fun k_ => k_ ≠ gb141) (fun _ => False) rfl (by first | (go_simp; done) | (go_simp; rfl)) ?aP (fun _ hk => hk.elim) ?aF ?aO (Below.refl _ _) ?aS ?aL ?_; (case aP => exact k54_mkM _ _ _ (⟨(⟨wrap64 (t138 - 30), wrap64 (t142 - 30)⟩ : S26), wrap64 (1 + t145), wrap64 ((wrap64 (1 + t145)) + t148)⟩ : S54)); (case aF => exact (fun k_ hk => Kd.freshB (g := gb141) (o := .cells #[.int .i64 (wrap64 (t138 - 30)), .int .i64 (wrap64 (t142 - 30)), .int .i64 (wrap64 (1 + t145)), .int .i64 (wrap64 ((wrap64 (1 + t145)) + t148))] 54 (0, 0)) (by (with_reducible repeat (first | refine blk_drewN ?_ _ | refine blk_drew ?_ | refine blk_alloc ?_ _)); refine blk_put (cs := #[.int .i64 (wrap64 (t138 - 30)), .int .i64 (wrap64 (t142 - 30)), .int .i64 (wrap64 (1 + t145)), .int .i64 0]) ?_ 3 _ rfl; (with_reducible repeat (first | refine blk_drewN ?_ _ | refine blk_drew ?_ | refine blk_alloc ?_ _)); exact BK141.out) k_ hk)); (case aO => exact (by (with_reducible repeat (first | apply Kd.R_alloc | apply Kd.R_drewN | apply Kd.R_drew)); exact Kd.R_mono (Kd.R_far (p := ⟨gb141, 3, none⟩) (Kd.R_mono HO_3.out (fun k_ hk => (⟨hk, hk⟩ : _ ∧ k_ ≠ gb141))) (fun _ hk => hk.2) (.int .i64 (wrap64 ((wrap64 (1 + t145)) + t148)))) (fun _ hk => hk.1))); (case aS => exact (keep_size (w := w) (g := g) (row := none) (by repeat (first | (with_reducible first | exact HK.out | apply KeepBut.set_ | apply keep_drewN | apply keep_drew | apply keep_alloc | refine keep_far ?_ GW141.out _) | exact HK.out)))); (case aL => have := LMc11.out; omega); intro v152 w25 ho hb hg hat; rw [← Ny151.out] at ho; have n0_ := Aside0.mk (IsS118.grown (IsS118.far (p := ⟨gb141, 3, none⟩) HI0.out NB0_141.out _) hg (IsS118.own_ne HI0.out HO_3.out (by decide))); have n1_ := Aside0.mk (blk_grown (g := gb141) (o := .cells #[.int .i64 (wrap64 (t138 - 30)), .int .i64 (wrap64 (t142 - 30)), .int .i64 (wrap64 (1 + t145)), .int .i64 (wrap64 ((wrap64 (1 + t145)) + t148))] 54 (0, 0)) (by (with_reducible repeat (first | refine blk_drewN ?_ _ | refine blk_drew ?_ | refine blk_alloc ?_ _)); refine blk_put (cs := #[.int .i64 (wrap64 (t138 - 30)), .int .i64 (wrap64 (t142 - 30)), .int .i64 (wrap64 (1 + t145)), .int .i64 0]) ?_ 3 _ rfl; (with_reducible repeat (first | refine blk_drewN ?_ _ | refine blk_drew ?_ | refine blk_alloc ?_ _)); exact BK141.out) hg (Kd.R_away HO_3.out (fun _ hk => hk))); have n2_ := Aside0.mk (below_weaken (by repeat (first | (with_reducible first | exact HB.out | apply below_alloc | apply pw_below_drewN | apply below_drew1 | refine below_set ?_ (IsS118.ge HI0.out) | refine below_set ?_ GE141.out) | exact HB.out)) HL.out hb); have n3_ := Aside0.mk (KeepBut.trans (by repeat (first | (with_reducible first | exact HK.out | apply KeepBut.set_ | apply keep_drewN | apply keep_drew | apply keep_alloc | refine keep_far ?_ GW141.out _) | exact HK.out)) (KeepBut.of_grown hg g) (Kd.R_base2 HO_3.out)); have n4_ := Aside0.mk (ho); clear HI0; clear BK141; clear HB; clear HK; clear HO_3; have HI0 := n0_; have BK141 := n1_; have HB := n2_; have HK := n3_; have HO153 := n4_; clear n0_ n1_ n2_ n3_ n4_; clear ho hb hg hat))
        go_roundg k1
        case measure => have := HK1.out; omega
        case rel => exact ⟨(y151), (wrap64 (x4_1 - 1)), (t149), (t150), (by first | rfl | (simp; done) | (simp [*]; done)), H', ⟨by have := HK1.out; omega⟩, ⟨by (with_reducible repeat (first | apply Kd.R_alloc | apply Kd.R_drewN | apply Kd.R_drew)); exact Kd.R_mono HO153.out (fun _ hk => trivial)⟩, ⟨by repeat (first | (with_reducible first | exact HI0.out | apply IsS118.alloc | apply IsS118.drewN | apply IsS118.drew | apply IsS118.set_1 | apply IsS118.set_2 | refine IsS118.far ?_ NB0_141.out _) | exact HI0.out)⟩, ⟨by repeat (first | (with_reducible first | exact HK.out | apply KeepBut.set_ | apply keep_drewN | apply keep_drew | apply keep_alloc | refine keep_far ?_ GW141.out _) | exact HK.out)⟩, ⟨by repeat (first | (with_reducible first | exact HB.out | apply below_alloc | apply pw_below_drewN | apply below_drew1 | refine below_set ?_ (IsS118.ge HI0.out) | refine below_set ?_ GE141.out) | exact HB.out)⟩⟩
     · rw [if_neg c11] at H
       exact absurd H (by simp)
   · rw [if_neg c6] at H
     have c6b0 : decide (0 < x4_1) = false := decide_eq_false c6
     clear c6
     as_aux_lemma =>
      simp only [Option.some.injEq, Prod.mk.injEq] at H
      obtain ⟨rfl, rfl, rfl⟩ := H
      go_wp2
      go_ret
      exact ⟨_, by first | rfl | (simp [errW_none, errW_some] <;> rfl) | (simp [*, errW_none, errW_some] <;> rfl), by (with_reducible repeat (first | apply Kd.R_alloc | apply Kd.R_drewN | apply Kd.R_drew)); exact HO_3.out, by repeat (first | (with_reducible first | exact HI0.out | apply IsS118.alloc | apply IsS118.drewN | apply IsS118.drew | apply IsS118.set_1 | apply IsS118.set_2) | exact HI0.out), by repeat (first | (with_reducible first | exact HB.out | apply below_alloc | apply pw_below_drewN | apply below_drew1 | refine below_set ?_ (IsS118.ge HI0.out)) | exact HB.out), by repeat (first | (with_reducible first | exact HK.out | apply KeepBut.set_ | apply keep_drewN | apply keep_drew | apply keep_alloc) | exact HK.out)⟩

/-! ### spec_B10Beams: function 33 -/
def spec_B10Beams.f (k : Nat) (l0 : List Int) : Option ((List (S54))) := (spec_l00From.f l0).bind fun bt154 => ((spec_l09DrawOk.f k bt154.1 bt154.2.1 bt154.2.2).bind fun bt158 => (some bt158.1))
theorem spec_B10Beams.mono : ∀ a0 k, LeO (spec_B10Beams.f k a0) (spec_B10Beams.f (k + 1) a0) := by
 intro a0 k
 unfold spec_B10Beams.f
 repeat' first
  | (with_reducible exact spec_l09DrawOk.mono _ _ _ _)
  | (with_reducible exact LeO.refl _)
  | (with_reducible exact LeO.none _)
  | (with_reducible refine LeO.ite ?_ ?_)
  | (with_reducible refine LeO.bind ?_ (fun _ => ?_))
  | exact spec_l09DrawOk.mono _ _ _ _
  | exact LeO.none _
  | refine LeO.ite ?_ ?_
  | refine LeO.bind ?_ (fun _ => ?_)
set_option maxHeartbeats 8000000 in
set_option maxRecDepth 100000 in
theorem spec_B10Beams.calls (k : Nat) (A0 : Option Addr) (c0 : Nat) (l0 : List Int) (r : List (S54)) (w : World) (hr0 : Kd.C (Kd.int .u8) w A0 l0.length l0) (hc0 : l0.length ≤ c0) (h : spec_B10Beams.f k l0 = some r) :
 Calls Try.prog 33 #[.slice A0 l0.length c0] w fun e w' => ∃ v0_ : Value, e = .returned (v0_) ∧ Kd.R k54 54 w' w.heap.size (fun _ => True) v0_ r ∧ Below w.heap.size w w' := by
 have HR0 := Aside0.mk hr0
 have HC0 := Aside0.mk hc0
 clear hr0 hc0
 have HB := Aside0.mk (Below.refl w.heap.size w)
 have H : ((spec_l00From.f l0).bind fun bt154 => ((spec_l09DrawOk.f k bt154.1 bt154.2.1 bt154.2.2).bind fun bt158 => (some bt158.1))) = some r := h
 clear h
 replace H := Option.bind_eq_some_iff.mp H
 obtain ⟨⟨t154, t155, t156⟩, A20, H⟩ := H
 replace H : ((spec_l09DrawOk.f k t154 t155 t156).bind fun bt158 => (some bt158.1)) = some r := H
 have A2 := Aside0.mk A20
 clear A20
 replace H := Option.bind_eq_some_iff.mp H
 obtain ⟨⟨t158, t161, t162⟩, A30, H⟩ := H
 replace H : (some t158) = some r := H
 have A3 := Aside0.mk A30
 clear A30
 as_aux_lemma =>
  obtain rfl := Option.some.inj H
  go_enter Try.func33, Try.ntmps33
  go_wp2_with (first | ((with_reducible refine gate_callee (f := 72) rfl ?_); refine goesL_ (some 5) rfl rfl Try.func72 (by kernel_rfl) rfl #[.slice A0 l0.length c0] rfl (by (try simp only [List.map_toArray, List.map_cons, List.map_nil]); first | done | rfl | (simp only [List.length_drop, List.length_take]; rfl)) ?_; (with_reducible refine (spec_l00From.calls _ _ l0 t154 t155 t156 w _ ?side1 ?side2 ?side3 A2.out).mono ?_); (case side1 => repeat (first | (with_reducible first | exact HB.out | apply below_alloc | apply pw_below_drewN | apply below_drew1) | exact HB.out)); (case side2 => exact HR0.out); (case side3 => exact HC0.out); rintro e w4 ⟨g157, rfl, hi, hb, hb2⟩; refine ⟨_, rfl, ?_⟩; have n0_ := Aside0.mk (hb); have n1_ := Aside0.mk (hi); clear HB; have HB := n0_; have HI157 := n1_; clear n0_ n1_; (try clear hb); (try clear hb2); (try clear hk); (try clear hi)) | ((with_reducible refine gate_callee (f := 73) rfl ?_); refine goesL_ (some 7) rfl rfl Try.func73 (by kernel_rfl) rfl #[.pointer (some ⟨g157, 0, none⟩)] rfl (by (try simp only [List.map_toArray, List.map_cons, List.map_nil]); first | done | rfl | (simp only [List.length_drop, List.length_take]; rfl)) ?_; (with_reducible refine (spec_l09DrawOk.calls k g157 t154 t155 t156 t158 t161 t162 w _ ?side1 ?side2 A3.out).mono ?_); (case side1 => repeat (first | (with_reducible first | exact HI157.out | apply IsS118.alloc | apply IsS118.drewN | apply IsS118.drew | apply IsS118.set_1 | apply IsS118.set_2) | exact HI157.out)); (case side2 => repeat (first | (with_reducible first | exact HB.out | apply below_alloc | apply pw_below_drewN | apply below_drew1 | refine below_set ?_ (IsS118.ge HI157.out)) | exact HB.out)); rintro e w5 ⟨v159, rfl, ho0, hi, hb, hk⟩; refine ⟨_, rfl, ?_⟩; have n0_ := Aside0.mk (Kd.R_lower ho0 (below_size (by repeat (first | (with_reducible first | exact HB.out | apply below_alloc | apply pw_below_drewN | apply below_drew1 | refine below_set ?_ (IsS118.ge HI157.out)) | exact HB.out)))); have n1_ := Aside0.mk (hb); have n2_ := Aside0.mk (hi); clear HB; clear HI157; have HO160 := n0_; have HB := n1_; have HI157 := n2_; clear n0_ n1_ n2_; (try clear hb); (try clear hb2); (try clear hk); (try clear hi); (try clear ho0)))
  go_ret
  exact ⟨_, by first | rfl | (simp [errW_none, errW_some] <;> rfl) | (simp [*, errW_none, errW_some] <;> rfl), by (with_reducible repeat (first | apply Kd.R_alloc | apply Kd.R_drewN | apply Kd.R_drew)); exact HO160.out, by repeat (first | (with_reducible first | exact HB.out | apply below_alloc | apply pw_below_drewN | apply below_drew1 | refine below_set ?_ (IsS118.ge HI157.out)) | exact HB.out)⟩

/-! ### laws_b10At: function 34 -/
def laws_b10At.f (l0 : List Int) (a1 : Int) (a2 : Int) : Option (Int) := if a2 ≤ 1 then (some 0) else (if a1 < (l0.length : Int) then (if 0 ≤ a1 then (if a2 = 0 then (none) else (some (Int.tmod (wrap64 (rd l0 a1)) a2))) else (none)) else (if a2 = 0 then (none) else (some (Int.tmod (wrap64 ((wrap64 (a1 * 37)) + 11)) a2))))
set_option maxHeartbeats 8000000 in
set_option maxRecDepth 100000 in
theorem laws_b10At.calls (A0 : Option Addr) (c0 : Nat) (l0 : List Int) (a1 : Int) (a2 : Int) (r : Int) (w : World) (hr0 : Kd.C (Kd.int .u8) w A0 l0.length l0) (hc0 : l0.length ≤ c0) (h : laws_b10At.f l0 a1 a2 = some r) :
 Calls Try.prog 34 #[.slice A0 l0.length c0, .int .i64 a1, .int .i64 a2] w fun e w' => e = .returned (.int .i64 r) ∧ Drawn0 w w' := by
 have HR0 := Aside0.mk hr0
 have HC0 := Aside0.mk hc0
 clear hr0 hc0
 have H : (if a2 ≤ 1 then (some 0) else (if a1 < (l0.length : Int) then (if 0 ≤ a1 then (if a2 = 0 then (none) else (some (Int.tmod (wrap64 (rd l0 a1)) a2))) else (none)) else (if a2 = 0 then (none) else (some (Int.tmod (wrap64 ((wrap64 (a1 * 37)) + 11)) a2))))) = some r := h
 clear h
 by_cases c4 : a2 ≤ 1
 · rw [if_pos c4] at H
   have c4b0 : decide (a2 ≤ 1) = true := decide_eq_true c4
   clear c4
   as_aux_lemma =>
    obtain rfl := Option.some.inj H
    go_enter Try.func34, Try.ntmps34
    go_wp2
    go_ret
    exact ⟨by first | rfl | (simp; done) | (simp [*]; done), by repeat (first | exact Drawn0.refl _ | apply Drawn0.step)⟩
 · rw [if_neg c4] at H
   have c4b0 : decide (a2 ≤ 1) = false := decide_eq_false c4
   clear c4
   by_cases c5 : a1 < (l0.length : Int)
   · rw [if_pos c5] at H
     have c5b0 : decide (a1 < (l0.length : Int)) = true := decide_eq_true c5
     clear c5
     by_cases c6 : 0 ≤ a1
     · rw [if_pos c6] at H
       have c6b0 : decide (0 ≤ a1) = true := decide_eq_true c6
       clear c6
       by_cases c7 : a2 = 0
       · rw [if_pos c7] at H
         exact absurd H (by simp)
       · rw [if_neg c7] at H
         have c7b0 : (a2 == 0) = false := beq_eq_false_iff_ne.mpr c7
         have c7b1 : (a2 != 0) = true := bne_iff_ne.mpr c7
         as_aux_lemma =>
          obtain rfl := Option.some.inj H
          have p163 : 0 ≤ (a1 : Int) := of_decide_eq_true (by first | (with_reducible assumption) | assumption)
          have q163 : a1 < (l0.length : Int) := of_decide_eq_true (by first | (with_reducible assumption) | assumption)
          obtain ⟨ad163, e163, hx163_0⟩ := Kd.at_int HR0.out a1 p163 q163
          cases e163
          replace p163 := eq_true p163
          replace q163 := eq_true q163
          go_enter Try.func34, Try.ntmps34
          go_wp2
          go_ret
          exact ⟨by first | rfl | (simp; done) | (simp [*]; done), by repeat (first | exact Drawn0.refl _ | apply Drawn0.step)⟩
     · rw [if_neg c6] at H
       exact absurd H (by simp)
   · rw [if_neg c5] at H
     have c5b0 : decide (a1 < (l0.length : Int)) = false := decide_eq_false c5
     clear c5
     by_cases c8 : a2 = 0
     · rw [if_pos c8] at H
       exact absurd H (by simp)
     · rw [if_neg c8] at H
       have c8b0 : (a2 == 0) = false := beq_eq_false_iff_ne.mpr c8
       have c8b1 : (a2 != 0) = true := bne_iff_ne.mpr c8
       as_aux_lemma =>
        obtain rfl := Option.some.inj H
        go_enter Try.func34, Try.ntmps34
        go_wp2
        go_ret
        exact ⟨by first | rfl | (simp; done) | (simp [*]; done), by repeat (first | exact Drawn0.refl _ | apply Drawn0.step)⟩

/-! ### impl_jobsOf: function 84 -/
/-- How many of the first i slots have a beam. -/
def jcnt (l : List S81) (i : Nat) (b : Int) : Nat := (l.take i).countP (fun x => x.f0 == b)
/-- The number of the job of slot i: how many slots before it have its beam. -/
def jnum (l : List S81) (i : Nat) : Int := (jcnt l i (l.getD i z81).f0 : Nat)
def jobsL (l : List S81) : List Int := (List.range l.length).map (jnum l)
def jfits (l : List S81) : Bool := l.all fun x => decide (-9223372036854775808 ≤ x.f0) && decide (x.f0 ≤ 9223372036854775807)
theorem jcnt_succ (l : List S81) (i : Nat) (h : i < l.length) (b : Int) : jcnt l (i + 1) b = jcnt l i b + if l[i].f0 = b then 1 else 0 := by
  unfold jcnt
  rw [List.take_succ_eq_append_getElem h, List.countP_append, List.countP_singleton]
  simp
theorem jcnt_le (l : List S81) (i : Nat) (b : Int) : jcnt l i b ≤ i := Nat.le_trans List.countP_le_length (List.length_take_le _ _)
theorem jobs_succ (l : List S81) (i : Nat) : (List.range (i + 1)).map (jnum l) = (List.range i).map (jnum l) ++ [jnum l i] := by
  rw [List.range_succ, List.map_append]; rfl
def impl_jobsOf.f (l0 : List (S81)) : Option (List Int) := if jfits l0 = true then if l0.length ≤ 1000000000 then some (jobsL l0) else none else none
theorem zero2 (w : World) : (zeroValue 2).run Try.prog w = .ok (.int .i64 0) w := by kernel_rfl
theorem keyed2 : Maps.Keyed Try.prog 2 := Maps.int_keyed Try.underlying2
/-- The map after i rounds. -/
def MapIs (l : List S81) (i : Nat) (B : Nat) (wr : World) : Prop := ∃ D : DataW Unit, wr.ownsMap Try.prog 2 (plainElem Try.prog 2) B i D ∧ ∀ b : Int, (Lit.int .i64 b).wf = true → D.atKey (.int .i64 b) (.lit (.int .i64 0)) = .lit (.int .i64 (jcnt l i b : Nat))
theorem lit_int_inj {H : Type} {q : IntKind} {a b : Int} (h : (DataW.lit (.int q a) : DataW H) = .lit (.int q b)) : a = b := by
  injection h with h
  injection h
theorem R_of_nums {w : World} {base e n : Nat} {k : IntKind} {v : Value} {xs : List Int} (h : w.ownsRow base e 1 v n (nums k xs)) : Kd.R (Kd.int k) e w base (fun _ => True) v xs := by
  have hl : xs.length = n := by have := h.1; simp [nums] at this; exact this
  subst hl
  exact Kd.R_of_own h (fun _ _ => trivial)
set_option maxRecDepth 100000 in
set_option maxHeartbeats 2000000 in
theorem impl_jobsOf.calls (A0 : Option Addr) (c0 : Nat) (l0 : List (S81)) (r : List Int) (w : World) (hr0 : Kd.C k81 w A0 l0.length l0) (hc0 : l0.length ≤ c0) (h : impl_jobsOf.f l0 = some r) :
    Calls Try.prog 84 #[.slice A0 l0.length c0] w fun e w' => ∃ v0_ : Value, e = .returned (v0_) ∧ Kd.R (Kd.int .i64) 2 w' w.heap.size (fun _ => True) v0_ r ∧ Below w.heap.size w w' := by
  have HR := Aside0.mk hr0
  clear hr0
  unfold impl_jobsOf.f at h
  by_cases hf : jfits l0 = true
  · rw [if_pos hf] at h
    by_cases hl : l0.length ≤ 1000000000
    · rw [if_pos hl] at h
      obtain rfl := Option.some.inj h
      clear h
      have hmm := @run_makeMap Try.prog
      go_enter Try.func84, Try.ntmps84
      go_wp2
      go_loopw [3, 11] (fun v i wr => ∃ k : Nat, k ≤ l0.length ∧ i = .int .i64 k ∧ wr.ownsRow w.heap.size 2 1 v k (nums .i64 ((List.range k).map (jnum l0))) ∧ MapIs l0 k (w.heap.size + 1) wr ∧ Below w.heap.size w wr ∧ v.ownBlock ≠ some (w.heap.size + 1)) (fun _ i _ => l0.length - (intOf i).toNat)
      case atStart =>
        refine ⟨0, Nat.zero_le _, rfl, ?_, ?_, ?_, ?_⟩
        · have := own_lit w w.heap.size 2 .i64 [] (Nat.le_refl _) (by simp)
          exact this.alloc _
        · refine ⟨.map [], ?_, fun b _ => rfl⟩
          have := World.ownsMap_made (H := Unit) (w.alloc (.cells #[] 2)) Try.prog 2 (plainElem Try.prog 2)
          simpa using this
        · exact below_alloc (below_alloc (Below.refl _ _) _) _
        · simp [Value.ownBlock]
      case round =>
        obtain ⟨k, hk, rfl, hown, ⟨D, hM, hD⟩, hb, hne⟩ := hrel
        by_cases hlt : k < l0.length
        · obtain ⟨ad, hA, e0, e1⟩ := at_T81 (Kd.C_below HR.out hb) (k : Int) (by omega) (by omega)
          have hrd : rd_T81 l0 (k : Int) = l0[k] := by
            unfold rd_T81
            simp [List.getD_eq_getElem?_getD, List.getElem?_eq_getElem hlt]
          rw [hrd, Int.toNat_natCast] at e0 e1
          subst hA
          have hwf : (Lit.int .i64 l0[k].f0).wf = true := by
            have := List.all_eq_true.1 hf _ (List.getElem_mem hlt)
            simpa [Lit.wf, IntKind.min, IntKind.max, IntKind.signed, IntKind.bits] using this
          have HK := Aside0.mk (Maps.keyOf_int_mk (P := Try.prog) Try.underlying2 hwf)
          have HO := Aside0.mk hown
          have HM := Aside0.mk hM
          have HB := Aside0.mk hb
          have HN := Aside0.mk hne
          have HD := Aside0.mk hD
          have HC := Aside0.mk (hD _ hwf)
          have HJ := Aside0.mk (jobs_succ l0 k)
          have hjn : jnum l0 k = (jcnt l0 k l0[k].f0 : Nat) := by
            unfold jnum
            simp [List.getD_eq_getElem?_getD, List.getElem?_eq_getElem hlt]
          have HJN := Aside0.mk hjn
          have HW := Aside0.mk hwf
          have HLT : Aside0 (∀ g, Value.ownBlock _ = some g → g ≠ wr.heap.size) := ⟨fun g hg => by have := own_lt hown g hg; omega⟩
          have HLT : Aside0 (¬ Value.ownBlock _ = some wr.heap.size) := ⟨fun e => HLT.out _ e rfl⟩
          have HSZ := Aside0.mk hM.lt
          clear hrd hM hb hown hne hD hjn hwf
          go_wp2_with (first
            | (at_lookup; refine wpList_lookup_own_int _ rfl _ _ 121 rfl 2 2 .i64 keyed2 Try.underlying121 Try.underlying2 (zero2 _) (w.heap.size + 1) k D rfl (by first | exact HM.out.alloc _ | exact HM1.out) _ _ rfl HK.out ?_; intro c hat hwc; have hcc := lit_int_inj (hat.symm.trans HC.out); clear hat hwc; subst hcc)
            | (at_builtin; go_loud (refine print_append_num (w0 := w) w.heap.size rfl (.tmp 15) (.tmp 20) 41 2 .i64 8 rfl Try.underlying41 info2 (by omega) _ ((List.range k).map (jnum l0)) ((jcnt l0 k l0[k].f0 : Nat) : Int) rfl (by first | (go_simp; done) | (go_simp; rfl)) (by rw [List.length_map, List.length_range]; exact HO.out.alloc _) (below_alloc HB.out _) (by have := HB.out.size; simp; omega) (by simp; omega) ?_); intro v1 w1 hown1 hb1 hg1 hat1; have hq1 := (blk_cell (blk_grown (blk_new wr (.cells #[.int .i64 l0[k].f0, .int .i64 l0[k].f1] 81)) hg1 (fun e => HLT.out e.symm)) 0).trans rfl; have HM1 := Aside0.mk ((HM.out.alloc _).kept hg1 (fun e => HN.out e.symm)); have HO1 := Aside0.mk hown1; have HB1 := Aside0.mk hb1; have HA1 := Aside0.mk hat1; clear hown1 hb1 hg1 hat1)
            | (at_mapUpdate; refine wpList_mapUpdate_own _ rfl _ _ _ 121 rfl 2 2 keyed2 Try.underlying121 _ (w.heap.size + 1) k D rfl HM1.out (by unfold maxLen; omega) _ _ _ rfl rfl HK.out _ [] (plainElem_int Try.underlying2 (wrap64_wf _)) ?_; intro w2 hown2 hgrow2; have HM2 := Aside0.mk hown2; have HG2 := Aside0.mk hgrow2; clear hown2 hgrow2))
          go_roundw
          case rel =>
            refine ⟨k + 1, by omega, by go_num, ?_, ⟨_, HM2.out, fun b hb => ?_⟩, ?_, ?_⟩
            · rw [HJ.out, HJN.out]
              have := (HO1.out).kept HG2.out (.inr <| by
                show v1.ownBlock ≠ _
                rcases HA1.out with h | ⟨g, h, hg⟩
                · rw [h]; exact HN.out
                · rw [h]; intro e; have := HSZ.out; simp at hg; injection e with e; omega)
              simpa using this
            · rw [jcnt_succ l0 k hlt b]
              by_cases hbe : l0[k].f0 = b
              · subst hbe
                rw [Maps.atKey_put_same (HM1.out.isMap) (by first | trivial | (simp [WideAt.IsKeyLit]; done) | exact .int _ _)]
                rw [if_pos rfl]
                have hle := jcnt_le l0 k l0[k].f0
                exact congrArg (fun n => DataW.lit (Lit.int .i64 n)) (by unfold wrap64; omega)
              · rw [Maps.atKey_put_other (by intro e; injection e with _ e; exact hbe e.symm), HD.out b hb, if_neg hbe]
                simp
            · exact HB1.out.grown HG2.out (by have := HB1.out.size; omega) (fun j hj => by injection hj with hj; omega)
            · rcases HA1.out with h | ⟨g, h, hg⟩
              · rw [h]; exact HN.out
              · rw [h]; intro e; have := HSZ.out; simp at hg; injection e with e; omega
          case measure => (simp [intOf] <;> omega)
        · obtain rfl : l0.length = k := by omega
          have HO := Aside0.mk (R_of_nums hown)
          have HB := Aside0.mk hb
          clear hown hb hM hD hne
          go_wp2
          go_ret
          exact ⟨_, rfl, HO.out, HB.out⟩
    · rw [if_neg hl] at h; cases h
  · rw [if_neg hf] at h; cases h

end Go.Proofs.Ytekcngoemeadlaa.Z
