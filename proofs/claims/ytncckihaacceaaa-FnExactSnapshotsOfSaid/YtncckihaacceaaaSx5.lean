/-
  Contracts of the program's functions, each a plain Lean function beside the machine's call: written by this session's program over the kit's print.
-/
import Derived.Test.YtncckihaacceaaaSx0
import Derived.Test.YtncckihaacceaaaSx2
import Derived.Test.YtncckihaacceaaaSx3
import Derived.Test.YtncckihaacceaaaSx4
namespace Go.Proofs.Ytncckihaacceaaa.S
open Go.RowKit Go.Proofs.YtncckihaacceaaaW.PrintWords Go.Proofs.YtncckihaacceaaaW.PrintLast Go.Proofs.YtncckihaacceaaaW.PrintMore
attribute [local go_sem] max2_int min2_int max_two min_two max_three min_three max_four min_four   -- for this text's walks alone
set_option linter.unusedVariables false
set_option linter.unusedSimpArgs false

/-! ### laws_eqComplex64S: function 27 -/
-- quiet
/-- Where it serves: two rows of the same numbers. -/
def laws_eqComplex64S.f (l0 : List C64) (l1 : List C64) : Option Bool := if l0 = l1 then some true else none
set_option maxRecDepth 100000 in
theorem same_calls (a b : C64) (hs : Same .f64 a.re b.re ∧ Same .f64 a.im b.im) (w : World) : Calls Try.prog 63 #[.complex .f64 a.re a.im, .complex .f64 b.re b.im] w fun e w' => e = .returned (.bool true) ∧ Drawn0 w w' := by
 go_enter Try.func63, Try.ntmps63
 go_wp2_with fail
 refine (laws_sameFloat.calls _ _ true _ (by unfold laws_sameFloat.f; exact if_pos hs.1)).mono ?_
 rintro e w1 ⟨rfl, ⟨⟨n1, rfl⟩⟩⟩
 go_wp2_with fail
 refine (laws_sameFloat.calls _ _ true _ (by unfold laws_sameFloat.f; exact if_pos hs.2)).mono ?_
 rintro e w2 ⟨rfl, ⟨⟨n2, rfl⟩⟩⟩
 go_wp2_with fail
 go_ret
 exact ⟨rfl, ⟨⟨_, rfl⟩⟩⟩
set_option maxRecDepth 100000 in
set_option maxHeartbeats 8000000 in
theorem laws_eqComplex64S.calls (A0 : Option Addr) (c0 : Nat) (l0 : List C64) (A1 : Option Addr) (c1 : Nat) (l1 : List C64) (r : Bool) (w : World) (hr0 : Kd.C Kd.c64 w A0 l0.length l0) (hc0 : l0.length ≤ c0) (hr1 : Kd.C Kd.c64 w A1 l1.length l1) (hc1 : l1.length ≤ c1) (h : laws_eqComplex64S.f l0 l1 = some r) :
 Calls Try.prog 27 #[.slice A0 l0.length c0, .slice A1 l1.length c1] w fun e w' => e = .returned (.bool r) ∧ Drawn0 w w' := by
 unfold laws_eqComplex64S.f at h
 split at h
 · rename_i he
   subst he
   obtain rfl := Option.some.inj h
   obtain ⟨z0, hz0, hr0⟩ := Kd.c64_C_to hr0
   obtain ⟨z1, hz1, hr1⟩ := Kd.c64_C_to hr1
   have HR := Aside0.mk hr0
   have HR1 := Aside0.mk hr1
   have hn := hr0.2.1
   have hcc := fun x y W => run_cconv_any (P := Try.prog) (src := 94) (dst := 93) (s := .f32) (k := .f64) Try.underlying94 Try.underlying93 (by decide) x y W
   clear hr0 hr1 h
   go_enter Try.func27, Try.ntmps27
   go_wp2
   go_loopw [5] (fun v wr => ∃ i : Nat, v = .int .i64 i ∧ i ≤ l0.length ∧ ∃ n, wr = w.drewN n) (fun v _ => l0.length - (intOf v).toNat)
   case atStart => exact ⟨0, rfl, Nat.zero_le _, 0, rfl⟩
   case round =>
    obtain ⟨i, rfl, hi, n, rfl⟩ := hrel
    by_cases hlt : i < l0.length
    · obtain ⟨ad, hA, e0⟩ := Kd.at_c64e HR.out (i : Int) (by omega) (by omega)
      obtain ⟨ad1, hA1, e1⟩ := Kd.at_c64e HR1.out (i : Int) (by omega) (by omega)
      have hxy : SameC (rdOf c64z z0 (i : Int)) (rdOf c64z z1 (i : Int)) := (hz0.rd _).trans (hz1.rd _).symm
      subst hA
      subst hA1
      rw [Int.toNat_natCast] at e0 e1
      generalize rdOf c64z z0 (i : Int) = x at e0 hxy
      generalize rdOf c64z z1 (i : Int) = y at e1 hxy
      have b0 : (i : Int) < (l0.length : Int) := by omega
      go_wp2
      refine start_ (n := 12) (S := fun w' => w'.cell? (ad.add i) = some (.complex .f32 x.re x.im) ∧ w'.cell? (ad1.add i) = some (.complex .f32 y.re y.im)) (ds := []) #[false, false, false, false, false, false, false, false, false, false, false, false] (by kernel_rfl) rfl rfl ⟨e0, e1⟩ (fun hHeld => ?_)
      refine pure_ (i := 0) (N := some 17) (v := ?_) (a' := ?_) #[true, false, false, false, false, false, false, false, false, false, false, false] rfl rfl (by kernel_rfl) (fun _ _ _ h => h) (Or.inl ⟨by rfl, ?_⟩) ?_ ?_; rotate_left 4
      refine pure_ (i := 1) (N := some 18) (v := ?_) (a' := ?_) #[true, true, false, false, false, false, false, false, false, false, false, false] rfl rfl (by kernel_rfl) (fun _ _ _ h => h) (Or.inl ⟨by rfl, ?_⟩) ?_ ?_; rotate_left 4
      refine pure_ (i := 2) (N := some 19) (v := ?_) (a' := ?_) #[true, true, true, false, false, false, false, false, false, false, false, false] rfl rfl (by kernel_rfl) (fun _ _ _ h => h) (Or.inl ⟨by rfl, ?_⟩) ?_ ?_; rotate_left 4
      refine pure_ (i := 5) (N := some 22) (v := ?_) (a' := ?_) #[true, true, true, false, false, true, false, false, false, false, false, false] rfl rfl (by kernel_rfl) (fun _ _ _ h => h) (Or.inl ⟨by rfl, ?_⟩) ?_ ?_; rotate_left 4
      refine pure_ (i := 6) (N := some 23) (v := ?_) (a' := ?_) #[true, true, true, false, false, true, true, false, false, false, false, false] rfl rfl (by kernel_rfl) (fun _ _ _ h => h) (Or.inl ⟨by rfl, ?_⟩) ?_ ?_; rotate_left 4
      refine pure_ (i := 7) (N := some 24) (v := ?_) (a' := ?_) #[true, true, true, false, false, true, true, true, false, false, false, false] rfl rfl (by kernel_rfl) (fun _ _ _ h => h) (Or.inl ⟨by rfl, ?_⟩) ?_ ?_; rotate_left 4
      rotate_left; iterate 6 (rotate_left; (intro w'; go_simp; with_reducible rfl); rotate_left; (simp only [Act.put, List.setIfInBounds_toArray, List.set_cons_zero, List.set_cons_succ, i64_w, i32_w]; rfl))
      refine take_ (i := 3) (N := some 20) (v := ?_) (a' := ?_) #[true, true, true, true, false, true, true, true, false, false, false, false] rfl rfl (by kernel_rfl) (fun _ _ _ h => h) (Or.inl ⟨by rfl, ?_⟩) hHeld ?_ ?_
      rotate_left
      · rintro w' ⟨s0, s1⟩
        go_simp
        with_reducible rfl
      rotate_left
      · simp only [Act.put, List.setIfInBounds_toArray, List.set_cons_zero, List.set_cons_succ, i64_w, i32_w]
        rfl
      refine take_ (i := 8) (N := some 25) (v := ?_) (a' := ?_) #[true, true, true, true, false, true, true, true, true, false, false, false] rfl rfl (by kernel_rfl) (fun _ _ _ h => h) (Or.inl ⟨by rfl, ?_⟩) hHeld ?_ ?_
      rotate_left
      · rintro w' ⟨s0, s1⟩
        go_simp
        with_reducible rfl
      rotate_left
      · simp only [Act.put, List.setIfInBounds_toArray, List.set_cons_zero, List.set_cons_succ, i64_w, i32_w]
        rfl
      refine two_ (i := 4) (j := 9) (Ni := some 21) (Nj := some 26) #[true, true, true, true, true, true, true, true, true, false, false, false] #[true, true, true, true, false, true, true, true, true, true, false, false] rfl rfl rfl rfl (by kernel_rfl) (by decide) (by decide) (fun K hK => ?_) (fun K hK => ?_)
      · refine val_ (by rfl) rfl (by go_simp; exact ⟨rfl, rfl⟩) ?_
        refine hK.out _ _ ⟨e0, e1⟩ (fun hHeld => ?_)
        clear hK K
        refine norm_ (a' := ?_) ?_ ?_
        rotate_left
        · show Act.put _ (some 21) _ = _
          simp only [Act.put, List.setIfInBounds_toArray, List.set_cons_zero, List.set_cons_succ, i64_w, i32_w]
          rfl
        refine one_ (i := 9) (N := some 26) #[true, true, true, true, true, true, true, true, true, true, false, false] rfl rfl (by kernel_rfl) (by decide) (fun K hK => ?_)
        refine val_ (by rfl) rfl (by go_simp; exact ⟨rfl, rfl⟩) ?_
        refine hK.out _ _ ⟨e0, e1⟩ (fun hHeld => ?_)
        clear hK K
        refine norm_ (a' := ?_) ?_ ?_
        rotate_left
        · show Act.put _ (some 26) _ = _
          simp only [Act.put, List.setIfInBounds_toArray, List.set_cons_zero, List.set_cons_succ, i64_w, i32_w]
          rfl
        refine one_ (i := 10) (N := some 27) #[true, true, true, true, true, true, true, true, true, true, true, false] rfl rfl (by kernel_rfl) (by decide) (fun K hK => ?_)
        refine call_ 63 _ (by rfl) rfl (by first | (go_simp; done) | (go_simp; rfl)) ?_
        refine (same_calls ⟨_, _⟩ ⟨_, _⟩ ⟨(same_wide hxy.1 _).trans (same_wide (.refl _) _).symm, (same_wide hxy.2 _).trans (same_wide (.refl _) _).symm⟩ _).mono ?_
        rintro e wc ⟨rfl, ⟨⟨m, rfl⟩⟩⟩
        refine ⟨_, rfl, ?_⟩
        refine hK.out _ _ ⟨e0, e1⟩ (fun hHeld => ?_)
        clear hK K
        refine norm_ (a' := ?_) ?_ ?_
        rotate_left
        · show Act.put _ (some 27) _ = _
          simp only [Act.put, List.setIfInBounds_toArray, List.set_cons_zero, List.set_cons_succ, i64_w, i32_w]
          rfl
        refine pure_ (i := 11) (N := some 28) (v := ?_) (a' := ?_) #[true, true, true, true, true, true, true, true, true, true, true, true] rfl rfl (by kernel_rfl) (fun _ _ _ h => h) (Or.inl ⟨by rfl, ?_⟩) ?_ ?_; rotate_left 4
        rotate_left; iterate 1 (rotate_left; (intro w'; go_simp; with_reducible rfl); rotate_left; (simp only [Act.put, List.setIfInBounds_toArray, List.set_cons_zero, List.set_cons_succ, i64_w, i32_w]; rfl))
        refine done_ (by kernel_rfl) ?_
        go_wp2
        go_roundw
        · exact ⟨i + 1, by go_num, by omega, _, rfl⟩
        · (simp [intOf] <;> omega)
      · refine val_ (by rfl) rfl (by go_simp; exact ⟨rfl, rfl⟩) ?_
        refine hK.out _ _ ⟨e0, e1⟩ (fun hHeld => ?_)
        clear hK K
        refine norm_ (a' := ?_) ?_ ?_
        rotate_left
        · show Act.put _ (some 26) _ = _
          simp only [Act.put, List.setIfInBounds_toArray, List.set_cons_zero, List.set_cons_succ, i64_w, i32_w]
          rfl
        refine one_ (i := 4) (N := some 21) #[true, true, true, true, true, true, true, true, true, true, false, false] rfl rfl (by kernel_rfl) (by decide) (fun K hK => ?_)
        refine val_ (by rfl) rfl (by go_simp; exact ⟨rfl, rfl⟩) ?_
        refine hK.out _ _ ⟨e0, e1⟩ (fun hHeld => ?_)
        clear hK K
        refine norm_ (a' := ?_) ?_ ?_
        rotate_left
        · show Act.put _ (some 21) _ = _
          simp only [Act.put, List.setIfInBounds_toArray, List.set_cons_zero, List.set_cons_succ, i64_w, i32_w]
          rfl
        refine one_ (i := 10) (N := some 27) #[true, true, true, true, true, true, true, true, true, true, true, false] rfl rfl (by kernel_rfl) (by decide) (fun K hK => ?_)
        refine call_ 63 _ (by rfl) rfl (by first | (go_simp; done) | (go_simp; rfl)) ?_
        refine (same_calls ⟨_, _⟩ ⟨_, _⟩ ⟨(same_wide hxy.1 _).trans (same_wide (.refl _) _).symm, (same_wide hxy.2 _).trans (same_wide (.refl _) _).symm⟩ _).mono ?_
        rintro e wc ⟨rfl, ⟨⟨m, rfl⟩⟩⟩
        refine ⟨_, rfl, ?_⟩
        refine hK.out _ _ ⟨e0, e1⟩ (fun hHeld => ?_)
        clear hK K
        refine norm_ (a' := ?_) ?_ ?_
        rotate_left
        · show Act.put _ (some 27) _ = _
          simp only [Act.put, List.setIfInBounds_toArray, List.set_cons_zero, List.set_cons_succ, i64_w, i32_w]
          rfl
        refine pure_ (i := 11) (N := some 28) (v := ?_) (a' := ?_) #[true, true, true, true, true, true, true, true, true, true, true, true] rfl rfl (by kernel_rfl) (fun _ _ _ h => h) (Or.inl ⟨by rfl, ?_⟩) ?_ ?_; rotate_left 4
        rotate_left; iterate 1 (rotate_left; (intro w'; go_simp; with_reducible rfl); rotate_left; (simp only [Act.put, List.setIfInBounds_toArray, List.set_cons_zero, List.set_cons_succ, i64_w, i32_w]; rfl))
        refine done_ (by kernel_rfl) ?_
        go_wp2
        go_roundw
        · exact ⟨i + 1, by go_num, by omega, _, rfl⟩
        · (simp [intOf] <;> omega)
    · obtain rfl : l0.length = i := by omega
      go_wp2
      go_ret
      exact ⟨rfl, ⟨⟨_, rfl⟩⟩⟩
 · cases h

/-! ### laws_eqComplex64SS: function 35 -/
def laws_eqComplex64SS.l0 : Nat → List (List C64) → List (List C64) → Int → Option (Bool)
 | 0, _, _, _ => none
 | k + 1, x0, x1, x5 => if x5 < (x0.length : Int) then (if 0 ≤ x5 then (if x5 < (x1.length : Int) then ((laws_eqComplex64S.f (rd_L11 x0 x5) (rd_L11 x1 x5)).bind fun t274 => (if t274 = true then (laws_eqComplex64SS.l0 k x0 x1 (wrap64 (x5 + 1))) else (some false))) else (none)) else (none)) else (some true)
def laws_eqComplex64SS.f (k : Nat) (l0 : List (List C64)) (l1 : List (List C64)) : Option (Bool) := if (l0.length : Int) = (l1.length : Int) then (laws_eqComplex64SS.l0 k l0 l1 0) else (some false)
set_option maxHeartbeats 8000000 in
set_option maxRecDepth 100000 in
theorem laws_eqComplex64SS.calls (k : Nat) (A0 : Option Addr) (c0 : Nat) (l0 : List (List C64)) (A1 : Option Addr) (c1 : Nat) (l1 : List (List C64)) (r : Bool) (w : World) (hr0 : Kd.C (Kd.slice 94 Kd.c64) w A0 l0.length l0) (hc0 : l0.length ≤ c0) (hr1 : Kd.C (Kd.slice 94 Kd.c64) w A1 l1.length l1) (hc1 : l1.length ≤ c1) (h : laws_eqComplex64SS.f k l0 l1 = some r) :
 Calls Try.prog 35 #[.slice A0 l0.length c0, .slice A1 l1.length c1] w fun e w' => e = .returned (.bool r) ∧ Drawn0 w w' := by
 have HR0 := Aside0.mk hr0
 have HC0 := Aside0.mk hc0
 clear hr0 hc0
 have HR1 := Aside0.mk hr1
 have HC1 := Aside0.mk hc1
 clear hr1 hc1
 have H : (if (l0.length : Int) = (l1.length : Int) then (laws_eqComplex64SS.l0 k l0 l1 0) else (some false)) = some r := h
 clear h
 by_cases c3 : (l0.length : Int) = (l1.length : Int)
 · rw [if_pos c3] at H
   have c3b0 : ((l0.length : Int) == (l1.length : Int)) = true := beq_iff_eq.mpr c3
   have c3b1 : ((l0.length : Int) != (l1.length : Int)) = false := bne_eq_false_iff_eq.mpr c3
   have c3b2 : (l0.length == l1.length) = true := by first | simpa using c3 | (simp at c3 ⊢; omega)
   clear c3
   have H' := Aside0.mk H
   clear H
   go_enter Try.func35, Try.ntmps35
   go_wp2
   repeat (go_quiet (fail); try go_wp2)
   go_loopg [5] k (fun kq v5 w' => ∃ (x5_1 : Int), v5 = .int .i64 x5_1 ∧ Aside0 (laws_eqComplex64SS.l0 kq l0 l1 x5_1 = some r) ∧ Aside0 (kq ≤ k) ∧ Drawn0 w w')
   case atStart => exact ⟨(0), (by first | rfl | (simp; done) | (simp [*]; done)), H', ⟨Nat.le_refl _⟩, by repeat (first | exact Drawn0.refl _ | apply Drawn0.step)⟩
   case round =>
    clear H'
    (try clear c1); (try clear p2); (try clear c3); (try clear c3b0); (try clear c3b1); (try clear c3b2)
    obtain ⟨x5_1, rfl, HA, HK1, ⟨m1, rfl⟩⟩ := hrel
    cases gk with
    | zero => exact absurd HA.out (by simp [laws_eqComplex64SS.l0])
    | succ k1 =>
     have H := HA.out
     clear HA
     simp only [laws_eqComplex64SS.l0] at H
     by_cases c4 : x5_1 < (l0.length : Int)
     · rw [if_pos c4] at H
       have c4b0 : decide (x5_1 < (l0.length : Int)) = true := decide_eq_true c4
       clear c4
       by_cases c5 : 0 ≤ x5_1
       · rw [if_pos c5] at H
         have c5b0 : decide (0 ≤ x5_1) = true := decide_eq_true c5
         clear c5
         by_cases c6 : x5_1 < (l1.length : Int)
         · rw [if_pos c6] at H
           have c6b0 : decide (x5_1 < (l1.length : Int)) = true := decide_eq_true c6
           clear c6
           replace H := Option.bind_eq_some_iff.mp H
           obtain ⟨t274, A70, H⟩ := H
           replace H : (if t274 = true then (laws_eqComplex64SS.l0 k1 l0 l1 (wrap64 (x5_1 + 1))) else (some false)) = some r := H
           have A7 := Aside0.mk A70
           clear A70
           by_cases c8 : t274 = true
           · subst c8
             have H1 : (laws_eqComplex64SS.l0 k1 l0 l1 (wrap64 (x5_1 + 1))) = some r := by rw [if_pos rfl] at H; exact H
             clear H
             have H := H1
             clear H1
             have H' := Aside0.mk H
             clear H
             have p272 : 0 ≤ (x5_1 : Int) := of_decide_eq_true (by first | (with_reducible assumption) | assumption)
             have q272 : x5_1 < (l0.length : Int) := of_decide_eq_true (by first | (with_reducible assumption) | assumption)
             obtain ⟨ad272, A272_0, c272_0, e272, hx272_0, hl272_0, hi272_0⟩ := at_L11 HR0.out x5_1 p272 q272
             cases e272
             have HR272_0 := Aside0.mk hi272_0
             have HC272_0 := Aside0.mk hl272_0
             clear hi272_0 hl272_0
             replace p272 := eq_true p272
             replace q272 := eq_true q272
             have p273 : 0 ≤ (x5_1 : Int) := of_decide_eq_true (by first | (with_reducible assumption) | assumption)
             have q273 : x5_1 < (l1.length : Int) := of_decide_eq_true (by first | (with_reducible assumption) | assumption)
             obtain ⟨ad273, A273_0, c273_0, e273, hx273_0, hl273_0, hi273_0⟩ := at_L11 HR1.out x5_1 p273 q273
             cases e273
             have HR273_0 := Aside0.mk hi273_0
             have HC273_0 := Aside0.mk hl273_0
             clear hi273_0 hl273_0
             replace p273 := eq_true p273
             replace q273 := eq_true q273
             go_wp2_with (first | (go_at_call 27; (with_reducible refine (laws_eqComplex64S.calls _ _ (rd_L11 l0 x5_1) _ _ (rd_L11 l1 x5_1) true _ ?side1 ?side2 ?side3 ?side4 A7.out).mono ?_); (case side1 => repeat (first | exact HR272_0.out | (with_reducible refine Kd.C_alloc ?_ _) | (with_reducible refine Kd.C_drewN ?_ _) | (with_reducible refine Kd.C_drew ?_))); (case side2 => exact HC272_0.out); (case side3 => repeat (first | exact HR273_0.out | (with_reducible refine Kd.C_alloc ?_ _) | (with_reducible refine Kd.C_drewN ?_ _) | (with_reducible refine Kd.C_drew ?_))); (case side4 => exact HC273_0.out); rintro e w' ⟨rfl, ⟨nd, rfl⟩⟩; (try first | exact ⟨rfl, _, World.drewN_drewN _ _ _⟩ | exact ⟨rfl, _, Eq.trans (World.drewN_drewN _ _ _) (congrArg (World.drewN _) (Nat.add_assoc _ _ _))⟩)))
             repeat (go_quiet (first | (go_at_call 27; (with_reducible refine (laws_eqComplex64S.calls _ _ (rd_L11 l0 x5_1) _ _ (rd_L11 l1 x5_1) true _ ?side1 ?side2 ?side3 ?side4 A7.out).mono ?_); (case side1 => repeat (first | exact HR272_0.out | (with_reducible refine Kd.C_alloc ?_ _) | (with_reducible refine Kd.C_drewN ?_ _) | (with_reducible refine Kd.C_drew ?_))); (case side2 => exact HC272_0.out); (case side3 => repeat (first | exact HR273_0.out | (with_reducible refine Kd.C_alloc ?_ _) | (with_reducible refine Kd.C_drewN ?_ _) | (with_reducible refine Kd.C_drew ?_))); (case side4 => exact HC273_0.out); rintro e w' ⟨rfl, ⟨nd, rfl⟩⟩; (try first | exact ⟨rfl, _, World.drewN_drewN _ _ _⟩ | exact ⟨rfl, _, Eq.trans (World.drewN_drewN _ _ _) (congrArg (World.drewN _) (Nat.add_assoc _ _ _))⟩))); try go_wp2_with (first | (go_at_call 27; (with_reducible refine (laws_eqComplex64S.calls _ _ (rd_L11 l0 x5_1) _ _ (rd_L11 l1 x5_1) true _ ?side1 ?side2 ?side3 ?side4 A7.out).mono ?_); (case side1 => repeat (first | exact HR272_0.out | (with_reducible refine Kd.C_alloc ?_ _) | (with_reducible refine Kd.C_drewN ?_ _) | (with_reducible refine Kd.C_drew ?_))); (case side2 => exact HC272_0.out); (case side3 => repeat (first | exact HR273_0.out | (with_reducible refine Kd.C_alloc ?_ _) | (with_reducible refine Kd.C_drewN ?_ _) | (with_reducible refine Kd.C_drew ?_))); (case side4 => exact HC273_0.out); rintro e w' ⟨rfl, ⟨nd, rfl⟩⟩; (try first | exact ⟨rfl, _, World.drewN_drewN _ _ _⟩ | exact ⟨rfl, _, Eq.trans (World.drewN_drewN _ _ _) (congrArg (World.drewN _) (Nat.add_assoc _ _ _))⟩))))
             go_roundg k1
             case measure => have := HK1.out; omega
             case rel => exact ⟨(wrap64 (x5_1 + 1)), (by first | rfl | (simp; done) | (simp [*]; done)), H', ⟨by have := HK1.out; omega⟩, by repeat (first | exact Drawn0.refl _ | apply Drawn0.step)⟩
           · replace c8 := Bool.eq_false_iff.mpr c8
             subst c8
             have H1 : (some false) = some r := by rw [if_neg (show ¬ (false = true) by decide)] at H; exact H
             clear H
             have H := H1
             clear H1
             obtain rfl := Option.some.inj H
             have p272 : 0 ≤ (x5_1 : Int) := of_decide_eq_true (by first | (with_reducible assumption) | assumption)
             have q272 : x5_1 < (l0.length : Int) := of_decide_eq_true (by first | (with_reducible assumption) | assumption)
             obtain ⟨ad272, A272_0, c272_0, e272, hx272_0, hl272_0, hi272_0⟩ := at_L11 HR0.out x5_1 p272 q272
             cases e272
             have HR272_0 := Aside0.mk hi272_0
             have HC272_0 := Aside0.mk hl272_0
             clear hi272_0 hl272_0
             replace p272 := eq_true p272
             replace q272 := eq_true q272
             have p273 : 0 ≤ (x5_1 : Int) := of_decide_eq_true (by first | (with_reducible assumption) | assumption)
             have q273 : x5_1 < (l1.length : Int) := of_decide_eq_true (by first | (with_reducible assumption) | assumption)
             obtain ⟨ad273, A273_0, c273_0, e273, hx273_0, hl273_0, hi273_0⟩ := at_L11 HR1.out x5_1 p273 q273
             cases e273
             have HR273_0 := Aside0.mk hi273_0
             have HC273_0 := Aside0.mk hl273_0
             clear hi273_0 hl273_0
             replace p273 := eq_true p273
             replace q273 := eq_true q273
             go_wp2_with (first | (go_at_call 27; (with_reducible refine (laws_eqComplex64S.calls _ _ (rd_L11 l0 x5_1) _ _ (rd_L11 l1 x5_1) false _ ?side1 ?side2 ?side3 ?side4 A7.out).mono ?_); (case side1 => repeat (first | exact HR272_0.out | (with_reducible refine Kd.C_alloc ?_ _) | (with_reducible refine Kd.C_drewN ?_ _) | (with_reducible refine Kd.C_drew ?_))); (case side2 => exact HC272_0.out); (case side3 => repeat (first | exact HR273_0.out | (with_reducible refine Kd.C_alloc ?_ _) | (with_reducible refine Kd.C_drewN ?_ _) | (with_reducible refine Kd.C_drew ?_))); (case side4 => exact HC273_0.out); rintro e w' ⟨rfl, ⟨nd, rfl⟩⟩; (try first | exact ⟨rfl, _, World.drewN_drewN _ _ _⟩ | exact ⟨rfl, _, Eq.trans (World.drewN_drewN _ _ _) (congrArg (World.drewN _) (Nat.add_assoc _ _ _))⟩)))
             repeat (go_quiet (first | (go_at_call 27; (with_reducible refine (laws_eqComplex64S.calls _ _ (rd_L11 l0 x5_1) _ _ (rd_L11 l1 x5_1) false _ ?side1 ?side2 ?side3 ?side4 A7.out).mono ?_); (case side1 => repeat (first | exact HR272_0.out | (with_reducible refine Kd.C_alloc ?_ _) | (with_reducible refine Kd.C_drewN ?_ _) | (with_reducible refine Kd.C_drew ?_))); (case side2 => exact HC272_0.out); (case side3 => repeat (first | exact HR273_0.out | (with_reducible refine Kd.C_alloc ?_ _) | (with_reducible refine Kd.C_drewN ?_ _) | (with_reducible refine Kd.C_drew ?_))); (case side4 => exact HC273_0.out); rintro e w' ⟨rfl, ⟨nd, rfl⟩⟩; (try first | exact ⟨rfl, _, World.drewN_drewN _ _ _⟩ | exact ⟨rfl, _, Eq.trans (World.drewN_drewN _ _ _) (congrArg (World.drewN _) (Nat.add_assoc _ _ _))⟩))); try go_wp2_with (first | (go_at_call 27; (with_reducible refine (laws_eqComplex64S.calls _ _ (rd_L11 l0 x5_1) _ _ (rd_L11 l1 x5_1) false _ ?side1 ?side2 ?side3 ?side4 A7.out).mono ?_); (case side1 => repeat (first | exact HR272_0.out | (with_reducible refine Kd.C_alloc ?_ _) | (with_reducible refine Kd.C_drewN ?_ _) | (with_reducible refine Kd.C_drew ?_))); (case side2 => exact HC272_0.out); (case side3 => repeat (first | exact HR273_0.out | (with_reducible refine Kd.C_alloc ?_ _) | (with_reducible refine Kd.C_drewN ?_ _) | (with_reducible refine Kd.C_drew ?_))); (case side4 => exact HC273_0.out); rintro e w' ⟨rfl, ⟨nd, rfl⟩⟩; (try first | exact ⟨rfl, _, World.drewN_drewN _ _ _⟩ | exact ⟨rfl, _, Eq.trans (World.drewN_drewN _ _ _) (congrArg (World.drewN _) (Nat.add_assoc _ _ _))⟩))))
             go_ret
             exact ⟨by first | rfl | (simp; done) | (simp [*]; done), by repeat (first | exact Drawn0.refl _ | apply Drawn0.step)⟩
         · rw [if_neg c6] at H
           exact absurd H (by simp)
       · rw [if_neg c5] at H
         exact absurd H (by simp)
     · rw [if_neg c4] at H
       have c4b0 : decide (x5_1 < (l0.length : Int)) = false := decide_eq_false c4
       clear c4
       obtain rfl := Option.some.inj H
       go_wp2
       repeat (go_quiet (fail); try go_wp2)
       go_ret
       exact ⟨by first | rfl | (simp; done) | (simp [*]; done), by repeat (first | exact Drawn0.refl _ | apply Drawn0.step)⟩
 · rw [if_neg c3] at H
   have c3b0 : ((l0.length : Int) == (l1.length : Int)) = false := beq_eq_false_iff_ne.mpr c3
   have c3b1 : ((l0.length : Int) != (l1.length : Int)) = true := bne_iff_ne.mpr c3
   have c3b2 : (l0.length == l1.length) = false := by first | simpa using c3 | (simp at c3 ⊢; omega)
   obtain rfl := Option.some.inj H
   go_enter Try.func35, Try.ntmps35
   go_wp2
   repeat (go_quiet (fail); try go_wp2)
   go_ret
   exact ⟨by first | rfl | (simp; done) | (simp [*]; done), by repeat (first | exact Drawn0.refl _ | apply Drawn0.step)⟩

/-! ### laws_markComplex64S: function 31 -/
-- emit
def markE.l0 : Nat → List C64 → Int → Int → Option (Int × List C64)
 | 0, _, _, _ => none
 | k + 1, x0, x1, x5 => if x5 < (x0.length : Int) then (if FC 93 94 .f64 .f32 (floatOfInt .f64 x1) = true then (if FC 93 94 .f64 .f32 4607182418800017408 = true then (if 0 ≤ x5 then (markE.l0 k (x0.set (x5 : Int).toNat (⟨fc .f64 .f32 (floatOfInt .f64 x1), fc .f64 .f32 4607182418800017408⟩ : C64)) (wrap64 (x1 + 1)) (wrap64 (x5 + 1))) else (none)) else (none)) else (none)) else (some (x1, x0))
def markE.f (k : Nat) (l0 : List C64) (a1 : Int) : Option (Int × List C64) := markE.l0 k l0 a1 0
set_option maxHeartbeats 8000000 in
set_option maxRecDepth 100000 in
theorem markE.calls (k : Nat) (P0_ : Nat → Prop) (u9000_ : Value) (l0 : List C64) (a1 : Int) (r1 : Int) (r2 : List C64) (w0 w : World) (hB : Below w0.heap.size w0 w) (ho0 : Kd.R Kd.c64e 94 w w0.heap.size P0_ u9000_ l0) (h : markE.f k l0 a1 = some (r1, r2)) :
 Calls Try.prog 31 #[u9000_, .int .i64 a1] w fun e w' => e = .returned (.int .i64 r1) ∧ Kd.R Kd.c64e 94 w' w0.heap.size (fun k_ => (P0_ k_ ∨ w.heap.size ≤ k_)) u9000_ r2 ∧ Below w0.heap.size w0 w' ∧ Kept w w' (fun k_ => P0_ k_) := by
 have hu3 := Try.underlying3
 have hu65 := Try.underlying65
 have HO0 := Aside0.mk (show Kd.R Kd.c64e 94 w w0.heap.size (fun k_ => (P0_ k_ ∨ w.heap.size ≤ k_)) u9000_ l0 from Kd.R_mono ho0 (fun k_ hk => (.inl hk)))
 have HK := Aside0.mk (Kept.refl w (fun k_ => P0_ k_))
 have HW0 := Aside0.mk hB.size
 have HB := Aside0.mk hB
 clear hB
 have H : (markE.l0 k l0 a1 0) = some (r1, r2) := h
 clear h
 have H' := Aside0.mk H
 clear H
 go_enter Try.func31, Try.ntmps31
 go_wp2
 go_loopg [1, 5] k (fun kq v1 v5 w' => ∃ (x0_1 : List C64) (x1_1 : Int) (x5_1 : Int), v1 = .int .i64 x1_1 ∧ v5 = .int .i64 x5_1 ∧ Aside0 (markE.l0 kq x0_1 x1_1 x5_1 = some (r1, r2)) ∧ Aside0 (kq ≤ k) ∧ Aside0 (Kd.R Kd.c64e 94 w' w0.heap.size (fun k_ => (P0_ k_ ∨ w.heap.size ≤ k_)) u9000_ x0_1) ∧ Aside0 (Kept w w' (fun k_ => P0_ k_)) ∧ Aside0 (Below w0.heap.size w0 w'))
 case atStart => exact ⟨(l0), (a1), (0), (by first | rfl | (simp; done) | (simp [*]; done)), (by first | rfl | (simp; done) | (simp [*]; done)), H', ⟨Nat.le_refl _⟩, ⟨by (with_reducible repeat (first | apply Kd.R_alloc | apply Kd.R_drewN | apply Kd.R_drew)); exact HO0.out⟩, ⟨by repeat (first | (with_reducible first | exact HK.out | apply Kept.alloc | apply Kept.drewN | apply Kept.drew) | exact HK.out)⟩, ⟨by repeat (first | (with_reducible first | exact HB.out | apply below_alloc | apply pw_below_drewN | apply below_drew1) | exact HB.out)⟩⟩
 case round =>
  clear H'
  (try clear p2)
  obtain ⟨x0_1, x1_1, x5_1, rfl, rfl, HA, HK1, HO_0, HK, HB⟩ := hrel
  cases gk with
  | zero => exact absurd HA.out (by simp [markE.l0])
  | succ k1 =>
   have H := HA.out
   clear HA
   simp only [markE.l0] at H
   by_cases c3 : x5_1 < (x0_1.length : Int)
   · rw [if_pos c3] at H
     have c3b0 : decide (x5_1 < (x0_1.length : Int)) = true := decide_eq_true c3
     clear c3
     by_cases c4 : FC 93 94 .f64 .f32 (floatOfInt .f64 x1_1) = true
     · rw [if_pos c4] at H
       have c4b0 : FC 93 94 .f64 .f32 (floatOfInt .f64 x1_1) = true := c4
       clear c4
       by_cases c5 : FC 93 94 .f64 .f32 4607182418800017408 = true
       · rw [if_pos c5] at H
         have fe5 := fun w => cfrunc (P := Try.prog) (src := 93) (dst := 94) (by decide) Try.underlying93 Try.underlying94 c4b0 c5 w
         have c5b0 : FC 93 94 .f64 .f32 4607182418800017408 = true := c5
         clear c5
         by_cases c6 : 0 ≤ x5_1
         · rw [if_pos c6] at H
           have c6b0 : decide (0 ≤ x5_1) = true := decide_eq_true c6
           clear c6
           obtain ⟨y292, hy292⟩ : ∃ y_ : List C64, y_ = (x0_1.set (x5_1 : Int).toNat (⟨fc .f64 .f32 (floatOfInt .f64 x1_1), fc .f64 .f32 4607182418800017408⟩ : C64)) := ⟨_, rfl⟩
           replace H : (markE.l0 k1 y292 (wrap64 (x1_1 + 1)) (wrap64 (x5_1 + 1))) = some (r1, r2) := by first | (rw [hy292]; with_reducible exact H) | (have H2_ := (Option.bind_some _ _).symm.trans H; rw [hy292]; with_reducible exact H2_) | (have H2_ := (Option.bind_some _ _).symm.trans H; with_reducible exact H2_) | with_reducible exact H | (rw [hy292]; exact H) | exact H
           have Ny292 := Aside0.mk hy292
           clear hy292
           as_aux_lemma =>
            have H' := Aside0.mk H
            clear H
            obtain ⟨Ao8, co8, eo8⟩ := Kd.R_slice HO_0.out
            subst eo8
            have p7 : 0 ≤ (x5_1 : Int) := of_decide_eq_true (by first | (with_reducible assumption) | assumption)
            have q7 : (x5_1 : Int) < ((x0_1.length : Int) : Int) := of_decide_eq_true (by first | (with_reducible assumption) | assumption)
            obtain ⟨go7, co7, eo7, gb7, gl7, cl7, HG7⟩ := Kd.R_form HO_0.out (by omega)
            (first | cases eo7 | (injection eo7 with ea_ en_ ec_; (first | subst ea_ | (injection ea_ with ea_; subst ea_)); subst ec_; clear en_))
            have GB7 := Aside0.mk gb7
            have GG7 := Aside0.mk HG7
            clear gb7 gl7 HG7
            have HMgo7 := Aside0.mk (show (P0_ go7 ∨ w.heap.size ≤ go7) from (HO_0.out.1 _ rfl))
            obtain ⟨hx7_0, hf7_0⟩ := Kd.R_celln c64z HO_0.out (x5_1 : Int) p7 q7
            replace p7 := eq_true p7
            replace q7 := eq_true q7
            have HP9 := Kd.R_putg HO_0.out (x5_1 : Int) (⟨fc .f64 .f32 (floatOfInt .f64 x1_1), fc .f64 .f32 4607182418800017408⟩ : C64)
            go_wp2_with (first | ((with_reducible refine gate_store (t := 94) (p := 18) rfl ?_); refine store_event (t := 94) (p := 18) (v := ?vo_w10) (w1 := (wr.setCell ⟨go7, (x5_1 : Int).toNat, none⟩ (.complex .f32 (fc .f64 .f32 (floatOfInt .f64 x1_1)) (fc .f64 .f32 4607182418800017408)))) ?hg ?ho ?hn ?hr ?_; (case ho => rfl); (case hg => rfl); (case hn => rfl); (case hr => first | (go_simp; done) | (go_simp; rfl)); intro w10 hw; have hg : wr.grownBy w10 (some go7) := (by rw [hw]; exact HP9.2); have hp_ : Kd.R Kd.c64e 94 w10 w0.heap.size (fun k_ => (P0_ k_ ∨ w.heap.size ≤ k_)) (.slice (some ⟨go7, 0, none⟩) x0_1.length co8) y292 := (by rw [hw, Ny292.out]; exact HP9.1); clear HP9; have n0_ := Aside0.mk (hp_); have n1_ := Aside0.mk ((by rw [hw]; exact below_set (HB.out) GB7.out : Below w0.heap.size w0 w10)); have n2_ := Aside0.mk (Kept.of_grown (S := (fun k_ => P0_ k_)) hg (by repeat (first | (with_reducible first | exact HK.out | apply Kept.alloc | apply Kept.drewN | apply Kept.drew) | exact HK.out)) (fun k_ e_ => (HO_0.out.1 k_ e_))); clear HO_0; clear HB; clear HK; have HO_0 := n0_; have HB := n1_; have HK := n2_; clear n0_ n1_ n2_; clear hg hw hp_))
            go_roundg k1
            case measure => have := HK1.out; omega
            case rel => exact ⟨(y292), (wrap64 (x1_1 + 1)), (wrap64 (x5_1 + 1)), (by first | rfl | (simp; done) | (simp [*]; done)), (by first | rfl | (simp; done) | (simp [*]; done)), H', ⟨by have := HK1.out; omega⟩, ⟨by (with_reducible repeat (first | apply Kd.R_alloc | apply Kd.R_drewN | apply Kd.R_drew)); exact HO_0.out⟩, ⟨by repeat (first | (with_reducible first | exact HK.out | apply Kept.alloc | apply Kept.drewN | apply Kept.drew) | exact HK.out)⟩, ⟨by repeat (first | (with_reducible first | exact HB.out | apply below_alloc | apply pw_below_drewN | apply below_drew1) | exact HB.out)⟩⟩
         · rw [if_neg c6] at H
           exact absurd H (by simp)
       · rw [if_neg c5] at H
         exact absurd H (by simp)
     · rw [if_neg c4] at H
       exact absurd H (by simp)
   · rw [if_neg c3] at H
     have c3b0 : decide (x5_1 < (x0_1.length : Int)) = false := decide_eq_false c3
     clear c3
     as_aux_lemma =>
      simp only [Option.some.injEq, Prod.mk.injEq] at H
      obtain ⟨rfl, rfl⟩ := H
      obtain ⟨Ao11, co11, eo11⟩ := Kd.R_slice HO_0.out
      subst eo11
      go_wp2
      go_ret
      exact ⟨by first | rfl | (simp [errW_none, errW_some] <;> rfl) | (simp [*, errW_none, errW_some] <;> rfl), by (with_reducible repeat (first | apply Kd.R_alloc | apply Kd.R_drewN | apply Kd.R_drew)); exact HO_0.out, by repeat (first | (with_reducible first | exact HB.out | apply below_alloc | apply pw_below_drewN | apply below_drew1) | exact HB.out), by repeat (first | (with_reducible first | exact HK.out | apply Kept.alloc | apply Kept.drewN | apply Kept.drew) | exact HK.out)⟩


theorem markE_same : ∀ (k : Nat) (z l : List C64) (a i r : Int) (l' : List C64), SameL z l → markE.l0 k l a i = some (r, l') → ∃ z', markE.l0 k z a i = some (r, z') ∧ SameL z' l'
 | 0, _, _, _, _, _, _, _, h => by simp [markE.l0] at h
 | k + 1, z, l, a, i, r, l', hs, h => by
  simp only [markE.l0] at h ⊢
  rw [hs.1]
  by_cases h1 : i < (l.length : Int)
  · rw [if_pos h1] at h ⊢
    by_cases h2 : FC 93 94 .f64 .f32 (floatOfInt .f64 a) = true
    · rw [if_pos h2] at h ⊢
      by_cases h3 : FC 93 94 .f64 .f32 4607182418800017408 = true
      · rw [if_pos h3] at h ⊢
        by_cases h4 : 0 ≤ i
        · rw [if_pos h4] at h ⊢
          exact markE_same k _ _ _ _ _ _ (hs.set _ (.refl _)) h
        · rw [if_neg h4] at h; cases h
      · rw [if_neg h3] at h; cases h
    · rw [if_neg h2] at h; cases h
  · rw [if_neg h1] at h ⊢
    simp only [Option.some.injEq, Prod.mk.injEq] at h
    obtain ⟨rfl, rfl⟩ := h
    exact ⟨z, rfl, hs⟩
def laws_markComplex64S.f (k : Nat) (l0 : List C64) (a1 : Int) : Option (Int × (List C64)) := markE.f k l0 a1
theorem laws_markComplex64S.calls (k : Nat) (P0_ : Nat → Prop) (u9000_ : Value) (l0 : List C64) (a1 : Int) (r1 : Int) (r2 : List C64) (w0 w : World) (hB : Below w0.heap.size w0 w) (ho0 : Kd.R Kd.c64 94 w w0.heap.size P0_ u9000_ l0) (h : laws_markComplex64S.f k l0 a1 = some (r1, r2)) :
 Calls Try.prog 31 #[u9000_, .int .i64 a1] w fun e w' => e = .returned (.int .i64 r1) ∧ Kd.R Kd.c64 94 w' w0.heap.size (fun k_ => (P0_ k_ ∨ w.heap.size ≤ k_)) u9000_ r2 ∧ Below w0.heap.size w0 w' ∧ Kept w w' (fun k_ => P0_ k_) := by
 obtain ⟨z, hz, ho⟩ := Kd.c64_R_to ho0
 obtain ⟨z', hz', hs'⟩ := markE_same k z l0 a1 0 r1 r2 hz h
 refine (markE.calls k P0_ u9000_ z a1 r1 z' w0 w hB ho hz').mono ?_
 rintro e w' ⟨h1, h2, h3, h4⟩
 exact ⟨h1, Kd.c64_R_of hs' h2, h3, h4⟩

/-! ### laws_markComplex64SS: function 36 -/
-- rounds
-- own 0
def laws_markComplex64SS.l0 : Nat → List (List C64) → Int → Int → Option (Int × List (List C64))
 | 0, _, _, _ => none
 | k + 1, x0, x1, x5 => if x5 < (x0.length : Int) then (if 0 ≤ x5 then ((laws_markComplex64S.f k (rd_L11 x0 x5) x1).bind fun bt6 => (laws_markComplex64SS.l0 k (x0.set (x5 : Int).toNat bt6.2) bt6.1 (wrap64 (x5 + 1)))) else (none)) else (some (x1, x0))
def laws_markComplex64SS.f (k : Nat) (l0 : List (List C64)) (a1 : Int) : Option (Int × List (List C64)) := laws_markComplex64SS.l0 k l0 a1 0
/-- Two rows that were made one behind the other: their blocks are parted by a number. -/
theorem parted {α β : Type} {d : Kd α} {d' : Kd β} {e e' : Nat} {W w1 : World} {base : Nat} {ok ok' : Nat → Prop} {u v : Value} {xs : List α} {ys : List β} (hb : Below W.heap.size W w1) (h : Kd.S d e W base ok u xs) (h' : Kd.S d' e' w1 W.heap.size ok' v ys) :
 ∃ M : Nat, Kd.S d e w1 base (fun k_ => some k_ ≠ v.ownBlock ∧ k_ < M) u xs ∧ Kd.S d' e' w1 W.heap.size (fun k_ => some k_ ≠ u.ownBlock ∧ M ≤ k_) v ys :=
 ⟨W.heap.size, Kd.S_mono (Kd.S_old h hb) (fun k hk => ⟨fun he => by have := Kd.S_base h' k he.symm; have := hk.2; omega, hk.2⟩),
  Kd.S_mono (Kd.S_bound h') (fun k hk => ⟨fun he => by have := Kd.S_lt h k he.symm; have := hk.2.1; omega, hk.2.1⟩)⟩
/-- A lent row of complex numbers, written and put back. -/
theorem lent_back {W w1 : World} {b : Nat} {ok oki : Nat → Prop} {v u : Value} {xs : List (List C64)} {i : Int} {y : List C64} (hH : Kd.H (Kd.slice 94 Kd.c64) 45 W b ok v xs i oki [u]) (hkp : Kept W w1 (fun k_ => oki k_)) (hy : Kd.R Kd.c64 94 w1 b (fun k_ => (oki k_ ∨ W.heap.size ≤ k_)) u y) (hok : ∀ k, W.heap.size ≤ k → ok k) :
 Kd.S (Kd.slice 94 Kd.c64) 45 w1 b ok v (xs.set i.toNat y) := by
 have h1 := Kd.H_kept (Kd.H_widen hH) hkp (fun k _ hn hs => hn (.inl hs))
 have h2 : (Kd.slice 94 Kd.c64).M w1 b (fun k_ => (oki k_ ∨ W.heap.size ≤ k_)) y [u] := ⟨u, rfl, hy⟩
 exact Kd.H_back h1 h2 (fun k hk => hk.elim .inl (fun h => .inr ⟨hok k h, h⟩))
set_option maxHeartbeats 8000000 in
set_option maxRecDepth 100000 in
theorem laws_markComplex64SS.calls (k : Nat) (P0_ : Nat → Prop) (u9000_ : Value) (l0 : List (List C64)) (a1 : Int) (r1 : Int) (r2 : List (List C64)) (w0 w : World) (hB : Below w0.heap.size w0 w) (ho0 : Kd.S (Kd.slice 94 Kd.c64) 45 w w0.heap.size P0_ u9000_ l0) (h : laws_markComplex64SS.f k l0 a1 = some (r1, r2)) :
 Calls Try.prog 36 #[u9000_, .int .i64 a1] w fun e w' => e = .returned (.int .i64 r1) ∧ Kd.S (Kd.slice 94 Kd.c64) 45 w' w0.heap.size (fun k_ => (P0_ k_ ∨ w.heap.size ≤ k_)) u9000_ r2 ∧ Below w0.heap.size w0 w' ∧ Kept w w' (fun k_ => P0_ k_) := by
 have HO0 := Aside0.mk (show Kd.S (Kd.slice 94 Kd.c64) 45 w w0.heap.size (fun k_ => (P0_ k_ ∨ w.heap.size ≤ k_)) u9000_ l0 from Kd.S_mono ho0 (fun k_ hk => (.inl hk)))
 clear ho0
 have HK := Aside0.mk (Kept.refl w (fun k_ => P0_ k_))
 have HW0 := Aside0.mk hB.size
 have HB := Aside0.mk hB
 clear hB
 have H : (laws_markComplex64SS.l0 k l0 a1 0) = some (r1, r2) := h
 clear h
 have H' := Aside0.mk H
 clear H
 go_enter Try.func36, Try.ntmps36
 go_wp2
 go_loopg [1, 5] k (fun kq v1 v5 w' => ∃ (x0_1 : List (List C64)) (x1_1 : Int) (x5_1 : Int), v1 = .int .i64 x1_1 ∧ v5 = .int .i64 x5_1 ∧ Aside0 (laws_markComplex64SS.l0 kq x0_1 x1_1 x5_1 = some (r1, r2)) ∧ Aside0 (kq ≤ k) ∧ Aside0 (Kd.S (Kd.slice 94 Kd.c64) 45 w' w0.heap.size (fun k_ => (P0_ k_ ∨ w.heap.size ≤ k_)) u9000_ x0_1) ∧ Aside0 (Kept w w' (fun k_ => P0_ k_)) ∧ Aside0 (Below w0.heap.size w0 w'))
 case atStart => exact ⟨(l0), (a1), (0), (by first | rfl | (simp; done) | (simp [*]; done)), (by first | rfl | (simp; done) | (simp [*]; done)), H', ⟨Nat.le_refl _⟩, ⟨by (with_reducible repeat (first | apply Kd.S_alloc | apply Kd.S_drewN | apply Kd.S_drew)); exact HO0.out⟩, ⟨by repeat (first | (with_reducible first | exact HK.out | apply Kept.alloc | apply Kept.drewN | apply Kept.drew) | exact HK.out)⟩, ⟨by repeat (first | (with_reducible first | exact HB.out | apply below_alloc | apply pw_below_drewN | apply below_drew1) | exact HB.out)⟩⟩
 case round =>
  clear H'
  (try clear p2)
  obtain ⟨x0_1, x1_1, x5_1, rfl, rfl, HA, HK1, HO_0, HK, HB⟩ := hrel
  cases gk with
  | zero => exact absurd HA.out (by simp [laws_markComplex64SS.l0])
  | succ k1 =>
   have H := HA.out
   clear HA
   simp only [laws_markComplex64SS.l0] at H
   by_cases c3 : x5_1 < (x0_1.length : Int)
   · rw [if_pos c3] at H
     have c3b0 : decide (x5_1 < (x0_1.length : Int)) = true := decide_eq_true c3
     clear c3
     by_cases c6 : 0 ≤ x5_1
     · rw [if_pos c6] at H
       have c6b0 : decide (0 ≤ x5_1) = true := decide_eq_true c6
       clear c6
       replace H := Option.bind_eq_some_iff.mp H
       obtain ⟨⟨t6, t7⟩, A50, H⟩ := H
       replace H : (laws_markComplex64SS.l0 k1 (x0_1.set (x5_1 : Int).toNat t7) t6 (wrap64 (x5_1 + 1))) = some (r1, r2) := H
       have A5 := Aside0.mk A50
       clear A50
       have H' := Aside0.mk H
       clear H
       have p7 : 0 ≤ (x5_1 : Int) := of_decide_eq_true (by first | (with_reducible assumption) | assumption)
       have q7 : (x5_1 : Int) < ((x0_1.length : Int) : Int) := of_decide_eq_true (by first | (with_reducible assumption) | assumption)
       obtain ⟨go7, co7, eo7, gb7, gl7, cl7, HG7⟩ := Kd.S_form HO_0.out (by omega)
       subst eo7
       clear gb7 gl7 HG7
       obtain ⟨oki, ci, hcl, hM, hcc, hoki, hH⟩ := Kd.S_lend HO_0.out ([] : List C64) (x5_1 : Int) p7 q7
       obtain ⟨ui, rfl, hui⟩ := hM
       have hx7_0 : wr.cell? ⟨go7, x5_1.toNat * 1 + 0, none⟩ = some ui := hcc 0 ui rfl
       rw [Nat.mul_one, Nat.add_zero] at hx7_0
       obtain ⟨Ai, c7, rfl⟩ := Kd.R_slice hui
       have HI := Aside0.mk (show Kd.R Kd.c64 94 wr w0.heap.size oki (.slice Ai (rd_L11 x0_1 x5_1).length c7) (rd_L11 x0_1 x5_1) from hui)
       replace hx7_0 : wr.cell? ⟨go7, x5_1.toNat, none⟩ = some (.slice Ai (rd_L11 x0_1 x5_1).length c7) := hx7_0
       have HHo := Aside0.mk (show Kd.H (Kd.slice 94 Kd.c64) 45 wr w0.heap.size (fun k_ => (P0_ k_ ∨ w.heap.size ≤ k_)) (.slice (some ⟨go7, 0, none⟩) x0_1.length co7) x0_1 x5_1 oki [.slice Ai (rd_L11 x0_1 x5_1).length c7] from hH)
       have HOk := Aside0.mk hoki
       clear hui hcc hH hoki hcl
       replace p7 := eq_true p7
       replace q7 := eq_true q7
       go_wp2_with (first | ((with_reducible refine gate_callee (f := 31) rfl ?_); refine goesL_ (some 17) rfl rfl Try.func31 (by kernel_rfl) rfl #[.slice Ai (rd_L11 x0_1 x5_1).length c7, .int .i64 x1_1] rfl (by (try simp only [List.map_toArray, List.map_cons, List.map_nil]); first | done | rfl | (simp only [List.length_drop, List.length_take]; rfl)) ?_; (with_reducible refine (laws_markComplex64S.calls k1 oki (.slice Ai (rd_L11 x0_1 x5_1).length c7) (rd_L11 x0_1 x5_1) x1_1 t6 t7 w0 _ ?side1 ?side2 A5.out).mono ?_); (case side1 => repeat (first | (with_reducible first | exact HB.out | apply below_alloc | apply pw_below_drewN | apply below_drew1) | exact HB.out)); (case side2 => (with_reducible repeat (first | apply Kd.R_alloc | apply Kd.R_drewN | apply Kd.R_drew)); exact HI.out); rintro e w10 ⟨rfl, hy0, hb, hkp⟩; refine ⟨_, rfl, ?_⟩; have n0_ := Aside0.mk (lent_back (ok := fun k_ => (P0_ k_ ∨ w.heap.size ≤ k_)) (by (with_reducible repeat (first | apply Kd.H_alloc | apply Kd.H_drewN | apply Kd.H_drew)); exact HHo.out) hkp hy0 (fun k h => Or.inr (Nat.le_trans HK.out.1 h))); have n1_ := Aside0.mk hb; have n2_ := Aside0.mk (Kept.then_ (S := (fun k_ => P0_ k_)) (by repeat (first | (with_reducible first | exact HK.out | apply Kept.alloc | apply Kept.drewN | apply Kept.drew) | exact HK.out)) hkp (fun k_ hs_ => (HOk.out k_ hs_).1)); clear HO_0; clear HB; clear HK; clear HHo; clear HI; have HO_0 := n0_; have HB := n1_; have HK := n2_; clear n0_ n1_ n2_; (try clear hb); (try clear hkp); (try clear hy0)))
       go_roundg k1
       case measure => have := HK1.out; omega
       case rel => exact ⟨_, t6, (wrap64 (x5_1 + 1)), (by first | rfl | (simp; done) | (simp [*]; done)), (by first | rfl | (simp; done) | (simp [*]; done)), H', ⟨by have := HK1.out; omega⟩, ⟨by (with_reducible repeat (first | apply Kd.S_alloc | apply Kd.S_drewN | apply Kd.S_drew)); exact HO_0.out⟩, ⟨by repeat (first | (with_reducible first | exact HK.out | apply Kept.alloc | apply Kept.drewN | apply Kept.drew) | exact HK.out)⟩, ⟨by repeat (first | (with_reducible first | exact HB.out | apply below_alloc | apply pw_below_drewN | apply below_drew1) | exact HB.out)⟩⟩
     · rw [if_neg c6] at H
       exact absurd H (by simp)
   · rw [if_neg c3] at H
     have c3b0 : decide (x5_1 < (x0_1.length : Int)) = false := decide_eq_false c3
     clear c3
     simp only [Option.some.injEq, Prod.mk.injEq] at H
     obtain ⟨rfl, rfl⟩ := H
     obtain ⟨Ao11, co11, eo11⟩ := Kd.S_slice HO_0.out
     subst eo11
     go_wp2
     go_ret
     exact ⟨by first | rfl | (simp [errW_none, errW_some] <;> rfl) | (simp [*, errW_none, errW_some] <;> rfl), by (with_reducible repeat (first | apply Kd.S_alloc | apply Kd.S_drewN | apply Kd.S_drew)); exact HO_0.out, by repeat (first | (with_reducible first | exact HB.out | apply below_alloc | apply pw_below_drewN | apply below_drew1) | exact HB.out), by repeat (first | (with_reducible first | exact HK.out | apply Kept.alloc | apply Kept.drewN | apply Kept.drew) | exact HK.out)⟩

/-! ### laws_heldComplex64S: function 32 -/
-- emit
def heldE.l0 : Nat → List C64 → Int → Int → Option (Int)
 | 0, _, _, _ => none
 | k + 1, x0, x1, x5 => if x5 < (x0.length : Int) then (if 0 ≤ x5 then (if FC 93 94 .f64 .f32 (floatOfInt .f64 x1) = true then (if FC 93 94 .f64 .f32 4607182418800017408 = true then (if ((FloatKind.f32.format.order ((rdOf c64z x0 x5).re) (fc .f64 .f32 (floatOfInt .f64 x1)) == some .eq) && (FloatKind.f32.format.order ((rdOf c64z x0 x5).im) (fc .f64 .f32 4607182418800017408) == some .eq)) = true then (heldE.l0 k x0 (wrap64 (x1 + 1)) (wrap64 (x5 + 1))) else (some (-1))) else (none)) else (none)) else (none)) else (some x1)
def heldE.f (k : Nat) (l0 : List C64) (a1 : Int) : Option (Int) := heldE.l0 k l0 a1 0
set_option maxHeartbeats 8000000 in
set_option maxRecDepth 100000 in
theorem heldE.calls (k : Nat) (A0 : Option Addr) (c0 : Nat) (l0 : List C64) (a1 : Int) (r : Int) (w : World) (hr0 : Kd.C Kd.c64e w A0 l0.length l0) (hc0 : l0.length ≤ c0) (h : heldE.f k l0 a1 = some r) :
 Calls Try.prog 32 #[.slice A0 l0.length c0, .int .i64 a1] w fun e w' => e = .returned (.int .i64 r) ∧ Below w.heap.size w w' := by
 have hu3 := Try.underlying3
 have hu65 := Try.underlying65
 have HR0 := Aside0.mk hr0
 have HC0 := Aside0.mk hc0
 clear hr0 hc0
 have HB := Aside0.mk (Below.refl w.heap.size w)
 have H : (heldE.l0 k l0 a1 0) = some r := h
 clear h
 have H' := Aside0.mk H
 clear H
 go_enter Try.func32, Try.ntmps32
 go_wp2
 go_loopg [1, 5] k (fun kq v1 v5 w' => ∃ (x1_1 : Int) (x5_1 : Int), v1 = .int .i64 x1_1 ∧ v5 = .int .i64 x5_1 ∧ Aside0 (heldE.l0 kq l0 x1_1 x5_1 = some r) ∧ Aside0 (kq ≤ k) ∧ Aside0 (Below w.heap.size w w'))
 case atStart => exact ⟨(a1), (0), (by first | rfl | (simp; done) | (simp [*]; done)), (by first | rfl | (simp; done) | (simp [*]; done)), H', ⟨Nat.le_refl _⟩, ⟨by repeat (first | (with_reducible first | exact HB.out | apply below_alloc | apply pw_below_drewN | apply below_drew1) | exact HB.out)⟩⟩
 case round =>
  clear H'
  (try clear p2)
  obtain ⟨x1_1, x5_1, rfl, rfl, HA, HK1, HB⟩ := hrel
  cases gk with
  | zero => exact absurd HA.out (by simp [heldE.l0])
  | succ k1 =>
   have H := HA.out
   clear HA
   simp only [heldE.l0] at H
   by_cases c3 : x5_1 < (l0.length : Int)
   · rw [if_pos c3] at H
     have c3b0 : decide (x5_1 < (l0.length : Int)) = true := decide_eq_true c3
     clear c3
     by_cases c4 : 0 ≤ x5_1
     · rw [if_pos c4] at H
       have c4b0 : decide (0 ≤ x5_1) = true := decide_eq_true c4
       clear c4
       by_cases c5 : FC 93 94 .f64 .f32 (floatOfInt .f64 x1_1) = true
       · rw [if_pos c5] at H
         have c5b0 : FC 93 94 .f64 .f32 (floatOfInt .f64 x1_1) = true := c5
         clear c5
         by_cases c6 : FC 93 94 .f64 .f32 4607182418800017408 = true
         · rw [if_pos c6] at H
           have fe6 := fun w => cfrunc (P := Try.prog) (src := 93) (dst := 94) (by decide) Try.underlying93 Try.underlying94 c5b0 c6 w
           have c6b0 : FC 93 94 .f64 .f32 4607182418800017408 = true := c6
           clear c6
           by_cases c7 : ((FloatKind.f32.format.order ((rdOf c64z l0 x5_1).re) (fc .f64 .f32 (floatOfInt .f64 x1_1)) == some .eq) && (FloatKind.f32.format.order ((rdOf c64z l0 x5_1).im) (fc .f64 .f32 4607182418800017408) == some .eq)) = true
           · rw [if_pos c7] at H
             have c7b0 : ((FloatKind.f32.format.order ((rdOf c64z l0 x5_1).re) (fc .f64 .f32 (floatOfInt .f64 x1_1)) == some .eq) && (FloatKind.f32.format.order ((rdOf c64z l0 x5_1).im) (fc .f64 .f32 4607182418800017408) == some .eq)) = true := c7
             clear c7
             as_aux_lemma =>
              have H' := Aside0.mk H
              clear H
              have p293 : 0 ≤ (x5_1 : Int) := of_decide_eq_true (by first | (with_reducible assumption) | assumption)
              have q293 : x5_1 < (l0.length : Int) := of_decide_eq_true (by first | (with_reducible assumption) | assumption)
              obtain ⟨ad293, e293, hx293_0⟩ := Kd.at_c64e HR0.out x5_1 p293 q293
              cases e293
              replace hx293_0 := (HB.out.cell (World.block_lt_of_cell? w _ hx293_0)).trans hx293_0
              replace p293 := eq_true p293
              replace q293 := eq_true q293
              go_wp2
              go_roundg k1
              case measure => have := HK1.out; omega
              case rel => exact ⟨(wrap64 (x1_1 + 1)), (wrap64 (x5_1 + 1)), (by first | rfl | (simp; done) | (simp [*]; done)), (by first | rfl | (simp; done) | (simp [*]; done)), H', ⟨by have := HK1.out; omega⟩, ⟨by repeat (first | (with_reducible first | exact HB.out | apply below_alloc | apply pw_below_drewN | apply below_drew1) | exact HB.out)⟩⟩
           · rw [if_neg c7] at H
             have c7b0 : ((FloatKind.f32.format.order ((rdOf c64z l0 x5_1).re) (fc .f64 .f32 (floatOfInt .f64 x1_1)) == some .eq) && (FloatKind.f32.format.order ((rdOf c64z l0 x5_1).im) (fc .f64 .f32 4607182418800017408) == some .eq)) = false := by simpa using c7
             clear c7
             as_aux_lemma =>
              obtain rfl := Option.some.inj H
              have p293 : 0 ≤ (x5_1 : Int) := of_decide_eq_true (by first | (with_reducible assumption) | assumption)
              have q293 : x5_1 < (l0.length : Int) := of_decide_eq_true (by first | (with_reducible assumption) | assumption)
              obtain ⟨ad293, e293, hx293_0⟩ := Kd.at_c64e HR0.out x5_1 p293 q293
              cases e293
              replace hx293_0 := (HB.out.cell (World.block_lt_of_cell? w _ hx293_0)).trans hx293_0
              replace p293 := eq_true p293
              replace q293 := eq_true q293
              go_wp2
              go_ret
              exact ⟨by first | rfl | (simp [errW_none, errW_some] <;> rfl) | (simp [*, errW_none, errW_some] <;> rfl), by repeat (first | (with_reducible first | exact HB.out | apply below_alloc | apply pw_below_drewN | apply below_drew1) | exact HB.out)⟩
         · rw [if_neg c6] at H
           exact absurd H (by simp)
       · rw [if_neg c5] at H
         exact absurd H (by simp)
     · rw [if_neg c4] at H
       exact absurd H (by simp)
   · rw [if_neg c3] at H
     have c3b0 : decide (x5_1 < (l0.length : Int)) = false := decide_eq_false c3
     clear c3
     as_aux_lemma =>
      obtain rfl := Option.some.inj H
      go_wp2
      go_ret
      exact ⟨by first | rfl | (simp [errW_none, errW_some] <;> rfl) | (simp [*, errW_none, errW_some] <;> rfl), by repeat (first | (with_reducible first | exact HB.out | apply below_alloc | apply pw_below_drewN | apply below_drew1) | exact HB.out)⟩


theorem heldE_same : ∀ (k : Nat) (z l : List C64) (a i : Int), SameL z l → heldE.l0 k z a i = heldE.l0 k l a i
 | 0, _, _, _, _, _ => rfl
 | k + 1, z, l, a, i, hs => by
  simp only [heldE.l0]
  rw [hs.1, order_same _ (hs.rd i).1, order_same _ (hs.rd i).2]
  simp only [heldE_same k z l _ _ hs]
def laws_heldComplex64S.f (k : Nat) (l0 : List C64) (a1 : Int) : Option (Int) := heldE.f k l0 a1
theorem laws_heldComplex64S.calls (k : Nat) (A0 : Option Addr) (c0 : Nat) (l0 : List C64) (a1 : Int) (r : Int) (w : World) (hr0 : Kd.C Kd.c64 w A0 l0.length l0) (hc0 : l0.length ≤ c0) (h : laws_heldComplex64S.f k l0 a1 = some r) :
 Calls Try.prog 32 #[.slice A0 l0.length c0, .int .i64 a1] w fun e w' => e = .returned (.int .i64 r) ∧ Below w.heap.size w w' := by
 obtain ⟨z, hz, hr⟩ := Kd.c64_C_to hr0
 rw [← hz.1] at hr hc0 ⊢
 exact heldE.calls k A0 c0 z a1 r w hr hc0 ((heldE_same k z l0 a1 0 hz).trans h)

/-! ### laws_heldComplex64SS: function 37 -/
def laws_heldComplex64SS.l0 : Nat → List (List C64) → Int → Int → Option (Int)
 | 0, _, _, _ => none
 | k + 1, x0, x1, x5 => if x5 < (x0.length : Int) then (if 0 ≤ x5 then ((laws_heldComplex64S.f k (rd_L11 x0 x5) x1).bind fun t278 => (if t278 < 0 then (some (-1)) else (laws_heldComplex64SS.l0 k x0 t278 (wrap64 (x5 + 1))))) else (none)) else (some x1)
def laws_heldComplex64SS.f (k : Nat) (l0 : List (List C64)) (a1 : Int) : Option (Int) := laws_heldComplex64SS.l0 k l0 a1 0
set_option maxHeartbeats 8000000 in
set_option maxRecDepth 100000 in
theorem laws_heldComplex64SS.calls (k : Nat) (A0 : Option Addr) (c0 : Nat) (l0 : List (List C64)) (a1 : Int) (r : Int) (w : World) (hr0 : Kd.C (Kd.slice 94 Kd.c64) w A0 l0.length l0) (hc0 : l0.length ≤ c0) (h : laws_heldComplex64SS.f k l0 a1 = some r) :
 Calls Try.prog 37 #[.slice A0 l0.length c0, .int .i64 a1] w fun e w' => e = .returned (.int .i64 r) ∧ Below w.heap.size w w' := by
 have HR0 := Aside0.mk hr0
 have HC0 := Aside0.mk hc0
 clear hr0 hc0
 have HB := Aside0.mk (Below.refl w.heap.size w)
 have H : (laws_heldComplex64SS.l0 k l0 a1 0) = some r := h
 clear h
 have H' := Aside0.mk H
 clear H
 go_enter Try.func37, Try.ntmps37
 go_wp2
 go_loopg [1, 5] k (fun kq v1 v5 w' => ∃ (x1_1 : Int) (x5_1 : Int), v1 = .int .i64 x1_1 ∧ v5 = .int .i64 x5_1 ∧ Aside0 (laws_heldComplex64SS.l0 kq l0 x1_1 x5_1 = some r) ∧ Aside0 (kq ≤ k) ∧ Aside0 (Below w.heap.size w w'))
 case atStart => exact ⟨(a1), (0), (by first | rfl | (simp; done) | (simp [*]; done)), (by first | rfl | (simp; done) | (simp [*]; done)), H', ⟨Nat.le_refl _⟩, ⟨by repeat (first | (with_reducible first | exact HB.out | apply below_alloc | apply pw_below_drewN | apply below_drew1) | exact HB.out)⟩⟩
 case round =>
  clear H'
  (try clear p2)
  obtain ⟨x1_1, x5_1, rfl, rfl, HA, HK1, HB⟩ := hrel
  cases gk with
  | zero => exact absurd HA.out (by simp [laws_heldComplex64SS.l0])
  | succ k1 =>
   have H := HA.out
   clear HA
   simp only [laws_heldComplex64SS.l0] at H
   by_cases c3 : x5_1 < (l0.length : Int)
   · rw [if_pos c3] at H
     have c3b0 : decide (x5_1 < (l0.length : Int)) = true := decide_eq_true c3
     clear c3
     by_cases c4 : 0 ≤ x5_1
     · rw [if_pos c4] at H
       have c4b0 : decide (0 ≤ x5_1) = true := decide_eq_true c4
       clear c4
       replace H := Option.bind_eq_some_iff.mp H
       obtain ⟨t278, A50, H⟩ := H
       replace H : (if t278 < 0 then (some (-1)) else (laws_heldComplex64SS.l0 k1 l0 t278 (wrap64 (x5_1 + 1)))) = some r := H
       have A5 := Aside0.mk A50
       clear A50
       by_cases c6 : t278 < 0
       · rw [if_pos c6] at H
         have c6b0 : decide (t278 < 0) = true := decide_eq_true c6
         clear c6
         obtain rfl := Option.some.inj H
         have p277 : 0 ≤ (x5_1 : Int) := of_decide_eq_true (by first | (with_reducible assumption) | assumption)
         have q277 : x5_1 < (l0.length : Int) := of_decide_eq_true (by first | (with_reducible assumption) | assumption)
         obtain ⟨ad277, A277_0, c277_0, e277, hx277_0, hl277_0, hi277_0⟩ := at_L11 HR0.out x5_1 p277 q277
         cases e277
         replace hx277_0 := (HB.out.cell (World.block_lt_of_cell? w _ hx277_0)).trans hx277_0
         have HR277_0 := Aside0.mk hi277_0
         have HC277_0 := Aside0.mk hl277_0
         clear hi277_0 hl277_0
         replace p277 := eq_true p277
         replace q277 := eq_true q277
         go_wp2_with (first | ((with_reducible refine gate_callee (f := 32) rfl ?_); refine goesL_ (some 17) rfl rfl Try.func32 (by kernel_rfl) rfl #[.slice A277_0 (rd_L11 l0 x5_1).length c277_0, .int .i64 x1_1] rfl (by (try simp only [List.map_toArray, List.map_cons, List.map_nil]); first | done | rfl | (simp only [List.length_drop, List.length_take]; rfl)) ?_; (with_reducible refine (laws_heldComplex64S.calls k1 _ _ (rd_L11 l0 x5_1) x1_1 t278 _ ?side1 ?side2 A5.out).mono ?_); (case side1 => repeat (first | exact (Kd.C_below HR277_0.out HB.out) | (with_reducible refine Kd.C_alloc ?_ _) | (with_reducible refine Kd.C_drewN ?_ _) | (with_reducible refine Kd.C_drew ?_))); (case side2 => exact HC277_0.out); rintro e w7 ⟨rfl, hb⟩; refine ⟨_, rfl, ?_⟩; have n0_ := Aside0.mk (below_step (by repeat (first | (with_reducible first | exact HB.out | apply below_alloc | apply pw_below_drewN | apply below_drew1) | exact HB.out)) hb); clear HB; have HB := n0_; clear n0_; (try clear hb); (try clear hb2); (try clear hk); (try clear hi)))
         go_ret
         exact ⟨by first | rfl | (simp [errW_none, errW_some] <;> rfl) | (simp [*, errW_none, errW_some] <;> rfl), by repeat (first | (with_reducible first | exact HB.out | apply below_alloc | apply pw_below_drewN | apply below_drew1) | exact HB.out)⟩
       · rw [if_neg c6] at H
         have c6b0 : decide (t278 < 0) = false := decide_eq_false c6
         clear c6
         have H' := Aside0.mk H
         clear H
         have p277 : 0 ≤ (x5_1 : Int) := of_decide_eq_true (by first | (with_reducible assumption) | assumption)
         have q277 : x5_1 < (l0.length : Int) := of_decide_eq_true (by first | (with_reducible assumption) | assumption)
         obtain ⟨ad277, A277_0, c277_0, e277, hx277_0, hl277_0, hi277_0⟩ := at_L11 HR0.out x5_1 p277 q277
         cases e277
         replace hx277_0 := (HB.out.cell (World.block_lt_of_cell? w _ hx277_0)).trans hx277_0
         have HR277_0 := Aside0.mk hi277_0
         have HC277_0 := Aside0.mk hl277_0
         clear hi277_0 hl277_0
         replace p277 := eq_true p277
         replace q277 := eq_true q277
         go_wp2_with (first | ((with_reducible refine gate_callee (f := 32) rfl ?_); refine goesL_ (some 17) rfl rfl Try.func32 (by kernel_rfl) rfl #[.slice A277_0 (rd_L11 l0 x5_1).length c277_0, .int .i64 x1_1] rfl (by (try simp only [List.map_toArray, List.map_cons, List.map_nil]); first | done | rfl | (simp only [List.length_drop, List.length_take]; rfl)) ?_; (with_reducible refine (laws_heldComplex64S.calls k1 _ _ (rd_L11 l0 x5_1) x1_1 t278 _ ?side1 ?side2 A5.out).mono ?_); (case side1 => repeat (first | exact (Kd.C_below HR277_0.out HB.out) | (with_reducible refine Kd.C_alloc ?_ _) | (with_reducible refine Kd.C_drewN ?_ _) | (with_reducible refine Kd.C_drew ?_))); (case side2 => exact HC277_0.out); rintro e w8 ⟨rfl, hb⟩; refine ⟨_, rfl, ?_⟩; have n0_ := Aside0.mk (below_step (by repeat (first | (with_reducible first | exact HB.out | apply below_alloc | apply pw_below_drewN | apply below_drew1) | exact HB.out)) hb); clear HB; have HB := n0_; clear n0_; (try clear hb); (try clear hb2); (try clear hk); (try clear hi)))
         go_roundg k1
         case measure => have := HK1.out; omega
         case rel => exact ⟨(t278), (wrap64 (x5_1 + 1)), (by first | rfl | (simp; done) | (simp [*]; done)), (by first | rfl | (simp; done) | (simp [*]; done)), H', ⟨by have := HK1.out; omega⟩, ⟨by repeat (first | (with_reducible first | exact HB.out | apply below_alloc | apply pw_below_drewN | apply below_drew1) | exact HB.out)⟩⟩
     · rw [if_neg c4] at H
       exact absurd H (by simp)
   · rw [if_neg c3] at H
     have c3b0 : decide (x5_1 < (l0.length : Int)) = false := decide_eq_false c3
     clear c3
     obtain rfl := Option.some.inj H
     go_wp2
     go_ret
     exact ⟨by first | rfl | (simp [errW_none, errW_some] <;> rfl) | (simp [*, errW_none, errW_some] <;> rfl), by repeat (first | (with_reducible first | exact HB.out | apply below_alloc | apply pw_below_drewN | apply below_drew1) | exact HB.out)⟩

/-! ### laws_FnExactSnapshotsOf: function 7 -/
mutual
def laws_FnExactSnapshotsOf.j0 : Nat → List (S90) → List (S73) → Nat → Int → Int → Int → List (List C64) → Bool → List (S88) → List (S69) → List (List C64) → Bool → Bool → Option (Bool)
 | 0, _, _, _, _, _, _, _, _, _, _, _, _, _ => none
 | k + 1, x0, x1, x2, x3, x4, x5, x14, x15, x16, x17, x18, x19, x69 => if x69 = true then (none) else ((laws_toPlaceS.f k x0).bind fun t302 => ((laws_eqPlaceS.f k x16 t302).bind fun t305 => (if t305 = true then ((laws_toSourceS.f k x1).bind fun t306 => ((laws_eqSourceS.f k x17 t306).bind fun t309 => (if t309 = true then ((laws_markPlaceS.f k x16 1).bind fun bt310 => ((laws_markSourceS.f k x17 bt310.1).bind fun bt312 => (if bt312.1 < 0 then (none) else ((laws_eqComplex64SS.f k x18 x14).bind fun t314 => (if t314 = true then (laws_FnExactSnapshotsOf.j1 k x0 x1 x2 x3 x4 x5 x14 x15 x18 (x19 != x15)) else (none)))))) else (none)))) else (none))))
def laws_FnExactSnapshotsOf.j1 : Nat → List (S90) → List (S73) → Nat → Int → Int → Int → List (List C64) → Bool → List (List C64) → Bool → Option (Bool)
 | 0, _, _, _, _, _, _, _, _, _, _ => none
 | k + 1, x0, x1, x2, x3, x4, x5, x14, x15, x18, x98 => if x98 = true then (none) else ((laws_markComplex64SS.f k x18 1).bind fun bt315 => ((laws_heldComplex64SS.f k bt315.2 1).bind fun t317 => (if t317 < 0 then (none) else (if t317 = bt315.1 then ((laws_toPlaceS.f k x0).bind fun t318 => ((laws_toSourceS.f k x1).bind fun t321 => ((impl_SnapshotsOf.f k t318 t321 x2 x3 x4 x5).bind fun bt324 => ((laws_eqComplex64SS.f k bt324.1 x14).bind fun t328 => (if t328 = true then (laws_FnExactSnapshotsOf.j2 k bt315.2 bt315.1 (bt324.2 != x15)) else (none)))))) else (none)))))
def laws_FnExactSnapshotsOf.j2 : Nat → List (List C64) → Int → Bool → Option (Bool)
 | 0, _, _, _ => none
 | k + 1, x18, x21, x130 => if x130 = true then (none) else ((laws_heldComplex64SS.f k x18 1).bind fun t329 => (if t329 < 0 then (none) else (if t329 = x21 then (some true) else (none))))
end
def laws_FnExactSnapshotsOf.f (k : Nat) (l0 : List (S90)) (l1 : List (S73)) (a2 : Nat) (a3 : Int) (a4 : Int) (a5 : Int) : Option (Bool) := (laws_szPlaceS.f l0 1048576).bind fun t279 => (if t279 < 0 then (some true) else ((laws_szSourceS.f l1 t279).bind fun t280 => (if t280 < 0 then (some true) else ((laws_toPlaceS.f k l0).bind fun t281 => ((laws_toSourceS.f k l1).bind fun t284 => ((spec_SnapshotsOf.f k t281 t284 a2 a3 a4 a5).bind fun bt287 => ((laws_toPlaceS.f k l0).bind fun t291 => ((laws_toSourceS.f k l1).bind fun t294 => ((impl_SnapshotsOf.f k t291 t294 a2 a3 a4 a5).bind fun bt297 => ((laws_eqComplex64SS.f k bt297.1 bt287.1).bind fun t301 => (if t301 = true then (laws_FnExactSnapshotsOf.j0 k l0 l1 a2 a3 a4 a5 bt287.1 bt287.2 t291 t294 bt297.1 bt297.2 (bt297.2 != bt287.2)) else (none))))))))))))
set_option maxHeartbeats 8000000 in
set_option maxRecDepth 100000 in
theorem laws_FnExactSnapshotsOf.calls (k : Nat) (A0 : Option Addr) (c0 : Nat) (l0 : List (S90)) (A1 : Option Addr) (c1 : Nat) (l1 : List (S73)) (a2 : Nat) (a3 : Int) (a4 : Int) (a5 : Int) (r : Bool) (w : World) (hr0 : Kd.C k90 w A0 l0.length l0) (hc0 : l0.length ≤ c0) (hr1 : Kd.C k73 w A1 l1.length l1) (hc1 : l1.length ≤ c1) (h : laws_FnExactSnapshotsOf.f k l0 l1 a2 a3 a4 a5 = some r) :
 Calls Try.prog 7 #[.slice A0 l0.length c0, .slice A1 l1.length c1, .float .f32 a2, .int .i64 a3, .int .i64 a4, .int .i64 a5] w fun e w' => e = .returned (.bool r) ∧ Below w.heap.size w w' := by
 have HR0 := Aside0.mk hr0
 have HC0 := Aside0.mk hc0
 clear hr0 hc0
 have HR1 := Aside0.mk hr1
 have HC1 := Aside0.mk hc1
 clear hr1 hc1
 have HB := Aside0.mk (Below.refl w.heap.size w)
 have H : ((laws_szPlaceS.f l0 1048576).bind fun t279 => (if t279 < 0 then (some true) else ((laws_szSourceS.f l1 t279).bind fun t280 => (if t280 < 0 then (some true) else ((laws_toPlaceS.f k l0).bind fun t281 => ((laws_toSourceS.f k l1).bind fun t284 => ((spec_SnapshotsOf.f k t281 t284 a2 a3 a4 a5).bind fun bt287 => ((laws_toPlaceS.f k l0).bind fun t291 => ((laws_toSourceS.f k l1).bind fun t294 => ((impl_SnapshotsOf.f k t291 t294 a2 a3 a4 a5).bind fun bt297 => ((laws_eqComplex64SS.f k bt297.1 bt287.1).bind fun t301 => (if t301 = true then (laws_FnExactSnapshotsOf.j0 k l0 l1 a2 a3 a4 a5 bt287.1 bt287.2 t291 t294 bt297.1 bt297.2 (bt297.2 != bt287.2)) else (none))))))))))))) = some r := h
 clear h
 replace H := Option.bind_eq_some_iff.mp H
 obtain ⟨t279, A70, H⟩ := H
 replace H : (if t279 < 0 then (some true) else ((laws_szSourceS.f l1 t279).bind fun t280 => (if t280 < 0 then (some true) else ((laws_toPlaceS.f k l0).bind fun t281 => ((laws_toSourceS.f k l1).bind fun t284 => ((spec_SnapshotsOf.f k t281 t284 a2 a3 a4 a5).bind fun bt287 => ((laws_toPlaceS.f k l0).bind fun t291 => ((laws_toSourceS.f k l1).bind fun t294 => ((impl_SnapshotsOf.f k t291 t294 a2 a3 a4 a5).bind fun bt297 => ((laws_eqComplex64SS.f k bt297.1 bt287.1).bind fun t301 => (if t301 = true then (laws_FnExactSnapshotsOf.j0 k l0 l1 a2 a3 a4 a5 bt287.1 bt287.2 t291 t294 bt297.1 bt297.2 (bt297.2 != bt287.2)) else (none)))))))))))) = some r := H
 have A7 := Aside0.mk A70
 clear A70
 by_cases c8 : t279 < 0
 · rw [if_pos c8] at H
   have c8b0 : decide (t279 < 0) = true := decide_eq_true c8
   clear c8
   as_aux_lemma =>
    obtain rfl := Option.some.inj H
    go_enter Try.func7, Try.ntmps7
    go_wp2_with (first | ((with_reducible refine gate_callee (f := 23) rfl ?_); refine goesL_ (some 27) rfl rfl Try.func23 (by kernel_rfl) rfl #[.slice A0 l0.length c0, .int .i64 1048576] rfl (by (try simp only [List.map_toArray, List.map_cons, List.map_nil]); first | done | rfl | (simp only [List.length_drop, List.length_take]; rfl)) ?_; (with_reducible refine (laws_szPlaceS.calls _ _ l0 1048576 t279 _ ?side1 ?side2 A7.out).mono ?_); (case side1 => repeat (first | exact HR0.out | (with_reducible refine Kd.C_alloc ?_ _) | (with_reducible refine Kd.C_drewN ?_ _) | (with_reducible refine Kd.C_drew ?_))); (case side2 => exact HC0.out); rintro e w' ⟨rfl, ⟨nd, rfl⟩⟩; refine ⟨_, rfl, ?_⟩))
    go_ret
    exact ⟨by first | rfl | (simp [errW_none, errW_some] <;> rfl) | (simp [*, errW_none, errW_some] <;> rfl), by repeat (first | (with_reducible first | exact HB.out | apply below_alloc | apply pw_below_drewN | apply below_drew1) | exact HB.out)⟩
 · rw [if_neg c8] at H
   have c8b0 : decide (t279 < 0) = false := decide_eq_false c8
   clear c8
   replace H := Option.bind_eq_some_iff.mp H
   obtain ⟨t280, A90, H⟩ := H
   replace H : (if t280 < 0 then (some true) else ((laws_toPlaceS.f k l0).bind fun t281 => ((laws_toSourceS.f k l1).bind fun t284 => ((spec_SnapshotsOf.f k t281 t284 a2 a3 a4 a5).bind fun bt287 => ((laws_toPlaceS.f k l0).bind fun t291 => ((laws_toSourceS.f k l1).bind fun t294 => ((impl_SnapshotsOf.f k t291 t294 a2 a3 a4 a5).bind fun bt297 => ((laws_eqComplex64SS.f k bt297.1 bt287.1).bind fun t301 => (if t301 = true then (laws_FnExactSnapshotsOf.j0 k l0 l1 a2 a3 a4 a5 bt287.1 bt287.2 t291 t294 bt297.1 bt297.2 (bt297.2 != bt287.2)) else (none)))))))))) = some r := H
   have A9 := Aside0.mk A90
   clear A90
   by_cases c10 : t280 < 0
   · rw [if_pos c10] at H
     have c10b0 : decide (t280 < 0) = true := decide_eq_true c10
     clear c10
     as_aux_lemma =>
      obtain rfl := Option.some.inj H
      go_enter Try.func7, Try.ntmps7
      go_wp2_with (first | ((with_reducible refine gate_callee (f := 23) rfl ?_); refine goesL_ (some 27) rfl rfl Try.func23 (by kernel_rfl) rfl #[.slice A0 l0.length c0, .int .i64 1048576] rfl (by (try simp only [List.map_toArray, List.map_cons, List.map_nil]); first | done | rfl | (simp only [List.length_drop, List.length_take]; rfl)) ?_; (with_reducible refine (laws_szPlaceS.calls _ _ l0 1048576 t279 _ ?side1 ?side2 A7.out).mono ?_); (case side1 => repeat (first | exact HR0.out | (with_reducible refine Kd.C_alloc ?_ _) | (with_reducible refine Kd.C_drewN ?_ _) | (with_reducible refine Kd.C_drew ?_))); (case side2 => exact HC0.out); rintro e w' ⟨rfl, ⟨nd, rfl⟩⟩; refine ⟨_, rfl, ?_⟩) | ((with_reducible refine gate_callee (f := 12) rfl ?_); refine goesL_ (some 32) rfl rfl Try.func12 (by kernel_rfl) rfl #[.slice A1 l1.length c1, .int .i64 t279] rfl (by (try simp only [List.map_toArray, List.map_cons, List.map_nil]); first | done | rfl | (simp only [List.length_drop, List.length_take]; rfl)) ?_; (with_reducible refine (laws_szSourceS.calls _ _ l1 t279 t280 _ ?side1 ?side2 A9.out).mono ?_); (case side1 => repeat (first | exact HR1.out | (with_reducible refine Kd.C_alloc ?_ _) | (with_reducible refine Kd.C_drewN ?_ _) | (with_reducible refine Kd.C_drew ?_))); (case side2 => exact HC1.out); rintro e w' ⟨rfl, ⟨nd, rfl⟩⟩; refine ⟨_, rfl, ?_⟩))
      go_ret
      exact ⟨by first | rfl | (simp [errW_none, errW_some] <;> rfl) | (simp [*, errW_none, errW_some] <;> rfl), by repeat (first | (with_reducible first | exact HB.out | apply below_alloc | apply pw_below_drewN | apply below_drew1) | exact HB.out)⟩
   · rw [if_neg c10] at H
     have c10b0 : decide (t280 < 0) = false := decide_eq_false c10
     clear c10
     replace H := Option.bind_eq_some_iff.mp H
     obtain ⟨t281, A110, H⟩ := H
     replace H : ((laws_toSourceS.f k l1).bind fun t284 => ((spec_SnapshotsOf.f k t281 t284 a2 a3 a4 a5).bind fun bt287 => ((laws_toPlaceS.f k l0).bind fun t291 => ((laws_toSourceS.f k l1).bind fun t294 => ((impl_SnapshotsOf.f k t291 t294 a2 a3 a4 a5).bind fun bt297 => ((laws_eqComplex64SS.f k bt297.1 bt287.1).bind fun t301 => (if t301 = true then (laws_FnExactSnapshotsOf.j0 k l0 l1 a2 a3 a4 a5 bt287.1 bt287.2 t291 t294 bt297.1 bt297.2 (bt297.2 != bt287.2)) else (none)))))))) = some r := H
     have A11 := Aside0.mk A110
     clear A110
     replace H := Option.bind_eq_some_iff.mp H
     obtain ⟨t284, A120, H⟩ := H
     replace H : ((spec_SnapshotsOf.f k t281 t284 a2 a3 a4 a5).bind fun bt287 => ((laws_toPlaceS.f k l0).bind fun t291 => ((laws_toSourceS.f k l1).bind fun t294 => ((impl_SnapshotsOf.f k t291 t294 a2 a3 a4 a5).bind fun bt297 => ((laws_eqComplex64SS.f k bt297.1 bt287.1).bind fun t301 => (if t301 = true then (laws_FnExactSnapshotsOf.j0 k l0 l1 a2 a3 a4 a5 bt287.1 bt287.2 t291 t294 bt297.1 bt297.2 (bt297.2 != bt287.2)) else (none))))))) = some r := H
     have A12 := Aside0.mk A120
     clear A120
     replace H := Option.bind_eq_some_iff.mp H
     obtain ⟨⟨t287, t288⟩, A130, H⟩ := H
     replace H : ((laws_toPlaceS.f k l0).bind fun t291 => ((laws_toSourceS.f k l1).bind fun t294 => ((impl_SnapshotsOf.f k t291 t294 a2 a3 a4 a5).bind fun bt297 => ((laws_eqComplex64SS.f k bt297.1 t287).bind fun t301 => (if t301 = true then (laws_FnExactSnapshotsOf.j0 k l0 l1 a2 a3 a4 a5 t287 t288 t291 t294 bt297.1 bt297.2 (bt297.2 != t288)) else (none)))))) = some r := H
     have A13 := Aside0.mk A130
     clear A130
     replace H := Option.bind_eq_some_iff.mp H
     obtain ⟨t291, A140, H⟩ := H
     replace H : ((laws_toSourceS.f k l1).bind fun t294 => ((impl_SnapshotsOf.f k t291 t294 a2 a3 a4 a5).bind fun bt297 => ((laws_eqComplex64SS.f k bt297.1 t287).bind fun t301 => (if t301 = true then (laws_FnExactSnapshotsOf.j0 k l0 l1 a2 a3 a4 a5 t287 t288 t291 t294 bt297.1 bt297.2 (bt297.2 != t288)) else (none))))) = some r := H
     have A14 := Aside0.mk A140
     clear A140
     replace H := Option.bind_eq_some_iff.mp H
     obtain ⟨t294, A150, H⟩ := H
     replace H : ((impl_SnapshotsOf.f k t291 t294 a2 a3 a4 a5).bind fun bt297 => ((laws_eqComplex64SS.f k bt297.1 t287).bind fun t301 => (if t301 = true then (laws_FnExactSnapshotsOf.j0 k l0 l1 a2 a3 a4 a5 t287 t288 t291 t294 bt297.1 bt297.2 (bt297.2 != t288)) else (none)))) = some r := H
     have A15 := Aside0.mk A150
     clear A150
     replace H := Option.bind_eq_some_iff.mp H
     obtain ⟨⟨t297, t298⟩, A160, H⟩ := H
     replace H : ((laws_eqComplex64SS.f k t297 t287).bind fun t301 => (if t301 = true then (laws_FnExactSnapshotsOf.j0 k l0 l1 a2 a3 a4 a5 t287 t288 t291 t294 t297 t298 (t298 != t288)) else (none))) = some r := H
     have A16 := Aside0.mk A160
     clear A160
     have HC17 := Aside0.mk H
     clear H
     go_enter Try.func7, Try.ntmps7
     go_upto_region 12 with (first | ((with_reducible refine gate_callee (f := 23) rfl ?_); refine goesL_ (some 27) rfl rfl Try.func23 (by kernel_rfl) rfl #[.slice A0 l0.length c0, .int .i64 1048576] rfl (by (try simp only [List.map_toArray, List.map_cons, List.map_nil]); first | done | rfl | (simp only [List.length_drop, List.length_take]; rfl)) ?_; (with_reducible refine (laws_szPlaceS.calls _ _ l0 1048576 t279 _ ?side1 ?side2 A7.out).mono ?_); (case side1 => repeat (first | exact HR0.out | (with_reducible refine Kd.C_alloc ?_ _) | (with_reducible refine Kd.C_drewN ?_ _) | (with_reducible refine Kd.C_drew ?_))); (case side2 => exact HC0.out); rintro e w' ⟨rfl, ⟨nd, rfl⟩⟩; refine ⟨_, rfl, ?_⟩) | ((with_reducible refine gate_callee (f := 12) rfl ?_); refine goesL_ (some 32) rfl rfl Try.func12 (by kernel_rfl) rfl #[.slice A1 l1.length c1, .int .i64 t279] rfl (by (try simp only [List.map_toArray, List.map_cons, List.map_nil]); first | done | rfl | (simp only [List.length_drop, List.length_take]; rfl)) ?_; (with_reducible refine (laws_szSourceS.calls _ _ l1 t279 t280 _ ?side1 ?side2 A9.out).mono ?_); (case side1 => repeat (first | exact HR1.out | (with_reducible refine Kd.C_alloc ?_ _) | (with_reducible refine Kd.C_drewN ?_ _) | (with_reducible refine Kd.C_drew ?_))); (case side2 => exact HC1.out); rintro e w' ⟨rfl, ⟨nd, rfl⟩⟩; refine ⟨_, rfl, ?_⟩) | ((with_reducible refine gate_callee (f := 25) rfl ?_); refine goesL_ (some 37) rfl rfl Try.func25 (by kernel_rfl) rfl #[.slice A0 l0.length c0] rfl (by (try simp only [List.map_toArray, List.map_cons, List.map_nil]); first | done | rfl | (simp only [List.length_drop, List.length_take]; rfl)) ?_; (with_reducible refine (laws_toPlaceS.calls k _ _ l0 t281 _ ?side1 ?side2 A11.out).mono ?_); (case side1 => repeat (first | exact HR0.out | (with_reducible refine Kd.C_alloc ?_ _) | (with_reducible refine Kd.C_drewN ?_ _) | (with_reducible refine Kd.C_drew ?_))); (case side2 => exact HC0.out); rintro e w18 ⟨v282, rfl, ho0, hb⟩; refine ⟨_, rfl, ?_⟩; have n0_ := Aside0.mk (Kd.R_lower ho0 (below_size (by repeat (first | (with_reducible first | exact HB.out | apply below_alloc | apply pw_below_drewN | apply below_drew1) | exact HB.out)))); have n1_ := Aside0.mk (below_step (by repeat (first | (with_reducible first | exact HB.out | apply below_alloc | apply pw_below_drewN | apply below_drew1) | exact HB.out)) hb); clear HB; have HO283 := n0_; have HB := n1_; clear n0_ n1_; (try clear hb); (try clear hb2); (try clear hk); (try clear hi); (try clear ho0)) | ((with_reducible refine gate_callee (f := 14) rfl ?_); refine goesL_ (some 39) rfl rfl Try.func14 (by kernel_rfl) rfl #[.slice A1 l1.length c1] rfl (by (try simp only [List.map_toArray, List.map_cons, List.map_nil]); first | done | rfl | (simp only [List.length_drop, List.length_take]; rfl)) ?_; (with_reducible refine (laws_toSourceS.calls k _ _ l1 t284 _ ?side1 ?side2 A12.out).mono ?_); (case side1 => repeat (first | exact (Kd.C_below HR1.out HB.out) | (with_reducible refine Kd.C_alloc ?_ _) | (with_reducible refine Kd.C_drewN ?_ _) | (with_reducible refine Kd.C_drew ?_))); (case side2 => exact HC1.out); rintro e w19 ⟨v285, rfl, ho0, hb⟩; refine ⟨_, rfl, ?_⟩; have n0_ := Aside0.mk (Kd.R_below (by (with_reducible repeat (first | apply Kd.R_alloc | apply Kd.R_drewN | apply Kd.R_drew)); exact HO283.out) hb); have n1_ := Aside0.mk (Kd.R_lower ho0 (below_size (by repeat (first | (with_reducible first | exact HB.out | apply below_alloc | apply pw_below_drewN | apply below_drew1) | exact HB.out)))); have n2_ := Aside0.mk (below_step (by repeat (first | (with_reducible first | exact HB.out | apply below_alloc | apply pw_below_drewN | apply below_drew1) | exact HB.out)) hb); clear HO283; clear HB; have HO283 := n0_; have HO286 := n1_; have HB := n2_; clear n0_ n1_ n2_; (try clear hb); (try clear hb2); (try clear hk); (try clear hi); (try clear ho0); obtain ⟨Ao20, co20, eo20⟩ := Kd.R_slice HO283.out; subst eo20; obtain ⟨Ao21, co21, eo21⟩ := Kd.R_slice HO286.out; subst eo21) | ((with_reducible refine gate_callee (f := 33) rfl ?_); refine goesL_ (some 44) rfl rfl Try.func33 (by kernel_rfl) rfl #[.slice Ao20 t281.length co20, .slice Ao21 t284.length co21, .float .f32 a2, .int .i64 a3, .int .i64 a4, .int .i64 a5] rfl (by (try simp only [List.map_toArray, List.map_cons, List.map_nil]); first | done | rfl | (simp only [List.length_drop, List.length_take]; rfl)) ?_; (with_reducible refine (spec_SnapshotsOf.calls k _ _ t281 _ _ t284 a2 a3 a4 a5 t287 t288 _ ?side1 ?side2 ?side3 ?side4 A13.out).mono ?_); (case side1 => repeat (first | exact (Kd.R_reads' HO283.out).2.2 | (with_reducible refine Kd.C_alloc ?_ _) | (with_reducible refine Kd.C_drewN ?_ _) | (with_reducible refine Kd.C_drew ?_))); (case side2 => exact (Kd.R_reads' HO283.out).2.1); (case side3 => repeat (first | exact (Kd.R_reads' HO286.out).2.2 | (with_reducible refine Kd.C_alloc ?_ _) | (with_reducible refine Kd.C_drewN ?_ _) | (with_reducible refine Kd.C_drew ?_))); (case side4 => exact (Kd.R_reads' HO286.out).2.1); rintro e w22 ⟨v289, rfl, ho0, hb⟩; refine ⟨_, rfl, ?_⟩; have n0_ := Aside0.mk (Kd.R_below (by (with_reducible repeat (first | apply Kd.R_alloc | apply Kd.R_drewN | apply Kd.R_drew)); exact HO283.out) hb); have n1_ := Aside0.mk (Kd.R_below (by (with_reducible repeat (first | apply Kd.R_alloc | apply Kd.R_drewN | apply Kd.R_drew)); exact HO286.out) hb); have n2_ := Aside0.mk (Kd.S_lower ho0 (below_size (by repeat (first | (with_reducible first | exact HB.out | apply below_alloc | apply pw_below_drewN | apply below_drew1) | exact HB.out)))); have n3_ := Aside0.mk (below_step (by repeat (first | (with_reducible first | exact HB.out | apply below_alloc | apply pw_below_drewN | apply below_drew1) | exact HB.out)) hb); clear HO283; clear HO286; clear HB; have HO283 := n0_; have HO286 := n1_; have HO290 := n2_; have HB := n3_; clear n0_ n1_ n2_ n3_; (try clear hb); (try clear hb2); (try clear hk); (try clear hi); (try clear ho0)) | ((with_reducible refine gate_callee (f := 25) rfl ?_); refine goesL_ (some 48) rfl rfl Try.func25 (by kernel_rfl) rfl #[.slice A0 l0.length c0] rfl (by (try simp only [List.map_toArray, List.map_cons, List.map_nil]); first | done | rfl | (simp only [List.length_drop, List.length_take]; rfl)) ?_; (with_reducible refine (laws_toPlaceS.calls k _ _ l0 t291 _ ?side1 ?side2 A14.out).mono ?_); (case side1 => repeat (first | exact (Kd.C_below HR0.out HB.out) | (with_reducible refine Kd.C_alloc ?_ _) | (with_reducible refine Kd.C_drewN ?_ _) | (with_reducible refine Kd.C_drew ?_))); (case side2 => exact HC0.out); rintro e w23 ⟨v292, rfl, ho0, hb⟩; refine ⟨_, rfl, ?_⟩; have n0_ := Aside0.mk (Kd.R_elder' (by (with_reducible repeat (first | apply Kd.R_alloc | apply Kd.R_drewN | apply Kd.R_drew)); exact HO283.out) (Kd.R_base ho0) hb); have n1_ := Aside0.mk (Kd.R_below (by (with_reducible repeat (first | apply Kd.R_alloc | apply Kd.R_drewN | apply Kd.R_drew)); exact HO286.out) hb); have n2_ := Aside0.mk (Kd.S_below (by (with_reducible repeat (first | apply Kd.S_alloc | apply Kd.S_drewN | apply Kd.S_drew)); exact HO290.out) hb); have n3_ := Aside0.mk (Kd.R_lower (Kd.R_new' ho0 (Kd.R_lt (by (with_reducible repeat (first | apply Kd.R_alloc | apply Kd.R_drewN | apply Kd.R_drew)); exact HO283.out))) (below_size (by repeat (first | (with_reducible first | exact HB.out | apply below_alloc | apply pw_below_drewN | apply below_drew1) | exact HB.out)))); have n4_ := Aside0.mk (below_step (by repeat (first | (with_reducible first | exact HB.out | apply below_alloc | apply pw_below_drewN | apply below_drew1) | exact HB.out)) hb); clear HO283; clear HO286; clear HO290; clear HB; have HO283 := n0_; have HO286 := n1_; have HO290 := n2_; have HO293 := n3_; have HB := n4_; clear n0_ n1_ n2_ n3_ n4_; (try clear hb); (try clear hb2); (try clear hk); (try clear hi); (try clear ho0)) | ((with_reducible refine gate_callee (f := 14) rfl ?_); refine goesL_ (some 50) rfl rfl Try.func14 (by kernel_rfl) rfl #[.slice A1 l1.length c1] rfl (by (try simp only [List.map_toArray, List.map_cons, List.map_nil]); first | done | rfl | (simp only [List.length_drop, List.length_take]; rfl)) ?_; (with_reducible refine (laws_toSourceS.calls k _ _ l1 t294 _ ?side1 ?side2 A15.out).mono ?_); (case side1 => repeat (first | exact (Kd.C_below HR1.out HB.out) | (with_reducible refine Kd.C_alloc ?_ _) | (with_reducible refine Kd.C_drewN ?_ _) | (with_reducible refine Kd.C_drew ?_))); (case side2 => exact HC1.out); rintro e w24 ⟨v295, rfl, ho0, hb⟩; refine ⟨_, rfl, ?_⟩; have n0_ := Aside0.mk (Kd.R_below (by (with_reducible repeat (first | apply Kd.R_alloc | apply Kd.R_drewN | apply Kd.R_drew)); exact HO283.out) hb); have n1_ := Aside0.mk (Kd.R_elder' (by (with_reducible repeat (first | apply Kd.R_alloc | apply Kd.R_drewN | apply Kd.R_drew)); exact HO286.out) (Kd.R_base ho0) hb); have n2_ := Aside0.mk (Kd.S_below (by (with_reducible repeat (first | apply Kd.S_alloc | apply Kd.S_drewN | apply Kd.S_drew)); exact HO290.out) hb); have n3_ := Aside0.mk (Kd.R_below (by (with_reducible repeat (first | apply Kd.R_alloc | apply Kd.R_drewN | apply Kd.R_drew)); exact HO293.out) hb); have n4_ := Aside0.mk (Kd.R_lower (Kd.R_new' ho0 (Kd.R_lt (by (with_reducible repeat (first | apply Kd.R_alloc | apply Kd.R_drewN | apply Kd.R_drew)); exact HO286.out))) (below_size (by repeat (first | (with_reducible first | exact HB.out | apply below_alloc | apply pw_below_drewN | apply below_drew1) | exact HB.out)))); have n5_ := Aside0.mk (below_step (by repeat (first | (with_reducible first | exact HB.out | apply below_alloc | apply pw_below_drewN | apply below_drew1) | exact HB.out)) hb); clear HO283; clear HO286; clear HO290; clear HO293; clear HB; have HO283 := n0_; have HO286 := n1_; have HO290 := n2_; have HO293 := n3_; have HO296 := n4_; have HB := n5_; clear n0_ n1_ n2_ n3_ n4_ n5_; (try clear hb); (try clear hb2); (try clear hk); (try clear hi); (try clear ho0); obtain ⟨Ao25, co25, eo25⟩ := Kd.R_slice HO293.out; subst eo25; obtain ⟨Ao26, co26, eo26⟩ := Kd.R_slice HO296.out; subst eo26) | ((with_reducible refine gate_callee (f := 34) rfl ?_); refine goesL_ (some 58) rfl rfl Try.func34 (by kernel_rfl) rfl #[.slice Ao25 t291.length co25, .slice Ao26 t294.length co26, .float .f32 a2, .int .i64 a3, .int .i64 a4, .int .i64 a5] rfl (by (try simp only [List.map_toArray, List.map_cons, List.map_nil]); first | done | rfl | (simp only [List.length_drop, List.length_take]; rfl)) ?_; (with_reducible refine (impl_SnapshotsOf.calls k _ _ t291 _ _ t294 a2 a3 a4 a5 t297 t298 _ ?side1 ?side2 ?side3 ?side4 A16.out).mono ?_); (case side1 => repeat (first | exact (Kd.R_reads' HO293.out).2.2 | (with_reducible refine Kd.C_alloc ?_ _) | (with_reducible refine Kd.C_drewN ?_ _) | (with_reducible refine Kd.C_drew ?_))); (case side2 => exact (Kd.R_reads' HO293.out).2.1); (case side3 => repeat (first | exact (Kd.R_reads' HO296.out).2.2 | (with_reducible refine Kd.C_alloc ?_ _) | (with_reducible refine Kd.C_drewN ?_ _) | (with_reducible refine Kd.C_drew ?_))); (case side4 => exact (Kd.R_reads' HO296.out).2.1); rintro e w27 ⟨v299, rfl, ho0, hb⟩; refine ⟨_, rfl, ?_⟩; obtain ⟨M_, hp1_, hp2_⟩ := parted hb (by (with_reducible repeat (first | apply Kd.S_alloc | apply Kd.S_drewN | apply Kd.S_drew)); exact HO290.out) ho0; have n0_ := Aside0.mk (Kd.R_below (by (with_reducible repeat (first | apply Kd.R_alloc | apply Kd.R_drewN | apply Kd.R_drew)); exact HO283.out) hb); have n1_ := Aside0.mk (Kd.R_below (by (with_reducible repeat (first | apply Kd.R_alloc | apply Kd.R_drewN | apply Kd.R_drew)); exact HO286.out) hb); have n2_ := Aside0.mk hp1_; have n3_ := Aside0.mk (Kd.R_below (by (with_reducible repeat (first | apply Kd.R_alloc | apply Kd.R_drewN | apply Kd.R_drew)); exact HO293.out) hb); have n4_ := Aside0.mk (Kd.R_below (by (with_reducible repeat (first | apply Kd.R_alloc | apply Kd.R_drewN | apply Kd.R_drew)); exact HO296.out) hb); have n5_ := Aside0.mk (Kd.S_lower hp2_ (below_size (by repeat (first | (with_reducible first | exact HB.out | apply below_alloc | apply pw_below_drewN | apply below_drew1) | exact HB.out)))); have n6_ := Aside0.mk (below_step (by repeat (first | (with_reducible first | exact HB.out | apply below_alloc | apply pw_below_drewN | apply below_drew1) | exact HB.out)) hb); clear HO283; clear HO286; clear HO290; clear HO293; clear HO296; clear HB; have HO283 := n0_; have HO286 := n1_; have HO290 := n2_; have HO293 := n3_; have HO296 := n4_; have HO300 := n5_; have HB := n6_; clear n0_ n1_ n2_ n3_ n4_ n5_ n6_; (try clear hb); (try clear hb2); (try clear hk); (try clear hi); (try clear ho0)))
     (try simp only [Act.put, List.setIfInBounds_toArray, List.set_cons_zero, List.set_cons_succ])
     go_cut [69] (fun v69 wc => ∃ (kq : Nat) (x69_16 : Bool), v69 = .bool x69_16 ∧ Aside0 (laws_FnExactSnapshotsOf.j0 kq l0 l1 a2 a3 a4 a5 t287 t288 t291 t294 t297 t298 x69_16 = some r) ∧ Aside0 (kq ≤ k) ∧ Aside0 (Kd.S (Kd.slice 94 Kd.c64) 45 wc w.heap.size (fun k_ => some k_ ≠ (v299 : Value).ownBlock ∧ k_ < M_) v289 t287) ∧ Aside0 (Kd.R k88 88 wc w.heap.size (fun _ => True) (.slice Ao25 t291.length co25) t291) ∧ Aside0 (Kd.R k69 69 wc w.heap.size (fun _ => True) (.slice Ao26 t294.length co26) t294) ∧ Aside0 (Kd.S (Kd.slice 94 Kd.c64) 45 wc w.heap.size (fun k_ => some k_ ≠ (v289 : Value).ownBlock ∧ M_ ≤ k_) v299 t297) ∧ Aside0 (Below w.heap.size w wc))
     case first =>
      have H := HC17.out
      clear HC17
      replace H := Option.bind_eq_some_iff.mp H
      obtain ⟨t301, A280, H⟩ := H
      replace H : (if t301 = true then (laws_FnExactSnapshotsOf.j0 k l0 l1 a2 a3 a4 a5 t287 t288 t291 t294 t297 t298 (t298 != t288)) else (none)) = some r := H
      have A28 := Aside0.mk A280
      clear A280
      by_cases c29 : t301 = true
      · subst c29
        have H1 : (laws_FnExactSnapshotsOf.j0 k l0 l1 a2 a3 a4 a5 t287 t288 t291 t294 t297 t298 (t298 != t288)) = some r := by rw [if_pos rfl] at H; exact H
        clear H
        have H := H1
        clear H1
        as_aux_lemma =>
         have H' := Aside0.mk H
         clear H
         obtain ⟨Ao30, co30, eo30⟩ := Kd.S_slice HO300.out
         subst eo30
         obtain ⟨Ao31, co31, eo31⟩ := Kd.S_slice HO290.out
         subst eo31
         go_wp2_with (first | ((with_reducible refine gate_callee (f := 35) rfl ?_); refine goesL_ (some 63) rfl rfl Try.func35 (by kernel_rfl) rfl #[.slice Ao30 t297.length co30, .slice Ao31 t287.length co31] rfl (by (try simp only [List.map_toArray, List.map_cons, List.map_nil]); first | done | rfl | (simp only [List.length_drop, List.length_take]; rfl)) ?_; (with_reducible refine (laws_eqComplex64SS.calls k _ _ t297 _ _ t287 true _ ?side1 ?side2 ?side3 ?side4 A28.out).mono ?_); (case side1 => repeat (first | exact (Kd.S_reads' HO300.out).2.2 | (with_reducible refine Kd.C_alloc ?_ _) | (with_reducible refine Kd.C_drewN ?_ _) | (with_reducible refine Kd.C_drew ?_))); (case side2 => exact (Kd.S_reads' HO300.out).2.1); (case side3 => repeat (first | exact (Kd.S_reads' HO290.out).2.2 | (with_reducible refine Kd.C_alloc ?_ _) | (with_reducible refine Kd.C_drewN ?_ _) | (with_reducible refine Kd.C_drew ?_))); (case side4 => exact (Kd.S_reads' HO290.out).2.1); rintro e w' ⟨rfl, ⟨nd, rfl⟩⟩; refine ⟨_, rfl, ?_⟩))
         go_meet
         case rel => exact ⟨_, ((t298 != t288)), (by first | rfl | (simp; done) | (simp [*]; done)), H', ⟨by first | omega | exact Nat.le_refl _⟩, ⟨by (with_reducible repeat (first | apply Kd.S_alloc | apply Kd.S_drewN | apply Kd.S_drew)); exact HO290.out⟩, ⟨by (with_reducible repeat (first | apply Kd.R_alloc | apply Kd.R_drewN | apply Kd.R_drew)); exact Kd.R_mono HO293.out (fun _ hk => trivial)⟩, ⟨by (with_reducible repeat (first | apply Kd.R_alloc | apply Kd.R_drewN | apply Kd.R_drew)); exact Kd.R_mono HO296.out (fun _ hk => trivial)⟩, ⟨by (with_reducible repeat (first | apply Kd.S_alloc | apply Kd.S_drewN | apply Kd.S_drew)); exact HO300.out⟩, ⟨by repeat (first | (with_reducible first | exact HB.out | apply below_alloc | apply pw_below_drewN | apply below_drew1) | exact HB.out)⟩⟩
      · replace c29 := Bool.eq_false_iff.mpr c29
        subst c29
        have H1 : (none) = some r := by rw [if_neg (show ¬ (false = true) by decide)] at H; exact H
        clear H
        have H := H1
        clear H1
        exact absurd H (by simp)
     case rest =>
      clear HC17
      (try clear c1); (try clear c2); (try clear p2); (try clear c3); (try clear c6); (try clear c7); (try clear c8); (try clear c8b0); (try clear c10); (try clear c10b0); (try clear c12); (try clear c14); (try clear c23); (try clear c25); (try clear c29)
      obtain ⟨kq, x69_16, rfl, HA, HJ16, HO_14, HO_16, HO_17, HO_18, HB⟩ := hcut
      cases kq with
      | zero => exact absurd HA.out (by simp [laws_FnExactSnapshotsOf.j0])
      | succ kj16 =>
       have H := HA.out
       clear HA
       simp only [laws_FnExactSnapshotsOf.j0] at H
       by_cases c32 : x69_16 = true
       · subst c32
         have H1 : (none) = some r := by rw [if_pos rfl] at H; exact H
         clear H
         have H := H1
         clear H1
         exact absurd H (by simp)
       · replace c32 := Bool.eq_false_iff.mpr c32
         subst c32
         have H1 : ((laws_toPlaceS.f kj16 l0).bind fun t302 => ((laws_eqPlaceS.f kj16 t291 t302).bind fun t305 => (if t305 = true then ((laws_toSourceS.f kj16 l1).bind fun t306 => ((laws_eqSourceS.f kj16 t294 t306).bind fun t309 => (if t309 = true then ((laws_markPlaceS.f kj16 t291 1).bind fun bt310 => ((laws_markSourceS.f kj16 t294 bt310.1).bind fun bt312 => (if bt312.1 < 0 then (none) else ((laws_eqComplex64SS.f kj16 t297 t287).bind fun t314 => (if t314 = true then (laws_FnExactSnapshotsOf.j1 kj16 l0 l1 a2 a3 a4 a5 t287 t288 t297 (t298 != t288)) else (none)))))) else (none)))) else (none)))) = some r := by rw [if_neg (show ¬ (false = true) by decide)] at H; exact H
         clear H
         have H := H1
         clear H1
         replace H := Option.bind_eq_some_iff.mp H
         obtain ⟨t302, A330, H⟩ := H
         replace H : ((laws_eqPlaceS.f kj16 t291 t302).bind fun t305 => (if t305 = true then ((laws_toSourceS.f kj16 l1).bind fun t306 => ((laws_eqSourceS.f kj16 t294 t306).bind fun t309 => (if t309 = true then ((laws_markPlaceS.f kj16 t291 1).bind fun bt310 => ((laws_markSourceS.f kj16 t294 bt310.1).bind fun bt312 => (if bt312.1 < 0 then (none) else ((laws_eqComplex64SS.f kj16 t297 t287).bind fun t314 => (if t314 = true then (laws_FnExactSnapshotsOf.j1 kj16 l0 l1 a2 a3 a4 a5 t287 t288 t297 (t298 != t288)) else (none)))))) else (none)))) else (none))) = some r := H
         have A33 := Aside0.mk A330
         clear A330
         replace H := Option.bind_eq_some_iff.mp H
         obtain ⟨t305, A340, H⟩ := H
         replace H : (if t305 = true then ((laws_toSourceS.f kj16 l1).bind fun t306 => ((laws_eqSourceS.f kj16 t294 t306).bind fun t309 => (if t309 = true then ((laws_markPlaceS.f kj16 t291 1).bind fun bt310 => ((laws_markSourceS.f kj16 t294 bt310.1).bind fun bt312 => (if bt312.1 < 0 then (none) else ((laws_eqComplex64SS.f kj16 t297 t287).bind fun t314 => (if t314 = true then (laws_FnExactSnapshotsOf.j1 kj16 l0 l1 a2 a3 a4 a5 t287 t288 t297 (t298 != t288)) else (none)))))) else (none)))) else (none)) = some r := H
         have A34 := Aside0.mk A340
         clear A340
         by_cases c35 : t305 = true
         · subst c35
           have H1 : ((laws_toSourceS.f kj16 l1).bind fun t306 => ((laws_eqSourceS.f kj16 t294 t306).bind fun t309 => (if t309 = true then ((laws_markPlaceS.f kj16 t291 1).bind fun bt310 => ((laws_markSourceS.f kj16 t294 bt310.1).bind fun bt312 => (if bt312.1 < 0 then (none) else ((laws_eqComplex64SS.f kj16 t297 t287).bind fun t314 => (if t314 = true then (laws_FnExactSnapshotsOf.j1 kj16 l0 l1 a2 a3 a4 a5 t287 t288 t297 (t298 != t288)) else (none)))))) else (none)))) = some r := by rw [if_pos rfl] at H; exact H
           clear H
           have H := H1
           clear H1
           replace H := Option.bind_eq_some_iff.mp H
           obtain ⟨t306, A360, H⟩ := H
           replace H : ((laws_eqSourceS.f kj16 t294 t306).bind fun t309 => (if t309 = true then ((laws_markPlaceS.f kj16 t291 1).bind fun bt310 => ((laws_markSourceS.f kj16 t294 bt310.1).bind fun bt312 => (if bt312.1 < 0 then (none) else ((laws_eqComplex64SS.f kj16 t297 t287).bind fun t314 => (if t314 = true then (laws_FnExactSnapshotsOf.j1 kj16 l0 l1 a2 a3 a4 a5 t287 t288 t297 (t298 != t288)) else (none)))))) else (none))) = some r := H
           have A36 := Aside0.mk A360
           clear A360
           replace H := Option.bind_eq_some_iff.mp H
           obtain ⟨t309, A370, H⟩ := H
           replace H : (if t309 = true then ((laws_markPlaceS.f kj16 t291 1).bind fun bt310 => ((laws_markSourceS.f kj16 t294 bt310.1).bind fun bt312 => (if bt312.1 < 0 then (none) else ((laws_eqComplex64SS.f kj16 t297 t287).bind fun t314 => (if t314 = true then (laws_FnExactSnapshotsOf.j1 kj16 l0 l1 a2 a3 a4 a5 t287 t288 t297 (t298 != t288)) else (none)))))) else (none)) = some r := H
           have A37 := Aside0.mk A370
           clear A370
           by_cases c38 : t309 = true
           · subst c38
             have H1 : ((laws_markPlaceS.f kj16 t291 1).bind fun bt310 => ((laws_markSourceS.f kj16 t294 bt310.1).bind fun bt312 => (if bt312.1 < 0 then (none) else ((laws_eqComplex64SS.f kj16 t297 t287).bind fun t314 => (if t314 = true then (laws_FnExactSnapshotsOf.j1 kj16 l0 l1 a2 a3 a4 a5 t287 t288 t297 (t298 != t288)) else (none)))))) = some r := by rw [if_pos rfl] at H; exact H
             clear H
             have H := H1
             clear H1
             replace H := Option.bind_eq_some_iff.mp H
             obtain ⟨⟨t310, t311⟩, A390, H⟩ := H
             replace H : ((laws_markSourceS.f kj16 t294 t310).bind fun bt312 => (if bt312.1 < 0 then (none) else ((laws_eqComplex64SS.f kj16 t297 t287).bind fun t314 => (if t314 = true then (laws_FnExactSnapshotsOf.j1 kj16 l0 l1 a2 a3 a4 a5 t287 t288 t297 (t298 != t288)) else (none))))) = some r := H
             have A39 := Aside0.mk A390
             clear A390
             replace H := Option.bind_eq_some_iff.mp H
             obtain ⟨⟨t312, t313⟩, A400, H⟩ := H
             replace H : (if t312 < 0 then (none) else ((laws_eqComplex64SS.f kj16 t297 t287).bind fun t314 => (if t314 = true then (laws_FnExactSnapshotsOf.j1 kj16 l0 l1 a2 a3 a4 a5 t287 t288 t297 (t298 != t288)) else (none)))) = some r := H
             have A40 := Aside0.mk A400
             clear A400
             have HC41 := Aside0.mk H
             clear H
             go_upto_region 21 with (first | ((with_reducible refine gate_callee (f := 25) rfl ?_); refine goesL_ (some 72) rfl rfl Try.func25 (by kernel_rfl) rfl #[.slice A0 l0.length c0] rfl (by (try simp only [List.map_toArray, List.map_cons, List.map_nil]); first | done | rfl | (simp only [List.length_drop, List.length_take]; rfl)) ?_; (with_reducible refine (laws_toPlaceS.calls kj16 _ _ l0 t302 _ ?side1 ?side2 A33.out).mono ?_); (case side1 => repeat (first | exact (Kd.C_below HR0.out HB.out) | (with_reducible refine Kd.C_alloc ?_ _) | (with_reducible refine Kd.C_drewN ?_ _) | (with_reducible refine Kd.C_drew ?_))); (case side2 => exact HC0.out); rintro e w42 ⟨v303, rfl, ho0, hb⟩; refine ⟨_, rfl, ?_⟩; have n0_ := Aside0.mk (Kd.S_below (by (with_reducible repeat (first | apply Kd.S_alloc | apply Kd.S_drewN | apply Kd.S_drew)); exact HO_14.out) hb); have n1_ := Aside0.mk (Kd.R_elder' (by (with_reducible repeat (first | apply Kd.R_alloc | apply Kd.R_drewN | apply Kd.R_drew)); exact HO_16.out) (Kd.R_base ho0) hb); have n2_ := Aside0.mk (Kd.R_below (by (with_reducible repeat (first | apply Kd.R_alloc | apply Kd.R_drewN | apply Kd.R_drew)); exact HO_17.out) hb); have n3_ := Aside0.mk (Kd.S_below (by (with_reducible repeat (first | apply Kd.S_alloc | apply Kd.S_drewN | apply Kd.S_drew)); exact HO_18.out) hb); have n4_ := Aside0.mk (Kd.R_lower (Kd.R_new' ho0 (Kd.R_lt (by (with_reducible repeat (first | apply Kd.R_alloc | apply Kd.R_drewN | apply Kd.R_drew)); exact HO_16.out))) (below_size (by repeat (first | (with_reducible first | exact HB.out | apply below_alloc | apply pw_below_drewN | apply below_drew1) | exact HB.out)))); have n5_ := Aside0.mk (below_step (by repeat (first | (with_reducible first | exact HB.out | apply below_alloc | apply pw_below_drewN | apply below_drew1) | exact HB.out)) hb); clear HO_14; clear HO_16; clear HO_17; clear HO_18; clear HB; have HO_14 := n0_; have HO_16 := n1_; have HO_17 := n2_; have HO_18 := n3_; have HO304 := n4_; have HB := n5_; clear n0_ n1_ n2_ n3_ n4_ n5_; (try clear hb); (try clear hb2); (try clear hk); (try clear hi); (try clear ho0); obtain ⟨Ao43, co43, eo43⟩ := Kd.R_slice HO304.out; subst eo43) | ((with_reducible refine gate_callee (f := 28) rfl ?_); refine goesL_ (some 73) rfl rfl Try.func28 (by kernel_rfl) rfl #[.slice Ao25 t291.length co25, .slice Ao43 t302.length co43] rfl (by (try simp only [List.map_toArray, List.map_cons, List.map_nil]); first | done | rfl | (simp only [List.length_drop, List.length_take]; rfl)) ?_; (with_reducible refine (laws_eqPlaceS.calls kj16 _ _ t291 _ _ t302 true _ ?side1 ?side2 ?side3 ?side4 A34.out).mono ?_); (case side1 => repeat (first | exact (Kd.R_reads' HO_16.out).2.2 | (with_reducible refine Kd.C_alloc ?_ _) | (with_reducible refine Kd.C_drewN ?_ _) | (with_reducible refine Kd.C_drew ?_))); (case side2 => exact (Kd.R_reads' HO_16.out).2.1); (case side3 => repeat (first | exact (Kd.R_reads' HO304.out).2.2 | (with_reducible refine Kd.C_alloc ?_ _) | (with_reducible refine Kd.C_drewN ?_ _) | (with_reducible refine Kd.C_drew ?_))); (case side4 => exact (Kd.R_reads' HO304.out).2.1); rintro e w44 ⟨rfl, hb⟩; refine ⟨_, rfl, ?_⟩; have n0_ := Aside0.mk (Kd.S_below (by (with_reducible repeat (first | apply Kd.S_alloc | apply Kd.S_drewN | apply Kd.S_drew)); exact HO_14.out) hb); have n1_ := Aside0.mk (Kd.R_below (by (with_reducible repeat (first | apply Kd.R_alloc | apply Kd.R_drewN | apply Kd.R_drew)); exact HO_16.out) hb); have n2_ := Aside0.mk (Kd.R_below (by (with_reducible repeat (first | apply Kd.R_alloc | apply Kd.R_drewN | apply Kd.R_drew)); exact HO_17.out) hb); have n3_ := Aside0.mk (Kd.S_below (by (with_reducible repeat (first | apply Kd.S_alloc | apply Kd.S_drewN | apply Kd.S_drew)); exact HO_18.out) hb); have n4_ := Aside0.mk (Kd.R_below (by (with_reducible repeat (first | apply Kd.R_alloc | apply Kd.R_drewN | apply Kd.R_drew)); exact HO304.out) hb); have n5_ := Aside0.mk (below_step (by repeat (first | (with_reducible first | exact HB.out | apply below_alloc | apply pw_below_drewN | apply below_drew1) | exact HB.out)) hb); clear HO_14; clear HO_16; clear HO_17; clear HO_18; clear HO304; clear HB; have HO_14 := n0_; have HO_16 := n1_; have HO_17 := n2_; have HO_18 := n3_; have HO304 := n4_; have HB := n5_; clear n0_ n1_ n2_ n3_ n4_ n5_; (try clear hb); (try clear hb2); (try clear hk); (try clear hi)) | ((with_reducible refine gate_callee (f := 14) rfl ?_); refine goesL_ (some 77) rfl rfl Try.func14 (by kernel_rfl) rfl #[.slice A1 l1.length c1] rfl (by (try simp only [List.map_toArray, List.map_cons, List.map_nil]); first | done | rfl | (simp only [List.length_drop, List.length_take]; rfl)) ?_; (with_reducible refine (laws_toSourceS.calls kj16 _ _ l1 t306 _ ?side1 ?side2 A36.out).mono ?_); (case side1 => repeat (first | exact (Kd.C_below HR1.out HB.out) | (with_reducible refine Kd.C_alloc ?_ _) | (with_reducible refine Kd.C_drewN ?_ _) | (with_reducible refine Kd.C_drew ?_))); (case side2 => exact HC1.out); rintro e w45 ⟨v307, rfl, ho0, hb⟩; refine ⟨_, rfl, ?_⟩; have n0_ := Aside0.mk (Kd.S_below (by (with_reducible repeat (first | apply Kd.S_alloc | apply Kd.S_drewN | apply Kd.S_drew)); exact HO_14.out) hb); have n1_ := Aside0.mk (Kd.R_below (by (with_reducible repeat (first | apply Kd.R_alloc | apply Kd.R_drewN | apply Kd.R_drew)); exact HO_16.out) hb); have n2_ := Aside0.mk (Kd.R_elder' (by (with_reducible repeat (first | apply Kd.R_alloc | apply Kd.R_drewN | apply Kd.R_drew)); exact HO_17.out) (Kd.R_base ho0) hb); have n3_ := Aside0.mk (Kd.S_below (by (with_reducible repeat (first | apply Kd.S_alloc | apply Kd.S_drewN | apply Kd.S_drew)); exact HO_18.out) hb); have n4_ := Aside0.mk (Kd.R_below (by (with_reducible repeat (first | apply Kd.R_alloc | apply Kd.R_drewN | apply Kd.R_drew)); exact HO304.out) hb); have n5_ := Aside0.mk (Kd.R_lower (Kd.R_new' ho0 (Kd.R_lt (by (with_reducible repeat (first | apply Kd.R_alloc | apply Kd.R_drewN | apply Kd.R_drew)); exact HO_17.out))) (below_size (by repeat (first | (with_reducible first | exact HB.out | apply below_alloc | apply pw_below_drewN | apply below_drew1) | exact HB.out)))); have n6_ := Aside0.mk (below_step (by repeat (first | (with_reducible first | exact HB.out | apply below_alloc | apply pw_below_drewN | apply below_drew1) | exact HB.out)) hb); clear HO_14; clear HO_16; clear HO_17; clear HO_18; clear HO304; clear HB; have HO_14 := n0_; have HO_16 := n1_; have HO_17 := n2_; have HO_18 := n3_; have HO304 := n4_; have HO308 := n5_; have HB := n6_; clear n0_ n1_ n2_ n3_ n4_ n5_ n6_; (try clear hb); (try clear hb2); (try clear hk); (try clear hi); (try clear ho0); obtain ⟨Ao46, co46, eo46⟩ := Kd.R_slice HO308.out; subst eo46) | ((with_reducible refine gate_callee (f := 16) rfl ?_); refine goesL_ (some 78) rfl rfl Try.func16 (by kernel_rfl) rfl #[.slice Ao26 t294.length co26, .slice Ao46 t306.length co46] rfl (by (try simp only [List.map_toArray, List.map_cons, List.map_nil]); first | done | rfl | (simp only [List.length_drop, List.length_take]; rfl)) ?_; (with_reducible refine (laws_eqSourceS.calls kj16 _ _ t294 _ _ t306 true _ ?side1 ?side2 ?side3 ?side4 A37.out).mono ?_); (case side1 => repeat (first | exact (Kd.R_reads' HO_17.out).2.2 | (with_reducible refine Kd.C_alloc ?_ _) | (with_reducible refine Kd.C_drewN ?_ _) | (with_reducible refine Kd.C_drew ?_))); (case side2 => exact (Kd.R_reads' HO_17.out).2.1); (case side3 => repeat (first | exact (Kd.R_reads' HO308.out).2.2 | (with_reducible refine Kd.C_alloc ?_ _) | (with_reducible refine Kd.C_drewN ?_ _) | (with_reducible refine Kd.C_drew ?_))); (case side4 => exact (Kd.R_reads' HO308.out).2.1); rintro e w47 ⟨rfl, hb⟩; refine ⟨_, rfl, ?_⟩; have n0_ := Aside0.mk (Kd.S_below (by (with_reducible repeat (first | apply Kd.S_alloc | apply Kd.S_drewN | apply Kd.S_drew)); exact HO_14.out) hb); have n1_ := Aside0.mk (Kd.R_below (by (with_reducible repeat (first | apply Kd.R_alloc | apply Kd.R_drewN | apply Kd.R_drew)); exact HO_16.out) hb); have n2_ := Aside0.mk (Kd.R_below (by (with_reducible repeat (first | apply Kd.R_alloc | apply Kd.R_drewN | apply Kd.R_drew)); exact HO_17.out) hb); have n3_ := Aside0.mk (Kd.S_below (by (with_reducible repeat (first | apply Kd.S_alloc | apply Kd.S_drewN | apply Kd.S_drew)); exact HO_18.out) hb); have n4_ := Aside0.mk (Kd.R_below (by (with_reducible repeat (first | apply Kd.R_alloc | apply Kd.R_drewN | apply Kd.R_drew)); exact HO304.out) hb); have n5_ := Aside0.mk (Kd.R_below (by (with_reducible repeat (first | apply Kd.R_alloc | apply Kd.R_drewN | apply Kd.R_drew)); exact HO308.out) hb); have n6_ := Aside0.mk (below_step (by repeat (first | (with_reducible first | exact HB.out | apply below_alloc | apply pw_below_drewN | apply below_drew1) | exact HB.out)) hb); clear HO_14; clear HO_16; clear HO_17; clear HO_18; clear HO304; clear HO308; clear HB; have HO_14 := n0_; have HO_16 := n1_; have HO_17 := n2_; have HO_18 := n3_; have HO304 := n4_; have HO308 := n5_; have HB := n6_; clear n0_ n1_ n2_ n3_ n4_ n5_ n6_; (try clear hb); (try clear hb2); (try clear hk); (try clear hi)) | ((with_reducible refine gate_callee (f := 29) rfl ?_); refine goesL_ (some 82) rfl rfl Try.func29 (by kernel_rfl) rfl #[.slice Ao25 t291.length co25, .int .i64 1] rfl (by (try simp only [List.map_toArray, List.map_cons, List.map_nil]); first | done | rfl | (simp only [List.length_drop, List.length_take]; rfl)) ?_; (with_reducible refine (laws_markPlaceS.calls kj16 (fun k_ => some k_ = (.slice Ao25 t291.length co25 : Value).ownBlock) (.slice Ao25 t291.length co25) t291 1 t310 t311 w _ ?side1 ?side2 A39.out).mono ?_); (case side1 => repeat (first | (with_reducible first | exact HB.out | apply below_alloc | apply pw_below_drewN | apply below_drew1) | exact HB.out)); (case side2 => exact Kd.R_tight rfl HO_16.out); rintro e w48 ⟨rfl, hy0, hb, hkp⟩; refine ⟨_, rfl, ?_⟩; have n0_ := Aside0.mk (Kd.S_mono (ok' := fun k_ => some k_ ≠ (v299 : Value).ownBlock ∧ k_ < M_) (Kd.S_keptB ((Kd.S_apart' HO_14.out (Kd.R_typed HO_16.out) (by decide))) hkp (fun k_ hk_ hs_ => (hk_.2) hs_)) (fun k_ hk_ => hk_.1.1)); have n1_ := Aside0.mk (Kd.R_reok rfl hy0 (fun k_ e_ => HO_16.out.1 k_ e_)); have n2_ := Aside0.mk (Kd.R_mono (ok' := fun k_ => some k_ ≠ (.slice Ao46 t306.length co46 : Value).ownBlock) (Kd.R_keptB ((Kd.R_apart' HO_17.out (Kd.R_typed HO_16.out) (by decide))) hkp (fun k_ hk_ hs_ => (hk_.2) hs_)) (fun k_ hk_ => hk_.1.1.2)); have n3_ := Aside0.mk (Kd.S_mono (ok' := fun k_ => some k_ ≠ (v289 : Value).ownBlock ∧ M_ ≤ k_) (Kd.S_keptB ((Kd.S_apart' HO_18.out (Kd.R_typed HO_16.out) (by decide))) hkp (fun k_ hk_ hs_ => (hk_.2) hs_)) (fun k_ hk_ => hk_.1.1)); have n4_ := Aside0.mk (Kd.R_mono (ok' := fun k_ => some k_ ≠ (.slice Ao25 t291.length co25 : Value).ownBlock) (Kd.R_keptB (HO304.out) hkp (fun k_ hk_ hs_ => (hk_.2) hs_)) (fun k_ hk_ => hk_.1.2)); have n5_ := Aside0.mk (Kd.R_mono (ok' := fun k_ => some k_ ≠ (.slice Ao26 t294.length co26 : Value).ownBlock) (Kd.R_keptB ((Kd.R_apart' HO308.out (Kd.R_typed HO_16.out) (by decide))) hkp (fun k_ hk_ hs_ => (hk_.2) hs_)) (fun k_ hk_ => hk_.1.1.2)); have n6_ := Aside0.mk (hb); clear HO_14; clear HO_16; clear HO_17; clear HO_18; clear HO304; clear HO308; clear HB; have HO_14 := n0_; have HO_16 := n1_; have HO_17 := n2_; have HO_18 := n3_; have HO304 := n4_; have HO308 := n5_; have HB := n6_; clear n0_ n1_ n2_ n3_ n4_ n5_ n6_; (try clear hb); (try clear hkp); (try clear hy0)) | ((with_reducible refine gate_callee (f := 30) rfl ?_); refine goesL_ (some 85) rfl rfl Try.func30 (by kernel_rfl) rfl #[.slice Ao26 t294.length co26, .int .i64 t310] rfl (by (try simp only [List.map_toArray, List.map_cons, List.map_nil]); first | done | rfl | (simp only [List.length_drop, List.length_take]; rfl)) ?_; (with_reducible refine (laws_markSourceS.calls kj16 (fun k_ => some k_ = (.slice Ao26 t294.length co26 : Value).ownBlock) (.slice Ao26 t294.length co26) t294 t310 t312 t313 w _ ?side1 ?side2 A40.out).mono ?_); (case side1 => repeat (first | (with_reducible first | exact HB.out | apply below_alloc | apply pw_below_drewN | apply below_drew1) | exact HB.out)); (case side2 => exact Kd.R_tight rfl HO_17.out); rintro e w49 ⟨rfl, hy0, hb, hkp⟩; refine ⟨_, rfl, ?_⟩; have n0_ := Aside0.mk (Kd.S_mono (ok' := fun k_ => some k_ ≠ (v299 : Value).ownBlock ∧ k_ < M_) (Kd.S_keptB ((Kd.S_apart' HO_14.out (Kd.R_typed HO_17.out) (by decide))) hkp (fun k_ hk_ hs_ => (hk_.2) hs_)) (fun k_ hk_ => hk_.1.1)); have n1_ := Aside0.mk (Kd.R_mono (ok' := fun k_ => some k_ ≠ (.slice Ao43 t302.length co43 : Value).ownBlock) (Kd.R_keptB ((Kd.R_apart' HO_16.out (Kd.R_typed HO_17.out) (by decide))) hkp (fun k_ hk_ hs_ => (hk_.2) hs_)) (fun k_ hk_ => hk_.1.1.2)); have n2_ := Aside0.mk (Kd.R_reok rfl hy0 (fun k_ e_ => HO_17.out.1 k_ e_)); have n3_ := Aside0.mk (Kd.S_mono (ok' := fun k_ => some k_ ≠ (v289 : Value).ownBlock ∧ M_ ≤ k_) (Kd.S_keptB ((Kd.S_apart' HO_18.out (Kd.R_typed HO_17.out) (by decide))) hkp (fun k_ hk_ hs_ => (hk_.2) hs_)) (fun k_ hk_ => hk_.1.1)); have n4_ := Aside0.mk (Kd.R_mono (ok' := fun k_ => some k_ ≠ (.slice Ao25 t291.length co25 : Value).ownBlock) (Kd.R_keptB ((Kd.R_apart' HO304.out (Kd.R_typed HO_17.out) (by decide))) hkp (fun k_ hk_ hs_ => (hk_.2) hs_)) (fun k_ hk_ => hk_.1.1)); have n5_ := Aside0.mk (Kd.R_mono (ok' := fun k_ => some k_ ≠ (.slice Ao26 t294.length co26 : Value).ownBlock) (Kd.R_keptB (HO308.out) hkp (fun k_ hk_ hs_ => (hk_) hs_)) (fun k_ hk_ => hk_.1)); have n6_ := Aside0.mk (hb); clear HO_14; clear HO_16; clear HO_17; clear HO_18; clear HO304; clear HO308; clear HB; have HO_14 := n0_; have HO_16 := n1_; have HO_17 := n2_; have HO_18 := n3_; have HO304 := n4_; have HO308 := n5_; have HB := n6_; clear n0_ n1_ n2_ n3_ n4_ n5_ n6_; (try clear hb); (try clear hkp); (try clear hy0)))
             (try simp only [Act.put, List.setIfInBounds_toArray, List.set_cons_zero, List.set_cons_succ])
             go_cut [98] (fun v98 wc => ∃ (kq : Nat) (x98_40 : Bool), v98 = .bool x98_40 ∧ Aside0 (laws_FnExactSnapshotsOf.j1 kq l0 l1 a2 a3 a4 a5 t287 t288 t297 x98_40 = some r) ∧ Aside0 (kq ≤ kj16) ∧ Aside0 (Kd.S (Kd.slice 94 Kd.c64) 45 wc w.heap.size (fun k_ => some k_ ≠ (v299 : Value).ownBlock ∧ k_ < M_) v289 t287) ∧ Aside0 (Kd.S (Kd.slice 94 Kd.c64) 45 wc w.heap.size (fun k_ => some k_ ≠ (v289 : Value).ownBlock ∧ M_ ≤ k_) v299 t297) ∧ Aside0 (Below w.heap.size w wc))
             case first =>
              have H := HC41.out
              clear HC41
              by_cases c50 : t312 < 0
              · rw [if_pos c50] at H
                exact absurd H (by simp)
              · rw [if_neg c50] at H
                have c50b0 : decide (t312 < 0) = false := decide_eq_false c50
                clear c50
                (first | rw [c50b0] | (simp only [i64_w, i32_w]; rw [c50b0]) | skip)
                replace H := Option.bind_eq_some_iff.mp H
                obtain ⟨t314, A510, H⟩ := H
                replace H : (if t314 = true then (laws_FnExactSnapshotsOf.j1 kj16 l0 l1 a2 a3 a4 a5 t287 t288 t297 (t298 != t288)) else (none)) = some r := H
                have A51 := Aside0.mk A510
                clear A510
                by_cases c52 : t314 = true
                · subst c52
                  have H1 : (laws_FnExactSnapshotsOf.j1 kj16 l0 l1 a2 a3 a4 a5 t287 t288 t297 (t298 != t288)) = some r := by rw [if_pos rfl] at H; exact H
                  clear H
                  have H := H1
                  clear H1
                  as_aux_lemma =>
                   have H' := Aside0.mk H
                   clear H
                   obtain ⟨Ao53, co53, eo53⟩ := Kd.S_slice HO_18.out
                   subst eo53
                   obtain ⟨Ao54, co54, eo54⟩ := Kd.S_slice HO_14.out
                   subst eo54
                   go_wp2_with (first | (go_at_call 35; (with_reducible refine (laws_eqComplex64SS.calls kj16 _ _ t297 _ _ t287 true _ ?side1 ?side2 ?side3 ?side4 A51.out).mono ?_); (case side1 => repeat (first | exact (Kd.S_reads' HO_18.out).2.2 | (with_reducible refine Kd.C_alloc ?_ _) | (with_reducible refine Kd.C_drewN ?_ _) | (with_reducible refine Kd.C_drew ?_))); (case side2 => exact (Kd.S_reads' HO_18.out).2.1); (case side3 => repeat (first | exact (Kd.S_reads' HO_14.out).2.2 | (with_reducible refine Kd.C_alloc ?_ _) | (with_reducible refine Kd.C_drewN ?_ _) | (with_reducible refine Kd.C_drew ?_))); (case side4 => exact (Kd.S_reads' HO_14.out).2.1); rintro e w' ⟨rfl, ⟨nd, rfl⟩⟩))
                   go_meet
                   case rel => exact ⟨_, ((t298 != t288)), (by first | rfl | (simp; done) | (simp [*]; done)), H', ⟨by have := HJ16.out; first | omega | exact Nat.le_refl _⟩, ⟨by (with_reducible repeat (first | apply Kd.S_alloc | apply Kd.S_drewN | apply Kd.S_drew)); exact HO_14.out⟩, ⟨by (with_reducible repeat (first | apply Kd.S_alloc | apply Kd.S_drewN | apply Kd.S_drew)); exact HO_18.out⟩, ⟨by repeat (first | (with_reducible first | exact HB.out | apply below_alloc | apply pw_below_drewN | apply below_drew1) | exact HB.out)⟩⟩
                · replace c52 := Bool.eq_false_iff.mpr c52
                  subst c52
                  have H1 : (none) = some r := by rw [if_neg (show ¬ (false = true) by decide)] at H; exact H
                  clear H
                  have H := H1
                  clear H1
                  exact absurd H (by simp)
             case rest =>
              clear HC41
              (try clear c1); (try clear c2); (try clear p2); (try clear c3); (try clear c5); (try clear c6); (try clear c7); (try clear c8); (try clear c8b0); (try clear c10); (try clear c10b0); (try clear c12); (try clear c14); (try clear c16); (try clear c23); (try clear c25); (try clear c28); (try clear c29); (try clear c30); (try clear c32); (try clear c33); (try clear c34); (try clear c35); (try clear c38); (try clear c50); (try clear c50b0); (try clear c52); (try clear p2)
              (clear HO_14 HO_18); obtain ⟨kq, x98_40, rfl, HA, HJ40, HO_14, HO_18, HB⟩ := hcut
              cases kq with
              | zero => exact absurd HA.out (by simp [laws_FnExactSnapshotsOf.j1])
              | succ kj40 =>
               have H := HA.out
               clear HA
               simp only [laws_FnExactSnapshotsOf.j1] at H
               by_cases c55 : x98_40 = true
               · subst c55
                 have H1 : (none) = some r := by rw [if_pos rfl] at H; exact H
                 clear H
                 have H := H1
                 clear H1
                 exact absurd H (by simp)
               · replace c55 := Bool.eq_false_iff.mpr c55
                 subst c55
                 have H1 : ((laws_markComplex64SS.f kj40 t297 1).bind fun bt315 => ((laws_heldComplex64SS.f kj40 bt315.2 1).bind fun t317 => (if t317 < 0 then (none) else (if t317 = bt315.1 then ((laws_toPlaceS.f kj40 l0).bind fun t318 => ((laws_toSourceS.f kj40 l1).bind fun t321 => ((impl_SnapshotsOf.f kj40 t318 t321 a2 a3 a4 a5).bind fun bt324 => ((laws_eqComplex64SS.f kj40 bt324.1 t287).bind fun t328 => (if t328 = true then (laws_FnExactSnapshotsOf.j2 kj40 bt315.2 bt315.1 (bt324.2 != t288)) else (none)))))) else (none))))) = some r := by rw [if_neg (show ¬ (false = true) by decide)] at H; exact H
                 clear H
                 have H := H1
                 clear H1
                 replace H := Option.bind_eq_some_iff.mp H
                 obtain ⟨⟨t315, t316⟩, A560, H⟩ := H
                 replace H : ((laws_heldComplex64SS.f kj40 t316 1).bind fun t317 => (if t317 < 0 then (none) else (if t317 = t315 then ((laws_toPlaceS.f kj40 l0).bind fun t318 => ((laws_toSourceS.f kj40 l1).bind fun t321 => ((impl_SnapshotsOf.f kj40 t318 t321 a2 a3 a4 a5).bind fun bt324 => ((laws_eqComplex64SS.f kj40 bt324.1 t287).bind fun t328 => (if t328 = true then (laws_FnExactSnapshotsOf.j2 kj40 t316 t315 (bt324.2 != t288)) else (none)))))) else (none)))) = some r := H
                 have A56 := Aside0.mk A560
                 clear A560
                 replace H := Option.bind_eq_some_iff.mp H
                 obtain ⟨t317, A570, H⟩ := H
                 replace H : (if t317 < 0 then (none) else (if t317 = t315 then ((laws_toPlaceS.f kj40 l0).bind fun t318 => ((laws_toSourceS.f kj40 l1).bind fun t321 => ((impl_SnapshotsOf.f kj40 t318 t321 a2 a3 a4 a5).bind fun bt324 => ((laws_eqComplex64SS.f kj40 bt324.1 t287).bind fun t328 => (if t328 = true then (laws_FnExactSnapshotsOf.j2 kj40 t316 t315 (bt324.2 != t288)) else (none)))))) else (none))) = some r := H
                 have A57 := Aside0.mk A570
                 clear A570
                 by_cases c58 : t317 < 0
                 · rw [if_pos c58] at H
                   exact absurd H (by simp)
                 · rw [if_neg c58] at H
                   have c58b0 : decide (t317 < 0) = false := decide_eq_false c58
                   clear c58
                   by_cases c59 : t317 = t315
                   · rw [if_pos c59] at H
                     have c59b0 : (t317 == t315) = true := beq_iff_eq.mpr c59
                     have c59b1 : (t317 != t315) = false := bne_eq_false_iff_eq.mpr c59
                     clear c59
                     replace H := Option.bind_eq_some_iff.mp H
                     obtain ⟨t318, A600, H⟩ := H
                     replace H : ((laws_toSourceS.f kj40 l1).bind fun t321 => ((impl_SnapshotsOf.f kj40 t318 t321 a2 a3 a4 a5).bind fun bt324 => ((laws_eqComplex64SS.f kj40 bt324.1 t287).bind fun t328 => (if t328 = true then (laws_FnExactSnapshotsOf.j2 kj40 t316 t315 (bt324.2 != t288)) else (none))))) = some r := H
                     have A60 := Aside0.mk A600
                     clear A600
                     replace H := Option.bind_eq_some_iff.mp H
                     obtain ⟨t321, A610, H⟩ := H
                     replace H : ((impl_SnapshotsOf.f kj40 t318 t321 a2 a3 a4 a5).bind fun bt324 => ((laws_eqComplex64SS.f kj40 bt324.1 t287).bind fun t328 => (if t328 = true then (laws_FnExactSnapshotsOf.j2 kj40 t316 t315 (bt324.2 != t288)) else (none)))) = some r := H
                     have A61 := Aside0.mk A610
                     clear A610
                     replace H := Option.bind_eq_some_iff.mp H
                     obtain ⟨⟨t324, t325⟩, A620, H⟩ := H
                     replace H : ((laws_eqComplex64SS.f kj40 t324 t287).bind fun t328 => (if t328 = true then (laws_FnExactSnapshotsOf.j2 kj40 t316 t315 (t325 != t288)) else (none))) = some r := H
                     have A62 := Aside0.mk A620
                     clear A620
                     have HC63 := Aside0.mk H
                     clear H
                     obtain ⟨Ao64, co64, eo64⟩ := Kd.S_slice HO_18.out
                     subst eo64
                     go_upto_region 32 with (first | ((with_reducible refine gate_callee (f := 36) rfl ?_); refine goesL_ (some 101) rfl rfl Try.func36 (by kernel_rfl) rfl #[.slice Ao64 t297.length co64, .int .i64 1] rfl (by (try simp only [List.map_toArray, List.map_cons, List.map_nil]); first | done | rfl | (simp only [List.length_drop, List.length_take]; rfl)) ?_; (with_reducible refine (laws_markComplex64SS.calls kj40 (fun k_ => M_ ≤ k_) (.slice Ao64 t297.length co64) t297 1 t315 t316 w _ ?side1 ?side2 A56.out).mono ?_); (case side1 => repeat (first | (with_reducible first | exact HB.out | apply below_alloc | apply pw_below_drewN | apply below_drew1) | exact HB.out)); (case side2 => exact Kd.S_mono HO_18.out (fun _ hk => hk.2)); rintro e w65 ⟨rfl, hy0, hb, hkp⟩; refine ⟨_, rfl, ?_⟩; have n0_ := Aside0.mk (Kd.S_keptB (HO_14.out) hkp (fun k_ hk_ hs_ => Nat.not_le.2 hk_.2 hs_)); have n1_ := Aside0.mk hy0; have n2_ := Aside0.mk (hb); clear HO_14; clear HO_18; clear HB; have HO_14 := n0_; have HO_18 := n1_; have HB := n2_; clear n0_ n1_ n2_; (try clear hb); (try clear hkp); (try clear hy0)) | ((with_reducible refine gate_callee (f := 37) rfl ?_); refine goesL_ (some 104) rfl rfl Try.func37 (by kernel_rfl) rfl #[.slice Ao64 t316.length co64, .int .i64 1] rfl (by (try simp only [List.map_toArray, List.map_cons, List.map_nil]); first | done | (rw [show t316.length = t297.length from (Kd.S_reads' HO_18.out).1.symm] <;> rfl) | rfl | (simp only [List.length_drop, List.length_take]; rfl)) ?_; (with_reducible refine (laws_heldComplex64SS.calls kj40 _ _ t316 1 t317 _ ?side1 ?side2 A57.out).mono ?_); (case side1 => repeat (first | exact (Kd.S_reads' HO_18.out).2.2 | (with_reducible refine Kd.C_alloc ?_ _) | (with_reducible refine Kd.C_drewN ?_ _) | (with_reducible refine Kd.C_drew ?_))); (case side2 => rw [show t316.length = t297.length from (Kd.S_reads' HO_18.out).1.symm]; exact (Kd.S_reads' HO_18.out).2.1); rintro e w66 ⟨rfl, hb⟩; refine ⟨_, rfl, ?_⟩; have n0_ := Aside0.mk (Kd.S_below (by (with_reducible repeat (first | apply Kd.S_alloc | apply Kd.S_drewN | apply Kd.S_drew)); exact HO_14.out) hb); have n1_ := Aside0.mk (Kd.S_below (by (with_reducible repeat (first | apply Kd.S_alloc | apply Kd.S_drewN | apply Kd.S_drew)); exact HO_18.out) hb); have n2_ := Aside0.mk (below_step (by repeat (first | (with_reducible first | exact HB.out | apply below_alloc | apply pw_below_drewN | apply below_drew1) | exact HB.out)) hb); clear HO_14; clear HO_18; clear HB; have HO_14 := n0_; have HO_18 := n1_; have HB := n2_; clear n0_ n1_ n2_; (try clear hb); (try clear hb2); (try clear hk); (try clear hi)) | ((with_reducible refine gate_callee (f := 25) rfl ?_); refine goesL_ (some 112) rfl rfl Try.func25 (by kernel_rfl) rfl #[.slice A0 l0.length c0] rfl (by (try simp only [List.map_toArray, List.map_cons, List.map_nil]); first | done | rfl | (simp only [List.length_drop, List.length_take]; rfl)) ?_; (with_reducible refine (laws_toPlaceS.calls kj40 _ _ l0 t318 _ ?side1 ?side2 A60.out).mono ?_); (case side1 => repeat (first | exact (Kd.C_below HR0.out HB.out) | (with_reducible refine Kd.C_alloc ?_ _) | (with_reducible refine Kd.C_drewN ?_ _) | (with_reducible refine Kd.C_drew ?_))); (case side2 => exact HC0.out); rintro e w67 ⟨v319, rfl, ho0, hb⟩; refine ⟨_, rfl, ?_⟩; have n0_ := Aside0.mk (Kd.S_below (by (with_reducible repeat (first | apply Kd.S_alloc | apply Kd.S_drewN | apply Kd.S_drew)); exact HO_14.out) hb); have n1_ := Aside0.mk (Kd.S_below (by (with_reducible repeat (first | apply Kd.S_alloc | apply Kd.S_drewN | apply Kd.S_drew)); exact HO_18.out) hb); have n2_ := Aside0.mk (Kd.R_lower ho0 (below_size (by repeat (first | (with_reducible first | exact HB.out | apply below_alloc | apply pw_below_drewN | apply below_drew1) | exact HB.out)))); have n3_ := Aside0.mk (below_step (by repeat (first | (with_reducible first | exact HB.out | apply below_alloc | apply pw_below_drewN | apply below_drew1) | exact HB.out)) hb); clear HO_14; clear HO_18; clear HB; have HO_14 := n0_; have HO_18 := n1_; have HO320 := n2_; have HB := n3_; clear n0_ n1_ n2_ n3_; (try clear hb); (try clear hb2); (try clear hk); (try clear hi); (try clear ho0)) | ((with_reducible refine gate_callee (f := 14) rfl ?_); refine goesL_ (some 114) rfl rfl Try.func14 (by kernel_rfl) rfl #[.slice A1 l1.length c1] rfl (by (try simp only [List.map_toArray, List.map_cons, List.map_nil]); first | done | rfl | (simp only [List.length_drop, List.length_take]; rfl)) ?_; (with_reducible refine (laws_toSourceS.calls kj40 _ _ l1 t321 _ ?side1 ?side2 A61.out).mono ?_); (case side1 => repeat (first | exact (Kd.C_below HR1.out HB.out) | (with_reducible refine Kd.C_alloc ?_ _) | (with_reducible refine Kd.C_drewN ?_ _) | (with_reducible refine Kd.C_drew ?_))); (case side2 => exact HC1.out); rintro e w68 ⟨v322, rfl, ho0, hb⟩; refine ⟨_, rfl, ?_⟩; have n0_ := Aside0.mk (Kd.S_below (by (with_reducible repeat (first | apply Kd.S_alloc | apply Kd.S_drewN | apply Kd.S_drew)); exact HO_14.out) hb); have n1_ := Aside0.mk (Kd.S_below (by (with_reducible repeat (first | apply Kd.S_alloc | apply Kd.S_drewN | apply Kd.S_drew)); exact HO_18.out) hb); have n2_ := Aside0.mk (Kd.R_below (by (with_reducible repeat (first | apply Kd.R_alloc | apply Kd.R_drewN | apply Kd.R_drew)); exact HO320.out) hb); have n3_ := Aside0.mk (Kd.R_lower ho0 (below_size (by repeat (first | (with_reducible first | exact HB.out | apply below_alloc | apply pw_below_drewN | apply below_drew1) | exact HB.out)))); have n4_ := Aside0.mk (below_step (by repeat (first | (with_reducible first | exact HB.out | apply below_alloc | apply pw_below_drewN | apply below_drew1) | exact HB.out)) hb); clear HO_14; clear HO_18; clear HO320; clear HB; have HO_14 := n0_; have HO_18 := n1_; have HO320 := n2_; have HO323 := n3_; have HB := n4_; clear n0_ n1_ n2_ n3_ n4_; (try clear hb); (try clear hb2); (try clear hk); (try clear hi); (try clear ho0); obtain ⟨Ao69, co69, eo69⟩ := Kd.R_slice HO320.out; subst eo69; obtain ⟨Ao70, co70, eo70⟩ := Kd.R_slice HO323.out; subst eo70) | ((with_reducible refine gate_callee (f := 34) rfl ?_); refine goesL_ (some 119) rfl rfl Try.func34 (by kernel_rfl) rfl #[.slice Ao69 t318.length co69, .slice Ao70 t321.length co70, .float .f32 a2, .int .i64 a3, .int .i64 a4, .int .i64 a5] rfl (by (try simp only [List.map_toArray, List.map_cons, List.map_nil]); first | done | rfl | (simp only [List.length_drop, List.length_take]; rfl)) ?_; (with_reducible refine (impl_SnapshotsOf.calls kj40 _ _ t318 _ _ t321 a2 a3 a4 a5 t324 t325 _ ?side1 ?side2 ?side3 ?side4 A62.out).mono ?_); (case side1 => repeat (first | exact (Kd.R_reads' HO320.out).2.2 | (with_reducible refine Kd.C_alloc ?_ _) | (with_reducible refine Kd.C_drewN ?_ _) | (with_reducible refine Kd.C_drew ?_))); (case side2 => exact (Kd.R_reads' HO320.out).2.1); (case side3 => repeat (first | exact (Kd.R_reads' HO323.out).2.2 | (with_reducible refine Kd.C_alloc ?_ _) | (with_reducible refine Kd.C_drewN ?_ _) | (with_reducible refine Kd.C_drew ?_))); (case side4 => exact (Kd.R_reads' HO323.out).2.1); rintro e w71 ⟨v326, rfl, ho0, hb⟩; refine ⟨_, rfl, ?_⟩; have n0_ := Aside0.mk (Kd.S_elder' (by (with_reducible repeat (first | apply Kd.S_alloc | apply Kd.S_drewN | apply Kd.S_drew)); exact HO_14.out) (Kd.S_base ho0) hb); have n1_ := Aside0.mk (Kd.S_elder' (by (with_reducible repeat (first | apply Kd.S_alloc | apply Kd.S_drewN | apply Kd.S_drew)); exact HO_18.out) (Kd.S_base ho0) hb); have n2_ := Aside0.mk (Kd.R_below (by (with_reducible repeat (first | apply Kd.R_alloc | apply Kd.R_drewN | apply Kd.R_drew)); exact HO320.out) hb); have n3_ := Aside0.mk (Kd.R_below (by (with_reducible repeat (first | apply Kd.R_alloc | apply Kd.R_drewN | apply Kd.R_drew)); exact HO323.out) hb); have n4_ := Aside0.mk (Kd.S_lower (Kd.S_new' (Kd.S_new' ho0 (Kd.S_lt (by (with_reducible repeat (first | apply Kd.S_alloc | apply Kd.S_drewN | apply Kd.S_drew)); exact HO_14.out))) (Kd.S_lt (by (with_reducible repeat (first | apply Kd.S_alloc | apply Kd.S_drewN | apply Kd.S_drew)); exact HO_18.out))) (below_size (by repeat (first | (with_reducible first | exact HB.out | apply below_alloc | apply pw_below_drewN | apply below_drew1) | exact HB.out)))); have n5_ := Aside0.mk (below_step (by repeat (first | (with_reducible first | exact HB.out | apply below_alloc | apply pw_below_drewN | apply below_drew1) | exact HB.out)) hb); clear HO_14; clear HO_18; clear HO320; clear HO323; clear HB; have HO_14 := n0_; have HO_18 := n1_; have HO320 := n2_; have HO323 := n3_; have HO327 := n4_; have HB := n5_; clear n0_ n1_ n2_ n3_ n4_ n5_; (try clear hb); (try clear hb2); (try clear hk); (try clear hi); (try clear ho0)))
                     (try simp only [Act.put, List.setIfInBounds_toArray, List.set_cons_zero, List.set_cons_succ])
                     go_cut [130] (fun v130 wc => ∃ (kq : Nat) (x130_62 : Bool), v130 = .bool x130_62 ∧ Aside0 (laws_FnExactSnapshotsOf.j2 kq t316 t315 x130_62 = some r) ∧ Aside0 (kq ≤ kj40) ∧ Aside0 (Kd.S (Kd.slice 94 Kd.c64) 45 wc w.heap.size (fun _ => True) (.slice Ao64 t297.length co64) t316) ∧ Aside0 (Below w.heap.size w wc))
                     case first =>
                      have H := HC63.out
                      clear HC63
                      replace H := Option.bind_eq_some_iff.mp H
                      obtain ⟨t328, A720, H⟩ := H
                      replace H : (if t328 = true then (laws_FnExactSnapshotsOf.j2 kj40 t316 t315 (t325 != t288)) else (none)) = some r := H
                      have A72 := Aside0.mk A720
                      clear A720
                      by_cases c73 : t328 = true
                      · subst c73
                        have H1 : (laws_FnExactSnapshotsOf.j2 kj40 t316 t315 (t325 != t288)) = some r := by rw [if_pos rfl] at H; exact H
                        clear H
                        have H := H1
                        clear H1
                        as_aux_lemma =>
                         have H' := Aside0.mk H
                         clear H
                         obtain ⟨Ao74, co74, eo74⟩ := Kd.S_slice HO327.out
                         subst eo74
                         obtain ⟨Ao75, co75, eo75⟩ := Kd.S_slice HO_14.out
                         subst eo75
                         go_wp2_with (first | ((with_reducible refine gate_callee (f := 35) rfl ?_); refine goesL_ (some 124) rfl rfl Try.func35 (by kernel_rfl) rfl #[.slice Ao74 t324.length co74, .slice Ao75 t287.length co75] rfl (by (try simp only [List.map_toArray, List.map_cons, List.map_nil]); first | done | rfl | (simp only [List.length_drop, List.length_take]; rfl)) ?_; (with_reducible refine (laws_eqComplex64SS.calls kj40 _ _ t324 _ _ t287 true _ ?side1 ?side2 ?side3 ?side4 A72.out).mono ?_); (case side1 => repeat (first | exact (Kd.S_reads' HO327.out).2.2 | (with_reducible refine Kd.C_alloc ?_ _) | (with_reducible refine Kd.C_drewN ?_ _) | (with_reducible refine Kd.C_drew ?_))); (case side2 => exact (Kd.S_reads' HO327.out).2.1); (case side3 => repeat (first | exact (Kd.S_reads' HO_14.out).2.2 | (with_reducible refine Kd.C_alloc ?_ _) | (with_reducible refine Kd.C_drewN ?_ _) | (with_reducible refine Kd.C_drew ?_))); (case side4 => exact (Kd.S_reads' HO_14.out).2.1); rintro e w' ⟨rfl, ⟨nd, rfl⟩⟩; refine ⟨_, rfl, ?_⟩))
                         go_meet
                         case rel => exact ⟨_, ((t325 != t288)), (by first | rfl | (simp; done) | (simp [*]; done)), H', ⟨by have := HJ16.out; have := HJ40.out; first | omega | exact Nat.le_refl _⟩, ⟨by (with_reducible repeat (first | apply Kd.S_alloc | apply Kd.S_drewN | apply Kd.S_drew)); exact Kd.S_mono HO_18.out (fun _ hk => trivial)⟩, ⟨by repeat (first | (with_reducible first | exact HB.out | apply below_alloc | apply pw_below_drewN | apply below_drew1) | exact HB.out)⟩⟩
                      · replace c73 := Bool.eq_false_iff.mpr c73
                        subst c73
                        have H1 : (none) = some r := by rw [if_neg (show ¬ (false = true) by decide)] at H; exact H
                        clear H
                        have H := H1
                        clear H1
                        exact absurd H (by simp)
                     case rest =>
                      clear HC63
                      (try clear c1); (try clear c2); (try clear p2); (try clear c3); (try clear c5); (try clear c6); (try clear c7); (try clear c8); (try clear c8b0); (try clear c10); (try clear c10b0); (try clear c12); (try clear c14); (try clear c16); (try clear c23); (try clear c25); (try clear c28); (try clear c29); (try clear c30); (try clear c32); (try clear c33); (try clear c34); (try clear c35); (try clear c36); (try clear c37); (try clear c38); (try clear c50); (try clear c50b0); (try clear c52); (try clear c55); (try clear c58); (try clear c58b0); (try clear c59); (try clear c59b0); (try clear c59b1); (try clear c64); (try clear c73); (try clear p2)
                      obtain ⟨kq, x130_62, rfl, HA, HJ62, HO_18, HB⟩ := hcut
                      have hl18_62 := (Kd.S_reads' HO_18.out).1
                      rw [hl18_62] at HO_18
                      (try simp only [hl18_62])
                      cases kq with
                      | zero => exact absurd HA.out (by simp [laws_FnExactSnapshotsOf.j2])
                      | succ kj62 =>
                       have H := HA.out
                       clear HA
                       simp only [laws_FnExactSnapshotsOf.j2] at H
                       by_cases c76 : x130_62 = true
                       · subst c76
                         have H1 : (none) = some r := by rw [if_pos rfl] at H; exact H
                         clear H
                         have H := H1
                         clear H1
                         exact absurd H (by simp)
                       · replace c76 := Bool.eq_false_iff.mpr c76
                         subst c76
                         have H1 : ((laws_heldComplex64SS.f kj62 t316 1).bind fun t329 => (if t329 < 0 then (none) else (if t329 = t315 then (some true) else (none)))) = some r := by rw [if_neg (show ¬ (false = true) by decide)] at H; exact H
                         clear H
                         have H := H1
                         clear H1
                         replace H := Option.bind_eq_some_iff.mp H
                         obtain ⟨t329, A770, H⟩ := H
                         replace H : (if t329 < 0 then (none) else (if t329 = t315 then (some true) else (none))) = some r := H
                         have A77 := Aside0.mk A770
                         clear A770
                         by_cases c78 : t329 < 0
                         · rw [if_pos c78] at H
                           exact absurd H (by simp)
                         · rw [if_neg c78] at H
                           have c78b0 : decide (t329 < 0) = false := decide_eq_false c78
                           clear c78
                           by_cases c79 : t329 = t315
                           · rw [if_pos c79] at H
                             have c79b0 : (t329 == t315) = true := beq_iff_eq.mpr c79
                             have c79b1 : (t329 != t315) = false := bne_eq_false_iff_eq.mpr c79
                             clear c79
                             as_aux_lemma =>
                              obtain rfl := Option.some.inj H
                              go_wp2_with (first | ((with_reducible refine gate_callee (f := 37) rfl ?_); refine goesL_ (some 133) rfl rfl Try.func37 (by kernel_rfl) rfl #[.slice Ao64 t316.length co64, .int .i64 1] rfl (by (try simp only [List.map_toArray, List.map_cons, List.map_nil]); first | done | rfl | (simp only [List.length_drop, List.length_take]; rfl)) ?_; (with_reducible refine (laws_heldComplex64SS.calls kj62 _ _ t316 1 t329 _ ?side1 ?side2 A77.out).mono ?_); (case side1 => repeat (first | exact (Kd.S_reads' HO_18.out).2.2 | (with_reducible refine Kd.C_alloc ?_ _) | (with_reducible refine Kd.C_drewN ?_ _) | (with_reducible refine Kd.C_drew ?_))); (case side2 => exact (Kd.S_reads' HO_18.out).2.1); rintro e w80 ⟨rfl, hb⟩; refine ⟨_, rfl, ?_⟩; have n0_ := Aside0.mk (Kd.S_below (by (with_reducible repeat (first | apply Kd.S_alloc | apply Kd.S_drewN | apply Kd.S_drew)); exact HO_18.out) hb); have n1_ := Aside0.mk (below_step (by repeat (first | (with_reducible first | exact HB.out | apply below_alloc | apply pw_below_drewN | apply below_drew1) | exact HB.out)) hb); clear HO_18; clear HB; have HO_18 := n0_; have HB := n1_; clear n0_ n1_; (try clear hb); (try clear hb2); (try clear hk); (try clear hi)))
                              go_ret
                              exact ⟨by first | rfl | (simp [errW_none, errW_some] <;> rfl) | (simp [*, errW_none, errW_some] <;> rfl), by repeat (first | (with_reducible first | exact HB.out | apply below_alloc | apply pw_below_drewN | apply below_drew1) | exact HB.out)⟩
                           · rw [if_neg c79] at H
                             exact absurd H (by simp)
                   · rw [if_neg c59] at H
                     exact absurd H (by simp)
           · replace c38 := Bool.eq_false_iff.mpr c38
             subst c38
             have H1 : (none) = some r := by rw [if_neg (show ¬ (false = true) by decide)] at H; exact H
             clear H
             have H := H1
             clear H1
             exact absurd H (by simp)
         · replace c35 := Bool.eq_false_iff.mpr c35
           subst c35
           have H1 : (none) = some r := by rw [if_neg (show ¬ (false = true) by decide)] at H; exact H
           clear H
           have H := H1
           clear H1
           exact absurd H (by simp)

end Go.Proofs.Ytncckihaacceaaa.S
