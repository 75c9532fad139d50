/-
  Contracts of the program's functions, each a plain Lean function beside the machine's call: written by this session's program over the kit's print.
-/
import Derived.Test.YtekcngoemeadlaaUx0
import Derived.Test.YtekcngoemeadlaaUx1
import Derived.Test.YtekcngoemeadlaaUx3
namespace Go.Proofs.Ytekcngoemeadlaa.U
open Go.RowKit Go.Proofs.YtekcngoemeadlaaW.PrintWords Go.Proofs.YtekcngoemeadlaaW.PrintLast Go.Proofs.YtekcngoemeadlaaW.PrintMore
attribute [local go_sem] max2_int min2_int max_two min_two max_three min_three max_four min_four   -- for this text's walks alone
set_option linter.unusedVariables false
set_option linter.unusedSimpArgs false

/-! ### impl_FarBeams: function 36 -/
-- rounds
/-- Whether beam k is nearer than ap to a direction, as the program tells it. -/
def nearB (l : List S54) (ap y0 y1 : Int) (k : Nat) : Bool := decide (mx (mx (wrap64 ((l.getD k z54).f0.f0 - y0)) (wrap64 (-(wrap64 ((l.getD k z54).f0.f0 - y0))))) (mx (wrap64 ((l.getD k z54).f0.f1 - y1)) (wrap64 (-(wrap64 ((l.getD k z54).f0.f1 - y1))))) < ap)
set_option maxRecDepth 100000 in
set_option maxHeartbeats 4000000 in
theorem far_1 (k : Nat) (B2 Bb B3 : Nat) (A : Option Addr) (c : Nat) (l : List S54) (y0 y1 y2 y3 : Int) (ap : Int) (w : World) (hk : k < l.length) (hR : Kd.C k54 w A l.length l)
    (h2 : w.heap[B2]? = some (.cells #[.slice A l.length c] 32 (0, 0))) (hb : w.heap[Bb]? = some (.cells #[.int .i64 y0, .int .i64 y1, .int .i64 y2, .int .i64 y3] 54 (0, 0))) (h3 : w.heap[B3]? = some (.cells #[.int .i64 ap] 2 (0, 0))) :
    Calls Try.prog 76 #[.int .i64 k, .pointer (some ⟨B2, 0, none⟩), .pointer (some ⟨Bb, 0, none⟩), .pointer (some ⟨B3, 0, none⟩)] w fun e w' => e = .returned (.bool (nearB l ap y0 y1 k)) ∧ Below w.heap.size w w' := by
  have hn := hR.2.1
  have q2 := (blk_cell h2 0).trans rfl
  obtain ⟨ad, hA, hc0, hc1, -, -⟩ := at_T54 hR (k : Int) (by omega) (by omega)
  have hrd : rd_T54 l (k : Int) = l.getD k z54 := by simp [rd_T54]
  rw [hrd, Int.toNat_natCast] at hc0 hc1
  subst hA
  have HK : (k : Int) < (l.length : Int) := by omega
  unfold nearB
  clear hrd hR
  generalize (l.getD k z54).f0.f0 = x0 at *
  generalize (l.getD k z54).f0.f1 = x1 at *
  obtain ⟨fa, hfa⟩ : ∃ j, mx (wrap64 (x0 - y0)) (wrap64 (-(wrap64 (x0 - y0)))) = j := ⟨_, rfl⟩
  obtain ⟨fb, hfb⟩ : ∃ j, mx (wrap64 (x1 - y1)) (wrap64 (-(wrap64 (x1 - y1)))) = j := ⟨_, rfl⟩
  rw [hfa, hfb]
  have FA := Aside0.mk (show impl_far.f (wrap64 (x0 - y0)) = some fa from congrArg some hfa)
  have FB := Aside0.mk (show impl_far.f (wrap64 (x1 - y1)) = some fb from congrArg some hfb)
  obtain ⟨fm, hfm⟩ : ∃ j, mx fa fb = j := ⟨_, rfl⟩
  rw [hfm]
  unfold mx at hfm
  clear hfa hfb
  go_enter Try.func76, Try.ntmps76
  go_wp2
  obtain ⟨g6, hg6⟩ : ∃ g, g = w.heap.size := ⟨_, rfl⟩
  have BK6 := Aside0.mk (show (w.alloc (.cells #[.int .i64 x0, .int .i64 x1] 26)).heap[g6]? = some (.cells #[.int .i64 x0, .int .i64 x1] 26 (0, 0)) from by rw [hg6]; exact heap_alloc_new w _)
  have BKb := Aside0.mk (blk_alloc hb (.cells #[.int .i64 x0, .int .i64 x1] 26))
  have BK3 := Aside0.mk (blk_alloc h3 (.cells #[.int .i64 x0, .int .i64 x1] 26))
  have HB := Aside0.mk (below_alloc (Below.refl w.heap.size w) (.cells #[.int .i64 x0, .int .i64 x1] 26))
  clear h2 hb h3 q2 hc0 hc1
  rw [← hg6]
  clear hg6
  generalize w.alloc (.cells #[.int .i64 x0, .int .i64 x1] 26) = w7 at BK6 BKb BK3 HB ⊢
  have n0_ := Aside0.mk (blk_drew BK6.out)
  have n1_ := Aside0.mk (blk_drew BKb.out)
  have n2_ := Aside0.mk (blk_drew BK3.out)
  have nh_ := Aside0.mk (below_drew1 HB.out)
  clear BK6 BKb BK3 HB
  have BK6 := n0_
  have BKb := n1_
  have BK3 := n2_
  have HB := nh_
  clear n0_ n1_ n2_ nh_
  refine start_ (n := 18) (S := fun w' => w'.cell? ⟨g6, 0, none⟩ = some (.int .i64 x0) ∧ w'.cell? ⟨g6, 1, none⟩ = some (.int .i64 x1) ∧ w'.cell? ⟨Bb, 0, none⟩ = some (.int .i64 y0) ∧ w'.cell? ⟨Bb, 1, none⟩ = some (.int .i64 y1) ∧ w'.cell? ⟨B3, 0, none⟩ = some (.int .i64 ap)) (ds := []) #[false, false, false, false, false, false, false, false, false, false, false, false, false, false, false, false, false, false] (by kernel_rfl) rfl rfl ⟨(blk_cell BK6.out 0).trans rfl, (blk_cell BK6.out 1).trans rfl, (blk_cell BKb.out 0).trans rfl, (blk_cell BKb.out 1).trans rfl, (blk_cell BK3.out 0).trans rfl⟩ (fun hHeld => ?_)
  generalize World.drew _ = w8 at BK6 BKb BK3 HB hHeld ⊢
  refine pure_ (i := 0) (N := some 12) (v := ?_) (a' := ?_) #[true, false, false, false, false, false, false, false, false, false, false, false, false, false, false, false, false, false] rfl rfl (by kernel_rfl) (fun _ _ _ h => h) (Or.inl ⟨by rfl, ?_⟩) ?_ ?_
  rotate_left
  · intro w'
    go_simp
    with_reducible rfl
  rotate_left
  · simp only [Act.put, List.setIfInBounds_toArray, List.set_cons_zero, List.set_cons_succ, i64_w, i32_w]
    rfl
  refine pure_ (i := 2) (N := some 14) (v := ?_) (a' := ?_) #[true, false, true, false, false, false, false, false, false, false, false, false, false, false, false, false, false, false] rfl rfl (by kernel_rfl) (fun _ _ _ h => h) (Or.inl ⟨by rfl, ?_⟩) ?_ ?_
  rotate_left
  · intro w'
    go_simp
    with_reducible rfl
  rotate_left
  · simp only [Act.put, List.setIfInBounds_toArray, List.set_cons_zero, List.set_cons_succ, i64_w, i32_w]
    rfl
  refine pure_ (i := 3) (N := some 15) (v := ?_) (a' := ?_) #[true, false, true, true, false, false, false, false, false, false, false, false, false, false, false, false, false, false] rfl rfl (by kernel_rfl) (fun _ _ _ h => h) (Or.inl ⟨by rfl, ?_⟩) ?_ ?_
  rotate_left
  · intro w'
    go_simp
    with_reducible rfl
  rotate_left
  · simp only [Act.put, List.setIfInBounds_toArray, List.set_cons_zero, List.set_cons_succ, i64_w, i32_w]
    rfl
  refine pure_ (i := 7) (N := some 19) (v := ?_) (a' := ?_) #[true, false, true, true, false, false, false, true, false, false, false, false, false, false, false, false, false, false] rfl rfl (by kernel_rfl) (fun _ _ _ h => h) (Or.inl ⟨by rfl, ?_⟩) ?_ ?_
  rotate_left
  · intro w'
    go_simp
    with_reducible rfl
  rotate_left
  · simp only [Act.put, List.setIfInBounds_toArray, List.set_cons_zero, List.set_cons_succ, i64_w, i32_w]
    rfl
  refine pure_ (i := 9) (N := some 21) (v := ?_) (a' := ?_) #[true, false, true, true, false, false, false, true, false, true, false, false, false, false, false, false, false, false] rfl rfl (by kernel_rfl) (fun _ _ _ h => h) (Or.inl ⟨by rfl, ?_⟩) ?_ ?_
  rotate_left
  · intro w'
    go_simp
    with_reducible rfl
  rotate_left
  · simp only [Act.put, List.setIfInBounds_toArray, List.set_cons_zero, List.set_cons_succ, i64_w, i32_w]
    rfl
  refine pure_ (i := 10) (N := some 22) (v := ?_) (a' := ?_) #[true, false, true, true, false, false, false, true, false, true, true, false, false, false, false, false, false, false] rfl rfl (by kernel_rfl) (fun _ _ _ h => h) (Or.inl ⟨by rfl, ?_⟩) ?_ ?_
  rotate_left
  · intro w'
    go_simp
    with_reducible rfl
  rotate_left
  · simp only [Act.put, List.setIfInBounds_toArray, List.set_cons_zero, List.set_cons_succ, i64_w, i32_w]
    rfl
  refine take_ (i := 1) (N := some 13) (v := ?_) (a' := ?_) #[true, true, true, true, false, false, false, true, false, true, true, false, false, false, false, false, false, false] rfl rfl (by kernel_rfl) (fun _ _ _ h => h) (Or.inl ⟨by rfl, ?_⟩) hHeld ?_ ?_
  rotate_left
  · rintro w' ⟨s0, s1, s2, s3, s4⟩
    go_simp
    with_reducible rfl
  rotate_left
  · simp only [Act.put, List.setIfInBounds_toArray, List.set_cons_zero, List.set_cons_succ, i64_w, i32_w]
    rfl
  refine take_ (i := 4) (N := some 16) (v := ?_) (a' := ?_) #[true, true, true, true, true, false, false, true, false, true, true, false, false, false, false, false, false, false] rfl rfl (by kernel_rfl) (fun _ _ _ h => h) (Or.inl ⟨by rfl, ?_⟩) hHeld ?_ ?_
  rotate_left
  · rintro w' ⟨s0, s1, s2, s3, s4⟩
    go_simp
    with_reducible rfl
  rotate_left
  · simp only [Act.put, List.setIfInBounds_toArray, List.set_cons_zero, List.set_cons_succ, i64_w, i32_w]
    rfl
  refine take_ (i := 8) (N := some 20) (v := ?_) (a' := ?_) #[true, true, true, true, true, false, false, true, true, true, true, false, false, false, false, false, false, false] rfl rfl (by kernel_rfl) (fun _ _ _ h => h) (Or.inl ⟨by rfl, ?_⟩) hHeld ?_ ?_
  rotate_left
  · rintro w' ⟨s0, s1, s2, s3, s4⟩
    go_simp
    with_reducible rfl
  rotate_left
  · simp only [Act.put, List.setIfInBounds_toArray, List.set_cons_zero, List.set_cons_succ, i64_w, i32_w]
    rfl
  refine take_ (i := 11) (N := some 23) (v := ?_) (a' := ?_) #[true, true, true, true, true, false, false, true, true, true, true, true, false, false, false, false, false, false] rfl rfl (by kernel_rfl) (fun _ _ _ h => h) (Or.inl ⟨by rfl, ?_⟩) hHeld ?_ ?_
  rotate_left
  · rintro w' ⟨s0, s1, s2, s3, s4⟩
    go_simp
    with_reducible rfl
  rotate_left
  · simp only [Act.put, List.setIfInBounds_toArray, List.set_cons_zero, List.set_cons_succ, i64_w, i32_w]
    rfl
  refine take_ (i := 15) (N := some 27) (v := ?_) (a' := ?_) #[true, true, true, true, true, false, false, true, true, true, true, true, false, false, false, true, false, false] rfl rfl (by kernel_rfl) (fun _ _ _ h => h) (Or.inl ⟨by rfl, ?_⟩) hHeld ?_ ?_
  rotate_left
  · rintro w' ⟨s0, s1, s2, s3, s4⟩
    go_simp
    with_reducible rfl
  rotate_left
  · simp only [Act.put, List.setIfInBounds_toArray, List.set_cons_zero, List.set_cons_succ, i64_w, i32_w]
    rfl
  refine pure_ (i := 5) (N := some 17) (v := ?_) (a' := ?_) #[true, true, true, true, true, true, false, true, true, true, true, true, false, false, false, true, false, false] rfl rfl (by kernel_rfl) (fun _ _ _ h => h) (Or.inl ⟨by rfl, ?_⟩) ?_ ?_
  rotate_left
  · intro w'
    go_simp
    with_reducible rfl
  rotate_left
  · simp only [Act.put, List.setIfInBounds_toArray, List.set_cons_zero, List.set_cons_succ, i64_w, i32_w]
    rfl
  refine pure_ (i := 12) (N := some 24) (v := ?_) (a' := ?_) #[true, true, true, true, true, true, false, true, true, true, true, true, true, false, false, true, false, false] rfl rfl (by kernel_rfl) (fun _ _ _ h => h) (Or.inl ⟨by rfl, ?_⟩) ?_ ?_
  rotate_left
  · intro w'
    go_simp
    with_reducible rfl
  rotate_left
  · simp only [Act.put, List.setIfInBounds_toArray, List.set_cons_zero, List.set_cons_succ, i64_w, i32_w]
    rfl
  refine one_ (i := 6) (N := some 18) #[true, true, true, true, true, true, true, true, true, true, true, true, true, false, false, true, false, false] rfl rfl (by kernel_rfl) (by decide) (fun K hK => ?_)
  refine call_ 77 #[.int .i64 (wrap64 (x0 - y0))] (by rfl) rfl (by first | (go_simp; done) | (go_simp; rfl)) ?_
  refine (impl_far.calls (wrap64 (x0 - y0)) _ _ FA.out).mono ?_
  rintro e wc ⟨rfl, hcb⟩
  refine ⟨_, rfl, ?_⟩
  have n0_ := Aside0.mk (blk_below BK6.out hcb)
  have n1_ := Aside0.mk (blk_below BKb.out hcb)
  have n2_ := Aside0.mk (blk_below BK3.out hcb)
  have nh_ := Aside0.mk (below_step HB.out hcb)
  clear BK6 BKb BK3 HB
  have BK6 := n0_
  have BKb := n1_
  have BK3 := n2_
  have HB := nh_
  clear n0_ n1_ n2_ nh_
  clear hcb
  refine hK.out _ _ ⟨(blk_cell BK6.out 0).trans rfl, (blk_cell BK6.out 1).trans rfl, (blk_cell BKb.out 0).trans rfl, (blk_cell BKb.out 1).trans rfl, (blk_cell BK3.out 0).trans rfl⟩ (fun hHeld => ?_)
  clear hK K
  refine norm_ (a' := ?_) ?_ ?_
  rotate_left
  · show Act.put _ (some 18) _ = _
    simp only [Act.put, List.setIfInBounds_toArray, List.set_cons_zero, List.set_cons_succ, i64_w, i32_w]
    rfl
  refine one_ (i := 13) (N := some 25) #[true, true, true, true, true, true, true, true, true, true, true, true, true, true, false, true, false, false] rfl rfl (by kernel_rfl) (by decide) (fun K hK => ?_)
  refine call_ 77 #[.int .i64 (wrap64 (x1 - y1))] (by rfl) rfl (by first | (go_simp; done) | (go_simp; rfl)) ?_
  refine (impl_far.calls (wrap64 (x1 - y1)) _ _ FB.out).mono ?_
  rintro e wc ⟨rfl, hcb⟩
  refine ⟨_, rfl, ?_⟩
  have n0_ := Aside0.mk (blk_below BK6.out hcb)
  have n1_ := Aside0.mk (blk_below BKb.out hcb)
  have n2_ := Aside0.mk (blk_below BK3.out hcb)
  have nh_ := Aside0.mk (below_step HB.out hcb)
  clear BK6 BKb BK3 HB
  have BK6 := n0_
  have BKb := n1_
  have BK3 := n2_
  have HB := nh_
  clear n0_ n1_ n2_ nh_
  clear hcb
  refine hK.out _ _ ⟨(blk_cell BK6.out 0).trans rfl, (blk_cell BK6.out 1).trans rfl, (blk_cell BKb.out 0).trans rfl, (blk_cell BKb.out 1).trans rfl, (blk_cell BK3.out 0).trans rfl⟩ (fun hHeld => ?_)
  clear hK K
  refine norm_ (a' := ?_) ?_ ?_
  rotate_left
  · show Act.put _ (some 25) _ = _
    simp only [Act.put, List.setIfInBounds_toArray, List.set_cons_zero, List.set_cons_succ, i64_w, i32_w]
    rfl
  refine pure_ (i := 14) (N := some 26) (v := ?_) (a' := ?_) #[true, true, true, true, true, true, true, true, true, true, true, true, true, true, true, true, false, false] rfl rfl (by kernel_rfl) (fun _ _ _ h => h) (Or.inl ⟨by rfl, ?_⟩) ?_ ?_
  rotate_left
  · intro w'
    go_simp
    with_reducible rfl
  rotate_left
  · simp only [Act.put, List.setIfInBounds_toArray, List.set_cons_zero, List.set_cons_succ, i64_w, i32_w]
    rfl
  refine pure_ (i := 16) (N := some 28) (v := ?_) (a' := ?_) #[true, true, true, true, true, true, true, true, true, true, true, true, true, true, true, true, true, false] rfl rfl (by kernel_rfl) (fun _ _ _ h => h) (Or.inl ⟨by rfl, ?_⟩) ?_ ?_
  rotate_left
  · intro w'
    go_simp
    with_reducible rfl
  rotate_left
  · simp only [Act.put, List.setIfInBounds_toArray, List.set_cons_zero, List.set_cons_succ, i64_w, i32_w]
    rfl
  refine pure_ (i := 17) (N := some 5) (v := ?_) (a' := ?_) #[true, true, true, true, true, true, true, true, true, true, true, true, true, true, true, true, true, true] rfl rfl (by kernel_rfl) (fun _ _ _ h => h) (Or.inl ⟨by rfl, ?_⟩) ?_ ?_
  rotate_left
  · intro w'
    go_simp
    with_reducible rfl
  rotate_left
  · simp only [Act.put, List.setIfInBounds_toArray, List.set_cons_zero, List.set_cons_succ, i64_w, i32_w]
    rfl
  refine done_ (by kernel_rfl) ?_
  go_wp2
  go_ret
  exact ⟨rfl, HB.out⟩
def nearI (l : List S54) (ap y0 y1 : Int) (x : Int) : Bool := nearB l ap y0 y1 x.toNat
/-- What a world holds while one beam looks for its group: the beams, the beam's direction, the distance. -/
structure FarAt (B2 Bb B3 : Nat) (A : Option Addr) (c : Nat) (l : List S54) (y0 y1 y2 y3 ap : Int) (w : World) : Prop where
  rc : Kd.C k54 w A l.length l
  b2 : w.heap[B2]? = some (.cells #[.slice A l.length c] 32 (0, 0))
  bb : w.heap[Bb]? = some (.cells #[.int .i64 y0, .int .i64 y1, .int .i64 y2, .int .i64 y3] 54 (0, 0))
  b3 : w.heap[B3]? = some (.cells #[.int .i64 ap] 2 (0, 0))
theorem FarAt.below {B2 Bb B3 : Nat} {A : Option Addr} {c : Nat} {l : List S54} {y0 y1 y2 y3 ap : Int} {w w1 : World} (h : FarAt B2 Bb B3 A c l y0 y1 y2 y3 ap w) (hb : Below w.heap.size w w1) : FarAt B2 Bb B3 A c l y0 y1 y2 y3 ap w1 :=
  ⟨Kd.C_below h.rc hb, blk_below h.b2 hb, blk_below h.bb hb, blk_below h.b3 hb⟩
theorem any_take_succ {α : Type} (p : α → Bool) (l : List α) (k : Nat) (h : k < l.length) : (l.take (k + 1)).any p = ((l.take k).any p || p l[k]) := by
  rw [List.take_succ_eq_append_getElem h, List.any_append]
  simp
theorem any_true_of {α : Type} (p : α → Bool) (l : List α) (k : Nat) (h : k < l.length) (hp : p l[k] = true) : l.any p = true := List.any_eq_true.2 ⟨l[k], List.getElem_mem h, hp⟩
set_option maxRecDepth 100000 in
set_option maxHeartbeats 1000000 in
theorem far_index (B2 Bb B3 : Nat) (A : Option Addr) (c : Nat) (l : List S54) (y0 y1 y2 y3 ap : Int) (Ag : Option Addr) (cg : Nat) (g : List Int) (w : World) (hF : FarAt B2 Bb B3 A c l y0 y1 y2 y3 ap w)
    (hg : Kd.C (Kd.int .i64) w Ag g.length g) (hgc : g.length ≤ cg) (hgr : ∀ x ∈ g, 0 ≤ x ∧ x < l.length) :
    Calls Try.prog 93 #[.slice Ag g.length cg, .func (.func 76) #[] #[.pointer (some ⟨B2, 0, none⟩), .pointer (some ⟨Bb, 0, none⟩), .pointer (some ⟨B3, 0, none⟩)]] w fun e w' => ∃ i : Int, e = .returned (.int .i64 i) ∧ decide (0 ≤ i) = g.any (nearI l ap y0 y1) ∧ Below w.heap.size w w' := by
  have hn := hg.2.1
  have HF := Aside0.mk hF
  have HG := Aside0.mk hg
  have HGR := Aside0.mk hgr
  clear hF hg hgr
  go_enter Try.func93, Try.ntmps93
  go_wp2
  go_loopw [8] (fun v wr => ∃ k : Nat, k ≤ g.length ∧ v = .int .i64 k ∧ (g.take k).any (nearI l ap y0 y1) = false ∧ Below w.heap.size w wr) (fun v _ => g.length - (intOf v).toNat)
  case atStart => exact ⟨0, Nat.zero_le _, rfl, by simp, Below.refl _ _⟩
  case round =>
    obtain ⟨k, hk, rfl, hany, hb⟩ := hrel
    by_cases hlt : k < g.length
    · obtain ⟨ad, hA, e0⟩ := Kd.at_int (Kd.C_below HG.out hb) (k : Int) (by omega) (by omega)
      have hrd : rd g (k : Int) = g[k] := by
        unfold rd
        simp [List.getD_eq_getElem?_getD, List.getElem?_eq_getElem hlt]
      rw [hrd, Int.toNat_natCast] at e0
      subst hA
      obtain ⟨h0, h1⟩ := HGR.out _ (List.getElem_mem hlt)
      have HB := Aside0.mk hb
      have HALL := Aside0.mk hany
      have HS := Aside0.mk (any_take_succ (nearI l ap y0 y1) g k hlt)
      have HT := Aside0.mk (any_true_of (nearI l ap y0 y1) g k hlt)
      obtain ⟨x, hx⟩ := Int.eq_ofNat_of_zero_le h0
      have HX := Aside0.mk (show x < l.length by omega)
      have HN : Aside0 (nearI l ap y0 y1 g[k] = nearB l ap y0 y1 x) := ⟨by unfold nearI; rw [hx, Int.toNat_natCast]⟩
      rw [hx] at e0
      clear hb hany hrd h0 h1 hx
      cases hv : nearB l ap y0 y1 x
      · have HY : Aside0 ((g.take (k + 1)).any (nearI l ap y0 y1) = false) := ⟨by rw [HS.out, HALL.out, HN.out, hv]; rfl⟩
        have HV := Aside0.mk hv
        clear hv
        go_wp2_with fail
        refine (far_1 x B2 Bb B3 A c l y0 y1 y2 y3 ap _ HX.out (HF.out.below HB.out).rc (HF.out.below HB.out).b2 (HF.out.below HB.out).bb (HF.out.below HB.out).b3).mono ?_
        rintro e w1 ⟨rfl, hb2⟩
        rw [HV.out]
        have HB1 := Aside0.mk (below_step HB.out hb2)
        clear hb2
        go_wp2
        go_roundw
        case rel => exact ⟨k + 1, by omega, by go_num, HY.out, HB1.out⟩
        case measure => (simp [intOf] <;> omega)
      · have HY : Aside0 (g.any (nearI l ap y0 y1) = true) := ⟨HT.out (by rw [HN.out, hv])⟩
        have HV := Aside0.mk hv
        clear hv
        go_wp2_with fail
        refine (far_1 x B2 Bb B3 A c l y0 y1 y2 y3 ap _ HX.out (HF.out.below HB.out).rc (HF.out.below HB.out).b2 (HF.out.below HB.out).bb (HF.out.below HB.out).b3).mono ?_
        rintro e w1 ⟨rfl, hb2⟩
        rw [HV.out]
        have HB1 := Aside0.mk (below_step HB.out hb2)
        clear hb2
        go_wp2
        go_ret
        exact ⟨k, rfl, by simp [HY.out], HB1.out⟩
    · have HALL := Aside0.mk (show g.any (nearI l ap y0 y1) = false by rw [← hany, List.take_of_length_le (by omega)])
      have HB := Aside0.mk hb
      clear hany hb
      go_wp2
      go_ret
      exact ⟨-1, rfl, by rw [HALL.out]; rfl, HB.out⟩
set_option maxRecDepth 100000 in
theorem far_contains (B2 Bb B3 : Nat) (A : Option Addr) (c : Nat) (l : List S54) (y0 y1 y2 y3 ap : Int) (Ag : Option Addr) (cg : Nat) (g : List Int) (w : World) (hF : FarAt B2 Bb B3 A c l y0 y1 y2 y3 ap w)
    (hg : Kd.C (Kd.int .i64) w Ag g.length g) (hgc : g.length ≤ cg) (hgr : ∀ x ∈ g, 0 ≤ x ∧ x < l.length) :
    Calls Try.prog 80 #[.slice Ag g.length cg, .func (.func 76) #[] #[.pointer (some ⟨B2, 0, none⟩), .pointer (some ⟨Bb, 0, none⟩), .pointer (some ⟨B3, 0, none⟩)]] w fun e w' => e = .returned (.bool (g.any (nearI l ap y0 y1))) ∧ Below w.heap.size w w' := by
  have HF := Aside0.mk hF
  have HG := Aside0.mk hg
  have HGR := Aside0.mk hgr
  clear hF hg hgr
  go_enter Try.func80, Try.ntmps80
  go_wp2_with fail
  refine (far_index B2 Bb B3 A c l y0 y1 y2 y3 ap Ag cg g _ HF.out HG.out hgc HGR.out).mono ?_
  rintro e w1 ⟨i, rfl, hi, hb⟩
  have HB := Aside0.mk hb
  have HI := Aside0.mk hi
  clear hb hi
  go_wp2
  go_ret
  exact ⟨by rw [← HI.out]; rfl, HB.out⟩
set_option maxRecDepth 100000 in
theorem far_group (Bf B2 Bb B3 : Nat) (A : Option Addr) (c : Nat) (l : List S54) (y0 y1 y2 y3 ap : Int) (Ag : Option Addr) (cg : Nat) (g : List Int) (w : World) (hF : FarAt B2 Bb B3 A c l y0 y1 y2 y3 ap w)
    (hf : w.heap[Bf]? = some (.cells #[.func (.func 76) #[] #[.pointer (some ⟨B2, 0, none⟩), .pointer (some ⟨Bb, 0, none⟩), .pointer (some ⟨B3, 0, none⟩)]] 101 (0, 0)))
    (hg : Kd.C (Kd.int .i64) w Ag g.length g) (hgc : g.length ≤ cg) (hgr : ∀ x ∈ g, 0 ≤ x ∧ x < l.length) :
    Calls Try.prog 79 #[.slice Ag g.length cg, .pointer (some ⟨Bf, 0, none⟩)] w fun e w' => e = .returned (.bool (!g.any (nearI l ap y0 y1))) ∧ Below w.heap.size w w' := by
  have HF := Aside0.mk hF
  have HG := Aside0.mk hg
  have HGR := Aside0.mk hgr
  have q := (blk_cell hf 0).trans rfl
  clear hF hg hgr hf
  go_enter Try.func79, Try.ntmps79
  go_wp2_with fail
  refine (far_contains B2 Bb B3 A c l y0 y1 y2 y3 ap Ag cg g _ HF.out HG.out hgc HGR.out).mono ?_
  rintro e w1 ⟨rfl, hb⟩
  have HB := Aside0.mk hb
  clear hb
  go_wp2
  go_ret
  exact ⟨rfl, HB.out⟩
/-- The first group that none of whose beams is near; -1 if there is none. -/
def pickI (l : List S54) (ap y0 y1 : Int) (gs : List (List Int)) : Int := match gs.findIdx? (fun g => !g.any (nearI l ap y0 y1)) with | some j => (j : Int) | none => -1
theorem pickI_at (l : List S54) (ap y0 y1 : Int) (gs : List (List Int)) (k : Nat) (h : k < gs.length) (hk : gs[k].any (nearI l ap y0 y1) = false) (hb : ∀ j : Nat, (hj : j < gs.length) → j < k → gs[j].any (nearI l ap y0 y1) = true) : pickI l ap y0 y1 gs = (k : Int) := by
  unfold pickI
  rw [List.findIdx?_eq_some_iff_getElem.2 ⟨h, by simp [hk], fun j hj => by simp [hb j (by omega) hj]⟩]
theorem pickI_none (l : List S54) (ap y0 y1 : Int) (gs : List (List Int)) (hb : ∀ j : Nat, (hj : j < gs.length) → gs[j].any (nearI l ap y0 y1) = true) : pickI l ap y0 y1 gs = -1 := by
  unfold pickI
  rw [List.findIdx?_eq_none_iff.2 (fun x hx => by
    obtain ⟨j, hj, rfl⟩ := List.mem_iff_getElem.1 hx
    simp [hb j hj])]
set_option maxRecDepth 100000 in
set_option maxHeartbeats 1000000 in
theorem far_pick (Bf B2 Bb B3 : Nat) (A : Option Addr) (c : Nat) (l : List S54) (y0 y1 y2 y3 ap : Int) (Ao : Option Addr) (co : Nat) (gs : List (List Int)) (w : World) (hF : FarAt B2 Bb B3 A c l y0 y1 y2 y3 ap w)
    (hf : w.heap[Bf]? = some (.cells #[.func (.func 76) #[] #[.pointer (some ⟨B2, 0, none⟩), .pointer (some ⟨Bb, 0, none⟩), .pointer (some ⟨B3, 0, none⟩)]] 101 (0, 0)))
    (hg : Kd.C (Kd.slice 2 (Kd.int .i64)) w Ao gs.length gs) (hgc : gs.length ≤ co) (hgr : ∀ g ∈ gs, ∀ x ∈ g, 0 ≤ x ∧ x < l.length) :
    Calls Try.prog 78 #[.slice Ao gs.length co, .func (.func 79) #[] #[.pointer (some ⟨Bf, 0, none⟩)]] w fun e w' => e = .returned (.int .i64 (pickI l ap y0 y1 gs)) ∧ Below w.heap.size w w' := by
  have hn := hg.2.1
  have HF := Aside0.mk hF
  have HFN := Aside0.mk hf
  have HG := Aside0.mk hg
  have HGR := Aside0.mk hgr
  clear hF hg hgr hf
  go_enter Try.func78, Try.ntmps78
  go_wp2
  go_loopw [8] (fun v wr => ∃ k : Nat, k ≤ gs.length ∧ v = .int .i64 k ∧ (∀ j : Nat, (hj : j < gs.length) → j < k → gs[j].any (nearI l ap y0 y1) = true) ∧ Below w.heap.size w wr) (fun v _ => gs.length - (intOf v).toNat)
  case atStart => exact ⟨0, Nat.zero_le _, rfl, fun j _ h => absurd h (by omega), Below.refl _ _⟩
  case round =>
    obtain ⟨k, hk, rfl, hany, hb⟩ := hrel
    by_cases hlt : k < gs.length
    · obtain ⟨ad, cs, hA, -, ⟨Ag, cg, hcs, hgl, hgC⟩, hcell⟩ := Kd.C_get (Kd.C_below HG.out hb) [] (k : Int) (by omega) (by omega)
      subst hcs
      have hget : gs.getD ((k : Int)).toNat [] = gs[k] := by simp [List.getD_eq_getElem?_getD, List.getElem?_eq_getElem hlt]
      rw [hget] at hgl hgC hcell
      have e0 : wr.cell? (ad.add k) = some (.slice Ag gs[k].length cg) := by
        have := hcell 0 _ rfl
        simpa [Kd.slice] using this
      subst hA
      have HC := Aside0.mk hgC
      have HB := Aside0.mk hb
      have HALL := Aside0.mk hany
      have HR2 := Aside0.mk (HGR.out _ (List.getElem_mem hlt))
      have HL := Aside0.mk hgl
      have hkl : (k : Int) < (gs.length : Int) := by omega
      clear hcell hgC hb hany hget hgl
      cases hv : gs[k].any (nearI l ap y0 y1)
      · have HV := Aside0.mk hv
        clear hv
        go_wp2_with fail
        refine (far_group Bf B2 Bb B3 A c l y0 y1 y2 y3 ap Ag cg gs[k] _ (HF.out.below HB.out) (blk_below HFN.out HB.out) HC.out HL.out HR2.out).mono ?_
        rintro e w1 ⟨rfl, hb2⟩
        rw [HV.out]
        have HB1 := Aside0.mk (below_step HB.out hb2)
        clear hb2
        go_wp2
        go_ret
        exact ⟨by rw [pickI_at l ap y0 y1 gs k hlt HV.out HALL.out]; rfl, HB1.out⟩
      · have HV := Aside0.mk hv
        clear hv
        go_wp2_with fail
        refine (far_group Bf B2 Bb B3 A c l y0 y1 y2 y3 ap Ag cg gs[k] _ (HF.out.below HB.out) (blk_below HFN.out HB.out) HC.out HL.out HR2.out).mono ?_
        rintro e w1 ⟨rfl, hb2⟩
        rw [HV.out]
        have HB1 := Aside0.mk (below_step HB.out hb2)
        clear hb2
        go_wp2
        go_roundw
        case rel =>
          refine ⟨k + 1, by omega, by go_num, fun j hj hjk => ?_, HB1.out⟩
          rcases Nat.lt_or_ge j k with h | h
          · exact HALL.out j hj h
          · obtain rfl : j = k := by omega
            exact HV.out
        case measure => (simp [intOf] <;> omega)
    · have HALL := Aside0.mk (pickI_none l ap y0 y1 gs (fun j hj => hany j hj (by omega)))
      have HB := Aside0.mk hb
      clear hany hb
      go_wp2
      go_ret
      exact ⟨by rw [HALL.out]; rfl, HB.out⟩
theorem sinfo2f : (Try.prog.info? 2).map (fun i => (i.zero, i.size, i.bytes)) = some (some (.int .i64 0), 1, 8) := by kernel_rfl
theorem sinfo41 : (Try.prog.info? 41).map (fun i => (i.zero, i.size, i.bytes)) = some (some (.slice none 0 0), 1, 24) := by kernel_rfl
/-- Beam i put into a group. -/
def farStep (l : List S54) (ap : Int) (gs : List (List Int)) (i : Nat) : List (List Int) :=
  if pickI l ap (l.getD i z54).f0.f0 (l.getD i z54).f0.f1 gs < 0 then gs ++ [[(i : Int)]]
  else gs.set (pickI l ap (l.getD i z54).f0.f0 (l.getD i z54).f0.f1 gs).toNat (gs.getD (pickI l ap (l.getD i z54).f0.f0 (l.getD i z54).f0.f1 gs).toNat [] ++ [(i : Int)])
def farG (l : List S54) (ap : Int) : Nat → List (List Int)
  | 0 => []
  | i + 1 => farStep l ap (farG l ap i) i
theorem pickI_lt (l : List S54) (ap y0 y1 : Int) (gs : List (List Int)) (h : ¬ pickI l ap y0 y1 gs < 0) : (pickI l ap y0 y1 gs).toNat < gs.length ∧ pickI l ap y0 y1 gs = ((pickI l ap y0 y1 gs).toNat : Int) := by
  unfold pickI at h ⊢
  cases hf : gs.findIdx? (fun g => !g.any (nearI l ap y0 y1)) with
  | none => rw [hf] at h; exact absurd (show (-1 : Int) < 0 by decide) h
  | some j =>
    obtain ⟨hj, -⟩ := List.findIdx?_eq_some_iff_getElem.1 hf
    exact ⟨by simpa using hj, by simp⟩
theorem farG_in (l : List S54) (ap : Int) : ∀ i : Nat, ∀ g ∈ farG l ap i, ∀ x ∈ g, 0 ≤ x ∧ x < i := by
  intro i
  induction i with
  | zero => intro g hg; cases hg
  | succ i ih =>
    intro g hg x hx
    simp only [farG, farStep] at hg
    split at hg
    · rcases List.mem_append.1 hg with h | h
      · have := ih g h x hx; omega
      · simp at h; subst h; simp at hx; omega
    · rename_i hneg
      obtain ⟨hlt, -⟩ := pickI_lt _ _ _ _ _ hneg
      rcases List.mem_or_eq_of_mem_set hg with h | h
      · have := ih g h x hx; omega
      · subst h
        rcases List.mem_append.1 hx with h | h
        · have hm : (farG l ap i).getD (pickI l ap (l.getD i z54).f0.f0 (l.getD i z54).f0.f1 (farG l ap i)).toNat [] ∈ farG l ap i := by
            rw [List.getD_eq_getElem?_getD, List.getElem?_eq_getElem hlt]; exact List.getElem_mem hlt
          have := ih _ hm x h; omega
        · simp at h; omega
theorem farG_len (l : List S54) (ap : Int) : ∀ i : Nat, (farG l ap i).length ≤ i := by
  intro i
  induction i with
  | zero => simp [farG]
  | succ i ih =>
    simp only [farG, farStep]
    split
    · simp; omega
    · simp; omega
theorem farG_len2 (l : List S54) (ap : Int) : ∀ i : Nat, ∀ g ∈ farG l ap i, g.length ≤ i := by
  intro i
  induction i with
  | zero => intro g hg; cases hg
  | succ i ih =>
    intro g hg
    simp only [farG, farStep] at hg
    split at hg
    · rcases List.mem_append.1 hg with h | h
      · have := ih g h; omega
      · simp at h; subst h; simp
    · rename_i hneg
      obtain ⟨hlt, -⟩ := pickI_lt _ _ _ _ _ hneg
      rcases List.mem_or_eq_of_mem_set hg with h | h
      · have := ih g h; omega
      · subst h
        have hm : (farG l ap i).getD (pickI l ap (l.getD i z54).f0.f0 (l.getD i z54).f0.f1 (farG l ap i)).toNat [] ∈ farG l ap i := by
          rw [List.getD_eq_getElem?_getD, List.getElem?_eq_getElem hlt]; exact List.getElem_mem hlt
        have := ih _ hm
        simp only [List.length_append, List.length_singleton]; omega
def impl_FarBeams.f (k : Nat) (l0 : List (S54)) (a1 : Int) : Option (List (List Int) × Bool) := (impl_AreBeams.f k l0).bind fun t1 => (if t1 = true then ((impl_within.f a1 0 128).bind fun t2 => (if t2 = true then (if l0.length ≤ 1000 then some (farG l0 a1 l0.length, true) else none) else some ([], false))) else some ([], false))
theorem impl_FarBeams.mono : ∀ a0 a1 k, LeO (impl_FarBeams.f k a0 a1) (impl_FarBeams.f (k + 1) a0 a1) := by
  intro a0 a1 k
  unfold impl_FarBeams.f
  exact LeO.bind (impl_AreBeams.mono a0 k) (fun _ => LeO.refl _)
theorem two_new {w w1 : World} {s0 : Value} {t0 t1 : TypeId} {x : Value} (hb : Below ((w.alloc (.cells #[s0] t0)).alloc (.cells #[x] t1)).heap.size ((w.alloc (.cells #[s0] t0)).alloc (.cells #[x] t1)) w1) :
    w1.heap[w.heap.size]? = some (.cells #[s0] t0 (0, 0)) ∧ w1.heap[w.heap.size + 1]? = some (.cells #[x] t1 (0, 0)) := by
  have h0 := blk_below (blk_alloc (heap_alloc_new w (.cells #[s0] t0)) (.cells #[x] t1)) hb
  have h1 := blk_below (heap_alloc_new (w.alloc (.cells #[s0] t0)) (.cells #[x] t1)) hb
  rw [World.size_alloc] at h1
  exact ⟨h0, h1⟩
theorem run_store_func (P : Program) (w : World) (a : Addr) (m : Mode) (f : Fn) (xs : Array Value) (ys : Array Value) : (store a (.func f xs ys) m).run P w = stored P w a (.func f xs ys) m := run_store P w a _ m rfl
attribute [local go_sem] run_store_func
set_option maxRecDepth 100000 in
set_option maxHeartbeats 4000000 in
theorem impl_FarBeams.calls (k : Nat) (A0 : Option Addr) (c0 : Nat) (l0 : List (S54)) (a1 : Int) (r1 : List (List Int)) (r2 : Bool) (w : World) (hr0 : Kd.C k54 w A0 l0.length l0) (hc0 : l0.length ≤ c0) (h : impl_FarBeams.f k l0 a1 = some (r1, r2)) :
    Calls Try.prog 36 #[.slice A0 l0.length c0, .int .i64 a1] w fun e w' => ∃ v0_ : Value, e = .returned (.tuple #[v0_, .bool r2]) ∧ Kd.S (Kd.slice 2 (Kd.int .i64)) 41 w' w.heap.size (fun _ => True) v0_ r1 ∧ Below w.heap.size w w' := by
  have hn := hr0.2.1
  have HR := Aside0.mk hr0
  clear hr0
  have H : ((impl_AreBeams.f k l0).bind fun t1 => (if t1 = true then ((impl_within.f a1 0 128).bind fun t2 => (if t2 = true then (if l0.length ≤ 1000 then some (farG l0 a1 l0.length, true) else none) else some ([], false))) else some ([], false))) = some (r1, r2) := h
  clear h
  replace H := Option.bind_eq_some_iff.mp H
  obtain ⟨t1, A, H⟩ := H
  have A1 := Aside0.mk A
  clear A
  have HB0 := Aside0.mk (below_alloc (below_alloc (Below.refl w.heap.size w) (.cells #[.slice A0 l0.length c0] 32)) (.cells #[.int .i64 a1] 2))
  cases t1
  · simp at H
    obtain ⟨rfl, rfl⟩ := H
    go_enter Try.func36, Try.ntmps36
    go_wp2_with fail
    refine (impl_AreBeams.calls k A0 c0 l0 _ _ (Kd.C_below HR.out HB0.out) hc0 A1.out).mono ?_
    rintro e w1 ⟨rfl, hb⟩
    have HB := Aside0.mk (below_step HB0.out hb)
    clear hb
    go_wp2
    go_ret2
    exact ⟨_, rfl, Kd.S_nil _ _ _ _ _, HB.out⟩
  · rw [if_pos rfl] at H
    replace H := Option.bind_eq_some_iff.mp H
    obtain ⟨t2, A, H⟩ := H
    have A2 := Aside0.mk A
    clear A
    go_enter Try.func36, Try.ntmps36
    go_wp2_with fail
    refine (impl_AreBeams.calls k A0 c0 l0 _ _ (Kd.C_below HR.out HB0.out) hc0 A1.out).mono ?_
    rintro e w1 ⟨rfl, hb⟩
    have HB := Aside0.mk (below_step HB0.out hb)
    obtain ⟨q2, q3⟩ := two_new hb
    have BK2 := Aside0.mk q2
    have BK3 := Aside0.mk q3
    have c2 : w1.cell? ⟨w.heap.size, 0, none⟩ = some (.slice A0 l0.length c0) := (blk_cell q2 0).trans rfl
    have c3 : w1.cell? ⟨w.heap.size + 1, 0, none⟩ = some (.int .i64 a1) := (blk_cell q3 0).trans rfl
    clear hb HB0 q2 q3
    cases t2
    · simp at H
      obtain ⟨rfl, rfl⟩ := H
      go_wp2_with fail
      refine (impl_within.calls _ _ _ _ _ A2.out).mono ?_
      rintro e w2 ⟨rfl, ⟨⟨nd, rfl⟩⟩⟩
      go_wp2
      go_ret2
      exact ⟨_, rfl, Kd.S_nil _ _ _ _ _, pw_below_drewN HB.out _⟩
    · rw [if_pos rfl] at H
      by_cases h1000 : l0.length ≤ 1000
      rotate_left
      · rw [if_neg h1000] at H; cases H
      rw [if_pos h1000] at H
      simp at H
      obtain ⟨rfl, rfl⟩ := H
      go_wp2_with fail
      refine (impl_within.calls _ _ _ _ _ A2.out).mono ?_
      rintro e w2 ⟨rfl, ⟨⟨nd, rfl⟩⟩⟩
      have c2' : ((w1.drewN nd).alloc (.cells #[] 41)).cell? ⟨w.heap.size, 0, none⟩ = some (.slice A0 l0.length c0) := (blk_cell (blk_alloc (blk_drewN BK2.out nd) _) 0).trans rfl
      go_wp2
      have K2 := Aside0.mk (blk_drewN BK2.out nd)
      have K3 := Aside0.mk (blk_drewN BK3.out nd)
      have HBW := Aside0.mk (pw_below_drewN HB.out nd)
      have HW1 := Aside0.mk (show (w1.drewN nd).heap.size = w1.heap.size from rfl)
      clear c2 c3 c2' BK2 BK3 HB
      go_loopw [6, 22] (fun v6 v22 wr => ∃ i : Nat, i ≤ l0.length ∧ v22 = .int .i64 i ∧ Kd.S (Kd.slice 2 (Kd.int .i64)) 41 wr w1.heap.size (fun _ => True) v6 (farG l0 a1 i) ∧ Below w1.heap.size (w1.drewN nd) wr) (fun _ v _ => l0.length - (intOf v).toNat)
      case atStart =>
        refine ⟨0, Nat.zero_le _, rfl, ⟨fun _ => 0, fun _ _ => trivial, [], ?_, ?_⟩, show Below (w1.drewN nd).heap.size (w1.drewN nd) _ from below_alloc (Below.refl _ _) _⟩
        · exact own_lit (w1.drewN nd) w1.heap.size 41 .i64 [] (Nat.le_refl _) (by simp)
        · exact ⟨rfl, fun j p hj => by simp [farG] at hj⟩
      case round =>
        obtain ⟨i, hi, rfl, hS, hb⟩ := hrel
        by_cases hlt : i < l0.length
        · have hbw := below_step HBW.out hb
          obtain ⟨ad, hA, d0, d1, d2, d3⟩ := at_T54 (Kd.C_below HR.out hbw) (i : Int) (by omega) (by omega)
          have hrd : rd_T54 l0 (i : Int) = l0.getD i z54 := by simp [rd_T54]
          rw [hrd, Int.toNat_natCast] at d0 d1 d2 d3
          subst hA
          have hG : farG l0 a1 (i + 1) = farStep l0 a1 (farG l0 a1 i) i := rfl
          unfold farStep at hG
          have HIN := Aside0.mk (farG_in l0 a1 i)
          have HL1 := Aside0.mk (farG_len l0 a1 i)
          have HL2 := Aside0.mk (farG_len2 l0 a1 i)
          have J2 := Aside0.mk (blk_below K2.out hb)
          have J3 := Aside0.mk (blk_below K3.out hb)
          have HB := Aside0.mk hb
          have HS := Aside0.mk hS
          have HCR := Aside0.mk (Kd.C_below HR.out hbw)
          generalize (l0.getD i z54).f0.f0 = y0 at *
          generalize (l0.getD i z54).f0.f1 = y1 at *
          generalize (l0.getD i z54).f1 = y2 at *
          generalize (l0.getD i z54).f2 = y3 at *
          have HG := Aside0.mk hG
          generalize farG l0 a1 i = gs at *
          have hlt' : (i : Int) < (l0.length : Int) := by omega
          clear hrd hS hb hbw hG
          obtain ⟨Ao, co, hv⟩ := Kd.S_slice HS.out
          subst hv
          go_wp2_with fail
          have hbc : Below wr.heap.size wr ((wr.alloc (.cells #[.int .i64 y0, .int .i64 y1, .int .i64 y2, .int .i64 y3] 54)).alloc (.cells #[.func (.func 76) #[] #[.pointer (some ⟨w.heap.size, 0, none⟩), .pointer (some ⟨wr.heap.size, 0, none⟩), .pointer (some ⟨w.heap.size + 1, 0, none⟩)]] 101)) := below_alloc (below_alloc (Below.refl wr.heap.size wr) _) _
          have hfn := heap_alloc_new (wr.alloc (.cells #[.int .i64 y0, .int .i64 y1, .int .i64 y2, .int .i64 y3] 54)) (.cells #[.func (.func 76) #[] #[.pointer (some ⟨w.heap.size, 0, none⟩), .pointer (some ⟨wr.heap.size, 0, none⟩), .pointer (some ⟨w.heap.size + 1, 0, none⟩)]] 101)
          rw [World.size_alloc] at hfn
          refine (far_pick (wr.heap.size + 1) w.heap.size wr.heap.size (w.heap.size + 1) (some ad) c0 l0 y0 y1 y2 y3 a1 Ao co gs _ ⟨Kd.C_below HCR.out hbc, blk_alloc (blk_alloc J2.out _) _, blk_alloc (heap_alloc_new wr _) _, blk_alloc (blk_alloc J3.out _) _⟩ hfn (Kd.C_below (Kd.S_reads' HS.out).2.2 hbc) (Kd.S_reads' HS.out).2.1 (fun g hg x hx => by have := HIN.out g hg x hx; omega)).mono ?_
          rintro e w3 ⟨rfl, hb3⟩
          have hb4 := below_step hbc hb3
          have HS3 := Aside0.mk (Kd.S_below HS.out hb4)
          have HB3 := Aside0.mk (below_step (show Below (w1.drewN nd).heap.size (w1.drewN nd) wr from HB.out) hb4)
          have HSZ := Aside0.mk (Nat.le_trans HB.out.size hb4.size)
          clear hbc hfn hb3 hb4 HS HB HCR J2 J3
          by_cases hneg : pickI l0 a1 y0 y1 gs < 0
          · have HG1 := Aside0.mk (HG.out.trans (if_pos hneg))
            have hp := own_lit w3 w1.heap.size 2 .i64 [(i : Int)] (Nat.le_trans (show w1.heap.size ≤ (w1.drewN nd).heap.size from Nat.le_refl _) HSZ.out) (by simp)
            have HP : Aside0 ((Kd.int .i64).R 2 (w3.alloc (.cells #[.int .i64 (i : Int)] 2)) w1.heap.size (fun k => k = w3.heap.size) (.slice (some ⟨w3.heap.size, 0, none⟩) 1 1) [(i : Int)]) := ⟨Kd.R_of_own hp (fun k hk => by simp [Value.ownBlock] at hk; exact hk.symm)⟩
            clear hp
            have HO : Aside0 (Kd.S (Kd.slice 2 (Kd.int .i64)) 41 (w3.alloc (.cells #[.int .i64 (i : Int)] 2)) w1.heap.size (fun k => True ∧ ¬ k = w3.heap.size) (.slice Ao gs.length co) gs) := ⟨Kd.S_alloc (Kd.S_mono (Kd.S_bound HS3.out) (fun k hk => ⟨trivial, by have := hk.2.2.1; omega⟩)) _⟩
            have HLT := Aside0.mk (Kd.S_lt HS3.out)
            go_wp2_with (at_builtin; go_loud (refine Kd.S_append (Kd.slice 2 (Kd.int .i64)) (w0 := w1.drewN nd) w1.heap.size rfl (.tmp 33) (.tmp 36) 58 41 (.slice none 0 0) 24 rfl Try.underlying58 sinfo41 rfl (by decide) (by decide) (.slice Ao gs.length co) gs [(i : Int)] [.slice (some ⟨w3.heap.size, 0, none⟩) 1 1] (fun _ => True) (fun k => k = w3.heap.size) rfl (by first | (go_simp; done) | (go_simp; rfl)) ⟨_, rfl, HP.out⟩ (fun k hk => ⟨trivial, fun he => by have := HLT.out k he.symm; omega⟩) (fun _ _ => trivial) HO.out (below_alloc (show Below (w1.drewN nd).heap.size (w1.drewN nd) w3 from HB3.out) _) (Nat.le_trans (Nat.le_trans (show w1.heap.size ≤ (w1.drewN nd).heap.size from Nat.le_refl _) HSZ.out) (by simp)) (by have := HL1.out; omega) ?_); intro v1 w4 hS4 hb4 hg4 hat4; have HS4 := Aside0.mk hS4; have HB4 := Aside0.mk hb4; clear hS4 hb4 hg4 hat4)
            go_roundw
            case rel => exact ⟨i + 1, by omega, by go_num, by rw [HG1.out]; exact HS4.out, HB4.out⟩
            case measure => (simp [intOf] <;> omega)
          · have HG1 := Aside0.mk (HG.out.trans (if_neg hneg))
            obtain ⟨hj, hjv⟩ := pickI_lt l0 a1 y0 y1 gs hneg
            obtain ⟨j, hjj⟩ : ∃ j, (pickI l0 a1 y0 y1 gs).toNat = j := ⟨_, rfl⟩
            rw [hjj] at hj hjv
            rw [hjj] at HG1
            rw [hjv] at hneg ⊢
            clear hjv hjj
            obtain ⟨g, cap, hv, hbg, hgl, cells, hcells⟩ := Kd.S_form HS3.out (by omega)
            simp only [Value.slice.injEq, true_and] at hv
            obtain ⟨hv1, hv2⟩ := hv
            subst hv1
            obtain ⟨oki, c, hcl, ⟨vj, hc, hRj⟩, hcc, hfr, hoki, hH⟩ := Kd.S_elem HS3.out [] (j : Int) (by omega) (by omega)
            subst hc
            rw [Int.toNat_natCast] at hRj hcc
            have e0 : w3.cell? ⟨g, j, none⟩ = some vj := by
              have := hcc 0 _ rfl
              simpa [Kd.slice] using this
            obtain ⟨Aj, cj, hvj⟩ := Kd.R_slice hRj
            subst hvj
            have hjl : (j : Int) < (gs.length : Int) := by omega
            have HRJ := Aside0.mk hRj
            have HH := Aside0.mk hH
            have HOK := Aside0.mk hoki
            have HGJ : Aside0 ((gs.getD j []).length ≤ i) := ⟨HL2.out _ (by rw [List.getD_eq_getElem?_getD, List.getElem?_eq_getElem hj]; exact List.getElem_mem hj)⟩
            clear hRj hcc hfr hoki hH hcells hbg hgl hcl
            generalize gs.getD j [] = gj at *
            have HLE : Aside0 (w1.heap.size ≤ w3.heap.size) := ⟨Nat.le_trans (show w1.heap.size ≤ (w1.drewN nd).heap.size from Nat.le_refl _) HSZ.out⟩
            go_wp2_with (first
              | (at_builtin; go_loud (refine Kd.R_append (Kd.int .i64) (w0 := w1.drewN nd) w1.heap.size rfl (.tmp 43) (.tmp 45) 41 2 (.int .i64 0) 8 rfl Try.underlying41 sinfo2f rfl (by decide) (by decide) (.slice Aj gj.length cj) gj (i : Int) [.int .i64 (i : Int)] (fun k => oki k ∨ True ∧ w3.heap.size ≤ k) (fun _ => False) rfl (by first | (go_simp; done) | (go_simp; rfl)) rfl (fun k hk => hk.elim) (fun k hk => .inr ⟨trivial, hk⟩) (Kd.R_mono HRJ.out (fun k hk => .inl hk)) (show Below w1.heap.size (w1.drewN nd) w3 from HB3.out) HLE.out (by have := HGJ.out; omega) ?_); intro v1 w4 hR4 hb4 hg4 hat4; have HR4 := Aside0.mk hR4; have HB4 := Aside0.mk hb4; have HH4 := Aside0.mk (Kd.H_grown (Kd.H_widen HH.out) hg4 (fun k hk => .inl (HRJ.out.1 k hk))); have HV := Aside0.mk (Kd.R_val hR4); clear hR4 hb4 hg4 hat4)
              | ((with_reducible refine gate_store (t := 41) (p := 47) rfl ?_); go_loud (refine Kd.H_store (Kd.slice 2 (Kd.int .i64)) (w0 := w1.drewN nd) w1.heap.size rfl rfl 41 (.tmp 47) (.tmp 46) rfl 41 (g := g) (n := gs.length) (cap := co) (o' := j) (j : Int) 0 gs (gj ++ [(i : Int)]) v1 [v1] [.slice Aj gj.length cj] (fun _ => True) (fun k => oki k ∨ True ∧ w3.heap.size ≤ k) (fun k => oki k ∨ True ∧ w3.heap.size ≤ k) (by first | (go_simp; done) | (go_simp; rfl)) (by simp [Kd.slice]) (by first | (go_simp; done) | (go_simp; rfl)) HV.out.1 (by kernel_rfl) (fun q hq => by rw [List.mem_singleton.1 hq]; exact HV.out.2) HH4.out (by omega) (by omega) (by simp [Kd.slice]) ⟨v1, rfl, HR4.out⟩ (fun k hk => hk) HB4.out ?_); intro w5 hS5 hb5 hg5; have HS5 := Aside0.mk hS5; have HB5 := Aside0.mk hb5; clear hS5 hb5 hg5))
            go_roundw
            case rel => exact ⟨i + 1, by omega, by go_num, by have hz := HS5.out; rw [Int.toNat_natCast] at hz; rw [HG1.out, ← hv2]; exact hz, HB5.out⟩
            case measure => (simp [intOf] <;> omega)
        · obtain rfl : i = l0.length := by omega
          have HS := Aside0.mk (Kd.S_lower hS (Nat.le_trans (show w.heap.size ≤ w1.heap.size from HBW.out.size) (Nat.le_refl _)))
          have HB := Aside0.mk (below_step HBW.out hb)
          clear hS hb
          go_wp2
          go_ret2
          exact ⟨_, rfl, HS.out, HB.out⟩

/-! ### spec_B10Direction: function 37 -/
def spec_B10Direction.f (l0 : List Int) : Option (Int × Int) := (spec_l00From.f l0).bind fun bt165 => ((spec_l00Src_pick.f bt165.1 bt165.2.1 bt165.2.2 71).bind fun bt169 => ((spec_l00Src_pick.f bt165.1 bt169.2.1 bt169.2.2 71).bind fun bt173 => (some (wrap64 (bt169.1 - 35), wrap64 (bt173.1 - 35)))))
set_option maxHeartbeats 8000000 in
set_option maxRecDepth 100000 in
theorem spec_B10Direction.calls (A0 : Option Addr) (c0 : Nat) (l0 : List Int) (r1 : Int) (r2 : Int) (w : World) (hr0 : Kd.C (Kd.int .u8) w A0 l0.length l0) (hc0 : l0.length ≤ c0) (h : spec_B10Direction.f l0 = some (r1, r2)) :
    Calls Try.prog 37 #[.slice A0 l0.length c0] w fun e w' => e = .returned (.agg #[.int .i64 r1, .int .i64 r2]) ∧ Below w.heap.size w w' := by
  have hu26 := Try.underlying26
  have HR0 := Aside0.mk hr0
  have HC0 := Aside0.mk hc0
  clear hr0 hc0
  have HB := Aside0.mk (Below.refl w.heap.size w)
  have H : ((spec_l00From.f l0).bind fun bt165 => ((spec_l00Src_pick.f bt165.1 bt165.2.1 bt165.2.2 71).bind fun bt169 => ((spec_l00Src_pick.f bt165.1 bt169.2.1 bt169.2.2 71).bind fun bt173 => (some (wrap64 (bt169.1 - 35), wrap64 (bt173.1 - 35)))))) = some (r1, r2) := h
  clear h
  replace H := Option.bind_eq_some_iff.mp H
  obtain ⟨⟨t165, t166, t167⟩, A20, H⟩ := H
  replace H : ((spec_l00Src_pick.f t165 t166 t167 71).bind fun bt169 => ((spec_l00Src_pick.f t165 bt169.2.1 bt169.2.2 71).bind fun bt173 => (some (wrap64 (bt169.1 - 35), wrap64 (bt173.1 - 35))))) = some (r1, r2) := H
  have A2 := Aside0.mk A20
  clear A20
  replace H := Option.bind_eq_some_iff.mp H
  obtain ⟨⟨t169, t170, t171⟩, A30, H⟩ := H
  replace H : ((spec_l00Src_pick.f t165 t170 t171 71).bind fun bt173 => (some (wrap64 (t169 - 35), wrap64 (bt173.1 - 35)))) = some (r1, r2) := H
  have A3 := Aside0.mk A30
  clear A30
  replace H := Option.bind_eq_some_iff.mp H
  obtain ⟨⟨t173, t174, t175⟩, A40, H⟩ := H
  replace H : (some (wrap64 (t169 - 35), wrap64 (t173 - 35))) = some (r1, r2) := H
  have A4 := Aside0.mk A40
  clear A40
  as_aux_lemma =>
    simp only [Option.some.injEq, Prod.mk.injEq] at H
    obtain ⟨rfl, rfl⟩ := H
    go_enter Try.func37, Try.ntmps37
    go_wp2_with (first | ((with_reducible refine gate_dst (N := 2) rfl ?_); refine box_event ?hg (N := 2) ?hd (cs := #[.int .i64 0, .int .i64 0]) (t := 26) ?hr ?_; (case hd => rfl); (case hg => rfl); (case hr => first | (go_simp; done) | (go_simp; rfl)); intro gb164 hg w5 hbox hb; have n0_ := Aside0.mk (below_step (by repeat (first | (with_reducible first | exact HB.out | apply below_alloc | apply pw_below_drewN | apply below_drew1) | exact HB.out)) hb); have n1_ := Aside0.mk (hbox); have n2_ := Aside0.mk ((by rw [hg]; exact (below_size (by repeat (first | (with_reducible first | exact HB.out | apply below_alloc | apply pw_below_drewN | apply below_drew1) | exact HB.out))) : w.heap.size ≤ gb164)); have n3_ := Aside0.mk ((by rw [hg]; exact (below_size (by repeat (first | (with_reducible first | exact HB.out | apply below_alloc | apply pw_below_drewN | apply below_drew1) | exact HB.out))) : w.heap.size ≤ gb164)); clear HB; have HB := n0_; have BK164 := n1_; have GW164 := n2_; have GE164 := n3_; clear n0_ n1_ n2_ n3_; clear hb hbox hg) | ((with_reducible refine gate_callee (f := 72) rfl ?_); refine goesL_ (some 6) rfl rfl Try.func72 (by kernel_rfl) rfl #[.slice A0 l0.length c0] rfl (by (try simp only [List.map_toArray, List.map_cons, List.map_nil]); first | done | rfl | (simp only [List.length_drop, List.length_take]; rfl)) ?_; (with_reducible refine (spec_l00From.calls _ _ l0 t165 t166 t167 w _ ?side1 ?side2 ?side3 A2.out).mono ?_); (case side1 => repeat (first | (with_reducible first | exact HB.out | apply below_alloc | apply pw_below_drewN | apply below_drew1 | refine below_set ?_ GE164.out) | exact HB.out)); (case side2 => exact HR0.out); (case side3 => exact HC0.out); rintro e w6 ⟨g168, rfl, hi, hb, hb2⟩; refine ⟨_, rfl, ?_⟩; have n0_ := Aside0.mk (blk_below (g := gb164) (o := .cells #[.int .i64 0, .int .i64 0] 26 (0, 0)) (by (with_reducible repeat (first | refine blk_drewN ?_ _ | refine blk_drew ?_ | refine blk_alloc ?_ _)); exact BK164.out) hb2); have n1_ := Aside0.mk (hb); have n2_ := Aside0.mk (hi); have n3_ := Aside0.mk (IsS118.ne_blk hi (blk_below (g := gb164) (o := .cells #[.int .i64 0, .int .i64 0] 26 (0, 0)) (by (with_reducible repeat (first | refine blk_drewN ?_ _ | refine blk_drew ?_ | refine blk_alloc ?_ _)); exact BK164.out) hb2) (by decide)); have n4_ := Aside0.mk (Ne.symm (IsS118.ne_blk hi (blk_below (g := gb164) (o := .cells #[.int .i64 0, .int .i64 0] 26 (0, 0)) (by (with_reducible repeat (first | refine blk_drewN ?_ _ | refine blk_drew ?_ | refine blk_alloc ?_ _)); exact BK164.out) hb2) (by decide))); clear BK164; clear HB; have BK164 := n0_; have HB := n1_; have HI168 := n2_; have NB168_164 := n3_; have NB164_168 := n4_; clear n0_ n1_ n2_ n3_ n4_; (try clear hb); (try clear hb2); (try clear hk); (try clear hi)) | ((with_reducible refine gate_callee (f := 81) rfl ?_); refine goesL_ (some 8) rfl rfl Try.func81 (by kernel_rfl) rfl #[.pointer (some ⟨g168, 0, none⟩), .int .i64 71] rfl (by (try simp only [List.map_toArray, List.map_cons, List.map_nil]); first | done | rfl | (simp only [List.length_drop, List.length_take]; rfl)) ?_; (with_reducible refine (spec_l00Src_pick.calls g168 t165 t166 t167 71 t169 t170 t171 w _ ?side1 ?side2 A3.out).mono ?_); (case side1 => repeat (first | (with_reducible first | exact HI168.out | apply IsS118.alloc | apply IsS118.drewN | apply IsS118.drew | apply IsS118.set_1 | apply IsS118.set_2 | refine IsS118.far ?_ NB168_164.out _) | exact HI168.out)); (case side2 => repeat (first | (with_reducible first | exact HB.out | apply below_alloc | apply pw_below_drewN | apply below_drew1 | refine below_set ?_ (IsS118.ge HI168.out) | refine below_set ?_ GE164.out) | exact HB.out)); rintro e w7 ⟨rfl, hi, hb, hk⟩; refine ⟨_, rfl, ?_⟩; have n0_ := Aside0.mk (KeepBut.blk hk (g' := gb164) (o := .cells #[.int .i64 0, .int .i64 0] 26 (0, 0)) (by (with_reducible repeat (first | refine blk_drewN ?_ _ | refine blk_drew ?_ | refine blk_alloc ?_ _)); exact BK164.out) NB164_168.out (by simp)); have n1_ := Aside0.mk (hb); have n2_ := Aside0.mk (hi); clear BK164; clear HB; clear HI168; have BK164 := n0_; have HB := n1_; have HI168 := n2_; clear n0_ n1_ n2_; (try clear hb); (try clear hb2); (try clear hk); (try clear hi)) | ((with_reducible refine gate_dst (N := 4) rfl ?_); refine box_event ?hg (N := 4) ?hd (cs := #[.int .i64 0, .int .i64 0]) (t := 26) ?hr ?_; (case hd => rfl); (case hg => rfl); (case hr => first | (go_simp; done) | (go_simp; rfl)); intro gb172 hg w8 hbox hb; have n0_ := Aside0.mk (blk_below (g := gb164) (o := .cells #[.int .i64 0, .int .i64 0] 26 (0, 0)) (by (with_reducible repeat (first | refine blk_drewN ?_ _ | refine blk_drew ?_ | refine blk_alloc ?_ _)); exact BK164.out) hb); have n1_ := Aside0.mk (IsS118.below (by repeat (first | (with_reducible first | exact HI168.out | apply IsS118.alloc | apply IsS118.drewN | apply IsS118.drew | apply IsS118.set_1 | apply IsS118.set_2 | refine IsS118.far ?_ NB168_164.out _) | exact HI168.out)) hb); have n2_ := Aside0.mk (below_step (by repeat (first | (with_reducible first | exact HB.out | apply below_alloc | apply pw_below_drewN | apply below_drew1 | refine below_set ?_ (IsS118.ge HI168.out) | refine below_set ?_ GE164.out) | exact HB.out)) hb); have n3_ := Aside0.mk (hbox); have n4_ := Aside0.mk ((by rw [hg]; exact (below_size (by repeat (first | (with_reducible first | exact HB.out | apply below_alloc | apply pw_below_drewN | apply below_drew1 | refine below_set ?_ (IsS118.ge HI168.out) | refine below_set ?_ GE164.out) | exact HB.out))) : w.heap.size ≤ gb172)); have n5_ := Aside0.mk ((by rw [hg]; exact (below_size (by repeat (first | (with_reducible first | exact HB.out | apply below_alloc | apply pw_below_drewN | apply below_drew1 | refine below_set ?_ (IsS118.ge HI168.out) | refine below_set ?_ GE164.out) | exact HB.out))) : w.heap.size ≤ gb172)); have n6_ := Aside0.mk ((by rw [hg]; exact Nat.ne_of_lt (blk_lt (g := gb164) (o := .cells #[.int .i64 0, .int .i64 0] 26 (0, 0)) (by (with_reducible repeat (first | refine blk_drewN ?_ _ | refine blk_drew ?_ | refine blk_alloc ?_ _)); exact BK164.out)) : gb164 ≠ gb172)); have n7_ := Aside0.mk ((by rw [hg]; exact Nat.ne_of_gt (blk_lt (g := gb164) (o := .cells #[.int .i64 0, .int .i64 0] 26 (0, 0)) (by (with_reducible repeat (first | refine blk_drewN ?_ _ | refine blk_drew ?_ | refine blk_alloc ?_ _)); exact BK164.out)) : gb172 ≠ gb164)); have n8_ := Aside0.mk ((by rw [hg]; exact Nat.ne_of_lt (IsS118.lt (show IsS118 w _ g168 t165 t170 t171 from by repeat (first | (with_reducible first | exact HI168.out | apply IsS118.alloc | apply IsS118.drewN | apply IsS118.drew | apply IsS118.set_1 | apply IsS118.set_2 | refine IsS118.far ?_ NB168_164.out _) | exact HI168.out))) : g168 ≠ gb172)); have n9_ := Aside0.mk ((by rw [hg]; exact Nat.ne_of_gt (IsS118.lt (show IsS118 w _ g168 t165 t170 t171 from by repeat (first | (with_reducible first | exact HI168.out | apply IsS118.alloc | apply IsS118.drewN | apply IsS118.drew | apply IsS118.set_1 | apply IsS118.set_2 | refine IsS118.far ?_ NB168_164.out _) | exact HI168.out))) : gb172 ≠ g168)); clear BK164; clear HI168; clear HB; have BK164 := n0_; have HI168 := n1_; have HB := n2_; have BK172 := n3_; have GW172 := n4_; have GE172 := n5_; have NB164_172 := n6_; have NB172_164 := n7_; have NB168_172 := n8_; have NB172_168 := n9_; clear n0_ n1_ n2_ n3_ n4_ n5_ n6_ n7_ n8_ n9_; clear hb hbox hg; have hnb9 := NB172_164.out; have hnc9 := NB164_172.out; have hnb10 := NB172_168.out; have hnc10 := NB168_172.out; have hcz11_0 : w8.cell? ⟨gb172, 0, none⟩ = some (.int .i64 0) := (blk_cell BK172.out 0).trans rfl; have hcz11_1 : w8.cell? ⟨gb172, 1, none⟩ = some (.int .i64 0) := (blk_cell BK172.out 1).trans rfl; have hfz11_0 := blk_frozen BK172.out 0; have hfz11_1 := blk_frozen BK172.out 1) | ((with_reducible refine gate_callee (f := 81) rfl ?_); refine goesL_ (some 12) rfl rfl Try.func81 (by kernel_rfl) rfl #[.pointer (some ⟨g168, 0, none⟩), .int .i64 71] rfl (by (try simp only [List.map_toArray, List.map_cons, List.map_nil]); first | done | rfl | (simp only [List.length_drop, List.length_take]; rfl)) ?_; (with_reducible refine (spec_l00Src_pick.calls g168 t165 t170 t171 71 t173 t174 t175 w _ ?side1 ?side2 A4.out).mono ?_); (case side1 => repeat (first | (with_reducible first | exact HI168.out | apply IsS118.alloc | apply IsS118.drewN | apply IsS118.drew | apply IsS118.set_1 | apply IsS118.set_2 | refine IsS118.far ?_ NB168_164.out _ | refine IsS118.far ?_ NB168_172.out _) | exact HI168.out)); (case side2 => repeat (first | (with_reducible first | exact HB.out | apply below_alloc | apply pw_below_drewN | apply below_drew1 | refine below_set ?_ (IsS118.ge HI168.out) | refine below_set ?_ GE164.out | refine below_set ?_ GE172.out) | exact HB.out)); rintro e w12 ⟨rfl, hi, hb, hk⟩; refine ⟨_, rfl, ?_⟩; have n0_ := Aside0.mk (KeepBut.blk hk (g' := gb164) (o := .cells #[.int .i64 0, .int .i64 0] 26 (0, 0)) (by (with_reducible repeat (first | refine blk_drewN ?_ _ | refine blk_drew ?_ | refine blk_alloc ?_ _)); refine blk_far ?_ NB164_172.out _; (with_reducible repeat (first | refine blk_drewN ?_ _ | refine blk_drew ?_ | refine blk_alloc ?_ _)); refine blk_far ?_ NB164_172.out _; (with_reducible repeat (first | refine blk_drewN ?_ _ | refine blk_drew ?_ | refine blk_alloc ?_ _)); exact BK164.out) NB164_168.out (by simp)); have n1_ := Aside0.mk (KeepBut.blk hk (g' := gb172) (o := .cells #[.int .i64 (wrap64 (t169 - 35)), .int .i64 0] 26 (0, 0)) (by (with_reducible repeat (first | refine blk_drewN ?_ _ | refine blk_drew ?_ | refine blk_alloc ?_ _)); refine blk_put (cs := #[.int .i64 (wrap64 (t169 - 35)), .int .i64 0]) ?_ 1 _ rfl; (with_reducible repeat (first | refine blk_drewN ?_ _ | refine blk_drew ?_ | refine blk_alloc ?_ _)); refine blk_put (cs := #[.int .i64 0, .int .i64 0]) ?_ 0 _ rfl; (with_reducible repeat (first | refine blk_drewN ?_ _ | refine blk_drew ?_ | refine blk_alloc ?_ _)); exact BK172.out) NB172_168.out (by simp)); have n2_ := Aside0.mk (hb); have n3_ := Aside0.mk (hi); clear BK164; clear BK172; clear HB; clear HI168; have BK164 := n0_; have BK172 := n1_; have HB := n2_; have HI168 := n3_; clear n0_ n1_ n2_ n3_; (try clear hb); (try clear hb2); (try clear hk); (try clear hi); have hcz13_0 : w12.cell? ⟨gb172, 0, none⟩ = some (.int .i64 (wrap64 (t169 - 35))) := (blk_cell BK172.out 0).trans rfl; have hcz13_1 : w12.cell? ⟨gb172, 1, none⟩ = some (.int .i64 0) := (blk_cell BK172.out 1).trans rfl; have hfz13_0 := blk_frozen BK172.out 0; have hfz13_1 := blk_frozen BK172.out 1; have hnb14 := NB164_168.out; have hnc14 := NB168_164.out; have hcz15_0 : w12.cell? ⟨gb164, 0, none⟩ = some (.int .i64 0) := (blk_cell BK164.out 0).trans rfl; have hcz15_1 : w12.cell? ⟨gb164, 1, none⟩ = some (.int .i64 0) := (blk_cell BK164.out 1).trans rfl; have hfz15_0 := blk_frozen BK164.out 0; have hfz15_1 := blk_frozen BK164.out 1))
    refine bodyPost_ret (results_cell_row rfl _ _ gb164 26 #[.int .i64 (wrap64 (t169 - 35)), .int .i64 (wrap64 (t173 - 35))] (0, 0) _ rfl (by (with_reducible repeat (first | refine blk_drewN ?_ _ | refine blk_drew ?_ | refine blk_alloc ?_ _)); refine blk_put (cs := #[.int .i64 (wrap64 (t169 - 35)), .int .i64 0]) ?_ 1 _ rfl; (with_reducible repeat (first | refine blk_drewN ?_ _ | refine blk_drew ?_ | refine blk_alloc ?_ _)); refine blk_put (cs := #[.int .i64 0, .int .i64 0]) ?_ 0 _ rfl; (with_reducible repeat (first | refine blk_drewN ?_ _ | refine blk_drew ?_ | refine blk_alloc ?_ _)); refine blk_far ?_ NB164_172.out _; (with_reducible repeat (first | refine blk_drewN ?_ _ | refine blk_drew ?_ | refine blk_alloc ?_ _)); exact BK164.out) Try.underlying26 rfl (by kernel_rfl)) rfl ?_
    exact ⟨by first | rfl | (simp [errW_none, errW_some] <;> rfl) | (simp [*, errW_none, errW_some] <;> rfl), by repeat (first | (with_reducible first | exact HB.out | apply below_alloc | apply pw_below_drewN | apply below_drew1 | refine below_set ?_ (IsS118.ge HI168.out) | refine below_set ?_ GE164.out | refine below_set ?_ GE172.out) | exact HB.out)⟩

end Go.Proofs.Ytekcngoemeadlaa.U
