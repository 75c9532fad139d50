/-
  Contracts of the program's functions, each a plain Lean function beside the machine's call: written by this session's program over the kit's print.
-/
import Derived.Test.YtncckihaacceaaaSx0
import Derived.Test.YtncckihaacceaaaSx2
import Derived.Test.YtncckihaacceaaaSx3
import Derived.Test.YtncckihaacceaaaSx4
namespace Go.Proofs.Ytncckihaacceaaa.S
open Go.RowKit Go.Proofs.YtncckihaacceaaaW.PrintWords Go.Proofs.YtncckihaacceaaaW.PrintLast Go.Proofs.YtncckihaacceaaaW.PrintMore
attribute [local go_sem] max2_int min2_int max_two min_two max_three min_three max_four min_four   -- for this text's walks alone
set_option linter.unusedVariables false
set_option linter.unusedSimpArgs false

/-! ### laws_markSourceS: function 30 -/
def laws_markSourceS.l0 : Nat → List (S69) → Int → Int → Option (Int × (List (S69)))
 | 0, _, _, _ => none
 | k + 1, x0, x1, x5 => if x5 < (x0.length : Int) then (if 0 ≤ x5 then ((some (x0.set (x5 : Int).toNat (⟨(⟨x1, (rd_T69 x0 x5).f0.f1⟩ : S67), (rd_T69 x0 x5).f1, (rd_T69 x0 x5).f2⟩ : S69) : List (S69))).bind fun y251 => ((some (y251.set (x5 : Int).toNat (⟨(⟨(rd_T69 y251 x5).f0.f0, wrap64 (x1 + 1)⟩ : S67), (rd_T69 y251 x5).f1, (rd_T69 y251 x5).f2⟩ : S69) : List (S69))).bind fun y252 => ((some (y252.set (x5 : Int).toNat (⟨(⟨(rd_T69 y252 x5).f0.f0, (rd_T69 y252 x5).f0.f1⟩ : S67), floatOfInt .f32 (wrap64 ((wrap64 (x1 + 1)) + 1)), (rd_T69 y252 x5).f2⟩ : S69) : List (S69))).bind fun y253 => (laws_markSourceS.l0 k (y253.set (x5 : Int).toNat (⟨(⟨(rd_T69 y253 x5).f0.f0, (rd_T69 y253 x5).f0.f1⟩ : S67), (rd_T69 y253 x5).f1, wrap64 ((wrap64 ((wrap64 (x1 + 1)) + 1)) + 1)⟩ : S69)) (wrap64 ((wrap64 ((wrap64 ((wrap64 (x1 + 1)) + 1)) + 1)) + 1)) (wrap64 (x5 + 1)))))) else (none)) else (some (x1, x0))
def laws_markSourceS.f (k : Nat) (l0 : List (S69)) (a1 : Int) : Option (Int × (List (S69))) := laws_markSourceS.l0 k l0 a1 0
theorem laws_markSourceS.mono_l : ∀ k, (∀ y0 y1 y2, LeO (laws_markSourceS.l0 k y0 y1 y2) (laws_markSourceS.l0 (k + 1) y0 y1 y2))
 | 0 => fun _ _ _ r h => by simp [laws_markSourceS.l0] at h
 | k + 1 => by
  have ih0 := laws_markSourceS.mono_l k
  · intro y0 y1 y2
    unfold laws_markSourceS.l0
    repeat' first
    | (with_reducible exact ih0 _ _ _)
    | (with_reducible exact LeO.refl _)
    | (with_reducible exact LeO.none _)
    | (with_reducible refine LeO.ite ?_ ?_)
    | (with_reducible refine LeO.bind ?_ (fun _ => ?_))
    | exact ih0 _ _ _
    | exact LeO.none _
    | refine LeO.ite ?_ ?_
    | refine LeO.bind ?_ (fun _ => ?_)
theorem laws_markSourceS.mono : ∀ a0 a1 k, LeO (laws_markSourceS.f k a0 a1) (laws_markSourceS.f (k + 1) a0 a1) := by
 intro a0 a1 k
 have ih0 := laws_markSourceS.mono_l k
 unfold laws_markSourceS.f
 repeat' first
  | (with_reducible exact ih0 _ _ _)
  | (with_reducible exact LeO.refl _)
  | (with_reducible exact LeO.none _)
  | (with_reducible refine LeO.ite ?_ ?_)
  | (with_reducible refine LeO.bind ?_ (fun _ => ?_))
  | exact ih0 _ _ _
  | exact LeO.none _
  | refine LeO.ite ?_ ?_
  | refine LeO.bind ?_ (fun _ => ?_)
set_option maxHeartbeats 8000000 in
set_option maxRecDepth 100000 in
theorem laws_markSourceS.calls (k : Nat) (P0_ : Nat → Prop) (u9000_ : Value) (l0 : List (S69)) (a1 : Int) (r1 : Int) (r2 : List (S69)) (w0 w : World) (hB : Below w0.heap.size w0 w) (ho0 : Kd.R k69 69 w w0.heap.size P0_ u9000_ l0) (h : laws_markSourceS.f k l0 a1 = some (r1, r2)) :
 Calls Try.prog 30 #[u9000_, .int .i64 a1] w fun e w' => e = .returned (.int .i64 r1) ∧ Kd.R k69 69 w' w0.heap.size (fun k_ => (P0_ k_ ∨ w.heap.size ≤ k_)) u9000_ r2 ∧ Below w0.heap.size w0 w' ∧ Kept w w' (fun k_ => P0_ k_) := by
 have hu3 := Try.underlying3
 have hu23 := Try.underlying23
 have HO0 := Aside0.mk (show Kd.R k69 69 w w0.heap.size (fun k_ => (P0_ k_ ∨ w.heap.size ≤ k_)) u9000_ l0 from Kd.R_mono ho0 (fun k_ hk => (.inl hk)))
 have HK := Aside0.mk (Kept.refl w (fun k_ => P0_ k_))
 have HW0 := Aside0.mk hB.size
 have HB := Aside0.mk hB
 clear hB
 have H : (laws_markSourceS.l0 k l0 a1 0) = some (r1, r2) := h
 clear h
 have H' := Aside0.mk H
 clear H
 go_enter Try.func30, Try.ntmps30
 go_wp2
 go_loopg [1, 5] k (fun kq v1 v5 w' => ∃ (x0_1 : List (S69)) (x1_1 : Int) (x5_1 : Int), v1 = .int .i64 x1_1 ∧ v5 = .int .i64 x5_1 ∧ Aside0 (laws_markSourceS.l0 kq x0_1 x1_1 x5_1 = some (r1, r2)) ∧ Aside0 (kq ≤ k) ∧ Aside0 (Kd.R k69 69 w' w0.heap.size (fun k_ => (P0_ k_ ∨ w.heap.size ≤ k_)) u9000_ x0_1) ∧ Aside0 (Kept w w' (fun k_ => P0_ k_)) ∧ Aside0 (Below w0.heap.size w0 w'))
 case atStart => exact ⟨(l0), (a1), (0), (by first | rfl | (simp; done) | (simp [*]; done)), (by first | rfl | (simp; done) | (simp [*]; done)), H', ⟨Nat.le_refl _⟩, ⟨by (with_reducible repeat (first | apply Kd.R_alloc | apply Kd.R_drewN | apply Kd.R_drew)); exact HO0.out⟩, ⟨by repeat (first | (with_reducible first | exact HK.out | apply Kept.alloc | apply Kept.drewN | apply Kept.drew) | exact HK.out)⟩, ⟨by repeat (first | (with_reducible first | exact HB.out | apply below_alloc | apply pw_below_drewN | apply below_drew1) | exact HB.out)⟩⟩
 case round =>
  clear H'
  (try clear p2)
  obtain ⟨x0_1, x1_1, x5_1, rfl, rfl, HA, HK1, HO_0, HK, HB⟩ := hrel
  cases gk with
  | zero => exact absurd HA.out (by simp [laws_markSourceS.l0])
  | succ k1 =>
   have H := HA.out
   clear HA
   simp only [laws_markSourceS.l0] at H
   by_cases c3 : x5_1 < (x0_1.length : Int)
   · rw [if_pos c3] at H
     have c3b0 : decide (x5_1 < (x0_1.length : Int)) = true := decide_eq_true c3
     clear c3
     by_cases c4 : 0 ≤ x5_1
     · rw [if_pos c4] at H
       have c4b0 : decide (0 ≤ x5_1) = true := decide_eq_true c4
       clear c4
       obtain ⟨y251, hy251⟩ : ∃ y_ : List (S69), y_ = (x0_1.set (x5_1 : Int).toNat (⟨(⟨x1_1, (rd_T69 x0_1 x5_1).f0.f1⟩ : S67), (rd_T69 x0_1 x5_1).f1, (rd_T69 x0_1 x5_1).f2⟩ : S69)) := ⟨_, rfl⟩
       replace H : ((some (y251.set (x5_1 : Int).toNat (⟨(⟨(rd_T69 y251 x5_1).f0.f0, wrap64 (x1_1 + 1)⟩ : S67), (rd_T69 y251 x5_1).f1, (rd_T69 y251 x5_1).f2⟩ : S69) : List (S69))).bind fun y252 => ((some (y252.set (x5_1 : Int).toNat (⟨(⟨(rd_T69 y252 x5_1).f0.f0, (rd_T69 y252 x5_1).f0.f1⟩ : S67), floatOfInt .f32 (wrap64 ((wrap64 (x1_1 + 1)) + 1)), (rd_T69 y252 x5_1).f2⟩ : S69) : List (S69))).bind fun y253 => (laws_markSourceS.l0 k1 (y253.set (x5_1 : Int).toNat (⟨(⟨(rd_T69 y253 x5_1).f0.f0, (rd_T69 y253 x5_1).f0.f1⟩ : S67), (rd_T69 y253 x5_1).f1, wrap64 ((wrap64 ((wrap64 (x1_1 + 1)) + 1)) + 1)⟩ : S69)) (wrap64 ((wrap64 ((wrap64 ((wrap64 (x1_1 + 1)) + 1)) + 1)) + 1)) (wrap64 (x5_1 + 1))))) = some (r1, r2) := by first | (rw [hy251]; with_reducible exact H) | (have H2_ := (Option.bind_some _ _).symm.trans H; rw [hy251]; with_reducible exact H2_) | (have H2_ := (Option.bind_some _ _).symm.trans H; with_reducible exact H2_) | with_reducible exact H | (rw [hy251]; exact H) | exact H
       have Ny251 := Aside0.mk hy251
       clear hy251
       obtain ⟨y252, hy252⟩ : ∃ y_ : List (S69), y_ = (y251.set (x5_1 : Int).toNat (⟨(⟨(rd_T69 y251 x5_1).f0.f0, wrap64 (x1_1 + 1)⟩ : S67), (rd_T69 y251 x5_1).f1, (rd_T69 y251 x5_1).f2⟩ : S69)) := ⟨_, rfl⟩
       replace H : ((some (y252.set (x5_1 : Int).toNat (⟨(⟨(rd_T69 y252 x5_1).f0.f0, (rd_T69 y252 x5_1).f0.f1⟩ : S67), floatOfInt .f32 (wrap64 ((wrap64 (x1_1 + 1)) + 1)), (rd_T69 y252 x5_1).f2⟩ : S69) : List (S69))).bind fun y253 => (laws_markSourceS.l0 k1 (y253.set (x5_1 : Int).toNat (⟨(⟨(rd_T69 y253 x5_1).f0.f0, (rd_T69 y253 x5_1).f0.f1⟩ : S67), (rd_T69 y253 x5_1).f1, wrap64 ((wrap64 ((wrap64 (x1_1 + 1)) + 1)) + 1)⟩ : S69)) (wrap64 ((wrap64 ((wrap64 ((wrap64 (x1_1 + 1)) + 1)) + 1)) + 1)) (wrap64 (x5_1 + 1)))) = some (r1, r2) := by first | (rw [hy252]; with_reducible exact H) | (have H2_ := (Option.bind_some _ _).symm.trans H; rw [hy252]; with_reducible exact H2_) | (have H2_ := (Option.bind_some _ _).symm.trans H; with_reducible exact H2_) | with_reducible exact H | (rw [hy252]; exact H) | exact H
       have Ny252 := Aside0.mk hy252
       clear hy252
       obtain ⟨y253, hy253⟩ : ∃ y_ : List (S69), y_ = (y252.set (x5_1 : Int).toNat (⟨(⟨(rd_T69 y252 x5_1).f0.f0, (rd_T69 y252 x5_1).f0.f1⟩ : S67), floatOfInt .f32 (wrap64 ((wrap64 (x1_1 + 1)) + 1)), (rd_T69 y252 x5_1).f2⟩ : S69)) := ⟨_, rfl⟩
       replace H : (laws_markSourceS.l0 k1 (y253.set (x5_1 : Int).toNat (⟨(⟨(rd_T69 y253 x5_1).f0.f0, (rd_T69 y253 x5_1).f0.f1⟩ : S67), (rd_T69 y253 x5_1).f1, wrap64 ((wrap64 ((wrap64 (x1_1 + 1)) + 1)) + 1)⟩ : S69)) (wrap64 ((wrap64 ((wrap64 ((wrap64 (x1_1 + 1)) + 1)) + 1)) + 1)) (wrap64 (x5_1 + 1))) = some (r1, r2) := by first | (rw [hy253]; with_reducible exact H) | (have H2_ := (Option.bind_some _ _).symm.trans H; rw [hy253]; with_reducible exact H2_) | (have H2_ := (Option.bind_some _ _).symm.trans H; with_reducible exact H2_) | with_reducible exact H | (rw [hy253]; exact H) | exact H
       have Ny253 := Aside0.mk hy253
       clear hy253
       obtain ⟨y254, hy254⟩ : ∃ y_ : List (S69), y_ = (y253.set (x5_1 : Int).toNat (⟨(⟨(rd_T69 y253 x5_1).f0.f0, (rd_T69 y253 x5_1).f0.f1⟩ : S67), (rd_T69 y253 x5_1).f1, wrap64 ((wrap64 ((wrap64 (x1_1 + 1)) + 1)) + 1)⟩ : S69)) := ⟨_, rfl⟩
       replace H : (laws_markSourceS.l0 k1 y254 (wrap64 ((wrap64 ((wrap64 ((wrap64 (x1_1 + 1)) + 1)) + 1)) + 1)) (wrap64 (x5_1 + 1))) = some (r1, r2) := by first | (rw [hy254]; with_reducible exact H) | (have H2_ := (Option.bind_some _ _).symm.trans H; rw [hy254]; with_reducible exact H2_) | (have H2_ := (Option.bind_some _ _).symm.trans H; with_reducible exact H2_) | with_reducible exact H | (rw [hy254]; exact H) | exact H
       have Ny254 := Aside0.mk hy254
       clear hy254
       have H' := Aside0.mk H
       clear H
       obtain ⟨Ao9, co9, eo9⟩ := Kd.R_slice HO_0.out
       subst eo9
       have p5 : 0 ≤ (x5_1 : Int) := of_decide_eq_true (by first | (with_reducible assumption) | assumption)
       have q5 : (x5_1 : Int) < ((x0_1.length : Int) : Int) := of_decide_eq_true (by first | (with_reducible assumption) | assumption)
       obtain ⟨go5, co5, eo5, gb5, gl5, cl5, HG5⟩ := Kd.R_form HO_0.out (by omega)
       (first | cases eo5 | (injection eo5 with ea_ en_ ec_; (first | subst ea_ | (injection ea_ with ea_; subst ea_)); subst ec_; clear en_))
       have GB5 := Aside0.mk gb5
       have GG5 := Aside0.mk HG5
       clear gb5 gl5 HG5
       have HMgo5 := Aside0.mk (show (P0_ go5 ∨ w.heap.size ≤ go5) from (HO_0.out.1 _ rfl))
       obtain ⟨ce5, hcl5, hM5, hcc5, hfr5⟩ := Kd.R_elem HO_0.out z69 (x5_1 : Int) p5 q5
       obtain rfl := k69_openM hM5
       have hx5_0 : wr.cell? ⟨go5, (x5_1 : Int).toNat * 4, none⟩ = some (.int .i64 ((rd_T69 x0_1 x5_1).f0.f0)) := hcc5 0 _ rfl
       have hx5_1 : wr.cell? ⟨go5, (x5_1 : Int).toNat * 4 + 1, none⟩ = some (.int .i64 ((rd_T69 x0_1 x5_1).f0.f1)) := hcc5 1 _ rfl
       have hx5_2 : wr.cell? ⟨go5, (x5_1 : Int).toNat * 4 + 2, none⟩ = some (.float .f32 ((rd_T69 x0_1 x5_1).f1)) := hcc5 2 _ rfl
       have hx5_3 : wr.cell? ⟨go5, (x5_1 : Int).toNat * 4 + 3, none⟩ = some (.int .i64 ((rd_T69 x0_1 x5_1).f2)) := hcc5 3 _ rfl
       have hf5_0 : wr.frozen? ⟨go5, (x5_1 : Int).toNat * 4, none⟩ = false := hfr5 0
       have hf5_1 : wr.frozen? ⟨go5, (x5_1 : Int).toNat * 4 + 1, none⟩ = false := hfr5 1
       have hf5_2 : wr.frozen? ⟨go5, (x5_1 : Int).toNat * 4 + 2, none⟩ = false := hfr5 2
       have hf5_3 : wr.frozen? ⟨go5, (x5_1 : Int).toNat * 4 + 3, none⟩ = false := hfr5 3
       clear hcl5 hcc5 hfr5 hM5
       replace p5 := eq_true p5
       replace q5 := eq_true q5
       have HX10 := Aside0.mk (show Kd.R k69 69 wr w0.heap.size (fun k_ => (P0_ k_ ∨ w.heap.size ≤ k_)) (.slice (some ⟨go5, 0, none⟩) x0_1.length co9) x0_1 from (by (with_reducible repeat (first | apply Kd.R_alloc | apply Kd.R_drewN | apply Kd.R_drew)); exact HO_0.out))
       obtain ⟨ce10, hcl10, hM10, hcc10, hfr10⟩ := Kd.R_elem HX10.out z69 (x5_1 : Int) (of_decide_eq_true (by first | (with_reducible assumption) | assumption)) (by have h_ : (x5_1 : Int) < ((x0_1.length : Int) : Int) := of_decide_eq_true (by first | (with_reducible assumption) | assumption); first | exact h_ | (have e_ := (Kd.R_reads' HO_0.out).1; omega) | simpa using h_)
       obtain rfl := k69_openM hM10
       have HP10 := Kd.R_seg HX10.out (x5_1 : Int) (of_decide_eq_true (by first | (with_reducible assumption) | assumption)) (by have h_ : (x5_1 : Int) < ((x0_1.length : Int) : Int) := of_decide_eq_true (by first | (with_reducible assumption) | assumption); first | exact h_ | (have e_ := (Kd.R_reads' HO_0.out).1; omega) | simpa using h_) (seg := [.int .i64 x1_1]) (j := 0) hcl10 hcc10 (show 1 ≤ 4 from by decide) (x' := (⟨(⟨x1_1, (rd_T69 x0_1 x5_1).f0.f1⟩ : S67), (rd_T69 x0_1 x5_1).f1, (rd_T69 x0_1 x5_1).f2⟩ : S69)) (k69_mkM _ _ _ (⟨(⟨x1_1, (rd_T69 x0_1 x5_1).f0.f1⟩ : S67), (rd_T69 x0_1 x5_1).f1, (rd_T69 x0_1 x5_1).f2⟩ : S69) ) (fun _ hk => hk)
       have hx10_0 := hcc10 0 _ rfl
       (try simp only [show (k69).sz = 4 from rfl, Nat.mul_one, Nat.add_zero] at hx10_0)
       have hf10_0 := hfr10 0
       (try simp only [show (k69).sz = 4 from rfl, Nat.mul_one, Nat.add_zero] at hf10_0)
       clear hcl10 hcc10 hfr10 hM10
       go_wp2_with (first | ((with_reducible refine gate_store (t := 2) (p := 17) rfl ?_); refine store_event (t := 2) (p := 17) (v := ?vo_w11) (w1 := (wr.setCell ⟨go5, (x5_1 : Int).toNat * 4, none⟩ (.int .i64 x1_1))) ?hg ?ho ?hn ?hr ?_; (case ho => rfl); (case hg => rfl); (case hn => rfl); (case hr => first | (go_simp; done) | (go_simp; rfl)); intro w11 hw; have hg : wr.grownBy w11 (some go5) := (by rw [hw]; exact HP10.2); have hp_ : Kd.R k69 69 w11 w0.heap.size (fun k_ => (P0_ k_ ∨ w.heap.size ≤ k_)) (.slice (some ⟨go5, 0, none⟩) x0_1.length co9) y251 := (by rw [hw, Ny251.out]; exact HP10.1); clear HP10; have n0_ := Aside0.mk (hp_); have n1_ := Aside0.mk ((by rw [hw]; exact below_set (HB.out) GB5.out : Below w0.heap.size w0 w11)); have n2_ := Aside0.mk (Kept.of_grown (S := (fun k_ => P0_ k_)) hg (by repeat (first | (with_reducible first | exact HK.out | apply Kept.alloc | apply Kept.drewN | apply Kept.drew) | exact HK.out)) (fun k_ e_ => (HO_0.out.1 k_ e_))); clear HO_0; clear HB; clear HK; have HO_0 := n0_; have HB := n1_; have HK := n2_; clear n0_ n1_ n2_; clear hg hw hp_; have p6 : 0 ≤ (x5_1 : Int) := of_decide_eq_true (by first | (with_reducible assumption) | assumption); have q6 : (x5_1 : Int) < ((x0_1.length : Int) : Int) := of_decide_eq_true (by first | (with_reducible assumption) | assumption); obtain ⟨ce6, hcl6, hM6, hcc6, hfr6⟩ := Kd.R_elem HO_0.out z69 (x5_1 : Int) p6 q6; obtain rfl := k69_openM hM6; have hx6_0 : w11.cell? ⟨go5, (x5_1 : Int).toNat * 4, none⟩ = some (.int .i64 ((rd_T69 y251 x5_1).f0.f0)) := hcc6 0 _ rfl; have hx6_1 : w11.cell? ⟨go5, (x5_1 : Int).toNat * 4 + 1, none⟩ = some (.int .i64 ((rd_T69 y251 x5_1).f0.f1)) := hcc6 1 _ rfl; have hx6_2 : w11.cell? ⟨go5, (x5_1 : Int).toNat * 4 + 2, none⟩ = some (.float .f32 ((rd_T69 y251 x5_1).f1)) := hcc6 2 _ rfl; have hx6_3 : w11.cell? ⟨go5, (x5_1 : Int).toNat * 4 + 3, none⟩ = some (.int .i64 ((rd_T69 y251 x5_1).f2)) := hcc6 3 _ rfl; have hf6_0 : w11.frozen? ⟨go5, (x5_1 : Int).toNat * 4, none⟩ = false := hfr6 0; have hf6_1 : w11.frozen? ⟨go5, (x5_1 : Int).toNat * 4 + 1, none⟩ = false := hfr6 1; have hf6_2 : w11.frozen? ⟨go5, (x5_1 : Int).toNat * 4 + 2, none⟩ = false := hfr6 2; have hf6_3 : w11.frozen? ⟨go5, (x5_1 : Int).toNat * 4 + 3, none⟩ = false := hfr6 3; clear hcl6 hcc6 hfr6 hM6; replace p6 := eq_true p6; replace q6 := eq_true q6; have HX12 := Aside0.mk (show Kd.R k69 69 w11 w0.heap.size (fun k_ => (P0_ k_ ∨ w.heap.size ≤ k_)) (.slice (some ⟨go5, 0, none⟩) x0_1.length co9) y251 from (by (with_reducible repeat (first | apply Kd.R_alloc | apply Kd.R_drewN | apply Kd.R_drew)); exact HO_0.out)); obtain ⟨ce12, hcl12, hM12, hcc12, hfr12⟩ := Kd.R_elem HX12.out z69 (x5_1 : Int) (of_decide_eq_true (by first | (with_reducible assumption) | assumption)) (by have h_ : (x5_1 : Int) < ((x0_1.length : Int) : Int) := of_decide_eq_true (by first | (with_reducible assumption) | assumption); first | exact h_ | (have e_ := (Kd.R_reads' HO_0.out).1; omega) | simpa using h_); obtain rfl := k69_openM hM12; have HP12 := Kd.R_seg HX12.out (x5_1 : Int) (of_decide_eq_true (by first | (with_reducible assumption) | assumption)) (by have h_ : (x5_1 : Int) < ((x0_1.length : Int) : Int) := of_decide_eq_true (by first | (with_reducible assumption) | assumption); first | exact h_ | (have e_ := (Kd.R_reads' HO_0.out).1; omega) | simpa using h_) (seg := [.int .i64 (wrap64 (x1_1 + 1))]) (j := 1) hcl12 hcc12 (show 2 ≤ 4 from by decide) (x' := (⟨(⟨(rd_T69 y251 x5_1).f0.f0, wrap64 (x1_1 + 1)⟩ : S67), (rd_T69 y251 x5_1).f1, (rd_T69 y251 x5_1).f2⟩ : S69)) (k69_mkM _ _ _ (⟨(⟨(rd_T69 y251 x5_1).f0.f0, wrap64 (x1_1 + 1)⟩ : S67), (rd_T69 y251 x5_1).f1, (rd_T69 y251 x5_1).f2⟩ : S69) ) (fun _ hk => hk); have hx12_1 := hcc12 1 _ rfl; (try simp only [show (k69).sz = 4 from rfl, Nat.mul_one, Nat.add_zero] at hx12_1); have hf12_1 := hfr12 1; (try simp only [show (k69).sz = 4 from rfl, Nat.mul_one, Nat.add_zero] at hf12_1); clear hcl12 hcc12 hfr12 hM12) | ((with_reducible refine gate_store (t := 2) (p := 25) rfl ?_); refine store_event (t := 2) (p := 25) (v := ?vo_w13) (w1 := (w11.setCell ⟨go5, (x5_1 : Int).toNat * 4 + 1, none⟩ (.int .i64 (wrap64 (x1_1 + 1))))) ?hg ?ho ?hn ?hr ?_; (case ho => rfl); (case hg => rfl); (case hn => rfl); (case hr => first | (go_simp; done) | (go_simp; rfl)); intro w13 hw; have hg : w11.grownBy w13 (some go5) := (by rw [hw]; exact HP12.2); have hp_ : Kd.R k69 69 w13 w0.heap.size (fun k_ => (P0_ k_ ∨ w.heap.size ≤ k_)) (.slice (some ⟨go5, 0, none⟩) x0_1.length co9) y252 := (by rw [hw, Ny252.out]; exact HP12.1); clear HP12; have n0_ := Aside0.mk (hp_); have n1_ := Aside0.mk ((by rw [hw]; exact below_set (HB.out) GB5.out : Below w0.heap.size w0 w13)); have n2_ := Aside0.mk (Kept.of_grown (S := (fun k_ => P0_ k_)) hg (by repeat (first | (with_reducible first | exact HK.out | apply Kept.alloc | apply Kept.drewN | apply Kept.drew) | exact HK.out)) (fun k_ e_ => (HO_0.out.1 k_ e_))); clear HO_0; clear HB; clear HK; have HO_0 := n0_; have HB := n1_; have HK := n2_; clear n0_ n1_ n2_; clear hg hw hp_; have p7 : 0 ≤ (x5_1 : Int) := of_decide_eq_true (by first | (with_reducible assumption) | assumption); have q7 : (x5_1 : Int) < ((x0_1.length : Int) : Int) := of_decide_eq_true (by first | (with_reducible assumption) | assumption); obtain ⟨ce7, hcl7, hM7, hcc7, hfr7⟩ := Kd.R_elem HO_0.out z69 (x5_1 : Int) p7 q7; obtain rfl := k69_openM hM7; have hx7_0 : w13.cell? ⟨go5, (x5_1 : Int).toNat * 4, none⟩ = some (.int .i64 ((rd_T69 y252 x5_1).f0.f0)) := hcc7 0 _ rfl; have hx7_1 : w13.cell? ⟨go5, (x5_1 : Int).toNat * 4 + 1, none⟩ = some (.int .i64 ((rd_T69 y252 x5_1).f0.f1)) := hcc7 1 _ rfl; have hx7_2 : w13.cell? ⟨go5, (x5_1 : Int).toNat * 4 + 2, none⟩ = some (.float .f32 ((rd_T69 y252 x5_1).f1)) := hcc7 2 _ rfl; have hx7_3 : w13.cell? ⟨go5, (x5_1 : Int).toNat * 4 + 3, none⟩ = some (.int .i64 ((rd_T69 y252 x5_1).f2)) := hcc7 3 _ rfl; have hf7_0 : w13.frozen? ⟨go5, (x5_1 : Int).toNat * 4, none⟩ = false := hfr7 0; have hf7_1 : w13.frozen? ⟨go5, (x5_1 : Int).toNat * 4 + 1, none⟩ = false := hfr7 1; have hf7_2 : w13.frozen? ⟨go5, (x5_1 : Int).toNat * 4 + 2, none⟩ = false := hfr7 2; have hf7_3 : w13.frozen? ⟨go5, (x5_1 : Int).toNat * 4 + 3, none⟩ = false := hfr7 3; clear hcl7 hcc7 hfr7 hM7; replace p7 := eq_true p7; replace q7 := eq_true q7; have HX14 := Aside0.mk (show Kd.R k69 69 w13 w0.heap.size (fun k_ => (P0_ k_ ∨ w.heap.size ≤ k_)) (.slice (some ⟨go5, 0, none⟩) x0_1.length co9) y252 from (by (with_reducible repeat (first | apply Kd.R_alloc | apply Kd.R_drewN | apply Kd.R_drew)); exact HO_0.out)); obtain ⟨ce14, hcl14, hM14, hcc14, hfr14⟩ := Kd.R_elem HX14.out z69 (x5_1 : Int) (of_decide_eq_true (by first | (with_reducible assumption) | assumption)) (by have h_ : (x5_1 : Int) < ((x0_1.length : Int) : Int) := of_decide_eq_true (by first | (with_reducible assumption) | assumption); first | exact h_ | (have e_ := (Kd.R_reads' HO_0.out).1; omega) | simpa using h_); obtain rfl := k69_openM hM14; have HP14 := Kd.R_seg HX14.out (x5_1 : Int) (of_decide_eq_true (by first | (with_reducible assumption) | assumption)) (by have h_ : (x5_1 : Int) < ((x0_1.length : Int) : Int) := of_decide_eq_true (by first | (with_reducible assumption) | assumption); first | exact h_ | (have e_ := (Kd.R_reads' HO_0.out).1; omega) | simpa using h_) (seg := [.float .f32 (floatOfInt .f32 (wrap64 ((wrap64 (x1_1 + 1)) + 1)))]) (j := 2) hcl14 hcc14 (show 3 ≤ 4 from by decide) (x' := (⟨(⟨(rd_T69 y252 x5_1).f0.f0, (rd_T69 y252 x5_1).f0.f1⟩ : S67), floatOfInt .f32 (wrap64 ((wrap64 (x1_1 + 1)) + 1)), (rd_T69 y252 x5_1).f2⟩ : S69)) (k69_mkM _ _ _ (⟨(⟨(rd_T69 y252 x5_1).f0.f0, (rd_T69 y252 x5_1).f0.f1⟩ : S67), floatOfInt .f32 (wrap64 ((wrap64 (x1_1 + 1)) + 1)), (rd_T69 y252 x5_1).f2⟩ : S69) ) (fun _ hk => hk); have hx14_2 := hcc14 2 _ rfl; (try simp only [show (k69).sz = 4 from rfl, Nat.mul_one, Nat.add_zero] at hx14_2); have hf14_2 := hfr14 2; (try simp only [show (k69).sz = 4 from rfl, Nat.mul_one, Nat.add_zero] at hf14_2); clear hcl14 hcc14 hfr14 hM14) | ((with_reducible refine gate_store (t := 23) (p := 33) rfl ?_); refine store_event (t := 23) (p := 33) (v := ?vo_w15) (w1 := (w13.setCell ⟨go5, (x5_1 : Int).toNat * 4 + 2, none⟩ (.float .f32 (floatOfInt .f32 (wrap64 ((wrap64 (x1_1 + 1)) + 1)))))) ?hg ?ho ?hn ?hr ?_; (case ho => rfl); (case hg => rfl); (case hn => rfl); (case hr => first | (go_simp; done) | (go_simp; rfl)); intro w15 hw; have hg : w13.grownBy w15 (some go5) := (by rw [hw]; exact HP14.2); have hp_ : Kd.R k69 69 w15 w0.heap.size (fun k_ => (P0_ k_ ∨ w.heap.size ≤ k_)) (.slice (some ⟨go5, 0, none⟩) x0_1.length co9) y253 := (by rw [hw, Ny253.out]; exact HP14.1); clear HP14; have n0_ := Aside0.mk (hp_); have n1_ := Aside0.mk ((by rw [hw]; exact below_set (HB.out) GB5.out : Below w0.heap.size w0 w15)); have n2_ := Aside0.mk (Kept.of_grown (S := (fun k_ => P0_ k_)) hg (by repeat (first | (with_reducible first | exact HK.out | apply Kept.alloc | apply Kept.drewN | apply Kept.drew) | exact HK.out)) (fun k_ e_ => (HO_0.out.1 k_ e_))); clear HO_0; clear HB; clear HK; have HO_0 := n0_; have HB := n1_; have HK := n2_; clear n0_ n1_ n2_; clear hg hw hp_; have p8 : 0 ≤ (x5_1 : Int) := of_decide_eq_true (by first | (with_reducible assumption) | assumption); have q8 : (x5_1 : Int) < ((x0_1.length : Int) : Int) := of_decide_eq_true (by first | (with_reducible assumption) | assumption); obtain ⟨ce8, hcl8, hM8, hcc8, hfr8⟩ := Kd.R_elem HO_0.out z69 (x5_1 : Int) p8 q8; obtain rfl := k69_openM hM8; have hx8_0 : w15.cell? ⟨go5, (x5_1 : Int).toNat * 4, none⟩ = some (.int .i64 ((rd_T69 y253 x5_1).f0.f0)) := hcc8 0 _ rfl; have hx8_1 : w15.cell? ⟨go5, (x5_1 : Int).toNat * 4 + 1, none⟩ = some (.int .i64 ((rd_T69 y253 x5_1).f0.f1)) := hcc8 1 _ rfl; have hx8_2 : w15.cell? ⟨go5, (x5_1 : Int).toNat * 4 + 2, none⟩ = some (.float .f32 ((rd_T69 y253 x5_1).f1)) := hcc8 2 _ rfl; have hx8_3 : w15.cell? ⟨go5, (x5_1 : Int).toNat * 4 + 3, none⟩ = some (.int .i64 ((rd_T69 y253 x5_1).f2)) := hcc8 3 _ rfl; have hf8_0 : w15.frozen? ⟨go5, (x5_1 : Int).toNat * 4, none⟩ = false := hfr8 0; have hf8_1 : w15.frozen? ⟨go5, (x5_1 : Int).toNat * 4 + 1, none⟩ = false := hfr8 1; have hf8_2 : w15.frozen? ⟨go5, (x5_1 : Int).toNat * 4 + 2, none⟩ = false := hfr8 2; have hf8_3 : w15.frozen? ⟨go5, (x5_1 : Int).toNat * 4 + 3, none⟩ = false := hfr8 3; clear hcl8 hcc8 hfr8 hM8; replace p8 := eq_true p8; replace q8 := eq_true q8; have HX16 := Aside0.mk (show Kd.R k69 69 w15 w0.heap.size (fun k_ => (P0_ k_ ∨ w.heap.size ≤ k_)) (.slice (some ⟨go5, 0, none⟩) x0_1.length co9) y253 from (by (with_reducible repeat (first | apply Kd.R_alloc | apply Kd.R_drewN | apply Kd.R_drew)); exact HO_0.out)); obtain ⟨ce16, hcl16, hM16, hcc16, hfr16⟩ := Kd.R_elem HX16.out z69 (x5_1 : Int) (of_decide_eq_true (by first | (with_reducible assumption) | assumption)) (by have h_ : (x5_1 : Int) < ((x0_1.length : Int) : Int) := of_decide_eq_true (by first | (with_reducible assumption) | assumption); first | exact h_ | (have e_ := (Kd.R_reads' HO_0.out).1; omega) | simpa using h_); obtain rfl := k69_openM hM16; have HP16 := Kd.R_seg HX16.out (x5_1 : Int) (of_decide_eq_true (by first | (with_reducible assumption) | assumption)) (by have h_ : (x5_1 : Int) < ((x0_1.length : Int) : Int) := of_decide_eq_true (by first | (with_reducible assumption) | assumption); first | exact h_ | (have e_ := (Kd.R_reads' HO_0.out).1; omega) | simpa using h_) (seg := [.int .i64 (wrap64 ((wrap64 ((wrap64 (x1_1 + 1)) + 1)) + 1))]) (j := 3) hcl16 hcc16 (show 4 ≤ 4 from by decide) (x' := (⟨(⟨(rd_T69 y253 x5_1).f0.f0, (rd_T69 y253 x5_1).f0.f1⟩ : S67), (rd_T69 y253 x5_1).f1, wrap64 ((wrap64 ((wrap64 (x1_1 + 1)) + 1)) + 1)⟩ : S69)) (k69_mkM _ _ _ (⟨(⟨(rd_T69 y253 x5_1).f0.f0, (rd_T69 y253 x5_1).f0.f1⟩ : S67), (rd_T69 y253 x5_1).f1, wrap64 ((wrap64 ((wrap64 (x1_1 + 1)) + 1)) + 1)⟩ : S69) ) (fun _ hk => hk); have hx16_3 := hcc16 3 _ rfl; (try simp only [show (k69).sz = 4 from rfl, Nat.mul_one, Nat.add_zero] at hx16_3); have hf16_3 := hfr16 3; (try simp only [show (k69).sz = 4 from rfl, Nat.mul_one, Nat.add_zero] at hf16_3); clear hcl16 hcc16 hfr16 hM16) | ((with_reducible refine gate_store (t := 2) (p := 40) rfl ?_); refine store_event (t := 2) (p := 40) (v := ?vo_w17) (w1 := (w15.setCell ⟨go5, (x5_1 : Int).toNat * 4 + 3, none⟩ (.int .i64 (wrap64 ((wrap64 ((wrap64 (x1_1 + 1)) + 1)) + 1))))) ?hg ?ho ?hn ?hr ?_; (case ho => rfl); (case hg => rfl); (case hn => rfl); (case hr => first | (go_simp; done) | (go_simp; rfl)); intro w17 hw; have hg : w15.grownBy w17 (some go5) := (by rw [hw]; exact HP16.2); have hp_ : Kd.R k69 69 w17 w0.heap.size (fun k_ => (P0_ k_ ∨ w.heap.size ≤ k_)) (.slice (some ⟨go5, 0, none⟩) x0_1.length co9) y254 := (by rw [hw, Ny254.out]; exact HP16.1); clear HP16; have n0_ := Aside0.mk (hp_); have n1_ := Aside0.mk ((by rw [hw]; exact below_set (HB.out) GB5.out : Below w0.heap.size w0 w17)); have n2_ := Aside0.mk (Kept.of_grown (S := (fun k_ => P0_ k_)) hg (by repeat (first | (with_reducible first | exact HK.out | apply Kept.alloc | apply Kept.drewN | apply Kept.drew) | exact HK.out)) (fun k_ e_ => (HO_0.out.1 k_ e_))); clear HO_0; clear HB; clear HK; have HO_0 := n0_; have HB := n1_; have HK := n2_; clear n0_ n1_ n2_; clear hg hw hp_))
       go_roundg k1
       case measure => have := HK1.out; omega
       case rel => exact ⟨(y254), (wrap64 ((wrap64 ((wrap64 ((wrap64 (x1_1 + 1)) + 1)) + 1)) + 1)), (wrap64 (x5_1 + 1)), (by first | rfl | (simp; done) | (simp [*]; done)), (by first | rfl | (simp; done) | (simp [*]; done)), H', ⟨by have := HK1.out; omega⟩, ⟨by (with_reducible repeat (first | apply Kd.R_alloc | apply Kd.R_drewN | apply Kd.R_drew)); exact HO_0.out⟩, ⟨by repeat (first | (with_reducible first | exact HK.out | apply Kept.alloc | apply Kept.drewN | apply Kept.drew) | exact HK.out)⟩, ⟨by repeat (first | (with_reducible first | exact HB.out | apply below_alloc | apply pw_below_drewN | apply below_drew1) | exact HB.out)⟩⟩
     · rw [if_neg c4] at H
       exact absurd H (by simp)
   · rw [if_neg c3] at H
     have c3b0 : decide (x5_1 < (x0_1.length : Int)) = false := decide_eq_false c3
     clear c3
     simp only [Option.some.injEq, Prod.mk.injEq] at H
     obtain ⟨rfl, rfl⟩ := H
     obtain ⟨Ao18, co18, eo18⟩ := Kd.R_slice HO_0.out
     subst eo18
     go_wp2
     go_ret
     exact ⟨by first | rfl | (simp [errW_none, errW_some] <;> rfl) | (simp [*, errW_none, errW_some] <;> rfl), by (with_reducible repeat (first | apply Kd.R_alloc | apply Kd.R_drewN | apply Kd.R_drew)); exact HO_0.out, by repeat (first | (with_reducible first | exact HB.out | apply below_alloc | apply pw_below_drewN | apply below_drew1) | exact HB.out), by repeat (first | (with_reducible first | exact HK.out | apply Kept.alloc | apply Kept.drewN | apply Kept.drew) | exact HK.out)⟩

/-! ### laws_markComplex64S: function 31 -/
-- emit
def markE.l0 : Nat → List C64 → Int → Int → Option (Int × List C64)
 | 0, _, _, _ => none
 | k + 1, x0, x1, x5 => if x5 < (x0.length : Int) then (if FC 93 94 .f64 .f32 (floatOfInt .f64 x1) = true then (if FC 93 94 .f64 .f32 4607182418800017408 = true then (if 0 ≤ x5 then (markE.l0 k (x0.set (x5 : Int).toNat (⟨fc .f64 .f32 (floatOfInt .f64 x1), fc .f64 .f32 4607182418800017408⟩ : C64)) (wrap64 (x1 + 1)) (wrap64 (x5 + 1))) else (none)) else (none)) else (none)) else (some (x1, x0))
def markE.f (k : Nat) (l0 : List C64) (a1 : Int) : Option (Int × List C64) := markE.l0 k l0 a1 0
theorem markE.mono_l : ∀ k, (∀ y0 y1 y2, LeO (markE.l0 k y0 y1 y2) (markE.l0 (k + 1) y0 y1 y2))
 | 0 => fun _ _ _ r h => by simp [markE.l0] at h
 | k + 1 => by
  have ih0 := markE.mono_l k
  · intro y0 y1 y2
    unfold markE.l0
    repeat' first
    | (with_reducible exact ih0 _ _ _)
    | (with_reducible exact LeO.refl _)
    | (with_reducible exact LeO.none _)
    | (with_reducible refine LeO.ite ?_ ?_)
    | (with_reducible refine LeO.bind ?_ (fun _ => ?_))
    | exact ih0 _ _ _
    | exact LeO.none _
    | refine LeO.ite ?_ ?_
    | refine LeO.bind ?_ (fun _ => ?_)
theorem markE.mono : ∀ a0 a1 k, LeO (markE.f k a0 a1) (markE.f (k + 1) a0 a1) := by
 intro a0 a1 k
 have ih0 := markE.mono_l k
 unfold markE.f
 repeat' first
  | (with_reducible exact ih0 _ _ _)
  | (with_reducible exact LeO.refl _)
  | (with_reducible exact LeO.none _)
  | (with_reducible refine LeO.ite ?_ ?_)
  | (with_reducible refine LeO.bind ?_ (fun _ => ?_))
  | exact ih0 _ _ _
  | exact LeO.none _
  | refine LeO.ite ?_ ?_
  | refine LeO.bind ?_ (fun _ => ?_)
set_option maxHeartbeats 8000000 in
set_option maxRecDepth 100000 in
theorem markE.calls (k : Nat) (P0_ : Nat → Prop) (u9000_ : Value) (l0 : List C64) (a1 : Int) (r1 : Int) (r2 : List C64) (w0 w : World) (hB : Below w0.heap.size w0 w) (ho0 : Kd.R Kd.c64e 94 w w0.heap.size P0_ u9000_ l0) (h : markE.f k l0 a1 = some (r1, r2)) :
 Calls Try.prog 31 #[u9000_, .int .i64 a1] w fun e w' => e = .returned (.int .i64 r1) ∧ Kd.R Kd.c64e 94 w' w0.heap.size (fun k_ => (P0_ k_ ∨ w.heap.size ≤ k_)) u9000_ r2 ∧ Below w0.heap.size w0 w' ∧ Kept w w' (fun k_ => P0_ k_) := by
 have hu3 := Try.underlying3
 have hu65 := Try.underlying65
 have HO0 := Aside0.mk (show Kd.R Kd.c64e 94 w w0.heap.size (fun k_ => (P0_ k_ ∨ w.heap.size ≤ k_)) u9000_ l0 from Kd.R_mono ho0 (fun k_ hk => (.inl hk)))
 have HK := Aside0.mk (Kept.refl w (fun k_ => P0_ k_))
 have HW0 := Aside0.mk hB.size
 have HB := Aside0.mk hB
 clear hB
 have H : (markE.l0 k l0 a1 0) = some (r1, r2) := h
 clear h
 have H' := Aside0.mk H
 clear H
 go_enter Try.func31, Try.ntmps31
 go_wp2
 go_loopg [1, 5] k (fun kq v1 v5 w' => ∃ (x0_1 : List C64) (x1_1 : Int) (x5_1 : Int), v1 = .int .i64 x1_1 ∧ v5 = .int .i64 x5_1 ∧ Aside0 (markE.l0 kq x0_1 x1_1 x5_1 = some (r1, r2)) ∧ Aside0 (kq ≤ k) ∧ Aside0 (Kd.R Kd.c64e 94 w' w0.heap.size (fun k_ => (P0_ k_ ∨ w.heap.size ≤ k_)) u9000_ x0_1) ∧ Aside0 (Kept w w' (fun k_ => P0_ k_)) ∧ Aside0 (Below w0.heap.size w0 w'))
 case atStart => exact ⟨(l0), (a1), (0), (by first | rfl | (simp; done) | (simp [*]; done)), (by first | rfl | (simp; done) | (simp [*]; done)), H', ⟨Nat.le_refl _⟩, ⟨by (with_reducible repeat (first | apply Kd.R_alloc | apply Kd.R_drewN | apply Kd.R_drew)); exact HO0.out⟩, ⟨by repeat (first | (with_reducible first | exact HK.out | apply Kept.alloc | apply Kept.drewN | apply Kept.drew) | exact HK.out)⟩, ⟨by repeat (first | (with_reducible first | exact HB.out | apply below_alloc | apply pw_below_drewN | apply below_drew1) | exact HB.out)⟩⟩
 case round =>
  clear H'
  (try clear p2)
  obtain ⟨x0_1, x1_1, x5_1, rfl, rfl, HA, HK1, HO_0, HK, HB⟩ := hrel
  cases gk with
  | zero => exact absurd HA.out (by simp [markE.l0])
  | succ k1 =>
   have H := HA.out
   clear HA
   simp only [markE.l0] at H
   by_cases c3 : x5_1 < (x0_1.length : Int)
   · rw [if_pos c3] at H
     have c3b0 : decide (x5_1 < (x0_1.length : Int)) = true := decide_eq_true c3
     clear c3
     by_cases c4 : FC 93 94 .f64 .f32 (floatOfInt .f64 x1_1) = true
     · rw [if_pos c4] at H
       have c4b0 : FC 93 94 .f64 .f32 (floatOfInt .f64 x1_1) = true := c4
       clear c4
       by_cases c5 : FC 93 94 .f64 .f32 4607182418800017408 = true
       · rw [if_pos c5] at H
         have fe5 := fun w => cfrunc (P := Try.prog) (src := 93) (dst := 94) (by decide) Try.underlying93 Try.underlying94 c4b0 c5 w
         have c5b0 : FC 93 94 .f64 .f32 4607182418800017408 = true := c5
         clear c5
         by_cases c6 : 0 ≤ x5_1
         · rw [if_pos c6] at H
           have c6b0 : decide (0 ≤ x5_1) = true := decide_eq_true c6
           clear c6
           obtain ⟨y292, hy292⟩ : ∃ y_ : List C64, y_ = (x0_1.set (x5_1 : Int).toNat (⟨fc .f64 .f32 (floatOfInt .f64 x1_1), fc .f64 .f32 4607182418800017408⟩ : C64)) := ⟨_, rfl⟩
           replace H : (markE.l0 k1 y292 (wrap64 (x1_1 + 1)) (wrap64 (x5_1 + 1))) = some (r1, r2) := by first | (rw [hy292]; with_reducible exact H) | (have H2_ := (Option.bind_some _ _).symm.trans H; rw [hy292]; with_reducible exact H2_) | (have H2_ := (Option.bind_some _ _).symm.trans H; with_reducible exact H2_) | with_reducible exact H | (rw [hy292]; exact H) | exact H
           have Ny292 := Aside0.mk hy292
           clear hy292
           as_aux_lemma =>
            have H' := Aside0.mk H
            clear H
            obtain ⟨Ao8, co8, eo8⟩ := Kd.R_slice HO_0.out
            subst eo8
            have p7 : 0 ≤ (x5_1 : Int) := of_decide_eq_true (by first | (with_reducible assumption) | assumption)
            have q7 : (x5_1 : Int) < ((x0_1.length : Int) : Int) := of_decide_eq_true (by first | (with_reducible assumption) | assumption)
            obtain ⟨go7, co7, eo7, gb7, gl7, cl7, HG7⟩ := Kd.R_form HO_0.out (by omega)
            (first | cases eo7 | (injection eo7 with ea_ en_ ec_; (first | subst ea_ | (injection ea_ with ea_; subst ea_)); subst ec_; clear en_))
            have GB7 := Aside0.mk gb7
            have GG7 := Aside0.mk HG7
            clear gb7 gl7 HG7
            have HMgo7 := Aside0.mk (show (P0_ go7 ∨ w.heap.size ≤ go7) from (HO_0.out.1 _ rfl))
            obtain ⟨hx7_0, hf7_0⟩ := Kd.R_celln c64z HO_0.out (x5_1 : Int) p7 q7
            replace p7 := eq_true p7
            replace q7 := eq_true q7
            have HP9 := Kd.R_putg HO_0.out (x5_1 : Int) (⟨fc .f64 .f32 (floatOfInt .f64 x1_1), fc .f64 .f32 4607182418800017408⟩ : C64)
            go_wp2_with (first | ((with_reducible refine gate_store (t := 94) (p := 18) rfl ?_); refine store_event (t := 94) (p := 18) (v := ?vo_w10) (w1 := (wr.setCell ⟨go7, (x5_1 : Int).toNat, none⟩ (.complex .f32 (fc .f64 .f32 (floatOfInt .f64 x1_1)) (fc .f64 .f32 4607182418800017408)))) ?hg ?ho ?hn ?hr ?_; (case ho => rfl); (case hg => rfl); (case hn => rfl); (case hr => first | (go_simp; done) | (go_simp; rfl)); intro w10 hw; have hg : wr.grownBy w10 (some go7) := (by rw [hw]; exact HP9.2); have hp_ : Kd.R Kd.c64e 94 w10 w0.heap.size (fun k_ => (P0_ k_ ∨ w.heap.size ≤ k_)) (.slice (some ⟨go7, 0, none⟩) x0_1.length co8) y292 := (by rw [hw, Ny292.out]; exact HP9.1); clear HP9; have n0_ := Aside0.mk (hp_); have n1_ := Aside0.mk ((by rw [hw]; exact below_set (HB.out) GB7.out : Below w0.heap.size w0 w10)); have n2_ := Aside0.mk (Kept.of_grown (S := (fun k_ => P0_ k_)) hg (by repeat (first | (with_reducible first | exact HK.out | apply Kept.alloc | apply Kept.drewN | apply Kept.drew) | exact HK.out)) (fun k_ e_ => (HO_0.out.1 k_ e_))); clear HO_0; clear HB; clear HK; have HO_0 := n0_; have HB := n1_; have HK := n2_; clear n0_ n1_ n2_; clear hg hw hp_))
            go_roundg k1
            case measure => have := HK1.out; omega
            case rel => exact ⟨(y292), (wrap64 (x1_1 + 1)), (wrap64 (x5_1 + 1)), (by first | rfl | (simp; done) | (simp [*]; done)), (by first | rfl | (simp; done) | (simp [*]; done)), H', ⟨by have := HK1.out; omega⟩, ⟨by (with_reducible repeat (first | apply Kd.R_alloc | apply Kd.R_drewN | apply Kd.R_drew)); exact HO_0.out⟩, ⟨by repeat (first | (with_reducible first | exact HK.out | apply Kept.alloc | apply Kept.drewN | apply Kept.drew) | exact HK.out)⟩, ⟨by repeat (first | (with_reducible first | exact HB.out | apply below_alloc | apply pw_below_drewN | apply below_drew1) | exact HB.out)⟩⟩
         · rw [if_neg c6] at H
           exact absurd H (by simp)
       · rw [if_neg c5] at H
         exact absurd H (by simp)
     · rw [if_neg c4] at H
       exact absurd H (by simp)
   · rw [if_neg c3] at H
     have c3b0 : decide (x5_1 < (x0_1.length : Int)) = false := decide_eq_false c3
     clear c3
     as_aux_lemma =>
      simp only [Option.some.injEq, Prod.mk.injEq] at H
      obtain ⟨rfl, rfl⟩ := H
      obtain ⟨Ao11, co11, eo11⟩ := Kd.R_slice HO_0.out
      subst eo11
      go_wp2
      go_ret
      exact ⟨by first | rfl | (simp [errW_none, errW_some] <;> rfl) | (simp [*, errW_none, errW_some] <;> rfl), by (with_reducible repeat (first | apply Kd.R_alloc | apply Kd.R_drewN | apply Kd.R_drew)); exact HO_0.out, by repeat (first | (with_reducible first | exact HB.out | apply below_alloc | apply pw_below_drewN | apply below_drew1) | exact HB.out), by repeat (first | (with_reducible first | exact HK.out | apply Kept.alloc | apply Kept.drewN | apply Kept.drew) | exact HK.out)⟩


theorem markE_same : ∀ (k : Nat) (z l : List C64) (a i r : Int) (l' : List C64), SameL z l → markE.l0 k l a i = some (r, l') → ∃ z', markE.l0 k z a i = some (r, z') ∧ SameL z' l'
 | 0, _, _, _, _, _, _, _, h => by simp [markE.l0] at h
 | k + 1, z, l, a, i, r, l', hs, h => by
  simp only [markE.l0] at h ⊢
  rw [hs.1]
  by_cases h1 : i < (l.length : Int)
  · rw [if_pos h1] at h ⊢
    by_cases h2 : FC 93 94 .f64 .f32 (floatOfInt .f64 a) = true
    · rw [if_pos h2] at h ⊢
      by_cases h3 : FC 93 94 .f64 .f32 4607182418800017408 = true
      · rw [if_pos h3] at h ⊢
        by_cases h4 : 0 ≤ i
        · rw [if_pos h4] at h ⊢
          exact markE_same k _ _ _ _ _ _ (hs.set _ (.refl _)) h
        · rw [if_neg h4] at h; cases h
      · rw [if_neg h3] at h; cases h
    · rw [if_neg h2] at h; cases h
  · rw [if_neg h1] at h ⊢
    simp only [Option.some.injEq, Prod.mk.injEq] at h
    obtain ⟨rfl, rfl⟩ := h
    exact ⟨z, rfl, hs⟩
def laws_markComplex64S.f (k : Nat) (l0 : List C64) (a1 : Int) : Option (Int × (List C64)) := markE.f k l0 a1
theorem laws_markComplex64S.mono : ∀ a0 a1 k, LeO (laws_markComplex64S.f k a0 a1) (laws_markComplex64S.f (k + 1) a0 a1) := markE.mono
theorem laws_markComplex64S.calls (k : Nat) (P0_ : Nat → Prop) (u9000_ : Value) (l0 : List C64) (a1 : Int) (r1 : Int) (r2 : List C64) (w0 w : World) (hB : Below w0.heap.size w0 w) (ho0 : Kd.R Kd.c64 94 w w0.heap.size P0_ u9000_ l0) (h : laws_markComplex64S.f k l0 a1 = some (r1, r2)) :
 Calls Try.prog 31 #[u9000_, .int .i64 a1] w fun e w' => e = .returned (.int .i64 r1) ∧ Kd.R Kd.c64 94 w' w0.heap.size (fun k_ => (P0_ k_ ∨ w.heap.size ≤ k_)) u9000_ r2 ∧ Below w0.heap.size w0 w' ∧ Kept w w' (fun k_ => P0_ k_) := by
 obtain ⟨z, hz, ho⟩ := Kd.c64_R_to ho0
 obtain ⟨z', hz', hs'⟩ := markE_same k z l0 a1 0 r1 r2 hz h
 refine (markE.calls k P0_ u9000_ z a1 r1 z' w0 w hB ho hz').mono ?_
 rintro e w' ⟨h1, h2, h3, h4⟩
 exact ⟨h1, Kd.c64_R_of hs' h2, h3, h4⟩

/-! ### laws_heldComplex64S: function 32 -/
-- emit
def heldE.l0 : Nat → List C64 → Int → Int → Option (Int)
 | 0, _, _, _ => none
 | k + 1, x0, x1, x5 => if x5 < (x0.length : Int) then (if 0 ≤ x5 then (if FC 93 94 .f64 .f32 (floatOfInt .f64 x1) = true then (if FC 93 94 .f64 .f32 4607182418800017408 = true then (if ((FloatKind.f32.format.order ((rdOf c64z x0 x5).re) (fc .f64 .f32 (floatOfInt .f64 x1)) == some .eq) && (FloatKind.f32.format.order ((rdOf c64z x0 x5).im) (fc .f64 .f32 4607182418800017408) == some .eq)) = true then (heldE.l0 k x0 (wrap64 (x1 + 1)) (wrap64 (x5 + 1))) else (some (-1))) else (none)) else (none)) else (none)) else (some x1)
def heldE.f (k : Nat) (l0 : List C64) (a1 : Int) : Option (Int) := heldE.l0 k l0 a1 0
theorem heldE.mono_l : ∀ k, (∀ y0 y1 y2, LeO (heldE.l0 k y0 y1 y2) (heldE.l0 (k + 1) y0 y1 y2))
 | 0 => fun _ _ _ r h => by simp [heldE.l0] at h
 | k + 1 => by
  have ih0 := heldE.mono_l k
  · intro y0 y1 y2
    unfold heldE.l0
    repeat' first
    | (with_reducible exact ih0 _ _ _)
    | (with_reducible exact LeO.refl _)
    | (with_reducible exact LeO.none _)
    | (with_reducible refine LeO.ite ?_ ?_)
    | (with_reducible refine LeO.bind ?_ (fun _ => ?_))
    | exact ih0 _ _ _
    | exact LeO.none _
    | refine LeO.ite ?_ ?_
    | refine LeO.bind ?_ (fun _ => ?_)
theorem heldE.mono : ∀ a0 a1 k, LeO (heldE.f k a0 a1) (heldE.f (k + 1) a0 a1) := by
 intro a0 a1 k
 have ih0 := heldE.mono_l k
 unfold heldE.f
 repeat' first
  | (with_reducible exact ih0 _ _ _)
  | (with_reducible exact LeO.refl _)
  | (with_reducible exact LeO.none _)
  | (with_reducible refine LeO.ite ?_ ?_)
  | (with_reducible refine LeO.bind ?_ (fun _ => ?_))
  | exact ih0 _ _ _
  | exact LeO.none _
  | refine LeO.ite ?_ ?_
  | refine LeO.bind ?_ (fun _ => ?_)
set_option maxHeartbeats 8000000 in
set_option maxRecDepth 100000 in
theorem heldE.calls (k : Nat) (A0 : Option Addr) (c0 : Nat) (l0 : List C64) (a1 : Int) (r : Int) (w : World) (hr0 : Kd.C Kd.c64e w A0 l0.length l0) (hc0 : l0.length ≤ c0) (h : heldE.f k l0 a1 = some r) :
 Calls Try.prog 32 #[.slice A0 l0.length c0, .int .i64 a1] w fun e w' => e = .returned (.int .i64 r) ∧ Below w.heap.size w w' := by
 have hu3 := Try.underlying3
 have hu65 := Try.underlying65
 have HR0 := Aside0.mk hr0
 have HC0 := Aside0.mk hc0
 clear hr0 hc0
 have HB := Aside0.mk (Below.refl w.heap.size w)
 have H : (heldE.l0 k l0 a1 0) = some r := h
 clear h
 have H' := Aside0.mk H
 clear H
 go_enter Try.func32, Try.ntmps32
 go_wp2
 go_loopg [1, 5] k (fun kq v1 v5 w' => ∃ (x1_1 : Int) (x5_1 : Int), v1 = .int .i64 x1_1 ∧ v5 = .int .i64 x5_1 ∧ Aside0 (heldE.l0 kq l0 x1_1 x5_1 = some r) ∧ Aside0 (kq ≤ k) ∧ Aside0 (Below w.heap.size w w'))
 case atStart => exact ⟨(a1), (0), (by first | rfl | (simp; done) | (simp [*]; done)), (by first | rfl | (simp; done) | (simp [*]; done)), H', ⟨Nat.le_refl _⟩, ⟨by repeat (first | (with_reducible first | exact HB.out | apply below_alloc | apply pw_below_drewN | apply below_drew1) | exact HB.out)⟩⟩
 case round =>
  clear H'
  (try clear p2)
  obtain ⟨x1_1, x5_1, rfl, rfl, HA, HK1, HB⟩ := hrel
  cases gk with
  | zero => exact absurd HA.out (by simp [heldE.l0])
  | succ k1 =>
   have H := HA.out
   clear HA
   simp only [heldE.l0] at H
   by_cases c3 : x5_1 < (l0.length : Int)
   · rw [if_pos c3] at H
     have c3b0 : decide (x5_1 < (l0.length : Int)) = true := decide_eq_true c3
     clear c3
     by_cases c4 : 0 ≤ x5_1
     · rw [if_pos c4] at H
       have c4b0 : decide (0 ≤ x5_1) = true := decide_eq_true c4
       clear c4
       by_cases c5 : FC 93 94 .f64 .f32 (floatOfInt .f64 x1_1) = true
       · rw [if_pos c5] at H
         have c5b0 : FC 93 94 .f64 .f32 (floatOfInt .f64 x1_1) = true := c5
         clear c5
         by_cases c6 : FC 93 94 .f64 .f32 4607182418800017408 = true
         · rw [if_pos c6] at H
           have fe6 := fun w => cfrunc (P := Try.prog) (src := 93) (dst := 94) (by decide) Try.underlying93 Try.underlying94 c5b0 c6 w
           have c6b0 : FC 93 94 .f64 .f32 4607182418800017408 = true := c6
           clear c6
           by_cases c7 : ((FloatKind.f32.format.order ((rdOf c64z l0 x5_1).re) (fc .f64 .f32 (floatOfInt .f64 x1_1)) == some .eq) && (FloatKind.f32.format.order ((rdOf c64z l0 x5_1).im) (fc .f64 .f32 4607182418800017408) == some .eq)) = true
           · rw [if_pos c7] at H
             have c7b0 : ((FloatKind.f32.format.order ((rdOf c64z l0 x5_1).re) (fc .f64 .f32 (floatOfInt .f64 x1_1)) == some .eq) && (FloatKind.f32.format.order ((rdOf c64z l0 x5_1).im) (fc .f64 .f32 4607182418800017408) == some .eq)) = true := c7
             clear c7
             as_aux_lemma =>
              have H' := Aside0.mk H
              clear H
              have p293 : 0 ≤ (x5_1 : Int) := of_decide_eq_true (by first | (with_reducible assumption) | assumption)
              have q293 : x5_1 < (l0.length : Int) := of_decide_eq_true (by first | (with_reducible assumption) | assumption)
              obtain ⟨ad293, e293, hx293_0⟩ := Kd.at_c64e HR0.out x5_1 p293 q293
              cases e293
              replace hx293_0 := (HB.out.cell (World.block_lt_of_cell? w _ hx293_0)).trans hx293_0
              replace p293 := eq_true p293
              replace q293 := eq_true q293
              go_wp2
              go_roundg k1
              case measure => have := HK1.out; omega
              case rel => exact ⟨(wrap64 (x1_1 + 1)), (wrap64 (x5_1 + 1)), (by first | rfl | (simp; done) | (simp [*]; done)), (by first | rfl | (simp; done) | (simp [*]; done)), H', ⟨by have := HK1.out; omega⟩, ⟨by repeat (first | (with_reducible first | exact HB.out | apply below_alloc | apply pw_below_drewN | apply below_drew1) | exact HB.out)⟩⟩
           · rw [if_neg c7] at H
             have c7b0 : ((FloatKind.f32.format.order ((rdOf c64z l0 x5_1).re) (fc .f64 .f32 (floatOfInt .f64 x1_1)) == some .eq) && (FloatKind.f32.format.order ((rdOf c64z l0 x5_1).im) (fc .f64 .f32 4607182418800017408) == some .eq)) = false := by simpa using c7
             clear c7
             as_aux_lemma =>
              obtain rfl := Option.some.inj H
              have p293 : 0 ≤ (x5_1 : Int) := of_decide_eq_true (by first | (with_reducible assumption) | assumption)
              have q293 : x5_1 < (l0.length : Int) := of_decide_eq_true (by first | (with_reducible assumption) | assumption)
              obtain ⟨ad293, e293, hx293_0⟩ := Kd.at_c64e HR0.out x5_1 p293 q293
              cases e293
              replace hx293_0 := (HB.out.cell (World.block_lt_of_cell? w _ hx293_0)).trans hx293_0
              replace p293 := eq_true p293
              replace q293 := eq_true q293
              go_wp2
              go_ret
              exact ⟨by first | rfl | (simp [errW_none, errW_some] <;> rfl) | (simp [*, errW_none, errW_some] <;> rfl), by repeat (first | (with_reducible first | exact HB.out | apply below_alloc | apply pw_below_drewN | apply below_drew1) | exact HB.out)⟩
         · rw [if_neg c6] at H
           exact absurd H (by simp)
       · rw [if_neg c5] at H
         exact absurd H (by simp)
     · rw [if_neg c4] at H
       exact absurd H (by simp)
   · rw [if_neg c3] at H
     have c3b0 : decide (x5_1 < (l0.length : Int)) = false := decide_eq_false c3
     clear c3
     as_aux_lemma =>
      obtain rfl := Option.some.inj H
      go_wp2
      go_ret
      exact ⟨by first | rfl | (simp [errW_none, errW_some] <;> rfl) | (simp [*, errW_none, errW_some] <;> rfl), by repeat (first | (with_reducible first | exact HB.out | apply below_alloc | apply pw_below_drewN | apply below_drew1) | exact HB.out)⟩


theorem heldE_same : ∀ (k : Nat) (z l : List C64) (a i : Int), SameL z l → heldE.l0 k z a i = heldE.l0 k l a i
 | 0, _, _, _, _, _ => rfl
 | k + 1, z, l, a, i, hs => by
  simp only [heldE.l0]
  rw [hs.1, order_same _ (hs.rd i).1, order_same _ (hs.rd i).2]
  simp only [heldE_same k z l _ _ hs]
def laws_heldComplex64S.f (k : Nat) (l0 : List C64) (a1 : Int) : Option (Int) := heldE.f k l0 a1
theorem laws_heldComplex64S.mono : ∀ a0 a1 k, LeO (laws_heldComplex64S.f k a0 a1) (laws_heldComplex64S.f (k + 1) a0 a1) := heldE.mono
theorem laws_heldComplex64S.calls (k : Nat) (A0 : Option Addr) (c0 : Nat) (l0 : List C64) (a1 : Int) (r : Int) (w : World) (hr0 : Kd.C Kd.c64 w A0 l0.length l0) (hc0 : l0.length ≤ c0) (h : laws_heldComplex64S.f k l0 a1 = some r) :
 Calls Try.prog 32 #[.slice A0 l0.length c0, .int .i64 a1] w fun e w' => e = .returned (.int .i64 r) ∧ Below w.heap.size w w' := by
 obtain ⟨z, hz, hr⟩ := Kd.c64_C_to hr0
 rw [← hz.1] at hr hc0 ⊢
 exact heldE.calls k A0 c0 z a1 r w hr hc0 ((heldE_same k z l0 a1 0 hz).trans h)

/-! ### laws_FnExactSnapshotOf: function 6 -/
mutual
def laws_FnExactSnapshotOf.j0 : Nat → List (S90) → List (S73) → Nat → Int → Int → List C64 → Bool → List (S88) → List (S69) → List C64 → Bool → Bool → Option (Bool)
 | 0, _, _, _, _, _, _, _, _, _, _, _, _ => none
 | k + 1, x0, x1, x2, x3, x4, x12, x13, x14, x15, x16, x17, x65 => if x65 = true then (none) else ((laws_toPlaceS.f k x0).bind fun t280 => ((laws_eqPlaceS.f k x14 t280).bind fun t283 => (if t283 = true then ((laws_toSourceS.f k x1).bind fun t284 => ((laws_eqSourceS.f k x15 t284).bind fun t287 => (if t287 = true then ((laws_markPlaceS.f k x14 1).bind fun bt288 => ((laws_markSourceS.f k x15 bt288.1).bind fun bt290 => (if bt290.1 < 0 then (none) else ((laws_eqComplex64S.f x16 x12).bind fun t292 => (if t292 = true then (laws_FnExactSnapshotOf.j1 k x0 x1 x2 x3 x4 x12 x13 x16 (x17 != x13)) else (none)))))) else (none)))) else (none))))
def laws_FnExactSnapshotOf.j1 : Nat → List (S90) → List (S73) → Nat → Int → Int → List C64 → Bool → List C64 → Bool → Option (Bool)
 | 0, _, _, _, _, _, _, _, _, _ => none
 | k + 1, x0, x1, x2, x3, x4, x12, x13, x16, x94 => if x94 = true then (none) else ((laws_markComplex64S.f k x16 1).bind fun bt293 => ((laws_heldComplex64S.f k bt293.2 1).bind fun t295 => (if t295 < 0 then (none) else (if t295 = bt293.1 then ((laws_toPlaceS.f k x0).bind fun t296 => ((laws_toSourceS.f k x1).bind fun t299 => ((impl_SnapshotOf.f k t296 t299 x2 x3 x4).bind fun bt302 => ((laws_eqComplex64S.f bt302.1 x12).bind fun t306 => (if t306 = true then (laws_FnExactSnapshotOf.j2 k bt293.2 bt293.1 (bt302.2 != x13)) else (none)))))) else (none)))))
def laws_FnExactSnapshotOf.j2 : Nat → List C64 → Int → Bool → Option (Bool)
 | 0, _, _, _ => none
 | k + 1, x16, x19, x125 => if x125 = true then (none) else ((laws_heldComplex64S.f k x16 1).bind fun t307 => (if t307 < 0 then (none) else (if t307 = x19 then (some true) else (none))))
end
def laws_FnExactSnapshotOf.f (k : Nat) (l0 : List (S90)) (l1 : List (S73)) (a2 : Nat) (a3 : Int) (a4 : Int) : Option (Bool) := (laws_szPlaceS.f l0 1048576).bind fun t257 => (if t257 < 0 then (some true) else ((laws_szSourceS.f l1 t257).bind fun t258 => (if t258 < 0 then (some true) else ((laws_toPlaceS.f k l0).bind fun t259 => ((laws_toSourceS.f k l1).bind fun t262 => ((spec_SnapshotOf.f k t259 t262 a2 a3 a4).bind fun bt265 => ((laws_toPlaceS.f k l0).bind fun t269 => ((laws_toSourceS.f k l1).bind fun t272 => ((impl_SnapshotOf.f k t269 t272 a2 a3 a4).bind fun bt275 => ((laws_eqComplex64S.f bt275.1 bt265.1).bind fun t279 => (if t279 = true then (laws_FnExactSnapshotOf.j0 k l0 l1 a2 a3 a4 bt265.1 bt265.2 t269 t272 bt275.1 bt275.2 (bt275.2 != bt265.2)) else (none))))))))))))
theorem laws_FnExactSnapshotOf.mono_l : ∀ k, (∀ y0 y1 y2 y3 y4 y5 y6 y7 y8 y9 y10 y11, LeO (laws_FnExactSnapshotOf.j0 k y0 y1 y2 y3 y4 y5 y6 y7 y8 y9 y10 y11) (laws_FnExactSnapshotOf.j0 (k + 1) y0 y1 y2 y3 y4 y5 y6 y7 y8 y9 y10 y11)) ∧ (∀ y0 y1 y2 y3 y4 y5 y6 y7 y8, LeO (laws_FnExactSnapshotOf.j1 k y0 y1 y2 y3 y4 y5 y6 y7 y8) (laws_FnExactSnapshotOf.j1 (k + 1) y0 y1 y2 y3 y4 y5 y6 y7 y8)) ∧ (∀ y0 y1 y2, LeO (laws_FnExactSnapshotOf.j2 k y0 y1 y2) (laws_FnExactSnapshotOf.j2 (k + 1) y0 y1 y2))
 | 0 => ⟨fun _ _ _ _ _ _ _ _ _ _ _ _ r h => by simp [laws_FnExactSnapshotOf.j0] at h, fun _ _ _ _ _ _ _ _ _ r h => by simp [laws_FnExactSnapshotOf.j1] at h, fun _ _ _ r h => by simp [laws_FnExactSnapshotOf.j2] at h⟩
 | k + 1 => by
  obtain ⟨ih0, ih1, ih2⟩ := laws_FnExactSnapshotOf.mono_l k
  refine ⟨?_, ?_, ?_⟩
  · intro y0 y1 y2 y3 y4 y5 y6 y7 y8 y9 y10 y11
    unfold laws_FnExactSnapshotOf.j0
    repeat' first
    | (with_reducible exact ih0 _ _ _ _ _ _ _ _ _ _ _ _)
    | (with_reducible exact ih1 _ _ _ _ _ _ _ _ _)
    | (with_reducible exact ih2 _ _ _)
    | (with_reducible exact impl_SnapshotOf.mono _ _ _ _ _ _)
    | (with_reducible exact laws_eqPlaceS.mono _ _ _)
    | (with_reducible exact laws_eqSourceS.mono _ _ _)
    | (with_reducible exact laws_heldComplex64S.mono _ _ _)
    | (with_reducible exact laws_markComplex64S.mono _ _ _)
    | (with_reducible exact laws_markPlaceS.mono _ _ _)
    | (with_reducible exact laws_markSourceS.mono _ _ _)
    | (with_reducible exact laws_toPlaceS.mono _ _)
    | (with_reducible exact laws_toSourceS.mono _ _)
    | (with_reducible exact spec_SnapshotOf.mono _ _ _ _ _ _)
    | (with_reducible exact LeO.refl _)
    | (with_reducible exact LeO.none _)
    | (with_reducible refine LeO.ite ?_ ?_)
    | (with_reducible refine LeO.bind ?_ (fun _ => ?_))
    | exact ih0 _ _ _ _ _ _ _ _ _ _ _ _
    | exact ih1 _ _ _ _ _ _ _ _ _
    | exact ih2 _ _ _
    | exact impl_SnapshotOf.mono _ _ _ _ _ _
    | exact laws_eqPlaceS.mono _ _ _
    | exact laws_eqSourceS.mono _ _ _
    | exact laws_heldComplex64S.mono _ _ _
    | exact laws_markComplex64S.mono _ _ _
    | exact laws_markPlaceS.mono _ _ _
    | exact laws_markSourceS.mono _ _ _
    | exact laws_toPlaceS.mono _ _
    | exact laws_toSourceS.mono _ _
    | exact spec_SnapshotOf.mono _ _ _ _ _ _
    | exact LeO.none _
    | refine LeO.ite ?_ ?_
    | refine LeO.bind ?_ (fun _ => ?_)
  · intro y0 y1 y2 y3 y4 y5 y6 y7 y8
    unfold laws_FnExactSnapshotOf.j1
    repeat' first
    | (with_reducible exact ih0 _ _ _ _ _ _ _ _ _ _ _ _)
    | (with_reducible exact ih1 _ _ _ _ _ _ _ _ _)
    | (with_reducible exact ih2 _ _ _)
    | (with_reducible exact impl_SnapshotOf.mono _ _ _ _ _ _)
    | (with_reducible exact laws_eqPlaceS.mono _ _ _)
    | (with_reducible exact laws_eqSourceS.mono _ _ _)
    | (with_reducible exact laws_heldComplex64S.mono _ _ _)
    | (with_reducible exact laws_markComplex64S.mono _ _ _)
    | (with_reducible exact laws_markPlaceS.mono _ _ _)
    | (with_reducible exact laws_markSourceS.mono _ _ _)
    | (with_reducible exact laws_toPlaceS.mono _ _)
    | (with_reducible exact laws_toSourceS.mono _ _)
    | (with_reducible exact spec_SnapshotOf.mono _ _ _ _ _ _)
    | (with_reducible exact LeO.refl _)
    | (with_reducible exact LeO.none _)
    | (with_reducible refine LeO.ite ?_ ?_)
    | (with_reducible refine LeO.bind ?_ (fun _ => ?_))
    | exact ih0 _ _ _ _ _ _ _ _ _ _ _ _
    | exact ih1 _ _ _ _ _ _ _ _ _
    | exact ih2 _ _ _
    | exact impl_SnapshotOf.mono _ _ _ _ _ _
    | exact laws_eqPlaceS.mono _ _ _
    | exact laws_eqSourceS.mono _ _ _
    | exact laws_heldComplex64S.mono _ _ _
    | exact laws_markComplex64S.mono _ _ _
    | exact laws_markPlaceS.mono _ _ _
    | exact laws_markSourceS.mono _ _ _
    | exact laws_toPlaceS.mono _ _
    | exact laws_toSourceS.mono _ _
    | exact spec_SnapshotOf.mono _ _ _ _ _ _
    | exact LeO.none _
    | refine LeO.ite ?_ ?_
    | refine LeO.bind ?_ (fun _ => ?_)
  · intro y0 y1 y2
    unfold laws_FnExactSnapshotOf.j2
    repeat' first
    | (with_reducible exact ih0 _ _ _ _ _ _ _ _ _ _ _ _)
    | (with_reducible exact ih1 _ _ _ _ _ _ _ _ _)
    | (with_reducible exact ih2 _ _ _)
    | (with_reducible exact impl_SnapshotOf.mono _ _ _ _ _ _)
    | (with_reducible exact laws_eqPlaceS.mono _ _ _)
    | (with_reducible exact laws_eqSourceS.mono _ _ _)
    | (with_reducible exact laws_heldComplex64S.mono _ _ _)
    | (with_reducible exact laws_markComplex64S.mono _ _ _)
    | (with_reducible exact laws_markPlaceS.mono _ _ _)
    | (with_reducible exact laws_markSourceS.mono _ _ _)
    | (with_reducible exact laws_toPlaceS.mono _ _)
    | (with_reducible exact laws_toSourceS.mono _ _)
    | (with_reducible exact spec_SnapshotOf.mono _ _ _ _ _ _)
    | (with_reducible exact LeO.refl _)
    | (with_reducible exact LeO.none _)
    | (with_reducible refine LeO.ite ?_ ?_)
    | (with_reducible refine LeO.bind ?_ (fun _ => ?_))
    | exact ih0 _ _ _ _ _ _ _ _ _ _ _ _
    | exact ih1 _ _ _ _ _ _ _ _ _
    | exact ih2 _ _ _
    | exact impl_SnapshotOf.mono _ _ _ _ _ _
    | exact laws_eqPlaceS.mono _ _ _
    | exact laws_eqSourceS.mono _ _ _
    | exact laws_heldComplex64S.mono _ _ _
    | exact laws_markComplex64S.mono _ _ _
    | exact laws_markPlaceS.mono _ _ _
    | exact laws_markSourceS.mono _ _ _
    | exact laws_toPlaceS.mono _ _
    | exact laws_toSourceS.mono _ _
    | exact spec_SnapshotOf.mono _ _ _ _ _ _
    | exact LeO.none _
    | refine LeO.ite ?_ ?_
    | refine LeO.bind ?_ (fun _ => ?_)
theorem laws_FnExactSnapshotOf.mono : ∀ a0 a1 a2 a3 a4 k, LeO (laws_FnExactSnapshotOf.f k a0 a1 a2 a3 a4) (laws_FnExactSnapshotOf.f (k + 1) a0 a1 a2 a3 a4) := by
 intro a0 a1 a2 a3 a4 k
 obtain ⟨ih0, ih1, ih2⟩ := laws_FnExactSnapshotOf.mono_l k
 unfold laws_FnExactSnapshotOf.f
 repeat' first
  | (with_reducible exact ih0 _ _ _ _ _ _ _ _ _ _ _ _)
  | (with_reducible exact ih1 _ _ _ _ _ _ _ _ _)
  | (with_reducible exact ih2 _ _ _)
  | (with_reducible exact impl_SnapshotOf.mono _ _ _ _ _ _)
  | (with_reducible exact laws_eqPlaceS.mono _ _ _)
  | (with_reducible exact laws_eqSourceS.mono _ _ _)
  | (with_reducible exact laws_heldComplex64S.mono _ _ _)
  | (with_reducible exact laws_markComplex64S.mono _ _ _)
  | (with_reducible exact laws_markPlaceS.mono _ _ _)
  | (with_reducible exact laws_markSourceS.mono _ _ _)
  | (with_reducible exact laws_toPlaceS.mono _ _)
  | (with_reducible exact laws_toSourceS.mono _ _)
  | (with_reducible exact spec_SnapshotOf.mono _ _ _ _ _ _)
  | (with_reducible exact LeO.refl _)
  | (with_reducible exact LeO.none _)
  | (with_reducible refine LeO.ite ?_ ?_)
  | (with_reducible refine LeO.bind ?_ (fun _ => ?_))
  | exact ih0 _ _ _ _ _ _ _ _ _ _ _ _
  | exact ih1 _ _ _ _ _ _ _ _ _
  | exact ih2 _ _ _
  | exact impl_SnapshotOf.mono _ _ _ _ _ _
  | exact laws_eqPlaceS.mono _ _ _
  | exact laws_eqSourceS.mono _ _ _
  | exact laws_heldComplex64S.mono _ _ _
  | exact laws_markComplex64S.mono _ _ _
  | exact laws_markPlaceS.mono _ _ _
  | exact laws_markSourceS.mono _ _ _
  | exact laws_toPlaceS.mono _ _
  | exact laws_toSourceS.mono _ _
  | exact spec_SnapshotOf.mono _ _ _ _ _ _
  | exact LeO.none _
  | refine LeO.ite ?_ ?_
  | refine LeO.bind ?_ (fun _ => ?_)
set_option maxHeartbeats 8000000 in
set_option maxRecDepth 100000 in
theorem laws_FnExactSnapshotOf.calls (k : Nat) (A0 : Option Addr) (c0 : Nat) (l0 : List (S90)) (A1 : Option Addr) (c1 : Nat) (l1 : List (S73)) (a2 : Nat) (a3 : Int) (a4 : Int) (r : Bool) (w : World) (hr0 : Kd.C k90 w A0 l0.length l0) (hc0 : l0.length ≤ c0) (hr1 : Kd.C k73 w A1 l1.length l1) (hc1 : l1.length ≤ c1) (h : laws_FnExactSnapshotOf.f k l0 l1 a2 a3 a4 = some r) :
 Calls Try.prog 6 #[.slice A0 l0.length c0, .slice A1 l1.length c1, .float .f32 a2, .int .i64 a3, .int .i64 a4] w fun e w' => e = .returned (.bool r) ∧ Below w.heap.size w w' := by
 have HR0 := Aside0.mk hr0
 have HC0 := Aside0.mk hc0
 clear hr0 hc0
 have HR1 := Aside0.mk hr1
 have HC1 := Aside0.mk hc1
 clear hr1 hc1
 have HB := Aside0.mk (Below.refl w.heap.size w)
 have H : ((laws_szPlaceS.f l0 1048576).bind fun t257 => (if t257 < 0 then (some true) else ((laws_szSourceS.f l1 t257).bind fun t258 => (if t258 < 0 then (some true) else ((laws_toPlaceS.f k l0).bind fun t259 => ((laws_toSourceS.f k l1).bind fun t262 => ((spec_SnapshotOf.f k t259 t262 a2 a3 a4).bind fun bt265 => ((laws_toPlaceS.f k l0).bind fun t269 => ((laws_toSourceS.f k l1).bind fun t272 => ((impl_SnapshotOf.f k t269 t272 a2 a3 a4).bind fun bt275 => ((laws_eqComplex64S.f bt275.1 bt265.1).bind fun t279 => (if t279 = true then (laws_FnExactSnapshotOf.j0 k l0 l1 a2 a3 a4 bt265.1 bt265.2 t269 t272 bt275.1 bt275.2 (bt275.2 != bt265.2)) else (none))))))))))))) = some r := h
 clear h
 replace H := Option.bind_eq_some_iff.mp H
 obtain ⟨t257, A60, H⟩ := H
 replace H : (if t257 < 0 then (some true) else ((laws_szSourceS.f l1 t257).bind fun t258 => (if t258 < 0 then (some true) else ((laws_toPlaceS.f k l0).bind fun t259 => ((laws_toSourceS.f k l1).bind fun t262 => ((spec_SnapshotOf.f k t259 t262 a2 a3 a4).bind fun bt265 => ((laws_toPlaceS.f k l0).bind fun t269 => ((laws_toSourceS.f k l1).bind fun t272 => ((impl_SnapshotOf.f k t269 t272 a2 a3 a4).bind fun bt275 => ((laws_eqComplex64S.f bt275.1 bt265.1).bind fun t279 => (if t279 = true then (laws_FnExactSnapshotOf.j0 k l0 l1 a2 a3 a4 bt265.1 bt265.2 t269 t272 bt275.1 bt275.2 (bt275.2 != bt265.2)) else (none)))))))))))) = some r := H
 have A6 := Aside0.mk A60
 clear A60
 by_cases c7 : t257 < 0
 · rw [if_pos c7] at H
   have c7b0 : decide (t257 < 0) = true := decide_eq_true c7
   clear c7
   as_aux_lemma =>
    obtain rfl := Option.some.inj H
    go_enter Try.func6, Try.ntmps6
    go_wp2_with (first | ((with_reducible refine gate_callee (f := 23) rfl ?_); refine goesL_ (some 25) rfl rfl Try.func23 (by kernel_rfl) rfl #[.slice A0 l0.length c0, .int .i64 1048576] rfl (by (try simp only [List.map_toArray, List.map_cons, List.map_nil]); first | done | rfl | (simp only [List.length_drop, List.length_take]; rfl)) ?_; (with_reducible refine (laws_szPlaceS.calls _ _ l0 1048576 t257 _ ?side1 ?side2 A6.out).mono ?_); (case side1 => repeat (first | exact HR0.out | (with_reducible refine Kd.C_alloc ?_ _) | (with_reducible refine Kd.C_drewN ?_ _) | (with_reducible refine Kd.C_drew ?_))); (case side2 => exact HC0.out); rintro e w' ⟨rfl, ⟨nd, rfl⟩⟩; refine ⟨_, rfl, ?_⟩))
    go_ret
    exact ⟨by first | rfl | (simp [errW_none, errW_some] <;> rfl) | (simp [*, errW_none, errW_some] <;> rfl), by repeat (first | (with_reducible first | exact HB.out | apply below_alloc | apply pw_below_drewN | apply below_drew1) | exact HB.out)⟩
 · rw [if_neg c7] at H
   have c7b0 : decide (t257 < 0) = false := decide_eq_false c7
   clear c7
   replace H := Option.bind_eq_some_iff.mp H
   obtain ⟨t258, A80, H⟩ := H
   replace H : (if t258 < 0 then (some true) else ((laws_toPlaceS.f k l0).bind fun t259 => ((laws_toSourceS.f k l1).bind fun t262 => ((spec_SnapshotOf.f k t259 t262 a2 a3 a4).bind fun bt265 => ((laws_toPlaceS.f k l0).bind fun t269 => ((laws_toSourceS.f k l1).bind fun t272 => ((impl_SnapshotOf.f k t269 t272 a2 a3 a4).bind fun bt275 => ((laws_eqComplex64S.f bt275.1 bt265.1).bind fun t279 => (if t279 = true then (laws_FnExactSnapshotOf.j0 k l0 l1 a2 a3 a4 bt265.1 bt265.2 t269 t272 bt275.1 bt275.2 (bt275.2 != bt265.2)) else (none)))))))))) = some r := H
   have A8 := Aside0.mk A80
   clear A80
   by_cases c9 : t258 < 0
   · rw [if_pos c9] at H
     have c9b0 : decide (t258 < 0) = true := decide_eq_true c9
     clear c9
     as_aux_lemma =>
      obtain rfl := Option.some.inj H
      go_enter Try.func6, Try.ntmps6
      go_wp2_with (first | ((with_reducible refine gate_callee (f := 23) rfl ?_); refine goesL_ (some 25) rfl rfl Try.func23 (by kernel_rfl) rfl #[.slice A0 l0.length c0, .int .i64 1048576] rfl (by (try simp only [List.map_toArray, List.map_cons, List.map_nil]); first | done | rfl | (simp only [List.length_drop, List.length_take]; rfl)) ?_; (with_reducible refine (laws_szPlaceS.calls _ _ l0 1048576 t257 _ ?side1 ?side2 A6.out).mono ?_); (case side1 => repeat (first | exact HR0.out | (with_reducible refine Kd.C_alloc ?_ _) | (with_reducible refine Kd.C_drewN ?_ _) | (with_reducible refine Kd.C_drew ?_))); (case side2 => exact HC0.out); rintro e w' ⟨rfl, ⟨nd, rfl⟩⟩; refine ⟨_, rfl, ?_⟩) | ((with_reducible refine gate_callee (f := 12) rfl ?_); refine goesL_ (some 30) rfl rfl Try.func12 (by kernel_rfl) rfl #[.slice A1 l1.length c1, .int .i64 t257] rfl (by (try simp only [List.map_toArray, List.map_cons, List.map_nil]); first | done | rfl | (simp only [List.length_drop, List.length_take]; rfl)) ?_; (with_reducible refine (laws_szSourceS.calls _ _ l1 t257 t258 _ ?side1 ?side2 A8.out).mono ?_); (case side1 => repeat (first | exact HR1.out | (with_reducible refine Kd.C_alloc ?_ _) | (with_reducible refine Kd.C_drewN ?_ _) | (with_reducible refine Kd.C_drew ?_))); (case side2 => exact HC1.out); rintro e w' ⟨rfl, ⟨nd, rfl⟩⟩; refine ⟨_, rfl, ?_⟩))
      go_ret
      exact ⟨by first | rfl | (simp [errW_none, errW_some] <;> rfl) | (simp [*, errW_none, errW_some] <;> rfl), by repeat (first | (with_reducible first | exact HB.out | apply below_alloc | apply pw_below_drewN | apply below_drew1) | exact HB.out)⟩
   · rw [if_neg c9] at H
     have c9b0 : decide (t258 < 0) = false := decide_eq_false c9
     clear c9
     replace H := Option.bind_eq_some_iff.mp H
     obtain ⟨t259, A100, H⟩ := H
     replace H : ((laws_toSourceS.f k l1).bind fun t262 => ((spec_SnapshotOf.f k t259 t262 a2 a3 a4).bind fun bt265 => ((laws_toPlaceS.f k l0).bind fun t269 => ((laws_toSourceS.f k l1).bind fun t272 => ((impl_SnapshotOf.f k t269 t272 a2 a3 a4).bind fun bt275 => ((laws_eqComplex64S.f bt275.1 bt265.1).bind fun t279 => (if t279 = true then (laws_FnExactSnapshotOf.j0 k l0 l1 a2 a3 a4 bt265.1 bt265.2 t269 t272 bt275.1 bt275.2 (bt275.2 != bt265.2)) else (none)))))))) = some r := H
     have A10 := Aside0.mk A100
     clear A100
     replace H := Option.bind_eq_some_iff.mp H
     obtain ⟨t262, A110, H⟩ := H
     replace H : ((spec_SnapshotOf.f k t259 t262 a2 a3 a4).bind fun bt265 => ((laws_toPlaceS.f k l0).bind fun t269 => ((laws_toSourceS.f k l1).bind fun t272 => ((impl_SnapshotOf.f k t269 t272 a2 a3 a4).bind fun bt275 => ((laws_eqComplex64S.f bt275.1 bt265.1).bind fun t279 => (if t279 = true then (laws_FnExactSnapshotOf.j0 k l0 l1 a2 a3 a4 bt265.1 bt265.2 t269 t272 bt275.1 bt275.2 (bt275.2 != bt265.2)) else (none))))))) = some r := H
     have A11 := Aside0.mk A110
     clear A110
     replace H := Option.bind_eq_some_iff.mp H
     obtain ⟨⟨t265, t266⟩, A120, H⟩ := H
     replace H : ((laws_toPlaceS.f k l0).bind fun t269 => ((laws_toSourceS.f k l1).bind fun t272 => ((impl_SnapshotOf.f k t269 t272 a2 a3 a4).bind fun bt275 => ((laws_eqComplex64S.f bt275.1 t265).bind fun t279 => (if t279 = true then (laws_FnExactSnapshotOf.j0 k l0 l1 a2 a3 a4 t265 t266 t269 t272 bt275.1 bt275.2 (bt275.2 != t266)) else (none)))))) = some r := H
     have A12 := Aside0.mk A120
     clear A120
     replace H := Option.bind_eq_some_iff.mp H
     obtain ⟨t269, A130, H⟩ := H
     replace H : ((laws_toSourceS.f k l1).bind fun t272 => ((impl_SnapshotOf.f k t269 t272 a2 a3 a4).bind fun bt275 => ((laws_eqComplex64S.f bt275.1 t265).bind fun t279 => (if t279 = true then (laws_FnExactSnapshotOf.j0 k l0 l1 a2 a3 a4 t265 t266 t269 t272 bt275.1 bt275.2 (bt275.2 != t266)) else (none))))) = some r := H
     have A13 := Aside0.mk A130
     clear A130
     replace H := Option.bind_eq_some_iff.mp H
     obtain ⟨t272, A140, H⟩ := H
     replace H : ((impl_SnapshotOf.f k t269 t272 a2 a3 a4).bind fun bt275 => ((laws_eqComplex64S.f bt275.1 t265).bind fun t279 => (if t279 = true then (laws_FnExactSnapshotOf.j0 k l0 l1 a2 a3 a4 t265 t266 t269 t272 bt275.1 bt275.2 (bt275.2 != t266)) else (none)))) = some r := H
     have A14 := Aside0.mk A140
     clear A140
     replace H := Option.bind_eq_some_iff.mp H
     obtain ⟨⟨t275, t276⟩, A150, H⟩ := H
     replace H : ((laws_eqComplex64S.f t275 t265).bind fun t279 => (if t279 = true then (laws_FnExactSnapshotOf.j0 k l0 l1 a2 a3 a4 t265 t266 t269 t272 t275 t276 (t276 != t266)) else (none))) = some r := H
     have A15 := Aside0.mk A150
     clear A150
     have HC16 := Aside0.mk H
     clear H
     go_enter Try.func6, Try.ntmps6
     go_upto_region 12 with (first | ((with_reducible refine gate_callee (f := 23) rfl ?_); refine goesL_ (some 25) rfl rfl Try.func23 (by kernel_rfl) rfl #[.slice A0 l0.length c0, .int .i64 1048576] rfl (by (try simp only [List.map_toArray, List.map_cons, List.map_nil]); first | done | rfl | (simp only [List.length_drop, List.length_take]; rfl)) ?_; (with_reducible refine (laws_szPlaceS.calls _ _ l0 1048576 t257 _ ?side1 ?side2 A6.out).mono ?_); (case side1 => repeat (first | exact HR0.out | (with_reducible refine Kd.C_alloc ?_ _) | (with_reducible refine Kd.C_drewN ?_ _) | (with_reducible refine Kd.C_drew ?_))); (case side2 => exact HC0.out); rintro e w' ⟨rfl, ⟨nd, rfl⟩⟩; refine ⟨_, rfl, ?_⟩) | ((with_reducible refine gate_callee (f := 12) rfl ?_); refine goesL_ (some 30) rfl rfl Try.func12 (by kernel_rfl) rfl #[.slice A1 l1.length c1, .int .i64 t257] rfl (by (try simp only [List.map_toArray, List.map_cons, List.map_nil]); first | done | rfl | (simp only [List.length_drop, List.length_take]; rfl)) ?_; (with_reducible refine (laws_szSourceS.calls _ _ l1 t257 t258 _ ?side1 ?side2 A8.out).mono ?_); (case side1 => repeat (first | exact HR1.out | (with_reducible refine Kd.C_alloc ?_ _) | (with_reducible refine Kd.C_drewN ?_ _) | (with_reducible refine Kd.C_drew ?_))); (case side2 => exact HC1.out); rintro e w' ⟨rfl, ⟨nd, rfl⟩⟩; refine ⟨_, rfl, ?_⟩) | ((with_reducible refine gate_callee (f := 25) rfl ?_); refine goesL_ (some 35) rfl rfl Try.func25 (by kernel_rfl) rfl #[.slice A0 l0.length c0] rfl (by (try simp only [List.map_toArray, List.map_cons, List.map_nil]); first | done | rfl | (simp only [List.length_drop, List.length_take]; rfl)) ?_; (with_reducible refine (laws_toPlaceS.calls k _ _ l0 t259 _ ?side1 ?side2 A10.out).mono ?_); (case side1 => repeat (first | exact HR0.out | (with_reducible refine Kd.C_alloc ?_ _) | (with_reducible refine Kd.C_drewN ?_ _) | (with_reducible refine Kd.C_drew ?_))); (case side2 => exact HC0.out); rintro e w17 ⟨v260, rfl, ho0, hb⟩; refine ⟨_, rfl, ?_⟩; have n0_ := Aside0.mk (Kd.R_lower ho0 (below_size (by repeat (first | (with_reducible first | exact HB.out | apply below_alloc | apply pw_below_drewN | apply below_drew1) | exact HB.out)))); have n1_ := Aside0.mk (below_step (by repeat (first | (with_reducible first | exact HB.out | apply below_alloc | apply pw_below_drewN | apply below_drew1) | exact HB.out)) hb); clear HB; have HO261 := n0_; have HB := n1_; clear n0_ n1_; (try clear hb); (try clear hb2); (try clear hk); (try clear hi); (try clear ho0)) | ((with_reducible refine gate_callee (f := 14) rfl ?_); refine goesL_ (some 37) rfl rfl Try.func14 (by kernel_rfl) rfl #[.slice A1 l1.length c1] rfl (by (try simp only [List.map_toArray, List.map_cons, List.map_nil]); first | done | rfl | (simp only [List.length_drop, List.length_take]; rfl)) ?_; (with_reducible refine (laws_toSourceS.calls k _ _ l1 t262 _ ?side1 ?side2 A11.out).mono ?_); (case side1 => repeat (first | exact (Kd.C_below HR1.out HB.out) | (with_reducible refine Kd.C_alloc ?_ _) | (with_reducible refine Kd.C_drewN ?_ _) | (with_reducible refine Kd.C_drew ?_))); (case side2 => exact HC1.out); rintro e w18 ⟨v263, rfl, ho0, hb⟩; refine ⟨_, rfl, ?_⟩; have n0_ := Aside0.mk (Kd.R_below (by (with_reducible repeat (first | apply Kd.R_alloc | apply Kd.R_drewN | apply Kd.R_drew)); exact HO261.out) hb); have n1_ := Aside0.mk (Kd.R_lower ho0 (below_size (by repeat (first | (with_reducible first | exact HB.out | apply below_alloc | apply pw_below_drewN | apply below_drew1) | exact HB.out)))); have n2_ := Aside0.mk (below_step (by repeat (first | (with_reducible first | exact HB.out | apply below_alloc | apply pw_below_drewN | apply below_drew1) | exact HB.out)) hb); clear HO261; clear HB; have HO261 := n0_; have HO264 := n1_; have HB := n2_; clear n0_ n1_ n2_; (try clear hb); (try clear hb2); (try clear hk); (try clear hi); (try clear ho0); obtain ⟨Ao19, co19, eo19⟩ := Kd.R_slice HO261.out; subst eo19; obtain ⟨Ao20, co20, eo20⟩ := Kd.R_slice HO264.out; subst eo20) | ((with_reducible refine gate_callee (f := 24) rfl ?_); refine goesL_ (some 41) rfl rfl Try.func24 (by kernel_rfl) rfl #[.slice Ao19 t259.length co19, .slice Ao20 t262.length co20, .float .f32 a2, .int .i64 a3, .int .i64 a4] rfl (by (try simp only [List.map_toArray, List.map_cons, List.map_nil]); first | done | rfl | (simp only [List.length_drop, List.length_take]; rfl)) ?_; (with_reducible refine (spec_SnapshotOf.calls k _ _ t259 _ _ t262 a2 a3 a4 t265 t266 _ ?side1 ?side2 ?side3 ?side4 A12.out).mono ?_); (case side1 => repeat (first | exact (Kd.R_reads' HO261.out).2.2 | (with_reducible refine Kd.C_alloc ?_ _) | (with_reducible refine Kd.C_drewN ?_ _) | (with_reducible refine Kd.C_drew ?_))); (case side2 => exact (Kd.R_reads' HO261.out).2.1); (case side3 => repeat (first | exact (Kd.R_reads' HO264.out).2.2 | (with_reducible refine Kd.C_alloc ?_ _) | (with_reducible refine Kd.C_drewN ?_ _) | (with_reducible refine Kd.C_drew ?_))); (case side4 => exact (Kd.R_reads' HO264.out).2.1); rintro e w21 ⟨v267, rfl, ho0, hb⟩; refine ⟨_, rfl, ?_⟩; have n0_ := Aside0.mk (Kd.R_below (by (with_reducible repeat (first | apply Kd.R_alloc | apply Kd.R_drewN | apply Kd.R_drew)); exact HO261.out) hb); have n1_ := Aside0.mk (Kd.R_below (by (with_reducible repeat (first | apply Kd.R_alloc | apply Kd.R_drewN | apply Kd.R_drew)); exact HO264.out) hb); have n2_ := Aside0.mk (Kd.R_lower ho0 (below_size (by repeat (first | (with_reducible first | exact HB.out | apply below_alloc | apply pw_below_drewN | apply below_drew1) | exact HB.out)))); have n3_ := Aside0.mk (below_step (by repeat (first | (with_reducible first | exact HB.out | apply below_alloc | apply pw_below_drewN | apply below_drew1) | exact HB.out)) hb); clear HO261; clear HO264; clear HB; have HO261 := n0_; have HO264 := n1_; have HO268 := n2_; have HB := n3_; clear n0_ n1_ n2_ n3_; (try clear hb); (try clear hb2); (try clear hk); (try clear hi); (try clear ho0)) | ((with_reducible refine gate_callee (f := 25) rfl ?_); refine goesL_ (some 45) rfl rfl Try.func25 (by kernel_rfl) rfl #[.slice A0 l0.length c0] rfl (by (try simp only [List.map_toArray, List.map_cons, List.map_nil]); first | done | rfl | (simp only [List.length_drop, List.length_take]; rfl)) ?_; (with_reducible refine (laws_toPlaceS.calls k _ _ l0 t269 _ ?side1 ?side2 A13.out).mono ?_); (case side1 => repeat (first | exact (Kd.C_below HR0.out HB.out) | (with_reducible refine Kd.C_alloc ?_ _) | (with_reducible refine Kd.C_drewN ?_ _) | (with_reducible refine Kd.C_drew ?_))); (case side2 => exact HC0.out); rintro e w22 ⟨v270, rfl, ho0, hb⟩; refine ⟨_, rfl, ?_⟩; have n0_ := Aside0.mk (Kd.R_elder' (by (with_reducible repeat (first | apply Kd.R_alloc | apply Kd.R_drewN | apply Kd.R_drew)); exact HO261.out) (Kd.R_base ho0) hb); have n1_ := Aside0.mk (Kd.R_below (by (with_reducible repeat (first | apply Kd.R_alloc | apply Kd.R_drewN | apply Kd.R_drew)); exact HO264.out) hb); have n2_ := Aside0.mk (Kd.R_below (by (with_reducible repeat (first | apply Kd.R_alloc | apply Kd.R_drewN | apply Kd.R_drew)); exact HO268.out) hb); have n3_ := Aside0.mk (Kd.R_lower (Kd.R_new' ho0 (Kd.R_lt (by (with_reducible repeat (first | apply Kd.R_alloc | apply Kd.R_drewN | apply Kd.R_drew)); exact HO261.out))) (below_size (by repeat (first | (with_reducible first | exact HB.out | apply below_alloc | apply pw_below_drewN | apply below_drew1) | exact HB.out)))); have n4_ := Aside0.mk (below_step (by repeat (first | (with_reducible first | exact HB.out | apply below_alloc | apply pw_below_drewN | apply below_drew1) | exact HB.out)) hb); clear HO261; clear HO264; clear HO268; clear HB; have HO261 := n0_; have HO264 := n1_; have HO268 := n2_; have HO271 := n3_; have HB := n4_; clear n0_ n1_ n2_ n3_ n4_; (try clear hb); (try clear hb2); (try clear hk); (try clear hi); (try clear ho0)) | ((with_reducible refine gate_callee (f := 14) rfl ?_); refine goesL_ (some 47) rfl rfl Try.func14 (by kernel_rfl) rfl #[.slice A1 l1.length c1] rfl (by (try simp only [List.map_toArray, List.map_cons, List.map_nil]); first | done | rfl | (simp only [List.length_drop, List.length_take]; rfl)) ?_; (with_reducible refine (laws_toSourceS.calls k _ _ l1 t272 _ ?side1 ?side2 A14.out).mono ?_); (case side1 => repeat (first | exact (Kd.C_below HR1.out HB.out) | (with_reducible refine Kd.C_alloc ?_ _) | (with_reducible refine Kd.C_drewN ?_ _) | (with_reducible refine Kd.C_drew ?_))); (case side2 => exact HC1.out); rintro e w23 ⟨v273, rfl, ho0, hb⟩; refine ⟨_, rfl, ?_⟩; have n0_ := Aside0.mk (Kd.R_below (by (with_reducible repeat (first | apply Kd.R_alloc | apply Kd.R_drewN | apply Kd.R_drew)); exact HO261.out) hb); have n1_ := Aside0.mk (Kd.R_elder' (by (with_reducible repeat (first | apply Kd.R_alloc | apply Kd.R_drewN | apply Kd.R_drew)); exact HO264.out) (Kd.R_base ho0) hb); have n2_ := Aside0.mk (Kd.R_below (by (with_reducible repeat (first | apply Kd.R_alloc | apply Kd.R_drewN | apply Kd.R_drew)); exact HO268.out) hb); have n3_ := Aside0.mk (Kd.R_below (by (with_reducible repeat (first | apply Kd.R_alloc | apply Kd.R_drewN | apply Kd.R_drew)); exact HO271.out) hb); have n4_ := Aside0.mk (Kd.R_lower (Kd.R_new' ho0 (Kd.R_lt (by (with_reducible repeat (first | apply Kd.R_alloc | apply Kd.R_drewN | apply Kd.R_drew)); exact HO264.out))) (below_size (by repeat (first | (with_reducible first | exact HB.out | apply below_alloc | apply pw_below_drewN | apply below_drew1) | exact HB.out)))); have n5_ := Aside0.mk (below_step (by repeat (first | (with_reducible first | exact HB.out | apply below_alloc | apply pw_below_drewN | apply below_drew1) | exact HB.out)) hb); clear HO261; clear HO264; clear HO268; clear HO271; clear HB; have HO261 := n0_; have HO264 := n1_; have HO268 := n2_; have HO271 := n3_; have HO274 := n4_; have HB := n5_; clear n0_ n1_ n2_ n3_ n4_ n5_; (try clear hb); (try clear hb2); (try clear hk); (try clear hi); (try clear ho0); obtain ⟨Ao24, co24, eo24⟩ := Kd.R_slice HO271.out; subst eo24; obtain ⟨Ao25, co25, eo25⟩ := Kd.R_slice HO274.out; subst eo25) | ((with_reducible refine gate_callee (f := 26) rfl ?_); refine goesL_ (some 54) rfl rfl Try.func26 (by kernel_rfl) rfl #[.slice Ao24 t269.length co24, .slice Ao25 t272.length co25, .float .f32 a2, .int .i64 a3, .int .i64 a4] rfl (by (try simp only [List.map_toArray, List.map_cons, List.map_nil]); first | done | rfl | (simp only [List.length_drop, List.length_take]; rfl)) ?_; (with_reducible refine (impl_SnapshotOf.calls k _ _ t269 _ _ t272 a2 a3 a4 t275 t276 _ ?side1 ?side2 ?side3 ?side4 A15.out).mono ?_); (case side1 => repeat (first | exact (Kd.R_reads' HO271.out).2.2 | (with_reducible refine Kd.C_alloc ?_ _) | (with_reducible refine Kd.C_drewN ?_ _) | (with_reducible refine Kd.C_drew ?_))); (case side2 => exact (Kd.R_reads' HO271.out).2.1); (case side3 => repeat (first | exact (Kd.R_reads' HO274.out).2.2 | (with_reducible refine Kd.C_alloc ?_ _) | (with_reducible refine Kd.C_drewN ?_ _) | (with_reducible refine Kd.C_drew ?_))); (case side4 => exact (Kd.R_reads' HO274.out).2.1); rintro e w26 ⟨v277, rfl, ho0, hb⟩; refine ⟨_, rfl, ?_⟩; have n0_ := Aside0.mk (Kd.R_below (by (with_reducible repeat (first | apply Kd.R_alloc | apply Kd.R_drewN | apply Kd.R_drew)); exact HO261.out) hb); have n1_ := Aside0.mk (Kd.R_below (by (with_reducible repeat (first | apply Kd.R_alloc | apply Kd.R_drewN | apply Kd.R_drew)); exact HO264.out) hb); have n2_ := Aside0.mk (Kd.R_elder' (by (with_reducible repeat (first | apply Kd.R_alloc | apply Kd.R_drewN | apply Kd.R_drew)); exact HO268.out) (Kd.R_base ho0) hb); have n3_ := Aside0.mk (Kd.R_below (by (with_reducible repeat (first | apply Kd.R_alloc | apply Kd.R_drewN | apply Kd.R_drew)); exact HO271.out) hb); have n4_ := Aside0.mk (Kd.R_below (by (with_reducible repeat (first | apply Kd.R_alloc | apply Kd.R_drewN | apply Kd.R_drew)); exact HO274.out) hb); have n5_ := Aside0.mk (Kd.R_lower (Kd.R_new' ho0 (Kd.R_lt (by (with_reducible repeat (first | apply Kd.R_alloc | apply Kd.R_drewN | apply Kd.R_drew)); exact HO268.out))) (below_size (by repeat (first | (with_reducible first | exact HB.out | apply below_alloc | apply pw_below_drewN | apply below_drew1) | exact HB.out)))); have n6_ := Aside0.mk (below_step (by repeat (first | (with_reducible first | exact HB.out | apply below_alloc | apply pw_below_drewN | apply below_drew1) | exact HB.out)) hb); clear HO261; clear HO264; clear HO268; clear HO271; clear HO274; clear HB; have HO261 := n0_; have HO264 := n1_; have HO268 := n2_; have HO271 := n3_; have HO274 := n4_; have HO278 := n5_; have HB := n6_; clear n0_ n1_ n2_ n3_ n4_ n5_ n6_; (try clear hb); (try clear hb2); (try clear hk); (try clear hi); (try clear ho0)))
     (try simp only [Act.put, List.setIfInBounds_toArray, List.set_cons_zero, List.set_cons_succ])
     go_cut [65] (fun v65 wc => ∃ (kq : Nat) (x65_15 : Bool), v65 = .bool x65_15 ∧ Aside0 (laws_FnExactSnapshotOf.j0 kq l0 l1 a2 a3 a4 t265 t266 t269 t272 t275 t276 x65_15 = some r) ∧ Aside0 (kq ≤ k) ∧ Aside0 (Kd.R Kd.c64 94 wc w.heap.size (fun k_ => some k_ ≠ (v277 : Value).ownBlock) v267 t265) ∧ Aside0 (Kd.R k88 88 wc w.heap.size (fun _ => True) (.slice Ao24 t269.length co24) t269) ∧ Aside0 (Kd.R k69 69 wc w.heap.size (fun _ => True) (.slice Ao25 t272.length co25) t272) ∧ Aside0 (Kd.R Kd.c64 94 wc w.heap.size (fun k_ => some k_ ≠ (v267 : Value).ownBlock) v277 t275) ∧ Aside0 (Below w.heap.size w wc))
     case first =>
      have H := HC16.out
      clear HC16
      replace H := Option.bind_eq_some_iff.mp H
      obtain ⟨t279, A270, H⟩ := H
      replace H : (if t279 = true then (laws_FnExactSnapshotOf.j0 k l0 l1 a2 a3 a4 t265 t266 t269 t272 t275 t276 (t276 != t266)) else (none)) = some r := H
      have A27 := Aside0.mk A270
      clear A270
      by_cases c28 : t279 = true
      · subst c28
        have H1 : (laws_FnExactSnapshotOf.j0 k l0 l1 a2 a3 a4 t265 t266 t269 t272 t275 t276 (t276 != t266)) = some r := by rw [if_pos rfl] at H; exact H
        clear H
        have H := H1
        clear H1
        as_aux_lemma =>
         have H' := Aside0.mk H
         clear H
         obtain ⟨Ao29, co29, eo29⟩ := Kd.R_slice HO278.out
         subst eo29
         obtain ⟨Ao30, co30, eo30⟩ := Kd.R_slice HO268.out
         subst eo30
         go_wp2_with (first | ((with_reducible refine gate_callee (f := 27) rfl ?_); refine goesL_ (some 59) rfl rfl Try.func27 (by kernel_rfl) rfl #[.slice Ao29 t275.length co29, .slice Ao30 t265.length co30] rfl (by (try simp only [List.map_toArray, List.map_cons, List.map_nil]); first | done | rfl | (simp only [List.length_drop, List.length_take]; rfl)) ?_; (with_reducible refine (laws_eqComplex64S.calls _ _ t275 _ _ t265 true _ ?side1 ?side2 ?side3 ?side4 A27.out).mono ?_); (case side1 => repeat (first | exact (Kd.R_reads' HO278.out).2.2 | (with_reducible refine Kd.C_alloc ?_ _) | (with_reducible refine Kd.C_drewN ?_ _) | (with_reducible refine Kd.C_drew ?_))); (case side2 => exact (Kd.R_reads' HO278.out).2.1); (case side3 => repeat (first | exact (Kd.R_reads' HO268.out).2.2 | (with_reducible refine Kd.C_alloc ?_ _) | (with_reducible refine Kd.C_drewN ?_ _) | (with_reducible refine Kd.C_drew ?_))); (case side4 => exact (Kd.R_reads' HO268.out).2.1); rintro e w' ⟨rfl, ⟨nd, rfl⟩⟩; refine ⟨_, rfl, ?_⟩))
         go_meet
         case rel => exact ⟨_, ((t276 != t266)), (by first | rfl | (simp; done) | (simp [*]; done)), H', ⟨by first | omega | exact Nat.le_refl _⟩, ⟨by (with_reducible repeat (first | apply Kd.R_alloc | apply Kd.R_drewN | apply Kd.R_drew)); exact Kd.R_mono HO268.out (fun _ hk => hk.2)⟩, ⟨by (with_reducible repeat (first | apply Kd.R_alloc | apply Kd.R_drewN | apply Kd.R_drew)); exact Kd.R_mono HO271.out (fun _ hk => trivial)⟩, ⟨by (with_reducible repeat (first | apply Kd.R_alloc | apply Kd.R_drewN | apply Kd.R_drew)); exact Kd.R_mono HO274.out (fun _ hk => trivial)⟩, ⟨by (with_reducible repeat (first | apply Kd.R_alloc | apply Kd.R_drewN | apply Kd.R_drew)); exact Kd.R_mono HO278.out (fun _ hk => hk.2)⟩, ⟨by repeat (first | (with_reducible first | exact HB.out | apply below_alloc | apply pw_below_drewN | apply below_drew1) | exact HB.out)⟩⟩
      · replace c28 := Bool.eq_false_iff.mpr c28
        subst c28
        have H1 : (none) = some r := by rw [if_neg (show ¬ (false = true) by decide)] at H; exact H
        clear H
        have H := H1
        clear H1
        exact absurd H (by simp)
     case rest =>
      clear HC16
      (try clear c1); (try clear c2); (try clear p2); (try clear c6); (try clear c7); (try clear c7b0); (try clear c9); (try clear c9b0); (try clear c12); (try clear c14); (try clear c23); (try clear c24); (try clear c25); (try clear c26); (try clear c27); (try clear c28)
      obtain ⟨kq, x65_15, rfl, HA, HJ15, HO_12, HO_14, HO_15, HO_16, HB⟩ := hcut
      cases kq with
      | zero => exact absurd HA.out (by simp [laws_FnExactSnapshotOf.j0])
      | succ kj15 =>
       have H := HA.out
       clear HA
       simp only [laws_FnExactSnapshotOf.j0] at H
       by_cases c31 : x65_15 = true
       · subst c31
         have H1 : (none) = some r := by rw [if_pos rfl] at H; exact H
         clear H
         have H := H1
         clear H1
         exact absurd H (by simp)
       · replace c31 := Bool.eq_false_iff.mpr c31
         subst c31
         have H1 : ((laws_toPlaceS.f kj15 l0).bind fun t280 => ((laws_eqPlaceS.f kj15 t269 t280).bind fun t283 => (if t283 = true then ((laws_toSourceS.f kj15 l1).bind fun t284 => ((laws_eqSourceS.f kj15 t272 t284).bind fun t287 => (if t287 = true then ((laws_markPlaceS.f kj15 t269 1).bind fun bt288 => ((laws_markSourceS.f kj15 t272 bt288.1).bind fun bt290 => (if bt290.1 < 0 then (none) else ((laws_eqComplex64S.f t275 t265).bind fun t292 => (if t292 = true then (laws_FnExactSnapshotOf.j1 kj15 l0 l1 a2 a3 a4 t265 t266 t275 (t276 != t266)) else (none)))))) else (none)))) else (none)))) = some r := by rw [if_neg (show ¬ (false = true) by decide)] at H; exact H
         clear H
         have H := H1
         clear H1
         replace H := Option.bind_eq_some_iff.mp H
         obtain ⟨t280, A320, H⟩ := H
         replace H : ((laws_eqPlaceS.f kj15 t269 t280).bind fun t283 => (if t283 = true then ((laws_toSourceS.f kj15 l1).bind fun t284 => ((laws_eqSourceS.f kj15 t272 t284).bind fun t287 => (if t287 = true then ((laws_markPlaceS.f kj15 t269 1).bind fun bt288 => ((laws_markSourceS.f kj15 t272 bt288.1).bind fun bt290 => (if bt290.1 < 0 then (none) else ((laws_eqComplex64S.f t275 t265).bind fun t292 => (if t292 = true then (laws_FnExactSnapshotOf.j1 kj15 l0 l1 a2 a3 a4 t265 t266 t275 (t276 != t266)) else (none)))))) else (none)))) else (none))) = some r := H
         have A32 := Aside0.mk A320
         clear A320
         replace H := Option.bind_eq_some_iff.mp H
         obtain ⟨t283, A330, H⟩ := H
         replace H : (if t283 = true then ((laws_toSourceS.f kj15 l1).bind fun t284 => ((laws_eqSourceS.f kj15 t272 t284).bind fun t287 => (if t287 = true then ((laws_markPlaceS.f kj15 t269 1).bind fun bt288 => ((laws_markSourceS.f kj15 t272 bt288.1).bind fun bt290 => (if bt290.1 < 0 then (none) else ((laws_eqComplex64S.f t275 t265).bind fun t292 => (if t292 = true then (laws_FnExactSnapshotOf.j1 kj15 l0 l1 a2 a3 a4 t265 t266 t275 (t276 != t266)) else (none)))))) else (none)))) else (none)) = some r := H
         have A33 := Aside0.mk A330
         clear A330
         by_cases c34 : t283 = true
         · subst c34
           have H1 : ((laws_toSourceS.f kj15 l1).bind fun t284 => ((laws_eqSourceS.f kj15 t272 t284).bind fun t287 => (if t287 = true then ((laws_markPlaceS.f kj15 t269 1).bind fun bt288 => ((laws_markSourceS.f kj15 t272 bt288.1).bind fun bt290 => (if bt290.1 < 0 then (none) else ((laws_eqComplex64S.f t275 t265).bind fun t292 => (if t292 = true then (laws_FnExactSnapshotOf.j1 kj15 l0 l1 a2 a3 a4 t265 t266 t275 (t276 != t266)) else (none)))))) else (none)))) = some r := by rw [if_pos rfl] at H; exact H
           clear H
           have H := H1
           clear H1
           replace H := Option.bind_eq_some_iff.mp H
           obtain ⟨t284, A350, H⟩ := H
           replace H : ((laws_eqSourceS.f kj15 t272 t284).bind fun t287 => (if t287 = true then ((laws_markPlaceS.f kj15 t269 1).bind fun bt288 => ((laws_markSourceS.f kj15 t272 bt288.1).bind fun bt290 => (if bt290.1 < 0 then (none) else ((laws_eqComplex64S.f t275 t265).bind fun t292 => (if t292 = true then (laws_FnExactSnapshotOf.j1 kj15 l0 l1 a2 a3 a4 t265 t266 t275 (t276 != t266)) else (none)))))) else (none))) = some r := H
           have A35 := Aside0.mk A350
           clear A350
           replace H := Option.bind_eq_some_iff.mp H
           obtain ⟨t287, A360, H⟩ := H
           replace H : (if t287 = true then ((laws_markPlaceS.f kj15 t269 1).bind fun bt288 => ((laws_markSourceS.f kj15 t272 bt288.1).bind fun bt290 => (if bt290.1 < 0 then (none) else ((laws_eqComplex64S.f t275 t265).bind fun t292 => (if t292 = true then (laws_FnExactSnapshotOf.j1 kj15 l0 l1 a2 a3 a4 t265 t266 t275 (t276 != t266)) else (none)))))) else (none)) = some r := H
           have A36 := Aside0.mk A360
           clear A360
           by_cases c37 : t287 = true
           · subst c37
             have H1 : ((laws_markPlaceS.f kj15 t269 1).bind fun bt288 => ((laws_markSourceS.f kj15 t272 bt288.1).bind fun bt290 => (if bt290.1 < 0 then (none) else ((laws_eqComplex64S.f t275 t265).bind fun t292 => (if t292 = true then (laws_FnExactSnapshotOf.j1 kj15 l0 l1 a2 a3 a4 t265 t266 t275 (t276 != t266)) else (none)))))) = some r := by rw [if_pos rfl] at H; exact H
             clear H
             have H := H1
             clear H1
             replace H := Option.bind_eq_some_iff.mp H
             obtain ⟨⟨t288, t289⟩, A380, H⟩ := H
             replace H : ((laws_markSourceS.f kj15 t272 t288).bind fun bt290 => (if bt290.1 < 0 then (none) else ((laws_eqComplex64S.f t275 t265).bind fun t292 => (if t292 = true then (laws_FnExactSnapshotOf.j1 kj15 l0 l1 a2 a3 a4 t265 t266 t275 (t276 != t266)) else (none))))) = some r := H
             have A38 := Aside0.mk A380
             clear A380
             replace H := Option.bind_eq_some_iff.mp H
             obtain ⟨⟨t290, t291⟩, A390, H⟩ := H
             replace H : (if t290 < 0 then (none) else ((laws_eqComplex64S.f t275 t265).bind fun t292 => (if t292 = true then (laws_FnExactSnapshotOf.j1 kj15 l0 l1 a2 a3 a4 t265 t266 t275 (t276 != t266)) else (none)))) = some r := H
             have A39 := Aside0.mk A390
             clear A390
             have HC40 := Aside0.mk H
             clear H
             go_upto_region 21 with (first | ((with_reducible refine gate_callee (f := 25) rfl ?_); refine goesL_ (some 68) rfl rfl Try.func25 (by kernel_rfl) rfl #[.slice A0 l0.length c0] rfl (by (try simp only [List.map_toArray, List.map_cons, List.map_nil]); first | done | rfl | (simp only [List.length_drop, List.length_take]; rfl)) ?_; (with_reducible refine (laws_toPlaceS.calls kj15 _ _ l0 t280 _ ?side1 ?side2 A32.out).mono ?_); (case side1 => repeat (first | exact (Kd.C_below HR0.out HB.out) | (with_reducible refine Kd.C_alloc ?_ _) | (with_reducible refine Kd.C_drewN ?_ _) | (with_reducible refine Kd.C_drew ?_))); (case side2 => exact HC0.out); rintro e w41 ⟨v281, rfl, ho0, hb⟩; refine ⟨_, rfl, ?_⟩; have n0_ := Aside0.mk (Kd.R_below (by (with_reducible repeat (first | apply Kd.R_alloc | apply Kd.R_drewN | apply Kd.R_drew)); exact HO_12.out) hb); have n1_ := Aside0.mk (Kd.R_elder' (by (with_reducible repeat (first | apply Kd.R_alloc | apply Kd.R_drewN | apply Kd.R_drew)); exact HO_14.out) (Kd.R_base ho0) hb); have n2_ := Aside0.mk (Kd.R_below (by (with_reducible repeat (first | apply Kd.R_alloc | apply Kd.R_drewN | apply Kd.R_drew)); exact HO_15.out) hb); have n3_ := Aside0.mk (Kd.R_below (by (with_reducible repeat (first | apply Kd.R_alloc | apply Kd.R_drewN | apply Kd.R_drew)); exact HO_16.out) hb); have n4_ := Aside0.mk (Kd.R_lower (Kd.R_new' ho0 (Kd.R_lt (by (with_reducible repeat (first | apply Kd.R_alloc | apply Kd.R_drewN | apply Kd.R_drew)); exact HO_14.out))) (below_size (by repeat (first | (with_reducible first | exact HB.out | apply below_alloc | apply pw_below_drewN | apply below_drew1) | exact HB.out)))); have n5_ := Aside0.mk (below_step (by repeat (first | (with_reducible first | exact HB.out | apply below_alloc | apply pw_below_drewN | apply below_drew1) | exact HB.out)) hb); clear HO_12; clear HO_14; clear HO_15; clear HO_16; clear HB; have HO_12 := n0_; have HO_14 := n1_; have HO_15 := n2_; have HO_16 := n3_; have HO282 := n4_; have HB := n5_; clear n0_ n1_ n2_ n3_ n4_ n5_; (try clear hb); (try clear hb2); (try clear hk); (try clear hi); (try clear ho0); obtain ⟨Ao42, co42, eo42⟩ := Kd.R_slice HO282.out; subst eo42) | ((with_reducible refine gate_callee (f := 28) rfl ?_); refine goesL_ (some 69) rfl rfl Try.func28 (by kernel_rfl) rfl #[.slice Ao24 t269.length co24, .slice Ao42 t280.length co42] rfl (by (try simp only [List.map_toArray, List.map_cons, List.map_nil]); first | done | rfl | (simp only [List.length_drop, List.length_take]; rfl)) ?_; (with_reducible refine (laws_eqPlaceS.calls kj15 _ _ t269 _ _ t280 true _ ?side1 ?side2 ?side3 ?side4 A33.out).mono ?_); (case side1 => repeat (first | exact (Kd.R_reads' HO_14.out).2.2 | (with_reducible refine Kd.C_alloc ?_ _) | (with_reducible refine Kd.C_drewN ?_ _) | (with_reducible refine Kd.C_drew ?_))); (case side2 => exact (Kd.R_reads' HO_14.out).2.1); (case side3 => repeat (first | exact (Kd.R_reads' HO282.out).2.2 | (with_reducible refine Kd.C_alloc ?_ _) | (with_reducible refine Kd.C_drewN ?_ _) | (with_reducible refine Kd.C_drew ?_))); (case side4 => exact (Kd.R_reads' HO282.out).2.1); rintro e w43 ⟨rfl, hb⟩; refine ⟨_, rfl, ?_⟩; have n0_ := Aside0.mk (Kd.R_below (by (with_reducible repeat (first | apply Kd.R_alloc | apply Kd.R_drewN | apply Kd.R_drew)); exact HO_12.out) hb); have n1_ := Aside0.mk (Kd.R_below (by (with_reducible repeat (first | apply Kd.R_alloc | apply Kd.R_drewN | apply Kd.R_drew)); exact HO_14.out) hb); have n2_ := Aside0.mk (Kd.R_below (by (with_reducible repeat (first | apply Kd.R_alloc | apply Kd.R_drewN | apply Kd.R_drew)); exact HO_15.out) hb); have n3_ := Aside0.mk (Kd.R_below (by (with_reducible repeat (first | apply Kd.R_alloc | apply Kd.R_drewN | apply Kd.R_drew)); exact HO_16.out) hb); have n4_ := Aside0.mk (Kd.R_below (by (with_reducible repeat (first | apply Kd.R_alloc | apply Kd.R_drewN | apply Kd.R_drew)); exact HO282.out) hb); have n5_ := Aside0.mk (below_step (by repeat (first | (with_reducible first | exact HB.out | apply below_alloc | apply pw_below_drewN | apply below_drew1) | exact HB.out)) hb); clear HO_12; clear HO_14; clear HO_15; clear HO_16; clear HO282; clear HB; have HO_12 := n0_; have HO_14 := n1_; have HO_15 := n2_; have HO_16 := n3_; have HO282 := n4_; have HB := n5_; clear n0_ n1_ n2_ n3_ n4_ n5_; (try clear hb); (try clear hb2); (try clear hk); (try clear hi)) | ((with_reducible refine gate_callee (f := 14) rfl ?_); refine goesL_ (some 73) rfl rfl Try.func14 (by kernel_rfl) rfl #[.slice A1 l1.length c1] rfl (by (try simp only [List.map_toArray, List.map_cons, List.map_nil]); first | done | rfl | (simp only [List.length_drop, List.length_take]; rfl)) ?_; (with_reducible refine (laws_toSourceS.calls kj15 _ _ l1 t284 _ ?side1 ?side2 A35.out).mono ?_); (case side1 => repeat (first | exact (Kd.C_below HR1.out HB.out) | (with_reducible refine Kd.C_alloc ?_ _) | (with_reducible refine Kd.C_drewN ?_ _) | (with_reducible refine Kd.C_drew ?_))); (case side2 => exact HC1.out); rintro e w44 ⟨v285, rfl, ho0, hb⟩; refine ⟨_, rfl, ?_⟩; have n0_ := Aside0.mk (Kd.R_below (by (with_reducible repeat (first | apply Kd.R_alloc | apply Kd.R_drewN | apply Kd.R_drew)); exact HO_12.out) hb); have n1_ := Aside0.mk (Kd.R_below (by (with_reducible repeat (first | apply Kd.R_alloc | apply Kd.R_drewN | apply Kd.R_drew)); exact HO_14.out) hb); have n2_ := Aside0.mk (Kd.R_elder' (by (with_reducible repeat (first | apply Kd.R_alloc | apply Kd.R_drewN | apply Kd.R_drew)); exact HO_15.out) (Kd.R_base ho0) hb); have n3_ := Aside0.mk (Kd.R_below (by (with_reducible repeat (first | apply Kd.R_alloc | apply Kd.R_drewN | apply Kd.R_drew)); exact HO_16.out) hb); have n4_ := Aside0.mk (Kd.R_below (by (with_reducible repeat (first | apply Kd.R_alloc | apply Kd.R_drewN | apply Kd.R_drew)); exact HO282.out) hb); have n5_ := Aside0.mk (Kd.R_lower (Kd.R_new' ho0 (Kd.R_lt (by (with_reducible repeat (first | apply Kd.R_alloc | apply Kd.R_drewN | apply Kd.R_drew)); exact HO_15.out))) (below_size (by repeat (first | (with_reducible first | exact HB.out | apply below_alloc | apply pw_below_drewN | apply below_drew1) | exact HB.out)))); have n6_ := Aside0.mk (below_step (by repeat (first | (with_reducible first | exact HB.out | apply below_alloc | apply pw_below_drewN | apply below_drew1) | exact HB.out)) hb); clear HO_12; clear HO_14; clear HO_15; clear HO_16; clear HO282; clear HB; have HO_12 := n0_; have HO_14 := n1_; have HO_15 := n2_; have HO_16 := n3_; have HO282 := n4_; have HO286 := n5_; have HB := n6_; clear n0_ n1_ n2_ n3_ n4_ n5_ n6_; (try clear hb); (try clear hb2); (try clear hk); (try clear hi); (try clear ho0); obtain ⟨Ao45, co45, eo45⟩ := Kd.R_slice HO286.out; subst eo45) | ((with_reducible refine gate_callee (f := 16) rfl ?_); refine goesL_ (some 74) rfl rfl Try.func16 (by kernel_rfl) rfl #[.slice Ao25 t272.length co25, .slice Ao45 t284.length co45] rfl (by (try simp only [List.map_toArray, List.map_cons, List.map_nil]); first | done | rfl | (simp only [List.length_drop, List.length_take]; rfl)) ?_; (with_reducible refine (laws_eqSourceS.calls kj15 _ _ t272 _ _ t284 true _ ?side1 ?side2 ?side3 ?side4 A36.out).mono ?_); (case side1 => repeat (first | exact (Kd.R_reads' HO_15.out).2.2 | (with_reducible refine Kd.C_alloc ?_ _) | (with_reducible refine Kd.C_drewN ?_ _) | (with_reducible refine Kd.C_drew ?_))); (case side2 => exact (Kd.R_reads' HO_15.out).2.1); (case side3 => repeat (first | exact (Kd.R_reads' HO286.out).2.2 | (with_reducible refine Kd.C_alloc ?_ _) | (with_reducible refine Kd.C_drewN ?_ _) | (with_reducible refine Kd.C_drew ?_))); (case side4 => exact (Kd.R_reads' HO286.out).2.1); rintro e w46 ⟨rfl, hb⟩; refine ⟨_, rfl, ?_⟩; have n0_ := Aside0.mk (Kd.R_below (by (with_reducible repeat (first | apply Kd.R_alloc | apply Kd.R_drewN | apply Kd.R_drew)); exact HO_12.out) hb); have n1_ := Aside0.mk (Kd.R_below (by (with_reducible repeat (first | apply Kd.R_alloc | apply Kd.R_drewN | apply Kd.R_drew)); exact HO_14.out) hb); have n2_ := Aside0.mk (Kd.R_below (by (with_reducible repeat (first | apply Kd.R_alloc | apply Kd.R_drewN | apply Kd.R_drew)); exact HO_15.out) hb); have n3_ := Aside0.mk (Kd.R_below (by (with_reducible repeat (first | apply Kd.R_alloc | apply Kd.R_drewN | apply Kd.R_drew)); exact HO_16.out) hb); have n4_ := Aside0.mk (Kd.R_below (by (with_reducible repeat (first | apply Kd.R_alloc | apply Kd.R_drewN | apply Kd.R_drew)); exact HO282.out) hb); have n5_ := Aside0.mk (Kd.R_below (by (with_reducible repeat (first | apply Kd.R_alloc | apply Kd.R_drewN | apply Kd.R_drew)); exact HO286.out) hb); have n6_ := Aside0.mk (below_step (by repeat (first | (with_reducible first | exact HB.out | apply below_alloc | apply pw_below_drewN | apply below_drew1) | exact HB.out)) hb); clear HO_12; clear HO_14; clear HO_15; clear HO_16; clear HO282; clear HO286; clear HB; have HO_12 := n0_; have HO_14 := n1_; have HO_15 := n2_; have HO_16 := n3_; have HO282 := n4_; have HO286 := n5_; have HB := n6_; clear n0_ n1_ n2_ n3_ n4_ n5_ n6_; (try clear hb); (try clear hb2); (try clear hk); (try clear hi)) | ((with_reducible refine gate_callee (f := 29) rfl ?_); refine goesL_ (some 78) rfl rfl Try.func29 (by kernel_rfl) rfl #[.slice Ao24 t269.length co24, .int .i64 1] rfl (by (try simp only [List.map_toArray, List.map_cons, List.map_nil]); first | done | rfl | (simp only [List.length_drop, List.length_take]; rfl)) ?_; (with_reducible refine (laws_markPlaceS.calls kj15 (fun k_ => some k_ = (.slice Ao24 t269.length co24 : Value).ownBlock) (.slice Ao24 t269.length co24) t269 1 t288 t289 w _ ?side1 ?side2 A38.out).mono ?_); (case side1 => repeat (first | (with_reducible first | exact HB.out | apply below_alloc | apply pw_below_drewN | apply below_drew1) | exact HB.out)); (case side2 => exact Kd.R_tight rfl HO_14.out); rintro e w47 ⟨rfl, hy0, hb, hkp⟩; refine ⟨_, rfl, ?_⟩; have n0_ := Aside0.mk (Kd.R_mono (ok' := fun k_ => some k_ ≠ (v277 : Value).ownBlock) (Kd.R_keptB ((Kd.R_apart' HO_12.out (Kd.R_typed HO_14.out) (by decide))) hkp (fun k_ hk_ hs_ => (hk_.2) hs_)) (fun k_ hk_ => hk_.1.1)); have n1_ := Aside0.mk (Kd.R_reok rfl hy0 (fun k_ e_ => HO_14.out.1 k_ e_)); have n2_ := Aside0.mk (Kd.R_mono (ok' := fun k_ => some k_ ≠ (.slice Ao45 t284.length co45 : Value).ownBlock) (Kd.R_keptB ((Kd.R_apart' HO_15.out (Kd.R_typed HO_14.out) (by decide))) hkp (fun k_ hk_ hs_ => (hk_.2) hs_)) (fun k_ hk_ => hk_.1.1.2)); have n3_ := Aside0.mk (Kd.R_mono (ok' := fun k_ => some k_ ≠ (v267 : Value).ownBlock) (Kd.R_keptB ((Kd.R_apart' HO_16.out (Kd.R_typed HO_14.out) (by decide))) hkp (fun k_ hk_ hs_ => (hk_.2) hs_)) (fun k_ hk_ => hk_.1.1)); have n4_ := Aside0.mk (Kd.R_mono (ok' := fun k_ => some k_ ≠ (.slice Ao24 t269.length co24 : Value).ownBlock) (Kd.R_keptB (HO282.out) hkp (fun k_ hk_ hs_ => (hk_.2) hs_)) (fun k_ hk_ => hk_.1.2)); have n5_ := Aside0.mk (Kd.R_mono (ok' := fun k_ => some k_ ≠ (.slice Ao25 t272.length co25 : Value).ownBlock) (Kd.R_keptB ((Kd.R_apart' HO286.out (Kd.R_typed HO_14.out) (by decide))) hkp (fun k_ hk_ hs_ => (hk_.2) hs_)) (fun k_ hk_ => hk_.1.1.2)); have n6_ := Aside0.mk (hb); clear HO_12; clear HO_14; clear HO_15; clear HO_16; clear HO282; clear HO286; clear HB; have HO_12 := n0_; have HO_14 := n1_; have HO_15 := n2_; have HO_16 := n3_; have HO282 := n4_; have HO286 := n5_; have HB := n6_; clear n0_ n1_ n2_ n3_ n4_ n5_ n6_; (try clear hb); (try clear hkp); (try clear hy0)) | ((with_reducible refine gate_callee (f := 30) rfl ?_); refine goesL_ (some 81) rfl rfl Try.func30 (by kernel_rfl) rfl #[.slice Ao25 t272.length co25, .int .i64 t288] rfl (by (try simp only [List.map_toArray, List.map_cons, List.map_nil]); first | done | rfl | (simp only [List.length_drop, List.length_take]; rfl)) ?_; (with_reducible refine (laws_markSourceS.calls kj15 (fun k_ => some k_ = (.slice Ao25 t272.length co25 : Value).ownBlock) (.slice Ao25 t272.length co25) t272 t288 t290 t291 w _ ?side1 ?side2 A39.out).mono ?_); (case side1 => repeat (first | (with_reducible first | exact HB.out | apply below_alloc | apply pw_below_drewN | apply below_drew1) | exact HB.out)); (case side2 => exact Kd.R_tight rfl HO_15.out); rintro e w48 ⟨rfl, hy0, hb, hkp⟩; refine ⟨_, rfl, ?_⟩; have n0_ := Aside0.mk (Kd.R_mono (ok' := fun k_ => some k_ ≠ (v277 : Value).ownBlock) (Kd.R_keptB ((Kd.R_apart' HO_12.out (Kd.R_typed HO_15.out) (by decide))) hkp (fun k_ hk_ hs_ => (hk_.2) hs_)) (fun k_ hk_ => hk_.1.1)); have n1_ := Aside0.mk (Kd.R_mono (ok' := fun k_ => some k_ ≠ (.slice Ao42 t280.length co42 : Value).ownBlock) (Kd.R_keptB ((Kd.R_apart' HO_14.out (Kd.R_typed HO_15.out) (by decide))) hkp (fun k_ hk_ hs_ => (hk_.2) hs_)) (fun k_ hk_ => hk_.1.1.2)); have n2_ := Aside0.mk (Kd.R_reok rfl hy0 (fun k_ e_ => HO_15.out.1 k_ e_)); have n3_ := Aside0.mk (Kd.R_mono (ok' := fun k_ => some k_ ≠ (v267 : Value).ownBlock) (Kd.R_keptB ((Kd.R_apart' HO_16.out (Kd.R_typed HO_15.out) (by decide))) hkp (fun k_ hk_ hs_ => (hk_.2) hs_)) (fun k_ hk_ => hk_.1.1)); have n4_ := Aside0.mk (Kd.R_mono (ok' := fun k_ => some k_ ≠ (.slice Ao24 t269.length co24 : Value).ownBlock) (Kd.R_keptB ((Kd.R_apart' HO282.out (Kd.R_typed HO_15.out) (by decide))) hkp (fun k_ hk_ hs_ => (hk_.2) hs_)) (fun k_ hk_ => hk_.1.1)); have n5_ := Aside0.mk (Kd.R_mono (ok' := fun k_ => some k_ ≠ (.slice Ao25 t272.length co25 : Value).ownBlock) (Kd.R_keptB (HO286.out) hkp (fun k_ hk_ hs_ => (hk_) hs_)) (fun k_ hk_ => hk_.1)); have n6_ := Aside0.mk (hb); clear HO_12; clear HO_14; clear HO_15; clear HO_16; clear HO282; clear HO286; clear HB; have HO_12 := n0_; have HO_14 := n1_; have HO_15 := n2_; have HO_16 := n3_; have HO282 := n4_; have HO286 := n5_; have HB := n6_; clear n0_ n1_ n2_ n3_ n4_ n5_ n6_; (try clear hb); (try clear hkp); (try clear hy0)))
             (try simp only [Act.put, List.setIfInBounds_toArray, List.set_cons_zero, List.set_cons_succ])
             go_cut [94] (fun v94 wc => ∃ (kq : Nat) (x94_39 : Bool), v94 = .bool x94_39 ∧ Aside0 (laws_FnExactSnapshotOf.j1 kq l0 l1 a2 a3 a4 t265 t266 t275 x94_39 = some r) ∧ Aside0 (kq ≤ kj15) ∧ Aside0 (Kd.R Kd.c64 94 wc w.heap.size (fun k_ => some k_ ≠ (v277 : Value).ownBlock) v267 t265) ∧ Aside0 (Kd.R Kd.c64 94 wc w.heap.size (fun k_ => some k_ ≠ (v267 : Value).ownBlock) v277 t275) ∧ Aside0 (Below w.heap.size w wc))
             case first =>
              have H := HC40.out
              clear HC40
              by_cases c49 : t290 < 0
              · rw [if_pos c49] at H
                exact absurd H (by simp)
              · rw [if_neg c49] at H
                have c49b0 : decide (t290 < 0) = false := decide_eq_false c49
                clear c49
                (first | rw [c49b0] | (simp only [i64_w, i32_w]; rw [c49b0]) | skip)
                replace H := Option.bind_eq_some_iff.mp H
                obtain ⟨t292, A500, H⟩ := H
                replace H : (if t292 = true then (laws_FnExactSnapshotOf.j1 kj15 l0 l1 a2 a3 a4 t265 t266 t275 (t276 != t266)) else (none)) = some r := H
                have A50 := Aside0.mk A500
                clear A500
                by_cases c51 : t292 = true
                · subst c51
                  have H1 : (laws_FnExactSnapshotOf.j1 kj15 l0 l1 a2 a3 a4 t265 t266 t275 (t276 != t266)) = some r := by rw [if_pos rfl] at H; exact H
                  clear H
                  have H := H1
                  clear H1
                  as_aux_lemma =>
                   have H' := Aside0.mk H
                   clear H
                   obtain ⟨Ao52, co52, eo52⟩ := Kd.R_slice HO_16.out
                   subst eo52
                   obtain ⟨Ao53, co53, eo53⟩ := Kd.R_slice HO_12.out
                   subst eo53
                   go_wp2_with (first | (go_at_call 27; (with_reducible refine (laws_eqComplex64S.calls _ _ t275 _ _ t265 true _ ?side1 ?side2 ?side3 ?side4 A50.out).mono ?_); (case side1 => repeat (first | exact (Kd.R_reads' HO_16.out).2.2 | (with_reducible refine Kd.C_alloc ?_ _) | (with_reducible refine Kd.C_drewN ?_ _) | (with_reducible refine Kd.C_drew ?_))); (case side2 => exact (Kd.R_reads' HO_16.out).2.1); (case side3 => repeat (first | exact (Kd.R_reads' HO_12.out).2.2 | (with_reducible refine Kd.C_alloc ?_ _) | (with_reducible refine Kd.C_drewN ?_ _) | (with_reducible refine Kd.C_drew ?_))); (case side4 => exact (Kd.R_reads' HO_12.out).2.1); rintro e w' ⟨rfl, ⟨nd, rfl⟩⟩))
                   go_meet
                   case rel => exact ⟨_, ((t276 != t266)), (by first | rfl | (simp; done) | (simp [*]; done)), H', ⟨by have := HJ15.out; first | omega | exact Nat.le_refl _⟩, ⟨by (with_reducible repeat (first | apply Kd.R_alloc | apply Kd.R_drewN | apply Kd.R_drew)); exact HO_12.out⟩, ⟨by (with_reducible repeat (first | apply Kd.R_alloc | apply Kd.R_drewN | apply Kd.R_drew)); exact HO_16.out⟩, ⟨by repeat (first | (with_reducible first | exact HB.out | apply below_alloc | apply pw_below_drewN | apply below_drew1) | exact HB.out)⟩⟩
                · replace c51 := Bool.eq_false_iff.mpr c51
                  subst c51
                  have H1 : (none) = some r := by rw [if_neg (show ¬ (false = true) by decide)] at H; exact H
                  clear H
                  have H := H1
                  clear H1
                  exact absurd H (by simp)
             case rest =>
              clear HC40
              (try clear c1); (try clear c2); (try clear p2); (try clear c3); (try clear c4); (try clear c5); (try clear c6); (try clear c7); (try clear c7b0); (try clear c9); (try clear c9b0); (try clear c12); (try clear c14); (try clear c16); (try clear c23); (try clear c24); (try clear c25); (try clear c26); (try clear c27); (try clear c28); (try clear c29); (try clear c30); (try clear c31); (try clear c34); (try clear c37); (try clear c49); (try clear c49b0); (try clear c51); (try clear p2)
              obtain ⟨kq, x94_39, rfl, HA, HJ39, HO_12, HO_16, HB⟩ := hcut
              cases kq with
              | zero => exact absurd HA.out (by simp [laws_FnExactSnapshotOf.j1])
              | succ kj39 =>
               have H := HA.out
               clear HA
               simp only [laws_FnExactSnapshotOf.j1] at H
               by_cases c54 : x94_39 = true
               · subst c54
                 have H1 : (none) = some r := by rw [if_pos rfl] at H; exact H
                 clear H
                 have H := H1
                 clear H1
                 exact absurd H (by simp)
               · replace c54 := Bool.eq_false_iff.mpr c54
                 subst c54
                 have H1 : ((laws_markComplex64S.f kj39 t275 1).bind fun bt293 => ((laws_heldComplex64S.f kj39 bt293.2 1).bind fun t295 => (if t295 < 0 then (none) else (if t295 = bt293.1 then ((laws_toPlaceS.f kj39 l0).bind fun t296 => ((laws_toSourceS.f kj39 l1).bind fun t299 => ((impl_SnapshotOf.f kj39 t296 t299 a2 a3 a4).bind fun bt302 => ((laws_eqComplex64S.f bt302.1 t265).bind fun t306 => (if t306 = true then (laws_FnExactSnapshotOf.j2 kj39 bt293.2 bt293.1 (bt302.2 != t266)) else (none)))))) else (none))))) = some r := by rw [if_neg (show ¬ (false = true) by decide)] at H; exact H
                 clear H
                 have H := H1
                 clear H1
                 replace H := Option.bind_eq_some_iff.mp H
                 obtain ⟨⟨t293, t294⟩, A550, H⟩ := H
                 replace H : ((laws_heldComplex64S.f kj39 t294 1).bind fun t295 => (if t295 < 0 then (none) else (if t295 = t293 then ((laws_toPlaceS.f kj39 l0).bind fun t296 => ((laws_toSourceS.f kj39 l1).bind fun t299 => ((impl_SnapshotOf.f kj39 t296 t299 a2 a3 a4).bind fun bt302 => ((laws_eqComplex64S.f bt302.1 t265).bind fun t306 => (if t306 = true then (laws_FnExactSnapshotOf.j2 kj39 t294 t293 (bt302.2 != t266)) else (none)))))) else (none)))) = some r := H
                 have A55 := Aside0.mk A550
                 clear A550
                 replace H := Option.bind_eq_some_iff.mp H
                 obtain ⟨t295, A560, H⟩ := H
                 replace H : (if t295 < 0 then (none) else (if t295 = t293 then ((laws_toPlaceS.f kj39 l0).bind fun t296 => ((laws_toSourceS.f kj39 l1).bind fun t299 => ((impl_SnapshotOf.f kj39 t296 t299 a2 a3 a4).bind fun bt302 => ((laws_eqComplex64S.f bt302.1 t265).bind fun t306 => (if t306 = true then (laws_FnExactSnapshotOf.j2 kj39 t294 t293 (bt302.2 != t266)) else (none)))))) else (none))) = some r := H
                 have A56 := Aside0.mk A560
                 clear A560
                 by_cases c57 : t295 < 0
                 · rw [if_pos c57] at H
                   exact absurd H (by simp)
                 · rw [if_neg c57] at H
                   have c57b0 : decide (t295 < 0) = false := decide_eq_false c57
                   clear c57
                   by_cases c58 : t295 = t293
                   · rw [if_pos c58] at H
                     have c58b0 : (t295 == t293) = true := beq_iff_eq.mpr c58
                     have c58b1 : (t295 != t293) = false := bne_eq_false_iff_eq.mpr c58
                     clear c58
                     replace H := Option.bind_eq_some_iff.mp H
                     obtain ⟨t296, A590, H⟩ := H
                     replace H : ((laws_toSourceS.f kj39 l1).bind fun t299 => ((impl_SnapshotOf.f kj39 t296 t299 a2 a3 a4).bind fun bt302 => ((laws_eqComplex64S.f bt302.1 t265).bind fun t306 => (if t306 = true then (laws_FnExactSnapshotOf.j2 kj39 t294 t293 (bt302.2 != t266)) else (none))))) = some r := H
                     have A59 := Aside0.mk A590
                     clear A590
                     replace H := Option.bind_eq_some_iff.mp H
                     obtain ⟨t299, A600, H⟩ := H
                     replace H : ((impl_SnapshotOf.f kj39 t296 t299 a2 a3 a4).bind fun bt302 => ((laws_eqComplex64S.f bt302.1 t265).bind fun t306 => (if t306 = true then (laws_FnExactSnapshotOf.j2 kj39 t294 t293 (bt302.2 != t266)) else (none)))) = some r := H
                     have A60 := Aside0.mk A600
                     clear A600
                     replace H := Option.bind_eq_some_iff.mp H
                     obtain ⟨⟨t302, t303⟩, A610, H⟩ := H
                     replace H : ((laws_eqComplex64S.f t302 t265).bind fun t306 => (if t306 = true then (laws_FnExactSnapshotOf.j2 kj39 t294 t293 (t303 != t266)) else (none))) = some r := H
                     have A61 := Aside0.mk A610
                     clear A610
                     have HC62 := Aside0.mk H
                     clear H
                     obtain ⟨Ao63, co63, eo63⟩ := Kd.R_slice HO_16.out
                     subst eo63
                     go_upto_region 32 with (first | ((with_reducible refine gate_callee (f := 31) rfl ?_); refine goesL_ (some 97) rfl rfl Try.func31 (by kernel_rfl) rfl #[.slice Ao63 t275.length co63, .int .i64 1] rfl (by (try simp only [List.map_toArray, List.map_cons, List.map_nil]); first | done | rfl | (simp only [List.length_drop, List.length_take]; rfl)) ?_; (with_reducible refine (laws_markComplex64S.calls kj39 (fun k_ => some k_ = (.slice Ao63 t275.length co63 : Value).ownBlock) (.slice Ao63 t275.length co63) t275 1 t293 t294 w _ ?side1 ?side2 A55.out).mono ?_); (case side1 => repeat (first | (with_reducible first | exact HB.out | apply below_alloc | apply pw_below_drewN | apply below_drew1) | exact HB.out)); (case side2 => exact Kd.R_tight rfl HO_16.out); rintro e w64 ⟨rfl, hy0, hb, hkp⟩; refine ⟨_, rfl, ?_⟩; have n0_ := Aside0.mk (Kd.R_mono (ok' := fun k_ => some k_ ≠ (.slice Ao63 t275.length co63 : Value).ownBlock) (Kd.R_keptB (HO_12.out) hkp (fun k_ hk_ hs_ => (hk_) hs_)) (fun k_ hk_ => hk_.1)); have n1_ := Aside0.mk (Kd.R_reok rfl hy0 (fun k_ e_ => HO_16.out.1 k_ e_)); have n2_ := Aside0.mk (hb); clear HO_12; clear HO_16; clear HB; have HO_12 := n0_; have HO_16 := n1_; have HB := n2_; clear n0_ n1_ n2_; (try clear hb); (try clear hkp); (try clear hy0)) | ((with_reducible refine gate_callee (f := 32) rfl ?_); refine goesL_ (some 100) rfl rfl Try.func32 (by kernel_rfl) rfl #[.slice Ao63 t294.length co63, .int .i64 1] rfl (by (try simp only [List.map_toArray, List.map_cons, List.map_nil]); first | done | (rw [show t294.length = t275.length from (Kd.R_reads' HO_16.out).1.symm] <;> rfl) | rfl | (simp only [List.length_drop, List.length_take]; rfl)) ?_; (with_reducible refine (laws_heldComplex64S.calls kj39 _ _ t294 1 t295 _ ?side1 ?side2 A56.out).mono ?_); (case side1 => repeat (first | exact (Kd.R_reads' HO_16.out).2.2 | (with_reducible refine Kd.C_alloc ?_ _) | (with_reducible refine Kd.C_drewN ?_ _) | (with_reducible refine Kd.C_drew ?_))); (case side2 => rw [show t294.length = t275.length from (Kd.R_reads' HO_16.out).1.symm]; exact (Kd.R_reads' HO_16.out).2.1); rintro e w65 ⟨rfl, hb⟩; refine ⟨_, rfl, ?_⟩; have n0_ := Aside0.mk (Kd.R_below (by (with_reducible repeat (first | apply Kd.R_alloc | apply Kd.R_drewN | apply Kd.R_drew)); exact HO_12.out) hb); have n1_ := Aside0.mk (Kd.R_below (by (with_reducible repeat (first | apply Kd.R_alloc | apply Kd.R_drewN | apply Kd.R_drew)); exact HO_16.out) hb); have n2_ := Aside0.mk (below_step (by repeat (first | (with_reducible first | exact HB.out | apply below_alloc | apply pw_below_drewN | apply below_drew1) | exact HB.out)) hb); clear HO_12; clear HO_16; clear HB; have HO_12 := n0_; have HO_16 := n1_; have HB := n2_; clear n0_ n1_ n2_; (try clear hb); (try clear hb2); (try clear hk); (try clear hi)) | ((with_reducible refine gate_callee (f := 25) rfl ?_); refine goesL_ (some 108) rfl rfl Try.func25 (by kernel_rfl) rfl #[.slice A0 l0.length c0] rfl (by (try simp only [List.map_toArray, List.map_cons, List.map_nil]); first | done | rfl | (simp only [List.length_drop, List.length_take]; rfl)) ?_; (with_reducible refine (laws_toPlaceS.calls kj39 _ _ l0 t296 _ ?side1 ?side2 A59.out).mono ?_); (case side1 => repeat (first | exact (Kd.C_below HR0.out HB.out) | (with_reducible refine Kd.C_alloc ?_ _) | (with_reducible refine Kd.C_drewN ?_ _) | (with_reducible refine Kd.C_drew ?_))); (case side2 => exact HC0.out); rintro e w66 ⟨v297, rfl, ho0, hb⟩; refine ⟨_, rfl, ?_⟩; have n0_ := Aside0.mk (Kd.R_below (by (with_reducible repeat (first | apply Kd.R_alloc | apply Kd.R_drewN | apply Kd.R_drew)); exact HO_12.out) hb); have n1_ := Aside0.mk (Kd.R_below (by (with_reducible repeat (first | apply Kd.R_alloc | apply Kd.R_drewN | apply Kd.R_drew)); exact HO_16.out) hb); have n2_ := Aside0.mk (Kd.R_lower ho0 (below_size (by repeat (first | (with_reducible first | exact HB.out | apply below_alloc | apply pw_below_drewN | apply below_drew1) | exact HB.out)))); have n3_ := Aside0.mk (below_step (by repeat (first | (with_reducible first | exact HB.out | apply below_alloc | apply pw_below_drewN | apply below_drew1) | exact HB.out)) hb); clear HO_12; clear HO_16; clear HB; have HO_12 := n0_; have HO_16 := n1_; have HO298 := n2_; have HB := n3_; clear n0_ n1_ n2_ n3_; (try clear hb); (try clear hb2); (try clear hk); (try clear hi); (try clear ho0)) | ((with_reducible refine gate_callee (f := 14) rfl ?_); refine goesL_ (some 110) rfl rfl Try.func14 (by kernel_rfl) rfl #[.slice A1 l1.length c1] rfl (by (try simp only [List.map_toArray, List.map_cons, List.map_nil]); first | done | rfl | (simp only [List.length_drop, List.length_take]; rfl)) ?_; (with_reducible refine (laws_toSourceS.calls kj39 _ _ l1 t299 _ ?side1 ?side2 A60.out).mono ?_); (case side1 => repeat (first | exact (Kd.C_below HR1.out HB.out) | (with_reducible refine Kd.C_alloc ?_ _) | (with_reducible refine Kd.C_drewN ?_ _) | (with_reducible refine Kd.C_drew ?_))); (case side2 => exact HC1.out); rintro e w67 ⟨v300, rfl, ho0, hb⟩; refine ⟨_, rfl, ?_⟩; have n0_ := Aside0.mk (Kd.R_below (by (with_reducible repeat (first | apply Kd.R_alloc | apply Kd.R_drewN | apply Kd.R_drew)); exact HO_12.out) hb); have n1_ := Aside0.mk (Kd.R_below (by (with_reducible repeat (first | apply Kd.R_alloc | apply Kd.R_drewN | apply Kd.R_drew)); exact HO_16.out) hb); have n2_ := Aside0.mk (Kd.R_below (by (with_reducible repeat (first | apply Kd.R_alloc | apply Kd.R_drewN | apply Kd.R_drew)); exact HO298.out) hb); have n3_ := Aside0.mk (Kd.R_lower ho0 (below_size (by repeat (first | (with_reducible first | exact HB.out | apply below_alloc | apply pw_below_drewN | apply below_drew1) | exact HB.out)))); have n4_ := Aside0.mk (below_step (by repeat (first | (with_reducible first | exact HB.out | apply below_alloc | apply pw_below_drewN | apply below_drew1) | exact HB.out)) hb); clear HO_12; clear HO_16; clear HO298; clear HB; have HO_12 := n0_; have HO_16 := n1_; have HO298 := n2_; have HO301 := n3_; have HB := n4_; clear n0_ n1_ n2_ n3_ n4_; (try clear hb); (try clear hb2); (try clear hk); (try clear hi); (try clear ho0); obtain ⟨Ao68, co68, eo68⟩ := Kd.R_slice HO298.out; subst eo68; obtain ⟨Ao69, co69, eo69⟩ := Kd.R_slice HO301.out; subst eo69) | ((with_reducible refine gate_callee (f := 26) rfl ?_); refine goesL_ (some 114) rfl rfl Try.func26 (by kernel_rfl) rfl #[.slice Ao68 t296.length co68, .slice Ao69 t299.length co69, .float .f32 a2, .int .i64 a3, .int .i64 a4] rfl (by (try simp only [List.map_toArray, List.map_cons, List.map_nil]); first | done | rfl | (simp only [List.length_drop, List.length_take]; rfl)) ?_; (with_reducible refine (impl_SnapshotOf.calls kj39 _ _ t296 _ _ t299 a2 a3 a4 t302 t303 _ ?side1 ?side2 ?side3 ?side4 A61.out).mono ?_); (case side1 => repeat (first | exact (Kd.R_reads' HO298.out).2.2 | (with_reducible refine Kd.C_alloc ?_ _) | (with_reducible refine Kd.C_drewN ?_ _) | (with_reducible refine Kd.C_drew ?_))); (case side2 => exact (Kd.R_reads' HO298.out).2.1); (case side3 => repeat (first | exact (Kd.R_reads' HO301.out).2.2 | (with_reducible refine Kd.C_alloc ?_ _) | (with_reducible refine Kd.C_drewN ?_ _) | (with_reducible refine Kd.C_drew ?_))); (case side4 => exact (Kd.R_reads' HO301.out).2.1); rintro e w70 ⟨v304, rfl, ho0, hb⟩; refine ⟨_, rfl, ?_⟩; have n0_ := Aside0.mk (Kd.R_elder' (by (with_reducible repeat (first | apply Kd.R_alloc | apply Kd.R_drewN | apply Kd.R_drew)); exact HO_12.out) (Kd.R_base ho0) hb); have n1_ := Aside0.mk (Kd.R_elder' (by (with_reducible repeat (first | apply Kd.R_alloc | apply Kd.R_drewN | apply Kd.R_drew)); exact HO_16.out) (Kd.R_base ho0) hb); have n2_ := Aside0.mk (Kd.R_below (by (with_reducible repeat (first | apply Kd.R_alloc | apply Kd.R_drewN | apply Kd.R_drew)); exact HO298.out) hb); have n3_ := Aside0.mk (Kd.R_below (by (with_reducible repeat (first | apply Kd.R_alloc | apply Kd.R_drewN | apply Kd.R_drew)); exact HO301.out) hb); have n4_ := Aside0.mk (Kd.R_lower (Kd.R_new' (Kd.R_new' ho0 (Kd.R_lt (by (with_reducible repeat (first | apply Kd.R_alloc | apply Kd.R_drewN | apply Kd.R_drew)); exact HO_12.out))) (Kd.R_lt (by (with_reducible repeat (first | apply Kd.R_alloc | apply Kd.R_drewN | apply Kd.R_drew)); exact HO_16.out))) (below_size (by repeat (first | (with_reducible first | exact HB.out | apply below_alloc | apply pw_below_drewN | apply below_drew1) | exact HB.out)))); have n5_ := Aside0.mk (below_step (by repeat (first | (with_reducible first | exact HB.out | apply below_alloc | apply pw_below_drewN | apply below_drew1) | exact HB.out)) hb); clear HO_12; clear HO_16; clear HO298; clear HO301; clear HB; have HO_12 := n0_; have HO_16 := n1_; have HO298 := n2_; have HO301 := n3_; have HO305 := n4_; have HB := n5_; clear n0_ n1_ n2_ n3_ n4_ n5_; (try clear hb); (try clear hb2); (try clear hk); (try clear hi); (try clear ho0)))
                     (try simp only [Act.put, List.setIfInBounds_toArray, List.set_cons_zero, List.set_cons_succ])
                     go_cut [125] (fun v125 wc => ∃ (kq : Nat) (x125_61 : Bool), v125 = .bool x125_61 ∧ Aside0 (laws_FnExactSnapshotOf.j2 kq t294 t293 x125_61 = some r) ∧ Aside0 (kq ≤ kj39) ∧ Aside0 (Kd.R Kd.c64 94 wc w.heap.size (fun _ => True) (.slice Ao63 t275.length co63) t294) ∧ Aside0 (Below w.heap.size w wc))
                     case first =>
                      have H := HC62.out
                      clear HC62
                      replace H := Option.bind_eq_some_iff.mp H
                      obtain ⟨t306, A710, H⟩ := H
                      replace H : (if t306 = true then (laws_FnExactSnapshotOf.j2 kj39 t294 t293 (t303 != t266)) else (none)) = some r := H
                      have A71 := Aside0.mk A710
                      clear A710
                      by_cases c72 : t306 = true
                      · subst c72
                        have H1 : (laws_FnExactSnapshotOf.j2 kj39 t294 t293 (t303 != t266)) = some r := by rw [if_pos rfl] at H; exact H
                        clear H
                        have H := H1
                        clear H1
                        as_aux_lemma =>
                         have H' := Aside0.mk H
                         clear H
                         obtain ⟨Ao73, co73, eo73⟩ := Kd.R_slice HO305.out
                         subst eo73
                         obtain ⟨Ao74, co74, eo74⟩ := Kd.R_slice HO_12.out
                         subst eo74
                         go_wp2_with (first | ((with_reducible refine gate_callee (f := 27) rfl ?_); refine goesL_ (some 119) rfl rfl Try.func27 (by kernel_rfl) rfl #[.slice Ao73 t302.length co73, .slice Ao74 t265.length co74] rfl (by (try simp only [List.map_toArray, List.map_cons, List.map_nil]); first | done | rfl | (simp only [List.length_drop, List.length_take]; rfl)) ?_; (with_reducible refine (laws_eqComplex64S.calls _ _ t302 _ _ t265 true _ ?side1 ?side2 ?side3 ?side4 A71.out).mono ?_); (case side1 => repeat (first | exact (Kd.R_reads' HO305.out).2.2 | (with_reducible refine Kd.C_alloc ?_ _) | (with_reducible refine Kd.C_drewN ?_ _) | (with_reducible refine Kd.C_drew ?_))); (case side2 => exact (Kd.R_reads' HO305.out).2.1); (case side3 => repeat (first | exact (Kd.R_reads' HO_12.out).2.2 | (with_reducible refine Kd.C_alloc ?_ _) | (with_reducible refine Kd.C_drewN ?_ _) | (with_reducible refine Kd.C_drew ?_))); (case side4 => exact (Kd.R_reads' HO_12.out).2.1); rintro e w' ⟨rfl, ⟨nd, rfl⟩⟩; refine ⟨_, rfl, ?_⟩))
                         go_meet
                         case rel => exact ⟨_, ((t303 != t266)), (by first | rfl | (simp; done) | (simp [*]; done)), H', ⟨by have := HJ15.out; have := HJ39.out; first | omega | exact Nat.le_refl _⟩, ⟨by (with_reducible repeat (first | apply Kd.R_alloc | apply Kd.R_drewN | apply Kd.R_drew)); exact Kd.R_mono HO_16.out (fun _ hk => trivial)⟩, ⟨by repeat (first | (with_reducible first | exact HB.out | apply below_alloc | apply pw_below_drewN | apply below_drew1) | exact HB.out)⟩⟩
                      · replace c72 := Bool.eq_false_iff.mpr c72
                        subst c72
                        have H1 : (none) = some r := by rw [if_neg (show ¬ (false = true) by decide)] at H; exact H
                        clear H
                        have H := H1
                        clear H1
                        exact absurd H (by simp)
                     case rest =>
                      clear HC62
                      (try clear c1); (try clear c2); (try clear p2); (try clear c3); (try clear c4); (try clear c5); (try clear c6); (try clear c7); (try clear c7b0); (try clear c9); (try clear c9b0); (try clear c12); (try clear c14); (try clear c16); (try clear c23); (try clear c24); (try clear c25); (try clear c26); (try clear c27); (try clear c28); (try clear c29); (try clear c30); (try clear c31); (try clear c32); (try clear c34); (try clear c37); (try clear c49); (try clear c49b0); (try clear c51); (try clear c54); (try clear c57); (try clear c57b0); (try clear c58); (try clear c58b0); (try clear c58b1); (try clear c64); (try clear c72); (try clear p2)
                      obtain ⟨kq, x125_61, rfl, HA, HJ61, HO_16, HB⟩ := hcut
                      have hl16_61 := (Kd.R_reads' HO_16.out).1
                      rw [hl16_61] at HO_16
                      (try simp only [hl16_61])
                      cases kq with
                      | zero => exact absurd HA.out (by simp [laws_FnExactSnapshotOf.j2])
                      | succ kj61 =>
                       have H := HA.out
                       clear HA
                       simp only [laws_FnExactSnapshotOf.j2] at H
                       by_cases c75 : x125_61 = true
                       · subst c75
                         have H1 : (none) = some r := by rw [if_pos rfl] at H; exact H
                         clear H
                         have H := H1
                         clear H1
                         exact absurd H (by simp)
                       · replace c75 := Bool.eq_false_iff.mpr c75
                         subst c75
                         have H1 : ((laws_heldComplex64S.f kj61 t294 1).bind fun t307 => (if t307 < 0 then (none) else (if t307 = t293 then (some true) else (none)))) = some r := by rw [if_neg (show ¬ (false = true) by decide)] at H; exact H
                         clear H
                         have H := H1
                         clear H1
                         replace H := Option.bind_eq_some_iff.mp H
                         obtain ⟨t307, A760, H⟩ := H
                         replace H : (if t307 < 0 then (none) else (if t307 = t293 then (some true) else (none))) = some r := H
                         have A76 := Aside0.mk A760
                         clear A760
                         by_cases c77 : t307 < 0
                         · rw [if_pos c77] at H
                           exact absurd H (by simp)
                         · rw [if_neg c77] at H
                           have c77b0 : decide (t307 < 0) = false := decide_eq_false c77
                           clear c77
                           by_cases c78 : t307 = t293
                           · rw [if_pos c78] at H
                             have c78b0 : (t307 == t293) = true := beq_iff_eq.mpr c78
                             have c78b1 : (t307 != t293) = false := bne_eq_false_iff_eq.mpr c78
                             clear c78
                             as_aux_lemma =>
                              obtain rfl := Option.some.inj H
                              go_wp2_with (first | ((with_reducible refine gate_callee (f := 32) rfl ?_); refine goesL_ (some 128) rfl rfl Try.func32 (by kernel_rfl) rfl #[.slice Ao63 t294.length co63, .int .i64 1] rfl (by (try simp only [List.map_toArray, List.map_cons, List.map_nil]); first | done | rfl | (simp only [List.length_drop, List.length_take]; rfl)) ?_; (with_reducible refine (laws_heldComplex64S.calls kj61 _ _ t294 1 t307 _ ?side1 ?side2 A76.out).mono ?_); (case side1 => repeat (first | exact (Kd.R_reads' HO_16.out).2.2 | (with_reducible refine Kd.C_alloc ?_ _) | (with_reducible refine Kd.C_drewN ?_ _) | (with_reducible refine Kd.C_drew ?_))); (case side2 => exact (Kd.R_reads' HO_16.out).2.1); rintro e w79 ⟨rfl, hb⟩; refine ⟨_, rfl, ?_⟩; have n0_ := Aside0.mk (Kd.R_below (by (with_reducible repeat (first | apply Kd.R_alloc | apply Kd.R_drewN | apply Kd.R_drew)); exact HO_16.out) hb); have n1_ := Aside0.mk (below_step (by repeat (first | (with_reducible first | exact HB.out | apply below_alloc | apply pw_below_drewN | apply below_drew1) | exact HB.out)) hb); clear HO_16; clear HB; have HO_16 := n0_; have HB := n1_; clear n0_ n1_; (try clear hb); (try clear hb2); (try clear hk); (try clear hi)))
                              go_ret
                              exact ⟨by first | rfl | (simp [errW_none, errW_some] <;> rfl) | (simp [*, errW_none, errW_some] <;> rfl), by repeat (first | (with_reducible first | exact HB.out | apply below_alloc | apply pw_below_drewN | apply below_drew1) | exact HB.out)⟩
                           · rw [if_neg c78] at H
                             exact absurd H (by simp)
                   · rw [if_neg c58] at H
                     exact absurd H (by simp)
           · replace c37 := Bool.eq_false_iff.mpr c37
             subst c37
             have H1 : (none) = some r := by rw [if_neg (show ¬ (false = true) by decide)] at H; exact H
             clear H
             have H := H1
             clear H1
             exact absurd H (by simp)
         · replace c34 := Bool.eq_false_iff.mpr c34
           subst c34
           have H1 : (none) = some r := by rw [if_neg (show ¬ (false = true) by decide)] at H; exact H
           clear H
           have H := H1
           clear H1
           exact absurd H (by simp)

end Go.Proofs.Ytncckihaacceaaa.S
