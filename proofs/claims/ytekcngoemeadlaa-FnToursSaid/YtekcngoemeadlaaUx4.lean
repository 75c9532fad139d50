/-
  Contracts of the program's functions, each a plain Lean function beside the machine's call: written by this session's program over the kit's print.
-/
import Derived.Test.YtekcngoemeadlaaUx0
import Derived.Test.YtekcngoemeadlaaUx1
import Derived.Test.YtekcngoemeadlaaUx2
namespace Go.Proofs.Ytekcngoemeadlaa.U
open Go.RowKit Go.Proofs.YtekcngoemeadlaaW.PrintWords Go.Proofs.YtekcngoemeadlaaW.PrintLast Go.Proofs.YtekcngoemeadlaaW.PrintMore
attribute [local go_sem] max2_int min2_int max_two min_two max_three min_three max_four min_four   -- for this text's walks alone
set_option linter.unusedVariables false
set_option linter.unusedSimpArgs false

/-! ### impl_ShortestTour: function 35 -/
-- rounds
theorem sinfo2 : (Try.prog.info? 2).map (fun i => (i.zero, i.size, i.bytes)) = some (some (.int .i64 0), 1, 8) := by kernel_rfl
/-! The orders that begin with some indices, in lexicographical order; the best of them, one after another. -/
def ordersF (n : Nat) : Nat → List Int → List (List Int)
  | 0, o => [o]
  | m + 1, o => (List.range n).flatMap fun (i : Nat) => if o.contains (i : Int) then [] else ordersF n m (o ++ [(i : Int)])
def ostep (k : Nat) (dirs : List S26) (st : List Int × Int) (o : List Int) : Option (List Int × Int) :=
  (impl_tourTicks.f k dirs o).bind fun t => if st.2 < 0 then some (o, t) else if t < st.2 then some (o, t) else some st
theorem ostep_mono (k : Nat) (dirs : List S26) (st : List Int × Int) (o : List Int) : LeO (ostep k dirs st o) (ostep (k + 1) dirs st o) := LeO.bind (impl_tourTicks.mono dirs o k) (fun _ => LeO.refl _)
theorem ofold_mono (k : Nat) (dirs : List S26) : ∀ (l : List (List Int)) (st : List Int × Int), LeO (l.foldlM (ostep k dirs) st) (l.foldlM (ostep (k + 1) dirs) st)
  | [], _ => LeO.refl _
  | o :: l, st => by
    rw [List.foldlM_cons, List.foldlM_cons]
    exact LeO.bind (ostep_mono k dirs st o) (fun st' => ofold_mono k dirs l st')
theorem index_has (l : List Int) (a : Int) (hn : l.length ≤ 1000) : ∀ (d k i : Nat), i + d = l.length → d < k → ∃ r, slices_Index_int64_int64.l0 k l a (l.length : Int) (i : Int) = some r ∧ decide (0 ≤ r) = (l.drop i).contains a := by
  intro d
  induction d with
  | zero =>
    intro k i hi hk
    obtain ⟨k, rfl⟩ : ∃ m, k = m + 1 := ⟨k - 1, by omega⟩
    refine ⟨-1, ?_, ?_⟩
    · simp only [slices_Index_int64_int64.l0]
      rw [if_neg (by omega)]
    · rw [List.drop_of_length_le (by omega)]; rfl
  | succ d ih =>
    intro k i hi hk
    obtain ⟨k, rfl⟩ : ∃ m, k = m + 1 := ⟨k - 1, by omega⟩
    have hlt : i < l.length := by omega
    have hrd : rd l (i : Int) = l[i] := by simp [rd, List.getD_eq_getElem?_getD, List.getElem?_eq_getElem hlt]
    simp only [slices_Index_int64_int64.l0]
    rw [if_pos (by omega), if_pos (by omega), if_pos (by omega), hrd, List.drop_eq_getElem_cons hlt]
    by_cases he : a = l[i]
    · rw [if_pos he]
      refine ⟨_, rfl, ?_⟩
      rw [List.contains_cons, he, beq_self_eq_true, Bool.true_or]
      exact decide_eq_true (by omega)
    · rw [if_neg he, show wrap64 ((i : Int) + 1) = ((i + 1 : Nat) : Int) by unfold wrap64; omega]
      obtain ⟨r, h1, h2⟩ := ih k (i + 1) (by omega) (by omega)
      exact ⟨r, h1, by rw [h2, List.contains_cons, beq_false_of_ne he, Bool.false_or]⟩
theorem contains_has (l : List Int) (a : Int) (hn : l.length ≤ 1000) : slices_Contains_int64_int64.f 1001 l a = some (l.contains a) := by
  obtain ⟨r, h1, h2⟩ := index_has l a hn l.length 1001 0 (by omega) (by omega)
  unfold slices_Contains_int64_int64.f slices_Index_int64_int64.f
  have h1' : slices_Index_int64_int64.l0 1001 l a (l.length : Int) 0 = some r := h1
  rw [h1']
  simp only [Option.bind_some]
  show some (decide (0 ≤ r)) = _
  rw [h2, List.drop_zero]
/-- Only two blocks have turned. -/
structure Two (Bl Bb : Nat) (W W' : World) : Prop where
  os : W'.os = W.os
  tape : W'.tape = W.tape
  output : W'.output = W.output
  size : W.heap.size ≤ W'.heap.size
  block : ∀ k, k < W.heap.size → k ≠ Bl → k ≠ Bb → W'.heap[k]? = W.heap[k]?
theorem Two.refl (Bl Bb : Nat) (W : World) : Two Bl Bb W W := ⟨rfl, rfl, rfl, Nat.le_refl _, fun _ _ _ _ => rfl⟩
theorem Two.trans {Bl Bb : Nat} {W W1 W2 : World} (h : Two Bl Bb W W1) (k : Two Bl Bb W1 W2) : Two Bl Bb W W2 :=
  ⟨k.os.trans h.os, k.tape.trans h.tape, k.output.trans h.output, Nat.le_trans h.size k.size, fun j hj h1 h2 => (k.block j (Nat.lt_of_lt_of_le hj h.size) h1 h2).trans (h.block j hj h1 h2)⟩
theorem Two.of_below {Bl Bb : Nat} {W W1 : World} (h : Below W.heap.size W W1) : Two Bl Bb W W1 := ⟨h.os, h.tape, h.output, h.size, fun j hj _ _ => h.block j hj⟩
theorem Two.setL {Bl Bb : Nat} {W W1 : World} (h : Two Bl Bb W W1) (u : Value) : Two Bl Bb W (W1.setCell ⟨Bl, 0, none⟩ u) :=
  ⟨h.os, h.tape, h.output, by simpa [World.setCell] using h.size, fun j hj h1 h2 => (Below.heap_setCell W1 _ u j h1).trans (h.block j hj h1 h2)⟩
theorem Two.setB {Bl Bb : Nat} {W W1 : World} (h : Two Bl Bb W W1) (u : Value) : Two Bl Bb W (W1.setCell ⟨Bb, 0, none⟩ u) :=
  ⟨h.os, h.tape, h.output, by simpa [World.setCell] using h.size, fun j hj h1 h2 => (Below.heap_setCell W1 _ u j h2).trans (h.block j hj h1 h2)⟩
theorem Two.below {Bl Bb : Nat} {w W W1 : World} (h : Two Bl Bb W W1) (hb : Below w.heap.size w W) (h1 : w.heap.size ≤ Bl) (h2 : w.heap.size ≤ Bb) (hw : w.heap.size ≤ W.heap.size) : Below w.heap.size w W1 :=
  ⟨h.os.trans hb.os, h.tape.trans hb.tape, h.output.trans hb.output, Nat.le_trans hb.size h.size, fun j hj => (h.block j (by omega) (by omega) (by omega)).trans (hb.block j hj)⟩
/-- What the closure has captured: the directions, the least ticks, the best order. -/
structure TS (w : World) (Bd Bl Bb : Nat) (A : Option Addr) (c : Nat) (dirs : List S26) (W : World) (st : List Int × Int) : Prop where
  low : Below w.heap.size w W
  d : W.heap[Bd]? = some (.cells #[.slice A dirs.length c] 44 (0, 0))
  l : W.heap[Bl]? = some (.cells #[.int .i64 st.2] 2 (0, 0))
  b : ∃ vb, W.heap[Bb]? = some (.cells #[vb] 41 (0, 0)) ∧ Kd.R (Kd.int .i64) 2 W w.heap.size (fun k => k ≠ Bl ∧ k ≠ Bb) vb st.1
  nd : Bd ≠ Bl ∧ Bd ≠ Bb ∧ Bl ≠ Bb
  hw : w.heap.size ≤ Bl ∧ w.heap.size ≤ Bb
theorem TS.below {w : World} {Bd Bl Bb : Nat} {A : Option Addr} {c : Nat} {dirs : List S26} {W W1 : World} {st : List Int × Int} (h : TS w Bd Bl Bb A c dirs W st) (hb : Below W.heap.size W W1) : TS w Bd Bl Bb A c dirs W1 st := by
  obtain ⟨vb, hB, hR⟩ := h.b
  exact ⟨below_step h.low hb, blk_below h.d hb, blk_below h.l hb, ⟨vb, blk_below hB hb, Kd.R_below hR hb⟩, h.nd, h.hw⟩
theorem row_two {Bl Bb base : Nat} {W W1 : World} {v : Value} {xs : List Int} (h : Kd.R (Kd.int .i64) 2 W base (fun k => k ≠ Bl ∧ k ≠ Bb) v xs) (ht : Two Bl Bb W W1) : Kd.R (Kd.int .i64) 2 W1 base (fun k => k ≠ Bl ∧ k ≠ Bb) v xs :=
  Kd.R_step h fun k hk hlt => ht.block k hlt hk.1 hk.2
theorem ints_of_C {w : World} {A : Option Addr} {n : Nat} {xs : List Int} (h : Kd.C (Kd.int .i64) w A n xs) : ReadsInt w .i64 A n xs := by
  refine ⟨h.1, h.2.1, fun hn => ?_⟩
  obtain ⟨ad, e, hc⟩ := h.2.2 hn
  refine ⟨ad, e, fun j hj => ?_⟩
  have hl : j < xs.length := by rw [h.1]; exact hj
  obtain ⟨cs, _, hk, hcell⟩ := hc j _ (List.getElem?_eq_getElem hl)
  have hk' : cs = [.int .i64 xs[j]] := hk
  subst hk'
  have := hcell 0 _ rfl
  simpa [Kd.int, Kd.scalar, List.getD_eq_getElem?_getD, List.getElem?_eq_getElem hl] using this
/-- Behind the two stores. -/
theorem told_new {w : World} {Bd Bl Bb : Nat} {A : Option Addr} {c : Nat} {dirs : List S26} {w1 w2 : World} {st : List Int × Int} {v : Value} {order : List Int} {t : Int} (h : TS w Bd Bl Bb A c dirs w1 st)
    (ho : w2.ownsRow w1.heap.size 2 1 v ([] ++ order).length (nums .i64 ([] ++ order))) (hb : Below w1.heap.size w1 w2) :
    TS w Bd Bl Bb A c dirs ((w2.setCell ⟨Bb, 0, none⟩ v).setCell ⟨Bl, 0, none⟩ (.int .i64 t)) (order, t) := by
  obtain ⟨vb, hB, hR⟩ := h.b
  have lB := blk_lt hB
  have lL := blk_lt h.l
  have hB2 := blk_below hB hb
  have hL2 := blk_below h.l hb
  have hD2 := blk_below h.d hb
  have hlow := below_step h.low hb
  obtain ⟨n1, n2, n3⟩ := h.nd
  refine ⟨(hlow.setCell (p := ⟨Bb, 0, none⟩) h.hw.2 _).setCell (p := ⟨Bl, 0, none⟩) h.hw.1 _, blk_far (blk_far hD2 (p := ⟨Bb, 0, none⟩) n2 _) (p := ⟨Bl, 0, none⟩) n1 _, blk_set (blk_far hL2 (p := ⟨Bb, 0, none⟩) n3 _) 0 _, ⟨v, blk_far (blk_set hB2 0 v) (p := ⟨Bl, 0, none⟩) (fun e => n3 e.symm) _, ?_⟩, h.nd, h.hw⟩
  have hle := h.low.size
  have r1 : Kd.R (Kd.int .i64) 2 w2 w1.heap.size (fun k => k ≠ Bl ∧ k ≠ Bb) v order := by
    have := Kd.R_of_own (enc := fun x => .int .i64 x) (h1 := fun _ => rfl) (ok := fun k => k ≠ Bl ∧ k ≠ Bb) (xs := [] ++ order) ho (fun k hk => by
      have := own_base ho k hk
      omega)
    exact this
  have r2 := Kd.R_lower r1 hle
  exact Kd.R_far (Kd.R_far r2 (p := ⟨Bb, 0, none⟩) (fun k hk => hk.2) v) (p := ⟨Bl, 0, none⟩) (fun k hk => hk.1) _
set_option maxRecDepth 100000 in
set_option maxHeartbeats 2000000 in
theorem tell_1 (w : World) (Bd Bl Bb : Nat) (A : Option Addr) (c : Nat) (dirs : List S26) (hr : Kd.C k26 w A dirs.length dirs) (hc : dirs.length ≤ c) (k : Nat) (W : World) (st st' : List Int × Int) (vo : Value) (order : List Int) (hol : order.length ≤ 1000)
    (hT : TS w Bd Bl Bb A c dirs W st) (hR : Kd.R (Kd.int .i64) 2 W w.heap.size (fun k => k ≠ Bl ∧ k ≠ Bb) vo order) (h : ostep k dirs st order = some st') :
    Calls Try.prog 75 #[vo, .pointer (some ⟨Bd, 0, none⟩), .pointer (some ⟨Bl, 0, none⟩), .pointer (some ⟨Bb, 0, none⟩)] W fun e w' => e = .returned (.tuple #[]) ∧ TS w Bd Bl Bb A c dirs w' st' ∧ Two Bl Bb W w' := by
  obtain ⟨Ao, co, rfl, hlo, hCo⟩ := Kd.R_reads hR
  obtain ⟨t, ht, h⟩ := Option.bind_eq_some_iff.mp h
  have HT := Aside0.mk hT
  have HR := Aside0.mk hR
  have HCo := Aside0.mk hCo
  have Ht := Aside0.mk ht
  have HD := Aside0.mk (Kd.C_below hr hT.low)
  have q1 := blk_cell hT.d 0
  clear hT hR hCo ht
  obtain ⟨b0, s0⟩ := st
  by_cases c1 : s0 < 0
  · rw [if_pos c1] at h
    obtain rfl := Option.some.inj h
    clear h
    go_enter Try.func75, Try.ntmps75
    go_wp2_with fail
    refine (impl_tourTicks.calls k A c dirs Ao co order t W HD.out hc HCo.out hlo Ht.out).mono ?_
    rintro e w1 ⟨rfl, hb⟩
    have HT1 := Aside0.mk (HT.out.below hb)
    have HR1 := Aside0.mk (Kd.R_below HR.out hb)
    have HI1 := Aside0.mk (ints_of_C (Kd.C_below HCo.out hb))
    have H2 := Aside0.mk (Two.of_below (Bl := Bl) (Bb := Bb) hb)
    clear hb
    obtain ⟨vb, hB, hRb⟩ := HT1.out.b
    have q2 := blk_cell HT1.out.l 0
    have q3 := blk_cell hB 0
    have f2 := blk_frozen HT1.out.l 0
    have f3 := blk_frozen hB 0
    have c1b : decide (s0 < 0) = true := decide_eq_true c1
    have HB := Aside0.mk hB
    clear hB hRb
    go_wp2_with (at_builtin; refine print_append_row (w0 := w1) w1.heap.size rfl (.tmp 16) (.tmp 17) 41 2 .i64 8 rfl Try.underlying41 sinfo2 (by omega) _ [] order Ao order.length co rfl rfl (own_lit w1 w1.heap.size 2 .i64 [] (Nat.le_refl _) (by simp)) (by exact HI1.out.below ((Below.refl _ _).alloc (Nat.le_refl _) _)) (below_alloc (Below.refl _ _) _) (by simp) (by simp; omega) ?_; intro v2 w2 hown2 hb2 hg2 hat2; obtain ⟨A2, c2, hv2⟩ := own_slice hown2; subst hv2; have HO2 := Aside0.mk hown2; have HB2 := Aside0.mk hb2; have HA2 := Aside0.mk hat2; have q2' := blk_cell (blk_below HT1.out.l hb2) 0; have q3' := blk_cell (blk_below HB.out hb2) 0; have f2' := blk_frozen (blk_below HT1.out.l hb2) 0; have f3' := blk_frozen (blk_below HB.out hb2) 0; have q4' := blk_cell (blk_far (blk_below HT1.out.l hb2) (p := ⟨Bb, 0, none⟩) HT1.out.nd.2.2 (Value.slice A2 order.length c2)) 0; have f4' := blk_frozen (blk_far (blk_below HT1.out.l hb2) (p := ⟨Bb, 0, none⟩) HT1.out.nd.2.2 (Value.slice A2 order.length c2)) 0; clear hown2 hb2 hg2 hat2)
    go_end0
    exact ⟨rfl, told_new HT1.out HO2.out HB2.out, Two.trans H2.out ((((Two.of_below HB2.out).setB _).setL _))⟩
  · rw [if_neg c1] at h
    have c1b : decide (s0 < 0) = false := decide_eq_false c1
    by_cases c2 : t < s0
    · rw [if_pos c2] at h
      obtain rfl := Option.some.inj h
      clear h c1
      have c2b : decide (t < s0) = true := decide_eq_true c2
      go_enter Try.func75, Try.ntmps75
      go_wp2_with fail
      refine (impl_tourTicks.calls k A c dirs Ao co order t W HD.out hc HCo.out hlo Ht.out).mono ?_
      rintro e w1 ⟨rfl, hb⟩
      have HT1 := Aside0.mk (HT.out.below hb)
      have HR1 := Aside0.mk (Kd.R_below HR.out hb)
      have HI1 := Aside0.mk (ints_of_C (Kd.C_below HCo.out hb))
      have H2 := Aside0.mk (Two.of_below (Bl := Bl) (Bb := Bb) hb)
      clear hb
      obtain ⟨vb, hB, hRb⟩ := HT1.out.b
      have q2 := blk_cell HT1.out.l 0
      have q3 := blk_cell hB 0
      have f2 := blk_frozen HT1.out.l 0
      have f3 := blk_frozen hB 0
      have HB := Aside0.mk hB
      clear hB hRb
      go_wp2_with (at_builtin; refine print_append_row (w0 := w1) w1.heap.size rfl (.tmp 16) (.tmp 17) 41 2 .i64 8 rfl Try.underlying41 sinfo2 (by omega) _ [] order Ao order.length co rfl rfl (own_lit w1 w1.heap.size 2 .i64 [] (Nat.le_refl _) (by simp)) (by exact HI1.out.below ((Below.refl _ _).alloc (Nat.le_refl _) _)) (below_alloc (Below.refl _ _) _) (by simp) (by simp; omega) ?_; intro v2 w2 hown2 hb2 hg2 hat2; obtain ⟨A2, c2, hv2⟩ := own_slice hown2; subst hv2; have HO2 := Aside0.mk hown2; have HB2 := Aside0.mk hb2; have HA2 := Aside0.mk hat2; have q2' := blk_cell (blk_below HT1.out.l hb2) 0; have q3' := blk_cell (blk_below HB.out hb2) 0; have f2' := blk_frozen (blk_below HT1.out.l hb2) 0; have f3' := blk_frozen (blk_below HB.out hb2) 0; have q4' := blk_cell (blk_far (blk_below HT1.out.l hb2) (p := ⟨Bb, 0, none⟩) HT1.out.nd.2.2 (Value.slice A2 order.length c2)) 0; have f4' := blk_frozen (blk_far (blk_below HT1.out.l hb2) (p := ⟨Bb, 0, none⟩) HT1.out.nd.2.2 (Value.slice A2 order.length c2)) 0; clear hown2 hb2 hg2 hat2)
      go_end0
      exact ⟨rfl, told_new HT1.out HO2.out HB2.out, Two.trans H2.out ((((Two.of_below HB2.out).setB _).setL _))⟩
    · rw [if_neg c2] at h
      obtain rfl := Option.some.inj h
      clear h c1
      have c2b : decide (t < s0) = false := decide_eq_false c2
      go_enter Try.func75, Try.ntmps75
      go_wp2_with fail
      refine (impl_tourTicks.calls k A c dirs Ao co order t W HD.out hc HCo.out hlo Ht.out).mono ?_
      rintro e w1 ⟨rfl, hb⟩
      have HT1 := Aside0.mk (HT.out.below hb)
      have HR1 := Aside0.mk (Kd.R_below HR.out hb)
      have HI1 := Aside0.mk (ints_of_C (Kd.C_below HCo.out hb))
      have H2 := Aside0.mk (Two.of_below (Bl := Bl) (Bb := Bb) hb)
      clear hb
      obtain ⟨vb, hB, hRb⟩ := HT1.out.b
      have q2 := blk_cell HT1.out.l 0
      have q3 := blk_cell hB 0
      have f2 := blk_frozen HT1.out.l 0
      have f3 := blk_frozen hB 0
      go_wp2
      go_end0
      exact ⟨rfl, HT1.out, H2.out⟩
section
variable {P : Program} {ops : Array Oper} {rest : List Oper} {o : Oper} {a : Act} {Q : Exit → Act → World → Prop}
/-- 'append(xs[:n:n], y)': always a new row. -/
theorem append_full {W : World} (hgd : o.guard = none) (s x : Operand) (t e : TypeId) (k : IntKind)
    (ho : o.op = .call { callee := .builtin .append, args := #[s, x], argTypes := #[t, t] })
    (ht : P.underlying t = some (.slice e)) (hinfo : (P.info? e).map (fun i => (i.zero, i.size, i.bytes)) = some (some (.int k 0), 1, 8))
    (A : Option Addr) (xs : List Int) (y : Int) (n : Nat) (hs : a.eval s = .slice A n n) (hx : a.eval x = .slice (some ⟨W.heap.size, 0, none⟩) 1 1) (hn : n = xs.length) (h1 : 1 ≤ n)
    (HR : ReadsInt W k A n xs) (hl : xs.length ≤ 1000)
    (h : ∀ v1 w1, w1.ownsRow (W.alloc (.cells #[.int k y] e)).heap.size e 1 v1 (n + 1) (nums k (xs ++ [y])) → (W.alloc (.cells #[.int k y] e)).grownBy w1 none → wpList P ops Q rest (a.put o.dst v1) w1) :
    wpList P ops Q (o :: rest) a (W.alloc (.cells #[.int k y] e)) := by
  obtain ⟨i0, hi, hzz⟩ := Option.map_eq_some_iff.1 hinfo
  simp only [Prod.mk.injEq] at hzz
  obtain ⟨hz0, hz1, hz2⟩ := hzz
  obtain ⟨ad, rfl, hcell⟩ := HR.2.2 (by omega)
  have hb := (Below.refl W.heap.size W).alloc (Nat.le_refl _) (.cells #[.int k y] e)
  refine wpList_append_grows _ hgd s x t ho e i0 (.int k 0) 1 8 ht hi hz0 hz1 hz2 rfl (by decide) (some ad) n n (nums k xs) hs (fun h => by cases h) (by rw [nums_length]; omega) (fun b hb' j u hu => ?_) ⟨W.heap.size, 0, none⟩ 1 1 [.int k y] hx rfl (fun j u hu => ?_) (fun u hu => by simp at hu; subst hu; rfl) (by omega) (by simp only [maxLen]; omega) (by omega) (fun v1 w1 h2 h3 => h v1 w1 (by rw [nums_append]; exact h2) h3)
  · injection hb' with hb'
    subst hb'
    have hj : j < xs.length := by
      have := (List.getElem?_eq_some_iff.1 hu).1
      rw [nums_length] at this
      exact this
    have hc := hcell j (by omega)
    simp [nums, List.getElem?_eq_getElem hj] at hu
    subst hu
    have := pw_cell_below hb hc
    simpa [List.getD_eq_getElem?_getD, List.getElem?_eq_getElem hj] using this
  · match j, hu with
    | 0, hu =>
      simp at hu
      subst hu
      exact (blk_cell (blk_new W _) 0).trans rfl
    | j + 1, hu => simp at hu
end
theorem row_new {w : World} {Bd Bl Bb : Nat} {A : Option Addr} {c : Nat} {dirs : List S26} {W W1 w1 : World} {st : List Int × Int} {v : Value} {n : Nat} {xs : List Int} (h : TS w Bd Bl Bb A c dirs W st)
    (hs : W.heap.size ≤ W1.heap.size) (ho : w1.ownsRow W1.heap.size 2 1 v n (nums .i64 xs)) : Kd.R (Kd.int .i64) 2 w1 w.heap.size (fun k => k ≠ Bl ∧ k ≠ Bb) v xs := by
  have hl : xs.length = n := by have := ho.1; simp [nums] at this; exact this
  subst hl
  obtain ⟨vb, hB, _⟩ := h.b
  have lB := blk_lt hB
  have lL := blk_lt h.l
  have r1 : Kd.R (Kd.int .i64) 2 w1 W1.heap.size (fun k => k ≠ Bl ∧ k ≠ Bb) v xs :=
    Kd.R_of_own (enc := fun x => .int .i64 x) (h1 := fun _ => rfl) ho (fun k hk => by
      have := own_base ho k hk
      omega)
  have := h.low.size
  exact Kd.R_lower r1 (by omega)
/-- What eachOrder leaves. -/
def EachPost (w : World) (Bd Bl Bb : Nat) (A : Option Addr) (c : Nat) (dirs : List S26) (W : World) (st' : List Int × Int) (e : Ending) (w' : World) : Prop := e = .returned (.tuple #[]) ∧ TS w Bd Bl Bb A c dirs w' st' ∧ Two Bl Bb W w'
def ordNext (n m : Nat) (o : List Int) (i : Nat) : List (List Int) := if o.contains (i : Int) then [] else ordersF n m (o ++ [(i : Int)])
theorem ordersF_succ (n m : Nat) (o : List Int) : ordersF n (m + 1) o = (List.range n).flatMap (ordNext n m o) := rfl
def RestIs (k : Nat) (dirs : List S26) (n m : Nat) (o : List Int) (i : Nat) (st st' : List Int × Int) : Prop := (((List.range n).drop i).flatMap (ordNext n m o)).foldlM (ostep k dirs) st = some st'
theorem RestIs.next {k : Nat} {dirs : List S26} {n m : Nat} {o : List Int} {i : Nat} {st st' : List Int × Int} (h : RestIs k dirs n m o i st st') (hi : i < n) :
    ∃ st1, (ordNext n m o i).foldlM (ostep k dirs) st = some st1 ∧ RestIs k dirs n m o (i + 1) st1 st' := by
  unfold RestIs at h
  rw [List.drop_eq_getElem_cons (by simpa using hi), List.flatMap_cons, List.foldlM_append] at h
  obtain ⟨st1, h1, h2⟩ := Option.bind_eq_some_iff.mp h
  refine ⟨st1, ?_, h2⟩
  simpa using h1
theorem RestIs.last {k : Nat} {dirs : List S26} {n m : Nat} {o : List Int} {st st' : List Int × Int} (h : RestIs k dirs n m o n st st') : st = st' := by
  unfold RestIs at h
  rw [List.drop_of_length_le (by simp)] at h
  simpa using h
set_option maxRecDepth 100000 in
set_option maxHeartbeats 4000000 in
theorem eachOrder_1 (w : World) (Bd Bl Bb : Nat) (A : Option Addr) (c : Nat) (dirs : List S26) (hr : Kd.C k26 w A dirs.length dirs) (hc : dirs.length ≤ c) (k n : Nat) (hn : n ≤ 1000) : ∀ (m : Nat) (order : List Int) (_hm : order.length + m = n) (_ho : 1 ≤ order.length) (W : World) (st st' : List Int × Int) (vo : Value)
    (_hT : TS w Bd Bl Bb A c dirs W st) (_hR : Kd.R (Kd.int .i64) 2 W w.heap.size (fun k => k ≠ Bl ∧ k ≠ Bb) vo order) (_h : (ordersF n m order).foldlM (ostep k dirs) st = some st'),
    Calls Try.prog 74 #[vo, .int .i64 n, .func (.func 75) #[] #[.pointer (some ⟨Bd, 0, none⟩), .pointer (some ⟨Bl, 0, none⟩), .pointer (some ⟨Bb, 0, none⟩)]] W (EachPost w Bd Bl Bb A c dirs W st') := by
  intro m
  induction m with
  | zero =>
    intro order hm ho W st st' vo hT hR h
    have h1 : ostep k dirs st order = some st' := by simpa [ordersF] using h
    have HT := Aside0.mk (tell_1 w Bd Bl Bb A c dirs hr hc k W st st' vo order (by omega) hT hR h1)
    obtain ⟨Ao, co, rfl⟩ := Kd.R_slice hR
    have hb : ((order.length : Int) == (n : Int)) = true := beq_iff_eq.2 (by omega)
    clear h h1 hT hR
    go_enter Try.func74, Try.ntmps74
    go_wp2_with fail
    refine HT.out.mono ?_
    rintro e w1 ⟨rfl, hT1, h2⟩
    have HT1 := Aside0.mk hT1
    have H2 := Aside0.mk h2
    clear hT1 h2
    go_wp2
    refine bodyPost_ret (results_none rfl _ _ _) rfl ?_
    exact ⟨rfl, HT1.out, H2.out⟩
  | succ m ih =>
    intro order hm ho W st st' vo hT hR h
    have IH := Aside0.mk ih
    have H := Aside0.mk (show RestIs k dirs n m order 0 st st' from h)
    obtain ⟨Ao, co, rfl, hlo, hCo⟩ := Kd.R_reads hR
    have HT := Aside0.mk hT
    have HR := Aside0.mk hR
    have hb : ((order.length : Int) == (n : Int)) = false := beq_eq_false_iff_ne.2 (by omega)
    clear h hT hR hCo ih
    go_enter Try.func74, Try.ntmps74
    go_wp2
    go_loopw [15] (fun v wr => ∃ i : Nat, i ≤ n ∧ v = .int .i64 i ∧ ∃ sti, TS w Bd Bl Bb A c dirs wr sti ∧ Two Bl Bb W wr ∧ RestIs k dirs n m order i sti st') (fun v _ => n - (intOf v).toNat)
    case atStart => exact ⟨0, Nat.zero_le _, rfl, st, HT.out, Two.refl _ _ _, H.out⟩
    case round =>
      obtain ⟨i, hi, rfl, sti, hTi, h2, hrest⟩ := hrel
      by_cases hlt : i < n
      · obtain ⟨st1, hs1, hrest1⟩ := hrest.next hlt
        have HTi := Aside0.mk hTi
        have H2 := Aside0.mk h2
        have HS1 := Aside0.mk hs1
        have HN1 := Aside0.mk hrest1
        have HRi := Aside0.mk (row_two HR.out h2)
        obtain ⟨Ai, ci, hvi, hli, hCi⟩ := Kd.R_reads HRi.out
        injection hvi with e1 e2 e3
        subst e1 e3
        clear e2 hTi h2 hs1 hrest1 hrest hli
        have HCi := Aside0.mk hCi
        clear hCi
        cases hct : order.contains (i : Int)
        · have HS2 : Aside0 ((ordersF n m (order ++ [(i : Int)])).foldlM (ostep k dirs) sti = some st1) := ⟨by have := HS1.out; unfold ordNext at this; rw [hct] at this; simpa using this⟩
          have HK := Aside0.mk (show slices_Contains_int64_int64.f 1001 order (i : Int) = some false by rw [contains_has order _ (by omega), hct])
          clear hct
          go_wp2_with fail
          refine (slices_Contains_int64_int64.calls 1001 Ao co order (i : Int) false wr HCi.out (by omega) HK.out).mono ?_
          rintro e w1 ⟨rfl, ⟨⟨nd, rfl⟩⟩⟩
          have HI := Aside0.mk (ints_of_C HCi.out)
          go_wp2_with (first | (at_builtin; go_loud (refine append_full rfl (.tmp 27) (.tmp 29) 41 2 .i64 rfl Try.underlying41 sinfo2 Ao order (i : Int) order.length rfl (by first | (go_simp; done) | (go_simp; rfl)) rfl (by omega) (by exact HI.out) (by omega) ?_); intro v1 w1 hown1 hg1; have HO1 := Aside0.mk hown1; have HG1 := Aside0.mk hg1; clear hown1 hg1) | fail)
          have HB1 := Aside0.mk (((Drawn0.below (w := wr) (w' := wr.drewN nd) ⟨⟨nd, rfl⟩⟩).alloc (Nat.le_refl _) (.cells #[.int .i64 (i : Int)] 2)).grown HG1.out (by simp) (fun k hk => by cases hk))
          have HT1 := Aside0.mk (HTi.out.below HB1.out)
          have HR1 := Aside0.mk (row_new HTi.out (by simp) HO1.out)
          refine (IH.out (order ++ [(i : Int)]) (by simp; omega) (by simp) w1 sti st1 v1 HT1.out HR1.out HS2.out).mono ?_
          rintro e w2 ⟨rfl, hT2, h3⟩
          have HT2 := Aside0.mk hT2
          have H3 := Aside0.mk h3
          clear hT2 h3
          go_wp2
          go_roundw
          case rel => exact ⟨i + 1, by omega, by go_num, st1, HT2.out, H2.out.trans ((Two.of_below HB1.out).trans H3.out), HN1.out⟩
          case measure => (simp [intOf] <;> omega)
        · have HS2 : Aside0 (sti = st1) := ⟨by have := HS1.out; unfold ordNext at this; rw [hct] at this; simpa using this⟩
          have HK := Aside0.mk (show slices_Contains_int64_int64.f 1001 order (i : Int) = some true by rw [contains_has order _ (by omega), hct])
          clear hct
          go_wp2_with fail
          refine (slices_Contains_int64_int64.calls 1001 Ao co order (i : Int) true wr HCi.out (by omega) HK.out).mono ?_
          rintro e w1 ⟨rfl, ⟨⟨nd, rfl⟩⟩⟩
          go_wp2
          go_roundw
          case rel => exact ⟨i + 1, by omega, by go_num, st1, by rw [← HS2.out]; exact HTi.out.below (Drawn0.below ⟨⟨_, rfl⟩⟩), H2.out.trans (Two.of_below (Drawn0.below ⟨⟨_, rfl⟩⟩)), HN1.out⟩
          case measure => (simp [intOf] <;> omega)
      · obtain rfl : n = i := by omega
        obtain rfl := hrest.last
        have HTi := Aside0.mk hTi
        have H2 := Aside0.mk h2
        clear hTi h2 hrest
        go_wp2
        go_end0
        exact ⟨rfl, HTi.out, H2.out⟩
def impl_ShortestTour.f (k : Nat) (l0 : List (S26)) : Option (List Int × Int × Bool) := (impl_areDirections.f l0).bind fun t => if t = true then ((ordersF l0.length (l0.length - 1) [0]).foldlM (ostep k l0) ([], -1)).bind fun st => some (st.1, st.2, true) else some ([], 0, false)
theorem impl_ShortestTour.mono : ∀ a0 k, LeO (impl_ShortestTour.f k a0) (impl_ShortestTour.f (k + 1) a0) := by
  intro a0 k
  unfold impl_ShortestTour.f
  exact LeO.bind (LeO.refl _) (fun t => LeO.ite (LeO.bind (ofold_mono k a0 _ _) (fun _ => LeO.refl _)) (LeO.refl _))
theorem areDirs_len (l0 : List S26) (h : impl_areDirections.f l0 = some true) : 1 ≤ l0.length ∧ l0.length ≤ 7 := by
  unfold impl_areDirections.f impl_within.f at h
  by_cases h1 : (l0.length : Int) ≥ 1
  · rw [if_pos h1] at h
    by_cases h2 : (l0.length : Int) ≤ 7
    · omega
    · simp [h2] at h
  · rw [if_neg h1] at h
    simp at h
theorem tour_start {w w1 : World} {A0 : Option Addr} {c0 : Nat} {l0 : List S26} (hz : w.heap.size + 1 ≤ w1.heap.size) (hb : Below w.heap.size w w1) (hd : w1.heap[w.heap.size]? = some (.cells #[.slice A0 l0.length c0] 44 (0, 0))) :
    TS w w.heap.size (w1.heap.size + 1 + 1) (w1.heap.size + 1) A0 c0 l0 ((((w1.alloc (.cells #[] 2)).alloc (.cells #[.slice (some ⟨w1.heap.size, 0, none⟩) 0 0] 41)).alloc (.cells #[.int .i64 (-1)] 2)).alloc (.cells #[.int .i64 0] 2)) ([], -1) ∧
    Kd.R (Kd.int .i64) 2 ((((w1.alloc (.cells #[] 2)).alloc (.cells #[.slice (some ⟨w1.heap.size, 0, none⟩) 0 0] 41)).alloc (.cells #[.int .i64 (-1)] 2)).alloc (.cells #[.int .i64 0] 2)) w.heap.size (fun k => k ≠ w1.heap.size + 1 + 1 ∧ k ≠ w1.heap.size + 1) (.slice (some ⟨w1.heap.size + 1 + 1 + 1, 0, none⟩) 1 1) [0] := by
  have e1 : (w1.alloc (.cells #[] 2)).heap.size = w1.heap.size + 1 := by simp
  have e2 : ((w1.alloc (.cells #[] 2)).alloc (.cells #[.slice (some ⟨w1.heap.size, 0, none⟩) 0 0] 41)).heap.size = w1.heap.size + 1 + 1 := by simp
  have e3 : (((w1.alloc (.cells #[] 2)).alloc (.cells #[.slice (some ⟨w1.heap.size, 0, none⟩) 0 0] 41)).alloc (.cells #[.int .i64 (-1)] 2)).heap.size = w1.heap.size + 1 + 1 + 1 := by simp
  have hL := blk_new ((w1.alloc (.cells #[] 2)).alloc (.cells #[.slice (some ⟨w1.heap.size, 0, none⟩) 0 0] 41)) (.cells #[.int .i64 (-1)] 2)
  rw [e2] at hL
  have hB := blk_new (w1.alloc (.cells #[] 2)) (.cells #[.slice (some ⟨w1.heap.size, 0, none⟩) 0 0] 41)
  rw [e1] at hB
  have r0 := own_lit w1 w1.heap.size 2 .i64 [] (Nat.le_refl _) (by simp)
  have r1 : Kd.R (Kd.int .i64) 2 (w1.alloc (.cells #[] 2)) w1.heap.size (fun k => k ≠ w1.heap.size + 1 + 1 ∧ k ≠ w1.heap.size + 1) (.slice (some ⟨w1.heap.size, 0, none⟩) 0 0) [] :=
    Kd.R_of_own (enc := fun x => .int .i64 x) (h1 := fun _ => rfl) r0 (fun k hk => by simp [Value.ownBlock] at hk; omega)
  have s0 := own_lit (((w1.alloc (.cells #[] 2)).alloc (.cells #[.slice (some ⟨w1.heap.size, 0, none⟩) 0 0] 41)).alloc (.cells #[.int .i64 (-1)] 2)) w.heap.size 2 .i64 [0] (by omega) (by simp)
  rw [e3] at s0
  refine ⟨⟨below_alloc (below_alloc (below_alloc (below_alloc hb _) _) _) _, blk_alloc (blk_alloc (blk_alloc (blk_alloc hd _) _) _) _, blk_alloc hL _, ⟨_, blk_alloc (blk_alloc hB _) _, ?_⟩, ⟨by omega, by omega, by omega⟩, ⟨by omega, by omega⟩⟩, ?_⟩
  · exact Kd.R_lower (Kd.R_alloc (Kd.R_alloc (Kd.R_alloc r1 _) _) _) (by omega)
  · exact Kd.R_of_own (enc := fun x => .int .i64 x) (h1 := fun _ => rfl) s0 (fun k hk => by simp [Value.ownBlock] at hk; omega)
set_option maxRecDepth 100000 in
set_option maxHeartbeats 4000000 in
theorem impl_ShortestTour.calls (k : Nat) (A0 : Option Addr) (c0 : Nat) (l0 : List (S26)) (r1 : List Int) (r2 : Int) (r3 : Bool) (w : World) (hr0 : Kd.C k26 w A0 l0.length l0) (hc0 : l0.length ≤ c0) (h : impl_ShortestTour.f k l0 = some (r1, r2, r3)) :
    Calls Try.prog 35 #[.slice A0 l0.length c0] w fun e w' => ∃ v0_ : Value, e = .returned (.tuple #[v0_, .int .i64 r2, .bool r3]) ∧ Kd.R (Kd.int .i64) 2 w' w.heap.size (fun _ => True) v0_ r1 ∧ Below w.heap.size w w' := by
  have HR := Aside0.mk hr0
  clear hr0
  obtain ⟨t, ht, h⟩ := Option.bind_eq_some_iff.mp h
  have Ht := Aside0.mk ht
  have HB0 := Aside0.mk (below_alloc (Below.refl w.heap.size w) (.cells #[.slice A0 l0.length c0] 44))
  cases t
  · simp at h
    obtain ⟨rfl, rfl, rfl⟩ := h
    clear ht
    go_enter Try.func35, Try.ntmps35
    go_wp2_with fail
    refine (impl_areDirections.calls A0 c0 l0 false _ (Kd.C_below HR.out HB0.out) hc0 Ht.out).mono ?_
    rintro e w1 ⟨rfl, hb⟩
    have HB := Aside0.mk (below_step HB0.out hb)
    clear hb
    go_wp2
    go_ret3
    exact ⟨_, rfl, Kd.R_nil _ _ _ _ _, HB.out⟩
  · rw [if_pos rfl] at h
    obtain ⟨st, hst, h⟩ := Option.bind_eq_some_iff.mp h
    simp at h
    obtain ⟨rfl, rfl, rfl⟩ := h
    have hlen := areDirs_len l0 ht
    have HST := Aside0.mk hst
    clear ht hst
    go_enter Try.func35, Try.ntmps35
    go_wp2_with fail
    refine (impl_areDirections.calls A0 c0 l0 true _ (Kd.C_below HR.out HB0.out) hc0 Ht.out).mono ?_
    rintro e w1 ⟨rfl, hb⟩
    have HB := Aside0.mk (below_step HB0.out hb)
    have HD := Aside0.mk (blk_below (blk_new w (.cells #[.slice A0 l0.length c0] 44)) hb)
    have hz := hb.size
    simp only [World.size_alloc] at hz
    have q1 := blk_cell HD.out 0
    clear hb
    have q1' := blk_cell (blk_alloc (blk_alloc (blk_alloc (blk_alloc HD.out (.cells #[] 2)) (.cells #[.slice (some ⟨w1.heap.size, 0, none⟩) 0 0] 41)) (.cells #[.int .i64 (-1)] 2)) (.cells #[.int .i64 0] 2)) 0
    have H0 := Aside0.mk (tour_start (hz := hz) HB.out HD.out)
    go_wp2_with fail
    refine (eachOrder_1 w w.heap.size (w1.heap.size + 1 + 1) (w1.heap.size + 1) A0 c0 l0 HR.out hc0 k l0.length (by omega) (l0.length - 1) [0] (by simp; omega) (by simp) _ ([], -1) st _ H0.out.1 H0.out.2 HST.out).mono ?_
    rintro e w2 ⟨rfl, hT, h2⟩
    have HT := Aside0.mk hT
    obtain ⟨vb, hB, hRb⟩ := hT.b
    obtain ⟨Ab, cb, rfl⟩ := Kd.R_slice hRb
    have q2 := blk_cell hT.l 0
    have q3 := blk_cell hB 0
    have HRb := Aside0.mk (Kd.R_mono hRb (ok' := fun _ => True) (fun _ _ => trivial))
    clear hT h2 hB hRb q1 q1'
    go_wp2
    go_quiet (fail)
    go_wp2
    go_ret3
    exact ⟨_, rfl, by repeat (first | exact HRb.out | apply Kd.R_drewN | apply Kd.R_drew), by repeat (first | exact HT.out.low | apply pw_below_drewN | apply below_drew1)⟩

-- NOT PRINTED: function 78 (slices_IndexFunc_int64_int64)

end Go.Proofs.Ytekcngoemeadlaa.U
