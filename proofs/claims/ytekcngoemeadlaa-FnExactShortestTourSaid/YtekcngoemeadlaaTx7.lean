/-
  Contracts of the program's functions, each a plain Lean function beside the machine's call: written by this session's program over the kit's print.
-/
import Derived.Test.YtekcngoemeadlaaTx0
import Derived.Test.YtekcngoemeadlaaTx1
import Derived.Test.YtekcngoemeadlaaTx3
import Derived.Test.YtekcngoemeadlaaTx4
import Derived.Test.YtekcngoemeadlaaTx5
namespace Go.Proofs.Ytekcngoemeadlaa.T
open Go.RowKit Go.Proofs.YtekcngoemeadlaaW.PrintWords Go.Proofs.YtekcngoemeadlaaW.PrintLast Go.Proofs.YtekcngoemeadlaaW.PrintMore
attribute [local go_sem] max2_int min2_int max_two min_two max_three min_three max_four min_four   -- for this text's walks alone
set_option linter.unusedVariables false
set_option linter.unusedSimpArgs false

/-! ### impl_ShortestTour: function 35 -/
-- rounds
/-! The orders that begin with some indices, in lexicographical order; the best of them, one after another. -/
def ordersF (n : Nat) : Nat → List Int → List (List Int)
  | 0, o => [o]
  | m + 1, o => (List.range n).flatMap fun (i : Nat) => if o.contains (i : Int) then [] else ordersF n m (o ++ [(i : Int)])
def ostep (k : Nat) (dirs : List S26) (st : List Int × Int) (o : List Int) : Option (List Int × Int) :=
  (impl_tourTicks.f k dirs o).bind fun t => if st.2 < 0 then some (o, t) else if t < st.2 then some (o, t) else some st
theorem ostep_mono (k : Nat) (dirs : List S26) (st : List Int × Int) (o : List Int) : LeO (ostep k dirs st o) (ostep (k + 1) dirs st o) := LeO.bind (impl_tourTicks.mono dirs o k) (fun _ => LeO.refl _)
theorem ofold_mono (k : Nat) (dirs : List S26) : ∀ (l : List (List Int)) (st : List Int × Int), LeO (l.foldlM (ostep k dirs) st) (l.foldlM (ostep (k + 1) dirs) st)
  | [], _ => LeO.refl _
  | o :: l, st => by
    rw [List.foldlM_cons, List.foldlM_cons]
    exact LeO.bind (ostep_mono k dirs st o) (fun st' => ofold_mono k dirs l st')
theorem index_has (l : List Int) (a : Int) (hn : l.length ≤ 1000) : ∀ (d k i : Nat), i + d = l.length → d < k → ∃ r, slices_Index_int64_int64.l0 k l a (l.length : Int) (i : Int) = some r ∧ decide (0 ≤ r) = (l.drop i).contains a := by
  intro d
  induction d with
  | zero =>
    intro k i hi hk
    obtain ⟨k, rfl⟩ : ∃ m, k = m + 1 := ⟨k - 1, by omega⟩
    refine ⟨-1, ?_, ?_⟩
    · simp only [slices_Index_int64_int64.l0]
      rw [if_neg (by omega)]
    · rw [List.drop_of_length_le (by omega)]; rfl
  | succ d ih =>
    intro k i hi hk
    obtain ⟨k, rfl⟩ : ∃ m, k = m + 1 := ⟨k - 1, by omega⟩
    have hlt : i < l.length := by omega
    have hrd : rd l (i : Int) = l[i] := by simp [rd, List.getD_eq_getElem?_getD, List.getElem?_eq_getElem hlt]
    simp only [slices_Index_int64_int64.l0]
    rw [if_pos (by omega), if_pos (by omega), if_pos (by omega), hrd, List.drop_eq_getElem_cons hlt]
    by_cases he : a = l[i]
    · rw [if_pos he]
      refine ⟨_, rfl, ?_⟩
      rw [List.contains_cons, he, beq_self_eq_true, Bool.true_or]
      exact decide_eq_true (by omega)
    · rw [if_neg he, show wrap64 ((i : Int) + 1) = ((i + 1 : Nat) : Int) by unfold wrap64; omega]
      obtain ⟨r, h1, h2⟩ := ih k (i + 1) (by omega) (by omega)
      exact ⟨r, h1, by rw [h2, List.contains_cons, beq_false_of_ne he, Bool.false_or]⟩
theorem contains_has (l : List Int) (a : Int) (hn : l.length ≤ 1000) : slices_Contains_int64_int64.f 1001 l a = some (l.contains a) := by
  obtain ⟨r, h1, h2⟩ := index_has l a hn l.length 1001 0 (by omega) (by omega)
  unfold slices_Contains_int64_int64.f slices_Index_int64_int64.f
  have h1' : slices_Index_int64_int64.l0 1001 l a (l.length : Int) 0 = some r := h1
  rw [h1']
  simp only [Option.bind_some]
  show some (decide (0 ≤ r)) = _
  rw [h2, List.drop_zero]
/-- Only two blocks have turned. -/
structure Two (Bl Bb : Nat) (W W' : World) : Prop where
  os : W'.os = W.os
  tape : W'.tape = W.tape
  output : W'.output = W.output
  size : W.heap.size ≤ W'.heap.size
  block : ∀ k, k < W.heap.size → k ≠ Bl → k ≠ Bb → W'.heap[k]? = W.heap[k]?
theorem Two.refl (Bl Bb : Nat) (W : World) : Two Bl Bb W W := ⟨rfl, rfl, rfl, Nat.le_refl _, fun _ _ _ _ => rfl⟩
theorem Two.trans {Bl Bb : Nat} {W W1 W2 : World} (h : Two Bl Bb W W1) (k : Two Bl Bb W1 W2) : Two Bl Bb W W2 :=
  ⟨k.os.trans h.os, k.tape.trans h.tape, k.output.trans h.output, Nat.le_trans h.size k.size, fun j hj h1 h2 => (k.block j (Nat.lt_of_lt_of_le hj h.size) h1 h2).trans (h.block j hj h1 h2)⟩
theorem Two.of_below {Bl Bb : Nat} {W W1 : World} (h : Below W.heap.size W W1) : Two Bl Bb W W1 := ⟨h.os, h.tape, h.output, h.size, fun j hj _ _ => h.block j hj⟩
theorem Two.setL {Bl Bb : Nat} {W W1 : World} (h : Two Bl Bb W W1) (u : Value) : Two Bl Bb W (W1.setCell ⟨Bl, 0, none⟩ u) :=
  ⟨h.os, h.tape, h.output, by simpa [World.setCell] using h.size, fun j hj h1 h2 => (Below.heap_setCell W1 _ u j h1).trans (h.block j hj h1 h2)⟩
theorem Two.setB {Bl Bb : Nat} {W W1 : World} (h : Two Bl Bb W W1) (u : Value) : Two Bl Bb W (W1.setCell ⟨Bb, 0, none⟩ u) :=
  ⟨h.os, h.tape, h.output, by simpa [World.setCell] using h.size, fun j hj h1 h2 => (Below.heap_setCell W1 _ u j h2).trans (h.block j hj h1 h2)⟩
theorem Two.below {Bl Bb : Nat} {w W W1 : World} (h : Two Bl Bb W W1) (hb : Below w.heap.size w W) (h1 : w.heap.size ≤ Bl) (h2 : w.heap.size ≤ Bb) (hw : w.heap.size ≤ W.heap.size) : Below w.heap.size w W1 :=
  ⟨h.os.trans hb.os, h.tape.trans hb.tape, h.output.trans hb.output, Nat.le_trans hb.size h.size, fun j hj => (h.block j (by omega) (by omega) (by omega)).trans (hb.block j hj)⟩
/-- What the closure has captured: the directions, the least ticks, the best order. -/
structure TS (w : World) (Bd Bl Bb : Nat) (A : Option Addr) (c : Nat) (dirs : List S26) (W : World) (st : List Int × Int) : Prop where
  low : Below w.heap.size w W
  d : W.heap[Bd]? = some (.cells #[.slice A dirs.length c] 44 (0, 0))
  l : W.heap[Bl]? = some (.cells #[.int .i64 st.2] 2 (0, 0))
  b : ∃ vb, W.heap[Bb]? = some (.cells #[vb] 41 (0, 0)) ∧ Kd.R (Kd.int .i64) 2 W w.heap.size (fun k => k ≠ Bl ∧ k ≠ Bb) vb st.1
  nd : Bd ≠ Bl ∧ Bd ≠ Bb ∧ Bl ≠ Bb
  hw : w.heap.size ≤ Bl ∧ w.heap.size ≤ Bb
theorem TS.below {w : World} {Bd Bl Bb : Nat} {A : Option Addr} {c : Nat} {dirs : List S26} {W W1 : World} {st : List Int × Int} (h : TS w Bd Bl Bb A c dirs W st) (hb : Below W.heap.size W W1) : TS w Bd Bl Bb A c dirs W1 st := by
  obtain ⟨vb, hB, hR⟩ := h.b
  exact ⟨below_step h.low hb, blk_below h.d hb, blk_below h.l hb, ⟨vb, blk_below hB hb, Kd.R_below hR hb⟩, h.nd, h.hw⟩
theorem row_two {Bl Bb base : Nat} {W W1 : World} {v : Value} {xs : List Int} (h : Kd.R (Kd.int .i64) 2 W base (fun k => k ≠ Bl ∧ k ≠ Bb) v xs) (ht : Two Bl Bb W W1) : Kd.R (Kd.int .i64) 2 W1 base (fun k => k ≠ Bl ∧ k ≠ Bb) v xs :=
  Kd.R_step h fun k hk hlt => ht.block k hlt hk.1 hk.2
theorem ints_of_C {w : World} {A : Option Addr} {n : Nat} {xs : List Int} (h : Kd.C (Kd.int .i64) w A n xs) : ReadsInt w .i64 A n xs := by
  refine ⟨h.1, h.2.1, fun hn => ?_⟩
  obtain ⟨ad, e, hc⟩ := h.2.2 hn
  refine ⟨ad, e, fun j hj => ?_⟩
  have hl : j < xs.length := by rw [h.1]; exact hj
  obtain ⟨cs, _, hk, hcell⟩ := hc j _ (List.getElem?_eq_getElem hl)
  have hk' : cs = [.int .i64 xs[j]] := hk
  subst hk'
  have := hcell 0 _ rfl
  simpa [Kd.int, Kd.scalar, List.getD_eq_getElem?_getD, List.getElem?_eq_getElem hl] using this
/-- Behind the two stores. -/
theorem told_new {w : World} {Bd Bl Bb : Nat} {A : Option Addr} {c : Nat} {dirs : List S26} {w1 w2 : World} {st : List Int × Int} {v : Value} {order : List Int} {t : Int} (h : TS w Bd Bl Bb A c dirs w1 st)
    (ho : w2.ownsRow w1.heap.size 2 1 v ([] ++ order).length (nums .i64 ([] ++ order))) (hb : Below w1.heap.size w1 w2) :
    TS w Bd Bl Bb A c dirs ((w2.setCell ⟨Bb, 0, none⟩ v).setCell ⟨Bl, 0, none⟩ (.int .i64 t)) (order, t) := by
  obtain ⟨vb, hB, hR⟩ := h.b
  have lB := blk_lt hB
  have lL := blk_lt h.l
  have hB2 := blk_below hB hb
  have hL2 := blk_below h.l hb
  have hD2 := blk_below h.d hb
  have hlow := below_step h.low hb
  obtain ⟨n1, n2, n3⟩ := h.nd
  refine ⟨(hlow.setCell (p := ⟨Bb, 0, none⟩) h.hw.2 _).setCell (p := ⟨Bl, 0, none⟩) h.hw.1 _, blk_far (blk_far hD2 (p := ⟨Bb, 0, none⟩) n2 _) (p := ⟨Bl, 0, none⟩) n1 _, blk_set (blk_far hL2 (p := ⟨Bb, 0, none⟩) n3 _) 0 _, ⟨v, blk_far (blk_set hB2 0 v) (p := ⟨Bl, 0, none⟩) (fun e => n3 e.symm) _, ?_⟩, h.nd, h.hw⟩
  have hle := h.low.size
  have r1 : Kd.R (Kd.int .i64) 2 w2 w1.heap.size (fun k => k ≠ Bl ∧ k ≠ Bb) v order := by
    have := Kd.R_of_own (enc := fun x => .int .i64 x) (h1 := fun _ => rfl) (ok := fun k => k ≠ Bl ∧ k ≠ Bb) (xs := [] ++ order) ho (fun k hk => by
      have := own_base ho k hk
      omega)
    exact this
  have r2 := Kd.R_lower r1 hle
  exact Kd.R_far (Kd.R_far r2 (p := ⟨Bb, 0, none⟩) (fun k hk => hk.2) v) (p := ⟨Bl, 0, none⟩) (fun k hk => hk.1) _
set_option maxRecDepth 100000 in
set_option maxHeartbeats 2000000 in
theorem tell_1 (w : World) (Bd Bl Bb : Nat) (A : Option Addr) (c : Nat) (dirs : List S26) (hr : Kd.C k26 w A dirs.length dirs) (hc : dirs.length ≤ c) (k : Nat) (W : World) (st st' : List Int × Int) (vo : Value) (order : List Int) (hol : order.length ≤ 1000)
    (hT : TS w Bd Bl Bb A c dirs W st) (hR : Kd.R (Kd.int .i64) 2 W w.heap.size (fun k => k ≠ Bl ∧ k ≠ Bb) vo order) (h : ostep k dirs st order = some st') :
    Calls Try.prog 75 #[vo, .pointer (some ⟨Bd, 0, none⟩), .pointer (some ⟨Bl, 0, none⟩), .pointer (some ⟨Bb, 0, none⟩)] W fun e w' => e = .returned (.tuple #[]) ∧ TS w Bd Bl Bb A c dirs w' st' ∧ Two Bl Bb W w' := by
  obtain ⟨Ao, co, rfl, hlo, hCo⟩ := Kd.R_reads hR
  obtain ⟨t, ht, h⟩ := Option.bind_eq_some_iff.mp h
  have HT := Aside0.mk hT
  have HR := Aside0.mk hR
  have HCo := Aside0.mk hCo
  have Ht := Aside0.mk ht
  have HD := Aside0.mk (Kd.C_below hr hT.low)
  have q1 := blk_cell hT.d 0
  clear hT hR hCo ht
  obtain ⟨b0, s0⟩ := st
  by_cases c1 : s0 < 0
  · rw [if_pos c1] at h
    obtain rfl := Option.some.inj h
    clear h
    go_enter Try.func75, Try.ntmps75
    go_wp2_with fail
    refine (impl_tourTicks.calls k A c dirs Ao co order t W HD.out hc HCo.out hlo Ht.out).mono ?_
    rintro e w1 ⟨rfl, hb⟩
    have HT1 := Aside0.mk (HT.out.below hb)
    have HR1 := Aside0.mk (Kd.R_below HR.out hb)
    have HI1 := Aside0.mk (ints_of_C (Kd.C_below HCo.out hb))
    have H2 := Aside0.mk (Two.of_below (Bl := Bl) (Bb := Bb) hb)
    clear hb
    obtain ⟨vb, hB, hRb⟩ := HT1.out.b
    have q2 := blk_cell HT1.out.l 0
    have q3 := blk_cell hB 0
    have f2 := blk_frozen HT1.out.l 0
    have f3 := blk_frozen hB 0
    have c1b : decide (s0 < 0) = true := decide_eq_true c1
    have HB := Aside0.mk hB
    clear hB hRb
    go_wp2_with (at_builtin; refine print_append_row (w0 := w1) w1.heap.size rfl (.tmp 16) (.tmp 17) 41 2 .i64 8 rfl Try.underlying41 info2 (by omega) _ [] order Ao order.length co rfl rfl (own_lit w1 w1.heap.size 2 .i64 [] (Nat.le_refl _) (by simp)) (by exact HI1.out.below ((Below.refl _ _).alloc (Nat.le_refl _) _)) (below_alloc (Below.refl _ _) _) (by simp) (by simp; omega) ?_; intro v2 w2 hown2 hb2 hg2 hat2; obtain ⟨A2, c2, hv2⟩ := own_slice hown2; subst hv2; have HO2 := Aside0.mk hown2; have HB2 := Aside0.mk hb2; have HA2 := Aside0.mk hat2; have q2' := blk_cell (blk_below HT1.out.l hb2) 0; have q3' := blk_cell (blk_below HB.out hb2) 0; have f2' := blk_frozen (blk_below HT1.out.l hb2) 0; have f3' := blk_frozen (blk_below HB.out hb2) 0; have q4' := blk_cell (blk_far (blk_below HT1.out.l hb2) (p := ⟨Bb, 0, none⟩) HT1.out.nd.2.2 (Value.slice A2 order.length c2)) 0; have f4' := blk_frozen (blk_far (blk_below HT1.out.l hb2) (p := ⟨Bb, 0, none⟩) HT1.out.nd.2.2 (Value.slice A2 order.length c2)) 0; clear hown2 hb2 hg2 hat2)
    go_end0
    exact ⟨rfl, told_new HT1.out HO2.out HB2.out, Two.trans H2.out ((((Two.of_below HB2.out).setB _).setL _))⟩
  · rw [if_neg c1] at h
    have c1b : decide (s0 < 0) = false := decide_eq_false c1
    by_cases c2 : t < s0
    · rw [if_pos c2] at h
      obtain rfl := Option.some.inj h
      clear h c1
      have c2b : decide (t < s0) = true := decide_eq_true c2
      go_enter Try.func75, Try.ntmps75
      go_wp2_with fail
      refine (impl_tourTicks.calls k A c dirs Ao co order t W HD.out hc HCo.out hlo Ht.out).mono ?_
      rintro e w1 ⟨rfl, hb⟩
      have HT1 := Aside0.mk (HT.out.below hb)
      have HR1 := Aside0.mk (Kd.R_below HR.out hb)
      have HI1 := Aside0.mk (ints_of_C (Kd.C_below HCo.out hb))
      have H2 := Aside0.mk (Two.of_below (Bl := Bl) (Bb := Bb) hb)
      clear hb
      obtain ⟨vb, hB, hRb⟩ := HT1.out.b
      have q2 := blk_cell HT1.out.l 0
      have q3 := blk_cell hB 0
      have f2 := blk_frozen HT1.out.l 0
      have f3 := blk_frozen hB 0
      have HB := Aside0.mk hB
      clear hB hRb
      go_wp2_with (at_builtin; refine print_append_row (w0 := w1) w1.heap.size rfl (.tmp 16) (.tmp 17) 41 2 .i64 8 rfl Try.underlying41 info2 (by omega) _ [] order Ao order.length co rfl rfl (own_lit w1 w1.heap.size 2 .i64 [] (Nat.le_refl _) (by simp)) (by exact HI1.out.below ((Below.refl _ _).alloc (Nat.le_refl _) _)) (below_alloc (Below.refl _ _) _) (by simp) (by simp; omega) ?_; intro v2 w2 hown2 hb2 hg2 hat2; obtain ⟨A2, c2, hv2⟩ := own_slice hown2; subst hv2; have HO2 := Aside0.mk hown2; have HB2 := Aside0.mk hb2; have HA2 := Aside0.mk hat2; have q2' := blk_cell (blk_below HT1.out.l hb2) 0; have q3' := blk_cell (blk_below HB.out hb2) 0; have f2' := blk_frozen (blk_below HT1.out.l hb2) 0; have f3' := blk_frozen (blk_below HB.out hb2) 0; have q4' := blk_cell (blk_far (blk_below HT1.out.l hb2) (p := ⟨Bb, 0, none⟩) HT1.out.nd.2.2 (Value.slice A2 order.length c2)) 0; have f4' := blk_frozen (blk_far (blk_below HT1.out.l hb2) (p := ⟨Bb, 0, none⟩) HT1.out.nd.2.2 (Value.slice A2 order.length c2)) 0; clear hown2 hb2 hg2 hat2)
      go_end0
      exact ⟨rfl, told_new HT1.out HO2.out HB2.out, Two.trans H2.out ((((Two.of_below HB2.out).setB _).setL _))⟩
    · rw [if_neg c2] at h
      obtain rfl := Option.some.inj h
      clear h c1
      have c2b : decide (t < s0) = false := decide_eq_false c2
      go_enter Try.func75, Try.ntmps75
      go_wp2_with fail
      refine (impl_tourTicks.calls k A c dirs Ao co order t W HD.out hc HCo.out hlo Ht.out).mono ?_
      rintro e w1 ⟨rfl, hb⟩
      have HT1 := Aside0.mk (HT.out.below hb)
      have HR1 := Aside0.mk (Kd.R_below HR.out hb)
      have HI1 := Aside0.mk (ints_of_C (Kd.C_below HCo.out hb))
      have H2 := Aside0.mk (Two.of_below (Bl := Bl) (Bb := Bb) hb)
      clear hb
      obtain ⟨vb, hB, hRb⟩ := HT1.out.b
      have q2 := blk_cell HT1.out.l 0
      have q3 := blk_cell hB 0
      have f2 := blk_frozen HT1.out.l 0
      have f3 := blk_frozen hB 0
      go_wp2
      go_end0
      exact ⟨rfl, HT1.out, H2.out⟩
section
variable {P : Program} {ops : Array Oper} {rest : List Oper} {o : Oper} {a : Act} {Q : Exit → Act → World → Prop}
/-- 'append(xs[:n:n], y)': always a new row. -/
theorem append_full {W : World} (hgd : o.guard = none) (s x : Operand) (t e : TypeId) (k : IntKind)
    (ho : o.op = .call { callee := .builtin .append, args := #[s, x], argTypes := #[t, t] })
    (ht : P.underlying t = some (.slice e)) (hinfo : (P.info? e).map (fun i => (i.zero, i.size, i.bytes)) = some (some (.int k 0), 1, 8))
    (A : Option Addr) (xs : List Int) (y : Int) (n : Nat) (hs : a.eval s = .slice A n n) (hx : a.eval x = .slice (some ⟨W.heap.size, 0, none⟩) 1 1) (hn : n = xs.length) (h1 : 1 ≤ n)
    (HR : ReadsInt W k A n xs) (hl : xs.length ≤ 1000)
    (h : ∀ v1 w1, w1.ownsRow (W.alloc (.cells #[.int k y] e)).heap.size e 1 v1 (n + 1) (nums k (xs ++ [y])) → (W.alloc (.cells #[.int k y] e)).grownBy w1 none → wpList P ops Q rest (a.put o.dst v1) w1) :
    wpList P ops Q (o :: rest) a (W.alloc (.cells #[.int k y] e)) := by
  obtain ⟨i0, hi, hzz⟩ := Option.map_eq_some_iff.1 hinfo
  simp only [Prod.mk.injEq] at hzz
  obtain ⟨hz0, hz1, hz2⟩ := hzz
  obtain ⟨ad, rfl, hcell⟩ := HR.2.2 (by omega)
  have hb := (Below.refl W.heap.size W).alloc (Nat.le_refl _) (.cells #[.int k y] e)
  refine wpList_append_grows _ hgd s x t ho e i0 (.int k 0) 1 8 ht hi hz0 hz1 hz2 rfl (by decide) (some ad) n n (nums k xs) hs (fun h => by cases h) (by rw [nums_length]; omega) (fun b hb' j u hu => ?_) ⟨W.heap.size, 0, none⟩ 1 1 [.int k y] hx rfl (fun j u hu => ?_) (fun u hu => by simp at hu; subst hu; rfl) (by omega) (by simp only [maxLen]; omega) (by omega) (fun v1 w1 h2 h3 => h v1 w1 (by rw [nums_append]; exact h2) h3)
  · injection hb' with hb'
    subst hb'
    have hj : j < xs.length := by
      have := (List.getElem?_eq_some_iff.1 hu).1
      rw [nums_length] at this
      exact this
    have hc := hcell j (by omega)
    simp [nums, List.getElem?_eq_getElem hj] at hu
    subst hu
    have := pw_cell_below hb hc
    simpa [List.getD_eq_getElem?_getD, List.getElem?_eq_getElem hj] using this
  · match j, hu with
    | 0, hu =>
      simp at hu
      subst hu
      exact (blk_cell (blk_new W _) 0).trans rfl
    | j + 1, hu => simp at hu
end
theorem row_new {w : World} {Bd Bl Bb : Nat} {A : Option Addr} {c : Nat} {dirs : List S26} {W W1 w1 : World} {st : List Int × Int} {v : Value} {n : Nat} {xs : List Int} (h : TS w Bd Bl Bb A c dirs W st)
    (hs : W.heap.size ≤ W1.heap.size) (ho : w1.ownsRow W1.heap.size 2 1 v n (nums .i64 xs)) : Kd.R (Kd.int .i64) 2 w1 w.heap.size (fun k => k ≠ Bl ∧ k ≠ Bb) v xs := by
  have hl : xs.length = n := by have := ho.1; simp [nums] at this; exact this
  subst hl
  obtain ⟨vb, hB, _⟩ := h.b
  have lB := blk_lt hB
  have lL := blk_lt h.l
  have r1 : Kd.R (Kd.int .i64) 2 w1 W1.heap.size (fun k => k ≠ Bl ∧ k ≠ Bb) v xs :=
    Kd.R_of_own (enc := fun x => .int .i64 x) (h1 := fun _ => rfl) ho (fun k hk => by
      have := own_base ho k hk
      omega)
  have := h.low.size
  exact Kd.R_lower r1 (by omega)
/-- What eachOrder leaves. -/
def EachPost (w : World) (Bd Bl Bb : Nat) (A : Option Addr) (c : Nat) (dirs : List S26) (W : World) (st' : List Int × Int) (e : Ending) (w' : World) : Prop := e = .returned (.tuple #[]) ∧ TS w Bd Bl Bb A c dirs w' st' ∧ Two Bl Bb W w'
def ordNext (n m : Nat) (o : List Int) (i : Nat) : List (List Int) := if o.contains (i : Int) then [] else ordersF n m (o ++ [(i : Int)])
theorem ordersF_succ (n m : Nat) (o : List Int) : ordersF n (m + 1) o = (List.range n).flatMap (ordNext n m o) := rfl
def RestIs (k : Nat) (dirs : List S26) (n m : Nat) (o : List Int) (i : Nat) (st st' : List Int × Int) : Prop := (((List.range n).drop i).flatMap (ordNext n m o)).foldlM (ostep k dirs) st = some st'
theorem RestIs.next {k : Nat} {dirs : List S26} {n m : Nat} {o : List Int} {i : Nat} {st st' : List Int × Int} (h : RestIs k dirs n m o i st st') (hi : i < n) :
    ∃ st1, (ordNext n m o i).foldlM (ostep k dirs) st = some st1 ∧ RestIs k dirs n m o (i + 1) st1 st' := by
  unfold RestIs at h
  rw [List.drop_eq_getElem_cons (by simpa using hi), List.flatMap_cons, List.foldlM_append] at h
  obtain ⟨st1, h1, h2⟩ := Option.bind_eq_some_iff.mp h
  refine ⟨st1, ?_, h2⟩
  simpa using h1
theorem RestIs.last {k : Nat} {dirs : List S26} {n m : Nat} {o : List Int} {st st' : List Int × Int} (h : RestIs k dirs n m o n st st') : st = st' := by
  unfold RestIs at h
  rw [List.drop_of_length_le (by simp)] at h
  simpa using h
set_option maxRecDepth 100000 in
set_option maxHeartbeats 4000000 in
theorem eachOrder_1 (w : World) (Bd Bl Bb : Nat) (A : Option Addr) (c : Nat) (dirs : List S26) (hr : Kd.C k26 w A dirs.length dirs) (hc : dirs.length ≤ c) (k n : Nat) (hn : n ≤ 1000) : ∀ (m : Nat) (order : List Int) (_hm : order.length + m = n) (_ho : 1 ≤ order.length) (W : World) (st st' : List Int × Int) (vo : Value)
    (_hT : TS w Bd Bl Bb A c dirs W st) (_hR : Kd.R (Kd.int .i64) 2 W w.heap.size (fun k => k ≠ Bl ∧ k ≠ Bb) vo order) (_h : (ordersF n m order).foldlM (ostep k dirs) st = some st'),
    Calls Try.prog 74 #[vo, .int .i64 n, .func (.func 75) #[] #[.pointer (some ⟨Bd, 0, none⟩), .pointer (some ⟨Bl, 0, none⟩), .pointer (some ⟨Bb, 0, none⟩)]] W (EachPost w Bd Bl Bb A c dirs W st') := by
  intro m
  induction m with
  | zero =>
    intro order hm ho W st st' vo hT hR h
    have h1 : ostep k dirs st order = some st' := by simpa [ordersF] using h
    have HT := Aside0.mk (tell_1 w Bd Bl Bb A c dirs hr hc k W st st' vo order (by omega) hT hR h1)
    obtain ⟨Ao, co, rfl⟩ := Kd.R_slice hR
    have hb : ((order.length : Int) == (n : Int)) = true := beq_iff_eq.2 (by omega)
    clear h h1 hT hR
    go_enter Try.func74, Try.ntmps74
    go_wp2_with fail
    refine HT.out.mono ?_
    rintro e w1 ⟨rfl, hT1, h2⟩
    have HT1 := Aside0.mk hT1
    have H2 := Aside0.mk h2
    clear hT1 h2
    go_wp2
    refine bodyPost_ret (results_none rfl _ _ _) rfl ?_
    exact ⟨rfl, HT1.out, H2.out⟩
  | succ m ih =>
    intro order hm ho W st st' vo hT hR h
    have IH := Aside0.mk ih
    have H := Aside0.mk (show RestIs k dirs n m order 0 st st' from h)
    obtain ⟨Ao, co, rfl, hlo, hCo⟩ := Kd.R_reads hR
    have HT := Aside0.mk hT
    have HR := Aside0.mk hR
    have hb : ((order.length : Int) == (n : Int)) = false := beq_eq_false_iff_ne.2 (by omega)
    clear h hT hR hCo ih
    go_enter Try.func74, Try.ntmps74
    go_wp2
    go_loopw [15] (fun v wr => ∃ i : Nat, i ≤ n ∧ v = .int .i64 i ∧ ∃ sti, TS w Bd Bl Bb A c dirs wr sti ∧ Two Bl Bb W wr ∧ RestIs k dirs n m order i sti st') (fun v _ => n - (intOf v).toNat)
    case atStart => exact ⟨0, Nat.zero_le _, rfl, st, HT.out, Two.refl _ _ _, H.out⟩
    case round =>
      obtain ⟨i, hi, rfl, sti, hTi, h2, hrest⟩ := hrel
      by_cases hlt : i < n
      · obtain ⟨st1, hs1, hrest1⟩ := hrest.next hlt
        have HTi := Aside0.mk hTi
        have H2 := Aside0.mk h2
        have HS1 := Aside0.mk hs1
        have HN1 := Aside0.mk hrest1
        have HRi := Aside0.mk (row_two HR.out h2)
        obtain ⟨Ai, ci, hvi, hli, hCi⟩ := Kd.R_reads HRi.out
        injection hvi with e1 e2 e3
        subst e1 e3
        clear e2 hTi h2 hs1 hrest1 hrest hli
        have HCi := Aside0.mk hCi
        clear hCi
        cases hct : order.contains (i : Int)
        · have HS2 : Aside0 ((ordersF n m (order ++ [(i : Int)])).foldlM (ostep k dirs) sti = some st1) := ⟨by have := HS1.out; unfold ordNext at this; rw [hct] at this; simpa using this⟩
          have HK := Aside0.mk (show slices_Contains_int64_int64.f 1001 order (i : Int) = some false by rw [contains_has order _ (by omega), hct])
          clear hct
          go_wp2_with fail
          refine (slices_Contains_int64_int64.calls 1001 Ao co order (i : Int) false wr HCi.out (by omega) HK.out).mono ?_
          rintro e w1 ⟨rfl, ⟨⟨nd, rfl⟩⟩⟩
          have HI := Aside0.mk (ints_of_C HCi.out)
          go_wp2_with (first | (at_builtin; go_loud (refine append_full rfl (.tmp 27) (.tmp 29) 41 2 .i64 rfl Try.underlying41 info2 Ao order (i : Int) order.length rfl (by first | (go_simp; done) | (go_simp; rfl)) rfl (by omega) (by exact HI.out) (by omega) ?_); intro v1 w1 hown1 hg1; have HO1 := Aside0.mk hown1; have HG1 := Aside0.mk hg1; clear hown1 hg1) | fail)
          have HB1 := Aside0.mk (((Drawn0.below (w := wr) (w' := wr.drewN nd) ⟨⟨nd, rfl⟩⟩).alloc (Nat.le_refl _) (.cells #[.int .i64 (i : Int)] 2)).grown HG1.out (by simp) (fun k hk => by cases hk))
          have HT1 := Aside0.mk (HTi.out.below HB1.out)
          have HR1 := Aside0.mk (row_new HTi.out (by simp) HO1.out)
          refine (IH.out (order ++ [(i : Int)]) (by simp; omega) (by simp) w1 sti st1 v1 HT1.out HR1.out HS2.out).mono ?_
          rintro e w2 ⟨rfl, hT2, h3⟩
          have HT2 := Aside0.mk hT2
          have H3 := Aside0.mk h3
          clear hT2 h3
          go_wp2
          go_roundw
          case rel => exact ⟨i + 1, by omega, by go_num, st1, HT2.out, H2.out.trans ((Two.of_below HB1.out).trans H3.out), HN1.out⟩
          case measure => (simp [intOf] <;> omega)
        · have HS2 : Aside0 (sti = st1) := ⟨by have := HS1.out; unfold ordNext at this; rw [hct] at this; simpa using this⟩
          have HK := Aside0.mk (show slices_Contains_int64_int64.f 1001 order (i : Int) = some true by rw [contains_has order _ (by omega), hct])
          clear hct
          go_wp2_with fail
          refine (slices_Contains_int64_int64.calls 1001 Ao co order (i : Int) true wr HCi.out (by omega) HK.out).mono ?_
          rintro e w1 ⟨rfl, ⟨⟨nd, rfl⟩⟩⟩
          go_wp2
          go_roundw
          case rel => exact ⟨i + 1, by omega, by go_num, st1, by rw [← HS2.out]; exact HTi.out.below (Drawn0.below ⟨⟨_, rfl⟩⟩), H2.out.trans (Two.of_below (Drawn0.below ⟨⟨_, rfl⟩⟩)), HN1.out⟩
          case measure => (simp [intOf] <;> omega)
      · obtain rfl : n = i := by omega
        obtain rfl := hrest.last
        have HTi := Aside0.mk hTi
        have H2 := Aside0.mk h2
        clear hTi h2 hrest
        go_wp2
        go_end0
        exact ⟨rfl, HTi.out, H2.out⟩
def impl_ShortestTour.f (k : Nat) (l0 : List (S26)) : Option (List Int × Int × Bool) := (impl_areDirections.f l0).bind fun t => if t = true then ((ordersF l0.length (l0.length - 1) [0]).foldlM (ostep k l0) ([], -1)).bind fun st => some (st.1, st.2, true) else some ([], 0, false)
theorem impl_ShortestTour.mono : ∀ a0 k, LeO (impl_ShortestTour.f k a0) (impl_ShortestTour.f (k + 1) a0) := by
  intro a0 k
  unfold impl_ShortestTour.f
  exact LeO.bind (LeO.refl _) (fun t => LeO.ite (LeO.bind (ofold_mono k a0 _ _) (fun _ => LeO.refl _)) (LeO.refl _))
theorem areDirs_len (l0 : List S26) (h : impl_areDirections.f l0 = some true) : 1 ≤ l0.length ∧ l0.length ≤ 7 := by
  unfold impl_areDirections.f impl_within.f at h
  by_cases h1 : (l0.length : Int) ≥ 1
  · rw [if_pos h1] at h
    by_cases h2 : (l0.length : Int) ≤ 7
    · omega
    · simp [h2] at h
  · rw [if_neg h1] at h
    simp at h
theorem tour_start {w w1 : World} {A0 : Option Addr} {c0 : Nat} {l0 : List S26} (hz : w.heap.size + 1 ≤ w1.heap.size) (hb : Below w.heap.size w w1) (hd : w1.heap[w.heap.size]? = some (.cells #[.slice A0 l0.length c0] 44 (0, 0))) :
    TS w w.heap.size (w1.heap.size + 1 + 1) (w1.heap.size + 1) A0 c0 l0 ((((w1.alloc (.cells #[] 2)).alloc (.cells #[.slice (some ⟨w1.heap.size, 0, none⟩) 0 0] 41)).alloc (.cells #[.int .i64 (-1)] 2)).alloc (.cells #[.int .i64 0] 2)) ([], -1) ∧
    Kd.R (Kd.int .i64) 2 ((((w1.alloc (.cells #[] 2)).alloc (.cells #[.slice (some ⟨w1.heap.size, 0, none⟩) 0 0] 41)).alloc (.cells #[.int .i64 (-1)] 2)).alloc (.cells #[.int .i64 0] 2)) w.heap.size (fun k => k ≠ w1.heap.size + 1 + 1 ∧ k ≠ w1.heap.size + 1) (.slice (some ⟨w1.heap.size + 1 + 1 + 1, 0, none⟩) 1 1) [0] := by
  have e1 : (w1.alloc (.cells #[] 2)).heap.size = w1.heap.size + 1 := by simp
  have e2 : ((w1.alloc (.cells #[] 2)).alloc (.cells #[.slice (some ⟨w1.heap.size, 0, none⟩) 0 0] 41)).heap.size = w1.heap.size + 1 + 1 := by simp
  have e3 : (((w1.alloc (.cells #[] 2)).alloc (.cells #[.slice (some ⟨w1.heap.size, 0, none⟩) 0 0] 41)).alloc (.cells #[.int .i64 (-1)] 2)).heap.size = w1.heap.size + 1 + 1 + 1 := by simp
  have hL := blk_new ((w1.alloc (.cells #[] 2)).alloc (.cells #[.slice (some ⟨w1.heap.size, 0, none⟩) 0 0] 41)) (.cells #[.int .i64 (-1)] 2)
  rw [e2] at hL
  have hB := blk_new (w1.alloc (.cells #[] 2)) (.cells #[.slice (some ⟨w1.heap.size, 0, none⟩) 0 0] 41)
  rw [e1] at hB
  have r0 := own_lit w1 w1.heap.size 2 .i64 [] (Nat.le_refl _) (by simp)
  have r1 : Kd.R (Kd.int .i64) 2 (w1.alloc (.cells #[] 2)) w1.heap.size (fun k => k ≠ w1.heap.size + 1 + 1 ∧ k ≠ w1.heap.size + 1) (.slice (some ⟨w1.heap.size, 0, none⟩) 0 0) [] :=
    Kd.R_of_own (enc := fun x => .int .i64 x) (h1 := fun _ => rfl) r0 (fun k hk => by simp [Value.ownBlock] at hk; omega)
  have s0 := own_lit (((w1.alloc (.cells #[] 2)).alloc (.cells #[.slice (some ⟨w1.heap.size, 0, none⟩) 0 0] 41)).alloc (.cells #[.int .i64 (-1)] 2)) w.heap.size 2 .i64 [0] (by omega) (by simp)
  rw [e3] at s0
  refine ⟨⟨below_alloc (below_alloc (below_alloc (below_alloc hb _) _) _) _, blk_alloc (blk_alloc (blk_alloc (blk_alloc hd _) _) _) _, blk_alloc hL _, ⟨_, blk_alloc (blk_alloc hB _) _, ?_⟩, ⟨by omega, by omega, by omega⟩, ⟨by omega, by omega⟩⟩, ?_⟩
  · exact Kd.R_lower (Kd.R_alloc (Kd.R_alloc (Kd.R_alloc r1 _) _) _) (by omega)
  · exact Kd.R_of_own (enc := fun x => .int .i64 x) (h1 := fun _ => rfl) s0 (fun k hk => by simp [Value.ownBlock] at hk; omega)
set_option maxRecDepth 100000 in
set_option maxHeartbeats 4000000 in
theorem impl_ShortestTour.calls (k : Nat) (A0 : Option Addr) (c0 : Nat) (l0 : List (S26)) (r1 : List Int) (r2 : Int) (r3 : Bool) (w : World) (hr0 : Kd.C k26 w A0 l0.length l0) (hc0 : l0.length ≤ c0) (h : impl_ShortestTour.f k l0 = some (r1, r2, r3)) :
    Calls Try.prog 35 #[.slice A0 l0.length c0] w fun e w' => ∃ v0_ : Value, e = .returned (.tuple #[v0_, .int .i64 r2, .bool r3]) ∧ Kd.R (Kd.int .i64) 2 w' w.heap.size (fun _ => True) v0_ r1 ∧ Below w.heap.size w w' := by
  have HR := Aside0.mk hr0
  clear hr0
  obtain ⟨t, ht, h⟩ := Option.bind_eq_some_iff.mp h
  have Ht := Aside0.mk ht
  have HB0 := Aside0.mk (below_alloc (Below.refl w.heap.size w) (.cells #[.slice A0 l0.length c0] 44))
  cases t
  · simp at h
    obtain ⟨rfl, rfl, rfl⟩ := h
    clear ht
    go_enter Try.func35, Try.ntmps35
    go_wp2_with fail
    refine (impl_areDirections.calls A0 c0 l0 false _ (Kd.C_below HR.out HB0.out) hc0 Ht.out).mono ?_
    rintro e w1 ⟨rfl, hb⟩
    have HB := Aside0.mk (below_step HB0.out hb)
    clear hb
    go_wp2
    go_ret3
    exact ⟨_, rfl, Kd.R_nil _ _ _ _ _, HB.out⟩
  · rw [if_pos rfl] at h
    obtain ⟨st, hst, h⟩ := Option.bind_eq_some_iff.mp h
    simp at h
    obtain ⟨rfl, rfl, rfl⟩ := h
    have hlen := areDirs_len l0 ht
    have HST := Aside0.mk hst
    clear ht hst
    go_enter Try.func35, Try.ntmps35
    go_wp2_with fail
    refine (impl_areDirections.calls A0 c0 l0 true _ (Kd.C_below HR.out HB0.out) hc0 Ht.out).mono ?_
    rintro e w1 ⟨rfl, hb⟩
    have HB := Aside0.mk (below_step HB0.out hb)
    have HD := Aside0.mk (blk_below (blk_new w (.cells #[.slice A0 l0.length c0] 44)) hb)
    have hz := hb.size
    simp only [World.size_alloc] at hz
    have q1 := blk_cell HD.out 0
    clear hb
    have q1' := blk_cell (blk_alloc (blk_alloc (blk_alloc (blk_alloc HD.out (.cells #[] 2)) (.cells #[.slice (some ⟨w1.heap.size, 0, none⟩) 0 0] 41)) (.cells #[.int .i64 (-1)] 2)) (.cells #[.int .i64 0] 2)) 0
    have H0 := Aside0.mk (tour_start (hz := hz) HB.out HD.out)
    go_wp2_with fail
    refine (eachOrder_1 w w.heap.size (w1.heap.size + 1 + 1) (w1.heap.size + 1) A0 c0 l0 HR.out hc0 k l0.length (by omega) (l0.length - 1) [0] (by simp; omega) (by simp) _ ([], -1) st _ H0.out.1 H0.out.2 HST.out).mono ?_
    rintro e w2 ⟨rfl, hT, h2⟩
    have HT := Aside0.mk hT
    obtain ⟨vb, hB, hRb⟩ := hT.b
    obtain ⟨Ab, cb, rfl⟩ := Kd.R_slice hRb
    have q2 := blk_cell hT.l 0
    have q3 := blk_cell hB 0
    have HRb := Aside0.mk (Kd.R_mono hRb (ok' := fun _ => True) (fun _ _ => trivial))
    clear hT h2 hB hRb q1 q1'
    go_wp2
    go_quiet (fail)
    go_wp2
    go_ret3
    exact ⟨_, rfl, by repeat (first | exact HRb.out | apply Kd.R_drewN | apply Kd.R_drew), by repeat (first | exact HT.out.low | apply pw_below_drewN | apply below_drew1)⟩

/-! ### spec_l00Own: function 95 -/
def spec_l00Own.f (l0 : List Int) : Option (List Int) := (some (([] : List Int) : List Int)).bind fun y219 => (if y219.length + l0.length < 17592186044416 then (some (y219 ++ l0)) else (none))
set_option maxHeartbeats 8000000 in
set_option maxRecDepth 100000 in
theorem spec_l00Own.calls (A0 : Option Addr) (c0 : Nat) (l0 : List Int) (r : List Int) (w : World) (hr0 : Kd.C (Kd.int .i64) w A0 l0.length l0) (hc0 : l0.length ≤ c0) (h : spec_l00Own.f l0 = some r) :
    Calls Try.prog 95 #[.slice A0 l0.length c0] w fun e w' => ∃ v0_ : Value, e = .returned (v0_) ∧ Kd.R (Kd.int .i64) 2 w' w.heap.size (fun _ => True) v0_ r ∧ Below w.heap.size w w' := by
  have HR0 := Aside0.mk hr0
  have HC0 := Aside0.mk hc0
  clear hr0 hc0
  have HB := Aside0.mk (Below.refl w.heap.size w)
  have H : ((some (([] : List Int) : List Int)).bind fun y219 => (if y219.length + l0.length < 17592186044416 then (some (y219 ++ l0)) else (none))) = some r := h
  clear h
  obtain ⟨y219, hy219⟩ : ∃ y_ : List Int, y_ = (([] : List Int)) := ⟨_, rfl⟩
  replace H : (if y219.length + l0.length < 17592186044416 then (some (y219 ++ l0)) else (none)) = some r := by first | (rw [hy219]; with_reducible exact H) | (have H2_ := (Option.bind_some _ _).symm.trans H; rw [hy219]; with_reducible exact H2_) | (have H2_ := (Option.bind_some _ _).symm.trans H; with_reducible exact H2_) | with_reducible exact H | (rw [hy219]; exact H) | exact H
  have Ny219 := Aside0.mk hy219
  clear hy219
  by_cases c2 : y219.length + l0.length < 17592186044416
  · rw [if_pos c2] at H
    have LMc2 := Aside0.mk c2
    clear c2
    obtain ⟨y222, hy222⟩ : ∃ y_ : List Int, y_ = (y219 ++ l0) := ⟨_, rfl⟩
    replace H : (some y222) = some r := by first | (rw [hy222]; with_reducible exact H) | (have H2_ := (Option.bind_some _ _).symm.trans H; rw [hy222]; with_reducible exact H2_) | (have H2_ := (Option.bind_some _ _).symm.trans H; with_reducible exact H2_) | with_reducible exact H | (rw [hy222]; exact H) | exact H
    have Ny222 := Aside0.mk hy222
    clear hy222
    obtain rfl := Option.some.inj H
    go_enter Try.func95, Try.ntmps95
    go_wp2_with (first | ((with_reducible refine gate_dst (N := 3) rfl ?_); refine Kd.R_lit (Kd.int .i64) _ 2 ?hg (N := 3) ?hd (xs := ([] : List Int)) (inner := []) (ok := fun _ => True) (okp := fun _ => True) ?hr ?hp (fun _ hk => hk) trivial (Below.refl _ _) (Nat.le_refl _) (by simp) ?_; (case hd => rfl); (case hg => rfl); (case hr => first | (go_simp; done) | (go_simp; rfl)); (case hp => exact (Reps.none _ _)); intro v220 w3 ho4 hb hg_ hnew_; clear hg_ hnew_; (first | rw [← Ny219.out] at ho4 | (simp only [Int.reduceToNat] at ho4; rw [← Ny219.out] at ho4)); have n0_ := Aside0.mk (Kd.R_lower ho4 (below_size (by repeat (first | (with_reducible first | exact HB.out | apply below_alloc | apply pw_below_drewN | apply below_drew1) | exact HB.out)))); have n1_ := Aside0.mk (below_step (by repeat (first | (with_reducible first | exact HB.out | apply below_alloc | apply pw_below_drewN | apply below_drew1) | exact HB.out)) hb); clear HB; have HO221 := n0_; have HB := n1_; clear n0_ n1_; clear hb ho4) | ((with_reducible refine gate_builtin (b := .append) (xs := #[.tmp 3, .tmp 4]) rfl ?_); at_builtin; refine Kd.R_append_rows (Kd.int .i64) (w0 := w) w.heap.size rfl (.tmp 3) (.tmp 4) 41 2 (.int .i64 0) 8 rfl Try.underlying41 info2 rfl (by decide) (by omega) v220 y219 l0 _ _ _ (fun _ => True) (fun _ => False) rfl rfl ?aO ?aR (fun _ _ h => h) (fun _ h => h.elim) ?aF ?aB ?aS ?aL ?_; (case aR => repeat (first | exact (Kd.C_below HR0.out HB.out) | (with_reducible refine Kd.C_alloc ?_ _) | (with_reducible refine Kd.C_drewN ?_ _) | (with_reducible refine Kd.C_drew ?_))); (case aB => exact (by repeat (first | (with_reducible first | exact HB.out | apply below_alloc | apply pw_below_drewN | apply below_drew1) | exact HB.out))); (case aF => exact (fun _ _ => trivial)); (case aO => exact (by (with_reducible repeat (first | apply Kd.R_alloc | apply Kd.R_drewN | apply Kd.R_drew)); exact HO221.out)); (case aS => exact (below_size (by repeat (first | (with_reducible first | exact HB.out | apply below_alloc | apply pw_below_drewN | apply below_drew1) | exact HB.out)))); (case aL => have := LMc2.out; omega); intro v223 w5 ho hb hg hat; rw [← Ny222.out] at ho; have n0_ := Aside0.mk (hb); have n1_ := Aside0.mk (ho); clear HB; clear HO221; have HB := n0_; have HO224 := n1_; clear n0_ n1_; clear ho hb hg hat))
    go_ret
    exact ⟨_, by first | rfl | (simp [errW_none, errW_some] <;> rfl) | (simp [*, errW_none, errW_some] <;> rfl), by (with_reducible repeat (first | apply Kd.R_alloc | apply Kd.R_drewN | apply Kd.R_drew)); exact HO224.out, by repeat (first | (with_reducible first | exact HB.out | apply below_alloc | apply pw_below_drewN | apply below_drew1) | exact HB.out)⟩
  · rw [if_neg c2] at H
    exact absurd H (by simp)

/-! ### spec_l09Best: function 86 -/
mutual
def spec_l09Best.l0 : Nat → List (S26) → List Int → List Int → Int → Int → Option (List Int × Int)
  | 0, _, _, _, _, _ => none
  | k + 1, x0, x1, x6, x7, x8 => if x8 < (x0.length : Int) then ((spec_l00Has.f k x1 x8).bind fun t232 => (if t232 = true then (spec_l09Best.l0 k x0 x1 x6 x7 (wrap64 (x8 + 1))) else ((spec_l00Own.f x1).bind fun t233 => (if t233.length < 17592186044416 then ((spec_l09Best.f k x0 (t233 ++ [x8])).bind fun bt239 => (if x7 < 0 then (spec_l09Best.l0 k x0 x1 bt239.1 bt239.2 (wrap64 (x8 + 1))) else (if bt239.2 < x7 then (spec_l09Best.l0 k x0 x1 bt239.1 bt239.2 (wrap64 (x8 + 1))) else (spec_l09Best.l0 k x0 x1 x6 x7 (wrap64 (x8 + 1)))))) else (none))))) else (some (x6, x7))
def spec_l09Best.f : Nat → List (S26) → List Int → Option (List Int × Int)
  | 0, _, _ => none
  | k + 1, l0, l1 => if (l1.length : Int) = (l0.length : Int) then ((spec_l00Own.f l1).bind fun t225 => ((spec_l09Ticks.f k l0 l1).bind fun t228 => (some (t225, t228)))) else (spec_l09Best.l0 k l0 l1 (([] : List Int)) (-1) 0)
end
theorem spec_l09Best.mono_l : ∀ k, (∀ y0 y1, LeO (spec_l09Best.f k y0 y1) (spec_l09Best.f (k + 1) y0 y1)) ∧ (∀ y0 y1 y2 y3 y4, LeO (spec_l09Best.l0 k y0 y1 y2 y3 y4) (spec_l09Best.l0 (k + 1) y0 y1 y2 y3 y4))
  | 0 => ⟨fun _ _ r h => by simp [spec_l09Best.f] at h, fun _ _ _ _ _ r h => by simp [spec_l09Best.l0] at h⟩
  | k + 1 => by
    obtain ⟨ih0, ih1⟩ := spec_l09Best.mono_l k
    refine ⟨?_, ?_⟩
    · intro y0 y1
      unfold spec_l09Best.f
      repeat' first
      | (with_reducible exact ih0 _ _)
      | (with_reducible exact ih1 _ _ _ _ _)
      | (with_reducible exact spec_l00Has.mono _ _ _)
      | (with_reducible exact spec_l09Ticks.mono _ _ _)
      | (with_reducible exact LeO.refl _)
      | (with_reducible exact LeO.none _)
      | (with_reducible refine LeO.ite ?_ ?_)
      | (with_reducible refine LeO.bind ?_ (fun _ => ?_))
      | exact ih0 _ _
      | exact ih1 _ _ _ _ _
      | exact spec_l00Has.mono _ _ _
      | exact spec_l09Ticks.mono _ _ _
      | exact LeO.none _
      | refine LeO.ite ?_ ?_
      | refine LeO.bind ?_ (fun _ => ?_)
    · intro y0 y1 y2 y3 y4
      unfold spec_l09Best.l0
      repeat' first
      | (with_reducible exact ih0 _ _)
      | (with_reducible exact ih1 _ _ _ _ _)
      | (with_reducible exact spec_l00Has.mono _ _ _)
      | (with_reducible exact spec_l09Ticks.mono _ _ _)
      | (with_reducible exact LeO.refl _)
      | (with_reducible exact LeO.none _)
      | (with_reducible refine LeO.ite ?_ ?_)
      | (with_reducible refine LeO.bind ?_ (fun _ => ?_))
      | exact ih0 _ _
      | exact ih1 _ _ _ _ _
      | exact spec_l00Has.mono _ _ _
      | exact spec_l09Ticks.mono _ _ _
      | exact LeO.none _
      | refine LeO.ite ?_ ?_
      | refine LeO.bind ?_ (fun _ => ?_)
theorem spec_l09Best.mono : ∀ a0 a1 k, LeO (spec_l09Best.f k a0 a1) (spec_l09Best.f (k + 1) a0 a1) := by
  intro a0 a1 k
  obtain ⟨ih0, ih1⟩ := spec_l09Best.mono_l k
  exact ih0 a0 a1
set_option maxHeartbeats 8000000 in
set_option maxRecDepth 100000 in
theorem spec_l09Best.calls (k : Nat) : ∀ (A0 : Option Addr) (c0 : Nat) (l0 : List (S26)) (A1 : Option Addr) (c1 : Nat) (l1 : List Int) (r1 : List Int) (r2 : Int) (w : World) (hr0 : Kd.C k26 w A0 l0.length l0) (hc0 : l0.length ≤ c0) (hr1 : Kd.C (Kd.int .i64) w A1 l1.length l1) (hc1 : l1.length ≤ c1) (h : spec_l09Best.f k l0 l1 = some (r1, r2)),
    Calls Try.prog 86 #[.slice A0 l0.length c0, .slice A1 l1.length c1] w fun e w' => ∃ v0_ : Value, e = .returned (.tuple #[v0_, .int .i64 r2]) ∧ Kd.R (Kd.int .i64) 2 w' w.heap.size (fun _ => True) v0_ r1 ∧ Below w.heap.size w w' := by
  induction k using Nat.strongRecOn with
  | _ k ih =>
  intro A0 c0 l0 A1 c1 l1 r1 r2 w hr0 hc0 hr1 hc1 h
  cases k with
  | zero => exact absurd h (by simp [spec_l09Best.f])
  | succ k =>
  simp only [spec_l09Best.f] at h
  have HR0 := Aside0.mk hr0
  have HC0 := Aside0.mk hc0
  clear hr0 hc0
  have HR1 := Aside0.mk hr1
  have HC1 := Aside0.mk hc1
  clear hr1 hc1
  have HB := Aside0.mk (Below.refl w.heap.size w)
  have H : (if (l1.length : Int) = (l0.length : Int) then ((spec_l00Own.f l1).bind fun t225 => ((spec_l09Ticks.f k l0 l1).bind fun t228 => (some (t225, t228)))) else (spec_l09Best.l0 k l0 l1 (([] : List Int)) (-1) 0)) = some (r1, r2) := h
  clear h
  by_cases c3 : (l1.length : Int) = (l0.length : Int)
  · rw [if_pos c3] at H
    have c3b0 : ((l1.length : Int) == (l0.length : Int)) = true := beq_iff_eq.mpr c3
    have c3b1 : ((l1.length : Int) != (l0.length : Int)) = false := bne_eq_false_iff_eq.mpr c3
    have c3b2 : (l1.length == l0.length) = true := by first | simpa using c3 | (simp at c3 ⊢; omega)
    clear c3
    replace H := Option.bind_eq_some_iff.mp H
    obtain ⟨t225, A40, H⟩ := H
    replace H : ((spec_l09Ticks.f k l0 l1).bind fun t228 => (some (t225, t228))) = some (r1, r2) := H
    have A4 := Aside0.mk A40
    clear A40
    replace H := Option.bind_eq_some_iff.mp H
    obtain ⟨t228, A50, H⟩ := H
    replace H : (some (t225, t228)) = some (r1, r2) := H
    have A5 := Aside0.mk A50
    clear A50
    simp only [Option.some.injEq, Prod.mk.injEq] at H
    obtain ⟨rfl, rfl⟩ := H
    go_enter Try.func86, Try.ntmps86
    go_wp2_with (first | ((with_reducible refine gate_callee (f := 95) rfl ?_); refine goesL_ (some 17) rfl rfl Try.func95 (by kernel_rfl) rfl #[.slice A1 l1.length c1] rfl (by (try simp only [List.map_toArray, List.map_cons, List.map_nil]); first | done | rfl | (simp only [List.length_drop, List.length_take]; rfl)) ?_; (with_reducible refine (spec_l00Own.calls _ _ l1 t225 _ ?side1 ?side2 A4.out).mono ?_); (case side1 => repeat (first | exact HR1.out | (with_reducible refine Kd.C_alloc ?_ _) | (with_reducible refine Kd.C_drewN ?_ _) | (with_reducible refine Kd.C_drew ?_))); (case side2 => exact HC1.out); rintro e w6 ⟨v226, rfl, ho0, hb⟩; refine ⟨_, rfl, ?_⟩; have n0_ := Aside0.mk (Kd.R_lower ho0 (below_size (by repeat (first | (with_reducible first | exact HB.out | apply below_alloc | apply pw_below_drewN | apply below_drew1) | exact HB.out)))); have n1_ := Aside0.mk (below_step (by repeat (first | (with_reducible first | exact HB.out | apply below_alloc | apply pw_below_drewN | apply below_drew1) | exact HB.out)) hb); clear HB; have HO227 := n0_; have HB := n1_; clear n0_ n1_; (try clear hb); (try clear hb2); (try clear hk); (try clear hi); (try clear ho0)) | ((with_reducible refine gate_callee (f := 67) rfl ?_); refine goesL_ (some 20) rfl rfl Try.func67 (by kernel_rfl) rfl #[.slice A0 l0.length c0, .slice A1 l1.length c1] rfl (by (try simp only [List.map_toArray, List.map_cons, List.map_nil]); first | done | rfl | (simp only [List.length_drop, List.length_take]; rfl)) ?_; (with_reducible refine (spec_l09Ticks.calls k _ _ l0 _ _ l1 t228 _ ?side1 ?side2 ?side3 ?side4 A5.out).mono ?_); (case side1 => repeat (first | exact (Kd.C_below HR0.out HB.out) | (with_reducible refine Kd.C_alloc ?_ _) | (with_reducible refine Kd.C_drewN ?_ _) | (with_reducible refine Kd.C_drew ?_))); (case side2 => exact HC0.out); (case side3 => repeat (first | exact (Kd.C_below HR1.out HB.out) | (with_reducible refine Kd.C_alloc ?_ _) | (with_reducible refine Kd.C_drewN ?_ _) | (with_reducible refine Kd.C_drew ?_))); (case side4 => exact HC1.out); rintro e w7 ⟨rfl, hb⟩; refine ⟨_, rfl, ?_⟩; have n0_ := Aside0.mk (Kd.R_below (by (with_reducible repeat (first | apply Kd.R_alloc | apply Kd.R_drewN | apply Kd.R_drew)); exact HO227.out) hb); have n1_ := Aside0.mk (below_step (by repeat (first | (with_reducible first | exact HB.out | apply below_alloc | apply pw_below_drewN | apply below_drew1) | exact HB.out)) hb); clear HO227; clear HB; have HO227 := n0_; have HB := n1_; clear n0_ n1_; (try clear hb); (try clear hb2); (try clear hk); (try clear hi)))
    go_ret2
    exact ⟨_, by first | rfl | (simp [errW_none, errW_some] <;> rfl) | (simp [*, errW_none, errW_some] <;> rfl), by (with_reducible repeat (first | apply Kd.R_alloc | apply Kd.R_drewN | apply Kd.R_drew)); exact HO227.out, by repeat (first | (with_reducible first | exact HB.out | apply below_alloc | apply pw_below_drewN | apply below_drew1) | exact HB.out)⟩
  · rw [if_neg c3] at H
    have c3b0 : ((l1.length : Int) == (l0.length : Int)) = false := beq_eq_false_iff_ne.mpr c3
    have c3b1 : ((l1.length : Int) != (l0.length : Int)) = true := bne_iff_ne.mpr c3
    have c3b2 : (l1.length == l0.length) = false := by first | simpa using c3 | (simp at c3 ⊢; omega)
    obtain ⟨y229, hy229⟩ : ∃ y_ : List Int, y_ = (([] : List Int)) := ⟨_, rfl⟩
    replace H : (spec_l09Best.l0 k l0 l1 y229 (-1) 0) = some (r1, r2) := by first | (rw [hy229]; with_reducible exact H) | (have H2_ := (Option.bind_some _ _).symm.trans H; rw [hy229]; with_reducible exact H2_) | (have H2_ := (Option.bind_some _ _).symm.trans H; with_reducible exact H2_) | with_reducible exact H | (rw [hy229]; exact H) | exact H
    have Ny229 := Aside0.mk hy229
    clear hy229
    have H' := Aside0.mk H
    clear H
    go_enter Try.func86, Try.ntmps86
    go_wp2_with (first | ((with_reducible refine gate_dst (N := 21) rfl ?_); refine Kd.R_lit (Kd.int .i64) _ 2 ?hg (N := 21) ?hd (xs := ([] : List Int)) (inner := []) (ok := fun _ => True) (okp := fun _ => True) ?hr ?hp (fun _ hk => hk) trivial (Below.refl _ _) (Nat.le_refl _) (by simp) ?_; (case hd => rfl); (case hg => rfl); (case hr => first | (go_simp; done) | (go_simp; rfl)); (case hp => exact (Reps.none _ _)); intro v230 w8 ho9 hb hg_ hnew_; clear hg_ hnew_; (first | rw [← Ny229.out] at ho9 | (simp only [Int.reduceToNat] at ho9; rw [← Ny229.out] at ho9)); have n0_ := Aside0.mk (Kd.R_lower ho9 (below_size (by repeat (first | (with_reducible first | exact HB.out | apply below_alloc | apply pw_below_drewN | apply below_drew1) | exact HB.out)))); have n1_ := Aside0.mk (below_step (by repeat (first | (with_reducible first | exact HB.out | apply below_alloc | apply pw_below_drewN | apply below_drew1) | exact HB.out)) hb); clear HB; have HO231 := n0_; have HB := n1_; clear n0_ n1_; clear hb ho9))
    go_loopg [6, 7, 8] k (fun kq v6 v7 v8 w' => ∃ (x6_1 : List Int) (x7_1 : Int) (x8_1 : Int), v7 = .int .i64 x7_1 ∧ v8 = .int .i64 x8_1 ∧ Aside0 (spec_l09Best.l0 kq l0 l1 x6_1 x7_1 x8_1 = some (r1, r2)) ∧ Aside0 (kq ≤ k) ∧ Aside0 (Kd.R (Kd.int .i64) 2 w' w.heap.size (fun _ => True) v6 x6_1) ∧ Aside0 (Below w.heap.size w w'))
    case atStart => exact ⟨(y229), ((-1)), (0), (by first | rfl | (simp; done) | (simp [*]; done)), (by first | rfl | (simp; done) | (simp [*]; done)), H', ⟨Nat.le_refl _⟩, ⟨by (with_reducible repeat (first | apply Kd.R_alloc | apply Kd.R_drewN | apply Kd.R_drew)); exact HO231.out⟩, ⟨by repeat (first | (with_reducible first | exact HB.out | apply below_alloc | apply pw_below_drewN | apply below_drew1) | exact HB.out)⟩⟩
    case round =>
      clear H'
      try clear c1
      try clear p2
      try clear c3
      try clear c3b0
      try clear c3b1
      try clear c3b2
      try clear c6
      try clear c8
      try clear c9
      obtain ⟨x6_1, x7_1, x8_1, rfl, rfl, HA, HK1, HO_6, HB⟩ := hrel
      cases gk with
      | zero => exact absurd HA.out (by simp [spec_l09Best.l0])
      | succ k1 =>
        have H := HA.out
        clear HA
        simp only [spec_l09Best.l0] at H
        by_cases c10 : x8_1 < (l0.length : Int)
        · rw [if_pos c10] at H
          have c10b0 : decide (x8_1 < (l0.length : Int)) = true := decide_eq_true c10
          clear c10
          replace H := Option.bind_eq_some_iff.mp H
          obtain ⟨t232, A110, H⟩ := H
          replace H : (if t232 = true then (spec_l09Best.l0 k1 l0 l1 x6_1 x7_1 (wrap64 (x8_1 + 1))) else ((spec_l00Own.f l1).bind fun t233 => (if t233.length < 17592186044416 then ((spec_l09Best.f k1 l0 (t233 ++ [x8_1])).bind fun bt239 => (if x7_1 < 0 then (spec_l09Best.l0 k1 l0 l1 bt239.1 bt239.2 (wrap64 (x8_1 + 1))) else (if bt239.2 < x7_1 then (spec_l09Best.l0 k1 l0 l1 bt239.1 bt239.2 (wrap64 (x8_1 + 1))) else (spec_l09Best.l0 k1 l0 l1 x6_1 x7_1 (wrap64 (x8_1 + 1)))))) else (none)))) = some (r1, r2) := H
          have A11 := Aside0.mk A110
          clear A110
          by_cases c12 : t232 = true
          · subst c12
            have H1 : (spec_l09Best.l0 k1 l0 l1 x6_1 x7_1 (wrap64 (x8_1 + 1))) = some (r1, r2) := by rw [if_pos rfl] at H; exact H
            clear H
            have H := H1
            clear H1
            have H' := Aside0.mk H
            clear H
            go_wp2_with (first | ((with_reducible refine gate_callee (f := 66) rfl ?_); refine goesL_ (some 30) rfl rfl Try.func66 (by kernel_rfl) rfl #[.slice A1 l1.length c1, .int .i64 x8_1] rfl (by (try simp only [List.map_toArray, List.map_cons, List.map_nil]); first | done | rfl | (simp only [List.length_drop, List.length_take]; rfl)) ?_; (with_reducible refine (spec_l00Has.calls k1 _ _ l1 x8_1 true _ ?side1 ?side2 A11.out).mono ?_); (case side1 => repeat (first | exact (Kd.C_below HR1.out HB.out) | (with_reducible refine Kd.C_alloc ?_ _) | (with_reducible refine Kd.C_drewN ?_ _) | (with_reducible refine Kd.C_drew ?_))); (case side2 => exact HC1.out); rintro e w' ⟨rfl, ⟨nd, rfl⟩⟩; refine ⟨_, rfl, ?_⟩))
            go_roundg k1
            case measure => have := HK1.out; omega
            case rel => exact ⟨(x6_1), (x7_1), (wrap64 (x8_1 + 1)), (by first | rfl | (simp; done) | (simp [*]; done)), (by first | rfl | (simp; done) | (simp [*]; done)), H', ⟨by have := HK1.out; omega⟩, ⟨by (with_reducible repeat (first | apply Kd.R_alloc | apply Kd.R_drewN | apply Kd.R_drew)); exact HO_6.out⟩, ⟨by repeat (first | (with_reducible first | exact HB.out | apply below_alloc | apply pw_below_drewN | apply below_drew1) | exact HB.out)⟩⟩
          · replace c12 := Bool.eq_false_iff.mpr c12
            subst c12
            have H1 : ((spec_l00Own.f l1).bind fun t233 => (if t233.length < 17592186044416 then ((spec_l09Best.f k1 l0 (t233 ++ [x8_1])).bind fun bt239 => (if x7_1 < 0 then (spec_l09Best.l0 k1 l0 l1 bt239.1 bt239.2 (wrap64 (x8_1 + 1))) else (if bt239.2 < x7_1 then (spec_l09Best.l0 k1 l0 l1 bt239.1 bt239.2 (wrap64 (x8_1 + 1))) else (spec_l09Best.l0 k1 l0 l1 x6_1 x7_1 (wrap64 (x8_1 + 1)))))) else (none))) = some (r1, r2) := by rw [if_neg (show ¬ (false = true) by decide)] at H; exact H
            clear H
            have H := H1
            clear H1
            replace H := Option.bind_eq_some_iff.mp H
            obtain ⟨t233, A130, H⟩ := H
            replace H : (if t233.length < 17592186044416 then ((spec_l09Best.f k1 l0 (t233 ++ [x8_1])).bind fun bt239 => (if x7_1 < 0 then (spec_l09Best.l0 k1 l0 l1 bt239.1 bt239.2 (wrap64 (x8_1 + 1))) else (if bt239.2 < x7_1 then (spec_l09Best.l0 k1 l0 l1 bt239.1 bt239.2 (wrap64 (x8_1 + 1))) else (spec_l09Best.l0 k1 l0 l1 x6_1 x7_1 (wrap64 (x8_1 + 1)))))) else (none)) = some (r1, r2) := H
            have A13 := Aside0.mk A130
            clear A130
            by_cases c14 : t233.length < 17592186044416
            · rw [if_pos c14] at H
              have LMc14 := Aside0.mk c14
              clear c14
              obtain ⟨y236, hy236⟩ : ∃ y_ : List Int, y_ = (t233 ++ [x8_1]) := ⟨_, rfl⟩
              replace H : ((spec_l09Best.f k1 l0 y236).bind fun bt239 => (if x7_1 < 0 then (spec_l09Best.l0 k1 l0 l1 bt239.1 bt239.2 (wrap64 (x8_1 + 1))) else (if bt239.2 < x7_1 then (spec_l09Best.l0 k1 l0 l1 bt239.1 bt239.2 (wrap64 (x8_1 + 1))) else (spec_l09Best.l0 k1 l0 l1 x6_1 x7_1 (wrap64 (x8_1 + 1)))))) = some (r1, r2) := by first | (rw [hy236]; with_reducible exact H) | (have H2_ := (Option.bind_some _ _).symm.trans H; rw [hy236]; with_reducible exact H2_) | (have H2_ := (Option.bind_some _ _).symm.trans H; with_reducible exact H2_) | with_reducible exact H | (rw [hy236]; exact H) | exact H
              have Ny236 := Aside0.mk hy236
              clear hy236
              replace H := Option.bind_eq_some_iff.mp H
              obtain ⟨⟨t239, t240⟩, A150, H⟩ := H
              replace H : (if x7_1 < 0 then (spec_l09Best.l0 k1 l0 l1 t239 t240 (wrap64 (x8_1 + 1))) else (if t240 < x7_1 then (spec_l09Best.l0 k1 l0 l1 t239 t240 (wrap64 (x8_1 + 1))) else (spec_l09Best.l0 k1 l0 l1 x6_1 x7_1 (wrap64 (x8_1 + 1))))) = some (r1, r2) := H
              have A15 := Aside0.mk A150
              clear A150
              by_cases c16 : x7_1 < 0
              · rw [if_pos c16] at H
                have c16b0 : decide (x7_1 < 0) = true := decide_eq_true c16
                clear c16
                have H' := Aside0.mk H
                clear H
                go_wp2_with (first | ((with_reducible refine gate_callee (f := 66) rfl ?_); refine goesL_ (some 30) rfl rfl Try.func66 (by kernel_rfl) rfl #[.slice A1 l1.length c1, .int .i64 x8_1] rfl (by (try simp only [List.map_toArray, List.map_cons, List.map_nil]); first | done | rfl | (simp only [List.length_drop, List.length_take]; rfl)) ?_; (with_reducible refine (spec_l00Has.calls k1 _ _ l1 x8_1 false _ ?side1 ?side2 A11.out).mono ?_); (case side1 => repeat (first | exact (Kd.C_below HR1.out HB.out) | (with_reducible refine Kd.C_alloc ?_ _) | (with_reducible refine Kd.C_drewN ?_ _) | (with_reducible refine Kd.C_drew ?_))); (case side2 => exact HC1.out); rintro e w' ⟨rfl, ⟨nd, rfl⟩⟩; refine ⟨_, rfl, ?_⟩) | ((with_reducible refine gate_callee (f := 95) rfl ?_); refine goesL_ (some 34) rfl rfl Try.func95 (by kernel_rfl) rfl #[.slice A1 l1.length c1] rfl (by (try simp only [List.map_toArray, List.map_cons, List.map_nil]); first | done | rfl | (simp only [List.length_drop, List.length_take]; rfl)) ?_; (with_reducible refine (spec_l00Own.calls _ _ l1 t233 _ ?side1 ?side2 A13.out).mono ?_); (case side1 => repeat (first | exact (Kd.C_below HR1.out (by repeat (first | (with_reducible first | exact HB.out | apply below_alloc | apply pw_below_drewN | apply below_drew1) | exact HB.out))) | (with_reducible refine Kd.C_alloc ?_ _) | (with_reducible refine Kd.C_drewN ?_ _) | (with_reducible refine Kd.C_drew ?_))); (case side2 => exact HC1.out); rintro e w17 ⟨v234, rfl, ho0, hb⟩; refine ⟨_, rfl, ?_⟩; have n0_ := Aside0.mk (Kd.R_elder' (by (with_reducible repeat (first | apply Kd.R_alloc | apply Kd.R_drewN | apply Kd.R_drew)); exact HO_6.out) (Kd.R_base ho0) hb); have n1_ := Aside0.mk (Kd.R_lower (Kd.R_new' ho0 (Kd.R_lt (by (with_reducible repeat (first | apply Kd.R_alloc | apply Kd.R_drewN | apply Kd.R_drew)); exact HO_6.out))) (below_size (by repeat (first | (with_reducible first | exact HB.out | apply below_alloc | apply pw_below_drewN | apply below_drew1) | exact HB.out)))); have n2_ := Aside0.mk (below_step (by repeat (first | (with_reducible first | exact HB.out | apply below_alloc | apply pw_below_drewN | apply below_drew1) | exact HB.out)) hb); clear HO_6; clear HB; have HO_6 := n0_; have HO235 := n1_; have HB := n2_; clear n0_ n1_ n2_; (try clear hb); (try clear hb2); (try clear hk); (try clear hi); (try clear ho0)) | ((with_reducible refine gate_builtin (b := .append) (xs := #[.tmp 34, .tmp 36]) rfl ?_); at_builtin; refine Kd.R_append (Kd.int .i64) (w0 := w) w.heap.size rfl (.tmp 34) (.tmp 36) 41 2 (.int .i64 0) 8 rfl Try.underlying41 info2 rfl (by decide) (by omega) v234 t233 x8_1 [.int .i64 x8_1] (fun k_ => some k_ ≠ (u6 : Value).ownBlock) (fun _ => False) rfl rfl ?aP (fun _ hk => hk.elim) ?aF ?aO ?aB ?aS ?aL ?_; (case aP => exact rfl); (case aB => exact (by repeat (first | (with_reducible first | exact HB.out | apply below_alloc | apply pw_below_drewN | apply below_drew1) | exact HB.out))); (case aF => exact (fun k_ hk => Kd.fresh' (Kd.R_lt (by (with_reducible repeat (first | apply Kd.R_alloc | apply Kd.R_drewN | apply Kd.R_drew)); exact HO_6.out)) k_ hk)); (case aO => exact (by (with_reducible repeat (first | apply Kd.R_alloc | apply Kd.R_drewN | apply Kd.R_drew)); exact Kd.R_mono HO235.out (fun _ hk => hk.2))); (case aS => exact (below_size (by repeat (first | (with_reducible first | exact HB.out | apply below_alloc | apply pw_below_drewN | apply below_drew1) | exact HB.out)))); (case aL => have := LMc14.out; omega); intro v237 w18 ho hb hg hat; rw [← Ny236.out] at ho; have n0_ := Aside0.mk (Kd.R_after (ok := (fun _ => True)) (by (with_reducible repeat (first | apply Kd.R_alloc | apply Kd.R_drewN | apply Kd.R_drew)); exact HO_6.out) hg hat); have n1_ := Aside0.mk (hb); have n2_ := Aside0.mk (ho); clear HO_6; clear HB; clear HO235; have HO_6 := n0_; have HB := n1_; have HO238 := n2_; clear n0_ n1_ n2_; clear ho hb hg hat; obtain ⟨Ao19, co19, eo19⟩ := Kd.R_slice HO238.out; subst eo19) | ((with_reducible refine gate_callee (f := 86) rfl ?_); refine goesL_ (some 38) rfl rfl Try.func86 (by kernel_rfl) rfl #[.slice A0 l0.length c0, .slice Ao19 y236.length co19] rfl (by (try simp only [List.map_toArray, List.map_cons, List.map_nil]); first | done | rfl | (simp only [List.length_drop, List.length_take]; rfl)) ?_; (with_reducible refine (ih k1 (by have := HK1.out; omega) _ _ l0 _ _ y236 t239 t240 _ ?side1 ?side2 ?side3 ?side4 A15.out).mono ?_); (case side1 => repeat (first | exact (Kd.C_below HR0.out HB.out) | (with_reducible refine Kd.C_alloc ?_ _) | (with_reducible refine Kd.C_drewN ?_ _) | (with_reducible refine Kd.C_drew ?_))); (case side2 => exact HC0.out); (case side3 => repeat (first | exact (Kd.R_reads' HO238.out).2.2 | (with_reducible refine Kd.C_alloc ?_ _) | (with_reducible refine Kd.C_drewN ?_ _) | (with_reducible refine Kd.C_drew ?_))); (case side4 => exact (Kd.R_reads' HO238.out).2.1); rintro e w20 ⟨v241, rfl, ho0, hb⟩; refine ⟨_, rfl, ?_⟩; have n0_ := Aside0.mk (Kd.R_elder' (by (with_reducible repeat (first | apply Kd.R_alloc | apply Kd.R_drewN | apply Kd.R_drew)); exact HO_6.out) (Kd.R_base ho0) hb); have n1_ := Aside0.mk (Kd.R_elder' (by (with_reducible repeat (first | apply Kd.R_alloc | apply Kd.R_drewN | apply Kd.R_drew)); exact HO238.out) (Kd.R_base ho0) hb); have n2_ := Aside0.mk (Kd.R_lower (Kd.R_new' (Kd.R_new' ho0 (Kd.R_lt (by (with_reducible repeat (first | apply Kd.R_alloc | apply Kd.R_drewN | apply Kd.R_drew)); exact HO_6.out))) (Kd.R_lt (by (with_reducible repeat (first | apply Kd.R_alloc | apply Kd.R_drewN | apply Kd.R_drew)); exact HO238.out))) (below_size (by repeat (first | (with_reducible first | exact HB.out | apply below_alloc | apply pw_below_drewN | apply below_drew1) | exact HB.out)))); have n3_ := Aside0.mk (below_step (by repeat (first | (with_reducible first | exact HB.out | apply below_alloc | apply pw_below_drewN | apply below_drew1) | exact HB.out)) hb); clear HO_6; clear HO238; clear HB; have HO_6 := n0_; have HO238 := n1_; have HO242 := n2_; have HB := n3_; clear n0_ n1_ n2_ n3_; (try clear hb); (try clear hb2); (try clear hk); (try clear hi); (try clear ho0)))
                go_roundg k1
                case measure => have := HK1.out; omega
                case rel => exact ⟨(t239), (t240), (wrap64 (x8_1 + 1)), (by first | rfl | (simp; done) | (simp [*]; done)), (by first | rfl | (simp; done) | (simp [*]; done)), H', ⟨by have := HK1.out; omega⟩, ⟨by (with_reducible repeat (first | apply Kd.R_alloc | apply Kd.R_drewN | apply Kd.R_drew)); exact Kd.R_mono HO242.out (fun _ hk => trivial)⟩, ⟨by repeat (first | (with_reducible first | exact HB.out | apply below_alloc | apply pw_below_drewN | apply below_drew1) | exact HB.out)⟩⟩
              · rw [if_neg c16] at H
                have c16b0 : decide (x7_1 < 0) = false := decide_eq_false c16
                clear c16
                by_cases c21 : t240 < x7_1
                · rw [if_pos c21] at H
                  have c21b0 : decide (t240 < x7_1) = true := decide_eq_true c21
                  clear c21
                  have H' := Aside0.mk H
                  clear H
                  go_wp2_with (first | ((with_reducible refine gate_callee (f := 66) rfl ?_); refine goesL_ (some 30) rfl rfl Try.func66 (by kernel_rfl) rfl #[.slice A1 l1.length c1, .int .i64 x8_1] rfl (by (try simp only [List.map_toArray, List.map_cons, List.map_nil]); first | done | rfl | (simp only [List.length_drop, List.length_take]; rfl)) ?_; (with_reducible refine (spec_l00Has.calls k1 _ _ l1 x8_1 false _ ?side1 ?side2 A11.out).mono ?_); (case side1 => repeat (first | exact (Kd.C_below HR1.out HB.out) | (with_reducible refine Kd.C_alloc ?_ _) | (with_reducible refine Kd.C_drewN ?_ _) | (with_reducible refine Kd.C_drew ?_))); (case side2 => exact HC1.out); rintro e w' ⟨rfl, ⟨nd, rfl⟩⟩; refine ⟨_, rfl, ?_⟩) | ((with_reducible refine gate_callee (f := 95) rfl ?_); refine goesL_ (some 34) rfl rfl Try.func95 (by kernel_rfl) rfl #[.slice A1 l1.length c1] rfl (by (try simp only [List.map_toArray, List.map_cons, List.map_nil]); first | done | rfl | (simp only [List.length_drop, List.length_take]; rfl)) ?_; (with_reducible refine (spec_l00Own.calls _ _ l1 t233 _ ?side1 ?side2 A13.out).mono ?_); (case side1 => repeat (first | exact (Kd.C_below HR1.out (by repeat (first | (with_reducible first | exact HB.out | apply below_alloc | apply pw_below_drewN | apply below_drew1) | exact HB.out))) | (with_reducible refine Kd.C_alloc ?_ _) | (with_reducible refine Kd.C_drewN ?_ _) | (with_reducible refine Kd.C_drew ?_))); (case side2 => exact HC1.out); rintro e w22 ⟨v234, rfl, ho0, hb⟩; refine ⟨_, rfl, ?_⟩; have n0_ := Aside0.mk (Kd.R_elder' (by (with_reducible repeat (first | apply Kd.R_alloc | apply Kd.R_drewN | apply Kd.R_drew)); exact HO_6.out) (Kd.R_base ho0) hb); have n1_ := Aside0.mk (Kd.R_lower (Kd.R_new' ho0 (Kd.R_lt (by (with_reducible repeat (first | apply Kd.R_alloc | apply Kd.R_drewN | apply Kd.R_drew)); exact HO_6.out))) (below_size (by repeat (first | (with_reducible first | exact HB.out | apply below_alloc | apply pw_below_drewN | apply below_drew1) | exact HB.out)))); have n2_ := Aside0.mk (below_step (by repeat (first | (with_reducible first | exact HB.out | apply below_alloc | apply pw_below_drewN | apply below_drew1) | exact HB.out)) hb); clear HO_6; clear HB; have HO_6 := n0_; have HO235 := n1_; have HB := n2_; clear n0_ n1_ n2_; (try clear hb); (try clear hb2); (try clear hk); (try clear hi); (try clear ho0)) | ((with_reducible refine gate_builtin (b := .append) (xs := #[.tmp 34, .tmp 36]) rfl ?_); at_builtin; refine Kd.R_append (Kd.int .i64) (w0 := w) w.heap.size rfl (.tmp 34) (.tmp 36) 41 2 (.int .i64 0) 8 rfl Try.underlying41 info2 rfl (by decide) (by omega) v234 t233 x8_1 [.int .i64 x8_1] (fun k_ => some k_ ≠ (u6 : Value).ownBlock) (fun _ => False) rfl rfl ?aP (fun _ hk => hk.elim) ?aF ?aO ?aB ?aS ?aL ?_; (case aP => exact rfl); (case aB => exact (by repeat (first | (with_reducible first | exact HB.out | apply below_alloc | apply pw_below_drewN | apply below_drew1) | exact HB.out))); (case aF => exact (fun k_ hk => Kd.fresh' (Kd.R_lt (by (with_reducible repeat (first | apply Kd.R_alloc | apply Kd.R_drewN | apply Kd.R_drew)); exact HO_6.out)) k_ hk)); (case aO => exact (by (with_reducible repeat (first | apply Kd.R_alloc | apply Kd.R_drewN | apply Kd.R_drew)); exact Kd.R_mono HO235.out (fun _ hk => hk.2))); (case aS => exact (below_size (by repeat (first | (with_reducible first | exact HB.out | apply below_alloc | apply pw_below_drewN | apply below_drew1) | exact HB.out)))); (case aL => have := LMc14.out; omega); intro v237 w23 ho hb hg hat; rw [← Ny236.out] at ho; have n0_ := Aside0.mk (Kd.R_after (ok := (fun _ => True)) (by (with_reducible repeat (first | apply Kd.R_alloc | apply Kd.R_drewN | apply Kd.R_drew)); exact HO_6.out) hg hat); have n1_ := Aside0.mk (hb); have n2_ := Aside0.mk (ho); clear HO_6; clear HB; clear HO235; have HO_6 := n0_; have HB := n1_; have HO238 := n2_; clear n0_ n1_ n2_; clear ho hb hg hat; obtain ⟨Ao24, co24, eo24⟩ := Kd.R_slice HO238.out; subst eo24) | ((with_reducible refine gate_callee (f := 86) rfl ?_); refine goesL_ (some 38) rfl rfl Try.func86 (by kernel_rfl) rfl #[.slice A0 l0.length c0, .slice Ao24 y236.length co24] rfl (by (try simp only [List.map_toArray, List.map_cons, List.map_nil]); first | done | rfl | (simp only [List.length_drop, List.length_take]; rfl)) ?_; (with_reducible refine (ih k1 (by have := HK1.out; omega) _ _ l0 _ _ y236 t239 t240 _ ?side1 ?side2 ?side3 ?side4 A15.out).mono ?_); (case side1 => repeat (first | exact (Kd.C_below HR0.out HB.out) | (with_reducible refine Kd.C_alloc ?_ _) | (with_reducible refine Kd.C_drewN ?_ _) | (with_reducible refine Kd.C_drew ?_))); (case side2 => exact HC0.out); (case side3 => repeat (first | exact (Kd.R_reads' HO238.out).2.2 | (with_reducible refine Kd.C_alloc ?_ _) | (with_reducible refine Kd.C_drewN ?_ _) | (with_reducible refine Kd.C_drew ?_))); (case side4 => exact (Kd.R_reads' HO238.out).2.1); rintro e w25 ⟨v241, rfl, ho0, hb⟩; refine ⟨_, rfl, ?_⟩; have n0_ := Aside0.mk (Kd.R_elder' (by (with_reducible repeat (first | apply Kd.R_alloc | apply Kd.R_drewN | apply Kd.R_drew)); exact HO_6.out) (Kd.R_base ho0) hb); have n1_ := Aside0.mk (Kd.R_elder' (by (with_reducible repeat (first | apply Kd.R_alloc | apply Kd.R_drewN | apply Kd.R_drew)); exact HO238.out) (Kd.R_base ho0) hb); have n2_ := Aside0.mk (Kd.R_lower (Kd.R_new' (Kd.R_new' ho0 (Kd.R_lt (by (with_reducible repeat (first | apply Kd.R_alloc | apply Kd.R_drewN | apply Kd.R_drew)); exact HO_6.out))) (Kd.R_lt (by (with_reducible repeat (first | apply Kd.R_alloc | apply Kd.R_drewN | apply Kd.R_drew)); exact HO238.out))) (below_size (by repeat (first | (with_reducible first | exact HB.out | apply below_alloc | apply pw_below_drewN | apply below_drew1) | exact HB.out)))); have n3_ := Aside0.mk (below_step (by repeat (first | (with_reducible first | exact HB.out | apply below_alloc | apply pw_below_drewN | apply below_drew1) | exact HB.out)) hb); clear HO_6; clear HO238; clear HB; have HO_6 := n0_; have HO238 := n1_; have HO242 := n2_; have HB := n3_; clear n0_ n1_ n2_ n3_; (try clear hb); (try clear hb2); (try clear hk); (try clear hi); (try clear ho0)))
                  go_roundg k1
                  case measure => have := HK1.out; omega
                  case rel => exact ⟨(t239), (t240), (wrap64 (x8_1 + 1)), (by first | rfl | (simp; done) | (simp [*]; done)), (by first | rfl | (simp; done) | (simp [*]; done)), H', ⟨by have := HK1.out; omega⟩, ⟨by (with_reducible repeat (first | apply Kd.R_alloc | apply Kd.R_drewN | apply Kd.R_drew)); exact Kd.R_mono HO242.out (fun _ hk => trivial)⟩, ⟨by repeat (first | (with_reducible first | exact HB.out | apply below_alloc | apply pw_below_drewN | apply below_drew1) | exact HB.out)⟩⟩
                · rw [if_neg c21] at H
                  have c21b0 : decide (t240 < x7_1) = false := decide_eq_false c21
                  clear c21
                  have H' := Aside0.mk H
                  clear H
                  go_wp2_with (first | ((with_reducible refine gate_callee (f := 66) rfl ?_); refine goesL_ (some 30) rfl rfl Try.func66 (by kernel_rfl) rfl #[.slice A1 l1.length c1, .int .i64 x8_1] rfl (by (try simp only [List.map_toArray, List.map_cons, List.map_nil]); first | done | rfl | (simp only [List.length_drop, List.length_take]; rfl)) ?_; (with_reducible refine (spec_l00Has.calls k1 _ _ l1 x8_1 false _ ?side1 ?side2 A11.out).mono ?_); (case side1 => repeat (first | exact (Kd.C_below HR1.out HB.out) | (with_reducible refine Kd.C_alloc ?_ _) | (with_reducible refine Kd.C_drewN ?_ _) | (with_reducible refine Kd.C_drew ?_))); (case side2 => exact HC1.out); rintro e w' ⟨rfl, ⟨nd, rfl⟩⟩; refine ⟨_, rfl, ?_⟩) | ((with_reducible refine gate_callee (f := 95) rfl ?_); refine goesL_ (some 34) rfl rfl Try.func95 (by kernel_rfl) rfl #[.slice A1 l1.length c1] rfl (by (try simp only [List.map_toArray, List.map_cons, List.map_nil]); first | done | rfl | (simp only [List.length_drop, List.length_take]; rfl)) ?_; (with_reducible refine (spec_l00Own.calls _ _ l1 t233 _ ?side1 ?side2 A13.out).mono ?_); (case side1 => repeat (first | exact (Kd.C_below HR1.out (by repeat (first | (with_reducible first | exact HB.out | apply below_alloc | apply pw_below_drewN | apply below_drew1) | exact HB.out))) | (with_reducible refine Kd.C_alloc ?_ _) | (with_reducible refine Kd.C_drewN ?_ _) | (with_reducible refine Kd.C_drew ?_))); (case side2 => exact HC1.out); rintro e w26 ⟨v234, rfl, ho0, hb⟩; refine ⟨_, rfl, ?_⟩; have n0_ := Aside0.mk (Kd.R_elder' (by (with_reducible repeat (first | apply Kd.R_alloc | apply Kd.R_drewN | apply Kd.R_drew)); exact HO_6.out) (Kd.R_base ho0) hb); have n1_ := Aside0.mk (Kd.R_lower (Kd.R_new' ho0 (Kd.R_lt (by (with_reducible repeat (first | apply Kd.R_alloc | apply Kd.R_drewN | apply Kd.R_drew)); exact HO_6.out))) (below_size (by repeat (first | (with_reducible first | exact HB.out | apply below_alloc | apply pw_below_drewN | apply below_drew1) | exact HB.out)))); have n2_ := Aside0.mk (below_step (by repeat (first | (with_reducible first | exact HB.out | apply below_alloc | apply pw_below_drewN | apply below_drew1) | exact HB.out)) hb); clear HO_6; clear HB; have HO_6 := n0_; have HO235 := n1_; have HB := n2_; clear n0_ n1_ n2_; (try clear hb); (try clear hb2); (try clear hk); (try clear hi); (try clear ho0)) | ((with_reducible refine gate_builtin (b := .append) (xs := #[.tmp 34, .tmp 36]) rfl ?_); at_builtin; refine Kd.R_append (Kd.int .i64) (w0 := w) w.heap.size rfl (.tmp 34) (.tmp 36) 41 2 (.int .i64 0) 8 rfl Try.underlying41 info2 rfl (by decide) (by omega) v234 t233 x8_1 [.int .i64 x8_1] (fun k_ => some k_ ≠ (u6 : Value).ownBlock) (fun _ => False) rfl rfl ?aP (fun _ hk => hk.elim) ?aF ?aO ?aB ?aS ?aL ?_; (case aP => exact rfl); (case aB => exact (by repeat (first | (with_reducible first | exact HB.out | apply below_alloc | apply pw_below_drewN | apply below_drew1) | exact HB.out))); (case aF => exact (fun k_ hk => Kd.fresh' (Kd.R_lt (by (with_reducible repeat (first | apply Kd.R_alloc | apply Kd.R_drewN | apply Kd.R_drew)); exact HO_6.out)) k_ hk)); (case aO => exact (by (with_reducible repeat (first | apply Kd.R_alloc | apply Kd.R_drewN | apply Kd.R_drew)); exact Kd.R_mono HO235.out (fun _ hk => hk.2))); (case aS => exact (below_size (by repeat (first | (with_reducible first | exact HB.out | apply below_alloc | apply pw_below_drewN | apply below_drew1) | exact HB.out)))); (case aL => have := LMc14.out; omega); intro v237 w27 ho hb hg hat; rw [← Ny236.out] at ho; have n0_ := Aside0.mk (Kd.R_after (ok := (fun _ => True)) (by (with_reducible repeat (first | apply Kd.R_alloc | apply Kd.R_drewN | apply Kd.R_drew)); exact HO_6.out) hg hat); have n1_ := Aside0.mk (hb); have n2_ := Aside0.mk (ho); clear HO_6; clear HB; clear HO235; have HO_6 := n0_; have HB := n1_; have HO238 := n2_; clear n0_ n1_ n2_; clear ho hb hg hat; obtain ⟨Ao28, co28, eo28⟩ := Kd.R_slice HO238.out; subst eo28) | ((with_reducible refine gate_callee (f := 86) rfl ?_); refine goesL_ (some 38) rfl rfl Try.func86 (by kernel_rfl) rfl #[.slice A0 l0.length c0, .slice Ao28 y236.length co28] rfl (by (try simp only [List.map_toArray, List.map_cons, List.map_nil]); first | done | rfl | (simp only [List.length_drop, List.length_take]; rfl)) ?_; (with_reducible refine (ih k1 (by have := HK1.out; omega) _ _ l0 _ _ y236 t239 t240 _ ?side1 ?side2 ?side3 ?side4 A15.out).mono ?_); (case side1 => repeat (first | exact (Kd.C_below HR0.out HB.out) | (with_reducible refine Kd.C_alloc ?_ _) | (with_reducible refine Kd.C_drewN ?_ _) | (with_reducible refine Kd.C_drew ?_))); (case side2 => exact HC0.out); (case side3 => repeat (first | exact (Kd.R_reads' HO238.out).2.2 | (with_reducible refine Kd.C_alloc ?_ _) | (with_reducible refine Kd.C_drewN ?_ _) | (with_reducible refine Kd.C_drew ?_))); (case side4 => exact (Kd.R_reads' HO238.out).2.1); rintro e w29 ⟨v241, rfl, ho0, hb⟩; refine ⟨_, rfl, ?_⟩; have n0_ := Aside0.mk (Kd.R_elder' (by (with_reducible repeat (first | apply Kd.R_alloc | apply Kd.R_drewN | apply Kd.R_drew)); exact HO_6.out) (Kd.R_base ho0) hb); have n1_ := Aside0.mk (Kd.R_elder' (by (with_reducible repeat (first | apply Kd.R_alloc | apply Kd.R_drewN | apply Kd.R_drew)); exact HO238.out) (Kd.R_base ho0) hb); have n2_ := Aside0.mk (Kd.R_lower (Kd.R_new' (Kd.R_new' ho0 (Kd.R_lt (by (with_reducible repeat (first | apply Kd.R_alloc | apply Kd.R_drewN | apply Kd.R_drew)); exact HO_6.out))) (Kd.R_lt (by (with_reducible repeat (first | apply Kd.R_alloc | apply Kd.R_drewN | apply Kd.R_drew)); exact HO238.out))) (below_size (by repeat (first | (with_reducible first | exact HB.out | apply below_alloc | apply pw_below_drewN | apply below_drew1) | exact HB.out)))); have n3_ := Aside0.mk (below_step (by repeat (first | (with_reducible first | exact HB.out | apply below_alloc | apply pw_below_drewN | apply below_drew1) | exact HB.out)) hb); clear HO_6; clear HO238; clear HB; have HO_6 := n0_; have HO238 := n1_; have HO242 := n2_; have HB := n3_; clear n0_ n1_ n2_ n3_; (try clear hb); (try clear hb2); (try clear hk); (try clear hi); (try clear ho0)))
                  go_roundg k1
                  case measure => have := HK1.out; omega
                  case rel => exact ⟨(x6_1), (x7_1), (wrap64 (x8_1 + 1)), (by first | rfl | (simp; done) | (simp [*]; done)), (by first | rfl | (simp; done) | (simp [*]; done)), H', ⟨by have := HK1.out; omega⟩, ⟨by (with_reducible repeat (first | apply Kd.R_alloc | apply Kd.R_drewN | apply Kd.R_drew)); exact Kd.R_mono HO_6.out (fun _ hk => trivial)⟩, ⟨by repeat (first | (with_reducible first | exact HB.out | apply below_alloc | apply pw_below_drewN | apply below_drew1) | exact HB.out)⟩⟩
            · rw [if_neg c14] at H
              exact absurd H (by simp)
        · rw [if_neg c10] at H
          have c10b0 : decide (x8_1 < (l0.length : Int)) = false := decide_eq_false c10
          clear c10
          simp only [Option.some.injEq, Prod.mk.injEq] at H
          obtain ⟨rfl, rfl⟩ := H
          go_wp2
          go_ret2
          exact ⟨_, by first | rfl | (simp [errW_none, errW_some] <;> rfl) | (simp [*, errW_none, errW_some] <;> rfl), by (with_reducible repeat (first | apply Kd.R_alloc | apply Kd.R_drewN | apply Kd.R_drew)); exact HO_6.out, by repeat (first | (with_reducible first | exact HB.out | apply below_alloc | apply pw_below_drewN | apply below_drew1) | exact HB.out)⟩

/-! ### spec_ShortestTour: function 43 -/
def spec_ShortestTour.f (k : Nat) (l0 : List (S26)) : Option (List Int × Int × Bool) := (spec_l09Directions.f k l0).bind fun t243 => (if t243 = true then ((spec_l09Best.f k l0 (([0] : List Int))).bind fun bt247 => (some (bt247.1, bt247.2, true))) else (some (([] : List Int), 0, false)))
theorem spec_ShortestTour.mono : ∀ a0 k, LeO (spec_ShortestTour.f k a0) (spec_ShortestTour.f (k + 1) a0) := by
  intro a0 k
  unfold spec_ShortestTour.f
  repeat' first
      | (with_reducible exact spec_l09Best.mono _ _ _)
      | (with_reducible exact spec_l09Directions.mono _ _)
      | (with_reducible exact LeO.refl _)
      | (with_reducible exact LeO.none _)
      | (with_reducible refine LeO.ite ?_ ?_)
      | (with_reducible refine LeO.bind ?_ (fun _ => ?_))
      | exact spec_l09Best.mono _ _ _
      | exact spec_l09Directions.mono _ _
      | exact LeO.none _
      | refine LeO.ite ?_ ?_
      | refine LeO.bind ?_ (fun _ => ?_)
set_option maxHeartbeats 8000000 in
set_option maxRecDepth 100000 in
theorem spec_ShortestTour.calls (k : Nat) (A0 : Option Addr) (c0 : Nat) (l0 : List (S26)) (r1 : List Int) (r2 : Int) (r3 : Bool) (w : World) (hr0 : Kd.C k26 w A0 l0.length l0) (hc0 : l0.length ≤ c0) (h : spec_ShortestTour.f k l0 = some (r1, r2, r3)) :
    Calls Try.prog 43 #[.slice A0 l0.length c0] w fun e w' => ∃ v0_ : Value, e = .returned (.tuple #[v0_, .int .i64 r2, .bool r3]) ∧ Kd.R (Kd.int .i64) 2 w' w.heap.size (fun _ => True) v0_ r1 ∧ Below w.heap.size w w' := by
  have HR0 := Aside0.mk hr0
  have HC0 := Aside0.mk hc0
  clear hr0 hc0
  have HB := Aside0.mk (Below.refl w.heap.size w)
  have H : ((spec_l09Directions.f k l0).bind fun t243 => (if t243 = true then ((spec_l09Best.f k l0 (([0] : List Int))).bind fun bt247 => (some (bt247.1, bt247.2, true))) else (some (([] : List Int), 0, false)))) = some (r1, r2, r3) := h
  clear h
  replace H := Option.bind_eq_some_iff.mp H
  obtain ⟨t243, A20, H⟩ := H
  replace H : (if t243 = true then ((spec_l09Best.f k l0 (([0] : List Int))).bind fun bt247 => (some (bt247.1, bt247.2, true))) else (some (([] : List Int), 0, false))) = some (r1, r2, r3) := H
  have A2 := Aside0.mk A20
  clear A20
  by_cases c3 : t243 = true
  · subst c3
    have H1 : ((spec_l09Best.f k l0 (([0] : List Int))).bind fun bt247 => (some (bt247.1, bt247.2, true))) = some (r1, r2, r3) := by rw [if_pos rfl] at H; exact H
    clear H
    have H := H1
    clear H1
    obtain ⟨y244, hy244⟩ : ∃ y_ : List Int, y_ = (([0] : List Int)) := ⟨_, rfl⟩
    replace H : ((spec_l09Best.f k l0 y244).bind fun bt247 => (some (bt247.1, bt247.2, true))) = some (r1, r2, r3) := by first | (rw [hy244]; with_reducible exact H) | (have H2_ := (Option.bind_some _ _).symm.trans H; rw [hy244]; with_reducible exact H2_) | (have H2_ := (Option.bind_some _ _).symm.trans H; with_reducible exact H2_) | with_reducible exact H | (rw [hy244]; exact H) | exact H
    have Ny244 := Aside0.mk hy244
    clear hy244
    replace H := Option.bind_eq_some_iff.mp H
    obtain ⟨⟨t247, t248⟩, A40, H⟩ := H
    replace H : (some (t247, t248, true)) = some (r1, r2, r3) := H
    have A4 := Aside0.mk A40
    clear A40
    simp only [Option.some.injEq, Prod.mk.injEq] at H
    obtain ⟨rfl, rfl, rfl⟩ := H
    go_enter Try.func43, Try.ntmps43
    go_wp2_with (first | ((with_reducible refine gate_callee (f := 64) rfl ?_); refine goesL_ (some 8) rfl rfl Try.func64 (by kernel_rfl) rfl #[.slice A0 l0.length c0] rfl (by (try simp only [List.map_toArray, List.map_cons, List.map_nil]); first | done | rfl | (simp only [List.length_drop, List.length_take]; rfl)) ?_; (with_reducible refine (spec_l09Directions.calls k _ _ l0 true _ ?side1 ?side2 A2.out).mono ?_); (case side1 => repeat (first | exact HR0.out | (with_reducible refine Kd.C_alloc ?_ _) | (with_reducible refine Kd.C_drewN ?_ _) | (with_reducible refine Kd.C_drew ?_))); (case side2 => exact HC0.out); rintro e w5 ⟨rfl, hb⟩; refine ⟨_, rfl, ?_⟩; have n0_ := Aside0.mk (below_step (by repeat (first | (with_reducible first | exact HB.out | apply below_alloc | apply pw_below_drewN | apply below_drew1) | exact HB.out)) hb); clear HB; have HB := n0_; clear n0_; (try clear hb); (try clear hb2); (try clear hk); (try clear hi)) | ((with_reducible refine gate_dst (N := 12) rfl ?_); refine Kd.R_lit (Kd.int .i64) _ 2 ?hg (N := 12) ?hd (xs := ([0] : List Int)) (inner := [.int .i64 0]) (ok := fun _ => True) (okp := fun _ => True) ?hr ?hp (fun _ hk => hk) trivial (Below.refl _ _) (Nat.le_refl _) (by simp) ?_; (case hd => rfl); (case hg => rfl); (case hr => first | (go_simp; done) | (go_simp; rfl)); (case hp => exact (Reps.one (show Kd.M (Kd.int .i64) _ _ _ 0 [.int .i64 0] from rfl) (Reps.none _ _))); intro v245 w6 ho7 hb hg_ hnew_; clear hg_ hnew_; (first | rw [← Ny244.out] at ho7 | (simp only [Int.reduceToNat] at ho7; rw [← Ny244.out] at ho7)); have n0_ := Aside0.mk (Kd.R_lower ho7 (below_size (by repeat (first | (with_reducible first | exact HB.out | apply below_alloc | apply pw_below_drewN | apply below_drew1) | exact HB.out)))); have n1_ := Aside0.mk (below_step (by repeat (first | (with_reducible first | exact HB.out | apply below_alloc | apply pw_below_drewN | apply below_drew1) | exact HB.out)) hb); clear HB; have HO246 := n0_; have HB := n1_; clear n0_ n1_; clear hb ho7; obtain ⟨Ao8, co8, eo8⟩ := Kd.R_slice HO246.out; subst eo8) | ((with_reducible refine gate_callee (f := 86) rfl ?_); refine goesL_ (some 13) rfl rfl Try.func86 (by kernel_rfl) rfl #[.slice A0 l0.length c0, .slice Ao8 y244.length co8] rfl (by (try simp only [List.map_toArray, List.map_cons, List.map_nil]); first | done | rfl | (simp only [List.length_drop, List.length_take]; rfl)) ?_; (with_reducible refine (spec_l09Best.calls k _ _ l0 _ _ y244 t247 t248 _ ?side1 ?side2 ?side3 ?side4 A4.out).mono ?_); (case side1 => repeat (first | exact (Kd.C_below HR0.out HB.out) | (with_reducible refine Kd.C_alloc ?_ _) | (with_reducible refine Kd.C_drewN ?_ _) | (with_reducible refine Kd.C_drew ?_))); (case side2 => exact HC0.out); (case side3 => repeat (first | exact (Kd.R_reads' HO246.out).2.2 | (with_reducible refine Kd.C_alloc ?_ _) | (with_reducible refine Kd.C_drewN ?_ _) | (with_reducible refine Kd.C_drew ?_))); (case side4 => exact (Kd.R_reads' HO246.out).2.1); rintro e w9 ⟨v249, rfl, ho0, hb⟩; refine ⟨_, rfl, ?_⟩; have n0_ := Aside0.mk (Kd.R_elder' (by (with_reducible repeat (first | apply Kd.R_alloc | apply Kd.R_drewN | apply Kd.R_drew)); exact HO246.out) (Kd.R_base ho0) hb); have n1_ := Aside0.mk (Kd.R_lower (Kd.R_new' ho0 (Kd.R_lt (by (with_reducible repeat (first | apply Kd.R_alloc | apply Kd.R_drewN | apply Kd.R_drew)); exact HO246.out))) (below_size (by repeat (first | (with_reducible first | exact HB.out | apply below_alloc | apply pw_below_drewN | apply below_drew1) | exact HB.out)))); have n2_ := Aside0.mk (below_step (by repeat (first | (with_reducible first | exact HB.out | apply below_alloc | apply pw_below_drewN | apply below_drew1) | exact HB.out)) hb); clear HO246; clear HB; have HO246 := n0_; have HO250 := n1_; have HB := n2_; clear n0_ n1_ n2_; (try clear hb); (try clear hb2); (try clear hk); (try clear hi); (try clear ho0)))
    go_ret3
    exact ⟨_, by first | rfl | (simp [errW_none, errW_some] <;> rfl) | (simp [*, errW_none, errW_some] <;> rfl), by (with_reducible repeat (first | apply Kd.R_alloc | apply Kd.R_drewN | apply Kd.R_drew)); exact Kd.R_mono HO250.out (fun _ hk => trivial), by repeat (first | (with_reducible first | exact HB.out | apply below_alloc | apply pw_below_drewN | apply below_drew1) | exact HB.out)⟩
  · replace c3 := Bool.eq_false_iff.mpr c3
    subst c3
    have H1 : (some (([] : List Int), 0, false)) = some (r1, r2, r3) := by rw [if_neg (show ¬ (false = true) by decide)] at H; exact H
    clear H
    have H := H1
    clear H1
    simp only [Option.some.injEq, Prod.mk.injEq] at H
    obtain ⟨rfl, rfl, rfl⟩ := H
    go_enter Try.func43, Try.ntmps43
    go_wp2_with (first | ((with_reducible refine gate_callee (f := 64) rfl ?_); refine goesL_ (some 8) rfl rfl Try.func64 (by kernel_rfl) rfl #[.slice A0 l0.length c0] rfl (by (try simp only [List.map_toArray, List.map_cons, List.map_nil]); first | done | rfl | (simp only [List.length_drop, List.length_take]; rfl)) ?_; (with_reducible refine (spec_l09Directions.calls k _ _ l0 false _ ?side1 ?side2 A2.out).mono ?_); (case side1 => repeat (first | exact HR0.out | (with_reducible refine Kd.C_alloc ?_ _) | (with_reducible refine Kd.C_drewN ?_ _) | (with_reducible refine Kd.C_drew ?_))); (case side2 => exact HC0.out); rintro e w10 ⟨rfl, hb⟩; refine ⟨_, rfl, ?_⟩; have n0_ := Aside0.mk (below_step (by repeat (first | (with_reducible first | exact HB.out | apply below_alloc | apply pw_below_drewN | apply below_drew1) | exact HB.out)) hb); clear HB; have HB := n0_; clear n0_; (try clear hb); (try clear hb2); (try clear hk); (try clear hi)))
    go_ret3
    exact ⟨_, by first | rfl | (simp [errW_none, errW_some] <;> rfl) | (simp [*, errW_none, errW_some] <;> rfl), by first | exact Kd.R_nil _ _ _ _ _ | exact Kd.N_nil _ _ _ _ _ | exact Kd.V_nil _ _ _ _ _ | exact Kd.Q_nil _ _ _ _ _ | exact Kd.S_nil _ _ _ _ _, by repeat (first | (with_reducible first | exact HB.out | apply below_alloc | apply pw_below_drewN | apply below_drew1) | exact HB.out)⟩

/-! ### laws_markDirectionS: function 44 -/
def laws_markDirectionS.l0 : Nat → List (S26) → Int → Int → Option (Int × (List (S26)))
  | 0, _, _, _ => none
  | k + 1, x0, x1, x5 => if x5 < (x0.length : Int) then (if 0 ≤ x5 then ((some (x0.set (x5 : Int).toNat (⟨x1, (rd_T26 x0 x5).f1⟩ : S26) : List (S26))).bind fun y251 => (laws_markDirectionS.l0 k (y251.set (x5 : Int).toNat (⟨(rd_T26 y251 x5).f0, wrap64 (x1 + 1)⟩ : S26)) (wrap64 ((wrap64 (x1 + 1)) + 1)) (wrap64 (x5 + 1)))) else (none)) else (some (x1, x0))
def laws_markDirectionS.f (k : Nat) (l0 : List (S26)) (a1 : Int) : Option (Int × (List (S26))) := laws_markDirectionS.l0 k l0 a1 0
theorem laws_markDirectionS.mono_l : ∀ k, (∀ y0 y1 y2, LeO (laws_markDirectionS.l0 k y0 y1 y2) (laws_markDirectionS.l0 (k + 1) y0 y1 y2))
  | 0 => fun _ _ _ r h => by simp [laws_markDirectionS.l0] at h
  | k + 1 => by
    have ih0 := laws_markDirectionS.mono_l k
    · intro y0 y1 y2
      unfold laws_markDirectionS.l0
      repeat' first
      | (with_reducible exact ih0 _ _ _)
      | (with_reducible exact LeO.refl _)
      | (with_reducible exact LeO.none _)
      | (with_reducible refine LeO.ite ?_ ?_)
      | (with_reducible refine LeO.bind ?_ (fun _ => ?_))
      | exact ih0 _ _ _
      | exact LeO.none _
      | refine LeO.ite ?_ ?_
      | refine LeO.bind ?_ (fun _ => ?_)
theorem laws_markDirectionS.mono : ∀ a0 a1 k, LeO (laws_markDirectionS.f k a0 a1) (laws_markDirectionS.f (k + 1) a0 a1) := by
  intro a0 a1 k
  have ih0 := laws_markDirectionS.mono_l k
  unfold laws_markDirectionS.f
  repeat' first
      | (with_reducible exact ih0 _ _ _)
      | (with_reducible exact LeO.refl _)
      | (with_reducible exact LeO.none _)
      | (with_reducible refine LeO.ite ?_ ?_)
      | (with_reducible refine LeO.bind ?_ (fun _ => ?_))
      | exact ih0 _ _ _
      | exact LeO.none _
      | refine LeO.ite ?_ ?_
      | refine LeO.bind ?_ (fun _ => ?_)
set_option maxHeartbeats 8000000 in
set_option maxRecDepth 100000 in
theorem laws_markDirectionS.calls (k : Nat) (P0_ : Nat → Prop) (u9000_ : Value) (l0 : List (S26)) (a1 : Int) (r1 : Int) (r2 : List (S26)) (w0 w : World) (hB : Below w0.heap.size w0 w) (ho0 : Kd.R k26 26 w w0.heap.size P0_ u9000_ l0) (h : laws_markDirectionS.f k l0 a1 = some (r1, r2)) :
    Calls Try.prog 44 #[u9000_, .int .i64 a1] w fun e w' => e = .returned (.int .i64 r1) ∧ Kd.R k26 26 w' w0.heap.size (fun k_ => (P0_ k_ ∨ w.heap.size ≤ k_)) u9000_ r2 ∧ Below w0.heap.size w0 w' ∧ Kept w w' (fun k_ => P0_ k_) := by
  have HO0 := Aside0.mk (show Kd.R k26 26 w w0.heap.size (fun k_ => (P0_ k_ ∨ w.heap.size ≤ k_)) u9000_ l0 from Kd.R_mono ho0 (fun k_ hk => (.inl hk)))
  have HK := Aside0.mk (Kept.refl w (fun k_ => P0_ k_))
  have HW0 := Aside0.mk hB.size
  have HB := Aside0.mk hB
  clear hB
  have H : (laws_markDirectionS.l0 k l0 a1 0) = some (r1, r2) := h
  clear h
  have H' := Aside0.mk H
  clear H
  go_enter Try.func44, Try.ntmps44
  go_wp2
  go_loopg [1, 5] k (fun kq v1 v5 w' => ∃ (x0_1 : List (S26)) (x1_1 : Int) (x5_1 : Int), v1 = .int .i64 x1_1 ∧ v5 = .int .i64 x5_1 ∧ Aside0 (laws_markDirectionS.l0 kq x0_1 x1_1 x5_1 = some (r1, r2)) ∧ Aside0 (kq ≤ k) ∧ Aside0 (Kd.R k26 26 w' w0.heap.size (fun k_ => (P0_ k_ ∨ w.heap.size ≤ k_)) u9000_ x0_1) ∧ Aside0 (Kept w w' (fun k_ => P0_ k_)) ∧ Aside0 (Below w0.heap.size w0 w'))
  case atStart => exact ⟨(l0), (a1), (0), (by first | rfl | (simp; done) | (simp [*]; done)), (by first | rfl | (simp; done) | (simp [*]; done)), H', ⟨Nat.le_refl _⟩, ⟨by (with_reducible repeat (first | apply Kd.R_alloc | apply Kd.R_drewN | apply Kd.R_drew)); exact HO0.out⟩, ⟨by repeat (first | (with_reducible first | exact HK.out | apply Kept.alloc | apply Kept.drewN | apply Kept.drew) | exact HK.out)⟩, ⟨by repeat (first | (with_reducible first | exact HB.out | apply below_alloc | apply pw_below_drewN | apply below_drew1) | exact HB.out)⟩⟩
  case round =>
    clear H'
    try clear p2
    obtain ⟨x0_1, x1_1, x5_1, rfl, rfl, HA, HK1, HO_0, HK, HB⟩ := hrel
    cases gk with
    | zero => exact absurd HA.out (by simp [laws_markDirectionS.l0])
    | succ k1 =>
      have H := HA.out
      clear HA
      simp only [laws_markDirectionS.l0] at H
      by_cases c3 : x5_1 < (x0_1.length : Int)
      · rw [if_pos c3] at H
        have c3b0 : decide (x5_1 < (x0_1.length : Int)) = true := decide_eq_true c3
        clear c3
        by_cases c4 : 0 ≤ x5_1
        · rw [if_pos c4] at H
          have c4b0 : decide (0 ≤ x5_1) = true := decide_eq_true c4
          clear c4
          obtain ⟨y251, hy251⟩ : ∃ y_ : List (S26), y_ = (x0_1.set (x5_1 : Int).toNat (⟨x1_1, (rd_T26 x0_1 x5_1).f1⟩ : S26)) := ⟨_, rfl⟩
          replace H : (laws_markDirectionS.l0 k1 (y251.set (x5_1 : Int).toNat (⟨(rd_T26 y251 x5_1).f0, wrap64 (x1_1 + 1)⟩ : S26)) (wrap64 ((wrap64 (x1_1 + 1)) + 1)) (wrap64 (x5_1 + 1))) = some (r1, r2) := by first | (rw [hy251]; with_reducible exact H) | (have H2_ := (Option.bind_some _ _).symm.trans H; rw [hy251]; with_reducible exact H2_) | (have H2_ := (Option.bind_some _ _).symm.trans H; with_reducible exact H2_) | with_reducible exact H | (rw [hy251]; exact H) | exact H
          have Ny251 := Aside0.mk hy251
          clear hy251
          obtain ⟨y252, hy252⟩ : ∃ y_ : List (S26), y_ = (y251.set (x5_1 : Int).toNat (⟨(rd_T26 y251 x5_1).f0, wrap64 (x1_1 + 1)⟩ : S26)) := ⟨_, rfl⟩
          replace H : (laws_markDirectionS.l0 k1 y252 (wrap64 ((wrap64 (x1_1 + 1)) + 1)) (wrap64 (x5_1 + 1))) = some (r1, r2) := by first | (rw [hy252]; with_reducible exact H) | (have H2_ := (Option.bind_some _ _).symm.trans H; rw [hy252]; with_reducible exact H2_) | (have H2_ := (Option.bind_some _ _).symm.trans H; with_reducible exact H2_) | with_reducible exact H | (rw [hy252]; exact H) | exact H
          have Ny252 := Aside0.mk hy252
          clear hy252
          have H' := Aside0.mk H
          clear H
          obtain ⟨Ao7, co7, eo7⟩ := Kd.R_slice HO_0.out
          subst eo7
          have p5 : 0 ≤ (x5_1 : Int) := of_decide_eq_true (by first | (with_reducible assumption) | assumption)
          have q5 : (x5_1 : Int) < ((x0_1.length : Int) : Int) := of_decide_eq_true (by first | (with_reducible assumption) | assumption)
          obtain ⟨go5, co5, eo5, gb5, gl5, cl5, HG5⟩ := Kd.R_form HO_0.out (by omega)
          (first | cases eo5 | (injection eo5 with ea_ en_ ec_; (first | subst ea_ | (injection ea_ with ea_; subst ea_)); subst ec_; clear en_))
          have GB5 := Aside0.mk gb5
          have GG5 := Aside0.mk HG5
          clear gb5 gl5 HG5
          have HMgo5 := Aside0.mk (show (P0_ go5 ∨ w.heap.size ≤ go5) from (HO_0.out.1 _ rfl))
          obtain ⟨ce5, hcl5, hM5, hcc5, hfr5⟩ := Kd.R_elem HO_0.out z26 (x5_1 : Int) p5 q5
          obtain rfl := k26_openM hM5
          have hx5_0 : wr.cell? ⟨go5, (x5_1 : Int).toNat * 2, none⟩ = some (.int .i64 ((rd_T26 x0_1 x5_1).f0)) := hcc5 0 _ rfl
          have hx5_1 : wr.cell? ⟨go5, (x5_1 : Int).toNat * 2 + 1, none⟩ = some (.int .i64 ((rd_T26 x0_1 x5_1).f1)) := hcc5 1 _ rfl
          have hf5_0 : wr.frozen? ⟨go5, (x5_1 : Int).toNat * 2, none⟩ = false := hfr5 0
          have hf5_1 : wr.frozen? ⟨go5, (x5_1 : Int).toNat * 2 + 1, none⟩ = false := hfr5 1
          clear hcl5 hcc5 hfr5 hM5
          replace p5 := eq_true p5
          replace q5 := eq_true q5
          have HX8 := Aside0.mk (show Kd.R k26 26 wr w0.heap.size (fun k_ => (P0_ k_ ∨ w.heap.size ≤ k_)) (.slice (some ⟨go5, 0, none⟩) x0_1.length co7) x0_1 from (by (with_reducible repeat (first | apply Kd.R_alloc | apply Kd.R_drewN | apply Kd.R_drew)); exact HO_0.out))
          obtain ⟨ce8, hcl8, hM8, hcc8, hfr8⟩ := Kd.R_elem HX8.out z26 (x5_1 : Int) (of_decide_eq_true (by first | (with_reducible assumption) | assumption)) (by have h_ : (x5_1 : Int) < ((x0_1.length : Int) : Int) := of_decide_eq_true (by first | (with_reducible assumption) | assumption); first | exact h_ | (have e_ := (Kd.R_reads' HO_0.out).1; omega) | simpa using h_)
          obtain rfl := k26_openM hM8
          have HP8 := Kd.R_seg HX8.out (x5_1 : Int) (of_decide_eq_true (by first | (with_reducible assumption) | assumption)) (by have h_ : (x5_1 : Int) < ((x0_1.length : Int) : Int) := of_decide_eq_true (by first | (with_reducible assumption) | assumption); first | exact h_ | (have e_ := (Kd.R_reads' HO_0.out).1; omega) | simpa using h_) (seg := [.int .i64 x1_1]) (j := 0) hcl8 hcc8 (show 1 ≤ 2 from by decide) (x' := (⟨x1_1, (rd_T26 x0_1 x5_1).f1⟩ : S26)) (k26_mkM _ _ _ (⟨x1_1, (rd_T26 x0_1 x5_1).f1⟩ : S26) ) (fun _ hk => hk)
          have hx8_0 := hcc8 0 _ rfl
          (try simp only [show (k26).sz = 2 from rfl, Nat.mul_one, Nat.add_zero] at hx8_0)
          have hf8_0 := hfr8 0
          (try simp only [show (k26).sz = 2 from rfl, Nat.mul_one, Nat.add_zero] at hf8_0)
          clear hcl8 hcc8 hfr8 hM8
          go_wp2_with (first | ((with_reducible refine gate_store (t := 2) (p := 16) rfl ?_); refine store_event (t := 2) (p := 16) (v := ?vo_w9) (w1 := (wr.setCell ⟨go5, (x5_1 : Int).toNat * 2, none⟩ (.int .i64 x1_1))) ?hg ?ho ?hn ?hr ?_; (case ho => rfl); (case hg => rfl); (case hn => rfl); (case hr => first | (go_simp; done) | (go_simp; rfl)); intro w9 hw; have hg : wr.grownBy w9 (some go5) := (by rw [hw]; exact HP8.2); have hp_ : Kd.R k26 26 w9 w0.heap.size (fun k_ => (P0_ k_ ∨ w.heap.size ≤ k_)) (.slice (some ⟨go5, 0, none⟩) x0_1.length co7) y251 := (by rw [hw, Ny251.out]; exact HP8.1); clear HP8; have n0_ := Aside0.mk (hp_); have n1_ := Aside0.mk ((by rw [hw]; exact below_set (HB.out) GB5.out : Below w0.heap.size w0 w9)); have n2_ := Aside0.mk (Kept.of_grown (S := (fun k_ => P0_ k_)) hg (by repeat (first | (with_reducible first | exact HK.out | apply Kept.alloc | apply Kept.drewN | apply Kept.drew) | exact HK.out)) (fun k_ e_ => (HO_0.out.1 k_ e_))); clear HO_0; clear HB; clear HK; have HO_0 := n0_; have HB := n1_; have HK := n2_; clear n0_ n1_ n2_; clear hg hw hp_; have p6 : 0 ≤ (x5_1 : Int) := of_decide_eq_true (by first | (with_reducible assumption) | assumption); have q6 : (x5_1 : Int) < ((x0_1.length : Int) : Int) := of_decide_eq_true (by first | (with_reducible assumption) | assumption); obtain ⟨ce6, hcl6, hM6, hcc6, hfr6⟩ := Kd.R_elem HO_0.out z26 (x5_1 : Int) p6 q6; obtain rfl := k26_openM hM6; have hx6_0 : w9.cell? ⟨go5, (x5_1 : Int).toNat * 2, none⟩ = some (.int .i64 ((rd_T26 y251 x5_1).f0)) := hcc6 0 _ rfl; have hx6_1 : w9.cell? ⟨go5, (x5_1 : Int).toNat * 2 + 1, none⟩ = some (.int .i64 ((rd_T26 y251 x5_1).f1)) := hcc6 1 _ rfl; have hf6_0 : w9.frozen? ⟨go5, (x5_1 : Int).toNat * 2, none⟩ = false := hfr6 0; have hf6_1 : w9.frozen? ⟨go5, (x5_1 : Int).toNat * 2 + 1, none⟩ = false := hfr6 1; clear hcl6 hcc6 hfr6 hM6; replace p6 := eq_true p6; replace q6 := eq_true q6; have HX10 := Aside0.mk (show Kd.R k26 26 w9 w0.heap.size (fun k_ => (P0_ k_ ∨ w.heap.size ≤ k_)) (.slice (some ⟨go5, 0, none⟩) x0_1.length co7) y251 from (by (with_reducible repeat (first | apply Kd.R_alloc | apply Kd.R_drewN | apply Kd.R_drew)); exact HO_0.out)); obtain ⟨ce10, hcl10, hM10, hcc10, hfr10⟩ := Kd.R_elem HX10.out z26 (x5_1 : Int) (of_decide_eq_true (by first | (with_reducible assumption) | assumption)) (by have h_ : (x5_1 : Int) < ((x0_1.length : Int) : Int) := of_decide_eq_true (by first | (with_reducible assumption) | assumption); first | exact h_ | (have e_ := (Kd.R_reads' HO_0.out).1; omega) | simpa using h_); obtain rfl := k26_openM hM10; have HP10 := Kd.R_seg HX10.out (x5_1 : Int) (of_decide_eq_true (by first | (with_reducible assumption) | assumption)) (by have h_ : (x5_1 : Int) < ((x0_1.length : Int) : Int) := of_decide_eq_true (by first | (with_reducible assumption) | assumption); first | exact h_ | (have e_ := (Kd.R_reads' HO_0.out).1; omega) | simpa using h_) (seg := [.int .i64 (wrap64 (x1_1 + 1))]) (j := 1) hcl10 hcc10 (show 2 ≤ 2 from by decide) (x' := (⟨(rd_T26 y251 x5_1).f0, wrap64 (x1_1 + 1)⟩ : S26)) (k26_mkM _ _ _ (⟨(rd_T26 y251 x5_1).f0, wrap64 (x1_1 + 1)⟩ : S26) ) (fun _ hk => hk); have hx10_1 := hcc10 1 _ rfl; (try simp only [show (k26).sz = 2 from rfl, Nat.mul_one, Nat.add_zero] at hx10_1); have hf10_1 := hfr10 1; (try simp only [show (k26).sz = 2 from rfl, Nat.mul_one, Nat.add_zero] at hf10_1); clear hcl10 hcc10 hfr10 hM10) | ((with_reducible refine gate_store (t := 2) (p := 23) rfl ?_); refine store_event (t := 2) (p := 23) (v := ?vo_w11) (w1 := (w9.setCell ⟨go5, (x5_1 : Int).toNat * 2 + 1, none⟩ (.int .i64 (wrap64 (x1_1 + 1))))) ?hg ?ho ?hn ?hr ?_; (case ho => rfl); (case hg => rfl); (case hn => rfl); (case hr => first | (go_simp; done) | (go_simp; rfl)); intro w11 hw; have hg : w9.grownBy w11 (some go5) := (by rw [hw]; exact HP10.2); have hp_ : Kd.R k26 26 w11 w0.heap.size (fun k_ => (P0_ k_ ∨ w.heap.size ≤ k_)) (.slice (some ⟨go5, 0, none⟩) x0_1.length co7) y252 := (by rw [hw, Ny252.out]; exact HP10.1); clear HP10; have n0_ := Aside0.mk (hp_); have n1_ := Aside0.mk ((by rw [hw]; exact below_set (HB.out) GB5.out : Below w0.heap.size w0 w11)); have n2_ := Aside0.mk (Kept.of_grown (S := (fun k_ => P0_ k_)) hg (by repeat (first | (with_reducible first | exact HK.out | apply Kept.alloc | apply Kept.drewN | apply Kept.drew) | exact HK.out)) (fun k_ e_ => (HO_0.out.1 k_ e_))); clear HO_0; clear HB; clear HK; have HO_0 := n0_; have HB := n1_; have HK := n2_; clear n0_ n1_ n2_; clear hg hw hp_))
          go_roundg k1
          case measure => have := HK1.out; omega
          case rel => exact ⟨(y252), (wrap64 ((wrap64 (x1_1 + 1)) + 1)), (wrap64 (x5_1 + 1)), (by first | rfl | (simp; done) | (simp [*]; done)), (by first | rfl | (simp; done) | (simp [*]; done)), H', ⟨by have := HK1.out; omega⟩, ⟨by (with_reducible repeat (first | apply Kd.R_alloc | apply Kd.R_drewN | apply Kd.R_drew)); exact HO_0.out⟩, ⟨by repeat (first | (with_reducible first | exact HK.out | apply Kept.alloc | apply Kept.drewN | apply Kept.drew) | exact HK.out)⟩, ⟨by repeat (first | (with_reducible first | exact HB.out | apply below_alloc | apply pw_below_drewN | apply below_drew1) | exact HB.out)⟩⟩
        · rw [if_neg c4] at H
          exact absurd H (by simp)
      · rw [if_neg c3] at H
        have c3b0 : decide (x5_1 < (x0_1.length : Int)) = false := decide_eq_false c3
        clear c3
        simp only [Option.some.injEq, Prod.mk.injEq] at H
        obtain ⟨rfl, rfl⟩ := H
        obtain ⟨Ao12, co12, eo12⟩ := Kd.R_slice HO_0.out
        subst eo12
        go_wp2
        go_ret
        exact ⟨by first | rfl | (simp [errW_none, errW_some] <;> rfl) | (simp [*, errW_none, errW_some] <;> rfl), by (with_reducible repeat (first | apply Kd.R_alloc | apply Kd.R_drewN | apply Kd.R_drew)); exact HO_0.out, by repeat (first | (with_reducible first | exact HB.out | apply below_alloc | apply pw_below_drewN | apply below_drew1) | exact HB.out), by repeat (first | (with_reducible first | exact HK.out | apply Kept.alloc | apply Kept.drewN | apply Kept.drew) | exact HK.out)⟩

end Go.Proofs.Ytekcngoemeadlaa.T
