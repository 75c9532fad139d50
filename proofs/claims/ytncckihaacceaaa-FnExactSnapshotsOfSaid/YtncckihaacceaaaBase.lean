/-
  Small lemmas that open the arguments of this seat's laws: slices of structs and of floats, told as lists (the printed words' 'Kd.C').
-/
import Derived.Test.YtncckihaacceaaaRows
import Derived.Test.YtncckihaacceaaaWWords
import Derived.Test.YtncckihaacceaaaWLast
import Derived.Test.YtncckihaacceaaaWMore
import Derived.WalkKit
import Derived.ProofKit
import Derived.OpenShut
import Derived.ChangeOld
import Derived.Below
import Derived.SizedLaws
import Derived.Deep.Slices
import Derived.Deep.Fields
import Derived.Lib.SmallJoins
namespace Go.Proofs.Ytncckihaacceaaa.Base
open Go.ChangeShapes Go.WideShapes Go.ChangeAt Go.RowKit Go.Deep Go.Joins
open Go.Proofs.YtncckihaacceaaaW.PrintWords Go.Proofs.YtncckihaacceaaaW.PrintLast
set_option linter.unusedVariables false

theorem own : ownKnob Try.prog.godebug = none := by kernel_rfl
theorem laidOut : laidOutB Try.prog = true := by kernel_rfl
theorem cells71 : Try.prog.cellsOf 71 = 2 := by kernel_rfl
theorem cells73 : Try.prog.cellsOf 73 = 4 := by kernel_rfl
theorem cells23 : Try.prog.cellsOf 23 = 1 := by kernel_rfl
theorem cells2 : Try.prog.cellsOf 2 = 1 := by kernel_rfl

/-- From 'for each index' to a list. -/
theorem list_of {α : Type} {n : Nat} {p : Nat → α → Prop} (h : ∀ i, i < n → ∃ x, p i x) : ∃ l : List α, l.length = n ∧ ∀ i x, l[i]? = some x → p i x := by
  induction n with
  | zero => exact ⟨[], rfl, fun i x hx => by simp at hx⟩
  | succ n ih =>
    obtain ⟨l, hl, hp⟩ := ih (fun i hi => h i (by omega))
    obtain ⟨x, hx⟩ := h n (by omega)
    refine ⟨l ++ [x], by simp [hl], fun i y hy => ?_⟩
    rcases Nat.lt_or_ge i l.length with hi | hi
    · rw [List.getElem?_append_left hi] at hy
      exact hp i y hy
    · rw [List.getElem?_append_right hi] at hy
      have h0 : i - l.length = 0 := by
        rcases Nat.eq_zero_or_pos (i - l.length) with h0 | h0
        · exact h0
        · rw [List.getElem?_eq_none (by simp; omega)] at hy
          cases hy
      rw [h0] at hy
      simp at hy
      subst hy
      obtain rfl : i = n := by omega
      exact hx

section
variable {H : Type} {enc : TypeId × Value → H} {P : Program} {w : World} {base : Nat} {spare : Nat → Bool} {held : Bool}

/-- A slice that came in, told as a row that is read: from what each element's cells say. -/
theorem row_of {α : Type} (d : Kd α) (Q : α → Prop) {t e : TypeId} {v : Value} {x : DataW H} {ps : List MemPlace} {r : Reach} {b0 : Nat} (ht : P.underlying t = some (.slice e)) (hC : P.cellsOf e = d.sz) (hv : Value.okWide P w r b0 t v)
    (h : DataW.Trod enc P w base spare held t v x ps)
    (hel : ∀ (n : Nat) (cs : List Value) (y : DataW H × List MemPlace), DataW.trod enc P w base spare held n e cs = some y → ∃ a : α, d.K w a cs ∧ Q a) :
    ∃ (A : Option Addr) (c : Nat) (l : List α), v = .slice A l.length c ∧ l.length ≤ c ∧ c ≤ maxLen ∧ d.C w A l.length l ∧ ∀ a ∈ l, Q a := by
  obtain ⟨A, len, cap, rfl⟩ := okWide_slice ht hv
  obtain ⟨fuel, hf⟩ := h
  rcases open_slice ht hf with ⟨hcs, _⟩ | ⟨a, len', cap', m, n, D, Pl, hcs, hb, hl, hm, hmm, hx, hi⟩
  · simp [Value.cells] at hcs
    obtain ⟨rfl, rfl, rfl⟩ := hcs
    exact ⟨none, 0, [], rfl, Nat.le_refl _, by simp [maxLen], ⟨rfl, by simp, fun h => absurd h (by simp)⟩, by simp⟩
  · simp [Value.cells] at hcs
    obtain ⟨rfl, rfl, rfl⟩ := hcs
    have hle : len ≤ m := by rw [hmm]; split <;> omega
    have hex : ∀ i, i < len → ∃ z : α, (∃ cs', d.K w z cs' ∧ ∀ j u, cs'[j]? = some u → w.cell? (a.add (i * d.sz + j)) = some u) ∧ Q z := by
      intro i him
      obtain ⟨cs', hc, ht'⟩ := hi i (by omega)
      obtain ⟨z, hz, hq⟩ := hel _ _ _ ht'
      refine ⟨z, ⟨cs', hz, fun j u hu => ?_⟩, hq⟩
      rw [hC] at hc
      obtain ⟨_, hcl, hat⟩ := World.cells?_some hc
      have hj : j < d.sz := by
        have := (List.getElem?_eq_some_iff.1 hu).1
        omega
      have := hat j hj
      rw [← Go.Deep.add_add, this, hu]
    obtain ⟨l, hll, hlp⟩ := list_of hex
    subst hll
    refine ⟨some a, cap, l, rfl, hl, hm, ⟨rfl, by simp only [maxLen] at hm; omega, fun hn => ⟨a, rfl, fun j p hp => ?_⟩⟩, fun z hz => ?_⟩
    · obtain ⟨⟨c, hk, hc⟩, _⟩ := hlp j p hp
      exact ⟨c, d.K_len hk, hk, hc⟩
    · obtain ⟨i, hi', rfl⟩ := List.mem_iff_getElem.1 hz
      exact (hlp i _ (List.getElem?_eq_getElem hi')).2

set_option maxRecDepth 100000 in
/-- An element of one whole number. -/
theorem el_int {k : IntKind} {t : TypeId} (ht : P.underlying t = some (.int k)) (n : Nat) (cs : List Value) (y : DataW H × List MemPlace) (h : DataW.trod enc P w base spare held n t cs = some y) :
    ∃ a : Int, cs = [.int k a] ∧ (Lit.int k a).wf = true := by
  obtain ⟨a, e1, e2, wa⟩ := DataW.trod_int ht h
  exact ⟨a, e1, wa⟩

set_option maxRecDepth 100000 in
/-- An element of one float. -/
theorem el_float {k : FloatKind} {t : TypeId} (ht : P.underlying t = some (.float k)) (n : Nat) (cs : List Value) (y : DataW H × List MemPlace) (h : DataW.trod enc P w base spare held n t cs = some y) :
    ∃ a : Nat, cs = [.float k a] ∧ (Lit.float k a).wf = true := by
  cases n with
  | zero => simp [DataW.trod] at h
  | succ n =>
    unfold DataW.trod at h
    rw [ht] at h
    split at h <;> simp_all

set_option maxRecDepth 100000 in
theorem one_field (cs : List Value) (j : Nat) (n : Nat) (y : DataW H × List MemPlace) (h : DataW.trod enc Try.prog w base spare held n 2 ((cs.drop j).take (Try.prog.cellsOf 2)) = some y) :
    ∃ a : Int, cs[j]? = some (.int .i64 a) ∧ (Lit.int .i64 a).wf = true := by
  obtain ⟨a, e1, wa⟩ := el_int Try.underlying2 _ _ _ h
  rw [cells2] at e1
  refine ⟨a, ?_, wa⟩
  have : ((cs.drop j).take 1)[0]? = some (.int .i64 a) := by rw [e1]; rfl
  simpa using this

set_option maxRecDepth 100000 in
theorem one_float (cs : List Value) (j : Nat) (n : Nat) (y : DataW H × List MemPlace) (h : DataW.trod enc Try.prog w base spare held n 23 ((cs.drop j).take (Try.prog.cellsOf 23)) = some y) :
    ∃ a : Nat, cs[j]? = some (.float .f32 a) ∧ (Lit.float .f32 a).wf = true := by
  obtain ⟨a, e1, wa⟩ := el_float Try.underlying23 _ _ _ h
  rw [cells23] at e1
  refine ⟨a, ?_, wa⟩
  have : ((cs.drop j).take 1)[0]? = some (.float .f32 a) := by rw [e1]; rfl
  simpa using this

set_option maxRecDepth 100000 in
theorem el_two {t : TypeId} {f0 f1 : Field} (ht : Try.prog.underlying t = some (.struct #[f0, f1])) (hc : Try.prog.cellsOf t = 2) (h0 : f0.type = 2 ∧ f0.offset = 0) (h1 : f1.type = 2 ∧ f1.offset = 1) (n : Nat) (cs : List Value) (y : DataW H × List MemPlace)
    (h : DataW.trod enc Try.prog w base spare held n t cs = some y) :
    ∃ a b : Int, cs = [.int .i64 a, .int .i64 b] ∧ (Lit.int .i64 a).wf = true ∧ (Lit.int .i64 b).wf = true := by
  obtain ⟨y0, y1, m, rfl, hl, e0, e1⟩ := trod_struct2 ht h
  rw [h0.1, h0.2] at e0
  rw [h1.1, h1.2] at e1
  obtain ⟨a, ha, wa⟩ := one_field cs 0 _ _ e0
  obtain ⟨b, hb, wb⟩ := one_field cs 1 _ _ e1
  have hl' : cs.length = 2 := hl.trans hc
  clear hl e0 e1
  match cs, hl' with
  | [c0, c1], _ =>
    simp at ha hb
    subst ha hb
    exact ⟨a, b, rfl, wa, wb⟩

set_option maxRecDepth 100000 in
theorem el_dir (n : Nat) (cs : List Value) (y : DataW H × List MemPlace) (h : DataW.trod enc Try.prog w base spare held n 71 cs = some y) :
    ∃ a b : Int, cs = [.int .i64 a, .int .i64 b] ∧ (Lit.int .i64 a).wf = true ∧ (Lit.int .i64 b).wf = true :=
  el_two Try.underlying71 cells71 ⟨rfl, rfl⟩ ⟨rfl, rfl⟩ n cs y h

set_option maxRecDepth 100000 in
theorem el_source (n : Nat) (cs : List Value) (y : DataW H × List MemPlace) (h : DataW.trod enc Try.prog w base spare held n 73 cs = some y) :
    ∃ (a b : Int) (c : Nat) (d : Int), cs = [.int .i64 a, .int .i64 b, .float .f32 c, .int .i64 d] ∧ (Lit.int .i64 a).wf = true ∧ (Lit.int .i64 b).wf = true ∧ (Lit.float .f32 c).wf = true ∧ (Lit.int .i64 d).wf = true := by
  obtain ⟨xs, m, _, _, hl, hlen, hf⟩ := DataW.trod_struct Try.underlying73 h
  match xs, hlen with
  | [y0, y1, y2], _ =>
    have e0 := hf 0 _ rfl
    have e1 := hf 1 _ rfl
    have e2 := hf 2 _ rfl
    obtain ⟨a, b, hab, wa, wb⟩ := el_dir _ _ _ e0
    obtain ⟨c, hc, wc⟩ := one_float cs 2 _ _ e1
    obtain ⟨d, hd, wd⟩ := one_field cs 3 _ _ e2
    have hl' : cs.length = 4 := hl.trans cells73
    have hab' : (cs.drop 0).take 2 = [.int .i64 a, .int .i64 b] := by rw [← cells71]; exact hab
    clear hab hl hf e0 e1 e2
    match cs, hl' with
    | [c0, c1, c2, c3], _ =>
      simp at hab' hc hd
      obtain ⟨rfl, rfl⟩ := hab'
      subst hc hd
      exact ⟨a, b, c, d, rfl, wa, wb, wc, wd⟩
/-- A float that came in by value. -/
theorem open_float {k : FloatKind} {t : TypeId} {v : Value} {x : DataW H} {ps : List MemPlace} {r : Reach} {b0 : Nat} (ht : P.underlying t = some (.float k)) (hv : Value.okWide P w r b0 t v) (h : DataW.Trod enc P w base spare held t v x ps) :
    ∃ a : Nat, v = .float k a ∧ (Lit.float k a).wf = true := by
  have hv' : ∃ a, v = .float k a := by
    simp only [Value.okWide, ht, Cell.okWide] at hv
    cases v <;> simp_all [Cell.ok]
  obtain ⟨a, rfl⟩ := hv'
  obtain ⟨fuel, hf⟩ := h
  obtain ⟨b, e, wb⟩ := el_float ht _ _ _ hf
  simp [Value.cells] at e
  subst e
  exact ⟨_, rfl, wb⟩
end

end Go.Proofs.Ytncckihaacceaaa.Base
