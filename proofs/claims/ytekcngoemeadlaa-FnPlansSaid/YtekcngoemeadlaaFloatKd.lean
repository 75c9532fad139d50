/-
  Kinds for the cells of float32 and float64: a value's bits, read and made as whole numbers and bools are.
-/
import Derived.Test.YtekcngoemeadlaaWWords
import Derived.Test.YtekcngoemeadlaaWMore
import Derived.Test.YtekcngoemeadlaaWFoot
import Derived.Test.YtekcngoemeadlaaWLast
import Derived.Test.YtekcngoemeadlaaWTab
import Derived.Laws.Entries
import Derived.Laws.FloatArith
namespace Go.Proofs.YtekcngoemeadlaaW.PrintWords
open Go.RowKit
theorem run_store_float (P : Program) (w : World) (a : Addr) (m : Mode) (k : FloatKind) (b : Nat) : (store a (.float k b) m).run P w = stored P w a (.float k b) m := run_store P w a _ m rfl
theorem run_store_complex (P : Program) (w : World) (a : Addr) (m : Mode) (k : FloatKind) (x y : Nat) : (store a (.complex k x y) m).run P w = stored P w a (.complex k x y) m := run_store P w a _ m rfl
attribute [go_sem] run_store_float run_store_complex
section
variable {P : Program} {ops : Array Oper} {Q : Exit → Act → World → Prop}
/-- An operation that gives one value and one world: a NaN that is drawn. -/
theorem val_ {oi : Oper} {N : Option Tmp} {a : Act} {w w' : World} {v : Value} {K : Act → World → Prop} (hw : Region.wanted oi (yielded ops a.tmps) = true) (hN : oi.dst = N) (hrun : (execOp a.eval oi).run P w = .ok (.value v) w')
    (h : K (a.put N v) w') : if Region.wanted oi (yielded ops a.tmps) = true then Oper.wp P oi a w K Q else K (a.put N undef) w := by
  rw [if_pos hw]
  subst hN
  unfold Oper.wp
  rw [hrun]
  exact h
end
namespace Kd
def f32 : Kd Nat := scalar (Value.float .f32) (fun _ => rfl)
def f64 : Kd Nat := scalar (Value.float .f64) (fun _ => rfl)
section
variable {w W : World} {A : Option Addr} {n : Nat}
theorem at_f32 {xs : List Nat} (h : f32.C w A n xs) (i : Int) (h0 : 0 ≤ i) (h1 : i < n) : ∃ ad, A = some ad ∧ w.cell? (ad.add i.toNat) = some (.float .f32 (rdOf 0 xs i)) :=
  ReadsOf.at_ (reads_of_C (enc := Value.float .f32) (d := 0) (h1 := fun _ => rfl) h) i h0 h1
theorem at_f64 {xs : List Nat} (h : f64.C w A n xs) (i : Int) (h0 : 0 ≤ i) (h1 : i < n) : ∃ ad, A = some ad ∧ w.cell? (ad.add i.toNat) = some (.float .f64 (rdOf 0 xs i)) :=
  ReadsOf.at_ (reads_of_C (enc := Value.float .f64) (d := 0) (h1 := fun _ => rfl) h) i h0 h1
end
theorem heap_f32 : Heap f32 := ⟨fun _ h => h⟩
theorem heap_f64 : Heap f64 := ⟨fun _ h => h⟩
end Kd
/-- An operation on floats that is valid (it gives no NaN), and its result's bits. -/
def FOk (op : BinOp) (k : FloatKind) (x y : Nat) : Bool := (floatBits op k x y).isSome
def fq (op : BinOp) (k : FloatKind) (x y : Nat) : Nat := (floatBits op k x y).getD 0
theorem fq_some {op : BinOp} {k : FloatKind} {x y : Nat} (h : FOk op k x y = true) : floatBits op k x y = some (fq op k x y) := by
  unfold FOk at h
  unfold fq
  cases hb : floatBits op k x y with
  | none => rw [hb] at h; cases h
  | some r => rfl
theorem fok_some {op : BinOp} {k : FloatKind} {x y r : Nat} (h : floatBits op k x y = some r) : FOk op k x y = true ∧ fq op k x y = r := by
  unfold FOk fq
  rw [h]
  exact ⟨rfl, rfl⟩
theorem frun {P : Program} {op : BinOp} {k : FloatKind} {x y : Nat} (h : FOk op k x y = true) (t : TypeId) (w : World) : (binOp op t (.float k x) (.float k y)).run P w = .ok (.float k (fq op k x y)) w :=
  run_float_arith w op t k x y _ (fq_some h)
end Go.Proofs.YtekcngoemeadlaaW.PrintWords
