/-
  Kinds for the cells of float32 and float64: a value's bits, read and made as whole numbers and bools are.
-/
import Derived.Test.YtncckihaacceaaaWWords
import Derived.Test.YtncckihaacceaaaWMore
import Derived.Test.YtncckihaacceaaaWFoot
import Derived.Test.YtncckihaacceaaaWLast
import Derived.Test.YtncckihaacceaaaWTab
import Derived.Laws.Entries
namespace Go.Proofs.YtncckihaacceaaaW.PrintWords
open Go.RowKit
theorem run_store_float (P : Program) (w : World) (a : Addr) (m : Mode) (k : FloatKind) (b : Nat) : (store a (.float k b) m).run P w = stored P w a (.float k b) m := run_store P w a _ m rfl
theorem run_store_complex (P : Program) (w : World) (a : Addr) (m : Mode) (k : FloatKind) (x y : Nat) : (store a (.complex k x y) m).run P w = stored P w a (.complex k x y) m := run_store P w a _ m rfl
attribute [go_sem] run_store_float run_store_complex
section
variable {P : Program} {ops : Array Oper} {Q : Exit → Act → World → Prop}
/-- An operation that gives one value and one world: a NaN that is drawn. -/
theorem val_ {oi : Oper} {N : Option Tmp} {a : Act} {w w' : World} {v : Value} {K : Act → World → Prop} (hw : Region.wanted oi (yielded ops a.tmps) = true) (hN : oi.dst = N) (hrun : (execOp a.eval oi).run P w = .ok (.value v) w')
    (h : K (a.put N v) w') : if Region.wanted oi (yielded ops a.tmps) = true then Oper.wp P oi a w K Q else K (a.put N undef) w := by
  rw [if_pos hw]
  subst hN
  unfold Oper.wp
  rw [hrun]
  exact h
end
namespace Kd
def f32 : Kd Nat := scalar (Value.float .f32) (fun _ => rfl)
def f64 : Kd Nat := scalar (Value.float .f64) (fun _ => rfl)
section
variable {w W : World} {A : Option Addr} {n : Nat}
theorem at_f32 {xs : List Nat} (h : f32.C w A n xs) (i : Int) (h0 : 0 ≤ i) (h1 : i < n) : ∃ ad, A = some ad ∧ w.cell? (ad.add i.toNat) = some (.float .f32 (rdOf 0 xs i)) :=
  ReadsOf.at_ (reads_of_C (enc := Value.float .f32) (d := 0) (h1 := fun _ => rfl) h) i h0 h1
theorem at_f64 {xs : List Nat} (h : f64.C w A n xs) (i : Int) (h0 : 0 ≤ i) (h1 : i < n) : ∃ ad, A = some ad ∧ w.cell? (ad.add i.toNat) = some (.float .f64 (rdOf 0 xs i)) :=
  ReadsOf.at_ (reads_of_C (enc := Value.float .f64) (d := 0) (h1 := fun _ => rfl) h) i h0 h1
end
theorem heap_f32 : Heap f32 := ⟨fun _ h => h⟩
theorem heap_f64 : Heap f64 := ⟨fun _ h => h⟩
end Kd
end Go.Proofs.YtncckihaacceaaaW.PrintWords
