/-
  Kinds for the cells of float32 and float64: a value's bits, read and made as whole numbers and bools are.
-/
import Derived.Test.YtncckihaacceaaaWWords
import Derived.Test.YtncckihaacceaaaWMore
import Derived.Test.YtncckihaacceaaaWFoot
import Derived.Test.YtncckihaacceaaaWLast
import Derived.Test.YtncckihaacceaaaWTab
import Derived.Laws.Entries
import Derived.Laws.FloatArith
import Derived.Laws.ComplexArith
import Derived.Laws.Cover3
namespace Go.Proofs.YtncckihaacceaaaW.PrintWords
open Go.RowKit
theorem run_store_float (P : Program) (w : World) (a : Addr) (m : Mode) (k : FloatKind) (b : Nat) : (store a (.float k b) m).run P w = stored P w a (.float k b) m := run_store P w a _ m rfl
theorem run_store_complex (P : Program) (w : World) (a : Addr) (m : Mode) (k : FloatKind) (x y : Nat) : (store a (.complex k x y) m).run P w = stored P w a (.complex k x y) m := run_store P w a _ m rfl
attribute [go_sem] run_store_float run_store_complex
@[go_sem] theorem unary_neg_float (k : FloatKind) (b : Nat) : Op.unary .neg (.float k b) = pure (.float k (Op.negFloat k b)) := rfl
section
variable {P : Program} {ops : Array Oper} {Q : Exit → Act → World → Prop}
/-- An operation that gives one value and one world: a NaN that is drawn. -/
theorem val_ {oi : Oper} {N : Option Tmp} {a : Act} {w w' : World} {v : Value} {K : Act → World → Prop} (hw : Region.wanted oi (yielded ops a.tmps) = true) (hN : oi.dst = N) (hrun : (execOp a.eval oi).run P w = .ok (.value v) w')
    (h : K (a.put N v) w') : if Region.wanted oi (yielded ops a.tmps) = true then Oper.wp P oi a w K Q else K (a.put N undef) w := by
  rw [if_pos hw]
  subst hN
  unfold Oper.wp
  rw [hrun]
  exact h
end
namespace Kd
def f32 : Kd Nat := scalar (Value.float .f32) (fun _ => rfl)
def f64 : Kd Nat := scalar (Value.float .f64) (fun _ => rfl)
section
variable {w W : World} {A : Option Addr} {n : Nat}
theorem at_f32 {xs : List Nat} (h : f32.C w A n xs) (i : Int) (h0 : 0 ≤ i) (h1 : i < n) : ∃ ad, A = some ad ∧ w.cell? (ad.add i.toNat) = some (.float .f32 (rdOf 0 xs i)) :=
  ReadsOf.at_ (reads_of_C (enc := Value.float .f32) (d := 0) (h1 := fun _ => rfl) h) i h0 h1
theorem at_f64 {xs : List Nat} (h : f64.C w A n xs) (i : Int) (h0 : 0 ≤ i) (h1 : i < n) : ∃ ad, A = some ad ∧ w.cell? (ad.add i.toNat) = some (.float .f64 (rdOf 0 xs i)) :=
  ReadsOf.at_ (reads_of_C (enc := Value.float .f64) (d := 0) (h1 := fun _ => rfl) h) i h0 h1
end
theorem heap_f32 : Heap f32 := ⟨fun _ h => h⟩
theorem heap_f64 : Heap f64 := ⟨fun _ h => h⟩
end Kd
/-- An operation on floats that is valid (it gives no NaN), and its result's bits. -/
def FOk (op : BinOp) (k : FloatKind) (x y : Nat) : Bool := (floatBits op k x y).isSome
def fq (op : BinOp) (k : FloatKind) (x y : Nat) : Nat := (floatBits op k x y).getD 0
theorem fq_some {op : BinOp} {k : FloatKind} {x y : Nat} (h : FOk op k x y = true) : floatBits op k x y = some (fq op k x y) := by
  unfold FOk at h
  unfold fq
  cases hb : floatBits op k x y with
  | none => rw [hb] at h; cases h
  | some r => rfl
theorem fok_some {op : BinOp} {k : FloatKind} {x y r : Nat} (h : floatBits op k x y = some r) : FOk op k x y = true ∧ fq op k x y = r := by
  unfold FOk fq
  rw [h]
  exact ⟨rfl, rfl⟩
theorem frun {P : Program} {op : BinOp} {k : FloatKind} {x y : Nat} (h : FOk op k x y = true) (t : TypeId) (w : World) : (binOp op t (.float k x) (.float k y)).run P w = .ok (.float k (fq op k x y)) w :=
  run_float_arith w op t k x y _ (fq_some h)
/-- A sum or a difference of complex numbers, part by part. -/
theorem crun {P : Program} {op : BinOp} (ho : op = .add ∨ op = .sub) {k : FloatKind} {a b c d : Nat} (h1 : FOk op k a c = true) (h2 : FOk op k b d = true) (t : TypeId) (w : World) :
    (binOp op t (.complex k a b) (.complex k c d)).run P w = .ok (.complex k (fq op k a c) (fq op k b d)) w :=
  run_complex_sum w op ho t k a b c d _ _ (by unfold cSumBits; rw [fq_some h1, fq_some h2]; rfl)
/-- A conversion between floats that is valid, and its result's bits. -/
def FC (_src _dst : TypeId) (s k : FloatKind) (x : Nat) : Bool := (floatToFloatBits s x k).isSome
def fc (s k : FloatKind) (x : Nat) : Nat := (floatToFloatBits s x k).getD 0
theorem fc_some {a b : TypeId} {s k : FloatKind} {x : Nat} (h : FC a b s k x = true) : floatToFloatBits s x k = some (fc s k x) := by
  unfold FC at h
  unfold fc
  cases hb : floatToFloatBits s x k with
  | none => rw [hb] at h; cases h
  | some r => rfl
theorem fcok_some {s k : FloatKind} {x r : Nat} (h : floatToFloatBits s x k = some r) (a b : TypeId) : FC a b s k x = true ∧ fc s k x = r := by
  unfold FC fc
  rw [h]
  exact ⟨rfl, rfl⟩
theorem frunc {P : Program} {src dst : TypeId} {s k : FloatKind} {x : Nat} (hs : (P.underlying src).isSome = true) (hd : P.underlying dst = some (.float k)) (h : FC src dst s k x = true) (w : World) : (convert src dst (.float s x)).run P w = .ok (.float k (fc s k x)) w :=
  run_convert_float_float w src dst s k x _ hs hd (fc_some h)
/-- A complex number's two words. -/
structure C64 where
  re : Nat
  im : Nat
def c64z : C64 := ⟨0, 0⟩
def cv (x : C64) : Value := .complex .f32 x.re x.im
namespace Kd
def c64 : Kd C64 := scalar cv (fun _ => rfl)
theorem at_c64 {w : World} {A : Option Addr} {n : Nat} {xs : List C64} (h : c64.C w A n xs) (i : Int) (h0 : 0 ≤ i) (h1 : i < n) : ∃ ad, A = some ad ∧ w.cell? (ad.add i.toNat) = some (.complex .f32 (rdOf c64z xs i).re (rdOf c64z xs i).im) :=
  ReadsOf.at_ (reads_of_C (enc := cv) (d := c64z) (h1 := fun _ => rfl) h) i h0 h1
theorem heap_c64 : Heap c64 := ⟨fun _ h => h⟩
end Kd
end Go.Proofs.YtncckihaacceaaaW.PrintWords
namespace Go.Proofs.YtncckihaacceaaaW.PrintLast
variable {P : Program} {ops : Array Oper} {Q : Exit → Act → World → Prop}
/-- A call of a function value that a place of the call's own holds. -/
theorem goesV_ {oi : Oper} {N : Option Tmp} {a : Act} {w : World} {K : Act → World → Prop} {f : FuncId} {fn : Func} {t : Tmp} {as : Array Operand} {ts : Array TypeId} (hf : P.funcs[f]? = some fn) (hname : (fn.name == "runtime.NumGoroutine") = false) (hb : fn.body.isSome = true) (args : Array Value)
    (hw : Region.wanted oi (yielded ops a.tmps) = true) (hN : oi.dst = N) (hop : oi.op = .call { callee := .value (.tmp t), args := as, argTypes := ts }) (ht : a.eval (.tmp t) = .func (.func f) #[] #[]) (hargs : as.map a.eval = args)
    (h : Calls P f args w fun e w' => ∃ v, e = .returned v ∧ K (a.put N v) w') : if Region.wanted oi (yielded ops a.tmps) = true then Oper.wp P oi a w K Q else K (a.put N undef) w := by
  refine call_ f args hw hN ?_ h
  have he := enters_ hf hname hb args w
  unfold execOp
  simp [hop, resolve, ht, Deferred.ofValue, invoke, hargs, he]
end Go.Proofs.YtncckihaacceaaaW.PrintLast
