/-
  Kinds for the cells of float32 and float64: a value's bits, read and made as whole numbers and bools are.
-/
import Derived.Test.YtncckihaacceaaaWWords
import Derived.Test.YtncckihaacceaaaWMore
import Derived.Test.YtncckihaacceaaaWFoot
import Derived.Test.YtncckihaacceaaaWLast
import Derived.Test.YtncckihaacceaaaWTab
import Derived.Laws.Entries
import Derived.Laws.FloatArith
import Derived.Laws.ComplexArith
import Derived.Laws.Cover3
namespace Go.Proofs.YtncckihaacceaaaW.PrintWords
open Go.RowKit
theorem run_store_float (P : Program) (w : World) (a : Addr) (m : Mode) (k : FloatKind) (b : Nat) : (store a (.float k b) m).run P w = stored P w a (.float k b) m := run_store P w a _ m rfl
theorem run_store_complex (P : Program) (w : World) (a : Addr) (m : Mode) (k : FloatKind) (x y : Nat) : (store a (.complex k x y) m).run P w = stored P w a (.complex k x y) m := run_store P w a _ m rfl
attribute [go_sem] run_store_float run_store_complex
@[go_sem] theorem unary_neg_float (k : FloatKind) (b : Nat) : Op.unary .neg (.float k b) = pure (.float k (Op.negFloat k b)) := rfl
section
variable {P : Program} {ops : Array Oper} {Q : Exit → Act → World → Prop}
/-- An operation that gives one value and one world: a NaN that is drawn. -/
theorem val_ {oi : Oper} {N : Option Tmp} {a : Act} {w w' : World} {v : Value} {K : Act → World → Prop} (hw : Region.wanted oi (yielded ops a.tmps) = true) (hN : oi.dst = N) (hrun : (execOp a.eval oi).run P w = .ok (.value v) w')
    (h : K (a.put N v) w') : if Region.wanted oi (yielded ops a.tmps) = true then Oper.wp P oi a w K Q else K (a.put N undef) w := by
  rw [if_pos hw]
  subst hN
  unfold Oper.wp
  rw [hrun]
  exact h
end
namespace Kd
def f32 : Kd Nat := scalar (Value.float .f32) (fun _ => rfl)
def f64 : Kd Nat := scalar (Value.float .f64) (fun _ => rfl)
section
variable {w W : World} {A : Option Addr} {n : Nat}
theorem at_f32 {xs : List Nat} (h : f32.C w A n xs) (i : Int) (h0 : 0 ≤ i) (h1 : i < n) : ∃ ad, A = some ad ∧ w.cell? (ad.add i.toNat) = some (.float .f32 (rdOf 0 xs i)) :=
  ReadsOf.at_ (reads_of_C (enc := Value.float .f32) (d := 0) (h1 := fun _ => rfl) h) i h0 h1
theorem at_f64 {xs : List Nat} (h : f64.C w A n xs) (i : Int) (h0 : 0 ≤ i) (h1 : i < n) : ∃ ad, A = some ad ∧ w.cell? (ad.add i.toNat) = some (.float .f64 (rdOf 0 xs i)) :=
  ReadsOf.at_ (reads_of_C (enc := Value.float .f64) (d := 0) (h1 := fun _ => rfl) h) i h0 h1
end
theorem heap_f32 : Heap f32 := ⟨fun _ h => h⟩
theorem heap_f64 : Heap f64 := ⟨fun _ h => h⟩
end Kd
/-- An operation on floats that is valid (it gives no NaN), and its result's bits. -/
def FOk (op : BinOp) (k : FloatKind) (x y : Nat) : Bool := (floatBits op k x y).isSome
def fq (op : BinOp) (k : FloatKind) (x y : Nat) : Nat := (floatBits op k x y).getD 0
theorem fq_some {op : BinOp} {k : FloatKind} {x y : Nat} (h : FOk op k x y = true) : floatBits op k x y = some (fq op k x y) := by
  unfold FOk at h
  unfold fq
  cases hb : floatBits op k x y with
  | none => rw [hb] at h; cases h
  | some r => rfl
theorem fok_some {op : BinOp} {k : FloatKind} {x y r : Nat} (h : floatBits op k x y = some r) : FOk op k x y = true ∧ fq op k x y = r := by
  unfold FOk fq
  rw [h]
  exact ⟨rfl, rfl⟩
theorem frun {P : Program} {op : BinOp} {k : FloatKind} {x y : Nat} (h : FOk op k x y = true) (t : TypeId) (w : World) : (binOp op t (.float k x) (.float k y)).run P w = .ok (.float k (fq op k x y)) w :=
  run_float_arith w op t k x y _ (fq_some h)
/-- A sum or a difference of complex numbers, part by part. -/
theorem crun {P : Program} {op : BinOp} (ho : op = .add ∨ op = .sub) {k : FloatKind} {a b c d : Nat} (h1 : FOk op k a c = true) (h2 : FOk op k b d = true) (t : TypeId) (w : World) :
    (binOp op t (.complex k a b) (.complex k c d)).run P w = .ok (.complex k (fq op k a c) (fq op k b d)) w :=
  run_complex_sum w op ho t k a b c d _ _ (by unfold cSumBits; rw [fq_some h1, fq_some h2]; rfl)
/-- A conversion between floats that is valid, and its result's bits. -/
def FC (_src _dst : TypeId) (s k : FloatKind) (x : Nat) : Bool := (floatToFloatBits s x k).isSome
def fc (s k : FloatKind) (x : Nat) : Nat := (floatToFloatBits s x k).getD 0
theorem fc_some {a b : TypeId} {s k : FloatKind} {x : Nat} (h : FC a b s k x = true) : floatToFloatBits s x k = some (fc s k x) := by
  unfold FC at h
  unfold fc
  cases hb : floatToFloatBits s x k with
  | none => rw [hb] at h; cases h
  | some r => rfl
theorem fcok_some {s k : FloatKind} {x r : Nat} (h : floatToFloatBits s x k = some r) (a b : TypeId) : FC a b s k x = true ∧ fc s k x = r := by
  unfold FC fc
  rw [h]
  exact ⟨rfl, rfl⟩
theorem frunc {P : Program} {src dst : TypeId} {s k : FloatKind} {x : Nat} (hs : (P.underlying src).isSome = true) (hd : P.underlying dst = some (.float k)) (h : FC src dst s k x = true) (w : World) : (convert src dst (.float s x)).run P w = .ok (.float k (fc s k x)) w :=
  run_convert_float_float w src dst s k x _ hs hd (fc_some h)
/-- A complex number's two words. -/
structure C64 where
  re : Nat
  im : Nat
def c64z : C64 := ⟨0, 0⟩
instance : DecidableEq C64 := fun a b => decidable_of_iff (a.re = b.re ∧ a.im = b.im) ⟨fun h => by cases a; cases b; obtain ⟨rfl, rfl⟩ := h; rfl, fun h => by rw [h]; exact ⟨rfl, rfl⟩⟩
def cv (x : C64) : Value := .complex .f32 x.re x.im
namespace Kd
def c64e : Kd C64 := scalar cv (fun _ => rfl)
theorem at_c64e {w : World} {A : Option Addr} {n : Nat} {xs : List C64} (h : c64e.C w A n xs) (i : Int) (h0 : 0 ≤ i) (h1 : i < n) : ∃ ad, A = some ad ∧ w.cell? (ad.add i.toNat) = some (.complex .f32 (rdOf c64z xs i).re (rdOf c64z xs i).im) :=
  ReadsOf.at_ (reads_of_C (enc := cv) (d := c64z) (h1 := fun _ => rfl) h) i h0 h1
theorem heap_c64e : Heap c64e := ⟨fun _ h => h⟩
end Kd
/-- A conversion of a float to an int64 that is valid, and its result. -/
def FI (_src _dst : TypeId) (s : FloatKind) (x : Nat) : Bool := (floatToIntVal s x .i64).isSome
def fi (s : FloatKind) (x : Nat) : Int := (floatToIntVal s x .i64).getD 0
theorem fi_some {a b : TypeId} {s : FloatKind} {x : Nat} (h : FI a b s x = true) : floatToIntVal s x .i64 = some (fi s x) := by
  unfold FI at h
  unfold fi
  cases hb : floatToIntVal s x .i64 with
  | none => rw [hb] at h; cases h
  | some r => rfl
theorem fruni {P : Program} {src dst : TypeId} {s : FloatKind} {x : Nat} (hs : (P.underlying src).isSome = true) (hd : P.underlying dst = some (.int .i64)) (h : FI src dst s x = true) (w : World) : (convert src dst (.float s x)).run P w = .ok (.int .i64 (fi s x)) w :=
  run_convert_float_int w src dst s .i64 x _ hs hd (fi_some h)
/-- The same words, or two NaNs. -/
def Same (k : FloatKind) (a b : Nat) : Prop := a = b ∨ ((k.decode a).isNaN = true ∧ (k.decode b).isNaN = true)
theorem Same.refl {k : FloatKind} (a : Nat) : Same k a a := .inl rfl
theorem Same.symm {k : FloatKind} {a b : Nat} (h : Same k a b) : Same k b a := h.elim (fun e => .inl e.symm) (fun e => .inr ⟨e.2, e.1⟩)
theorem Same.trans {k : FloatKind} {a b c : Nat} (h : Same k a b) (h' : Same k b c) : Same k a c := by
  rcases h with rfl | ⟨h1, h2⟩
  · exact h'
  · rcases h' with rfl | ⟨h3, h4⟩
    · exact .inr ⟨h1, h2⟩
    · exact .inr ⟨h1, h4⟩
def SameC (x y : C64) : Prop := Same .f32 x.re y.re ∧ Same .f32 x.im y.im
theorem SameC.refl (x : C64) : SameC x x := ⟨.refl _, .refl _⟩
theorem SameC.symm {x y : C64} (h : SameC x y) : SameC y x := ⟨h.1.symm, h.2.symm⟩
theorem SameC.trans {x y z : C64} (h : SameC x y) (h' : SameC y z) : SameC x z := ⟨h.1.trans h'.1, h.2.trans h'.2⟩
/-- Two lists of the same numbers. -/
def SameL (xs ys : List C64) : Prop := xs.length = ys.length ∧ ∀ i : Nat, ∀ x y, xs[i]? = some x → ys[i]? = some y → SameC x y
namespace Kd
/-- The kind of complex numbers whose NaNs may be any NaNs. -/
def c64 : Kd C64 where
  sz := 1
  E := []
  K := fun _ x cs => ∃ y : C64, SameC y x ∧ cs = [cv y]
  M := fun _ _ _ x cs => ∃ y : C64, SameC y x ∧ cs = [cv y]
  K_len := by rintro w x cs ⟨y, _, rfl⟩; rfl
  K_one := by
    rintro w x cs ⟨y, _, rfl⟩ u hu
    rw [List.mem_singleton.1 hu]; rfl
  K_below := fun _ h => h
  K_of_M := fun h => h
  M_mono := fun _ h => h
  M_bound := fun h => h
  M_move := fun _ h => h
  M_lower := fun _ h => h
theorem heap_c64 : Heap c64 := ⟨by
  rintro w w1 x cs _ h
  exact h⟩
end Kd
/-- The number that a cell holds. -/
def ofV : Value → C64
  | .complex _ a b => ⟨a, b⟩
  | _ => c64z
theorem reps_split {xs : List C64} {inner : List Value} (h : Reps (fun (x : C64) (cs : List Value) => ∃ y : C64, SameC y x ∧ cs = [cv y]) 1 xs inner) :
    SameL (inner.map ofV) xs ∧ Reps (fun (x : C64) (cs : List Value) => cs = [cv x]) 1 (inner.map ofV) inner := by
  obtain ⟨hl, hp⟩ := h
  rw [Nat.mul_one] at hl
  have key : ∀ j (hj : j < xs.length) (hj' : j < inner.length), ∃ y : C64, SameC y xs[j] ∧ inner[j] = cv y := by
    intro j hj hj'
    obtain ⟨y, hs, he⟩ := hp j _ (List.getElem?_eq_getElem hj)
    rw [Nat.mul_one, List.drop_eq_getElem_cons hj'] at he
    have := congrArg List.head? he
    rw [List.take_succ_cons] at this
    exact ⟨y, hs, Option.some.inj this⟩
  refine ⟨⟨by rw [List.length_map, hl], fun i x y hx hy => ?_⟩, by rw [List.length_map, Nat.mul_one], fun j p hj => ?_⟩
  · obtain ⟨hi, hx'⟩ := List.getElem?_eq_some_iff.1 hx
    obtain ⟨hi2, hy'⟩ := List.getElem?_eq_some_iff.1 hy
    rw [List.length_map] at hi
    obtain ⟨z, hz, he⟩ := key i hi2 hi
    rw [← hx', ← hy', List.getElem_map, he]
    exact hz
  · obtain ⟨hi, hx'⟩ := List.getElem?_eq_some_iff.1 hj
    rw [List.length_map] at hi
    obtain ⟨z, hz, he⟩ := key j (by omega) hi
    rw [Nat.mul_one, List.drop_eq_getElem_cons hi, List.take_succ_cons, List.take_zero, he, ← hx', List.getElem_map, he]
    rfl
theorem reps_join {ys xs : List C64} {inner : List Value} (hs : SameL ys xs) (h : Reps (fun (x : C64) (cs : List Value) => cs = [cv x]) 1 ys inner) :
    Reps (fun (x : C64) (cs : List Value) => ∃ y : C64, SameC y x ∧ cs = [cv y]) 1 xs inner := by
  refine ⟨by rw [h.1, hs.1], fun j p hj => ?_⟩
  obtain ⟨hi, hx'⟩ := List.getElem?_eq_some_iff.1 hj
  have hi' : j < ys.length := by rw [hs.1]; exact hi
  exact ⟨_, hs.2 j _ _ (List.getElem?_eq_getElem hi') hj, h.2 j _ (List.getElem?_eq_getElem hi')⟩
namespace Kd
section
variable {e : Nat} {w : World} {base : Nat} {ok : Nat → Prop} {v : Value} {xs ys : List C64} {A : Option Addr} {n : Nat}
theorem c64_R_of (hs : SameL ys xs) (h : c64e.R e w base ok v ys) : c64.R e w base ok v xs := by
  obtain ⟨h0, inner, ho, hr⟩ := h
  exact ⟨h0, inner, by rw [← hs.1]; exact ho, reps_join hs hr⟩
theorem c64_R_to (h : c64.R e w base ok v xs) : ∃ ys, SameL ys xs ∧ c64e.R e w base ok v ys := by
  obtain ⟨h0, inner, ho, hr⟩ := h
  obtain ⟨h1, h2⟩ := reps_split hr
  exact ⟨_, h1, h0, inner, by rw [h1.1]; exact ho, h2⟩
theorem c64_C_of (hs : SameL ys xs) (h : c64e.C w A n ys) : c64.C w A n xs := by
  obtain ⟨h0, h1, h2⟩ := h
  refine ⟨by rw [← hs.1]; exact h0, h1, fun hn => ?_⟩
  obtain ⟨ad, hA, hc⟩ := h2 hn
  refine ⟨ad, hA, fun j p hj => ?_⟩
  obtain ⟨hi, hx'⟩ := List.getElem?_eq_some_iff.1 hj
  have hi' : j < ys.length := by rw [hs.1]; exact hi
  obtain ⟨c, hl, hk, hcc⟩ := hc j _ (List.getElem?_eq_getElem hi')
  exact ⟨c, hl, ⟨_, hs.2 j _ _ (List.getElem?_eq_getElem hi') hj, hk⟩, hcc⟩
theorem c64_C_to (h : c64.C w A n xs) : ∃ ys, SameL ys xs ∧ c64e.C w A n ys := by
  obtain ⟨h0, h1, h2⟩ := h
  rcases Nat.eq_zero_or_pos n with hn | hn
  · have : xs = [] := List.eq_nil_of_length_eq_zero (by rw [h0, hn])
    subst this
    exact ⟨[], ⟨rfl, fun i x y hx => by simp at hx⟩, h0, h1, fun hp => absurd hp (by omega)⟩
  · obtain ⟨ad, hA, hc⟩ := h2 hn
    have key : ∀ j (hj : j < xs.length), ∃ y : C64, SameC y xs[j] ∧ w.cell? (ad.add (j * 1)) = some (cv y) := by
      intro j hj
      obtain ⟨c, hl, ⟨y, hy, he⟩, hcc⟩ := hc j _ (List.getElem?_eq_getElem hj)
      subst he
      exact ⟨y, hy, hcc 0 _ rfl⟩
    refine ⟨(List.range xs.length).map (fun j => match w.cell? (ad.add (j * 1)) with | some v => ofV v | none => c64z), ⟨by simp, fun i x y hx hy => ?_⟩, by simpa using h0, h1, fun _ => ⟨ad, hA, fun j p hj => ?_⟩⟩
    · obtain ⟨hi, hy'⟩ := List.getElem?_eq_some_iff.1 hy
      obtain ⟨z, hz, he⟩ := key i hi
      simp only [List.getElem?_map, List.getElem?_range hi, Option.map_some, he, Option.some.injEq] at hx
      rw [← hx, ← hy']
      exact hz
    · obtain ⟨hi, hx'⟩ := List.getElem?_eq_some_iff.1 hj
      rw [List.length_map, List.length_range] at hi
      obtain ⟨z, hz, he⟩ := key j hi
      simp only [List.getElem?_map, List.getElem?_range hi, Option.map_some, he, Option.some.injEq] at hj
      subst hj
      refine ⟨[cv z], rfl, rfl, fun k u hu => ?_⟩
      cases k with
      | zero => simp only [List.getElem?_cons_zero, Option.some.injEq] at hu; subst hu; exact he
      | succ k => simp at hu
end
end Kd
theorem SameL.refl (xs : List C64) : SameL xs xs := ⟨rfl, fun i x y hx hy => by rw [hx] at hy; cases hy; exact .refl _⟩
theorem SameL.symm {xs ys : List C64} (h : SameL xs ys) : SameL ys xs := ⟨h.1.symm, fun i x y hx hy => (h.2 i y x hy hx).symm⟩
theorem SameL.trans {xs ys zs : List C64} (h : SameL xs ys) (h' : SameL ys zs) : SameL xs zs := ⟨h.1.trans h'.1, fun i x z hx hz => by
  have hi : i < ys.length := by rw [← h.1]; exact (List.getElem?_eq_some_iff.1 hx).1
  have hy := List.getElem?_eq_getElem hi
  exact (h.2 i _ _ hx hy).trans (h'.2 i _ _ hy hz)⟩
theorem SameL.set {xs ys : List C64} (h : SameL xs ys) (i : Nat) {x y : C64} (hs : SameC x y) : SameL (xs.set i x) (ys.set i y) := by
  refine ⟨by simp [h.1], fun j a b ha hb => ?_⟩
  rw [List.getElem?_set] at ha hb
  by_cases hij : i = j
  · subst hij
    rw [if_pos rfl] at ha hb
    by_cases hi : i < xs.length
    · rw [if_pos hi] at ha
      rw [if_pos (by rw [← h.1]; exact hi)] at hb
      cases ha; cases hb
      exact hs
    · rw [if_neg hi] at ha; cases ha
  · rw [if_neg hij] at ha hb
    exact h.2 j a b ha hb
theorem SameL.rd {xs ys : List C64} (h : SameL xs ys) (i : Int) : SameC (rdOf c64z xs i) (rdOf c64z ys i) := by
  unfold rdOf
  by_cases hi : i.toNat < xs.length
  · have hy : i.toNat < ys.length := by rw [← h.1]; exact hi
    rw [List.getD_eq_getElem?_getD, List.getD_eq_getElem?_getD, List.getElem?_eq_getElem hi, List.getElem?_eq_getElem hy]
    exact h.2 _ _ _ (List.getElem?_eq_getElem hi) (List.getElem?_eq_getElem hy)
  · rw [List.getD_eq_getElem?_getD, List.getD_eq_getElem?_getD, List.getElem?_eq_none (by omega), List.getElem?_eq_none (by rw [← h.1]; omega)]
    exact .refl _
end Go.Proofs.YtncckihaacceaaaW.PrintWords
namespace Go.Proofs.YtncckihaacceaaaW.PrintLast
variable {P : Program} {ops : Array Oper} {Q : Exit → Act → World → Prop}
/-- A call of a function value that a place of the call's own holds. -/
theorem goesV_ {oi : Oper} {N : Option Tmp} {a : Act} {w : World} {K : Act → World → Prop} {f : FuncId} {fn : Func} {t : Tmp} {as : Array Operand} {ts : Array TypeId} (hf : P.funcs[f]? = some fn) (hname : (fn.name == "runtime.NumGoroutine") = false) (hb : fn.body.isSome = true) (args : Array Value)
    (hw : Region.wanted oi (yielded ops a.tmps) = true) (hN : oi.dst = N) (hop : oi.op = .call { callee := .value (.tmp t), args := as, argTypes := ts }) (ht : a.eval (.tmp t) = .func (.func f) #[] #[]) (hargs : as.map a.eval = args)
    (h : Calls P f args w fun e w' => ∃ v, e = .returned v ∧ K (a.put N v) w') : if Region.wanted oi (yielded ops a.tmps) = true then Oper.wp P oi a w K Q else K (a.put N undef) w := by
  refine call_ f args hw hN ?_ h
  have he := enters_ hf hname hb args w
  unfold execOp
  simp [hop, resolve, ht, Deferred.ofValue, invoke, hargs, he]
end Go.Proofs.YtncckihaacceaaaW.PrintLast
