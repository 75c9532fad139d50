/-
  Operations on floats in every world: the words that they give (a NaN's bits hang on the world), and that these stand for the same numbers whichever NaNs came in.
-/
import Derived.Test.YtncckihaacceaaaFloatKs
import Derived.Test.YtncckihaacceaaaFloatFacts
namespace Go.Proofs.YtncckihaacceaaaW.PrintWords
open Go.RowKit Ieee
/-- A NaN by which all NaNs are told. -/
def qn : FloatKind → Nat
  | .f32 => 2143289344
  | .f64 => 9221120237041090560
theorem qn_nan (k : FloatKind) : (k.decode (qn k)).isNaN = true := by cases k <;> decide +kernel
def rnan (k : FloatKind) (x y : Nat) (W : World) : Nat := (Question.nanBits k x y).cut (W.tape W.drawn (.nanBits k x y))
theorem rnan_nan (k : FloatKind) (x y : Nat) (W : World) : (k.decode (rnan k x y W)).isNaN = true := by
  cases k
  · exact Go.Proofs.Ytncckihaacceaaa.FloatFacts.nan_word32 _
  · exact Go.Proofs.Ytncckihaacceaaa.FloatFacts.nan_word _
/-- The word that an operation gives in a world, how often it asks, and the word by which it is told. -/
def rv (op : BinOp) (k : FloatKind) (x y : Nat) (W : World) : Nat := match floatBits op k x y with
  | some r => r
  | none => rnan k x y W
def rn (op : BinOp) (k : FloatKind) (x y : Nat) : Nat := match floatBits op k x y with
  | some _ => 0
  | none => 1
def nq (op : BinOp) (k : FloatKind) (x y : Nat) : Nat := (floatBits op k x y).getD (qn k)
def arithOp (op : BinOp) : Prop := op = .add ∨ op = .sub ∨ op = .mul ∨ op = .quo
theorem run_floatArith_any {P : Program} {op : BinOp} (ho : arithOp op) (k : FloatKind) (x y : Nat) (W : World) : (Op.floatArith op k x y).run P W = .ok (.float k (rv op k x y W)) (W.drewN (rn op k x y)) := by
  unfold rv rn
  cases h : floatBits op k x y with
  | some r => exact run_floatArith W h
  | none =>
    unfold floatBits at h
    rcases ho with rfl | rfl | rfl | rfl <;> simp only at h <;> simp [Op.floatArith, h, Question.forced, rnan] <;> rfl
theorem run_any {P : Program} {op : BinOp} (ho : arithOp op) (t : TypeId) (k : FloatKind) (x y : Nat) (W : World) : (binOp op t (.float k x) (.float k y)).run P W = .ok (.float k (rv op k x y W)) (W.drewN (rn op k x y)) := by
  have h := run_floatArith_any (P := P) ho k x y W
  rcases ho with rfl | rfl | rfl | rfl <;> simpa [binOp] using h
theorem run_carith_any {P : Program} {op : BinOp} (ho : arithOp op) (k : FloatKind) (x y : Nat) (W : World) : (Op.Complex.arith op k x y).run P W = .ok (rv op k x y W) (W.drewN (rn op k x y)) := by
  simp [Op.Complex.arith, run_floatArith_any ho]
theorem run_cany {P : Program} {op : BinOp} (ho : op = .add ∨ op = .sub) (t : TypeId) (k : FloatKind) (a b c d : Nat) (W : World) :
    (binOp op t (.complex k a b) (.complex k c d)).run P W = .ok (.complex k (rv op k a c W) (rv op k b d (W.drewN (rn op k a c)))) (W.drewN (rn op k a c + rn op k b d)) := by
  rcases ho with rfl | rfl <;> simp [binOp, Op.complexOp, run_carith_any (.inl rfl), run_carith_any (.inr (.inl rfl)), World.drewN_drewN]
theorem sum_nan (a b : Datum) (h : a.isNaN = true ∨ b.isNaN = true) : Datum.sum a b = none := by
  cases a <;> cases b <;> first | rfl | (rcases h with h | h <;> cases h)
theorem prod_nan (a b : Datum) (h : a.isNaN = true ∨ b.isNaN = true) : Datum.product a b = none := by
  cases a <;> cases b <;> first | rfl | (rcases h with h | h <;> cases h)
theorem quot_nan (p : Nat) (a b : Datum) (h : a.isNaN = true ∨ b.isNaN = true) : Datum.quotient p a b = none := by
  cases a <;> cases b <;> first | rfl | (rcases h with h | h <;> cases h)
theorem bits_nan {op : BinOp} (k : FloatKind) (x y : Nat) (h : (k.decode x).isNaN = true ∨ (k.decode y).isNaN = true) : floatBits op k x y = none := by
  have h' : (k.format.read x).isNaN = true ∨ (k.format.read y).isNaN = true := h
  unfold floatBits
  cases op <;> try rfl
  · show Format.add _ _ _ = none
    unfold Format.add; rw [sum_nan _ _ h']; rfl
  · show Format.sub _ _ _ = none
    unfold Format.sub
    have : (k.format.read x).isNaN = true ∨ (k.format.read y).opposite.isNaN = true := by
      rcases h' with h' | h'
      · exact .inl h'
      · right; cases hy : k.format.read y <;> rw [hy] at h' <;> first | (cases h'; done) | rfl
    rw [sum_nan _ _ this]; rfl
  · show Format.mul _ _ _ = none
    unfold Format.mul; rw [prod_nan _ _ h']; rfl
  · show Format.div _ _ _ = none
    unfold Format.div; rw [quot_nan _ _ _ h']; rfl
theorem same_rv {op : BinOp} {k : FloatKind} {x y x' y' : Nat} (hx : Same k x' x) (hy : Same k y' y) (W : World) : Same k (rv op k x' y' W) (nq op k x y) := by
  unfold rv nq
  by_cases hn : (k.decode x).isNaN = true ∨ (k.decode y).isNaN = true
  · have hn' : (k.decode x').isNaN = true ∨ (k.decode y').isNaN = true := by
      rcases hn with hn | hn
      · exact .inl (hx.elim (fun e => by rw [e]; exact hn) (fun e => e.1))
      · exact .inr (hy.elim (fun e => by rw [e]; exact hn) (fun e => e.1))
    rw [bits_nan k x y hn, bits_nan k x' y' hn']
    exact .inr ⟨rnan_nan .., qn_nan k⟩
  · have ex : x' = x := hx.elim id (fun e => absurd (.inl e.2) hn)
    have ey : y' = y := hy.elim id (fun e => absurd (.inr e.2) hn)
    subst ex; subst ey
    cases h : floatBits op k x' y' with
    | some r => exact .refl _
    | none => exact .inr ⟨rnan_nan .., qn_nan k⟩
/-! Conversions -/
def cvw (s k : FloatKind) (x : Nat) (W : World) : Nat := match floatToFloatBits s x k with
  | some r => r
  | none => if (s.decode x).isNaN = true then (Question.nanConv k x).cut (W.tape W.drawn (.nanConv k x)) else (Question.floatToFloat x).cut (W.tape W.drawn (.floatToFloat x))
def cvn (s k : FloatKind) (x : Nat) : Nat := match floatToFloatBits s x k with
  | some _ => 0
  | none => 1
def nc (s k : FloatKind) (x : Nat) : Nat := (floatToFloatBits s x k).getD (qn k)
/-- A conversion that does not overflow. -/
def NarOk (x : Nat) : Bool := (FloatKind.f64.decode x).isNaN || (floatToFloatBits .f64 x .f32).isSome
theorem run_f2f {P : Program} (s k : FloatKind) (hsk : s ≠ k) (x : Nat) (W : World) : (Conv.floatToFloat s x k).run P W = .ok (.float k (cvw s k x W)) (W.drewN (cvn s k x)) := by
  unfold cvw cvn Conv.floatToFloat floatToFloatBits
  rw [if_neg hsk, if_neg hsk]
  cases hd : s.decode x with
  | nan sg t =>
    have e1 : (Datum.nan sg t).isNaN = true := rfl
    simp [Question.forced, e1]; rfl
  | infinity sg => simp; rfl
  | number sg m e =>
    by_cases hi : (k.decode (k.encode (.number sg m e))).isInfinity = true
    · simp [hi, Question.forced, Datum.isNaN]; rfl
    · simp [hi]; rfl
theorem run_conv_any {P : Program} {src dst : TypeId} {s k : FloatKind} (hs : P.underlying src = some (.float s)) (hd : P.underlying dst = some (.float k)) (hsk : s ≠ k) (x : Nat) (W : World) :
    (convert src dst (.float s x)).run P W = .ok (.float k (cvw s k x W)) (W.drewN (cvn s k x)) := by
  have h := run_f2f (P := P) s k hsk x W
  simp [convert, run_underlying hs, run_underlying hd, h]
theorem run_cconv_any {P : Program} {src dst : TypeId} {s k : FloatKind} (hs : P.underlying src = some (.complex s)) (hd : P.underlying dst = some (.complex k)) (hsk : s ≠ k) (x y : Nat) (W : World) :
    (convert src dst (.complex s x y)).run P W = .ok (.complex k (cvw s k x W) (cvw s k y (W.drewN (cvn s k x)))) (W.drewN (cvn s k x + cvn s k y)) := by
  simp [convert, run_underlying hs, run_underlying hd, Conv.complexToComplex, run_f2f (P := P) s k hsk, World.drewN_drewN]
theorem cfrunc {P : Program} {src dst : TypeId} {s k : FloatKind} {x y : Nat} (hsk : s ≠ k) (hs : P.underlying src = some (.complex s)) (hd : P.underlying dst = some (.complex k)) (h1 : FC src dst s k x = true) (h2 : FC src dst s k y = true) (w : World) :
    (convert src dst (.complex s x y)).run P w = .ok (.complex k (fc s k x) (fc s k y)) w := by
  have h := run_cconv_any (P := P) hs hd hsk x y w
  have e1 := fc_some h1
  have e2 := fc_some h2
  have a1 : ∀ W, cvw s k x W = fc s k x := fun W => by unfold cvw; rw [e1]
  have a2 : ∀ W, cvw s k y W = fc s k y := fun W => by unfold cvw; rw [e2]
  have a3 : cvn s k x = 0 := by unfold cvn; rw [e1]
  have a4 : cvn s k y = 0 := by unfold cvn; rw [e2]
  rw [a1, a2, a3, a4] at h
  exact h
theorem conv_nan (s k : FloatKind) (hsk : s ≠ k) (x : Nat) (h : (s.decode x).isNaN = true) : floatToFloatBits s x k = none := by
  unfold floatToFloatBits
  rw [if_neg hsk]
  cases hd : s.decode x <;> rw [hd] at h <;> first | rfl | cases h
theorem conv_word_nan (s k : FloatKind) (hsk : s ≠ k) (x : Nat) (h : (s.decode x).isNaN = true) (W : World) : (k.decode (cvw s k x W)).isNaN = true := by
  unfold cvw
  rw [conv_nan s k hsk x h]
  simp only [h, if_true]
  cases k
  · exact Go.Proofs.Ytncckihaacceaaa.FloatFacts.nan_word32 _
  · exact Go.Proofs.Ytncckihaacceaaa.FloatFacts.nan_word _
theorem same_conv {s k : FloatKind} (hsk : s ≠ k) {x x' : Nat} (hx : Same s x' x) (ho : (s.decode x).isNaN = true ∨ (floatToFloatBits s x k).isSome = true) (W : World) : Same k (cvw s k x' W) (nc s k x) := by
  by_cases hn : (s.decode x).isNaN = true
  · have hn' : (s.decode x').isNaN = true := hx.elim (fun e => by rw [e]; exact hn) (fun e => e.1)
    refine .inr ⟨conv_word_nan s k hsk x' hn' W, ?_⟩
    unfold nc
    rw [conv_nan s k hsk x hn]
    exact qn_nan k
  · have ex : x' = x := hx.elim id (fun e => absurd e.2 hn)
    subst ex
    obtain ⟨r, hr⟩ := Option.isSome_iff_exists.1 (ho.resolve_left hn)
    unfold cvw nc
    rw [hr]
    exact .refl _
theorem same_wide {x x' : Nat} (hx : Same .f32 x' x) (W : World) : Same .f64 (cvw .f32 .f64 x' W) (nc .f32 .f64 x) := by
  refine same_conv (by decide) hx ?_ W
  by_cases hn : (FloatKind.f32.decode x).isNaN = true
  · exact .inl hn
  · obtain ⟨r, hr⟩ := Go.Proofs.Ytncckihaacceaaa.FloatFacts.widen x (by simpa using hn)
    exact .inr (by rw [hr]; rfl)
theorem same_narrow {x x' : Nat} (hx : Same .f64 x' x) (ho : NarOk x = true) (W : World) : Same .f32 (cvw .f64 .f32 x' W) (nc .f64 .f32 x) :=
  same_conv (by decide) hx (by simpa [NarOk] using ho) W
/-- The order does not see which NaN it is. -/
theorem order_same {k : FloatKind} {x x' : Nat} (y : Nat) (h : Same k x' x) : k.format.order x' y = k.format.order x y := by
  rcases h with rfl | ⟨h1, h2⟩
  · rfl
  · rw [Go.Proofs.Ytncckihaacceaaa.FloatFacts.order_nan k x' y h1, Go.Proofs.Ytncckihaacceaaa.FloatFacts.order_nan k x y h2]
/-- The product of a complex number and a number; its NaNs are told by one. -/
def scaleC (x : C64) (b : Nat) : C64 := ⟨nq .mul .f32 x.re b, nq .mul .f32 x.im b⟩
/-- The sum, its NaNs told by one. -/
def addC (x y : C64) : C64 := ⟨nq .add .f32 x.re y.re, nq .add .f32 x.im y.im⟩
/-- The parts of a product, in double precision. -/
def mulR (x y : C64) : Nat := nq .sub .f64 (nq .mul .f64 (nc .f32 .f64 x.re) (nc .f32 .f64 y.re)) (nq .mul .f64 (nc .f32 .f64 x.im) (nc .f32 .f64 y.im))
def mulI (x y : C64) : Nat := nq .add .f64 (nq .mul .f64 (nc .f32 .f64 x.re) (nc .f32 .f64 y.im)) (nq .mul .f64 (nc .f32 .f64 x.im) (nc .f32 .f64 y.re))
/-- The product, where neither part is too great; its NaNs are told by one. -/
def mulC (x y : C64) : Option C64 := if NarOk (mulR x y) = true ∧ NarOk (mulI x y) = true then some ⟨nc .f64 .f32 (mulR x y), nc .f64 .f32 (mulI x y)⟩ else none
section
variable {P : Program} {ops : Array Oper} {Q : Exit → Act → World → Prop}
/-- A sum of complex numbers: some world behind it, and a number that is the sum. -/
theorem cadd_ {oi : Oper} {N : Option Tmp} {a : Act} {w : World} {K : Act → World → Prop} {t t' : TypeId} {i j : Tmp} (b c b' c' : C64) (hw : Region.wanted oi (yielded ops a.tmps) = true) (hN : oi.dst = N) (hop : oi.op = .binOp .add t (.tmp i) (.tmp j) t')
    (hi : a.eval (.tmp i) = .complex .f32 b.re b.im) (hj : a.eval (.tmp j) = .complex .f32 c.re c.im) (hb : SameC b b') (hc : SameC c c') (h : ∀ q : C64, SameC q (addC b' c') → ∀ n, K (a.put N (.complex .f32 q.re q.im)) (w.drewN n)) :
    if Region.wanted oi (yielded ops a.tmps) = true then Oper.wp P oi a w K Q else K (a.put N undef) w := by
  rw [if_pos hw]
  subst hN
  unfold Oper.wp execOp
  simp only [hop, hi, hj]
  have hr := run_cany (P := P) (op := .add) (.inl rfl) t .f32 b.re b.im c.re c.im w
  simp only [eqGuard, Sem.run_bind, Bool.not_false, if_true, Sem.run_pure, Result.andThen_ok, hr, Oper.upon_value]
  exact h ⟨_, _⟩ ⟨same_rv hb.1 hc.1 _, same_rv hb.2 hc.2 _⟩ _
end
end Go.Proofs.YtncckihaacceaaaW.PrintWords
