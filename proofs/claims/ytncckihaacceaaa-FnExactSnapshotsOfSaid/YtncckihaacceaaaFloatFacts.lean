/-
  Facts of the model's floats that need no program: a float stands to itself, a float32 as a float64, one by a float, a NaN.
-/
import Derived.Laws.FloatArith
namespace Go.Proofs.Ytncckihaacceaaa.FloatFacts
open Go Ieee

theorem order_num (s : Bool) (m : Nat) (e : Int) : Datum.order (.number s m e) (.number s m e) = some .eq := by
  simp [Datum.order]
theorem order_inf (s : Bool) : Datum.order (.infinity s) (.infinity s) = some .eq := by cases s <;> rfl
/-- No NaN: a float equals itself. -/
theorem order_self (k : FloatKind) (a : Nat) (h : (k.decode a).isNaN = false) : k.format.order a a = some .eq := by
  unfold Format.order
  have h' : (k.format.read a).isNaN = false := h
  cases hd : k.format.read a with
  | number s m e => exact order_num s m e
  | infinity s => exact order_inf s
  | nan s t => rw [hd] at h'; cases h'
theorem order_nan (k : FloatKind) (a b : Nat) (h : (k.decode a).isNaN = true) : k.format.order a b = none := by
  unfold Format.order
  have h' : (k.format.read a).isNaN = true := h
  cases hd : k.format.read a with
  | number s m e => rw [hd] at h'; cases h'
  | infinity s => rw [hd] at h'; cases h'
  | nan s t => rfl
theorem order_nan' (k : FloatKind) (a b : Nat) (h : (k.decode b).isNaN = true) : k.format.order a b = none := by
  unfold Format.order
  have h' : (k.format.read b).isNaN = true := h
  cases hd : k.format.read b with
  | number s m e => rw [hd] at h'; cases h'
  | infinity s => rw [hd] at h'; cases h'
  | nan s t => cases k.format.read a <;> rfl
/-- 1/x is no NaN where x is none. -/
theorem one_div (a : Nat) (h : (FloatKind.f64.decode a).isNaN = false) : ∃ r, floatBits .quo .f64 4607182418800017408 a = some r := by
  unfold floatBits Format.div
  have h1 : FloatKind.f64.format.read 4607182418800017408 = .number false 4503599627370496 (-52) := by decide +kernel
  have h' : (FloatKind.f64.format.read a).isNaN = false := h
  simp only [h1]
  cases hd : FloatKind.f64.format.read a with
  | number s m e =>
    by_cases hm : m = 0
    · subst hm; simp [Datum.quotient]
    · simp [Datum.quotient, hm]
  | infinity s => simp [Datum.quotient]
  | nan s t => rw [hd] at h'; cases h'
/-- The NaN that a conversion gives. -/
theorem nan_word (t : Nat) : (FloatKind.f64.decode ((t % 2) * 2 ^ 63 + 0x7ff0000000000000 + 1 + (t / 2) % (2 ^ 52 - 1))).isNaN = true := by
  generalize hr : (t / 2) % (2 ^ 52 - 1) = r
  have hr' : r < 4503599627370495 := by rw [← hr]; exact Nat.mod_lt _ (by decide)
  generalize hb : t % 2 = b
  have hb' : b < 2 := by rw [← hb]; exact Nat.mod_lt _ (by decide)
  have hs : Ieee.double.signWeight = 9223372036854775808 := by decide +kernel
  have hbn : Ieee.double.binade = 4503599627370496 := by decide +kernel
  have hi : Ieee.double.infRung = 9218868437227405312 := by decide +kernel
  have hm : (b * 2 ^ 63 + 0x7ff0000000000000 + 1 + r) % 9223372036854775808 = 9218868437227405313 + r := by omega
  show (Ieee.double.read _).isNaN = true
  unfold Format.read
  simp only [hs, hbn, hi, hm]
  rw [if_neg (by omega), if_neg (by omega), if_neg (by omega)]
  rfl
/-- A number of a float32 is one of a float64. -/
theorem widen_fin (s : Bool) (m : Nat) (e : Int) (hm : m < 16777216) (h0 : -149 ≤ e) (h1 : e ≤ 104) : ∃ s' m' e', Ieee.double.read (Ieee.double.write (.number s m e)) = .number s' m' e' := by
  have hs : Ieee.double.signWeight = 9223372036854775808 := by decide +kernel
  have hbn : Ieee.double.binade = 4503599627370496 := by decide +kernel
  have hi : Ieee.double.infRung = 9218868437227405312 := by decide +kernel
  have hl : Ieee.double.leastPlace = -1074 := by decide +kernel
  have hf : Ieee.double.fractionBits = 52 := rfl
  have key : ∃ rung, rung < 9218868437227405312 ∧ Ieee.double.write (.number s m e) = Ieee.double.word s rung := by
    show ∃ rung, rung < 9218868437227405312 ∧ Ieee.double.nearest s m e = Ieee.double.word s rung
    unfold Format.nearest
    by_cases h : m = 0
    · rw [if_pos h]; exact ⟨0, by decide, rfl⟩
    · rw [if_neg h]
      refine ⟨_, ?_, rfl⟩
      simp only [hl, hf, hbn, hi]
      have hlog : m.log2 ≤ 23 := by
        have : m.log2 < 24 := (Nat.log2_lt h).2 (by omega)
        omega
      have hmax : max (e + (m.log2 : Int) - ((52 : Nat) : Int)) (-1074) = e + (m.log2 : Int) - 52 := by omega
      rw [hmax]
      have hz : (e + (m.log2 : Int) - 52 - e).toNat = 0 := by omega
      rw [hz]
      have hsh : (e - (e + (m.log2 : Int) - 52)).toNat = 52 - m.log2 := by omega
      rw [hsh]
      have hk : Toward.even.cut s (m <<< (52 - m.log2)) 0 = m <<< (52 - m.log2) := by
        unfold Toward.cut
        simp [Nat.mod_one]
      rw [hk, Nat.shiftLeft_eq]
      have hlt : m < 2 ^ (m.log2 + 1) := Nat.lt_log2_self
      have hp : m * 2 ^ (52 - m.log2) < 9007199254740992 := by
        calc m * 2 ^ (52 - m.log2) < 2 ^ (m.log2 + 1) * 2 ^ (52 - m.log2) := Nat.mul_lt_mul_of_pos_right hlt (Nat.two_pow_pos _)
          _ = 2 ^ 53 := by rw [← Nat.pow_add]; congr 1; omega
          _ = 9007199254740992 := by decide
      have ht : (e + (m.log2 : Int) - 52 - -1074).toNat ≤ 1149 := by omega
      generalize m * 2 ^ (52 - m.log2) = K at hp ⊢
      generalize (e + (m.log2 : Int) - 52 - -1074).toNat = T at ht ⊢
      have h5 : T * 4503599627370496 ≤ 1149 * 4503599627370496 := Nat.mul_le_mul_right _ ht
      refine Nat.lt_of_le_of_lt (Nat.min_le_left _ _) ?_
      refine Nat.lt_of_lt_of_le (Nat.add_lt_add_of_le_of_lt h5 hp) ?_
      decide
  obtain ⟨rung, hr, he⟩ := key
  rw [he]
  have hw : (Ieee.double.word s rung) % 9223372036854775808 = rung := by
    have hr2 : rung < 9223372036854775808 := Nat.lt_trans hr (by decide)
    unfold Format.word
    rw [hs]
    cases s
    · exact Nat.mod_eq_of_lt hr2
    · show (9223372036854775808 + rung) % 9223372036854775808 = rung
      rw [Nat.add_mod_left]; exact Nat.mod_eq_of_lt hr2
  unfold Format.read
  simp only [hs, hbn, hi, hw]
  by_cases h2 : rung < 4503599627370496
  · rw [if_pos h2]; exact ⟨_, _, _, rfl⟩
  · rw [if_neg h2, if_pos hr]; exact ⟨_, _, _, rfl⟩
theorem read_single (b : Nat) (s : Bool) (m : Nat) (e : Int) (h : FloatKind.f32.decode b = .number s m e) : m < 16777216 ∧ -149 ≤ e ∧ e ≤ 104 := by
  have hs : Ieee.single.signWeight = 2147483648 := by decide +kernel
  have hbn : Ieee.single.binade = 8388608 := by decide +kernel
  have hi : Ieee.single.infRung = 2139095040 := by decide +kernel
  have hl : Ieee.single.leastPlace = -149 := by decide +kernel
  replace h : Ieee.single.read b = .number s m e := h
  unfold Format.read at h
  simp only [hs, hbn, hi, hl] at h
  by_cases h2 : b % 2147483648 < 8388608
  · rw [if_pos h2] at h
    injection h with _ h3 h4
    omega
  · rw [if_neg h2] at h
    by_cases h3 : b % 2147483648 < 2139095040
    · rw [if_pos h3] at h
      injection h with _ h4 h5
      omega
    · rw [if_neg h3] at h
      split at h <;> cases h
theorem widen (b : Nat) (h : (FloatKind.f32.decode b).isNaN = false) : ∃ r, floatToFloatBits .f32 b .f64 = some r := by
  unfold floatToFloatBits
  rw [if_neg (by decide)]
  cases hd : FloatKind.f32.decode b with
  | number s m e =>
    have h1 := read_single b s m e hd
    obtain ⟨s', m', e', h2⟩ := widen_fin s m e h1.1 h1.2.1 h1.2.2
    have h3 : (FloatKind.f64.decode (FloatKind.f64.encode (.number s m e))).isInfinity = false := by show (Ieee.double.read (Ieee.double.write (.number s m e))).isInfinity = false; rw [h2]; rfl
    simp only [h3]
    exact ⟨_, rfl⟩
  | infinity s => exact ⟨_, rfl⟩
  | nan s t => rw [hd] at h; cases h
theorem widen_nan {b r : Nat} (h : floatToFloatBits .f32 b .f64 = some r) : (FloatKind.f64.decode r).isNaN = false := by
  unfold floatToFloatBits at h
  rw [if_neg (by decide)] at h
  cases hd : FloatKind.f32.decode b with
  | number s m e =>
    have h1 := read_single b s m e hd
    obtain ⟨s', m', e', h2⟩ := widen_fin s m e h1.1 h1.2.1 h1.2.2
    rw [hd] at h
    have h3 : (FloatKind.f64.decode (FloatKind.f64.encode (.number s m e))).isInfinity = false := by show (Ieee.double.read (Ieee.double.write (.number s m e))).isInfinity = false; rw [h2]; rfl
    simp only [h3] at h
    simp only [Bool.false_eq_true, if_false, Option.some.injEq] at h
    subst h
    show (Ieee.double.read (Ieee.double.write (.number s m e))).isNaN = false
    rw [h2]; rfl
  | infinity s =>
    rw [hd] at h
    simp only [Option.some.injEq] at h
    subst h
    cases s <;> decide +kernel
  | nan s t => rw [hd] at h; cases h
/-- A float32 that is a number: no infinity and no NaN. -/
def finB (x : Nat) : Bool := match FloatKind.f32.decode x with | .number .. => true | _ => false
theorem sub_self_num (x : Nat) (h : finB x = true) : floatBits .sub .f32 x x = some 0 := by
  unfold finB at h
  unfold floatBits Format.sub
  cases hd : FloatKind.f32.decode x with
  | number s m e =>
    have hd' : FloatKind.f32.format.read x = .number s m e := hd
    simp only [hd', Datum.opposite, Datum.sum, Option.map_some, Option.some.injEq]
    have ht : signed s m (e - min e e).toNat + signed (!s) m (e - min e e).toNat = 0 := by
      unfold signed
      cases s <;> simp <;> omega
    rw [ht]
    cases s <;> simp [Format.write, Format.nearest, Format.word]
  | infinity s => rw [hd] at h; cases h
  | nan s t => rw [hd] at h; cases h
theorem sub_self_none (x : Nat) (h : finB x = false) : floatBits .sub .f32 x x = none := by
  unfold finB at h
  unfold floatBits Format.sub
  cases hd : FloatKind.f32.decode x with
  | number s m e => rw [hd] at h; cases h
  | infinity s =>
    have hd' : FloatKind.f32.format.read x = .infinity s := hd
    simp only [hd', Datum.opposite, Datum.sum]
    cases s <;> rfl
  | nan s t =>
    have hd' : FloatKind.f32.format.read x = .nan s t := hd
    simp only [hd', Datum.opposite, Datum.sum]
    rfl
theorem nan_word32 (t : Nat) : (FloatKind.f32.decode ((t % 2) * 2 ^ 31 + 0x7f800000 + 1 + (t / 2) % (2 ^ 23 - 1))).isNaN = true := by
  generalize hr : (t / 2) % (2 ^ 23 - 1) = r
  have hr' : r < 8388607 := by rw [← hr]; exact Nat.mod_lt _ (by decide)
  generalize hb : t % 2 = b
  have hb' : b < 2 := by rw [← hb]; exact Nat.mod_lt _ (by decide)
  have hs : Ieee.single.signWeight = 2147483648 := by decide +kernel
  have hbn : Ieee.single.binade = 8388608 := by decide +kernel
  have hi : Ieee.single.infRung = 2139095040 := by decide +kernel
  have hm : (b * 2 ^ 31 + 0x7f800000 + 1 + r) % 2147483648 = 2139095041 + r := by omega
  show (Ieee.single.read _).isNaN = true
  unfold Format.read
  simp only [hs, hbn, hi, hm]
  rw [if_neg (by omega), if_neg (by omega), if_neg (by omega)]
  rfl
/-- The NaN that an operation of float32 gives at a world. -/
def nan32 (x y : Nat) (W : World) : Nat := (Question.nanBits .f32 x y).cut (W.tape W.drawn (.nanBits .f32 x y))
theorem nan32_nan (x y : Nat) (W : World) : (FloatKind.f32.decode (nan32 x y W)).isNaN = true := nan_word32 _
theorem run_nan32 {P : Program} (op : BinOp) (t : TypeId) (x y : Nat) (hop : op = .add ∨ op = .sub ∨ op = .mul ∨ op = .quo) (h : floatBits op .f32 x y = none) (W : World) :
    (binOp op t (.float .f32 x) (.float .f32 y)).run P W = .ok (.float .f32 (nan32 x y W)) W.drew := by
  unfold floatBits at h
  rcases hop with rfl | rfl | rfl | rfl <;> simp only at h <;> simp [binOp, Op.floatArith, h, Question.forced, nan32]
/-- How many of the values, from the last on, lie close together: the place where a value is greater than q times the next. -/
def above (v q u : Nat) : Bool := match floatBits .mul .f32 q u with | some r => FloatKind.f32.format.order v r == some .gt | none => false
def cnt (l : List Nat) (q : Nat) : Nat → Int
  | 0 => 0
  | k + 1 => if above (l.getD k 0) q (l.getD (k + 1) 0) = true then ((k + 1 : Nat) : Int) else cnt l q k
def small1 (q : Nat) : Bool := FloatKind.f32.format.order q 1065353216 == some .lt
def countF (l0 : List Nat) (a1 : Nat) : Int × Bool :=
  if decide (1 ≤ (l0.length : Int)) && decide ((l0.length : Int) ≤ 8) && finB a1 && !small1 a1 then (cnt l0 a1 (l0.length - 1), true) else (0, false)
end Go.Proofs.Ytncckihaacceaaa.FloatFacts
