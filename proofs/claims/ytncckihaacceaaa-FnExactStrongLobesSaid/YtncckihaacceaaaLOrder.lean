/-
  The order of floats that are no NaN is the order of whole numbers.
-/
import Derived.Laws.FloatArith
namespace Go.Proofs.Ytncckihaacceaaa.LOrder
open Go Ieee

def keyD : Datum → Int
  | .nan .. => 0
  | .infinity s => if s then -((2 ^ 300 : Nat) : Int) else ((2 ^ 300 : Nat) : Int)
  | .number s m e => signed s m (e + 149).toNat
/-- What a float32 stands for, in parts of 2^-149. -/
def key (x : Nat) : Int := keyD (FloatKind.f32.format.read x)

theorem signed_le (s : Bool) (m k N : Nat) (hm : m < 2 ^ 24) (hk : k ≤ 253) (hN : 2 ^ 24 * 2 ^ 253 = N) : -(N : Int) < signed s m k ∧ signed s m k < (N : Int) := by
  unfold signed
  rw [Nat.shiftLeft_eq]
  have h : m * 2 ^ k < N := by
    rw [← hN]
    exact Nat.lt_of_le_of_lt (Nat.mul_le_mul_left m (Nat.pow_le_pow_right (by decide) hk)) (Nat.mul_lt_mul_of_pos_right hm (Nat.two_pow_pos _))
  generalize m * 2 ^ k = M at *
  split <;> omega
theorem signed_shift (s : Bool) (m a b : Nat) : signed s m (a + b) = signed s m a * (2 : Int) ^ b := by
  unfold signed
  rw [Nat.shiftLeft_eq, Nat.shiftLeft_eq, Nat.pow_add]
  split <;> push_cast <;> simp [Int.mul_assoc, Int.neg_mul]
theorem compare_scale (x y c : Int) (hc : 0 < c) : compare (x * c) (y * c) = compare x y := by
  rcases Int.lt_trichotomy x y with h | h | h
  · rw [Int.compare_eq_lt.2 h, Int.compare_eq_lt.2 ((Int.mul_lt_mul_right hc).2 h)]
  · subst h; simp
  · rw [Int.compare_eq_gt.2 h, Int.compare_eq_gt.2 ((Int.mul_lt_mul_right hc).2 h)]
theorem read_form (x : Nat) : (∃ s t, FloatKind.f32.format.read x = .nan s t) ∨ (∃ s, FloatKind.f32.format.read x = .infinity s) ∨ ∃ s m e, FloatKind.f32.format.read x = .number s m e ∧ m < 2 ^ 24 ∧ -149 ≤ e ∧ e ≤ 104 := by
  have hs : FloatKind.f32.format.signWeight = 2147483648 := by decide +kernel
  have hbn : FloatKind.f32.format.binade = 8388608 := by decide +kernel
  have hi : FloatKind.f32.format.infRung = 2139095040 := by decide +kernel
  have hl : FloatKind.f32.format.leastPlace = -149 := by decide +kernel
  unfold Format.read
  simp only [hs, hbn, hi, hl]
  generalize hr : x % 2147483648 = r
  split
  · rename_i h
    exact .inr (.inr ⟨_, _, _, rfl, by omega, by omega, by omega⟩)
  · split
    · rename_i h1 h
      refine .inr (.inr ⟨_, _, _, rfl, ?_, ?_, ?_⟩)
      all_goals omega
    · split
      · exact .inr (.inl ⟨_, rfl⟩)
      · exact .inl ⟨_, _, rfl⟩

theorem key_inf : (2 : Nat) ^ 24 * 2 ^ 253 < 2 ^ 300 := by decide +kernel
/-- The order of floats that are no NaN. -/
theorem order_key (x y : Nat) (hx : (FloatKind.f32.decode x).isNaN = false) (hy : (FloatKind.f32.decode y).isNaN = false) : FloatKind.f32.format.order x y = some (compare (key x) (key y)) := by
  have hx' : (FloatKind.f32.format.read x).isNaN = false := hx
  have hy' : (FloatKind.f32.format.read y).isNaN = false := hy
  unfold Format.order key
  obtain ⟨X, hX⟩ : ∃ X : Nat, (2 : Nat) ^ 24 * 2 ^ 253 = X := ⟨_, rfl⟩
  obtain ⟨Y, hY⟩ : ∃ Y : Nat, (2 : Nat) ^ 300 = Y := ⟨_, rfl⟩
  have hXY : X < Y := by rw [← hX, ← hY]; exact key_inf
  rcases read_form x with ⟨s, t, h⟩ | ⟨s, h⟩ | ⟨s, m, e, h, h1, h2, h3⟩
  · rw [h] at hx'; cases hx'
  · rw [h]
    rcases read_form y with ⟨s', t', h'⟩ | ⟨s', h'⟩ | ⟨s', m', e', h', h1', h2', h3'⟩
    · rw [h'] at hy'; cases hy'
    · rw [h']
      simp only [Datum.order, keyD, hY]
      cases s <;> cases s' <;> simp only [if_true, if_false, Bool.false_eq_true]
      · rw [Int.compare_eq_eq.2 rfl]; rfl
      · rw [Int.compare_eq_gt.2 (by omega)]; rfl
      · rw [Int.compare_eq_lt.2 (by omega)]; rfl
      · rw [Int.compare_eq_eq.2 rfl]; rfl
    · rw [h']
      have hb := signed_le s' m' (e' + 149).toNat X h1' (by omega) hX
      simp only [Datum.order, keyD, hY]
      cases s
      · simp only [Bool.false_eq_true, if_false]
        rw [Int.compare_eq_gt.2 (by omega)]
      · simp only [if_true]
        rw [Int.compare_eq_lt.2 (by omega)]
  · rw [h]
    have hb := signed_le s m (e + 149).toNat X h1 (by omega) hX
    rcases read_form y with ⟨s', t', h'⟩ | ⟨s', h'⟩ | ⟨s', m', e', h', h1', h2', h3'⟩
    · rw [h'] at hy'; cases hy'
    · rw [h']
      simp only [Datum.order, keyD, hY]
      cases s'
      · simp only [Bool.false_eq_true, if_false]
        rw [Int.compare_eq_lt.2 (by omega)]
      · simp only [if_true]
        rw [Int.compare_eq_gt.2 (by omega)]
    · rw [h']
      simp only [Datum.order, keyD]
      have e1 : (e + 149).toNat = (e - min e e').toNat + (min e e' + 149).toNat := by omega
      have e2 : (e' + 149).toNat = (e' - min e e').toNat + (min e e' + 149).toNat := by omega
      rw [e1, e2, signed_shift, signed_shift, compare_scale _ _ _ (Int.pow_pos (by decide))]
/-- .. as tests. -/
theorem gt_key (x y : Nat) (hx : (FloatKind.f32.decode x).isNaN = false) (hy : (FloatKind.f32.decode y).isNaN = false) : (FloatKind.f32.format.order x y == some .gt) = decide (key y < key x) := by
  rw [order_key x y hx hy]
  rcases Int.lt_trichotomy (key x) (key y) with h | h | h
  · rw [Int.compare_eq_lt.2 h, decide_eq_false (by omega)]; rfl
  · rw [Int.compare_eq_eq.2 h, decide_eq_false (by omega)]; rfl
  · rw [Int.compare_eq_gt.2 h, decide_eq_true (by omega)]; rfl
theorem lt_key (x y : Nat) (hx : (FloatKind.f32.decode x).isNaN = false) (hy : (FloatKind.f32.decode y).isNaN = false) : (FloatKind.f32.format.order x y == some .lt) = decide (key x < key y) := by
  rw [order_key x y hx hy]
  rcases Int.lt_trichotomy (key x) (key y) with h | h | h
  · rw [Int.compare_eq_lt.2 h, decide_eq_true (by omega)]; rfl
  · rw [Int.compare_eq_eq.2 h, decide_eq_false (by omega)]; rfl
  · rw [Int.compare_eq_gt.2 h, decide_eq_false (by omega)]; rfl
end Go.Proofs.Ytncckihaacceaaa.LOrder
