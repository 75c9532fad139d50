/-
  Marks: what is written into a row of complex numbers is found there again.
-/
import Derived.Test.YtncckihaacceaaaSx2
import Derived.Test.YtncckihaacceaaaSx5
import Derived.Test.YtncckihaacceaaaSnC
namespace Go.Proofs.Ytncckihaacceaaa.SnP
open Ieee Go.RowKit Go.Proofs.YtncckihaacceaaaW.PrintWords Go.Proofs.YtncckihaacceaaaW.PrintLast Go.Proofs.YtncckihaacceaaaW.PrintMore
open Go.Proofs.Ytncckihaacceaaa.S Go.Proofs.Ytncckihaacceaaa.PlainP

theorem markP_loop (n : Nat) (hn : n ≤ 2097152) : ∀ (d k i : Nat) (a : Int) (l : List S88), l.length = n → i + d = n → d < k → 0 ≤ a → a + 2 * d ≤ 100000000 → ∃ l', laws_markPlaceS.l0 k l a (i : Int) = some (a + 2 * d, l') := by
  intro d
  induction d with
  | zero =>
    intro k i a l hl hi hk ha hb
    obtain ⟨k, rfl⟩ : ∃ m, k = m + 1 := ⟨k - 1, by omega⟩
    simp only [laws_markPlaceS.l0]
    rw [if_neg (by omega)]
    exact ⟨l, by simp⟩
  | succ d ih =>
    intro k i a l hl hi hk ha hb
    obtain ⟨k, rfl⟩ : ∃ m, k = m + 1 := ⟨k - 1, by omega⟩
    simp only [laws_markPlaceS.l0]
    rw [if_pos (by omega), if_pos (by omega)]
    simp only [Option.bind_some]
    rw [w64_succ (n := n) (by omega) (by omega), w64 (n := a + 1) (by omega) (by omega), w64 (n := a + 1 + 1) (by omega) (by omega)]
    rw [show a + 2 * ((d + 1 : Nat) : Int) = a + 1 + 1 + 2 * (d : Int) by omega]
    refine ih k (i + 1) (a + 1 + 1) _ ?_ (by omega) (by omega) (by omega) (by omega)
    simpa using hl
theorem markS_loop (n : Nat) (hn : n ≤ 2097152) : ∀ (d k i : Nat) (a : Int) (l : List S69), l.length = n → i + d = n → d < k → 0 ≤ a → a + 4 * d ≤ 100000000 → ∃ l', laws_markSourceS.l0 k l a (i : Int) = some (a + 4 * d, l') := by
  intro d
  induction d with
  | zero =>
    intro k i a l hl hi hk ha hb
    obtain ⟨k, rfl⟩ : ∃ m, k = m + 1 := ⟨k - 1, by omega⟩
    simp only [laws_markSourceS.l0]
    rw [if_neg (by omega)]
    exact ⟨l, by simp⟩
  | succ d ih =>
    intro k i a l hl hi hk ha hb
    obtain ⟨k, rfl⟩ : ∃ m, k = m + 1 := ⟨k - 1, by omega⟩
    simp only [laws_markSourceS.l0]
    rw [if_pos (by omega), if_pos (by omega)]
    simp only [Option.bind_some]
    rw [w64_succ (n := n) (by omega) (by omega), w64 (n := a + 1) (by omega) (by omega), w64 (n := a + 1 + 1) (by omega) (by omega), w64 (n := a + 1 + 1 + 1) (by omega) (by omega), w64 (n := a + 1 + 1 + 1 + 1) (by omega) (by omega)]
    rw [show a + 4 * ((d + 1 : Nat) : Int) = a + 1 + 1 + 1 + 1 + 4 * (d : Int) by omega]
    refine ih k (i + 1) (a + 1 + 1 + 1 + 1) _ ?_ (by omega) (by omega) (by omega) (by omega)
    simpa using hl
/-- The mark number a. -/
def mk (a : Int) : C64 := ⟨fc .f64 .f32 (floatOfInt .f64 a), fc .f64 .f32 4607182418800017408⟩
def mks : Nat → Int → List C64
  | 0, _ => []
  | d + 1, a => mk a :: mks d (a + 1)
theorem mks_len : ∀ (d : Nat) (a : Int), (mks d a).length = d
  | 0, _ => rfl
  | d + 1, a => by show (mks d (a + 1)).length + 1 = d + 1; rw [mks_len d]
theorem narrow_int {a : Int} (h : a.natAbs < 16777216) : FC 93 94 .f64 .f32 (floatOfInt .f64 a) = true ∧ IsI .f32 (fc .f64 .f32 (floatOfInt .f64 a)) a := by
  obtain ⟨w, h1, h2⟩ := narrow_I (int_I (k := .f64) (n := a) (by simp only [FF]; omega)) h
  obtain ⟨g1, g2⟩ := fcok_some h1 93 94
  exact ⟨g1, by rw [g2]; exact h2⟩
theorem narrow_one : FC 93 94 .f64 .f32 4607182418800017408 = true ∧ IsI .f32 (fc .f64 .f32 4607182418800017408) 1 := by
  have h := narrow_int (a := 1) (by decide)
  have e : floatOfInt .f64 1 = 4607182418800017408 := by decide +kernel
  rwa [e] at h
theorem mark_loop (n : Nat) (hn : n ≤ 2097152) : ∀ (d k i : Nat) (a : Int) (l : List C64), l.length = n → i + d = n → d < k → 0 ≤ a → a + d ≤ 10000000 → markE.l0 k l a (i : Int) = some (a + d, l.take i ++ mks d a) := by
  intro d
  induction d with
  | zero =>
    intro k i a l hl hi hk ha hb
    obtain ⟨k, rfl⟩ : ∃ m, k = m + 1 := ⟨k - 1, by omega⟩
    simp only [markE.l0]
    rw [if_neg (by omega), List.take_of_length_le (by omega)]
    simp [mks]
  | succ d ih =>
    intro k i a l hl hi hk ha hb
    obtain ⟨k, rfl⟩ : ∃ m, k = m + 1 := ⟨k - 1, by omega⟩
    simp only [markE.l0]
    rw [if_pos (by omega), if_pos (narrow_int (by omega)).1, if_pos narrow_one.1, if_pos (by omega), w64_succ (n := n) (by omega) (by omega), w64 (n := a + 1) (by omega) (by omega),
      ih k (i + 1) (a + 1) _ (by simpa using hl) (by omega) (by omega) (by omega) (by omega)]
    rw [Int.toNat_natCast, List.take_succ_eq_append_getElem (by simp; omega), take_set_self]
    congr 2
    · omega
    · simp [mks, mk]
theorem held_loop (n : Nat) (hn : n ≤ 2097152) : ∀ (d k i : Nat) (a : Int) (l : List C64), l.length = n → i + d = n → d < k → 0 ≤ a → a + d ≤ 10000000 → l.drop i = mks d a → heldE.l0 k l a (i : Int) = some (a + d) := by
  intro d
  induction d with
  | zero =>
    intro k i a l hl hi hk ha hb _
    obtain ⟨k, rfl⟩ : ∃ m, k = m + 1 := ⟨k - 1, by omega⟩
    simp only [heldE.l0]
    rw [if_neg (by omega)]
    simp
  | succ d ih =>
    intro k i a l hl hi hk ha hb hd
    obtain ⟨k, rfl⟩ : ∃ m, k = m + 1 := ⟨k - 1, by omega⟩
    have hlt : i < l.length := by omega
    rw [List.drop_eq_getElem_cons hlt] at hd
    injection hd with h1 h2
    have hr : rdOf c64z l (i : Int) = mk a := by
      unfold rdOf
      simp [List.getD_eq_getElem?_getD, List.getElem?_eq_getElem hlt, h1]
    have o1 := eq_I (narrow_int (a := a) (by omega)).2 (narrow_int (a := a) (by omega)).2
    have o2 := eq_I narrow_one.2 narrow_one.2
    simp only [heldE.l0]
    rw [if_pos (by omega), if_pos (by omega), if_pos (narrow_int (by omega)).1, if_pos narrow_one.1, hr]
    show (if (FloatKind.f32.format.order (fc .f64 .f32 (floatOfInt .f64 a)) (fc .f64 .f32 (floatOfInt .f64 a)) == some .eq && FloatKind.f32.format.order (fc .f64 .f32 4607182418800017408) (fc .f64 .f32 4607182418800017408) == some .eq) = true then _ else _) = _
    rw [o1, o2, if_pos (by rfl), w64_succ (n := n) (by omega) (by omega), w64 (n := a + 1) (by omega) (by omega), ih k (i + 1) (a + 1) l hl (by omega) (by omega) (by omega) (by omega) h2]
    congr 1
    omega
theorem mark_f (l : List C64) (hn : l.length ≤ 2097152) (k : Nat) (hk : l.length < k) : laws_markComplex64S.f k l 1 = some (1 + (l.length : Int), mks l.length 1) := by
  have := mark_loop l.length hn l.length k 0 1 l rfl (by omega) hk (by decide) (by omega)
  rw [List.take_zero, List.nil_append] at this
  exact this
theorem held_f (d : Nat) (hn : d ≤ 2097152) (k : Nat) (hk : d < k) : laws_heldComplex64S.f k (mks d 1) 1 = some (1 + (d : Int)) :=
  held_loop d hn d k 0 1 (mks d 1) (mks_len d 1) (by omega) hk (by decide) (by omega) (by rw [List.drop_zero])
end Go.Proofs.Ytncckihaacceaaa.SnP
