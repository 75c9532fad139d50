/-
  What WithoutElements makes of weights and an increasing list of places; numbers are the same as themselves.
-/
import Derived.Test.YtnfcbacdggkfeaaNx2
import Derived.Test.YtnfcbacdggkfeaaPlainPow
namespace Go.Proofs.Ytnfcbacdggkfeaa.PlainN
open Go.RowKit Go.Proofs.YtnfcbacdggkfeaaW.PrintWords Go.Proofs.YtnfcbacdggkfeaaW.PrintLast Go.Proofs.YtnfcbacdggkfeaaW.PrintMore
open Go.Proofs.Ytnfcbacdggkfeaa.N Go.Proofs.Ytnfcbacdggkfeaa.PlainP

theorem same_num {w : Nat} {v : Int} (h : IsV .f32 w v) (hv : v.natAbs < 2 ^ 200) : Ends (fun k => impl_SameNumber.f k w w) (fun r => r = true) := by
  have ho : FloatKind.f32.format.order w w = some .eq := by rw [order_V h h]; simp
  have h1 : (FloatKind.f32.format.order w w != some .eq) = false := by rw [ho]; rfl
  have h2 : (FloatKind.f32.format.order w w == some .eq) = true := by rw [ho]; rfl
  obtain ⟨u, e, -⟩ := widen_V h hv
  obtain ⟨o, q⟩ := fcok_some e 34 37
  refine Ends.congr (h := fun k => impl_SameNumber.j0 k w w false) (fun k => ?_) (Ends.step (h := fun _ => some true) (fun k => ?_) (Ends.now rfl))
  · unfold impl_SameNumber.f
    rw [h1, if_neg Bool.false_ne_true]
  · show impl_SameNumber.j0 (k + 1) _ _ _ = _
    rw [impl_SameNumber.j0, if_neg Bool.false_ne_true, if_pos h2, if_pos o, q]
    unfold math_Signbit.f
    simp only [Option.bind_some]
    rw [if_pos o]
    simp only [beq_self_eq_true]
theorem same_pair {x : C64} {a b : Int} (h1 : IsV .f32 x.re a) (h2 : IsV .f32 x.im b) (ha : a.natAbs < 2 ^ 200) (hb : b.natAbs < 2 ^ 200) : Ends (fun k => impl_SameComplex.f k x x) (fun r => r = true) := by
  refine Ends.congr (fun k => rfl) (Ends.bind (f := fun k t166 => if t166 = true then ((impl_SameNumber.f k x.im x.im).bind fun t167 => (some t167)) else (some false)) (same_num h1 ha) (fun r hr => ?_))
  subst hr
  refine Ends.congr (h := fun k => (impl_SameNumber.f k x.im x.im).bind fun t167 => (some t167)) (fun k => if_pos rfl) ?_
  exact Ends.bind (f := fun _ t167 => some t167) (same_num h2 hb) (fun r hr => Ends.now hr)
theorem fine_small {a : Int} (h : a.natAbs ≤ 32) : (a * ((2 ^ 145 : Nat) : Int)).natAbs < 2 ^ 200 := by
  rw [abs_pow]
  have h1 : a.natAbs * 2 ^ 145 ≤ 2 ^ 5 * 2 ^ 145 := Nat.mul_le_mul_right _ h
  rw [← Nat.pow_add] at h1
  exact Nat.lt_of_le_of_lt h1 (Nat.pow_lt_pow_right (by decide) (by decide))
theorem same_fine {x : C64} (h : Fi x) : Ends (fun k => impl_SameComplex.f k x x) (fun r => r = true) := by
  obtain ⟨a, b, h1, h2, h3, h4⟩ := h
  exact same_pair h1 h2 (fine_small h3) (fine_small h4)
theorem same_nought : Ends (fun k => impl_SameComplex.f k (⟨0, 0⟩ : C64) (⟨0, 0⟩ : C64)) (fun r => r = true) := by
  have h : IsV .f32 0 0 := ⟨false, 0, 0, by decide +kernel, by decide +kernel, by decide⟩
  exact same_pair h h (by decide) (by decide)
/-! Places that rise. -/
def Inc (f : List Int) : Prop := ∀ a b : Nat, a < b → b < f.length → rd f (a : Int) < rd f (b : Int)
def Has (f : List Int) (n : Nat) (i : Int) : Prop := ∃ j : Nat, j < n ∧ rd f (j : Int) = i
theorem without_loop (l : List C64) (f : List Int) (h1 : 1 ≤ l.length) (h2 : l.length ≤ 16) (hf : Inc f) (hr : ∀ j : Nat, j < f.length → 0 ≤ rd f (j : Int) ∧ rd f (j : Int) < l.length) (hfl : f.length < 1000) :
    ∀ (d i : Nat) (o : List C64), i + d = f.length → o.length = l.length → (∀ j : Nat, j < l.length → (Has f i (j : Int) → rdOf c64z o (j : Int) = ⟨0, 0⟩) ∧ (¬ Has f i (j : Int) → rdOf c64z o (j : Int) = rdOf c64z l (j : Int))) →
    Ends (fun k => impl_WithoutElements.l0 k l f o f (f.length : Int) (i : Int)) (fun r => r.2 = true ∧ r.1.length = l.length ∧ ∀ j : Nat, j < l.length → (Has f f.length (j : Int) → rdOf c64z r.1 (j : Int) = ⟨0, 0⟩) ∧ (¬ Has f f.length (j : Int) → rdOf c64z r.1 (j : Int) = rdOf c64z l (j : Int))) := by
  intro d
  induction d with
  | zero =>
    intro i o hi ho hj
    obtain rfl : i = f.length := by omega
    refine Ends.step (h := fun _ => some (o, true)) (fun k => ?_) (Ends.now ⟨rfl, ho, hj⟩)
    show impl_WithoutElements.l0 (k + 1) _ _ _ _ _ _ = _
    rw [impl_WithoutElements.l0, if_neg (by omega)]
  | succ d ih =>
    intro i o hi ho hj
    obtain ⟨r0, r1⟩ := hr i (by omega)
    obtain ⟨p, hp⟩ := Int.eq_ofNat_of_zero_le r0
    have hw : impl_within.f (rd f (i : Int)) 0 ((l.length : Int) - 1) = some true := by
      unfold impl_within.f
      rw [if_pos r0, decide_eq_true (by omega)]
    have step := ih (i + 1) (o.set p ⟨0, 0⟩) (by omega) (by simpa using ho) (fun j hjl => by
      obtain ⟨a1, a2⟩ := hj j hjl
      rw [rdOf_set o ⟨0, 0⟩ j p (by omega)]
      by_cases e : j = p
      · rw [if_pos e]
        refine ⟨fun _ => rfl, fun hn => ?_⟩
        exact absurd ⟨i, by omega, by rw [hp, e]⟩ hn
      · rw [if_neg e]
        refine ⟨fun ⟨q, q1, q2⟩ => a1 ⟨q, ?_, q2⟩, fun hn => a2 (fun ⟨q, q1, q2⟩ => hn ⟨q, by omega, q2⟩)⟩
        rcases Nat.lt_or_ge q i with hq | hq
        · exact hq
        · exfalso
          obtain rfl : q = i := by omega
          omega)
    refine Ends.step (fun k => ?_) step
    show impl_WithoutElements.l0 (k + 1) _ _ _ _ _ _ = impl_WithoutElements.l0 k _ _ _ _ _ _
    rw [impl_WithoutElements.l0, if_pos (by omega), if_pos (by omega), if_pos (by omega), w64 (n := (l.length : Int) - 1) (by omega) (by omega), hw]
    simp only [Option.bind_some, if_true]
    by_cases h0 : i = 0
    · subst h0
      rw [if_neg (by omega), if_pos r0, if_pos (by omega), hp, w64 (by omega) (by omega)]
      rfl
    · have hlt := hf (i - 1) i (by omega) (by omega)
      rw [show ((i - 1 : Nat) : Int) = (i : Int) - 1 by omega] at hlt
      rw [if_pos (by omega), w64 (n := (i : Int) - 1) (by omega) (by omega), if_pos (by omega), if_pos (by omega), if_neg (by omega), if_pos r0, if_pos (by omega), hp, w64 (by omega) (by omega), Int.natCast_add i 1]
      rfl
theorem weights_some (l : List C64) (h1 : 1 ≤ l.length) (h2 : l.length ≤ 16) : impl_areWeights.f l = some true := by
  unfold impl_areWeights.f impl_isCount.f impl_within.f
  rw [if_pos (by omega)]
  simp only [Option.bind_some]
  rw [decide_eq_true (by omega)]
theorem without_some (l : List C64) (f : List Int) (h1 : 1 ≤ l.length) (h2 : l.length ≤ 16) (hf : Inc f) (hr : ∀ j : Nat, j < f.length → 0 ≤ rd f (j : Int) ∧ rd f (j : Int) < l.length) (hfl : f.length < 1000) :
    Ends (fun k => impl_WithoutElements.f k l f) (fun r => r.2 = true ∧ r.1.length = l.length ∧ ∀ j : Nat, j < l.length → (Has f f.length (j : Int) → rdOf c64z r.1 (j : Int) = ⟨0, 0⟩) ∧ (¬ Has f f.length (j : Int) → rdOf c64z r.1 (j : Int) = rdOf c64z l (j : Int))) := by
  refine Ends.congr (fun k => ?_) (without_loop l f h1 h2 hf hr hfl f.length 0 l (by omega) rfl (fun j hj => ⟨fun ⟨q, hq, _⟩ => by omega, fun _ => rfl⟩))
  unfold impl_WithoutElements.f
  rw [weights_some l h1 h2]
  simp only [Option.bind_some, if_true]
  rw [if_pos (by simp; omega)]
  rfl
end Go.Proofs.Ytnfcbacdggkfeaa.PlainN
