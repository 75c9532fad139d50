/-
  The plain law of FnBoundedSteps, under the name that its row asks for.
-/
import Derived.Test.YtnfcbacdggkfeaaBdLawB
namespace Go.Proofs.Ytnfcbacdggkfeaa.Pure
open Go.Proofs.Ytnfcbacdggkfeaa.B
theorem FnBoundedSteps : laws_FnBoundedSteps.Pure := by
  intro l0 l1 _ _ h0 _ _ h1
  have hr : ∀ l : List Int, (∀ x ∈ l, (Lit.int .u8 x).wf = true) → ∀ x ∈ l, 0 ≤ x ∧ x ≤ 255 := fun l h x hx => by
    have := h x hx
    simp [Lit.wf, IntKind.min, IntKind.max, IntKind.bits, IntKind.signed] at this
    omega
  obtain ⟨r, K, hk, rt⟩ := PlainBd.law_some l0 l1 (hr l0 h0) (hr l1 h1)
  refine ⟨K, ?_⟩
  rw [← show r = true from rt]
  exact hk K (Nat.le_refl _)
end Go.Proofs.Ytnfcbacdggkfeaa.Pure
