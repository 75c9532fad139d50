/-
  The plain law of FnExactSwitchTicks: the program's and the reference's switch ticks are one function of the two directions.
-/
import Derived.Test.YtekcngoemeadlaaPFnExactSwitchTicksx
namespace Go.Proofs.Ytekcngoemeadlaa.PureSwitchTicks
open Go.RowKit Go.Proofs.YtekcngoemeadlaaW.PrintWords Go.Proofs.YtekcngoemeadlaaW.PrintLast Go.Proofs.YtekcngoemeadlaaW.PrintMore
open Go.Proofs.Ytekcngoemeadlaa.PFnExactSwitchTicks

theorem within_eq (a b c : Int) : impl_within.f a b c = spec_l00In.f a b c := rfl
theorem in_some (a b c : Int) : ∃ r, spec_l00In.f a b c = some r := by unfold spec_l00In.f; split <;> exact ⟨_, rfl⟩
theorem dir_eq (a b : Int) : impl_ValidDirection.f a b = spec_l02Direction.f a b := rfl
theorem dir_some (a b : Int) : ∃ r, spec_l02Direction.f a b = some r := by
  obtain ⟨r1, h1⟩ := in_some a (-64) 64
  obtain ⟨r2, h2⟩ := in_some b (-64) 64
  unfold spec_l02Direction.f
  rw [h1, h2]
  cases r1 <;> cases r2 <;> simp
theorem max_eq (a b : Int) : spec_l00Max.f a b = some (mx a b) := by
  unfold spec_l00Max.f mx
  split <;> split <;> first | rfl | (congr 1; omega)
theorem switch_eq (a b c d : Int) : impl_switchTicks.f a b c d = spec_l09Switch.f a b c d := by
  unfold impl_switchTicks.f spec_l09Switch.f impl_far.f spec_l09Abs.f
  simp only [max_eq, Option.bind_some]
theorem switch_some (a b c d : Int) : ∃ r, spec_l09Switch.f a b c d = some r := by
  unfold spec_l09Switch.f spec_l09Abs.f
  simp only [max_eq, Option.bind_some]
  exact ⟨_, rfl⟩
theorem pure (a b c d : Int) : laws_FnExactSwitchTicks.f a b c d = some true := by
  unfold laws_FnExactSwitchTicks.f laws_toDirection.f spec_SwitchTicks.f impl_SwitchTicks.f
  simp only [Option.bind_some, dir_eq, switch_eq]
  obtain ⟨r1, h1⟩ := dir_some a b
  obtain ⟨r2, h2⟩ := dir_some c d
  obtain ⟨r3, h3⟩ := switch_some a b c d
  rw [h1, h2, h3]
  cases r1 <;> cases r2 <;> simp
end Go.Proofs.Ytekcngoemeadlaa.PureSwitchTicks
