/-
  The plain law of FnExactBusyTicks: of a plan the busy ticks and the ticks of switching are one pair.
-/
import Derived.Test.YtekcngoemeadlaaPlainPlanB
import Derived.Test.YtekcngoemeadlaaBx7
namespace Go.Proofs.Ytekcngoemeadlaa.PlainB
open Go.RowKit Go.Proofs.YtekcngoemeadlaaW.PrintWords Go.Proofs.YtekcngoemeadlaaW.PrintLast Go.Proofs.YtekcngoemeadlaaW.PrintMore
open Go.Proofs.Ytekcngoemeadlaa.B

theorem busy_loop (l : List S54) (s : List S81) (hs : s.length ≤ 200) (hr : ∀ j : Nat, (hj : j < s.length) → 0 ≤ s[j].f0 ∧ s[j].f0 < l.length) : ∀ (d i : Nat) (x y : Int), i + d = s.length →
    ∃ r, ∀ k, d < k → spec_BusyTicks.l0 k l s x y (s.length : Int) (i : Int) = some r ∧ impl_BusyTicks.l0 k l s x y s (s.length : Int) (i : Int) = some r := by
  intro d
  induction d with
  | zero =>
    intro i x y hi
    refine ⟨(x, y, true), fun k hk => ?_⟩
    obtain ⟨k, rfl⟩ : ∃ m, k = m + 1 := ⟨k - 1, by omega⟩
    simp only [spec_BusyTicks.l0, impl_BusyTicks.l0]
    rw [if_neg (by omega), if_neg (by omega)]
    exact ⟨rfl, rfl⟩
  | succ d ih =>
    intro i x y hi
    have hlt : i < s.length := by omega
    have hb := hr i hlt
    rcases Nat.eq_zero_or_pos i with hz | hz
    · obtain ⟨r, h⟩ := ih (i + 1) (wrap64 (x + (rd_T54 l s[i].f0).f1)) y (by omega)
      refine ⟨r, fun k hk => ?_⟩
      obtain ⟨k, rfl⟩ : ∃ m, k = m + 1 := ⟨k - 1, by omega⟩
      simp only [spec_BusyTicks.l0, impl_BusyTicks.l0]
      rw [rd81 s i hlt, w64_succ hlt (by omega), if_pos (by omega), if_pos (by omega), if_pos (by omega), if_pos (by omega), if_pos (by omega), if_neg (by omega)]
      rw [if_pos (by omega), if_pos (by omega), if_pos (by omega), if_pos (by omega), if_pos (by omega), if_neg (by omega)]
      exact h k (by omega)
    · have hp := hr (i - 1) (by omega)
      have hw1 : wrap64 ((i : Int) - 1) = ((i - 1 : Nat) : Int) := by rw [w64 (by omega) (by omega)]; omega
      obtain ⟨q, hq⟩ := qswitch_some (rd_T54 l s[i - 1].f0).f0.f0 (rd_T54 l s[i - 1].f0).f0.f1 (rd_T54 l s[i].f0).f0.f0 (rd_T54 l s[i].f0).f0.f1
      obtain ⟨r, h⟩ := ih (i + 1) (wrap64 (x + (rd_T54 l s[i].f0).f1)) (wrap64 (y + q)) (by omega)
      refine ⟨r, fun k hk => ?_⟩
      obtain ⟨k, rfl⟩ : ∃ m, k = m + 1 := ⟨k - 1, by omega⟩
      simp only [spec_BusyTicks.l0, impl_BusyTicks.l0]
      rw [hw1, rd81 s (i - 1) (by omega), rd81 s i hlt, w64_succ hlt (by omega), qswitch, hq]
      simp only [Option.bind_some]
      rw [if_pos (by omega), if_pos (by omega), if_pos (by omega), if_pos (by omega), if_pos (by omega), if_pos (by omega), if_pos (by omega), if_pos (by omega), if_pos (by omega), if_pos (by omega)]
      rw [if_pos (by omega), if_pos (by omega), if_pos (by omega), if_pos (by omega), if_pos (by omega), if_pos (by omega), if_pos (by omega), if_pos (by omega), if_pos (by omega), if_pos (by omega)]
      exact h k (by omega)
theorem busy_f (l : List S54) (s : List S81) (hn : l.length ≤ 9223372036854775807) (hf : jfits s = true) (k : Nat) (hk : l.length + 2 * s.length + 5 < k) :
    ∃ r, spec_BusyTicks.f k l s = some r ∧ impl_BusyTicks.f k l s = some r := by
  obtain ⟨b, h1, h2, h3⟩ := isPlan_f l s hn hf k (by omega)
  unfold spec_BusyTicks.f impl_BusyTicks.f
  rw [h2]
  rw [specBeams_f l hn k (by omega)] at h1 ⊢
  obtain ⟨k, rfl⟩ : ∃ m, k = m + 1 := ⟨k - 1, by omega⟩
  simp only [Option.bind_some] at h1 ⊢
  cases h : areB l
  · rw [h] at h1
    simp only [Bool.false_eq_true, if_false, Option.some.injEq] at h1
    subst h1
    exact ⟨_, rfl, rfl⟩
  · rw [h] at h1
    simp only [if_true] at h1
    have h1 : spec_l09Slots.f (k + 1) l s = some b := by
      cases hq : spec_l09Slots.f (k + 1) l s with
      | none => rw [hq] at h1; exact absurd h1 (by simp)
      | some q => rw [hq] at h1; simpa using h1
    rw [if_pos rfl, h1]
    simp only [Option.bind_some, spec_BusyTicks.j0]
    cases b
    · exact ⟨_, rfl, rfl⟩
    · obtain ⟨h4, h5⟩ := h3 rfl
      obtain ⟨r, hr⟩ := busy_loop l s h4 h5 s.length 0 0 0 (by omega)
      exact ⟨r, (hr k (by omega)).1, (hr (k + 1) (by omega)).2⟩
theorem busyTicks (l : List S86) (s : List S106) (hn : l.length ≤ 9223372036854775807) (hs : s.length ≤ 9223372036854775807) (hf : jfits (s.map convS) = true) : ∃ k, laws_FnExactBusyTicks.f k l s = some true := by
  refine ⟨l.length + 2 * s.length + 12, ?_⟩
  unfold laws_FnExactBusyTicks.f
  obtain ⟨r, hr, h⟩ := szBeamS_f l 1048576 (by omega) hn
  rw [hr]
  simp only [Option.bind_some]
  by_cases h0 : r < 0
  · rw [if_pos h0]
  rw [if_neg h0]
  obtain ⟨h1, h2⟩ := h.resolve_left h0
  obtain ⟨r', hr', h'⟩ := szSlotS_f s r (by omega) hs
  rw [hr']
  simp only [Option.bind_some]
  by_cases h0' : r' < 0
  · rw [if_pos h0']
  rw [if_neg h0', toBeamS_f l (by omega) _ (by omega), toSlotS_f s (by omega) _ (by omega)]
  obtain ⟨⟨x, y, z⟩, hb1, hb2⟩ := busy_f (l.map conv) (s.map convS) (by simpa using hn) hf (l.length + 2 * s.length + 12) (by simp)
  simp only [Option.bind_some]
  rw [hb1, hb2]
  simp only [Option.bind_some, if_true, laws_FnExactBusyTicks.j0]
  rw [toBeamS_f l (by omega) _ (by omega), toSlotS_f s (by omega) _ (by omega)]
  simp only [Option.bind_some]
  rw [eqBeamS_f _ (by simpa using hn) _ (by simp; omega), eqSlotS_f _ (by simpa using hs) _ (by simp; omega)]
  simp
end Go.Proofs.Ytekcngoemeadlaa.PlainB
