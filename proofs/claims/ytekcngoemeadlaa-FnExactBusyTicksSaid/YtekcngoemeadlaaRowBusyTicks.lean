/-
  The row of the law FnExactBusyTicks: whatever the input, the call returns true and its arguments read as before.
-/
import Derived.Test.YtekcngoemeadlaaBase
import Derived.Test.YtekcngoemeadlaaBx7
import Derived.Test.YtekcngoemeadlaaPlainBusy
namespace Go.Proofs.Ytekcngoemeadlaa.RowBusyTicks
open Go.ChangeShapes Go.WideShapes Go.ChangeAt Go.RowKit Go.Proofs.Ytekcngoemeadlaa.Base
open Go.Proofs.YtekcngoemeadlaaW.PrintWords Go.Proofs.YtekcngoemeadlaaW.PrintLast
set_option linter.unusedVariables false
set_option maxRecDepth 100000 in
theorem lifted (os : Os) (started : os.Started) (H : Type) (enc : TypeId × Value → H) :
    ReturnsInHanded {} Try.checked os 11 .any (Rows.fnExactBusyTicksSpec.pre6 enc Try.prog Try.f11 Rows.fnExactBusyTicksRow.domain false) (Rows.fnExactBusyTicksSpec.post enc Try.prog Try.f11 false true false false) := by
  refine returnsInHanded_of_change_sized (C := Try.checked) own started (by kernel_rfl) Try.func11
    (ChangeSpec.witness6 (enc := enc) (C := Try.checked) false ⟨#[], #[.slice none 0 0, .slice none 0 0], []⟩ 8 (by kernel_rfl) (by kernel_rfl) (by kernel_rfl) (by kernel_rfl)) ?_
  intro W base args ds gs before hval0 hW hcnd hsz0 _
  have hsz : (DataW.weightsEach Try.prog (Try.f11.params.toList ++ Rows.fnExactBusyTicksSpec.plain.varTypes Try.prog) (ds ++ gs)).all (· ≤ reachBytes) = true := hsz0
  have hval : ∀ (j : Nat) t v, Try.f11.params[j]? = some t → args[j]? = some v → Value.okWide Try.prog W .any base t v := hval0
  have hW' := hW
  obtain ⟨p, q, hA0, hV, rfl, hfz, hnd⟩ := hW
  have hA : DataW.TrodAll enc Try.prog W 0 (fun _ => true) true Try.f11.params.toList args.toList ds p := hA0
  rw [Try.params11] at hA hval hsz
  obtain ⟨v0, vs0, d0, ds0, p0, q0, hargs, rfl, rfl, h0, r0⟩ := trodAll_cons hA
  obtain ⟨v1, vs1, d1, ds1, p1, q1, rfl, rfl, rfl, h1, r1⟩ := trodAll_cons r0
  obtain ⟨rfl, rfl, rfl⟩ := trodAll_nil r1
  obtain rfl : args = #[v0, v1] := by cases args; simp_all
  obtain ⟨rfl, rfl⟩ := trodVars_none hV
  have k0 := h0
  have lt0 : ∀ x ∈ p0, x.block < W.heap.size := by obtain ⟨m, hm⟩ := k0; exact DataW.trod_lt m _ _ _ hm
  obtain ⟨A0, c0, l0, rfl, hc0, hm0, hr0, hq0⟩ := row_of B.k86 (fun x => (Lit.int .i64 x.f0.f0).wf = true ∧ (Lit.int .i64 x.f0.f1).wf = true ∧ (Lit.int .i64 x.f1).wf = true ∧ (Lit.int .i64 x.f2).wf = true) Try.underlying29 cells86 (hval 0 29 v0 rfl rfl) h0 (fun n cs y hy => by obtain ⟨a, b, c, d, rfl, wa, wb, wc, wd⟩ := el_beam n cs y hy; exact ⟨⟨⟨a, b⟩, c, d⟩, B.k86_mk _ _, wa, wb, wc, wd⟩)
  have k1 := h1
  have lt1 : ∀ x ∈ p1, x.block < W.heap.size := by obtain ⟨m, hm⟩ := k1; exact DataW.trod_lt m _ _ _ hm
  obtain ⟨A1, c1, l1, rfl, hc1, hm1, hr1, hq1⟩ := row_of B.k106 (fun x => (Lit.int .i64 x.f0).wf = true ∧ (Lit.int .i64 x.f1).wf = true) Try.underlying62 cells106 (hval 1 62 v1 rfl rfl) h1 (fun n cs y hy => by obtain ⟨a, b, rfl, wa, wb⟩ := el_slot n cs y hy; exact ⟨⟨a, b⟩, B.k106_mk _ _, wa, wb⟩)
  clear hA0 hval0 hsz0 hsz
  obtain ⟨K, hK⟩ := PlainB.busyTicks l0 l1 hr0.2.1 hr1.2.1 (by
      refine List.all_eq_true.2 fun x hx => ?_
      obtain ⟨y, hy, rfl⟩ := List.mem_map.1 hx
      have e : IntKind.i64.min = -9223372036854775808 := by decide
      have := (hq1 y hy).1
      simp [Lit.wf] at this
      exact Bool.and_eq_true_iff.2 ⟨decide_eq_true (show -9223372036854775808 ≤ y.f0 by omega), decide_eq_true (show y.f0 ≤ 9223372036854775807 by omega)⟩)
  refine (B.laws_FnExactBusyTicks.calls K A0 c0 l0 A1 c1 l1 true W hr0 hc0 hr1 hc1 hK).mono fun e W' ⟨he, bel⟩ => ?_
  subst he
  exact ⟨_, rfl, _, _, _, [], _, [], hW', trodAll_mk1 (shut_bool Try.underlying4 _), (trodAll_cons_mk (Below.trod laidOut (by kernel_rfl) (of_decide_eq_true (by kernel_rfl)) k0 bel lt0) (trodAll_cons_mk (Below.trod laidOut (by kernel_rfl) (of_decide_eq_true (by kernel_rfl)) k1 bel lt1) trodAll_mk0)), rfl, bel.frame _, fun h => by cases h⟩
theorem over : Rows.fnExactBusyTicksRow.holds Try.pinned (OpenSpec.ofChange Rows.fnExactBusyTicksSpec) :=
  OpenClaim.holds_of_wide 11 Try.f11 rfl rfl rfl rfl rfl rfl rfl ⟨rfl, rfl, rfl, rfl, rfl⟩ rfl rfl rfl rfl rfl (by kernel_rfl) Try.func11 (by kernel_rfl)
    (of_decide_eq_true (by kernel_rfl)) (by unfold Func.isWrapper; first | (rw [if_pos (by decide +kernel)]; kernel_rfl) | (rw [if_neg (by decide +kernel)]; exact ⟨rfl, rfl⟩))
    (fun os started H enc _ => lifted os started H enc)
theorem proved : Rows.FnExactBusyTicksSaid := over
#print axioms proved
end Go.Proofs.Ytekcngoemeadlaa.RowBusyTicks
