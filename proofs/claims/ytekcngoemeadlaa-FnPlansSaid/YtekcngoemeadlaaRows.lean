/-
  No cell of these rows narrows 'for every input' (looked for: loops, veiled, ifaces, maps, wideKeys, modest, calm, conditions, laid).
  DERIVED. THE GIVEN ROWS OF THIS SEAT. 10 by the template 'for every input the law returns true; each argument reads behind the call as it read before'; 0 by the template 'total and deterministic' (their statements: YtekcngoemeadlaaTotals.lean).
  GIVEN WITH THE SEED: the statements are not yours to turn. If you find one false, say at which input.
  Laid BY PROGRAM, IN A SANDBOX (cutbox-rows.mjs): the forced cells as the released guide's own fill.sh prints them over the translation c6ea265715a17f53… (all of the seat's roots in one cut). By AI agents, Wed Nov 11 2026. No macro, syntax, notation, axiom, sorry.
-/
import Derived.Test.YtekcngoemeadlaaChecked
import GoSem.Claim
import GoSem.ClaimJoined
import GoSem.ClaimMapViews
import Derived.JoinedTies
import Derived.KernelRfl
namespace Go.Proofs.Ytekcngoemeadlaa
/- THE CELL 'sum', in the pinned program and in every row, IS THE sha256 OF THE DUMP (.gsa) THAT YtekcngoemeadlaaProg.lean LOADS. Nothing in Lean hashes anything: it is a label: what it is worth is what the hold of that sum in a sandbox is worth. -/
noncomputable def Try.pinned : Pinned := { name := "ytekcngoemeadlaa", sum := "c6ea265715a17f533d6003175d35a69e413178d0458eec6910c3c895670f5d40", checked := Try.checked }
namespace Rows
def none {H : Type} : Left H := { results := [], args := [] }

/-- 'laws.FnExactSwitchTicks': WHATEVER THE INPUT: true; the input reads as it did. -/
def fnExactSwitchTicksSpec : ChangeSpec := { name := "fnExactSwitchTicks", fn := fun _ => fun
  | [d1, d2] => { results := [.lit (.bool true)], args := [d1, d2] }
  | _ => none }
def fnExactSwitchTicksRow : OpenClaim := { program := "ytekcngoemeadlaa", sum := "c6ea265715a17f533d6003175d35a69e413178d0458eec6910c3c895670f5d40", func := "loop.example/g01181/laws.FnExactSwitchTicks", spec := "fnExactSwitchTicks", apart := false }
def FnExactSwitchTicksSaid : Prop := fnExactSwitchTicksRow.holds Try.pinned (OpenSpec.ofChange fnExactSwitchTicksSpec)

/-- ITS FALSE NEIGHBOUR: 'it returns false'. Refute it at one input. -/
def fnExactSwitchTicksWrong : ChangeSpec := { name := "fnExactSwitchTicks", fn := fun _ => fun
  | [d1, d2] => { results := [.lit (.bool false)], args := [d1, d2] }
  | _ => none }
def FnExactSwitchTicksWrongFalsely : Prop := fnExactSwitchTicksRow.holds Try.pinned (OpenSpec.ofChange fnExactSwitchTicksWrong)

/-- 'laws.FnExactAreBeams': WHATEVER THE INPUT: true; the input reads as it did. -/
def fnExactAreBeamsSpec : ChangeSpec := { name := "fnExactAreBeams", fn := fun _ => fun
  | [d] => { results := [.lit (.bool true)], args := [d] }
  | _ => none }
def fnExactAreBeamsRow : OpenClaim := { program := "ytekcngoemeadlaa", sum := "c6ea265715a17f533d6003175d35a69e413178d0458eec6910c3c895670f5d40", func := "loop.example/g01181/laws.FnExactAreBeams", spec := "fnExactAreBeams", apart := false }
def FnExactAreBeamsSaid : Prop := fnExactAreBeamsRow.holds Try.pinned (OpenSpec.ofChange fnExactAreBeamsSpec)

/-- ITS FALSE NEIGHBOUR: 'it returns false'. Refute it at one input. -/
def fnExactAreBeamsWrong : ChangeSpec := { name := "fnExactAreBeams", fn := fun _ => fun
  | [d] => { results := [.lit (.bool false)], args := [d] }
  | _ => none }
def FnExactAreBeamsWrongFalsely : Prop := fnExactAreBeamsRow.holds Try.pinned (OpenSpec.ofChange fnExactAreBeamsWrong)

/-- 'laws.FnExactNearestBeam': WHATEVER THE INPUT: true; the input reads as it did. -/
def fnExactNearestBeamSpec : ChangeSpec := { name := "fnExactNearestBeam", fn := fun _ => fun
  | [d1, d2] => { results := [.lit (.bool true)], args := [d1, d2] }
  | _ => none }
def fnExactNearestBeamRow : OpenClaim := { program := "ytekcngoemeadlaa", sum := "c6ea265715a17f533d6003175d35a69e413178d0458eec6910c3c895670f5d40", func := "loop.example/g01181/laws.FnExactNearestBeam", spec := "fnExactNearestBeam", unfollowed := true, recurses := true, apart := false }
def FnExactNearestBeamSaid : Prop := fnExactNearestBeamRow.holds Try.pinned (OpenSpec.ofChange fnExactNearestBeamSpec)

/-- ITS FALSE NEIGHBOUR: 'it returns false'. Refute it at one input. -/
def fnExactNearestBeamWrong : ChangeSpec := { name := "fnExactNearestBeam", fn := fun _ => fun
  | [d1, d2] => { results := [.lit (.bool false)], args := [d1, d2] }
  | _ => none }
def FnExactNearestBeamWrongFalsely : Prop := fnExactNearestBeamRow.holds Try.pinned (OpenSpec.ofChange fnExactNearestBeamWrong)

/-- 'laws.FnExactLoadOf': WHATEVER THE INPUT: true; the input reads as it did. -/
def fnExactLoadOfSpec : ChangeSpec := { name := "fnExactLoadOf", fn := fun _ => fun
  | [d] => { results := [.lit (.bool true)], args := [d] }
  | _ => none }
def fnExactLoadOfRow : OpenClaim := { program := "ytekcngoemeadlaa", sum := "c6ea265715a17f533d6003175d35a69e413178d0458eec6910c3c895670f5d40", func := "loop.example/g01181/laws.FnExactLoadOf", spec := "fnExactLoadOf", apart := false }
def FnExactLoadOfSaid : Prop := fnExactLoadOfRow.holds Try.pinned (OpenSpec.ofChange fnExactLoadOfSpec)

/-- ITS FALSE NEIGHBOUR: 'it returns false'. Refute it at one input. -/
def fnExactLoadOfWrong : ChangeSpec := { name := "fnExactLoadOf", fn := fun _ => fun
  | [d] => { results := [.lit (.bool false)], args := [d] }
  | _ => none }
def FnExactLoadOfWrongFalsely : Prop := fnExactLoadOfRow.holds Try.pinned (OpenSpec.ofChange fnExactLoadOfWrong)

/-- 'laws.FnExactTourTicks': WHATEVER THE INPUT: true; the input reads as it did. -/
def fnExactTourTicksSpec : ChangeSpec := { name := "fnExactTourTicks", fn := fun _ => fun
  | [d1, d2] => { results := [.lit (.bool true)], args := [d1, d2] }
  | _ => none }
def fnExactTourTicksRow : OpenClaim := { program := "ytekcngoemeadlaa", sum := "c6ea265715a17f533d6003175d35a69e413178d0458eec6910c3c895670f5d40", func := "loop.example/g01181/laws.FnExactTourTicks", spec := "fnExactTourTicks", unfollowed := true, recurses := true, apart := false }
def FnExactTourTicksSaid : Prop := fnExactTourTicksRow.holds Try.pinned (OpenSpec.ofChange fnExactTourTicksSpec)

/-- ITS FALSE NEIGHBOUR: 'it returns false'. Refute it at one input. -/
def fnExactTourTicksWrong : ChangeSpec := { name := "fnExactTourTicks", fn := fun _ => fun
  | [d1, d2] => { results := [.lit (.bool false)], args := [d1, d2] }
  | _ => none }
def FnExactTourTicksWrongFalsely : Prop := fnExactTourTicksRow.holds Try.pinned (OpenSpec.ofChange fnExactTourTicksWrong)

/-- 'laws.FnTours': WHATEVER THE INPUT: true; the input reads as it did. -/
def fnToursSpec : ChangeSpec := { name := "fnTours", fn := fun _ => fun
  | [d1, d2] => { results := [.lit (.bool true)], args := [d1, d2] }
  | _ => none }
def fnToursRow : OpenClaim := { program := "ytekcngoemeadlaa", sum := "c6ea265715a17f533d6003175d35a69e413178d0458eec6910c3c895670f5d40", func := "loop.example/g01181/laws.FnTours", spec := "fnTours", unfollowed := true, recurses := true, apart := false }
def FnToursSaid : Prop := fnToursRow.holds Try.pinned (OpenSpec.ofChange fnToursSpec)

/-- ITS FALSE NEIGHBOUR: 'it returns false'. Refute it at one input. -/
def fnToursWrong : ChangeSpec := { name := "fnTours", fn := fun _ => fun
  | [d1, d2] => { results := [.lit (.bool false)], args := [d1, d2] }
  | _ => none }
def FnToursWrongFalsely : Prop := fnToursRow.holds Try.pinned (OpenSpec.ofChange fnToursWrong)

/-- 'laws.FnExactIsPlan': WHATEVER THE INPUT: true; the input reads as it did. -/
def fnExactIsPlanSpec : ChangeSpec := { name := "fnExactIsPlan", fn := fun _ => fun
  | [d1, d2] => { results := [.lit (.bool true)], args := [d1, d2] }
  | _ => none }
def fnExactIsPlanRow : OpenClaim := { program := "ytekcngoemeadlaa", sum := "c6ea265715a17f533d6003175d35a69e413178d0458eec6910c3c895670f5d40", func := "loop.example/g01181/laws.FnExactIsPlan", spec := "fnExactIsPlan", apart := false }
def FnExactIsPlanSaid : Prop := fnExactIsPlanRow.holds Try.pinned (OpenSpec.ofChange fnExactIsPlanSpec)

/-- ITS FALSE NEIGHBOUR: 'it returns false'. Refute it at one input. -/
def fnExactIsPlanWrong : ChangeSpec := { name := "fnExactIsPlan", fn := fun _ => fun
  | [d1, d2] => { results := [.lit (.bool false)], args := [d1, d2] }
  | _ => none }
def FnExactIsPlanWrongFalsely : Prop := fnExactIsPlanRow.holds Try.pinned (OpenSpec.ofChange fnExactIsPlanWrong)

/-- 'laws.FnExactShortestTour': WHATEVER THE INPUT: true; the input reads as it did. -/
def fnExactShortestTourSpec : ChangeSpec := { name := "fnExactShortestTour", fn := fun _ => fun
  | [d] => { results := [.lit (.bool true)], args := [d] }
  | _ => none }
def fnExactShortestTourRow : OpenClaim := { program := "ytekcngoemeadlaa", sum := "c6ea265715a17f533d6003175d35a69e413178d0458eec6910c3c895670f5d40", func := "loop.example/g01181/laws.FnExactShortestTour", spec := "fnExactShortestTour", unfollowed := true, recurses := true, apart := false }
def FnExactShortestTourSaid : Prop := fnExactShortestTourRow.holds Try.pinned (OpenSpec.ofChange fnExactShortestTourSpec)

/-- ITS FALSE NEIGHBOUR: 'it returns false'. Refute it at one input. -/
def fnExactShortestTourWrong : ChangeSpec := { name := "fnExactShortestTour", fn := fun _ => fun
  | [d] => { results := [.lit (.bool false)], args := [d] }
  | _ => none }
def FnExactShortestTourWrongFalsely : Prop := fnExactShortestTourRow.holds Try.pinned (OpenSpec.ofChange fnExactShortestTourWrong)

/-- 'laws.FnExactBusyTicks': WHATEVER THE INPUT: true; the input reads as it did. -/
def fnExactBusyTicksSpec : ChangeSpec := { name := "fnExactBusyTicks", fn := fun _ => fun
  | [d1, d2] => { results := [.lit (.bool true)], args := [d1, d2] }
  | _ => none }
def fnExactBusyTicksRow : OpenClaim := { program := "ytekcngoemeadlaa", sum := "c6ea265715a17f533d6003175d35a69e413178d0458eec6910c3c895670f5d40", func := "loop.example/g01181/laws.FnExactBusyTicks", spec := "fnExactBusyTicks", apart := false }
def FnExactBusyTicksSaid : Prop := fnExactBusyTicksRow.holds Try.pinned (OpenSpec.ofChange fnExactBusyTicksSpec)

/-- ITS FALSE NEIGHBOUR: 'it returns false'. Refute it at one input. -/
def fnExactBusyTicksWrong : ChangeSpec := { name := "fnExactBusyTicks", fn := fun _ => fun
  | [d1, d2] => { results := [.lit (.bool false)], args := [d1, d2] }
  | _ => none }
def FnExactBusyTicksWrongFalsely : Prop := fnExactBusyTicksRow.holds Try.pinned (OpenSpec.ofChange fnExactBusyTicksWrong)

/-- 'laws.FnPlans': WHATEVER THE INPUT: true; the input reads as it did. -/
def fnPlansSpec : ChangeSpec := { name := "fnPlans", fn := fun _ => fun
  | [d1, d2] => { results := [.lit (.bool true)], args := [d1, d2] }
  | _ => none }
def fnPlansRow : OpenClaim := { program := "ytekcngoemeadlaa", sum := "c6ea265715a17f533d6003175d35a69e413178d0458eec6910c3c895670f5d40", func := "loop.example/g01181/laws.FnPlans", spec := "fnPlans", unfollowed := true, recurses := true, apart := false }
def FnPlansSaid : Prop := fnPlansRow.holds Try.pinned (OpenSpec.ofChange fnPlansSpec)

/-- ITS FALSE NEIGHBOUR: 'it returns false'. Refute it at one input. -/
def fnPlansWrong : ChangeSpec := { name := "fnPlans", fn := fun _ => fun
  | [d1, d2] => { results := [.lit (.bool false)], args := [d1, d2] }
  | _ => none }
def FnPlansWrongFalsely : Prop := fnPlansRow.holds Try.pinned (OpenSpec.ofChange fnPlansWrong)

/- THE SECOND FORM. 'bulk': how many values and letters a reading holds, each counted each time it is reached (what is shared counts as often as it is met; a slice's spare places count too). A statement '..UptoSaid' is the law's where the arguments, and the package variables that the reading takes, are together of bulk at most 1048576: NARROWER than '..Said'. Prove '..Said' where nothing that the law and all that it calls make is longer than what came in: it says more and counts as full. Else prove '..UptoSaid'. A law counts once. -/
mutual
def uptoBulk {H : Type} : DataW H → Nat
  | .lit (.string bytes) => bytes.length + 1
  | .lit _ => 1
  | .nil => 1
  | .ptr d => uptoBulk d + 1
  | .slice elems spare => uptoBulkAll elems + uptoBulkAll spare + 1
  | .agg parts => uptoBulkAll parts + 1
  | .iface _ d => uptoBulk d + 1
  | .map entries => uptoBulkEntries entries + 1
  | .held _ => 1
def uptoBulkAll {H : Type} : List (DataW H) → Nat
  | [] => 0
  | d :: r => uptoBulk d + uptoBulkAll r
def uptoBulkEntries {H : Type} : List (Lit × DataW H) → Nat
  | [] => 0
  | x :: r => uptoBulkEntry x + uptoBulkEntries r
def uptoBulkEntry {H : Type} : Lit × DataW H → Nat
  | (.string bytes, d) => bytes.length + uptoBulk d + 1
  | (_, d) => uptoBulk d + 1
 end
def uptoSmall : (H : Type) → List (DataW H) → Bool := fun _ ds => decide (uptoBulkAll ds ≤ 1048576)
def OpenSpec.upto (s : _root_.Go.ChangeSpec) : _root_.Go.OpenSpec := { _root_.Go.OpenSpec.ofChange s with cond := some uptoSmall }

/-- 'laws.FnExactSwitchTicks', WHERE WHAT IT READS IS OF BULK AT MOST 1048576: true; the input reads as it did. -/
def fnExactSwitchTicksUptoRow : OpenClaim := { program := "ytekcngoemeadlaa", sum := "c6ea265715a17f533d6003175d35a69e413178d0458eec6910c3c895670f5d40", func := "loop.example/g01181/laws.FnExactSwitchTicks", spec := "fnExactSwitchTicks", apart := false, narrowed := true }
def FnExactSwitchTicksUptoSaid : Prop := fnExactSwitchTicksUptoRow.holds Try.pinned (OpenSpec.upto fnExactSwitchTicksSpec)

/-- 'laws.FnExactAreBeams', WHERE WHAT IT READS IS OF BULK AT MOST 1048576: true; the input reads as it did. -/
def fnExactAreBeamsUptoRow : OpenClaim := { program := "ytekcngoemeadlaa", sum := "c6ea265715a17f533d6003175d35a69e413178d0458eec6910c3c895670f5d40", func := "loop.example/g01181/laws.FnExactAreBeams", spec := "fnExactAreBeams", apart := false, narrowed := true }
def FnExactAreBeamsUptoSaid : Prop := fnExactAreBeamsUptoRow.holds Try.pinned (OpenSpec.upto fnExactAreBeamsSpec)

/-- 'laws.FnExactNearestBeam', WHERE WHAT IT READS IS OF BULK AT MOST 1048576: true; the input reads as it did. -/
def fnExactNearestBeamUptoRow : OpenClaim := { program := "ytekcngoemeadlaa", sum := "c6ea265715a17f533d6003175d35a69e413178d0458eec6910c3c895670f5d40", func := "loop.example/g01181/laws.FnExactNearestBeam", spec := "fnExactNearestBeam", unfollowed := true, recurses := true, apart := false, narrowed := true }
def FnExactNearestBeamUptoSaid : Prop := fnExactNearestBeamUptoRow.holds Try.pinned (OpenSpec.upto fnExactNearestBeamSpec)

/-- 'laws.FnExactLoadOf', WHERE WHAT IT READS IS OF BULK AT MOST 1048576: true; the input reads as it did. -/
def fnExactLoadOfUptoRow : OpenClaim := { program := "ytekcngoemeadlaa", sum := "c6ea265715a17f533d6003175d35a69e413178d0458eec6910c3c895670f5d40", func := "loop.example/g01181/laws.FnExactLoadOf", spec := "fnExactLoadOf", apart := false, narrowed := true }
def FnExactLoadOfUptoSaid : Prop := fnExactLoadOfUptoRow.holds Try.pinned (OpenSpec.upto fnExactLoadOfSpec)

/-- 'laws.FnExactTourTicks', WHERE WHAT IT READS IS OF BULK AT MOST 1048576: true; the input reads as it did. -/
def fnExactTourTicksUptoRow : OpenClaim := { program := "ytekcngoemeadlaa", sum := "c6ea265715a17f533d6003175d35a69e413178d0458eec6910c3c895670f5d40", func := "loop.example/g01181/laws.FnExactTourTicks", spec := "fnExactTourTicks", unfollowed := true, recurses := true, apart := false, narrowed := true }
def FnExactTourTicksUptoSaid : Prop := fnExactTourTicksUptoRow.holds Try.pinned (OpenSpec.upto fnExactTourTicksSpec)

/-- 'laws.FnTours', WHERE WHAT IT READS IS OF BULK AT MOST 1048576: true; the input reads as it did. -/
def fnToursUptoRow : OpenClaim := { program := "ytekcngoemeadlaa", sum := "c6ea265715a17f533d6003175d35a69e413178d0458eec6910c3c895670f5d40", func := "loop.example/g01181/laws.FnTours", spec := "fnTours", unfollowed := true, recurses := true, apart := false, narrowed := true }
def FnToursUptoSaid : Prop := fnToursUptoRow.holds Try.pinned (OpenSpec.upto fnToursSpec)

/-- 'laws.FnExactIsPlan', WHERE WHAT IT READS IS OF BULK AT MOST 1048576: true; the input reads as it did. -/
def fnExactIsPlanUptoRow : OpenClaim := { program := "ytekcngoemeadlaa", sum := "c6ea265715a17f533d6003175d35a69e413178d0458eec6910c3c895670f5d40", func := "loop.example/g01181/laws.FnExactIsPlan", spec := "fnExactIsPlan", apart := false, narrowed := true }
def FnExactIsPlanUptoSaid : Prop := fnExactIsPlanUptoRow.holds Try.pinned (OpenSpec.upto fnExactIsPlanSpec)

/-- 'laws.FnExactShortestTour', WHERE WHAT IT READS IS OF BULK AT MOST 1048576: true; the input reads as it did. -/
def fnExactShortestTourUptoRow : OpenClaim := { program := "ytekcngoemeadlaa", sum := "c6ea265715a17f533d6003175d35a69e413178d0458eec6910c3c895670f5d40", func := "loop.example/g01181/laws.FnExactShortestTour", spec := "fnExactShortestTour", unfollowed := true, recurses := true, apart := false, narrowed := true }
def FnExactShortestTourUptoSaid : Prop := fnExactShortestTourUptoRow.holds Try.pinned (OpenSpec.upto fnExactShortestTourSpec)

/-- 'laws.FnExactBusyTicks', WHERE WHAT IT READS IS OF BULK AT MOST 1048576: true; the input reads as it did. -/
def fnExactBusyTicksUptoRow : OpenClaim := { program := "ytekcngoemeadlaa", sum := "c6ea265715a17f533d6003175d35a69e413178d0458eec6910c3c895670f5d40", func := "loop.example/g01181/laws.FnExactBusyTicks", spec := "fnExactBusyTicks", apart := false, narrowed := true }
def FnExactBusyTicksUptoSaid : Prop := fnExactBusyTicksUptoRow.holds Try.pinned (OpenSpec.upto fnExactBusyTicksSpec)

/-- 'laws.FnPlans', WHERE WHAT IT READS IS OF BULK AT MOST 1048576: true; the input reads as it did. -/
def fnPlansUptoRow : OpenClaim := { program := "ytekcngoemeadlaa", sum := "c6ea265715a17f533d6003175d35a69e413178d0458eec6910c3c895670f5d40", func := "loop.example/g01181/laws.FnPlans", spec := "fnPlans", unfollowed := true, recurses := true, apart := false, narrowed := true }
def FnPlansUptoSaid : Prop := fnPlansUptoRow.holds Try.pinned (OpenSpec.upto fnPlansSpec)

end Rows
end Go.Proofs.Ytekcngoemeadlaa
