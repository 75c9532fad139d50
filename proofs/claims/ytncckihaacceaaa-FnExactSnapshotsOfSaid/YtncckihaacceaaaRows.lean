/-
  No cell of these rows narrows 'for every input' (looked for: loops, veiled, ifaces, maps, wideKeys, modest, calm, conditions, laid).
  DERIVED. THE GIVEN ROWS OF THIS SEAT. 5 by the template 'for every input the law returns true; each argument reads behind the call as it read before'; 0 by the template 'total and deterministic' (their statements: YtncckihaacceaaaTotals.lean).
  GIVEN WITH THE SEED: the statements are not yours to turn. If you find one false, say at which input.
  Laid BY PROGRAM, IN A SANDBOX (cutbox-rows.mjs): the forced cells as the released guide's own fill.sh prints them over the translation 825291da46efa096… (all of the seat's roots in one cut). By AI agents, Wed Nov 11 2026. No macro, syntax, notation, axiom, sorry.
-/
import Derived.Test.YtncckihaacceaaaChecked
import GoSem.Claim
import GoSem.ClaimJoined
import GoSem.ClaimMapViews
import Derived.JoinedTies
import Derived.KernelRfl
namespace Go.Proofs.Ytncckihaacceaaa
/- THE CELL 'sum', in the pinned program and in every row, IS THE sha256 OF THE DUMP (.gsa) THAT YtncckihaacceaaaProg.lean LOADS. Nothing in Lean hashes anything: it is a label: what it is worth is what the hold of that sum in a sandbox is worth. -/
noncomputable def Try.pinned : Pinned := { name := "ytncckihaacceaaa", sum := "825291da46efa096076cbc5e7a0f68df26bf128b791fc84a36b5aa8910096562", checked := Try.checked }
namespace Rows
def none {H : Type} : Left H := { results := [], args := [] }

/-- 'laws.FnExactCountSources': WHATEVER THE INPUT: true; the input reads as it did. -/
def fnExactCountSourcesSpec : ChangeSpec := { name := "fnExactCountSources", fn := fun _ => fun
  | [d1, d2] => { results := [.lit (.bool true)], args := [d1, d2] }
  | _ => none }
def fnExactCountSourcesRow : OpenClaim := { program := "ytncckihaacceaaa", sum := "825291da46efa096076cbc5e7a0f68df26bf128b791fc84a36b5aa8910096562", func := "loop.example/g01181/laws.FnExactCountSources", spec := "fnExactCountSources", apart := false }
def FnExactCountSourcesSaid : Prop := fnExactCountSourcesRow.holds Try.pinned (OpenSpec.ofChange fnExactCountSourcesSpec)

/-- ITS FALSE NEIGHBOUR: 'it returns false'. Refute it at one input. -/
def fnExactCountSourcesWrong : ChangeSpec := { name := "fnExactCountSources", fn := fun _ => fun
  | [d1, d2] => { results := [.lit (.bool false)], args := [d1, d2] }
  | _ => none }
def FnExactCountSourcesWrongFalsely : Prop := fnExactCountSourcesRow.holds Try.pinned (OpenSpec.ofChange fnExactCountSourcesWrong)

/-- 'laws.FnExactValidSources': WHATEVER THE INPUT: true; the input reads as it did. -/
def fnExactValidSourcesSpec : ChangeSpec := { name := "fnExactValidSources", fn := fun _ => fun
  | [d] => { results := [.lit (.bool true)], args := [d] }
  | _ => none }
def fnExactValidSourcesRow : OpenClaim := { program := "ytncckihaacceaaa", sum := "825291da46efa096076cbc5e7a0f68df26bf128b791fc84a36b5aa8910096562", func := "loop.example/g01181/laws.FnExactValidSources", spec := "fnExactValidSources", apart := false }
def FnExactValidSourcesSaid : Prop := fnExactValidSourcesRow.holds Try.pinned (OpenSpec.ofChange fnExactValidSourcesSpec)

/-- ITS FALSE NEIGHBOUR: 'it returns false'. Refute it at one input. -/
def fnExactValidSourcesWrong : ChangeSpec := { name := "fnExactValidSources", fn := fun _ => fun
  | [d] => { results := [.lit (.bool false)], args := [d] }
  | _ => none }
def FnExactValidSourcesWrongFalsely : Prop := fnExactValidSourcesRow.holds Try.pinned (OpenSpec.ofChange fnExactValidSourcesWrong)

/-- 'laws.FnExactStrongLobes': WHATEVER THE INPUT: true; the input reads as it did. -/
def fnExactStrongLobesSpec : ChangeSpec := { name := "fnExactStrongLobes", fn := fun _ => fun
  | [d1, d2] => { results := [.lit (.bool true)], args := [d1, d2] }
  | _ => none }
def fnExactStrongLobesRow : OpenClaim := { program := "ytncckihaacceaaa", sum := "825291da46efa096076cbc5e7a0f68df26bf128b791fc84a36b5aa8910096562", func := "loop.example/g01181/laws.FnExactStrongLobes", spec := "fnExactStrongLobes", unfollowed := true, recurses := true, apart := false }
def FnExactStrongLobesSaid : Prop := fnExactStrongLobesRow.holds Try.pinned (OpenSpec.ofChange fnExactStrongLobesSpec)

/-- ITS FALSE NEIGHBOUR: 'it returns false'. Refute it at one input. -/
def fnExactStrongLobesWrong : ChangeSpec := { name := "fnExactStrongLobes", fn := fun _ => fun
  | [d1, d2] => { results := [.lit (.bool false)], args := [d1, d2] }
  | _ => none }
def FnExactStrongLobesWrongFalsely : Prop := fnExactStrongLobesRow.holds Try.pinned (OpenSpec.ofChange fnExactStrongLobesWrong)

/-- 'laws.FnExactSnapshotOf': WHATEVER THE INPUT: true; the input reads as it did. -/
def fnExactSnapshotOfSpec : ChangeSpec := { name := "fnExactSnapshotOf", fn := fun _ => fun
  | [d1, d2, d3, d4, d5] => { results := [.lit (.bool true)], args := [d1, d2, d3, d4, d5] }
  | _ => none }
def fnExactSnapshotOfRow : OpenClaim := { program := "ytncckihaacceaaa", sum := "825291da46efa096076cbc5e7a0f68df26bf128b791fc84a36b5aa8910096562", func := "loop.example/g01181/laws.FnExactSnapshotOf", spec := "fnExactSnapshotOf", inPlace := ["math.Float32frombits", "math.Float64frombits", "math.Float64bits"], unfollowed := true, recurses := true, apart := false }
def FnExactSnapshotOfSaid : Prop := fnExactSnapshotOfRow.holds Try.pinned (OpenSpec.ofChange fnExactSnapshotOfSpec)

/-- ITS FALSE NEIGHBOUR: 'it returns false'. Refute it at one input. -/
def fnExactSnapshotOfWrong : ChangeSpec := { name := "fnExactSnapshotOf", fn := fun _ => fun
  | [d1, d2, d3, d4, d5] => { results := [.lit (.bool false)], args := [d1, d2, d3, d4, d5] }
  | _ => none }
def FnExactSnapshotOfWrongFalsely : Prop := fnExactSnapshotOfRow.holds Try.pinned (OpenSpec.ofChange fnExactSnapshotOfWrong)

/-- 'laws.FnExactSnapshotsOf': WHATEVER THE INPUT: true; the input reads as it did. -/
def fnExactSnapshotsOfSpec : ChangeSpec := { name := "fnExactSnapshotsOf", fn := fun _ => fun
  | [d1, d2, d3, d4, d5, d6] => { results := [.lit (.bool true)], args := [d1, d2, d3, d4, d5, d6] }
  | _ => none }
def fnExactSnapshotsOfRow : OpenClaim := { program := "ytncckihaacceaaa", sum := "825291da46efa096076cbc5e7a0f68df26bf128b791fc84a36b5aa8910096562", func := "loop.example/g01181/laws.FnExactSnapshotsOf", spec := "fnExactSnapshotsOf", inPlace := ["math.Float32frombits", "math.Float64frombits", "math.Float64bits"], unfollowed := true, recurses := true, apart := false }
def FnExactSnapshotsOfSaid : Prop := fnExactSnapshotsOfRow.holds Try.pinned (OpenSpec.ofChange fnExactSnapshotsOfSpec)

/-- ITS FALSE NEIGHBOUR: 'it returns false'. Refute it at one input. -/
def fnExactSnapshotsOfWrong : ChangeSpec := { name := "fnExactSnapshotsOf", fn := fun _ => fun
  | [d1, d2, d3, d4, d5, d6] => { results := [.lit (.bool false)], args := [d1, d2, d3, d4, d5, d6] }
  | _ => none }
def FnExactSnapshotsOfWrongFalsely : Prop := fnExactSnapshotsOfRow.holds Try.pinned (OpenSpec.ofChange fnExactSnapshotsOfWrong)

/- THE SECOND FORM. 'bulk': how many values and letters a reading holds, each counted each time it is reached (what is shared counts as often as it is met; a slice's spare places count too). A statement '..UptoSaid' is the law's where the arguments, and the package variables that the reading takes, are together of bulk at most 1048576: NARROWER than '..Said'. Prove '..Said' where nothing that the law and all that it calls make is longer than what came in: it says more and counts as full. Else prove '..UptoSaid'. A law counts once. -/
mutual
def uptoBulk {H : Type} : DataW H → Nat
  | .lit (.string bytes) => bytes.length + 1
  | .lit _ => 1
  | .nil => 1
  | .ptr d => uptoBulk d + 1
  | .slice elems spare => uptoBulkAll elems + uptoBulkAll spare + 1
  | .agg parts => uptoBulkAll parts + 1
  | .iface _ d => uptoBulk d + 1
  | .map entries => uptoBulkEntries entries + 1
  | .held _ => 1
def uptoBulkAll {H : Type} : List (DataW H) → Nat
  | [] => 0
  | d :: r => uptoBulk d + uptoBulkAll r
def uptoBulkEntries {H : Type} : List (Lit × DataW H) → Nat
  | [] => 0
  | x :: r => uptoBulkEntry x + uptoBulkEntries r
def uptoBulkEntry {H : Type} : Lit × DataW H → Nat
  | (.string bytes, d) => bytes.length + uptoBulk d + 1
  | (_, d) => uptoBulk d + 1
 end
def uptoSmall : (H : Type) → List (DataW H) → Bool := fun _ ds => decide (uptoBulkAll ds ≤ 1048576)
def OpenSpec.upto (s : _root_.Go.ChangeSpec) : _root_.Go.OpenSpec := { _root_.Go.OpenSpec.ofChange s with cond := some uptoSmall }

/-- 'laws.FnExactCountSources', WHERE WHAT IT READS IS OF BULK AT MOST 1048576: true; the input reads as it did. -/
def fnExactCountSourcesUptoRow : OpenClaim := { program := "ytncckihaacceaaa", sum := "825291da46efa096076cbc5e7a0f68df26bf128b791fc84a36b5aa8910096562", func := "loop.example/g01181/laws.FnExactCountSources", spec := "fnExactCountSources", apart := false, narrowed := true }
def FnExactCountSourcesUptoSaid : Prop := fnExactCountSourcesUptoRow.holds Try.pinned (OpenSpec.upto fnExactCountSourcesSpec)

/-- 'laws.FnExactValidSources', WHERE WHAT IT READS IS OF BULK AT MOST 1048576: true; the input reads as it did. -/
def fnExactValidSourcesUptoRow : OpenClaim := { program := "ytncckihaacceaaa", sum := "825291da46efa096076cbc5e7a0f68df26bf128b791fc84a36b5aa8910096562", func := "loop.example/g01181/laws.FnExactValidSources", spec := "fnExactValidSources", apart := false, narrowed := true }
def FnExactValidSourcesUptoSaid : Prop := fnExactValidSourcesUptoRow.holds Try.pinned (OpenSpec.upto fnExactValidSourcesSpec)

/-- 'laws.FnExactStrongLobes', WHERE WHAT IT READS IS OF BULK AT MOST 1048576: true; the input reads as it did. -/
def fnExactStrongLobesUptoRow : OpenClaim := { program := "ytncckihaacceaaa", sum := "825291da46efa096076cbc5e7a0f68df26bf128b791fc84a36b5aa8910096562", func := "loop.example/g01181/laws.FnExactStrongLobes", spec := "fnExactStrongLobes", unfollowed := true, recurses := true, apart := false, narrowed := true }
def FnExactStrongLobesUptoSaid : Prop := fnExactStrongLobesUptoRow.holds Try.pinned (OpenSpec.upto fnExactStrongLobesSpec)

/-- 'laws.FnExactSnapshotOf', WHERE WHAT IT READS IS OF BULK AT MOST 1048576: true; the input reads as it did. -/
def fnExactSnapshotOfUptoRow : OpenClaim := { program := "ytncckihaacceaaa", sum := "825291da46efa096076cbc5e7a0f68df26bf128b791fc84a36b5aa8910096562", func := "loop.example/g01181/laws.FnExactSnapshotOf", spec := "fnExactSnapshotOf", inPlace := ["math.Float32frombits", "math.Float64frombits", "math.Float64bits"], unfollowed := true, recurses := true, apart := false, narrowed := true }
def FnExactSnapshotOfUptoSaid : Prop := fnExactSnapshotOfUptoRow.holds Try.pinned (OpenSpec.upto fnExactSnapshotOfSpec)

/-- 'laws.FnExactSnapshotsOf', WHERE WHAT IT READS IS OF BULK AT MOST 1048576: true; the input reads as it did. -/
def fnExactSnapshotsOfUptoRow : OpenClaim := { program := "ytncckihaacceaaa", sum := "825291da46efa096076cbc5e7a0f68df26bf128b791fc84a36b5aa8910096562", func := "loop.example/g01181/laws.FnExactSnapshotsOf", spec := "fnExactSnapshotsOf", inPlace := ["math.Float32frombits", "math.Float64frombits", "math.Float64bits"], unfollowed := true, recurses := true, apart := false, narrowed := true }
def FnExactSnapshotsOfUptoSaid : Prop := fnExactSnapshotsOfUptoRow.holds Try.pinned (OpenSpec.upto fnExactSnapshotsOfSpec)

end Rows
end Go.Proofs.Ytncckihaacceaaa
