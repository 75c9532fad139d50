/-
  A whole number that came in by value.
-/
import Derived.Test.YtncckihaacceaaaBase
namespace Go.Proofs.Ytncckihaacceaaa.OpenInt
open Go Go.RowKit
theorem open_int {P : Program} {w : World} {k : IntKind} {t : TypeId} {v : Value} {r : Reach} {b0 : Nat} (ht : P.underlying t = some (.int k)) (hv : Value.okWide P w r b0 t v) : ∃ a : Int, v = .int k a := by
  simp only [Value.okWide, ht, Cell.okWide] at hv
  cases v <;> simp_all [Cell.ok]
end Go.Proofs.Ytncckihaacceaaa.OpenInt
