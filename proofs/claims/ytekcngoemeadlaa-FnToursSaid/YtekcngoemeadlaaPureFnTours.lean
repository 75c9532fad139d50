/-
  The plain law of FnTours, under the name that its row asks for.
-/
import Derived.Test.YtekcngoemeadlaaPlainLawU
namespace Go.Proofs.Ytekcngoemeadlaa.Pure
open Go.Proofs.Ytekcngoemeadlaa.U
theorem FnTours : laws_FnTours.Pure := PlainU.fnTours_plain
end Go.Proofs.Ytekcngoemeadlaa.Pure
