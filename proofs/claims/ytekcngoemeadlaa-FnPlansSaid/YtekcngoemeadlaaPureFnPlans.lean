/-
  The plain law of FnPlans, under the name that its row asks for.
-/
import Derived.Test.YtekcngoemeadlaaPlainLawZ
namespace Go.Proofs.Ytekcngoemeadlaa.Pure
open Go.Proofs.Ytekcngoemeadlaa.Z
theorem FnPlans : laws_FnPlans.Pure := PlainZ.fnPlans_plain
end Go.Proofs.Ytekcngoemeadlaa.Pure
