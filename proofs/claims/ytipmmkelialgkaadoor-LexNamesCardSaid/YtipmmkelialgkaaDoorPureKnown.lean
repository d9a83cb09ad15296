/- The chapter's example. -/
import Derived.Test.YtipmmkelialgkaaDoorPLexx1
set_option linter.unusedVariables false
namespace Go.Proofs.YtipmmkelialgkaaDoor.Pure
open Go.Proofs.YtipmmkelialgkaaDoor.PLex
theorem known_true : redactorlaw06_known.f = some true := by
  kernel_rfl
end Go.Proofs.YtipmmkelialgkaaDoor.Pure
