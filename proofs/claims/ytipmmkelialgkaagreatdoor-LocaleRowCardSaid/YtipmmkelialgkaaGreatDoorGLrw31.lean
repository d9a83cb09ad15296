/- The row of LocaleRow asks nothing more: its walk is told whole. -/
import Derived.Test.YtipmmkelialgkaaGreatDoorGLrw30
namespace Go.Proofs.YtipmmkelialgkaaGreatDoor.Pure
open Go.RowKit Go.Proofs.YtipmmkelialgkaaGreatDoor.PLrw Go.Proofs.YtipmmkelialgkaaGreatDoorW.PrintWords Go.Proofs.YtipmmkelialgkaaGreatDoorW.PrintLast

theorem LocaleRow : redactorlaw07_LocaleRow.Pure := by
  trivial

end Go.Proofs.YtipmmkelialgkaaGreatDoor.Pure
