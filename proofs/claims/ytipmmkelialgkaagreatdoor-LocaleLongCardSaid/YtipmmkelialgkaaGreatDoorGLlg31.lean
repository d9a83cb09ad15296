/- The row of LocaleLong asks nothing more: its walk is told whole. -/
import Derived.Test.YtipmmkelialgkaaGreatDoorGLlg30
namespace Go.Proofs.YtipmmkelialgkaaGreatDoor.Pure
open Go.RowKit Go.Proofs.YtipmmkelialgkaaGreatDoor.PLlg Go.Proofs.YtipmmkelialgkaaGreatDoorW.PrintWords Go.Proofs.YtipmmkelialgkaaGreatDoorW.PrintLast

theorem LocaleLong : redactorlaw07_LocaleLong.Pure := by
  trivial

end Go.Proofs.YtipmmkelialgkaaGreatDoor.Pure
