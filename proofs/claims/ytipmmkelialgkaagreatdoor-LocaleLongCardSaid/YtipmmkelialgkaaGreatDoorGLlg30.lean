/- WRITTEN FOR THIS CLAIM by wip/tools/told.py (the kit's printer, with some functions told by hand). -/
import Derived.Test.YtipmmkelialgkaaGreatDoorGLlg1
import Derived.Test.YtipmmkelialgkaaGreatDoorGLlg29
namespace Go.Proofs.YtipmmkelialgkaaGreatDoor.PLlg
open Go.RowKit Go.Proofs.YtipmmkelialgkaaGreatDoorW.PrintWords Go.Proofs.YtipmmkelialgkaaGreatDoorW.PrintLast Go.Proofs.YtipmmkelialgkaaGreatDoorW.PrintMore
attribute [local go_sem] max2_int min2_int max_two min_two max_three min_three max_four min_four   -- for this text's walks alone
set_option linter.unusedVariables false
set_option linter.unusedSimpArgs false

/-! ### redactorlaw07_LocaleLong: function 5 -/
-- TOLD LocLong
def redactorlaw07_LocaleLong.Pure : Prop := True
theorem redactorlaw07_LocaleLong.walk (P : redactorlaw07_LocaleLong.Pure) (a0 : Int) (w : World) (w0 : (Lit.int .u8 a0).wf = true) (hG : Lex.Gl w) :
    Calls Tryz.prog 5 #[.int .u8 a0] w fun e w' => e = .returned (.bool true) ∧ Below w.heap.size w w' := by
  have h : 0 ≤ a0 ∧ a0 ≤ 255 := by simpa [Lit.wf, IntKind.min, IntKind.max, IntKind.signed, IntKind.bits] using w0
  obtain ⟨n, rfl⟩ := Int.eq_ofNat_of_zero_le h.1
  exact Loc.long_calls n (by omega) w hG


end Go.Proofs.YtipmmkelialgkaaGreatDoor.PLlg
