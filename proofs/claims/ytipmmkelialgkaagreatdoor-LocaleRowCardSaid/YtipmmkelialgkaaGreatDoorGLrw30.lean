/- WRITTEN FOR THIS CLAIM by wip/tools/told.py (the kit's printer, with some functions told by hand). -/
import Derived.Test.YtipmmkelialgkaaGreatDoorGLrw1
import Derived.Test.YtipmmkelialgkaaGreatDoorGLrw29
namespace Go.Proofs.YtipmmkelialgkaaGreatDoor.PLrw
open Go.RowKit Go.Proofs.YtipmmkelialgkaaGreatDoorW.PrintWords Go.Proofs.YtipmmkelialgkaaGreatDoorW.PrintLast Go.Proofs.YtipmmkelialgkaaGreatDoorW.PrintMore
attribute [local go_sem] max2_int min2_int max_two min_two max_three min_three max_four min_four   -- for this text's walks alone
set_option linter.unusedVariables false
set_option linter.unusedSimpArgs false

/-! ### redactorlaw07_LocaleRow: function 4 -/
-- TOLD LocRowLaw
def redactorlaw07_LocaleRow.Pure : Prop := True
theorem redactorlaw07_LocaleRow.walk (P : redactorlaw07_LocaleRow.Pure) (a0 : Int) (a1 : Int) (w : World) (w0 : (Lit.int .u8 a0).wf = true) (w1 : (Lit.int .u8 a1).wf = true) (hG : Lex.Gl w) :
    Calls Tryz.prog 4 #[.int .u8 a0, .int .u8 a1] w fun e w' => e = .returned (.bool true) ∧ Below w.heap.size w w' := by
  have h : 0 ≤ a0 ∧ a0 ≤ 255 := by simpa [Lit.wf, IntKind.min, IntKind.max, IntKind.signed, IntKind.bits] using w0
  have h' : 0 ≤ a1 ∧ a1 ≤ 255 := by simpa [Lit.wf, IntKind.min, IntKind.max, IntKind.signed, IntKind.bits] using w1
  obtain ⟨n, rfl⟩ := Int.eq_ofNat_of_zero_le h.1
  obtain ⟨m, rfl⟩ := Int.eq_ofNat_of_zero_le h'.1
  exact Loc.rowLaw_calls n m (by omega) (by omega) w hG


end Go.Proofs.YtipmmkelialgkaaGreatDoor.PLrw
