/- locale.scalar; a range that may be; the name "x". -/
import Derived.Test.YtipmmkelialgkaaGreatDoorGLlg23
import Derived.Test.YtipmmkelialgkaaGreatDoorGLlg4
set_option linter.unusedVariables false
set_option linter.unusedSimpArgs false
namespace Go.Proofs.YtipmmkelialgkaaGreatDoor.Loc
open Go.RowKit Go.Lib Go.Proofs.YtipmmkelialgkaaGreatDoorW.PrintWords Go.Proofs.YtipmmkelialgkaaGreatDoorW.PrintLast Go.Proofs.YtipmmkelialgkaaGreatDoorW.PrintMore Go.Proofs.YtipmmkelialgkaaGreatDoor.Lex

set_option maxRecDepth 100000 in
theorem scalar_calls (v : Nat) (hv : v < 16777216) (w : World) :
    Calls Tryz.prog 44 #[.int .i32 v] w fun e w' => e = .returned (.bool (rightN v)) ∧ w' = w := by
  have h0 : (0 : Int) ≤ v := Int.natCast_nonneg _
  go_enter Tryz.func44, Tryz.ntmps44
  go_wp2_with (go_at_call 77; refine (right_calls v hv _).mono ?_; rintro e w' ⟨rfl, rfl⟩)
  go_ret
  exact ⟨rfl, rfl⟩
set_option maxRecDepth 100000 in
theorem range_calls (a b : Nat) (ha : rightN a = true) (hb : rightN b = true) (hab : a ≤ b) (hb1 : b < 16777216) (w : World) :
    Calls Tryz.prog 43 #[.agg #[.int .i32 a, .int .i32 b]] w fun e w' => e = .returned (.bool false) ∧ Below w.heap.size w w' := by
  have HA := Aside0.mk ha
  have HBb := Aside0.mk hb
  have h1 : (a : Int) ≤ b := by omega
  have h2 : decide ((b : Int) < a) = false := decide_eq_false (by omega)
  clear ha hb
  go_enter Tryz.func43, Tryz.ntmps43
  go_wp2_with fail
  refine (scalar_calls a (by omega) _).mono ?_
  rintro e w' ⟨rfl, rfl⟩
  rw [HA.out]
  go_wp2_with fail
  refine (scalar_calls b hb1 _).mono ?_
  rintro e w' ⟨rfl, rfl⟩
  rw [HBb.out]
  go_wp2
  go_ret
  exact ⟨congrArg (fun b => Ending.returned (.bool b)) (decide_eq_false (by omega)), (Below.refl _ w).alloc (Nat.le_refl _) _⟩
set_option maxRecDepth 100000 in
theorem wordly_x (w : World) :
    Calls Tryz.prog 45 #[.string ⟨#[120]⟩] w fun e w' => e = .returned (.bool true) ∧ w' = w := by
  have HI : Aside0 (Lib.indexByte (⟨#[97, 98, 99, 100, 101, 102, 103, 104, 105, 106, 107, 108, 109, 110, 111, 112, 113, 114, 115, 116, 117, 118, 119, 120, 121, 122, 65, 66, 67, 68, 69, 70, 71, 72, 73, 74, 75, 76, 77, 78, 79, 80, 81, 82, 83, 84, 85, 86, 87, 88, 89, 90, 48, 49, 50, 51, 52, 53, 54, 55, 56, 57, 45, 95]⟩ : ByteArray).data.toList ((((⟨#[120]⟩ : ByteArray)[0]'(by decide)).toNat : Int)).toNat.toUInt8 = 23) := ⟨by decide +kernel⟩
  go_enter Tryz.func45, Tryz.ntmps45
  go_wp2
  go_loopg [6] 1 (fun gk v wx => ∃ i : Nat, v = .int .i64 i ∧ i + gk = 1 ∧ wx = w)
  case atStart => exact ⟨0, rfl, rfl, rfl⟩
  case round =>
    obtain ⟨i, rfl, hi, rfl⟩ := hrel
    have hc : i = 0 ∨ i = 1 := by omega
    rcases hc with rfl | rfl
    · obtain rfl : gk = 1 := by omega
      go_wp2_with fail
      refine (Tryz.strings_IndexByte _ _ _).mono ?_
      rintro e w' ⟨rfl, rfl⟩
      rw [HI.out]
      go_wp2
      go_roundg 0
      case measure => omega
      case rel => exact ⟨1, rfl, rfl, rfl⟩
    · go_wp2
      go_ret
      exact ⟨rfl, rfl⟩
end Go.Proofs.YtipmmkelialgkaaGreatDoor.Loc
