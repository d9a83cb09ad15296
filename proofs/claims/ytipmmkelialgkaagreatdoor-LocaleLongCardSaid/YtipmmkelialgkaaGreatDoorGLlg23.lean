/- locale.Right, where no pair and no element is: the last steps; and of the empty locale. -/
import Derived.Test.YtipmmkelialgkaaGreatDoorGLlg22
set_option linter.unusedVariables false
set_option linter.unusedSimpArgs false
namespace Go.Proofs.YtipmmkelialgkaaGreatDoor.Loc
open Go.RowKit Go.Lib Go.Proofs.YtipmmkelialgkaaGreatDoorW.PrintWords Go.Proofs.YtipmmkelialgkaaGreatDoorW.PrintLast Go.Proofs.YtipmmkelialgkaaGreatDoorW.PrintMore Go.Proofs.YtipmmkelialgkaaGreatDoor.Lex

set_option maxRecDepth 100000 in
theorem mapped_nil (A : Option Addr) (c : Nat) (w : World) :
    Calls Tryz.prog 49 #[.slice A 0 c] w fun e w' => e = .returned (.bool true) ∧ w' = w := by
  go_enter Tryz.func49, Tryz.ntmps49
  go_wp2
  go_loopg [7] 0 (fun gk v wx => v = .int .i64 0 ∧ wx = w)
  case atStart => exact ⟨rfl, rfl⟩
  case round =>
    obtain ⟨rfl, rfl⟩ := hrel
    go_wp2
    go_ret
    exact ⟨rfl, rfl⟩
set_option maxRecDepth 100000 in
theorem ordered_nil (A : Option Addr) (c : Nat) (w : World) :
    Calls Tryz.prog 50 #[.slice A 0 c] w fun e w' => e = .returned (.bool true) ∧ Below w.heap.size w w' := by
  have hmk : ∀ w : World, (Instr.makeMap 142 none).run Tryz.prog w = .ok (.map (some w.heap.size)) (w.alloc (.map #[] 0)) := fun _ => rfl
  go_enter Tryz.func50, Tryz.ntmps50
  go_wp2
  go_loopg [10] 0 (fun gk v wx => v = .int .i64 0 ∧ Below w.heap.size w wx)
  case atStart => exact ⟨rfl, (Below.refl _ _).alloc (Nat.le_refl _) _⟩
  case round =>
    obtain ⟨rfl, hb⟩ := hrel
    have HB := Aside0.mk hb
    clear hb
    go_wp2
    go_ret
    exact ⟨rfl, HB.out⟩
set_option maxRecDepth 100000 in
theorem right_nil (A0 A1 A2 A3 : Option Addr) (c0 c1 c2 c3 : Nat) (w : World) :
    Calls Tryz.prog 20 #[.agg #[.slice A0 0 c0, .slice A1 0 c1, .slice A2 0 c2, .slice A3 0 c3]] w fun e w' => e = .returned (.bool true) ∧ Below w.heap.size w w' := by
  go_enter Tryz.func20, Tryz.ntmps20
  go_wp2
  go_loopg [9] 0 (fun gk v wx => v = .int .i64 0 ∧ wx = w.alloc (.cells #[.slice A0 0 c0, .slice A1 0 c1, .slice A2 0 c2, .slice A3 0 c3] 32))
  case atStart => exact ⟨rfl, rfl⟩
  case round =>
    obtain ⟨rfl, rfl⟩ := hrel
    have hb0 : Below w.heap.size w (w.alloc (.cells #[.slice A0 0 c0, .slice A1 0 c1, .slice A2 0 c2, .slice A3 0 c3] 32)) := (Below.refl _ _).alloc (Nat.le_refl _) _
    have HB0 := Aside0.mk hb0
    clear hb0
    go_wp2_with (go_at_call 49; refine (mapped_nil _ _ _).mono ?_; rintro e w' ⟨rfl, rfl⟩)
    refine (ordered_nil A3 c3 _).mono ?_
    rintro e w2 ⟨rfl, hb⟩
    have HB := Aside0.mk (HB0.out.trans (hb.mono HB0.out.size))
    clear hb
    go_wp2
    go_ret
    exact ⟨rfl, HB.out⟩
end Go.Proofs.YtipmmkelialgkaaGreatDoor.Loc
