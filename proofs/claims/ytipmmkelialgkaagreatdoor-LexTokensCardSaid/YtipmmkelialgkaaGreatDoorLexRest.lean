/- What is not read yet; whether nothing is to be ended; the signs of a word: the lexer's small functions. -/
import Derived.Test.YtipmmkelialgkaaGreatDoorLexBase
import Derived.Test.YtipmmkelialgkaaGreatDoorLexSpec
import Derived.Deep.QuietTactic
import Derived.BigQuiet
set_option linter.unusedVariables false
set_option linter.unusedSimpArgs false
namespace Go.Proofs.YtipmmkelialgkaaGreatDoor.Lex
open Go.RowKit Go.Proofs.YtipmmkelialgkaaGreatDoorW.PrintWords Go.Proofs.YtipmmkelialgkaaGreatDoorW.PrintLast Go.Proofs.YtipmmkelialgkaaGreatDoorW.PrintMore Go.Proofs.YtipmmkelialgkaaGreatDoor.PLex

set_option maxRecDepth 100000 in
theorem rest_calls {B g : Nat} {s : ByteArray} {q : Nat} {l : List Tok} (w : World) (hR : Rd B g s q l w) (hp : q ≤ s.size) :
    Calls Tryz.prog 98 #[.pointer (some ⟨g, 0, none⟩)] w fun e w' =>
      e = .returned (.string (bs (s.data.toList.drop q))) ∧ ∃ n, w' = w.drewN n := by
  rw [← extract_end]
  obtain ⟨c0, c1, _⟩ := hR.cells
  clear hR
  go_enter Tryz.func98, Tryz.ntmps98
  go_wp2
  go_quiet (fail)
  go_wp2
  go_ret
  exact ⟨rfl, _, rfl⟩

set_option maxRecDepth 100000 in
theorem ended_nil {B g : Nat} {s : ByteArray} {p : Int} (w : World) (hR : Rd B g s p [] w) :
    Calls Tryz.prog 58 #[.pointer (some ⟨g, 0, none⟩)] w fun e w' => e = .returned (.bool true) ∧ ∃ n, w' = w.drewN n := by
  obtain ⟨c0, c1, _, _, _, A, c, _, c2, _⟩ := hR.cells
  simp only [List.length_nil] at c2
  clear hR c0 c1
  go_enter Tryz.func58, Tryz.ntmps58
  go_wp2
  go_quiet (fail)
  go_wp2
  go_ret
  exact ⟨rfl, _, rfl⟩

set_option maxRecDepth 100000 in
theorem ended_snoc {B g : Nat} {s : ByteArray} {p : Int} {l : List Tok} (t : Tok) (w : World) (hR : Rd B g s p (l ++ [t]) w) (hl : l.length ≤ 1000000) :
    Calls Tryz.prog 58 #[.pointer (some ⟨g, 0, none⟩)] w fun e w' => e = .returned (.bool (t.f0 == 6)) ∧ ∃ n, w' = w.drewN n := by
  obtain ⟨_, _, _, _, _, A, c, hc, c2, _, hC⟩ := hR.cells
  clear hR
  obtain ⟨ad, rfl, d0, _⟩ := at_T63 hC (l.length : Int) (by omega) (by simp; omega)
  simp only [List.length_append, List.length_singleton, Int.toNat_natCast] at c2 hc d0
  have e0 : (rd_T63 (l ++ [t]) (l.length : Int)) = t := by simp [rd_T63]
  rw [e0] at d0
  clear hC e0
  have h1 : (((l.length + 1 : Nat) : Int) == 0) = false := by simp; omega
  have h2 : ((l.length : Int) + 1 == 0) = false := by simp; omega
  have h3 : ((l.length : Int) + 1 = 0) = False := by simp; omega
  have h4 : IntKind.i64.wrap ((l.length : Int) + 1 - 1) = l.length := by rw [IntWalk.i64_in _ (by omega)]; omega
  go_enter Tryz.func58, Tryz.ntmps58
  go_wp2
  go_quiet (fail)
  go_wp2
  go_ret
  exact ⟨rfl, _, rfl⟩
end Go.Proofs.YtipmmkelialgkaaGreatDoor.Lex
