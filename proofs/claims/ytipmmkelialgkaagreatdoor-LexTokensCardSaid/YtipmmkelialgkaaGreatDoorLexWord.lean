/- How many bytes of a word begin a text: lex.word, and its closure. -/
import Derived.Test.YtipmmkelialgkaaGreatDoorLexRest
import Derived.Test.YtipmmkelialgkaaGreatDoorLexSpec
import Derived.Test.YtipmmkelialgkaaGreatDoorShelf
set_option linter.unusedVariables false
set_option linter.unusedSimpArgs false
namespace Go.Proofs.YtipmmkelialgkaaGreatDoor.Lex
open Go.RowKit Go.Lib Go.Proofs.YtipmmkelialgkaaGreatDoorW.PrintWords Go.Proofs.YtipmmkelialgkaaGreatDoorW.PrintLast Go.Proofs.YtipmmkelialgkaaGreatDoorW.PrintMore Go.Proofs.YtipmmkelialgkaaGreatDoor.PLex

set_option maxRecDepth 100000 in
set_option maxHeartbeats 1000000 in
theorem word1_calls (x : Nat) (W : World) :
    Calls Tryz.prog 147 #[.int .i32 x] W fun e w' => e = .returned (.bool (!wordN x)) ∧ w' = W := by
  have hx0 : (0 : Int) ≤ x := Int.natCast_nonneg _
  go_enter Tryz.func147, Tryz.ntmps147
  go_wp2
  all_goals
    go_ret
    exact ⟨congrArg (fun b => Ending.returned (.bool b)) (by first | (simp [wordN]; omega) | (rw [Bool.eq_iff_iff]; simp [wordN]; omega)), rfl⟩

theorem word1_pred (w : World) : PredAtRunes Tryz.prog 147 #[] (fun x => !wordN x) w :=
  fun W x _ _ => (word1_calls x W).mono fun e w' ⟨he, hw⟩ => ⟨he, 0, hw⟩

set_option maxRecDepth 100000 in
theorem word_calls (s : ByteArray) (w : World) (hs : s.size ≤ 1000000) :
    Calls Tryz.prog 101 #[.string s] w fun e w' => e = .returned (.int .i64 (wlen s.data.toList)) ∧ Below w.heap.size w w' := by
  have hle := wlen_le s.data.toList
  rw [Array.length_toList] at hle
  have hle' : wlen s.data.toList ≤ s.size := hle
  have hi := idxFunc_word s
  clear hle
  by_cases h : wlen s.data.toList < s.size
  · rw [if_pos h] at hi
    have H := Aside0.mk hi
    clear hi
    generalize wlen s.data.toList = n at *
    have hn : (0 : Int) ≤ n := Int.natCast_nonneg _
    go_enter Tryz.func101, Tryz.ntmps101
    go_wp2_with (go_at_call 146; refine (Tryz.strings_IndexFunc_runes 147 #[] (enters_of Tryz.func147 (by kernel_rfl) rfl) _ s w (word1_pred w)).mono ?_; rintro e w' ⟨rfl, hb⟩; rw [H.out])
    go_ret
    exact ⟨rfl, by assumption⟩
  · rw [if_neg h] at hi
    have H := Aside0.mk hi
    clear hi
    have he : wlen s.data.toList = s.size := by omega
    rw [he]
    go_enter Tryz.func101, Tryz.ntmps101
    go_wp2_with (go_at_call 146; refine (Tryz.strings_IndexFunc_runes 147 #[] (enters_of Tryz.func147 (by kernel_rfl) rfl) _ s w (word1_pred w)).mono ?_; rintro e w' ⟨rfl, hb⟩; rw [H.out])
    go_ret
    exact ⟨rfl, by assumption⟩
end Go.Proofs.YtipmmkelialgkaaGreatDoor.Lex
