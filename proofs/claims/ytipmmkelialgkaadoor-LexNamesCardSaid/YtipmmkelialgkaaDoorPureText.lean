/- Text: tokens, as choices say, in plain words. -/
import Derived.Test.YtipmmkelialgkaaDoorPLexx1
import Derived.Test.YtipmmkelialgkaaDoorLexMore
set_option linter.unusedVariables false
set_option linter.unusedSimpArgs false
namespace Go.Proofs.YtipmmkelialgkaaDoor.Pure
open Go.RowKit Go.Lib Go.Proofs.YtipmmkelialgkaaDoor.PLex Go.Proofs.YtipmmkelialgkaaDoorW.PrintWords Go.Proofs.YtipmmkelialgkaaDoorW.PrintLast Go.Proofs.YtipmmkelialgkaaDoor.Lex

/-- The texts to choose from. -/
def pieces : List (List UInt8) := [[99, 108, 97, 115, 115], [111, 114, 100, 101, 114], [120], [60, 85, 48, 48, 52, 49, 62], [60, 85, 48, 48, 101, 57, 62], [60, 85, 49, 70, 54, 48, 48, 62], [60, 99, 104, 62], [34, 97, 98, 34], [34, 34], [59], [44], [40], [41], [46, 46, 46], [10], [37, 32, 119, 111, 114, 100, 10], [32], [60, 85, 68, 56, 48, 48, 62], [34, 97, 10], [60, 62], [33], [60, 85, 52, 49, 62], [102, 114, 111, 109], [9], [97, 45, 98, 95, 57]]
def choice (v : Int) : Nat := if v > 230 then 16 + v.toNat % 9 else v.toNat % 16
theorem choice_lt (v : Int) : choice v < 25 := by
  unfold choice
  split <;> omega
def pieceAt (v : Int) : List UInt8 := pieces.getD (choice v) []
/-- The text of so many choices, from the i-th on. -/
def textI (x0 : List Int) : Nat → Nat → List UInt8
  | 0, _ => []
  | n + 1, i => if i < x0.length then pieceAt (x0.getD i 0) ++ 32 :: textI x0 n (i + 1) else []
theorem piece_len (v : Int) : (pieceAt v).length ≤ 8 := by
  have : ((List.range 25).all fun j => decide ((pieces.getD j []).length ≤ 8)) = true := by decide +kernel
  exact of_decide_eq_true (List.all_eq_true.1 this _ (List.mem_range.2 (choice_lt v)))
theorem textI_len (x0 : List Int) : ∀ n i, (textI x0 n i).length ≤ 9 * n
  | 0, _ => Nat.le_refl _
  | n + 1, i => by
    have h1 := textI_len x0 n (i + 1)
    have h2 := piece_len (x0.getD i 0)
    simp only [textI]
    split
    · simp only [List.length_append, List.length_cons]
      omega
    · simp
theorem text_f (k : Nat) (l0 : List Int) : redactorlaw06_Text.f k l0 = redactorlaw06_Text.l0 k l0 (pieces.map bs) (bs []) 0 := rfl
theorem rd_piece (j : Nat) (h : j < 25) : rdOf ByteArray.empty (pieces.map bs) (j : Int) = bs (pieces.getD j []) := by
  have hl : j < pieces.length := h
  simp [rdOf, List.getElem?_eq_getElem hl]
theorem bs_add (a b : List UInt8) : bs a ++ bs b = bs (a ++ b) := by
  rw [← bs_of (bs a ++ bs b)]
  simp [bs]
theorem u8_range (l : List Int) (h : ∀ x ∈ l, (Lit.int .u8 x).wf = true) : ∀ x ∈ l, 0 ≤ x ∧ x ≤ 255 := fun x hx => by
  have := h x hx
  simpa [Lit.wf, IntKind.min, IntKind.max, IntKind.signed, IntKind.bits] using this

theorem text_stop (x0 : List Int) (i : Nat) (T : ByteArray) (k : Nat) (h : ¬ (i < x0.length ∧ i < 40)) : redactorlaw06_Text.l0 (k + 2) x0 (pieces.map bs) T i = some T := by
  rw [redactorlaw06_Text.l0]
  by_cases h1 : (i : Int) < x0.length
  · rw [if_pos h1]
    have h2 : decide ((i : Int) < 40) = false := decide_eq_false (by omega)
    rw [h2, redactorlaw06_Text.j1, if_neg Bool.false_ne_true]
  · rw [if_neg h1, redactorlaw06_Text.j1, if_neg Bool.false_ne_true]
theorem text_step (x0 : List Int) (hx : ∀ x ∈ x0, 0 ≤ x ∧ x ≤ 255) (i : Nat) (T : List UInt8) (k : Nat) (hlt : i < x0.length) (hi : i < 40) (hT : T.length ≤ 9 * i) :
    redactorlaw06_Text.l0 (k + 2) x0 (pieces.map bs) (bs T) i = redactorlaw06_Text.l0 k x0 (pieces.map bs) (bs (T ++ (pieceAt (x0.getD i 0) ++ [32]))) ((i + 1 : Nat) : Int) := by
  have h1 : (i : Int) < x0.length := by omega
  have h2 : decide ((i : Int) < 40) = true := decide_eq_true (by omega)
  have hv : rd x0 (i : Int) = x0[i] := by simp [rd, List.getElem?_eq_getElem hlt]
  obtain ⟨v0, v1⟩ := hx x0[i] (List.getElem_mem hlt)
  have hg : x0.getD i 0 = x0[i] := by simp [List.getElem?_eq_getElem hlt]
  rw [redactorlaw06_Text.l0, if_pos h1, h2, redactorlaw06_Text.j1, if_pos rfl, if_pos (by omega), if_pos h1, hv, hg]
  generalize x0[i] = v at v0 v1 ⊢
  have hw : wrap64 v = v := IntWalk.wrap64_in _ (by omega)
  have hwi : wrap64 ((i : Int) + 1) = ((i + 1 : Nat) : Int) := by rw [IntWalk.wrap64_in _ (by omega)]; omega
  have hp := piece_len v
  have z : (⟨#[32]⟩ : ByteArray) = bs [32] := rfl
  have hl := choice_lt v
  have hpp : pieces.getD (choice v) [] = pieceAt v := rfl
  have hlen : ((pieces.map bs).length : Int) = 25 := rfl
  have hTi : (T.length : Nat) ≤ 360 := by omega
  have e3 : bs (T ++ pieceAt v ++ [32]) = bs (T ++ (pieceAt v ++ [32])) := by rw [List.append_assoc]
  rw [hw]
  by_cases h3 : v > 230
  · have hc : choice v = 16 + v.toNat % 9 := by unfold choice; rw [if_pos h3]
    have hm : wrap64 (16 + Int.tmod v 9) = ((choice v : Nat) : Int) := by
      rw [hc, Int.tmod_eq_emod_of_nonneg v0, IntWalk.wrap64_in _ (by omega)]
      omega
    rw [if_pos h3, hm, rd_piece _ hl, z, hwi, hpp, hlen, bs_add, bs_add, bs_size, bs_size, bs_size, e3]
    rw [if_pos (by omega), if_pos (by omega), if_pos (by omega), if_pos (by rw [List.length_append]; omega)]
  · have hc : choice v = v.toNat % 16 := by unfold choice; rw [if_neg h3]
    have hm : Int.tmod v 16 = ((choice v : Nat) : Int) := by
      rw [hc, Int.tmod_eq_emod_of_nonneg v0]
      omega
    rw [if_neg h3, hm, rd_piece _ hl, z, hwi, hpp, hlen, bs_add, bs_add, bs_size, bs_size, bs_size, e3]
    rw [if_pos (by omega), if_pos (by omega), if_pos (by omega), if_pos (by rw [List.length_append]; omega)]
theorem text_loop (x0 : List Int) (hx : ∀ x ∈ x0, 0 ≤ x ∧ x ≤ 255) (n : Nat) : ∀ (i : Nat) (T : List UInt8) (k : Nat), i + n = 40 → 2 * n + 2 ≤ k → T.length ≤ 9 * i → redactorlaw06_Text.l0 k x0 (pieces.map bs) (bs T) i = some (bs (T ++ textI x0 n i)) := by
  induction n with
  | zero =>
    intro i T k hi hk hT
    obtain ⟨k, rfl⟩ : ∃ k', k = k' + 2 := ⟨k - 2, by omega⟩
    rw [text_stop x0 i _ k (by omega)]
    simp only [textI, List.append_nil]
  | succ n ih =>
    intro i T k hi hk hT
    obtain ⟨k, rfl⟩ : ∃ k', k = k' + 2 := ⟨k - 2, by omega⟩
    by_cases hlt : i < x0.length
    · have hp := piece_len (x0.getD i 0)
      rw [text_step x0 hx i T k hlt (by omega) hT]
      rw [ih (i + 1) _ k (by omega) (by omega) (by simp only [List.length_append, List.length_singleton]; omega)]
      simp only [textI]
      rw [if_pos hlt]
      simp only [List.append_assoc, List.singleton_append]
    · rw [text_stop x0 i _ k (by omega)]
      simp only [textI]
      rw [if_neg hlt, List.append_nil]
theorem text_is (l0 : List Int) (hx : ∀ x ∈ l0, 0 ≤ x ∧ x ≤ 255) (k : Nat) (hk : 82 ≤ k) : redactorlaw06_Text.f k l0 = some (bs (textI l0 40 0)) := by
  rw [text_f]
  exact text_loop l0 hx 40 0 [] k rfl hk (Nat.zero_le _)
end Go.Proofs.YtipmmkelialgkaaDoor.Pure
