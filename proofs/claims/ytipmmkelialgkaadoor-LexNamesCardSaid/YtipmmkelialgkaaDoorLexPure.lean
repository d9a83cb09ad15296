/- Plain words of the lexer: signs of a word, how many begin a text, as the decoder of runes tells it. No program stands here. -/
import Derived.Lib.TrimU
import Derived.Shelf.GgClosure.StringsIndexFunc
set_option linter.unusedVariables false
set_option linter.unusedSimpArgs false
namespace Go.Proofs.YtipmmkelialgkaaDoor.Lex
open Go.Lib

/-- A sign of a word. -/
def wordN (x : Nat) : Bool := (97 ≤ x && x ≤ 122) || (65 ≤ x && x ≤ 90) || (48 ≤ x && x ≤ 57) || x == 45 || x == 95
theorem wordN_big {x : Nat} (h : 123 ≤ x) : wordN x = false := by simp [wordN]; omega

/-- How many bytes of a word begin a text. -/
def wlen : List UInt8 → Nat
  | [] => 0
  | c :: r => if wordN c.toNat then wlen r + 1 else 0
theorem wlen_le : ∀ l : List UInt8, wlen l ≤ l.length
  | [] => Nat.le_refl _
  | c :: r => by
    have := wlen_le r
    simp only [wlen, List.length_cons]
    split <;> omega
theorem wlen_take : ∀ (l : List UInt8) (j : Nat) (c : UInt8), j < wlen l → l[j]? = some c → wordN c.toNat = true
  | [], j, c, h, _ => by simp [wlen] at h
  | d :: r, j, c, h, hj => by
    simp only [wlen] at h
    split at h
    · rename_i hd
      match j with
      | 0 =>
        have e : d = c := by simpa using hj
        rw [← e]; exact hd
      | j + 1 => exact wlen_take r j c (by omega) (by simpa using hj)
    · omega
theorem wlen_stop : ∀ (l : List UInt8) (c : UInt8), l[wlen l]? = some c → wordN c.toNat = false
  | [], c, h => by simp at h
  | d :: r, c, h => by
    simp only [wlen] at h
    split at h
    · exact wlen_stop r c (by simpa using h)
    · rename_i hd
      have e : d = c := by simpa using h
      rw [← e]; simpa using hd

theorem decodeN_big (n b0 b1 b2 b3 : Nat) (h : 128 ≤ b0) : 128 ≤ (decodeN n b0 b1 b2 b3).1 := by
  unfold decodeN
  rw [if_neg (by omega)]
  repeat' split
  all_goals (simp only; omega)
theorem get_getD (s : ByteArray) (p : Nat) (h : p < s.size) : s.get! p = s.data.toList.getD p 0 := by
  have hl : p < s.data.toList.length := by simpa using h
  have hs : p < s.data.size := h
  have e1 : s.data.toList.getD p 0 = s.data[p] := by
    rw [List.getD_eq_getElem?_getD, List.getElem?_eq_getElem hl]
    simp
  rw [e1]
  show s.data[p]! = _
  exact getElem!_pos s.data p hs

theorem idx_word (s : ByteArray) : ∀ (f p : Nat), p ≤ s.size → s.size ≤ p + f →
    idxFuncFrom (fun x => !wordN x) true s f p = if p + wlen (s.data.toList.drop p) < s.size then ((p + wlen (s.data.toList.drop p) : Nat) : Int) else -1
  | 0, p, h0, h1 => by
    have : p = s.size := by omega
    subst this
    rw [if_neg (by omega)]
    rfl
  | f + 1, p, h0, h1 => by
    unfold idxFuncFrom
    by_cases hp : p < s.size
    · rw [if_pos hp]
      have hl : p < s.data.toList.length := by simpa using hp
      have hd : s.data.toList.drop p = s.data.toList.getD p 0 :: s.data.toList.drop (p + 1) := by
        rw [List.drop_eq_getElem_cons hl]
        simp [List.getD_eq_getElem?_getD, List.getElem?_eq_getElem hl]
      have hg := get_getD s p hp
      have ih := idx_word s f (p + 1) (by omega) (by omega)
      rw [decode_at]
      rw [Nat.add_zero, hg]
      generalize s.data.toList.getD p 0 = c at *
      rw [hd]
      by_cases hc : c.toNat < 128
      · have e : ∀ n b1 b2 b3, decodeN n c.toNat b1 b2 b3 = (c.toNat, 1) := fun n b1 b2 b3 => by simp [decodeN, hc]
        rw [e]
        by_cases hw : wordN c.toNat = true
        · simp only [hw, Bool.not_true, Bool.false_eq_true, if_false, wlen, if_true]
          rw [ih]
          simp only [show p + 1 + wlen (s.data.toList.drop (p + 1)) = p + (wlen (s.data.toList.drop (p + 1)) + 1) from by omega]
        · simp only [hw, Bool.not_false, if_true, wlen, Bool.false_eq_true, if_false, Nat.add_zero]
          rw [if_pos hp]
      · have hb := decodeN_big (s.size - p) c.toNat (s.get! (p + 1)).toNat (s.get! (p + 2)).toNat (s.get! (p + 3)).toNat (by omega)
        have h1 : wordN c.toNat = false := wordN_big (by omega)
        have h2 := wordN_big (x := (decodeN (s.size - p) c.toNat (s.get! (p + 1)).toNat (s.get! (p + 2)).toNat (s.get! (p + 3)).toNat).1) (by omega)
        simp only [h2, Bool.not_false, if_true, wlen, h1, Bool.false_eq_true, if_false, Nat.add_zero]
        rw [if_pos hp]
    · have : p = s.size := by omega
      subst this
      rw [if_neg hp, if_neg (by omega)]
theorem idxFunc_word (s : ByteArray) : idxFunc (fun x => !wordN x) true s = if wlen s.data.toList < s.size then (wlen s.data.toList : Int) else -1 := by
  have h := idx_word s s.size 0 (by omega) (by omega)
  simpa [idxFunc] using h
end Go.Proofs.YtipmmkelialgkaaDoor.Lex
