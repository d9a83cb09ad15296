/- Plain facts on the lexer's words: digits written and read; a word and its end. -/
import Derived.Test.YtipmmkelialgkaaDoorLexLoop
import Derived.Test.YtipmmkelialgkaaDoorLexPrint
set_option linter.unusedVariables false
set_option linter.unusedSimpArgs false
namespace Go.Proofs.YtipmmkelialgkaaDoor.Lex
open Go.Lib

theorem wlen_app : ∀ (W : List UInt8) (c : UInt8) (t : List UInt8), (∀ x ∈ W, wordN x.toNat = true) → wordN c.toNat = false → wlen (W ++ c :: t) = W.length
  | [], c, t, _, hc => by simp [wlen, hc]
  | x :: W, c, t, hW, hc => by
    have h1 := hW x List.mem_cons_self
    have h2 := wlen_app W c t (fun y hy => hW y (List.mem_cons_of_mem _ hy)) hc
    simp [wlen, h1, h2]
theorem up_tab : ((List.range 16).all fun d => decide (hexD (upperB (hexC d)) = some d ∧ wordN (upperB (hexC d)).toNat = true)) = true := by decide +kernel
theorem up_at (d : Nat) (h : d < 16) : hexD (upperB (hexC d)) = some d ∧ wordN (upperB (hexC d)).toNat = true := of_decide_eq_true (List.all_eq_true.1 up_tab d (List.mem_range.2 h))
theorem hexNum_hexS : ∀ (k n : Nat) (l : List UInt8), n < 16 ^ (k + 1) → hexNum ((hexS k n l).map upperB) 0 = hexNum (l.map upperB) n
  | 0, n, l, h => by
    have h1 : n < 16 := by simpa using h
    simp only [hexS, List.map_cons, hexNum, Nat.mod_eq_of_lt h1, (up_at n h1).1, Option.bind_some]
    congr 1
    omega
  | k + 1, n, l, h => by
    simp only [hexS]
    split
    · rename_i h1
      simp only [List.map_cons, hexNum, (up_at n h1).1, Option.bind_some]
      congr 1
      omega
    · rename_i h1
      rw [hexNum_hexS k (n / 16) _ (by rw [Nat.pow_succ] at h; omega)]
      simp only [List.map_cons, hexNum, (up_at (n % 16) (by omega)).1, Option.bind_some]
      congr 1
      omega
theorem hexS_word : ∀ (k n : Nat) (l : List UInt8), (∀ c ∈ l, wordN (upperB c).toNat = true) → ∀ c ∈ hexS k n l, wordN (upperB c).toNat = true
  | 0, n, l, h, c, hc => by
    simp only [hexS, List.mem_cons] at hc
    rcases hc with rfl | hc
    · exact (up_at _ (by omega)).2
    · exact h c hc
  | k + 1, n, l, h, c, hc => by
    simp only [hexS] at hc
    split at hc
    · rcases List.mem_cons.1 hc with rfl | hc
      · exact (up_at _ (by omega)).2
      · exact h c hc
    · refine hexS_word k _ _ (fun c hc => ?_) c hc
      rcases List.mem_cons.1 hc with rfl | hc
      · exact (up_at _ (by omega)).2
      · exact h c hc
theorem hexS_short : ∀ (k n j : Nat) (l : List UInt8), n < 16 ^ (j + 1) → (hexS k n l).length ≤ l.length + j + 1
  | 0, n, j, l, h => by simp only [hexS, List.length_cons]; omega
  | k + 1, n, j, l, h => by
    simp only [hexS]
    split
    · simp only [List.length_cons]; omega
    · rename_i h1
      cases j with
      | zero => simp at h; omega
      | succ j =>
        have := hexS_short k (n / 16) j (hexC (n % 16) :: l) (by rw [Nat.pow_succ] at h; omega)
        simp only [List.length_cons] at this
        omega
theorem hexNum_zeros : ∀ (j : Nat) (l : List UInt8), hexNum (repeatL [48] j ++ l) 0 = hexNum l 0
  | 0, l => rfl
  | j + 1, l => by
    have h : hexD 48 = some 0 := by decide
    simp only [repeatL, List.cons_append, List.nil_append, hexNum, h, Option.bind_some]
    exact hexNum_zeros j l
theorem zeros_word : ∀ (j : Nat), ∀ c ∈ repeatL [48] j, wordN c.toNat = true
  | j + 1, c, hc => by
    simp only [repeatL, List.cons_append, List.nil_append, List.mem_cons] at hc
    rcases hc with rfl | hc
    · decide
    · exact zeros_word j c hc
/-- A scalar's digits, as they are printed. -/
def digitsF (n : Nat) : List UInt8 := repeatL [48] (4 - (hexUp n).length) ++ hexUp n
theorem digitsF_num (n : Nat) (h : n < 16777216) : hexNum (digitsF n) 0 = some n := by
  unfold digitsF
  rw [hexNum_zeros]
  unfold hexUp toUpperA hexText
  rw [hexNum_hexS 16 n [] (by omega)]
  rfl
theorem digitsF_word (n : Nat) : ∀ c ∈ digitsF n, wordN c.toNat = true := by
  intro c hc
  unfold digitsF at hc
  rcases List.mem_append.1 hc with hc | hc
  · exact zeros_word _ c hc
  · unfold hexUp toUpperA hexText at hc
    obtain ⟨d, hd, rfl⟩ := List.mem_map.1 hc
    exact hexS_word 16 n [] (fun _ h => nomatch h) d hd
theorem digitsF_len (n : Nat) (h : n < 16777216) : 4 ≤ (digitsF n).length ∧ (digitsF n).length ≤ 6 := by
  have h1 : (hexUp n).length ≤ 6 := by
    unfold hexUp toUpperA hexText
    rw [List.length_map]
    have := hexS_short 16 n 5 [] (by simpa using h)
    simpa using this
  unfold digitsF
  rw [List.length_append, repeatL_length]
  simp only [List.length_cons, List.length_nil]
  omega
/-- A scalar in its hooks. -/
theorem nameR_scalar (n : Nat) (h : n < 16777216) (t : List UInt8) : nameR (60 :: 85 :: (digitsF n ++ 62 :: t)) = if rightN n then .tok 3 (bs []) n ((digitsF n).length + 3) else .bad := by
  have hw : wlen (85 :: (digitsF n ++ 62 :: t)) = (digitsF n).length + 1 := by
    have := wlen_app (85 :: digitsF n) 62 t (fun x hx => by
      rcases List.mem_cons.1 hx with rfl | hx
      · decide
      · exact digitsF_word n x hx) (by decide)
    simpa using this
  have hl := digitsF_len n h
  simp only [nameR, hw]
  rw [if_pos trivial, if_pos ⟨by omega, by simp⟩]
  have ht : (85 :: (digitsF n ++ 62 :: t)).take ((digitsF n).length + 1) = 85 :: digitsF n := by simp
  rw [ht]
  have hs : scalarR (85 :: digitsF n) = some n := by
    simp only [scalarR]
    rw [if_pos hl, digitsF_num n h]
  rw [hs]
theorem stepR_hook (e : Bool) (t : List UInt8) : stepR e (60 :: t) = (nameR (60 :: t)).or (wordR (60 :: t)) := by
  have h1 : blankR (60 :: t) = .no := by simp [blankR]
  have h2 : endR e (60 :: t) = .no := by simp [endR]
  have h3 : signR (60 :: t) = .no := by simp [signR, hasPrefix, List.isPrefixOf]
  have h4 : quotedR (60 :: t) = .no := by simp [quotedR]
  simp only [stepR, h1, h2, h3, h4, Res.or]
theorem stepR_space (e : Bool) (t : List UInt8) : stepR e (32 :: t) = .skip 1 := by
  have h1 : blankR (32 :: t) = .skip 1 := by simp [blankR]
  simp only [stepR, h1, Res.or]
end Go.Proofs.YtipmmkelialgkaaDoor.Lex
