/- What the lexer tells, step by step, in plain words: on the bytes that are left. -/
import Derived.Lib.TrimU
import Derived.Shelf.GgClosure.StringsIndexFunc
import Derived.Test.YtipmmkelialgkaaGreatDoorLexBase
import Derived.Lib.IndexAny
set_option linter.unusedVariables false
set_option linter.unusedSimpArgs false
namespace Go.Proofs.YtipmmkelialgkaaGreatDoor.Lex
open Go.Lib

/-- A sign of a word. -/
def wordN (x : Nat) : Bool := (97 ≤ x && x ≤ 122) || (65 ≤ x && x ≤ 90) || (48 ≤ x && x ≤ 57) || x == 45 || x == 95
theorem wordN_big {x : Nat} (h : 123 ≤ x) : wordN x = false := by simp [wordN]; omega

/-- How many bytes of a word begin a text. -/
def wlen : List UInt8 → Nat
  | [] => 0
  | c :: r => if wordN c.toNat then wlen r + 1 else 0
theorem wlen_le : ∀ l : List UInt8, wlen l ≤ l.length
  | [] => Nat.le_refl _
  | c :: r => by
    have := wlen_le r
    simp only [wlen, List.length_cons]
    split <;> omega
theorem wlen_take : ∀ (l : List UInt8) (j : Nat) (c : UInt8), j < wlen l → l[j]? = some c → wordN c.toNat = true
  | [], j, c, h, _ => by simp [wlen] at h
  | d :: r, j, c, h, hj => by
    simp only [wlen] at h
    split at h
    · rename_i hd
      match j with
      | 0 =>
        have e : d = c := by simpa using hj
        rw [← e]; exact hd
      | j + 1 => exact wlen_take r j c (by omega) (by simpa using hj)
    · omega
theorem wlen_stop : ∀ (l : List UInt8) (c : UInt8), l[wlen l]? = some c → wordN c.toNat = false
  | [], c, h => by simp at h
  | d :: r, c, h => by
    simp only [wlen] at h
    split at h
    · exact wlen_stop r c (by simpa using h)
    · rename_i hd
      have e : d = c := by simpa using h
      rw [← e]; simpa using hd

theorem decodeN_big (n b0 b1 b2 b3 : Nat) (h : 128 ≤ b0) : 128 ≤ (decodeN n b0 b1 b2 b3).1 := by
  unfold decodeN
  rw [if_neg (by omega)]
  repeat' split
  all_goals (simp only; omega)
theorem get_getD (s : ByteArray) (p : Nat) (h : p < s.size) : s.get! p = s.data.toList.getD p 0 := by
  have hl : p < s.data.toList.length := by simpa using h
  have hs : p < s.data.size := h
  have e1 : s.data.toList.getD p 0 = s.data[p] := by
    rw [List.getD_eq_getElem?_getD, List.getElem?_eq_getElem hl]
    simp
  rw [e1]
  show s.data[p]! = _
  exact getElem!_pos s.data p hs

theorem idx_word (s : ByteArray) : ∀ (f p : Nat), p ≤ s.size → s.size ≤ p + f →
    idxFuncFrom (fun x => !wordN x) true s f p = if p + wlen (s.data.toList.drop p) < s.size then ((p + wlen (s.data.toList.drop p) : Nat) : Int) else -1
  | 0, p, h0, h1 => by
    have : p = s.size := by omega
    subst this
    rw [if_neg (by omega)]
    rfl
  | f + 1, p, h0, h1 => by
    unfold idxFuncFrom
    by_cases hp : p < s.size
    · rw [if_pos hp]
      have hl : p < s.data.toList.length := by simpa using hp
      have hd : s.data.toList.drop p = s.data.toList.getD p 0 :: s.data.toList.drop (p + 1) := by
        rw [List.drop_eq_getElem_cons hl]
        simp [List.getD_eq_getElem?_getD, List.getElem?_eq_getElem hl]
      have hg := get_getD s p hp
      have ih := idx_word s f (p + 1) (by omega) (by omega)
      rw [decode_at]
      rw [Nat.add_zero, hg]
      generalize s.data.toList.getD p 0 = c at *
      rw [hd]
      by_cases hc : c.toNat < 128
      · have e : ∀ n b1 b2 b3, decodeN n c.toNat b1 b2 b3 = (c.toNat, 1) := fun n b1 b2 b3 => by simp [decodeN, hc]
        rw [e]
        by_cases hw : wordN c.toNat = true
        · simp only [hw, Bool.not_true, Bool.false_eq_true, if_false, wlen, if_true]
          rw [ih]
          simp only [show p + 1 + wlen (s.data.toList.drop (p + 1)) = p + (wlen (s.data.toList.drop (p + 1)) + 1) from by omega]
        · simp only [hw, Bool.not_false, if_true, wlen, Bool.false_eq_true, if_false, Nat.add_zero]
          rw [if_pos hp]
      · have hb := decodeN_big (s.size - p) c.toNat (s.get! (p + 1)).toNat (s.get! (p + 2)).toNat (s.get! (p + 3)).toNat (by omega)
        have h1 : wordN c.toNat = false := wordN_big (by omega)
        have h2 := wordN_big (x := (decodeN (s.size - p) c.toNat (s.get! (p + 1)).toNat (s.get! (p + 2)).toNat (s.get! (p + 3)).toNat).1) (by omega)
        simp only [h2, Bool.not_false, if_true, wlen, h1, Bool.false_eq_true, if_false, Nat.add_zero]
        rw [if_pos hp]
    · have : p = s.size := by omega
      subst this
      rw [if_neg hp, if_neg (by omega)]
theorem idxFunc_word (s : ByteArray) : idxFunc (fun x => !wordN x) true s = if wlen s.data.toList < s.size then (wlen s.data.toList : Int) else -1 := by
  have h := idx_word s s.size 0 (by omega) (by omega)
  simpa [idxFunc] using h
end Go.Proofs.YtipmmkelialgkaaGreatDoor.Lex
set_option linter.unusedVariables false
set_option linter.unusedSimpArgs false
namespace Go.Proofs.YtipmmkelialgkaaGreatDoor.Lex
open Go.Lib

/-- Bytes as a text. -/
def bs (l : List UInt8) : ByteArray := ⟨l.toArray⟩
theorem bs_list (l : List UInt8) : (bs l).data.toList = l := by simp [bs]
theorem bs_of (s : ByteArray) : bs s.data.toList = s := by cases s; simp [bs]
theorem bs_size (l : List UInt8) : (bs l).size = l.length := by simp [bs, ByteArray.size]
theorem extract_list (s : ByteArray) (a b : Nat) : (s.extract a b).data.toList = (s.data.toList.drop a).take (b - a) := by
  rw [ByteArray.data_extract, Array.toList_extract, List.extract_eq_take_drop]
theorem extract_bs (s : ByteArray) (a b : Nat) : s.extract a b = bs ((s.data.toList.drop a).take (b - a)) := by
  rw [← bs_of (s.extract a b), extract_list]
theorem extract_end (s : ByteArray) (a : Nat) : s.extract a s.size = bs (s.data.toList.drop a) := by
  rw [extract_bs, List.take_of_length_le]
  rw [List.length_drop, Array.length_toList]
  exact Nat.le_refl _

/-- What a step tells: it is none of its own; bytes that are nothing; a token (kind, text, number) of so many bytes; it is wrong. -/
inductive Res where
  | no
  | skip (n : Nat)
  | tok (t0 : Int) (t1 : ByteArray) (t2 : Int) (n : Nat)
  | bad

/-- How many bytes stand ahead of the line's end. -/
def lineLen : List UInt8 → Nat
  | [] => 0
  | c :: r => if c == 10 then 0 else lineLen r + 1
theorem lineLen_le : ∀ l : List UInt8, lineLen l ≤ l.length
  | [] => Nat.le_refl _
  | c :: r => by
    have := lineLen_le r
    simp only [lineLen, List.length_cons]
    split <;> omega
theorem indexByte_line : ∀ l : List UInt8, indexByte l 10 = if lineLen l < l.length then (lineLen l : Int) else -1
  | [] => rfl
  | c :: r => by
    have ih := indexByte_line r
    have hl := lineLen_le r
    simp only [indexByte, lineLen, List.length_cons]
    by_cases h : (c == 10) = true
    · simp [h]
    · simp only [h, Bool.false_eq_true, if_false]
      rw [ih]
      by_cases h2 : lineLen r < r.length
      · have e : ((lineLen r : Int) == -1) = false := by simp
        simp [h2, e]
      · simp [h2]

def blankR : List UInt8 → Res
  | [] => .no
  | c :: r => if c = 32 ∨ c = 9 then .skip 1 else if c = 37 then .skip (lineLen (c :: r)) else .no
def endR (ended : Bool) : List UInt8 → Res
  | [] => .no
  | c :: r => if c = 10 then (if ended then .skip 1 else .tok 6 (bs []) 0 1) else .no
def signR : List UInt8 → Res
  | [] => .no
  | c :: r => if hasPrefix (c :: r) [46, 46, 46] then .tok 2 (bs [46, 46, 46]) 0 3 else if c = 59 ∨ c = 44 ∨ c = 40 ∨ c = 41 then .tok 2 (bs [c]) 0 1 else .no

/-- How many bytes stand ahead of a stroke or the line's end. -/
def strLen : List UInt8 → Nat
  | [] => 0
  | c :: r => if c == 34 || c == 10 then 0 else strLen r + 1
theorem strLen_le : ∀ l : List UInt8, strLen l ≤ l.length
  | [] => Nat.le_refl _
  | c :: r => by
    have := strLen_le r
    simp only [strLen, List.length_cons]
    split <;> omega
theorem indexAny_str : ∀ l : List UInt8, indexAny l [34, 10] = if strLen l < l.length then (strLen l : Int) else -1
  | [] => rfl
  | c :: r => by
    have ih := indexAny_str r
    have hl := strLen_le r
    have hc : ([34, 10] : List UInt8).contains c = (c == 34 || c == 10) := by cases h1 : (c == 34) <;> cases h2 : (c == 10) <;> simp [List.contains, List.elem, h1, h2]
    simp only [indexAny, strLen, List.length_cons, hc]
    by_cases h : (c == 34 || c == 10) = true
    · simp only [h, if_true]
      rw [if_pos (by omega)]
      rfl
    · simp only [h, Bool.false_eq_true, if_false]
      rw [ih]
      by_cases h2 : strLen r < r.length
      · have e : ((strLen r : Int) == -1) = false := by simp
        simp [h2, e]
      · simp [h2]
def quotedR : List UInt8 → Res
  | [] => .no
  | c :: r => if c = 34 then (if r[strLen r]? = some 34 then .tok 4 (bs (r.take (strLen r))) 0 (strLen r + 2) else .bad) else .no

/-- A hexadecimal digit's worth. -/
def hexD (c : UInt8) : Option Nat := if 48 ≤ c.toNat ∧ c.toNat ≤ 57 then some (c.toNat - 48) else if 97 ≤ c.toNat ∧ c.toNat ≤ 102 then some (c.toNat - 87) else if 65 ≤ c.toNat ∧ c.toNat ≤ 70 then some (c.toNat - 55) else none
def hexNum : List UInt8 → Nat → Option Nat
  | [], n => some n
  | c :: r, n => (hexD c).bind fun d => hexNum r (16 * n + d)
def scalarR : List UInt8 → Option Nat
  | 85 :: d => if 4 ≤ d.length ∧ d.length ≤ 6 then hexNum d 0 else none
  | _ => none
/-- May a number be a scalar? -/
def rightN (v : Nat) : Bool := v ≤ 1114111 && (v < 55296 || 57343 < v)
def nameR : List UInt8 → Res
  | [] => .no
  | c :: r => if c = 60 then (if wlen r ≠ 0 ∧ r[wlen r]? = some 62 then (match scalarR (r.take (wlen r)) with
      | none => .tok 5 (bs (r.take (wlen r))) 0 (wlen r + 2)
      | some v => if rightN v then .tok 3 (bs []) v (wlen r + 2) else .bad) else .bad) else .no
def wordR (r : List UInt8) : Res := if wlen r = 0 then .bad else .tok 1 (bs (r.take (wlen r))) 0 (wlen r)

def Res.or : Res → Res → Res
  | .no, b => b
  | a, _ => a
/-- One round: the steps, asked one behind the other. -/
def stepR (ended : Bool) (r : List UInt8) : Res := (blankR r).or ((endR ended r).or ((signR r).or ((quotedR r).or ((nameR r).or (wordR r)))))

def endedF (l : List Tok) : Bool := l.getLast?.all fun t => t.f0 == 6
theorem endedF_nil : endedF [] = true := rfl
theorem endedF_snoc (l : List Tok) (t : Tok) : endedF (l ++ [t]) = (t.f0 == 6) := by simp [endedF]

/-- The rounds: tokens, or the place of what is wrong. -/
def lexF : Nat → List UInt8 → Int → List Tok → List Tok ⊕ Int
  | 0, _, _, l => .inl l
  | k + 1, r, p, l => match r with
    | [] => .inl l
    | c :: t => match stepR (endedF l) (c :: t) with
      | .no => .inl l
      | .bad => .inr p
      | .skip n => lexF k ((c :: t).drop n) (p + n) l
      | .tok t0 t1 t2 n => lexF k ((c :: t).drop n) (p + n) (l ++ [(⟨t0, t1, t2, p⟩ : Tok)])
def closeF (l : List Tok) (n : Int) : List Tok := if endedF l then l else l ++ [(⟨6, bs [], 0, n⟩ : Tok)]
/-- Tokens: a definition's, or which error, and where. -/
def tokensF (s : ByteArray) : List Tok × Int × Int :=
  if 4000 < s.size then ([], 3, 0) else match lexF s.size s.data.toList 0 [] with
    | .inr p => ([], 20, p)
    | .inl l => if 1000 < (closeF l s.size).length then ([], 3, 0) else (closeF l s.size, 0, 0)
end Go.Proofs.YtipmmkelialgkaaGreatDoor.Lex
