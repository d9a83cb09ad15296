/- The reference's small functions, in plain words: what they tell. -/
import Derived.Test.YtipmmkelialgkaaGreatDoorPLexx3
import Derived.Test.YtipmmkelialgkaaGreatDoorPureText
set_option linter.unusedVariables false
set_option linter.unusedSimpArgs false
namespace Go.Proofs.YtipmmkelialgkaaGreatDoor.Pure
open Go.RowKit Go.Lib Go.Proofs.YtipmmkelialgkaaGreatDoor.PLex Go.Proofs.YtipmmkelialgkaaGreatDoorW.PrintWords Go.Proofs.YtipmmkelialgkaaGreatDoorW.PrintLast Go.Proofs.YtipmmkelialgkaaGreatDoor.Lex

theorem bt_bs (S : List UInt8) (i : Nat) (h : i < S.length) : bt (bs S) (i : Int) = (S[i].toNat : Int) := by
  have hz : i < (bs S).size := by rw [bs_size]; exact h
  unfold bt
  rw [Int.toNat_natCast, dif_pos hz]
  rfl
theorem byte_lit {c : UInt8} (n : Int) (d : UInt8) (hd : (d.toNat : Int) = n) : ((c.toNat : Int) = n) ↔ c = d := by
  constructor
  · intro h
    have : c.toNat = d.toNat := by omega
    exact UInt8.toNat_inj.1 this
  · rintro rfl
    exact hd

/-! ### blank -/
theorem blank_loop (S : List UInt8) (h0 : 0 < S.length) (hS : S.length ≤ 100000) (hc : S[0] = 37) (n : Nat) : ∀ (i k : Nat), i + n = S.length → n + 1 ≤ k → redactorref06_blank.l0 k (bs S) i = some ((i + lineLen (S.drop i) : Nat) : Int) := by
  have hb0 : bt (bs S) 0 = 37 := by
    have := bt_bs S 0 h0
    rw [hc] at this
    exact this
  have hz : ((bs S).size : Int) = S.length := by rw [bs_size]
  induction n with
  | zero =>
    intro i k hi hk
    obtain ⟨k, rfl⟩ : ∃ k', k = k' + 1 := ⟨k - 1, by omega⟩
    have e : S.drop i = [] := List.drop_eq_nil_of_le (by omega)
    rw [redactorref06_blank.l0, hz, if_pos (by omega), if_pos hb0, if_neg (by omega), e]
    rfl
  | succ n ih =>
    intro i k hi hk
    obtain ⟨k, rfl⟩ : ∃ k', k = k' + 1 := ⟨k - 1, by omega⟩
    have hlt : i < S.length := by omega
    rw [redactorref06_blank.l0, hz, if_pos (by omega), if_pos hb0, if_pos (by omega), if_pos (by omega), bt_bs S i hlt, List.drop_eq_getElem_cons hlt]
    simp only [lineLen]
    by_cases c : S[i] = 10
    · rw [if_pos ((byte_lit 10 10 rfl).2 c), if_pos (by rw [c]; rfl)]
      rfl
    · have hw : wrap64 ((i : Int) + 1) = ((i + 1 : Nat) : Int) := by rw [IntWalk.wrap64_in _ (by omega)]; omega
      rw [if_neg (fun e => c ((byte_lit 10 10 rfl).1 e)), if_neg (by simpa using c), hw, ih (i + 1) k (by omega) (by omega)]
      congr 2
      omega
/-- How many bytes are nothing. -/
def blankN : List UInt8 → Nat
  | [] => 0
  | c :: r => if c = 32 ∨ c = 9 then 1 else if c = 37 then lineLen (c :: r) else 0
theorem blank_is (S : List UInt8) (h0 : 0 < S.length) (hS : S.length ≤ 100000) (k : Nat) (hk : S.length + 2 ≤ k) : redactorref06_blank.f k (bs S) = some ((blankN S : Nat) : Int) := by
  obtain ⟨k, rfl⟩ : ∃ k', k = k' + 1 := ⟨k - 1, by omega⟩
  have hz : ((bs S).size : Int) = S.length := by rw [bs_size]
  have hb0 : bt (bs S) 0 = (S[0].toNat : Int) := bt_bs S 0 h0
  unfold redactorref06_blank.f
  rw [hz, if_pos (by omega), hb0]
  match S, h0 with
  | c :: r, h0 =>
    simp only [List.getElem_cons_zero, blankN]
    by_cases c1 : c = 32
    · rw [if_pos ((byte_lit 32 32 rfl).2 c1), redactorref06_blank.j0, if_pos rfl, if_pos (.inl c1)]
      rfl
    · rw [if_neg (fun e => c1 ((byte_lit 32 32 rfl).1 e)), redactorref06_blank.j0]
      by_cases c2 : c = 9
      · have e : ((c.toNat : Int) == 9) = true := by rw [c2]; rfl
        rw [e, if_pos rfl, if_pos (.inr c2)]
        rfl
      · have e : ((c.toNat : Int) == 9) = false := by
          have := fun e => c2 ((byte_lit (c := c) 9 9 rfl).1 e)
          simpa using this
        rw [e, if_neg Bool.false_ne_true, if_neg (fun h => h.elim c1 c2)]
        by_cases c3 : c = 37
        · rw [if_pos c3]
          have := blank_loop (c :: r) (by simp) hS c3 (c :: r).length 0 k (by omega) (by omega)
          rw [show ((0 : Nat) : Int) = 0 from rfl] at this
          rw [this, List.drop_zero, Nat.zero_add]
        · rw [if_neg c3]
          obtain ⟨k, rfl⟩ : ∃ k', k = k' + 1 := ⟨k - 1, by omega⟩
          rw [redactorref06_blank.l0, hz, if_pos (by omega), hb0]
          simp only [List.getElem_cons_zero]
          rw [if_neg (fun e => c3 ((byte_lit 37 37 rfl).1 e))]
          rfl

/-! ### quoted -/
/-- How many bytes, with both strokes, behind the first stroke and it; none: 0. -/
def quotN (S : List UInt8) : Nat := if S[strLen S]? = some 34 then strLen S + 2 else 0
theorem quotN_nil : quotN [] = 0 := rfl
theorem quotN_stroke (r : List UInt8) : quotN (34 :: r) = 2 := by simp [quotN, strLen]
theorem quotN_end (r : List UInt8) : quotN (10 :: r) = 0 := by simp [quotN, strLen]
theorem quotN_other (c : UInt8) (r : List UInt8) (h1 : c ≠ 34) (h2 : c ≠ 10) : quotN (c :: r) = if quotN r = 0 then 0 else quotN r + 1 := by
  have e : strLen (c :: r) = strLen r + 1 := by simp [strLen, h1, h2]
  unfold quotN
  rw [e, List.getElem?_cons_succ]
  by_cases h : r[strLen r]? = some 34
  · rw [if_pos h, if_pos h, if_neg (by omega)]
  · rw [if_neg h, if_neg h, if_pos rfl]
theorem quoted_loop (c0 : UInt8) (S : List UInt8) (hS : S.length ≤ 100000) (n : Nat) : ∀ (i k : Nat), i + n = S.length → n + 1 ≤ k → redactorref06_quoted.l0 k (bs (c0 :: S)) ((i + 1 : Nat) : Int) = some (((if quotN (S.drop i) = 0 then 0 else i + quotN (S.drop i) : Nat) : Int)) := by
  have hz : ((bs (c0 :: S)).size : Int) = S.length + 1 := by rw [bs_size, List.length_cons]; omega
  induction n with
  | zero =>
    intro i k hi hk
    obtain ⟨k, rfl⟩ : ∃ k', k = k' + 1 := ⟨k - 1, by omega⟩
    have e : S.drop i = [] := List.drop_eq_nil_of_le (by omega)
    rw [redactorref06_quoted.l0, hz, if_neg (by omega), e]
    rfl
  | succ n ih =>
    intro i k hi hk
    obtain ⟨k, rfl⟩ : ∃ k', k = k' + 1 := ⟨k - 1, by omega⟩
    have hlt : i < S.length := by omega
    have hb : bt (bs (c0 :: S)) ((i + 1 : Nat) : Int) = (S[i].toNat : Int) := by
      rw [bt_bs (c0 :: S) (i + 1) (by simp; omega)]
      rfl
    have hw : wrap64 (((i + 1 : Nat) : Int) + 1) = ((i + 1 + 1 : Nat) : Int) := by rw [IntWalk.wrap64_in _ (by omega)]; omega
    rw [redactorref06_quoted.l0, hz, if_pos (by omega), if_pos (by omega), hb, hw, List.drop_eq_getElem_cons hlt]
    generalize S[i] = c
    by_cases h1 : c = 34
    · subst h1
      rw [if_pos (by rfl), quotN_stroke]
      rfl
    · rw [if_neg (fun e => h1 ((byte_lit 34 34 rfl).1 e))]
      by_cases d : c = 10
      · subst d
        rw [if_pos (by rfl), quotN_end]
        rfl
      · rw [if_neg (fun e => d ((byte_lit 10 10 rfl).1 e)), ih (i + 1) k (by omega) (by omega), quotN_other c _ h1 d]
        congr 2
        split
        · rfl
        · rw [if_neg (by omega)]
          omega
theorem quoted_is (S : List UInt8) (hS : S.length ≤ 100000) (c0 : UInt8) (k : Nat) (hk : S.length + 1 ≤ k) : redactorref06_quoted.f k (bs (c0 :: S)) = some ((quotN S : Nat) : Int) := by
  have := quoted_loop c0 S hS S.length 0 k (by omega) (by omega)
  rw [List.drop_zero, Nat.zero_add] at this
  refine Eq.trans ?_ (this.trans ?_)
  · rfl
  · congr 2
    split
    · rename_i h
      exact h.symm
    · exact Nat.zero_add _

/-! ### word -/
theorem wordly_is (c : UInt8) : redactorref06_wordly.f (c.toNat : Int) = some (wordN c.toNat) := by
  have : ((List.range 256).all fun n => decide (redactorref06_wordly.f (n : Int) = some (wordN n))) = true := by decide +kernel
  exact of_decide_eq_true (List.all_eq_true.1 this c.toNat (List.mem_range.2 c.toNat_lt))
theorem word_loop (S : List UInt8) (hS : S.length ≤ 100000) (n : Nat) : ∀ (i k : Nat), i + n = S.length → n + 1 ≤ k → redactorref06_word.l0 k (bs S) i = some ((i + wlen (S.drop i) : Nat) : Int) := by
  have hz : ((bs S).size : Int) = S.length := by rw [bs_size]
  induction n with
  | zero =>
    intro i k hi hk
    obtain ⟨k, rfl⟩ : ∃ k', k = k' + 1 := ⟨k - 1, by omega⟩
    have e : S.drop i = [] := List.drop_eq_nil_of_le (by omega)
    rw [redactorref06_word.l0, hz, if_neg (by omega), e]
    rfl
  | succ n ih =>
    intro i k hi hk
    obtain ⟨k, rfl⟩ : ∃ k', k = k' + 1 := ⟨k - 1, by omega⟩
    have hlt : i < S.length := by omega
    have hw : wrap64 ((i : Int) + 1) = ((i + 1 : Nat) : Int) := by rw [IntWalk.wrap64_in _ (by omega)]; omega
    rw [redactorref06_word.l0, hz, if_pos (by omega), if_pos (by omega), bt_bs S i hlt, wordly_is, Option.bind_some, hw, List.drop_eq_getElem_cons hlt]
    simp only [wlen]
    by_cases c : wordN S[i].toNat = true
    · rw [if_pos c, if_pos c, ih (i + 1) k (by omega) (by omega)]
      congr 2
      omega
    · rw [if_neg c, if_neg c]
      rfl
theorem word_is (S : List UInt8) (hS : S.length ≤ 100000) (k : Nat) (hk : S.length + 1 ≤ k) : redactorref06_word.f k (bs S) = some ((wlen S : Nat) : Int) := by
  have := word_loop S hS S.length 0 k (by omega) (by omega)
  rw [List.drop_zero, Nat.zero_add] at this
  exact this

/-! ### hex -/
def digL : List UInt8 := [48, 49, 50, 51, 52, 53, 54, 55, 56, 57, 97, 98, 99, 100, 101, 102, 65, 66, 67, 68, 69, 70]
def digZ (c : UInt8) (x : Int) (j : Nat) : List UInt8 → Int
  | [] => x
  | d :: r => digZ c (if d = c then (j : Int) else x) (j + 1) r
theorem dig_tab : ((List.range 256).all fun n => decide (digZ (UInt8.ofNat n) (-1) 0 digL = match hexD (UInt8.ofNat n) with
    | some d => if (UInt8.ofNat n).toNat < 65 ∨ 97 ≤ (UInt8.ofNat n).toNat then (d : Int) else (d : Int) + 6
    | none => -1)) = true := by decide +kernel
theorem dig_is (c : UInt8) : digZ c (-1) 0 digL = match hexD c with
    | some d => if c.toNat < 65 ∨ 97 ≤ c.toNat then (d : Int) else (d : Int) + 6
    | none => -1 := by
  have h := of_decide_eq_true (List.all_eq_true.1 dig_tab c.toNat (List.mem_range.2 c.toNat_lt))
  have e : UInt8.ofNat c.toNat = c := by simp
  rw [e] at h
  exact h
theorem hex_inner (S : List UInt8) (a : Int) (i : Nat) (hi : i < S.length) (hS : S.length ≤ 100000) (n : Nat) : ∀ (j : Nat) (x : Int) (k : Nat), j + n = 22 → redactorref06_hex.l1 (n + (k + 1)) (bs S) a i x j = redactorref06_hex.l1 (k + 1) (bs S) a i (digZ S[i] x j (digL.drop j)) 22 := by
  have hz : ((bs S).size : Int) = S.length := by rw [bs_size]
  induction n with
  | zero =>
    intro j x k hj
    have e : digL.drop j = [] := List.drop_eq_nil_of_le (by show 22 ≤ j; omega)
    have hj22 : (j : Int) = 22 := by omega
    rw [e, hj22, Nat.zero_add]
    rfl
  | succ n ih =>
    intro j x k hj
    have hjl : j < digL.length := by show j < 22; omega
    have hb : bt (⟨#[48, 49, 50, 51, 52, 53, 54, 55, 56, 57, 97, 98, 99, 100, 101, 102, 65, 66, 67, 68, 69, 70]⟩ : ByteArray) (j : Int) = (digL[j].toNat : Int) := bt_bs digL j hjl
    have hw : wrap64 ((j : Int) + 1) = ((j + 1 : Nat) : Int) := by rw [IntWalk.wrap64_in _ (by omega)]; omega
    have en : n + 1 + (k + 1) = (n + (k + 1)) + 1 := by omega
    rw [en, redactorref06_hex.l1, if_pos (by omega), if_pos (by omega), if_pos (by omega), hz, if_pos (by omega), hb, bt_bs S i hi, hw, List.drop_eq_getElem_cons hjl]
    simp only [digZ]
    by_cases c : digL[j] = S[i]
    · rw [if_pos (by rw [c]), if_pos c]
      exact ih (j + 1) _ k (by omega)
    · have c' : ¬ ((digL[j].toNat : Int) = (S[i].toNat : Int)) := fun e => c (UInt8.toNat_inj.1 (by omega))
      rw [if_neg c', if_neg c]
      exact ih (j + 1) _ k (by omega)
theorem hexD_lt {c : UInt8} {d : Nat} (h : hexD c = some d) : d < 16 ∧ (¬ (c.toNat < 65 ∨ 97 ≤ c.toNat) → 10 ≤ d) := by
  unfold hexD at h
  split at h
  · injection h with h
    omega
  · split at h
    · injection h with h
      omega
    · split at h
      · injection h with h
        omega
      · exact nomatch h
/-- A number of digits, or below 0. -/
def hexI : Option Nat → Int
  | some v => (v : Int)
  | none => -1
theorem hex_loop (S : List UInt8) (hS : S.length ≤ 6) (n : Nat) : ∀ (i a k : Nat), i + n = S.length → a < 16 ^ i → 25 * n + 1 ≤ k → redactorref06_hex.l0 k (bs S) (a : Int) i = some (hexI (hexNum (S.drop i) a)) := by
  have hz : ((bs S).size : Int) = S.length := by rw [bs_size]
  induction n with
  | zero =>
    intro i a k hi ha hk
    obtain ⟨k, rfl⟩ : ∃ k', k = k' + 1 := ⟨k - 1, by omega⟩
    have e : S.drop i = [] := List.drop_eq_nil_of_le (by omega)
    rw [redactorref06_hex.l0, hz, if_neg (by omega), e]
    rfl
  | succ n ih =>
    intro i a k hi ha hk
    obtain ⟨k, rfl⟩ : ∃ k', k = (22 + (k' + 1)) + 1 := ⟨k - 24, by omega⟩
    have hlt : i < S.length := by omega
    have hin := hex_inner S (a : Int) i hlt (by omega) 22 0 (-1) k rfl
    rw [show ((0 : Nat) : Int) = 0 from rfl, List.drop_zero, dig_is] at hin
    have hw : wrap64 ((i : Int) + 1) = ((i + 1 : Nat) : Int) := by rw [IntWalk.wrap64_in _ (by omega)]; omega
    rw [redactorref06_hex.l0, hz, if_pos (by omega), hin, redactorref06_hex.l1, if_neg (by decide), hw, List.drop_eq_getElem_cons hlt, hexNum]
    have hp := pow16_step i a
    have hcap := pow16 i S.length a hlt hS ha
    generalize S[i] = c at *
    cases hd : hexD c with
    | none => rfl
    | some d =>
      obtain ⟨h16, h10⟩ := hexD_lt hd
      dsimp only
      rw [Option.bind_some]
      have ih' := ih (i + 1) (16 * a + d) k (by omega) (hp d ha h16) (by omega)
      have e1 : wrap64 (16 * (a : Int)) = 16 * (a : Int) := IntWalk.wrap64_in _ (by omega)
      by_cases hc : c.toNat < 65 ∨ 97 ≤ c.toNat
      · simp only [if_pos hc]
        rw [if_neg (by omega), if_neg (by omega), e1]
        have e2 : wrap64 (16 * (a : Int) + d) = ((16 * a + d : Nat) : Int) := by rw [IntWalk.wrap64_in _ (by omega)]; omega
        rw [e2]
        exact ih'
      · have := h10 hc
        simp only [if_neg hc]
        have h6 : (d : Int) + 6 > 15 := by omega
        have h0 : ¬ ((d : Int) + 6 < 0) := by omega
        rw [if_neg h0, if_pos h6, e1]
        have e3 : wrap64 ((d : Int) + 6 - 6) = d := by rw [IntWalk.wrap64_in _ (by omega)]; omega
        have e2 : wrap64 (16 * (a : Int) + d) = ((16 * a + d : Nat) : Int) := by rw [IntWalk.wrap64_in _ (by omega)]; omega
        rw [e3, e2]
        exact ih'
theorem hex_is (S : List UInt8) (hS : S.length ≤ 6) (k : Nat) (hk : 151 ≤ k) : redactorref06_hex.f k (bs S) = some (hexI (hexNum S 0)) := by
  have := hex_loop S hS S.length 0 0 k (by omega) (by decide) (by omega)
  rw [List.drop_zero] at this
  exact this

/-! ### one -/
theorem signR_cons (c : UInt8) (r : List UInt8) : signR (c :: r) = if hasPrefix (c :: r) [46, 46, 46] = true then .tok 2 (bs [46, 46, 46]) 0 3 else if c = 59 ∨ c = 44 ∨ c = 40 ∨ c = 41 then .tok 2 (bs [c]) 0 1 else .no := rfl
theorem quotedR_stroke (r : List UInt8) : quotedR (34 :: r) = if r[strLen r]? = some 34 then .tok 4 (bs (r.take (strLen r))) 0 (strLen r + 2) else .bad := by simp only [quotedR, if_true]
theorem quotedR_other (c : UInt8) (r : List UInt8) (h : c ≠ 34) : quotedR (c :: r) = .no := by simp only [quotedR, if_neg h]
theorem nameR_hook (r : List UInt8) : nameR (60 :: r) = if wlen r ≠ 0 ∧ r[wlen r]? = some 62 then (match scalarR (r.take (wlen r)) with
      | none => .tok 5 (bs (r.take (wlen r))) 0 (wlen r + 2)
      | some v => if rightN v then .tok 3 (bs []) v (wlen r + 2) else .bad) else .bad := by
  simp only [nameR, if_true]
  rfl
theorem nameR_other (c : UInt8) (r : List UInt8) (h : c ≠ 60) : nameR (c :: r) = .no := by simp only [nameR, if_neg h]
/-- What the reference's step tells, beside the step of ours. -/
def alike (r : Res) (x : Int × ByteArray × Int × Int × Int) : Prop := match r with
  | .tok t0 t1 t2 n => x = (t0, t1, t2, 0, (n : Int))
  | .bad => x.2.2.2.2 = 0
  | _ => False
theorem extract_cons (c : UInt8) (r : List UInt8) (n : Nat) : (bs (c :: r)).extract 1 (n + 1) = bs (r.take n) := by
  rw [extract_bs, bs_list]
  rfl
theorem extract_take (S : List UInt8) (n : Nat) : (bs S).extract 0 n = bs (S.take n) := by
  rw [extract_bs, bs_list]
  rfl
theorem right_is (v : Nat) (hv : v < 16777216) : redactorref01_Right.f (wrap32 (v : Int)) = some (rightN v) := by
  have e : wrap32 (v : Int) = v := by rw [IntWalk.wrap32_in _ (by omega)]
  rw [e]
  unfold redactorref01_Right.f rightN
  have a1 : (v : Int) ≥ -256 := by omega
  rw [if_pos a1]
  by_cases a2 : v < 55296
  · rw [if_pos (by omega)]
    simp [a2]; omega
  · rw [if_neg (by omega)]
    by_cases a3 : 57343 < v
    · rw [if_pos (by omega)]
      simp [a3]; omega
    · rw [if_neg (by omega)]
      simp [a2, a3]
theorem j0_true (k : Nat) (S : List UInt8) (x : Int) (h : 1 ≤ S.length) : redactorref06_one.j0 (k + 1) (bs S) x true = some (2, bs (S.take 1), 0, 0, 1) := by
  have hz : ((bs S).size : Int) = S.length := by rw [bs_size]
  rw [redactorref06_one.j0, if_pos rfl, if_pos (by decide), hz, if_pos (by omega), extract_take]
theorem dots_is (S : List UInt8) (h : 3 ≤ S.length) : (((bs S).extract 0 3).toList == ([46, 46, 46] : List UInt8)) = hasPrefix S [46, 46, 46] := by
  rw [extract_take, ByteArray.toList_eq, bs_list]
  match S, h with
  | a :: b :: c :: t, _ =>
    rw [Bool.eq_iff_iff]
    simp [hasPrefix, List.isPrefixOf]
    constructor
    · rintro ⟨rfl, rfl, rfl⟩
      exact ⟨rfl, rfl, rfl⟩
    · rintro ⟨rfl, rfl, rfl⟩
      exact ⟨rfl, rfl, rfl⟩
theorem j0_false (k : Nat) (S : List UInt8) (x : Int) : redactorref06_one.j0 (k + 1) (bs S) x false = redactorref06_one.j1 k (bs S) x (hasPrefix S [46, 46, 46]) := by
  have hz : ((bs S).size : Int) = S.length := by rw [bs_size]
  rw [redactorref06_one.j0, if_neg Bool.false_ne_true, hz]
  by_cases h : 3 ≤ S.length
  · rw [if_pos (by omega), if_pos (by decide), if_pos (by omega), dots_is S h]
  · rw [if_neg (by omega)]
    congr 1
    cases hp : hasPrefix S [46, 46, 46] with
    | false => rfl
    | true => exact absurd (hasPrefix_len S _ hp) h
theorem sign_true (S : List UInt8) (h : hasPrefix S [46, 46, 46] = true) (k : Nat) (x : Int) : redactorref06_one.j1 (k + 1) (bs S) x true = some (2, bs [46, 46, 46], 0, 0, 3) := by
  have hz : ((bs S).size : Int) = S.length := by rw [bs_size]
  have h3 := hasPrefix_len S _ h
  have h3' : 3 ≤ S.length := h3
  rw [redactorref06_one.j1, if_pos rfl, if_pos (by decide), hz, if_pos (by omega), extract_take]
  obtain ⟨t, rfl⟩ := List.isPrefixOf_iff_prefix.1 h
  rfl
theorem one_quoted (r : List UInt8) (hr : r.length ≤ 100000) (k : Nat) (hk : r.length + 1 ≤ k) : ∃ x, redactorref06_one.j1 (k + 1) (bs (34 :: r)) 34 false = some x ∧ alike (quotedR (34 :: r)) x := by
  have hz : ((bs (34 :: r)).size : Int) = r.length + 1 := by rw [bs_size, List.length_cons]; omega
  have hl := strLen_le r
  rw [redactorref06_one.j1, if_neg Bool.false_ne_true, if_pos rfl, quoted_is r hr 34 k hk, Option.bind_some]
  rw [quotedR_stroke]
  unfold quotN
  by_cases h : r[strLen r]? = some 34
  · have hlt := lt_of_some h
    have hw : wrap64 (((strLen r + 2 : Nat) : Int) - 1) = ((strLen r + 1 : Nat) : Int) := by rw [IntWalk.wrap64_in _ (by omega)]; omega
    rw [if_pos h, if_pos h, if_neg (by omega), hw, hz, if_pos (by omega), if_pos (by omega), Int.toNat_natCast, extract_cons]
    exact ⟨_, rfl, rfl⟩
  · rw [if_neg h, if_neg h, if_pos (by rfl)]
    exact ⟨_, rfl, rfl⟩
theorem one_word (c : UInt8) (r : List UInt8) (hr : (c :: r).length ≤ 100000) (k : Nat) (hk : (c :: r).length + 1 ≤ k) (h34 : c ≠ 34) (h60 : c ≠ 60) : ∃ x, redactorref06_one.j1 (k + 1) (bs (c :: r)) (c.toNat : Int) false = some x ∧ alike (wordR (c :: r)) x := by
  have hz : ((bs (c :: r)).size : Int) = (c :: r).length := by rw [bs_size]
  have hl := wlen_le (c :: r)
  rw [redactorref06_one.j1, if_neg Bool.false_ne_true, if_neg (fun e => h34 ((byte_lit 34 34 rfl).1 e)), if_neg (fun e => h60 ((byte_lit 60 60 rfl).1 e)), word_is (c :: r) hr k hk, Option.bind_some, hz]
  unfold wordR
  rw [if_pos (by omega), if_pos (by omega), Int.toNat_natCast, extract_take]
  by_cases h : wlen (c :: r) = 0
  · rw [if_pos h, h]
    exact ⟨_, rfl, rfl⟩
  · rw [if_neg h]
    exact ⟨_, rfl, rfl⟩
/-- A name's text, as the reference's last part tells it. -/
theorem j3_false (r : List UInt8) (n : Nat) (hn : n ≤ r.length) (hr : r.length ≤ 100000) (k : Nat) : redactorref06_one.j3 (k + 1) (bs (60 :: r)) (n : Int) false = some (5, bs (r.take n), 0, 0, ((n + 2 : Nat) : Int)) := by
  have hz : ((bs (60 :: r)).size : Int) = r.length + 1 := by rw [bs_size, List.length_cons]; omega
  have hw : wrap64 ((n : Int) + 1) = ((n + 1 : Nat) : Int) := by rw [IntWalk.wrap64_in _ (by omega)]; omega
  have hw2 : wrap64 ((n : Int) + 2) = ((n + 2 : Nat) : Int) := by rw [IntWalk.wrap64_in _ (by omega)]; omega
  rw [redactorref06_one.j3, if_neg Bool.false_ne_true, hw, hz, if_pos (by omega), if_pos (by omega), Int.toNat_natCast, extract_cons, hw2]
theorem extract_two (r : List UInt8) (m : Nat) : (bs (60 :: 85 :: r)).extract 2 (m + 2) = bs (r.take m) := by
  rw [extract_bs, bs_list]
  rfl
theorem j3_true (r : List UInt8) (m v : Nat) (hm : m ≤ r.length) (hr : r.length ≤ 100000) (h6 : m ≤ 6) (hv : hexNum (r.take m) 0 = some v) (k : Nat) (hk : 151 ≤ k) : ∃ x, redactorref06_one.j3 (k + 1) (bs (60 :: 85 :: r)) ((m + 1 : Nat) : Int) true = some x ∧ alike (if rightN v then .tok 3 (bs []) v (m + 1 + 2) else .bad) x := by
  have hz : ((bs (60 :: 85 :: r)).size : Int) = r.length + 2 := by rw [bs_size, List.length_cons, List.length_cons]; omega
  have hw : wrap64 (((m + 1 : Nat) : Int) + 1) = ((m + 2 : Nat) : Int) := by rw [IntWalk.wrap64_in _ (by omega)]; omega
  have hw2 : wrap64 (((m + 1 : Nat) : Int) + 2) = ((m + 1 + 2 : Nat) : Int) := by rw [IntWalk.wrap64_in _ (by omega)]; omega
  have hlen : (r.take m).length ≤ 6 := by rw [List.length_take]; omega
  have hvl := hexNum_lt _ v hlen hv
  rw [redactorref06_one.j3, if_pos rfl, hw, hz, if_pos (by omega), if_pos (by omega), Int.toNat_natCast, extract_two, hex_is _ hlen k hk, hv, Option.bind_some]
  show ∃ x, ((redactorref01_Right.f (wrap32 (v : Int))).bind fun t130 => (if t130 = true then (some (3, (⟨#[]⟩ : ByteArray), (v : Int), 0, wrap64 (((m + 1 : Nat) : Int) + 2))) else (some (0, (⟨#[]⟩ : ByteArray), 0, 0, 0)))) = some x ∧ _
  rw [right_is v hvl, Option.bind_some, hw2]
  cases rightN v with
  | true => exact ⟨_, rfl, rfl⟩
  | false => exact ⟨_, rfl, rfl⟩
theorem j2_true (S : ByteArray) (x : Int) (k : Nat) : redactorref06_one.j2 (k + 1) S x true = some (0, (⟨#[]⟩ : ByteArray), 0, 0, 0) := by
  rw [redactorref06_one.j2, if_pos rfl]
theorem one_name (r : List UInt8) (hr : r.length ≤ 100000) (k : Nat) (hk : r.length + 200 ≤ k) : ∃ x, redactorref06_one.j1 (k + 1) (bs (60 :: r)) 60 false = some x ∧ alike (nameR (60 :: r)) x := by
  have hz : ((bs (60 :: r)).size : Int) = r.length + 1 := by rw [bs_size, List.length_cons]; omega
  have hl := wlen_le r
  have he : (bs (60 :: r)).extract 1 (bs (60 :: r)).size = bs r := by
    rw [extract_end, bs_list]
    rfl
  have hw : wrap64 ((wlen r : Int) + 1) = ((wlen r + 1 : Nat) : Int) := by rw [IntWalk.wrap64_in _ (by omega)]; omega
  rw [redactorref06_one.j1, if_neg Bool.false_ne_true, if_neg (by decide), if_pos rfl, hz, if_pos (by omega), he, word_is r hr k (by omega), Option.bind_some, hw]
  rw [nameR_hook]
  obtain ⟨k, rfl⟩ : ∃ k', k = k' + 2 := ⟨k - 2, by omega⟩
  by_cases h0 : wlen r = 0
  · rw [if_pos (by omega), j2_true, if_neg (fun h => h.1 h0)]
    exact ⟨_, rfl, rfl⟩
  · rw [if_neg (by omega)]
    by_cases hge : r.length ≤ wlen r
    · rw [if_pos (by omega), j2_true, if_neg (fun h => by have := lt_of_some h.2; omega)]
      exact ⟨_, rfl, rfl⟩
    · have hlt : wlen r < r.length := by omega
      have hb : bt (bs (60 :: r)) ((wlen r + 1 : Nat) : Int) = (r[wlen r].toNat : Int) := by
        rw [bt_bs (60 :: r) (wlen r + 1) (by simp; omega)]
        rfl
      rw [if_neg (by omega), if_pos (by omega), if_pos (by omega), hb]
      by_cases h62 : r[wlen r] = 62
      · have e62 : ((r[wlen r].toNat : Int) != 62) = false := by rw [h62]; rfl
        rw [e62, if_pos ⟨h0, by rw [List.getElem?_eq_getElem hlt, h62]⟩]
        clear e62 hb he hge
        match r, hr, hk, hz, hl, hw, h0, hlt, h62 with
        | c1 :: r1, hr, hk, hz, hl, hw, h0, hlt, h62 =>
          obtain ⟨m, hm⟩ : ∃ m, wlen (c1 :: r1) = m + 1 := ⟨wlen (c1 :: r1) - 1, by omega⟩
          have hb1 : bt (bs (60 :: c1 :: r1)) 1 = (c1.toNat : Int) := bt_bs (60 :: c1 :: r1) 1 (by simp)
          have hnm : (m + 1) ≤ (c1 :: r1).length := by omega
          have hmr : m ≤ r1.length := by simpa using hnm
          have hr1 : r1.length ≤ 100000 := by simp at hr; omega
          rw [hm] at hw ⊢
          have hf := j3_false (c1 :: r1) (m + 1) hnm hr k
          rw [redactorref06_one.j2, if_neg Bool.false_ne_true, hz, if_pos (by simp; omega), hb1, hw]
          have hsc : scalarR ((c1 :: r1).take (m + 1)) = if c1 = 85 then (if 4 ≤ m ∧ m ≤ 6 then hexNum (r1.take m) 0 else none) else none := by
            rw [List.take_succ_cons]
            by_cases h85 : c1 = 85
            · subst h85
              have hlen : (r1.take m).length = m := by rw [List.length_take]; omega
              simp only [scalarR, hlen, if_true]
            · rw [if_neg h85]
              unfold scalarR
              split
              · rename_i h
                injection h with h _
                exact absurd h h85
              · rfl
          rw [hsc]
          by_cases h85 : c1 = 85
          · subst h85
            rw [if_pos (by rfl), if_pos rfl]
            by_cases h5 : 4 ≤ m
            · rw [if_pos (by omega)]
              by_cases h7 : m ≤ 6
              · have hlen : (r1.take m).length ≤ 6 := by rw [List.length_take]; omega
                have hi6 : hexNum (r1.take m) 0 = hexNum (r1.take m) 0 := rfl
                rw [if_pos (by omega), if_pos (by omega), if_pos (by simp at hmr ⊢; omega), Int.toNat_natCast, show m + 1 + 1 = m + 2 from rfl, extract_two, hex_is _ hlen (k + 1) (by simp at hk; omega), Option.bind_some, if_pos ⟨h5, h7⟩]
                cases hx : hexNum (r1.take m) 0 with
                | none =>
                  have e : decide (hexI none ≥ 0) = false := rfl
                  rw [e, hf]
                  exact ⟨_, rfl, rfl⟩
                | some v =>
                  have e : decide (hexI (some v) ≥ 0) = true := decide_eq_true (Int.natCast_nonneg v)
                  rw [e]
                  exact j3_true r1 m v hmr hr1 h7 hx k (by simp at hk; omega)
              · rw [if_neg (by omega), hf, if_neg (fun h => h7 h.2)]
                exact ⟨_, rfl, rfl⟩
            · rw [if_neg (by omega), hf, if_neg (fun h => h5 h.1)]
              exact ⟨_, rfl, rfl⟩
          · rw [if_neg (fun e => h85 ((byte_lit 85 85 rfl).1 e)), hf, if_neg h85]
            exact ⟨_, rfl, rfl⟩
      · have e62 : ((r[wlen r].toNat : Int) != 62) = true := by
          have : ¬ ((r[wlen r].toNat : Int) = 62) := fun e => h62 ((byte_lit 62 62 rfl).1 e)
          simpa using this
        rw [e62, j2_true, if_neg (fun h => h62 (by have := h.2; rw [List.getElem?_eq_getElem hlt] at this; exact Option.some.inj this))]
        exact ⟨_, rfl, rfl⟩
theorem one_is (c : UInt8) (r : List UInt8) (hr : r.length ≤ 99999) (k : Nat) (hk : r.length + 300 ≤ k) : ∃ x, redactorref06_one.f k (bs (c :: r)) = some x ∧ alike ((signR (c :: r)).or ((quotedR (c :: r)).or ((nameR (c :: r)).or (wordR (c :: r))))) x := by
  have hz : ((bs (c :: r)).size : Int) = r.length + 1 := by rw [bs_size, List.length_cons]; omega
  have hb0 : bt (bs (c :: r)) 0 = (c.toNat : Int) := bt_bs (c :: r) 0 (by simp)
  obtain ⟨k, rfl⟩ : ∃ k', k = k' + 2 := ⟨k - 2, by omega⟩
  have hj := j0_true (k + 1) (c :: r) (c.toNat : Int) (by simp)
  have sg : (c = 59 ∨ c = 44 ∨ c = 40 ∨ c = 41) → ∃ x, redactorref06_one.j0 (k + 2) (bs (c :: r)) (c.toNat : Int) true = some x ∧ alike ((signR (c :: r)).or ((quotedR (c :: r)).or ((nameR (c :: r)).or (wordR (c :: r))))) x := fun h => by
    have hp : hasPrefix (c :: r) [46, 46, 46] = false := by
      simp only [hasPrefix, List.isPrefixOf]
      rcases h with rfl | rfl | rfl | rfl <;> rfl
    refine ⟨_, hj, ?_⟩
    rw [signR_cons, hp, if_neg Bool.false_ne_true, if_pos h]
    rfl
  unfold redactorref06_one.f
  rw [hz, if_pos (by omega), hb0]
  by_cases h1 : c = 59
  · rw [if_pos ((byte_lit 59 59 rfl).2 h1)]
    exact sg (.inl h1)
  · rw [if_neg (fun e => h1 ((byte_lit 59 59 rfl).1 e))]
    by_cases h2 : c = 44
    · rw [if_pos ((byte_lit 44 44 rfl).2 h2)]
      exact sg (.inr (.inl h2))
    · rw [if_neg (fun e => h2 ((byte_lit 44 44 rfl).1 e))]
      by_cases h3 : c = 40
      · rw [if_pos ((byte_lit 40 40 rfl).2 h3)]
        exact sg (.inr (.inr (.inl h3)))
      · rw [if_neg (fun e => h3 ((byte_lit 40 40 rfl).1 e))]
        by_cases h4 : c = 41
        · have e : ((c.toNat : Int) == 41) = true := by rw [h4]; rfl
          rw [e]
          exact sg (.inr (.inr (.inr h4)))
        · have e : ((c.toNat : Int) == 41) = false := by
            have := fun e => h4 ((byte_lit (c := c) 41 41 rfl).1 e)
            simpa using this
          rw [e, j0_false]
          cases hp : hasPrefix (c :: r) [46, 46, 46] with
          | true =>
            refine ⟨_, sign_true _ hp _ _, ?_⟩
            rw [signR_cons, hp, if_pos rfl]
            rfl
          | false =>
            have hs : signR (c :: r) = .no := by
              rw [signR_cons, hp, if_neg Bool.false_ne_true, if_neg (by simp [h1, h2, h3, h4])]
            rw [hs]
            show ∃ x, _ ∧ alike ((quotedR (c :: r)).or ((nameR (c :: r)).or (wordR (c :: r)))) x
            by_cases h34 : c = 34
            · subst h34
              obtain ⟨x, hx, ha⟩ := one_quoted r (by omega) k (by omega)
              refine ⟨x, hx, ?_⟩
              have hq : quotedR (34 :: r) ≠ .no := by
                rw [quotedR_stroke]
                split <;> exact fun h => nomatch h
              rwa [show (quotedR (34 :: r)).or ((nameR (34 :: r)).or (wordR (34 :: r))) = quotedR (34 :: r) from by cases h : quotedR (34 :: r) <;> first | rfl | exact absurd h hq]
            · have hq : quotedR (c :: r) = .no := quotedR_other c r h34
              rw [hq]
              show ∃ x, _ ∧ alike ((nameR (c :: r)).or (wordR (c :: r))) x
              by_cases h60 : c = 60
              · subst h60
                obtain ⟨x, hx, ha⟩ := one_name r (by omega) k (by omega)
                refine ⟨x, hx, ?_⟩
                rwa [show (nameR (60 :: r)).or (wordR (60 :: r)) = nameR (60 :: r) from by cases h : nameR (60 :: r) <;> first | rfl | (rw [h] at ha; exact ha.elim)]
              · have hn : nameR (c :: r) = .no := nameR_other c r h60
                rw [hn]
                exact one_word c r (by simp; omega) k (by simp; omega) h34 h60
end Go.Proofs.YtipmmkelialgkaaGreatDoor.Pure
