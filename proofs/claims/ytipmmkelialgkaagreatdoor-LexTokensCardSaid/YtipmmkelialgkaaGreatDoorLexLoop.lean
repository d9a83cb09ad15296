/- The lexer's rounds in plain words: each goes on; how many rounds may come is no matter. -/
import Derived.Test.YtipmmkelialgkaaGreatDoorLexSpec
set_option linter.unusedVariables false
set_option linter.unusedSimpArgs false
namespace Go.Proofs.YtipmmkelialgkaaGreatDoor.Lex
open Go.Lib

/-- So many bytes a step may take. -/
def Res.fits (m : Nat) : Res → Prop
  | .no => True
  | .bad => True
  | .skip n => 1 ≤ n ∧ n ≤ m
  | .tok _ _ _ n => 1 ≤ n ∧ n ≤ m
theorem Res.fits_or {m : Nat} {a b : Res} (ha : a.fits m) (hb : b.fits m) : (a.or b).fits m := by
  cases a <;> simp only [Res.or] <;> assumption
theorem hasPrefix_len (l p : List UInt8) (h : hasPrefix l p = true) : p.length ≤ l.length := (List.isPrefixOf_iff_prefix.1 h).length_le
theorem blankR_fits (l : List UInt8) : (blankR l).fits l.length := by
  match l with
  | [] => exact trivial
  | c :: r =>
    simp only [blankR]
    split
    · exact ⟨Nat.le_refl _, by simp⟩
    · split
      · rename_i h
        refine ⟨?_, lineLen_le _⟩
        subst h
        simp [lineLen]
      · exact trivial
theorem endR_fits (e : Bool) (l : List UInt8) : (endR e l).fits l.length := by
  match l with
  | [] => exact trivial
  | c :: r =>
    simp only [endR]
    split
    · split
      · exact ⟨Nat.le_refl _, by simp⟩
      · exact ⟨Nat.le_refl _, by simp⟩
    · exact trivial
theorem signR_fits (l : List UInt8) : (signR l).fits l.length := by
  match l with
  | [] => exact trivial
  | c :: r =>
    simp only [signR]
    split
    · rename_i h
      exact ⟨by decide, hasPrefix_len _ _ h⟩
    · split
      · exact ⟨Nat.le_refl _, by simp⟩
      · exact trivial
theorem lt_of_some {l : List UInt8} {n : Nat} {c : UInt8} (h : l[n]? = some c) : n < l.length := (List.getElem?_eq_some_iff.1 h).1
theorem quotedR_fits (l : List UInt8) : (quotedR l).fits l.length := by
  match l with
  | [] => exact trivial
  | c :: r =>
    simp only [quotedR]
    split
    · split
      · rename_i h
        have := lt_of_some h
        refine ⟨by omega, ?_⟩
        simp only [List.length_cons]
        omega
      · exact trivial
    · exact trivial
theorem nameR_fits (l : List UInt8) : (nameR l).fits l.length := by
  match l with
  | [] => exact trivial
  | c :: r =>
    simp only [nameR]
    split
    · split
      · rename_i h
        have := lt_of_some h.2
        split
        · refine ⟨by omega, ?_⟩
          simp only [List.length_cons]
          omega
        · split
          · refine ⟨by omega, ?_⟩
            simp only [List.length_cons]
            omega
          · exact trivial
      · exact trivial
    · exact trivial
theorem wordR_fits (l : List UInt8) : (wordR l).fits l.length := by
  have := wlen_le l
  simp only [wordR]
  split
  · exact trivial
  · exact ⟨by omega, by omega⟩
theorem wordR_no (l : List UInt8) : wordR l ≠ .no := by
  simp only [wordR]
  split <;> exact fun h => nomatch h
theorem stepR_fits (e : Bool) (l : List UInt8) : (stepR e l).fits l.length :=
  Res.fits_or (blankR_fits l) (Res.fits_or (endR_fits e l) (Res.fits_or (signR_fits l) (Res.fits_or (quotedR_fits l) (Res.fits_or (nameR_fits l) (wordR_fits l)))))

/-- How many rounds may come is no matter: as many as bytes are enough. -/
theorem lexF_any : ∀ (k j : Nat) (r : List UInt8) (p : Int) (l : List Tok), r.length ≤ k → r.length ≤ j → lexF k r p l = lexF j r p l
  | 0, 0, _, _, _, _, _ => rfl
  | 0, j + 1, [], _, _, _, _ => rfl
  | k + 1, 0, [], _, _, _, _ => rfl
  | k + 1, j + 1, [], _, _, _, _ => rfl
  | 0, j + 1, c :: t, _, _, h, _ => absurd h (by simp)
  | k + 1, 0, c :: t, _, _, _, h => absurd h (by simp)
  | k + 1, j + 1, c :: t, p, l, hk, hj => by
    have hf := stepR_fits (endedF l) (c :: t)
    simp only [List.length_cons] at hk hj hf
    simp only [lexF]
    cases hs : stepR (endedF l) (c :: t) with
    | no => rfl
    | bad => rfl
    | skip n =>
      rw [hs] at hf
      obtain ⟨h1, h2⟩ := hf
      have hl : ((c :: t).drop n).length ≤ t.length := by rw [List.length_drop, List.length_cons]; omega
      exact lexF_any k j _ _ _ (by omega) (by omega)
    | tok t0 t1 t2 n =>
      rw [hs] at hf
      obtain ⟨h1, h2⟩ := hf
      have hl : ((c :: t).drop n).length ≤ t.length := by rw [List.length_drop, List.length_cons]; omega
      exact lexF_any k j _ _ _ (by omega) (by omega)
/-- The rounds from place q of a text on. -/
def lexAt (s : ByteArray) (q : Nat) (l : List Tok) : List Tok ⊕ Int := lexF (s.size - q) (s.data.toList.drop q) q l
theorem lexAt_zero (s : ByteArray) : lexAt s 0 [] = lexF s.size s.data.toList 0 [] := rfl
theorem lexAt_end (s : ByteArray) (l : List Tok) : lexAt s s.size l = .inl l := by
  simp only [lexAt, Nat.sub_self, lexF]
theorem lexAt_step (s : ByteArray) (q : Nat) (l : List Tok) (h : q < s.size) :
    lexAt s q l = match stepR (endedF l) (s.data.toList.drop q) with
      | .no => .inl l
      | .bad => .inr q
      | .skip n => lexAt s (q + n) l
      | .tok t0 t1 t2 n => lexAt s (q + n) (l ++ [(⟨t0, t1, t2, q⟩ : Tok)]) := by
  have hlen : (s.data.toList.drop q).length = s.size - q := by rw [List.length_drop, Array.length_toList]; rfl
  have hf := stepR_fits (endedF l) (s.data.toList.drop q)
  rw [hlen] at hf
  obtain ⟨k, hk⟩ : ∃ k, s.size - q = k + 1 := ⟨s.size - q - 1, by omega⟩
  unfold lexAt
  rw [hk]
  cases hd : s.data.toList.drop q with
  | nil => rw [hd, List.length_nil] at hlen; omega
  | cons c t =>
    rw [hd] at hf hlen
    rw [List.length_cons] at hlen
    simp only [lexF]
    cases hs : stepR (endedF l) (c :: t) with
    | no => rfl
    | bad => rfl
    | skip n =>
      rw [hs] at hf
      obtain ⟨h1, h2⟩ := hf
      have hdd : s.data.toList.drop (q + n) = (c :: t).drop n := by rw [← hd, List.drop_drop]
      dsimp only
      rw [hdd, Int.natCast_add]
      exact lexF_any _ _ _ _ _ (by rw [List.length_drop, List.length_cons]; omega) (by rw [List.length_drop, List.length_cons]; omega)
    | tok t0 t1 t2 n =>
      rw [hs] at hf
      obtain ⟨h1, h2⟩ := hf
      have hdd : s.data.toList.drop (q + n) = (c :: t).drop n := by rw [← hd, List.drop_drop]
      dsimp only
      rw [hdd, Int.natCast_add]
      exact lexF_any _ _ _ _ _ (by rw [List.length_drop, List.length_cons]; omega) (by rw [List.length_drop, List.length_cons]; omega)
end Go.Proofs.YtipmmkelialgkaaGreatDoor.Lex
