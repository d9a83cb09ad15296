/- LexPlaces, in plain words: tokens stand at rising places. -/
import Derived.Test.YtipmmkelialgkaaDoorPLexx2
import Derived.Test.YtipmmkelialgkaaDoorPureKnown
import Derived.Test.YtipmmkelialgkaaDoorPureText
set_option linter.unusedVariables false
set_option linter.unusedSimpArgs false
namespace Go.Proofs.YtipmmkelialgkaaDoor.Pure
open Go.RowKit Go.Lib Go.Proofs.YtipmmkelialgkaaDoor.PLex Go.Proofs.YtipmmkelialgkaaDoorW.PrintWords Go.Proofs.YtipmmkelialgkaaDoorW.PrintLast Go.Proofs.YtipmmkelialgkaaDoor.Lex

/-- Tokens ahead of place p: at rising places; an end of a line that is something. -/
structure Good (p : Int) (l : List (S25)) : Prop where
  low : ∀ (i : Nat) (h : i < l.length), 0 ≤ l[i].f3
  high : ∀ (i : Nat) (h : i < l.length), l[i].f3 < p
  rise : ∀ (i : Nat) (h : i + 1 < l.length), l[i].f3 < l[i + 1].f3
  twice : ∀ (i : Nat) (h : i + 1 < l.length), ¬ (l[i + 1].f0 = 6 ∧ l[i].f0 = 6)
  first : ∀ (h : 0 < l.length), l[0].f0 ≠ 6
theorem Good.mono {p q : Int} {l : List (S25)} (h : Good p l) (hpq : p ≤ q) : Good q l :=
  ⟨h.low, fun i hi => Int.lt_of_lt_of_le (h.high i hi) hpq, h.rise, h.twice, h.first⟩
theorem Good.nil (p : Int) : Good p [] := ⟨fun i h => absurd h (by simp), fun i h => absurd h (by simp), fun i h => absurd h (by simp), fun i h => absurd h (by simp), fun h => absurd h (by simp)⟩
theorem endedF_last (l : List (S25)) (i : Nat) (h : i + 1 = l.length) : endedF l = (l[i].f0 == 6) := by
  have : l.getLast? = some l[i] := by
    rw [List.getLast?_eq_getElem?]
    have e : l.length - 1 = i := by omega
    rw [e]
    exact List.getElem?_eq_getElem (by omega)
  simp [endedF, this]
theorem Good.snoc {p q : Int} {l : List (S25)} (h : Good p l) (t : S25) (hp : 0 ≤ p) (ht : t.f3 = p) (hq : p < q) (hk : t.f0 = 6 → endedF l = false) : Good q (l ++ [t]) := by
  refine ⟨fun i hi => ?_, fun i hi => ?_, fun i hi => ?_, fun i hi => ?_, fun hi => ?_⟩
  · by_cases h1 : i < l.length
    · rw [List.getElem_append_left h1]
      exact h.low i h1
    · rw [List.getElem_append_right (by omega)]
      simp
      omega
  · by_cases h1 : i < l.length
    · rw [List.getElem_append_left h1]
      have := h.high i h1
      omega
    · rw [List.getElem_append_right (by omega)]
      simp
      omega
  · by_cases h1 : i + 1 < l.length
    · rw [List.getElem_append_left (by omega), List.getElem_append_left h1]
      exact h.rise i h1
    · simp only [List.length_append, List.length_singleton] at hi
      rw [List.getElem_append_left (show i < l.length by omega), List.getElem_append_right (show l.length ≤ i + 1 by omega)]
      have := h.high i (by omega)
      simp
      omega
  · by_cases h1 : i + 1 < l.length
    · rw [List.getElem_append_left (show i + 1 < l.length from h1), List.getElem_append_left (show i < l.length by omega)]
      exact h.twice i h1
    · simp only [List.length_append, List.length_singleton] at hi
      rw [List.getElem_append_right (show l.length ≤ i + 1 by omega), List.getElem_append_left (show i < l.length by omega)]
      have he := endedF_last l i (by omega)
      rintro ⟨a, b⟩
      have := hk (by simpa using a)
      rw [he, b] at this
      exact nomatch this
  · by_cases h1 : 0 < l.length
    · rw [List.getElem_append_left h1]
      exact h.first h1
    · rw [List.getElem_append_right (by omega)]
      intro a
      have := hk (by simpa using a)
      have hl : l = [] := List.length_eq_zero_iff.1 (by omega)
      rw [hl] at this
      exact nomatch this
/-- Only an end of a line is told as one, where there is something to be ended. -/
theorem kind_or {a b : Res} {t0 : Int} {t1 : ByteArray} {t2 : Int} {n : Nat} (h : a.or b = .tok t0 t1 t2 n) : a = .tok t0 t1 t2 n ∨ b = .tok t0 t1 t2 n := by
  cases a <;> simp only [Res.or] at h
  · exact .inr h
  · exact nomatch h
  · exact .inl h
  · exact nomatch h
theorem stepR_kind (e : Bool) (r : List UInt8) {t1 : ByteArray} {t2 : Int} {n : Nat} (h : stepR e r = .tok 6 t1 t2 n) : e = false := by
  unfold stepR at h
  rcases kind_or h with h | h
  · match r, h with
    | c :: t, h =>
      simp only [blankR] at h
      split at h
      · exact nomatch h
      · split at h <;> exact nomatch h
  rcases kind_or h with h | h
  · match r, h with
    | c :: t, h =>
      simp only [endR] at h
      split at h
      · split at h
        · exact nomatch h
        · rename_i hne
          simpa using hne
      · exact nomatch h
  rcases kind_or h with h | h
  · match r, h with
    | c :: t, h =>
      simp only [signR] at h
      split at h
      · injection h with h; exact absurd h (by decide)
      · split at h
        · injection h with h; exact absurd h (by decide)
        · exact nomatch h
  rcases kind_or h with h | h
  · match r, h with
    | c :: t, h =>
      simp only [quotedR] at h
      split at h
      · split at h
        · injection h with h; exact absurd h (by decide)
        · exact nomatch h
      · exact nomatch h
  rcases kind_or h with h | h
  · match r, h with
    | c :: t, h =>
      simp only [nameR] at h
      split at h
      · split at h
        · split at h
          · injection h with h; exact absurd h (by decide)
          · split at h
            · injection h with h; exact absurd h (by decide)
            · exact nomatch h
        · exact nomatch h
      · exact nomatch h
  · simp only [wordR] at h
    split at h
    · exact nomatch h
    · injection h with h; exact absurd h (by decide)
/-- What the rounds tell. -/
def Told (N : Int) (p : Int) (m : Nat) : List (S25) ⊕ Int → Prop
  | .inl l' => Good N l' ∧ l'.length ≤ m
  | .inr q => p ≤ q ∧ q < N
theorem lexF_good : ∀ (k : Nat) (r : List UInt8) (p : Int) (l : List (S25)), r.length ≤ k → 0 ≤ p → Good p l → Told (p + r.length) p (l.length + r.length) (lexF k r p l)
  | 0, [], p, l, _, _, hg => ⟨by simpa using hg, by simp⟩
  | 0, c :: t, p, l, hk, _, _ => absurd hk (by simp)
  | k + 1, [], p, l, _, _, hg => ⟨by simpa using hg, by simp⟩
  | k + 1, c :: t, p, l, hk, hp, hg => by
    have hf := stepR_fits (endedF l) (c :: t)
    have hkd := fun t1 t2 n => stepR_kind (t1 := t1) (t2 := t2) (n := n) (endedF l) (c :: t)
    simp only [List.length_cons] at hk
    simp only [lexF]
    cases hs : stepR (endedF l) (c :: t) with
    | no => exact ⟨hg.mono (by omega), by omega⟩
    | bad => exact ⟨Int.le_refl _, by simp only [List.length_cons]; omega⟩
    | skip n =>
      rw [hs] at hf
      obtain ⟨h1, h2⟩ := hf
      simp only [List.length_cons] at h2
      have hl : ((c :: t).drop n).length = t.length + 1 - n := by rw [List.length_drop, List.length_cons]
      have ih := lexF_good k ((c :: t).drop n) (p + n) l (by omega) (by omega) (hg.mono (by omega))
      rw [hl] at ih
      dsimp only
      revert ih
      cases lexF k ((c :: t).drop n) (p + n) l with
      | inl l' => exact fun ih => ⟨ih.1.mono (by simp only [List.length_cons]; omega), by have := ih.2; simp only [List.length_cons]; omega⟩
      | inr q => exact fun ih => ⟨by have := ih.1; omega, by have := ih.2; simp only [List.length_cons]; omega⟩
    | tok t0 t1 t2 n =>
      rw [hs] at hf
      obtain ⟨h1, h2⟩ := hf
      simp only [List.length_cons] at h2
      have hl : ((c :: t).drop n).length = t.length + 1 - n := by rw [List.length_drop, List.length_cons]
      have hg2 : Good (p + n) (l ++ [(⟨t0, t1, t2, p⟩ : S25)]) := hg.snoc _ hp rfl (by omega) (fun e => by
        have e' : t0 = 6 := e
        rw [e'] at hs
        exact hkd t1 t2 n hs)
      have ih := lexF_good k ((c :: t).drop n) (p + n) (l ++ [(⟨t0, t1, t2, p⟩ : S25)]) (by omega) (by omega) hg2
      rw [hl] at ih
      dsimp only
      revert ih
      cases lexF k ((c :: t).drop n) (p + n) (l ++ [(⟨t0, t1, t2, p⟩ : S25)]) with
      | inl l' => exact fun ih => ⟨ih.1.mono (by simp only [List.length_cons]; omega), by have := ih.2; simp only [List.length_append, List.length_singleton] at this; simp only [List.length_cons]; omega⟩
      | inr q => exact fun ih => ⟨by have := ih.1; omega, by have := ih.2; simp only [List.length_cons]; omega⟩

theorem rd_at (l : List (S25)) (i : Nat) (h : i < l.length) : rd_T25 l (i : Int) = l[i] := by
  simp [rd_T25, List.getElem?_eq_getElem h]
theorem places_loop (n : Nat) (s : ByteArray) (l : List (S25)) (hs : s.size ≤ 100000) (hll : l.length ≤ 100000) (hg : Good (s.size + 1) l) (hlast : ∀ (i : Nat) (h : i + 1 = l.length), l[i].f0 = 6) :
    ∀ (i k : Nat), i + n = l.length → n + 1 ≤ k → redactorlaw06_LexPlaces.l0 k s l i = some true := by
  induction n with
  | zero =>
    intro i k hi hk
    obtain ⟨k, rfl⟩ : ∃ k', k = k' + 1 := ⟨k - 1, by omega⟩
    rw [redactorlaw06_LexPlaces.l0, if_neg (by omega), known_true, Option.bind_some, if_pos rfl]
    by_cases h0 : (l.length : Int) = 0
    · rw [if_pos h0]
    · rw [if_neg h0, if_pos (by omega)]
      have hpos : 0 < l.length := by omega
      have e0 : rd_T25 l 0 = l[0] := rd_at l 0 hpos
      rw [e0, if_neg (hg.first hpos)]
      have hw : wrap64 ((l.length : Int) - 1) = ((l.length - 1 : Nat) : Int) := by rw [IntWalk.wrap64_in _ (by omega)]; omega
      rw [hw, if_pos (by omega), if_pos (by omega), rd_at l (l.length - 1) (by omega), hlast (l.length - 1) (by omega)]
      rfl
  | succ n ihn =>
    intro i k hi hk
    obtain ⟨k, rfl⟩ : ∃ k', k = k' + 1 := ⟨k - 1, by omega⟩
    have ih := ihn (i + 1) k (by omega) (by omega)
    have hlt : i < l.length := by omega
    rw [redactorlaw06_LexPlaces.l0, if_pos (by omega), if_pos (by omega), rd_at l i hlt]
    have a1 := hg.low i hlt
    have a2 := hg.high i hlt
    rw [if_neg (by omega), if_neg (by omega)]
    have hw : wrap64 ((i : Int) + 1) = ((i + 1 : Nat) : Int) := by rw [IntWalk.wrap64_in _ (by omega)]; omega
    rw [hw]
    cases i with
    | zero =>
      rw [if_neg (by decide)]
      exact ih
    | succ j =>
      have hw2 : wrap64 (((j + 1 : Nat) : Int) - 1) = ((j : Nat) : Int) := by rw [IntWalk.wrap64_in _ (by omega)]; omega
      rw [if_pos (by omega), hw2, if_pos (by omega), if_pos (by omega), rd_at l j (by omega)]
      have b1 := hg.rise j hlt
      have b2 := hg.twice j hlt
      rw [if_neg (by omega)]
      by_cases c1 : l[j + 1].f0 = 6
      · rw [if_pos c1, if_neg (fun c2 => b2 ⟨c1, c2⟩)]
        exact ih
      · rw [if_neg c1]
        exact ih

theorem LexPlaces : redactorlaw06_LexPlaces.Pure := by
  intro l0 _ _ hw
  refine ⟨1000, ?_⟩
  have hx := u8_range l0 hw
  obtain ⟨L, hL⟩ : ∃ L, L = textI l0 40 0 := ⟨_, rfl⟩
  have hlen : L.length ≤ 360 := by rw [hL]; exact textI_len l0 40 0
  have ht : lex_Tokens.f (bs L) = some (tokensF (bs L)) := rfl
  unfold redactorlaw06_LexPlaces.f
  rw [text_is l0 hx 1000 (by omega), Option.bind_some, ← hL, ht, Option.bind_some, tokensF_bs L (by omega)]
  have hgood := lexF_good L.length L 0 [] (Nat.le_refl _) (Int.le_refl _) (Good.nil _)
  have he : lexF L.length L 0 [] = lexN L 0 [] := rfl
  rw [he] at hgood
  revert hgood
  cases lexN L 0 [] with
  | inr p =>
    intro hgood
    obtain ⟨h1, h2⟩ := hgood
    rw [Int.zero_add] at h2
    have hsz : (bs L).size = L.length := bs_size L
    dsimp only
    rw [if_neg (by decide), known_true, Option.bind_some, if_pos rfl, if_pos (by rfl), if_pos (by omega), hsz]
    rw [decide_eq_true (by omega)]
  | inl l =>
    intro hgood
    obtain ⟨h1, h2⟩ := hgood
    rw [Int.zero_add] at h1
    simp only [List.length_nil, Nat.zero_add] at h2
    have hsz : (bs L).size = L.length := bs_size L
    have hcl : (closeF l L.length).length ≤ L.length + 1 := by
      unfold closeF
      split
      · omega
      · simp; omega
    have hno : ¬ 1000 < (closeF l L.length).length := by omega
    dsimp only
    simp only [if_neg hno]
    rw [if_pos trivial]
    have hg2 : Good (((bs L).size : Int) + 1) (closeF l L.length) := by
      unfold closeF
      rw [hsz]
      split
      · exact h1.mono (by omega)
      · rename_i hne
        exact h1.snoc _ (by omega) rfl (by omega) (fun _ => by simpa using hne)
    have hlast : ∀ (i : Nat) (h : i + 1 = (closeF l L.length).length), (closeF l L.length)[i].f0 = 6 := by
      intro i h
      have he : endedF (closeF l L.length) = true := by
        unfold closeF
        split
        · assumption
        · rw [endedF_snoc]
          rfl
      rw [endedF_last _ i h] at he
      simpa using he
    exact places_loop (closeF l L.length).length (bs L) _ (by omega) (by omega) hg2 hlast 0 1000 (by omega) (by omega)
end Go.Proofs.YtipmmkelialgkaaDoor.Pure
