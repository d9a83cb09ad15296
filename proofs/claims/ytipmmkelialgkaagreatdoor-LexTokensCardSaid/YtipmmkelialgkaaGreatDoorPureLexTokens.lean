/- LexTokens, in plain words: the reference's rounds tell what ours tell. -/
import Derived.Test.YtipmmkelialgkaaGreatDoorPLexx6
import Derived.Test.YtipmmkelialgkaaGreatDoorPureRef
import Derived.Test.YtipmmkelialgkaaGreatDoorLexLeave
import Derived.Test.YtipmmkelialgkaaGreatDoorPureText
set_option linter.unusedVariables false
set_option linter.unusedSimpArgs false
namespace Go.Proofs.YtipmmkelialgkaaGreatDoor.Pure
open Go.RowKit Go.Lib Go.Proofs.YtipmmkelialgkaaGreatDoor.PLex Go.Proofs.YtipmmkelialgkaaGreatDoorW.PrintWords Go.Proofs.YtipmmkelialgkaaGreatDoorW.PrintLast Go.Proofs.YtipmmkelialgkaaGreatDoor.Lex

/-- The last token's kind. -/
theorem last_is (l : List Tok) (h : l ≠ []) (hl : l.length ≤ 1000000) : wrap64 ((l.length : Int) - 1) = ((l.length - 1 : Nat) : Int) ∧ ((rd_T63 l ((l.length - 1 : Nat) : Int)).f0 == 6) = endedF l := by
  have hp := List.length_pos_iff.2 h
  refine ⟨by rw [IntWalk.wrap64_in _ (by omega)]; omega, ?_⟩
  obtain ⟨L, t, rfl⟩ : ∃ L t, l = L ++ [t] := ⟨l.dropLast, l.getLast h, (List.dropLast_concat_getLast h).symm⟩
  rw [endedF_snoc]
  have e : rd_T63 (L ++ [t]) (((L ++ [t]).length - 1 : Nat) : Int) = t := by simp [rd_T63]
  rw [e]
theorem ref_j2 (s : ByteArray) (l : List Tok) (hl : l.length ≤ 4000) (k : Nat) : redactorref06_Tokens.j2 (k + 1) s l (!endedF l) = some (if 1000 < (closeF l s.size).length then (([] : List Tok), 3, 0) else (closeF l s.size, 0, 0)) := by
  rw [redactorref06_Tokens.j2]
  unfold closeF
  cases endedF l with
  | true =>
    rw [if_neg (by simp), if_pos rfl]
    by_cases h : 1000 < l.length
    · rw [if_pos (by omega), if_pos h]
    · rw [if_neg (by omega), if_neg h]
  | false =>
    rw [if_pos (by rfl), if_pos (by omega), Option.bind_some, if_neg Bool.false_ne_true]
    have e : ((l ++ [(⟨6, (⟨#[]⟩ : ByteArray), 0, (s.size : Int)⟩ : Tok)]).length : Int) = (((l ++ [(⟨6, bs [], 0, (s.size : Int)⟩ : Tok)]).length : Nat) : Int) := rfl
    by_cases h : 1000 < (l ++ [(⟨6, bs [], 0, (s.size : Int)⟩ : Tok)]).length
    · rw [if_pos (by rw [e]; omega), if_pos h]
    · rw [if_neg (by rw [e]; omega), if_neg h]
      rfl
theorem blankN_cons (c : UInt8) (r : List UInt8) : blankN (c :: r) = if c = 32 ∨ c = 9 then 1 else if c = 37 then lineLen (c :: r) else 0 := rfl
theorem blankR_cons (c : UInt8) (r : List UInt8) : blankR (c :: r) = if c = 32 ∨ c = 9 then .skip 1 else if c = 37 then .skip (lineLen (c :: r)) else .no := rfl
theorem ref_loop (s : ByteArray) (hs : ¬ 4000 < s.size) (n : Nat) : ∀ (q k : Nat) (l : List Tok), q ≤ s.size → s.size ≤ q + n → l.length ≤ q → lexAt s 0 [] = lexAt s q l → 3 * n + 5000 ≤ k → redactorref06_Tokens.l0 k s l (q : Int) = some (tokensF s) := by
  induction n with
  | zero =>
    intro q k l hq hn hl hX hk
    obtain rfl : q = s.size := by omega
    obtain ⟨k, rfl⟩ : ∃ k', k = k' + 2 := ⟨k - 2, by omega⟩
    rw [redactorref06_Tokens.l0, if_neg (by omega), tokensF_ok hs hX]
    have h2 := ref_j2 s l (by omega) k
    by_cases h : l = []
    · subst h
      rw [if_neg (by simp)]
      exact h2
    · have hp := List.length_pos_iff.2 h
      obtain ⟨e1, e2⟩ := last_is l h (by omega)
      rw [if_pos (by omega), e1, if_pos (by omega), if_pos (by omega)]
      have e3 : ((rd_T63 l ((l.length - 1 : Nat) : Int)).f0 != 6) = !endedF l := by rw [← e2]; rfl
      rw [e3]
      exact h2
  | succ n ih =>
    intro q k l hq hn hl hX hk
    obtain ⟨k, rfl⟩ : ∃ k', k = k' + 3 := ⟨k - 3, by omega⟩
    by_cases hqs : q = s.size
    · subst hqs
      exact ih s.size (k + 3) l hq (by omega) hl hX (by omega)
    · have hlt : q < s.size := by omega
      have hlen : s.data.toList.length = s.size := by rw [Array.length_toList]; rfl
      have hd : s.data.toList.drop q = s.data.toList[q]'(by omega) :: s.data.toList.drop (q + 1) := List.drop_eq_getElem_cons (by omega)
      have hx : s.extract ((q : Int)).toNat s.size = bs (s.data.toList.drop q) := by rw [Int.toNat_natCast, extract_end]
      have hbt : bt s (q : Int) = ((s.data.toList[q]'(by omega)).toNat : Int) := by
        have := bt_bs s.data.toList q (by omega)
        rw [bs_of] at this
        exact this
      have hdl : (s.data.toList.drop q).length = s.size - q := by rw [List.length_drop, hlen]
      have hst := stepR_fits (endedF l) (s.data.toList.drop q)
      have hbk := blank_is (s.data.toList.drop q) (by omega) (by omega) (k + 2) (by omega)
      have hgs := fun m => go_skip (s := s) (q := q) (n := m) (l := l) hlt
      have hgt := fun m t0 t1 t2 => go_tok (s := s) (q := q) (n := m) (l := l) (t0 := t0) (t1 := t1) (t2 := t2) hlt
      have hgb := go_bad (s := s) (q := q) (l := l) hs hlt
      rw [hd] at hx hst hbk hgs hgt hgb hdl
      clear hd
      generalize s.data.toList[q]'(by omega) = c at *
      generalize s.data.toList.drop (q + 1) = r at *
      rw [redactorref06_Tokens.l0, if_pos (by omega), if_pos (by omega), if_pos (by omega), hx, hbk, Option.bind_some]
      by_cases hb : 0 < blankN (c :: r)
      · have hsk : stepR (endedF l) (c :: r) = .skip (blankN (c :: r)) := by
          rw [blankN_cons] at hb
          rw [stepR, blankR_cons, blankN_cons]
          by_cases h1 : c = 32 ∨ c = 9
          · rw [if_pos h1, if_pos h1]
            rfl
          · rw [if_neg h1] at hb
            rw [if_neg h1, if_neg h1]
            by_cases h2 : c = 37
            · rw [if_pos h2, if_pos h2]
              rfl
            · rw [if_neg h2] at hb
              exact absurd hb (by decide)
        obtain ⟨e1, e2, e3⟩ := hgs _ hsk
        clear hbk hsk hgs hgt hgb hst hbt
        generalize blankN (c :: r) = m at *
        have hw : wrap64 ((q : Int) + (m : Int)) = ((q + m : Nat) : Int) := by rw [IntWalk.wrap64_in _ (by omega)]; omega
        rw [if_pos (by omega), hw]
        clear hw
        exact ih _ _ l e3 (by omega) (by omega) (hX.trans e1) (by omega)
      · have hno : blankR (c :: r) = .no := by
          rw [blankN_cons] at hb
          rw [blankR_cons]
          by_cases h1 : c = 32 ∨ c = 9
          · rw [if_pos h1] at hb
            exact absurd (by decide) hb
          · rw [if_neg h1] at hb ⊢
            by_cases h2 : c = 37
            · rw [if_pos h2] at hb
              subst h2
              exact absurd (by simp [lineLen]) hb
            · rw [if_neg h2]
        have hstep : stepR (endedF l) (c :: r) = (endR (endedF l) (c :: r)).or ((signR (c :: r)).or ((quotedR (c :: r)).or ((nameR (c :: r)).or (wordR (c :: r))))) := by
          rw [stepR, hno]
          rfl
        have h0 : blankN (c :: r) = 0 := Nat.eq_zero_of_not_pos hb
        rw [h0] at hbk ⊢
        clear hbk hb
        have hj1 : redactorref06_Tokens.j1 (k + 2) s l (q : Int) (endedF l) = some (tokensF s) := by
          rw [redactorref06_Tokens.j1, hbt]
          clear hbt
          rw [if_pos (by omega), if_pos (by omega)]
          by_cases h10 : c = 10
          · rw [if_pos ((byte_lit 10 10 rfl).2 h10)]
            have hw : wrap64 ((q : Int) + 1) = ((q + 1 : Nat) : Int) := by rw [IntWalk.wrap64_in _ (by omega)]; omega
            cases he : endedF l with
            | true =>
              have h1 : stepR (endedF l) (c :: r) = .skip 1 := by
                rw [hstep, he]
                simp only [endR, if_pos h10, if_true]
                rfl
              obtain ⟨e1, e2, e3⟩ := hgs _ h1
              rw [if_pos rfl, hw]
              clear hw
              exact ih _ _ l e3 (by omega) (by omega) (hX.trans e1) (by omega)
            | false =>
              have h1 : stepR (endedF l) (c :: r) = .tok 6 (bs []) 0 1 := by
                rw [hstep, he]
                simp only [endR, if_pos h10, Bool.false_eq_true, if_false]
                rfl
              obtain ⟨e1, e2, e3⟩ := hgt _ _ _ _ h1
              rw [if_neg Bool.false_ne_true, hw]
              clear hw
              rw [if_pos (by omega)]
              exact ih _ _ _ e3 (by omega) (by rw [List.length_append, List.length_singleton]; omega) (hX.trans e1) (by omega)
          · rw [if_neg (fun e => h10 ((byte_lit 10 10 rfl).1 e)), if_pos (by omega), hx]
            obtain ⟨x, hx1, ha⟩ := one_is c r (by simp at hdl; omega) (k + 1) (by simp at hdl; omega)
            have hend : endR (endedF l) (c :: r) = .no := by simp only [endR, if_neg h10]
            rw [hend] at hstep
            rw [hx1, Option.bind_some]
            replace hstep : stepR (endedF l) (c :: r) = ((signR (c :: r)).or ((quotedR (c :: r)).or ((nameR (c :: r)).or (wordR (c :: r))))) := hstep
            rw [← hstep] at ha
            generalize hS : stepR (endedF l) (c :: r) = S at *
            match S, ha with
            | .bad, ha =>
              have ha : x.2.2.2.2 = 0 := ha
              rw [if_pos ha, hgb rfl hX]
            | .tok t0 t1 t2 m, ha =>
              obtain rfl : x = (t0, t1, t2, 0, (m : Int)) := ha
              obtain ⟨e1, e2, e3⟩ := hgt _ _ _ _ rfl
              have hw : wrap64 ((q : Int) + (m : Int)) = ((q + m : Nat) : Int) := by rw [IntWalk.wrap64_in _ (by omega)]; omega
              dsimp only
              rw [hw]
              clear hw
              have q1 : ¬ ((m : Int) = 0) := by omega
              have q2 : l.length < 3518437208883 := by omega
              rw [if_neg q1, if_pos q2]
              exact ih (q + m) (k + 1) _ e3 (by omega) (by rw [List.length_append, List.length_singleton]; omega) (hX.trans e1) (by omega)
        clear hbt
        rw [if_neg (by omega)]
        by_cases h : l = []
        · subst h
          rw [if_pos (by simp)]
          exact hj1
        · have hp := List.length_pos_iff.2 h
          obtain ⟨e1, e2⟩ := last_is l h (by omega)
          rw [if_neg (by omega), e1, if_pos (by omega), if_pos (by omega), e2]
          exact hj1
theorem ref_is (s : ByteArray) (k : Nat) (hk : 20000 ≤ k) : redactorref06_Tokens.f k s = some (tokensF s) := by
  unfold redactorref06_Tokens.f
  by_cases h : 4000 < s.size
  · rw [if_pos (by omega)]
    unfold tokensF
    rw [if_pos h]
  · rw [if_neg (by omega)]
    exact ref_loop s h s.size 0 k [] (Nat.zero_le _) (by omega) (Nat.le_refl _) rfl (by omega)

/-! ### alike lists -/
theorem same_loop (l : List Tok) (hl : l.length ≤ 1000000) (n : Nat) : ∀ (i k : Nat), i + n = l.length → n + 1 ≤ k → redactorref06_Same.l0 k l l (i : Int) = some true := by
  induction n with
  | zero =>
    intro i k hi hk
    obtain ⟨k, rfl⟩ : ∃ k', k = k' + 1 := ⟨k - 1, by omega⟩
    rw [redactorref06_Same.l0, if_neg (by omega)]
  | succ n ih =>
    intro i k hi hk
    obtain ⟨k, rfl⟩ : ∃ k', k = k' + 1 := ⟨k - 1, by omega⟩
    have hw : wrap64 ((i : Int) + 1) = ((i + 1 : Nat) : Int) := by rw [IntWalk.wrap64_in _ (by omega)]; omega
    rw [redactorref06_Same.l0]
    simp only [show (i : Int) < (l.length : Int) by omega, show (0 : Int) ≤ i by omega, if_true, hw, ih (i + 1) k (by omega) (by omega)]
theorem exact_loop (l : List Tok) (hl : l.length ≤ 1000000) (n : Nat) : ∀ (i k : Nat), i + n = l.length → 2 * n + l.length + 4 ≤ k → redactorref06_Exact.l0 k l l (i : Int) = some true := by
  induction n with
  | zero =>
    intro i k hi hk
    obtain ⟨k, rfl⟩ : ∃ k', k = k' + 2 := ⟨k - 2, by omega⟩
    rw [redactorref06_Exact.l0, if_neg (by omega), redactorref06_Exact.j1, if_neg Bool.false_ne_true]
    unfold redactorref06_Same.f
    rw [if_pos rfl, show (0 : Int) = ((0 : Nat) : Int) from rfl, same_loop l hl l.length 0 k (by omega) (by omega)]
    rfl
  | succ n ih =>
    intro i k hi hk
    obtain ⟨k, rfl⟩ : ∃ k', k = k' + 2 := ⟨k - 2, by omega⟩
    have hw : wrap64 ((i : Int) + 1) = ((i + 1 : Nat) : Int) := by rw [IntWalk.wrap64_in _ (by omega)]; omega
    have hlt : (i : Int) < (l.length : Int) := by omega
    have e : decide ((i : Int) < (l.length : Int)) = true := decide_eq_true hlt
    rw [redactorref06_Exact.l0, if_pos hlt, e, redactorref06_Exact.j1, if_pos rfl]
    simp only [hlt, show (0 : Int) ≤ i by omega, if_true, hw, ih (i + 1) k (by omega) (by omega)]
theorem tokensF_len (s : ByteArray) : (tokensF s).1.length ≤ 1000 := by
  unfold tokensF
  split
  · exact Nat.zero_le _
  · split
    · exact Nat.zero_le _
    · split
      · exact Nat.zero_le _
      · rename_i h
        exact Nat.le_of_not_lt h
theorem tokensF_errs (s : ByteArray) : wrap64 (tokensF s).2.1 = (tokensF s).2.1 := by
  have h : (tokensF s).2.1 = 0 ∨ (tokensF s).2.1 = 3 ∨ (tokensF s).2.1 = 20 := by
    unfold tokensF
    split
    · exact .inr (.inl rfl)
    · split
      · exact .inr (.inr rfl)
      · split
        · exact .inr (.inl rfl)
        · exact .inl rfl
  exact IntWalk.wrap64_in _ (by omega)
theorem tmod_nat (a : Int) (n : Nat) (h0 : 0 ≤ a) (hn : 0 < n) : ∃ m : Nat, Int.tmod a (n : Int) = (m : Int) ∧ m < n := by
  obtain ⟨b, rfl⟩ := Int.eq_ofNat_of_zero_le h0
  exact ⟨b % n, rfl, Nat.mod_lt _ hn⟩
theorem tells_is (s : ByteArray) (k : Nat) (hk : 20000 ≤ k) : redactorlaw06_tells.f k s = some true := by
  have hl := tokensF_len s
  have h1 : lex_Tokens.f s = some (tokensF s) := rfl
  unfold redactorlaw06_tells.f
  rw [h1, Option.bind_some, ref_is s k hk, Option.bind_some]
  unfold redactorref06_Exact.f
  rw [show (0 : Int) = ((0 : Nat) : Int) from rfl, exact_loop (tokensF s).1 (by omega) (tokensF s).1.length 0 k (by omega) (by omega), Option.bind_some, if_pos rfl, tokensF_errs, if_pos rfl]
  simp

theorem LexTokens : redactorlaw06_LexTokens.Pure := by
  intro a0 l1 a2 a3 hs hl hl1 hx h2 h3
  have hx' := u8_range l1 hx
  obtain ⟨K, hK⟩ : ∃ K : Nat, 20000 ≤ K := ⟨20000, Nat.le_refl _⟩
  refine ⟨K + 1, ?_⟩
  unfold redactorlaw06_LexTokens.f
  by_cases hlong : (a0.size : Int) > 300
  · rw [if_pos hlong, redactorlaw06_LexTokens.j0, if_pos rfl, known_true]
    rfl
  · have ht := text_is l1 hx' K (by omega)
    have htl := textI_len l1 40 0
    have r2 : 0 ≤ a2 ∧ a2 ≤ 65535 := by simpa [Lit.wf, IntKind.min, IntKind.max, IntKind.signed, IntKind.bits] using h2
    rw [if_neg hlong, known_true, Option.bind_some, redactorlaw06_LexTokens.j0, if_neg (by simp), ht, Option.bind_some, tells_is a0 K hK, Option.bind_some, if_pos rfl, tells_is _ K hK, Option.bind_some]
    have hz : (bs (textI l1 40 0)).size ≤ 360 := by rw [bs_size]; omega
    generalize bs (textI l1 40 0) = t at *
    by_cases h0 : (t.size : Int) > 0
    · obtain ⟨m, hm, hm1⟩ := tmod_nat a2 t.size r2.1 (by omega)
      have e1 : wrap64 a2 = a2 := by
        clear hm
        exact IntWalk.wrap64_in _ (by omega)
      have HM := Aside0.mk hm
      have HE := Aside0.mk e1
      clear hm e1
      have z1 : (t.extract 0 m).size ≤ 360 := by rw [extract_bs, bs_size, List.length_take]; omega
      have z2 : (t.extract (m + 1) t.size).size ≤ 360 := by rw [extract_end, bs_size, List.length_drop, Array.length_toList]; exact Nat.le_trans (Nat.sub_le _ _) hz
      have z3 : (strOfNums ([a3] : List Int)).size ≤ 1 := Nat.le_refl 1
      have hw : wrap64 ((m : Int) + 1) = ((m + 1 : Nat) : Int) := by
        rw [IntWalk.wrap64_in _ (by omega)]
        omega
      rw [if_pos h0, HE.out, HM.out, Option.bind_some, hw, Int.toNat_natCast, Int.toNat_natCast]
      clear HM HE hw
      have c1 : ¬ ((t.size : Int) = 0) := by omega
      have c2 : (0 : Int) ≤ m := by omega
      have c3 : (m : Int) ≤ t.size := by omega
      have c4 : (t.extract 0 m).size + (strOfNums ([a3] : List Int)).size ≤ 9223372036854775807 := by omega
      have c5 : (0 : Int) ≤ ((m + 1 : Nat) : Int) := by omega
      have c6 : ((m + 1 : Nat) : Int) ≤ t.size := by omega
      have c7 : ((t.extract 0 m) ++ (strOfNums ([a3] : List Int))).size + (t.extract (m + 1) t.size).size ≤ 9223372036854775807 := by rw [ByteArray.size_append]; omega
      rw [if_neg c1, if_pos c2, if_pos c3, if_pos c4, if_pos c5, if_pos c6, if_pos c7, if_pos rfl, tells_is _ K hK]
      rfl
    · rw [if_neg h0, if_pos rfl]
      rfl
end Go.Proofs.YtipmmkelialgkaaGreatDoor.Pure
