/- LexNames, in plain words: words and a name of signs of a word. -/
import Derived.Test.YtipmmkelialgkaaDoorPLexx3
import Derived.Test.YtipmmkelialgkaaDoorPureKnown
import Derived.Test.YtipmmkelialgkaaDoorPureText
set_option linter.unusedVariables false
set_option linter.unusedSimpArgs false
namespace Go.Proofs.YtipmmkelialgkaaDoor.Pure
open Go.RowKit Go.Lib Go.Proofs.YtipmmkelialgkaaDoor.PLex Go.Proofs.YtipmmkelialgkaaDoorW.PrintWords Go.Proofs.YtipmmkelialgkaaDoorW.PrintLast Go.Proofs.YtipmmkelialgkaaDoor.Lex

theorem names_lex (W : List UInt8) (hn : W ≠ []) (hW : ∀ x ∈ W, wordN x.toNat = true) (hs : scalarR W = none) (hl : W.length ≤ 1000) :
    tokensF (bs (W ++ (60 :: (W ++ 62 :: W)))) = ([(⟨1, bs W, 0, 0⟩ : S25), ⟨5, bs W, 0, W.length⟩, ⟨1, bs W, 0, 2 * W.length + 2⟩, ⟨6, bs [], 0, 3 * W.length + 2⟩], 0, 0) := by
  have hlen : (W ++ (60 :: (W ++ 62 :: W))).length = 3 * W.length + 2 := by simp; omega
  rw [tokensF_bs _ (by omega)]
  have h1 : lexN (W ++ (60 :: (W ++ 62 :: W))) 0 [] = .inl [(⟨1, bs W, 0, 0⟩ : S25), ⟨5, bs W, 0, W.length⟩, ⟨1, bs W, 0, 2 * W.length + 2⟩] := by
    rw [lexN_tok W _ 0 [] hn (stepR_word _ W _ hn hW (fun c r h => by injection h with h; rw [← h]; decide))]
    have e : (60 :: (W ++ 62 :: W)) = (60 :: (W ++ [62])) ++ W := by simp
    have es : stepR (endedF ([] ++ [(⟨1, bs W, 0, 0⟩ : S25)])) ((60 :: (W ++ [62])) ++ W) = .tok 5 (bs W) 0 (60 :: (W ++ [62])).length := by
      have := stepR_name (endedF ([] ++ [(⟨1, bs W, 0, 0⟩ : S25)])) W W hn hW hs
      rw [← e, this]
      congr 1
      simp
    rw [e, lexN_tok _ W _ _ (by simp) es]
    have e2 : W = W ++ [] := by simp
    have es2 : ∀ b, stepR b (W ++ []) = .tok 1 (bs W) 0 W.length := fun b => stepR_word b W [] hn hW (fun c r h => nomatch h)
    conv => lhs; arg 1; rw [e2]
    rw [lexN_tok W [] _ _ hn (es2 _), lexN_nil]
    congr 1
    simp only [List.nil_append, List.cons_append, List.length_cons, List.length_append, List.length_nil, Int.zero_add]
    have e3 : ((W.length : Int) + ((W.length + (0 + 1) + 1 : Nat) : Int)) = 2 * W.length + 2 := by omega
    rw [e3]
  rw [h1]
  simp only [closeF, hlen]
  have e4 : ((3 * W.length + 2 : Nat) : Int) = 3 * (W.length : Int) + 2 := by omega
  rw [e4]
  rfl

theorem size_add (a b : ByteArray) : (a ++ b).size = a.size + b.size := ByteArray.size_append
theorem lits (a : List UInt8) : (⟨a.toArray⟩ : ByteArray) = bs a := rfl

theorem names_end (T : List UInt8) (hT : ∀ x ∈ T, wordN x.toNat = true) (h0 : T.head? = some 122) (hl : T.length ≤ 41) (k : Nat) : redactorlaw06_LexNames.j1 (k + 1) (bs T) = some true := by
  have hn : T ≠ [] := fun e => by rw [e] at h0; exact nomatch h0
  have hs : scalarR T = none := by
    match T, h0 with
    | c :: t, h0 =>
      injection h0 with h0
      subst h0
      rfl
  have hz : (bs T).size = T.length := bs_size T
  have z1 : (⟨#[60]⟩ : ByteArray) = bs [60] := rfl
  have z2 : (⟨#[62]⟩ : ByteArray) = bs [62] := rfl
  simp only [redactorlaw06_LexNames.j1]
  rw [z1, z2]
  simp only [bs_add, bs_size, List.length_append, List.length_cons, List.length_nil]
  rw [if_pos (by omega), if_pos (by omega), if_pos (by omega), if_pos (by omega)]
  have e : T ++ [60] ++ T ++ [62] ++ T = T ++ (60 :: (T ++ 62 :: T)) := by simp
  rw [e]
  have ht : lex_Tokens.f (bs (T ++ (60 :: (T ++ 62 :: T)))) = some (tokensF (bs (T ++ (60 :: (T ++ 62 :: T))))) := rfl
  have hw : wrap64 (wrap64 (2 * (T.length : Int)) + 2) = 2 * T.length + 2 := by
    have w1 : wrap64 (2 * (T.length : Int)) = 2 * T.length := IntWalk.wrap64_in _ (by omega)
    rw [w1]
    exact IntWalk.wrap64_in _ (by omega)
  rw [ht, Option.bind_some, names_lex T hn hT hs (by omega), known_true, hw]
  simp [rd_T25]

theorem alph (d : Nat) (h : d < 10) : ∃ c : UInt8, wordN c.toNat = true ∧ (⟨#[97, 98, 122, 65, 90, 48, 49, 57, 45, 95]⟩ : ByteArray).extract d (d + 1) = bs [c] := by
  have : ((List.range 10).all fun d => match (⟨#[97, 98, 122, 65, 90, 48, 49, 57, 45, 95]⟩ : ByteArray).data.toList[d]? with | some c => wordN c.toNat | none => false) = true := by decide
  have h1 := List.all_eq_true.1 this d (List.mem_range.2 h)
  have hl : d < (⟨#[97, 98, 122, 65, 90, 48, 49, 57, 45, 95]⟩ : ByteArray).data.toList.length := h
  rw [List.getElem?_eq_getElem hl] at h1
  refine ⟨_, h1, ?_⟩
  rw [extract_bs, List.drop_eq_getElem_cons hl, Nat.add_sub_cancel_left]
  rfl

theorem names_stop (x0 : List Int) (i : Nat) (T : List UInt8) (k : Nat) (h : ¬ (i < x0.length ∧ i < 40)) : redactorlaw06_LexNames.l0 (k + 1) x0 (bs T) i = redactorlaw06_LexNames.j1 k (bs T) := by
  rw [redactorlaw06_LexNames.l0]
  by_cases h1 : (i : Int) < x0.length
  · rw [if_pos h1, if_neg (by omega)]
  · rw [if_neg h1]
theorem names_step (x0 : List Int) (hx : ∀ x ∈ x0, 0 ≤ x ∧ x ≤ 255) (i : Nat) (T : List UInt8) (k : Nat) (hlt : i < x0.length) (hi : i < 40) (hT : T.length = i + 1) :
    ∃ c : UInt8, wordN c.toNat = true ∧ redactorlaw06_LexNames.l0 (k + 1) x0 (bs T) i = redactorlaw06_LexNames.l0 k x0 (bs (T ++ [c])) ((i + 1 : Nat) : Int) := by
  have h1 : (i : Int) < x0.length := by omega
  have hv : rd x0 (i : Int) = x0[i] := by simp [rd, List.getElem?_eq_getElem hlt]
  obtain ⟨v0, v1⟩ := hx x0[i] (List.getElem_mem hlt)
  rw [redactorlaw06_LexNames.l0, if_pos h1, if_pos (by omega), hv]
  generalize x0[i] = v at v0 v1 ⊢
  obtain ⟨d, hd⟩ : ∃ d, d = v.toNat % 10 := ⟨_, rfl⟩
  have hm : Int.tmod v 10 = (d : Int) := by
    rw [Int.tmod_eq_emod_of_nonneg v0]
    omega
  have d10 : d < 10 := by omega
  have hm2 : ((d : Int) + 1) % 256 = ((d + 1 : Nat) : Int) := by omega
  obtain ⟨c, hc, he⟩ := alph d d10
  have hwi : wrap64 ((i : Int) + 1) = ((i + 1 : Nat) : Int) := by rw [IntWalk.wrap64_in _ (by omega)]; omega
  have c1 : (0 : Int) ≤ (d : Int) := Int.natCast_nonneg d
  have c2 : (d : Int) ≤ ((d + 1 : Nat) : Int) := Int.ofNat_le.2 (Nat.le_succ d)
  have c3 : ((d + 1 : Nat) : Int) ≤ 10 := Int.ofNat_le.2 d10
  have c5 : T.length + [c].length ≤ 9223372036854775807 := by rw [List.length_singleton, hT]; clear hm hm2 hd he; omega
  refine ⟨c, hc, ?_⟩
  rw [hm, hm2, if_pos c1, if_pos (Int.natCast_nonneg i), if_pos c2, if_pos c3, Int.toNat_natCast, Int.toNat_natCast, he, hwi, bs_size, bs_size, bs_add]
  rw [if_pos c5]
theorem names_loop (x0 : List Int) (hx : ∀ x ∈ x0, 0 ≤ x ∧ x ≤ 255) (n : Nat) : ∀ (i : Nat) (T : List UInt8) (k : Nat), i + n = 40 → n + 2 ≤ k → T.length = i + 1 → (∀ c ∈ T, wordN c.toNat = true) → T.head? = some 122 → redactorlaw06_LexNames.l0 k x0 (bs T) i = some true := by
  induction n with
  | zero =>
    intro i T k hi hk hl hT h0
    obtain ⟨k, rfl⟩ : ∃ k', k = k' + 2 := ⟨k - 2, by omega⟩
    rw [names_stop x0 i T (k + 1) (by omega)]
    exact names_end T hT h0 (by omega) k
  | succ n ih =>
    intro i T k hi hk hl hT h0
    obtain ⟨k, rfl⟩ : ∃ k', k = k' + 2 := ⟨k - 2, by omega⟩
    by_cases hlt : i < x0.length
    · obtain ⟨c, hc, he⟩ := names_step x0 hx i T (k + 1) hlt (by omega) hl
      rw [he]
      refine ih (i + 1) (T ++ [c]) (k + 1) (by omega) (by omega) (by simp; omega) (fun y hy => ?_) ?_
      · rcases List.mem_append.1 hy with hy | hy
        · exact hT y hy
        · rw [List.mem_singleton.1 hy]
          exact hc
      · match T, h0 with
        | a :: t, h0 => exact h0
    · rw [names_stop x0 i T (k + 1) (by omega)]
      exact names_end T hT h0 (by omega) k

theorem LexNames : redactorlaw06_LexNames.Pure := by
  intro l0 _ _ hw
  refine ⟨42, ?_⟩
  exact names_loop l0 (u8_range l0 hw) 40 0 [122] 42 (by omega) (by omega) rfl (fun c hc => by rw [List.mem_singleton.1 hc]; decide) rfl
end Go.Proofs.YtipmmkelialgkaaDoor.Pure
