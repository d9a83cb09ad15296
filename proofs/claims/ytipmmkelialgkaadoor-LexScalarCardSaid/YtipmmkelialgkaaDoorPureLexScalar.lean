/- LexScalar, in plain words: a scalar printed and read again. -/
import Derived.Test.YtipmmkelialgkaaDoorPLexx1
import Derived.Test.YtipmmkelialgkaaDoorLexFacts
set_option linter.unusedVariables false
set_option linter.unusedSimpArgs false
namespace Go.Proofs.YtipmmkelialgkaaDoor.Pure
open Go.RowKit Go.Lib Go.Proofs.YtipmmkelialgkaaDoor.PLex Go.Proofs.YtipmmkelialgkaaDoorW.PrintWords Go.Proofs.YtipmmkelialgkaaDoorW.PrintLast Go.Proofs.YtipmmkelialgkaaDoor.Lex

theorem scalar_text (n : Nat) : Lex.printF [(⟨3, (⟨#[]⟩ : ByteArray), n, 0⟩ : S25)] = 60 :: 85 :: (digitsF n ++ 62 :: [32]) := by
  simp [printF, pieceF, digitsF]
theorem scalar_lex (n : Nat) (h : n < 16777216) : tokensF (bs (60 :: 85 :: (digitsF n ++ 62 :: [32]))) = if rightN n then ([(⟨3, bs [], n, 0⟩ : S25), ⟨6, bs [], 0, ((digitsF n).length + 4 : Nat)⟩], 0, 0) else ([], 20, 0) := by
  have hl := digitsF_len n h
  have hz : (bs (60 :: 85 :: (digitsF n ++ 62 :: [32]))).size = (digitsF n).length + 4 := by rw [bs_size]; simp
  have hs : ¬ 4000 < (bs (60 :: 85 :: (digitsF n ++ 62 :: [32]))).size := by rw [hz]; omega
  simp only [tokensF, if_neg hs]
  rw [hz, bs_list]
  have h1 : lexF ((digitsF n).length + 4) (60 :: 85 :: (digitsF n ++ 62 :: [32])) 0 [] = if rightN n then .inl [(⟨3, bs [], n, 0⟩ : S25)] else .inr 0 := by
    simp only [lexF]
    rw [stepR_hook, nameR_scalar n h]
    cases rightN n with
    | false => rfl
    | true =>
      simp only [if_true, Res.or]
      have hd : (60 :: 85 :: (digitsF n ++ 62 :: [32])).drop ((digitsF n).length + 3) = [32] := by
        rw [show (60 :: 85 :: (digitsF n ++ 62 :: [32])) = (60 :: 85 :: (digitsF n ++ [62])) ++ [32] by simp]
        rw [List.drop_append_of_le_length (by simp)]
        rw [List.drop_of_length_le (by simp)]
        rfl
      rw [hd]
      have e : (digitsF n).length + 3 = ((digitsF n).length + 1) + 1 + 1 := by omega
      rw [e]
      simp only [lexF, stepR_space, List.drop_succ_cons, List.drop_zero, List.drop_nil, List.nil_append]
  rw [h1]
  cases rightN n with
  | false => rfl
  | true => simp [closeF, endedF]

theorem known_true : redactorlaw06_known.f = some true := by
  kernel_rfl

theorem LexScalar : redactorlaw06_LexScalar.Pure := by
  intro a0 h0
  have hr : 0 ≤ a0 ∧ a0 ≤ 4294967295 := by simpa [Lit.wf, IntKind.min, IntKind.max, IntKind.signed, IntKind.bits] using h0
  obtain ⟨n, hn, hlt⟩ : ∃ n : Nat, wrap64 (Int.tmod a0 1179648) = (n : Int) ∧ n < 1179648 := by
    have e : Int.tmod a0 1179648 = a0 % 1179648 := Int.tmod_eq_emod_of_nonneg hr.1
    refine ⟨(a0 % 1179648).toNat, ?_, by omega⟩
    rw [e, IntWalk.wrap64_in _ (by omega)]
    omega
  have hp : lex_Print.f [(⟨3, (⟨#[]⟩ : ByteArray), (n : Int), 0⟩ : S25)] = some (bs (60 :: 85 :: (digitsF n ++ 62 :: [32]))) := by
    have hl := digitsF_len n (by omega)
    unfold lex_Print.f
    rw [scalar_text, if_pos]
    refine ⟨by simp, by simp; omega, ?_⟩
    simp only [List.all_cons, List.all_nil, Bool.and_true, decide_eq_true_eq]
    omega
  have ht : lex_Tokens.f (bs (60 :: 85 :: (digitsF n ++ 62 :: [32]))) = some (tokensF (bs (60 :: 85 :: (digitsF n ++ 62 :: [32])))) := rfl
  have hright : redactorref01_Right.f (wrap32 (n : Int)) = some (rightN n) := by
    have e : wrap32 (n : Int) = n := by rw [IntWalk.wrap32_in _ (by omega)]
    rw [e]
    unfold redactorref01_Right.f rightN
    have a1 : (n : Int) ≥ -256 := by omega
    rw [if_pos a1]
    by_cases a2 : n < 55296
    · rw [if_pos (by omega)]
      simp [a2]; omega
    · rw [if_neg (by omega)]
      by_cases a3 : 57343 < n
      · rw [if_pos (by omega)]
        simp [a3]; omega
      · rw [if_neg (by omega)]
        simp [a2, a3]
  unfold redactorlaw06_LexScalar.f
  rw [hn, hp, Option.bind_some, ht, Option.bind_some, hright, Option.bind_some, known_true, scalar_lex n (by omega)]
  cases rightN n with
  | false => rfl
  | true => simp [rd_T25]
end Go.Proofs.YtipmmkelialgkaaDoor.Pure
