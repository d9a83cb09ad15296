/- Plain facts on the lexer's rounds: whole texts, piece by piece. -/
import Derived.Test.YtipmmkelialgkaaDoorLexLoop
set_option linter.unusedVariables false
set_option linter.unusedSimpArgs false
namespace Go.Proofs.YtipmmkelialgkaaDoor.Lex
open Go.Lib

/-- The rounds over what is left, as many as it takes. -/
def lexN (r : List UInt8) (p : Int) (l : List Tok) : List Tok ⊕ Int := lexF r.length r p l
theorem lexN_nil (p : Int) (l : List Tok) : lexN [] p l = .inl l := rfl
theorem lexN_skip (A R : List UInt8) (p : Int) (l : List Tok) (hA : A ≠ []) (h : stepR (endedF l) (A ++ R) = .skip A.length) : lexN (A ++ R) p l = lexN R (p + A.length) l := by
  match A, hA with
  | c :: t, _ =>
    show lexF ((c :: t) ++ R).length ((c :: t) ++ R) p l = _
    simp only [List.cons_append, List.length_cons, lexF]
    rw [List.cons_append] at h
    rw [h]
    dsimp only
    have e : (c :: (t ++ R)).drop (c :: t).length = R := by
      rw [← List.cons_append]
      exact List.drop_left
    rw [e]
    exact lexF_any _ _ _ _ _ (by rw [List.length_append]; omega) (Nat.le_refl _)
theorem lexN_tok (A R : List UInt8) (p : Int) (l : List Tok) {t0 : Int} {t1 : ByteArray} {t2 : Int} (hA : A ≠ []) (h : stepR (endedF l) (A ++ R) = .tok t0 t1 t2 A.length) : lexN (A ++ R) p l = lexN R (p + A.length) (l ++ [(⟨t0, t1, t2, p⟩ : Tok)]) := by
  match A, hA with
  | c :: t, _ =>
    show lexF ((c :: t) ++ R).length ((c :: t) ++ R) p l = _
    simp only [List.cons_append, List.length_cons, lexF]
    rw [List.cons_append] at h
    rw [h]
    dsimp only
    have e : (c :: (t ++ R)).drop (c :: t).length = R := by
      rw [← List.cons_append]
      exact List.drop_left
    rw [e]
    exact lexF_any _ _ _ _ _ (by rw [List.length_append]; omega) (Nat.le_refl _)
theorem lexN_bad (r : List UInt8) (p : Int) (l : List Tok) (hr : r ≠ []) (h : stepR (endedF l) r = .bad) : lexN r p l = .inr p := by
  match r, hr with
  | c :: t, _ =>
    show lexF (c :: t).length (c :: t) p l = _
    simp only [List.length_cons, lexF]
    rw [h]
theorem tokensF_bs (L : List UInt8) (h : L.length ≤ 4000) : tokensF (bs L) = match lexN L 0 [] with
    | .inr p => ([], 20, p)
    | .inl l => if 1000 < (closeF l L.length).length then ([], 3, 0) else (closeF l L.length, 0, 0) := by
  have hz : (bs L).size = L.length := bs_size L
  have hs : ¬ 4000 < (bs L).size := by rw [hz]; omega
  simp only [tokensF, if_neg hs]
  rw [hz, bs_list]
  rfl

/-- A sign of a word is none of the others. -/
theorem stepR_wsign (e : Bool) (c : UInt8) (t : List UInt8) (h : wordN c.toNat = true) : stepR e (c :: t) = wordR (c :: t) := by
  have hne : ∀ d : UInt8, wordN d.toNat = false → c ≠ d := fun d hd e => by rw [e, hd] at h; exact nomatch h
  have n32 := hne 32 (by decide)
  have n9 := hne 9 (by decide)
  have n37 := hne 37 (by decide)
  have n10 := hne 10 (by decide)
  have n46 := hne 46 (by decide)
  have n59 := hne 59 (by decide)
  have n44 := hne 44 (by decide)
  have n40 := hne 40 (by decide)
  have n41 := hne 41 (by decide)
  have n34 := hne 34 (by decide)
  have n60 := hne 60 (by decide)
  have h1 : blankR (c :: t) = .no := by simp [blankR, n32, n9, n37]
  have h2 : endR e (c :: t) = .no := by simp [endR, n10]
  have h3 : signR (c :: t) = .no := by
    have hp : hasPrefix (c :: t) [46, 46, 46] = false := by
      simp [hasPrefix, List.isPrefixOf]
      intro e
      exact absurd e.symm n46
    simp [signR, hp, n59, n44, n40, n41]
  have h4 : quotedR (c :: t) = .no := by simp [quotedR, n34]
  have h5 : nameR (c :: t) = .no := by simp [nameR, n60]
  simp only [stepR, h1, h2, h3, h4, h5, Res.or]
theorem wlen_all : ∀ (W : List UInt8), (∀ x ∈ W, wordN x.toNat = true) → wlen W = W.length
  | [], _ => rfl
  | x :: W, hW => by simp [wlen, hW x List.mem_cons_self, wlen_all W (fun y hy => hW y (List.mem_cons_of_mem _ hy))]
theorem wlen_stopped : ∀ (W t : List UInt8), (∀ x ∈ W, wordN x.toNat = true) → (∀ c r, t = c :: r → wordN c.toNat = false) → wlen (W ++ t) = W.length
  | [], [], _, _ => rfl
  | [], c :: r, _, ht => by simp [wlen, ht c r rfl]
  | x :: W, t, hW, ht => by
    have h1 := hW x List.mem_cons_self
    have h2 := wlen_stopped W t (fun y hy => hW y (List.mem_cons_of_mem _ hy)) ht
    simp [wlen, h1, h2]
/-- A word, then none of its signs. -/
theorem stepR_word (e : Bool) (W t : List UInt8) (hn : W ≠ []) (hW : ∀ x ∈ W, wordN x.toNat = true) (ht : ∀ c r, t = c :: r → wordN c.toNat = false) : stepR e (W ++ t) = .tok 1 (bs W) 0 W.length := by
  have hw := wlen_stopped W t hW ht
  match W, hn with
  | c :: r, _ =>
    rw [List.cons_append, stepR_wsign e c _ (hW c List.mem_cons_self), ← List.cons_append]
    unfold wordR
    rw [hw, if_neg (by simp)]
    congr 1
    rw [List.take_left' rfl]
/-- A name in its hooks. -/
theorem stepR_name (e : Bool) (W t : List UInt8) (hn : W ≠ []) (hW : ∀ x ∈ W, wordN x.toNat = true) (hs : scalarR W = none) : stepR e (60 :: (W ++ 62 :: t)) = .tok 5 (bs W) 0 (W.length + 2) := by
  have hw := wlen_stopped W (62 :: t) hW (fun c r h => by injection h with h; rw [← h]; decide)
  have h1 : blankR (60 :: (W ++ 62 :: t)) = .no := by simp [blankR]
  have h2 : endR e (60 :: (W ++ 62 :: t)) = .no := by simp [endR]
  have h3 : signR (60 :: (W ++ 62 :: t)) = .no := by simp [signR, hasPrefix, List.isPrefixOf]
  have h4 : quotedR (60 :: (W ++ 62 :: t)) = .no := by simp [quotedR]
  have hl : 0 < W.length := List.length_pos_iff.2 hn
  have h5 : nameR (60 :: (W ++ 62 :: t)) = .tok 5 (bs W) 0 (W.length + 2) := by
    simp only [nameR, hw]
    rw [if_pos trivial, if_pos ⟨by omega, by simp⟩, List.take_left' rfl, hs]
  simp only [stepR, h1, h2, h3, h4, h5, Res.or]
end Go.Proofs.YtipmmkelialgkaaDoor.Lex
