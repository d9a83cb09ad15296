/- Text: tokens, as choices say, in plain words. -/
import Derived.Test.YtipmmkelialgkaaGreatDoorLexLoop
import Derived.Test.YtipmmkelialgkaaGreatDoorPLexx1
set_option linter.unusedVariables false
set_option linter.unusedSimpArgs false
namespace Go.Proofs.YtipmmkelialgkaaGreatDoor.Lex
open Go.Lib

/-- The rounds over what is left, as many as it takes. -/
def lexN (r : List UInt8) (p : Int) (l : List Tok) : List Tok ⊕ Int := lexF r.length r p l
theorem lexN_nil (p : Int) (l : List Tok) : lexN [] p l = .inl l := rfl
theorem lexN_skip (A R : List UInt8) (p : Int) (l : List Tok) (hA : A ≠ []) (h : stepR (endedF l) (A ++ R) = .skip A.length) : lexN (A ++ R) p l = lexN R (p + A.length) l := by
  match A, hA with
  | c :: t, _ =>
    show lexF ((c :: t) ++ R).length ((c :: t) ++ R) p l = _
    simp only [List.cons_append, List.length_cons, lexF]
    rw [List.cons_append] at h
    rw [h]
    dsimp only
    have e : (c :: (t ++ R)).drop (c :: t).length = R := by
      rw [← List.cons_append]
      exact List.drop_left
    rw [e]
    exact lexF_any _ _ _ _ _ (by rw [List.length_append]; omega) (Nat.le_refl _)
theorem lexN_tok (A R : List UInt8) (p : Int) (l : List Tok) {t0 : Int} {t1 : ByteArray} {t2 : Int} (hA : A ≠ []) (h : stepR (endedF l) (A ++ R) = .tok t0 t1 t2 A.length) : lexN (A ++ R) p l = lexN R (p + A.length) (l ++ [(⟨t0, t1, t2, p⟩ : Tok)]) := by
  match A, hA with
  | c :: t, _ =>
    show lexF ((c :: t) ++ R).length ((c :: t) ++ R) p l = _
    simp only [List.cons_append, List.length_cons, lexF]
    rw [List.cons_append] at h
    rw [h]
    dsimp only
    have e : (c :: (t ++ R)).drop (c :: t).length = R := by
      rw [← List.cons_append]
      exact List.drop_left
    rw [e]
    exact lexF_any _ _ _ _ _ (by rw [List.length_append]; omega) (Nat.le_refl _)
theorem lexN_bad (r : List UInt8) (p : Int) (l : List Tok) (hr : r ≠ []) (h : stepR (endedF l) r = .bad) : lexN r p l = .inr p := by
  match r, hr with
  | c :: t, _ =>
    show lexF (c :: t).length (c :: t) p l = _
    simp only [List.length_cons, lexF]
    rw [h]
theorem tokensF_bs (L : List UInt8) (h : L.length ≤ 4000) : tokensF (bs L) = match lexN L 0 [] with
    | .inr p => ([], 20, p)
    | .inl l => if 1000 < (closeF l L.length).length then ([], 3, 0) else (closeF l L.length, 0, 0) := by
  have hz : (bs L).size = L.length := bs_size L
  have hs : ¬ 4000 < (bs L).size := by rw [hz]; omega
  simp only [tokensF, if_neg hs]
  rw [hz, bs_list]
  rfl

/-- A sign of a word is none of the others. -/
theorem stepR_wsign (e : Bool) (c : UInt8) (t : List UInt8) (h : wordN c.toNat = true) : stepR e (c :: t) = wordR (c :: t) := by
  have hne : ∀ d : UInt8, wordN d.toNat = false → c ≠ d := fun d hd e => by rw [e, hd] at h; exact nomatch h
  have n32 := hne 32 (by decide)
  have n9 := hne 9 (by decide)
  have n37 := hne 37 (by decide)
  have n10 := hne 10 (by decide)
  have n46 := hne 46 (by decide)
  have n59 := hne 59 (by decide)
  have n44 := hne 44 (by decide)
  have n40 := hne 40 (by decide)
  have n41 := hne 41 (by decide)
  have n34 := hne 34 (by decide)
  have n60 := hne 60 (by decide)
  have h1 : blankR (c :: t) = .no := by simp [blankR, n32, n9, n37]
  have h2 : endR e (c :: t) = .no := by simp [endR, n10]
  have h3 : signR (c :: t) = .no := by
    have hp : hasPrefix (c :: t) [46, 46, 46] = false := by
      simp [hasPrefix, List.isPrefixOf]
      intro e
      exact absurd e.symm n46
    simp [signR, hp, n59, n44, n40, n41]
  have h4 : quotedR (c :: t) = .no := by simp [quotedR, n34]
  have h5 : nameR (c :: t) = .no := by simp [nameR, n60]
  simp only [stepR, h1, h2, h3, h4, h5, Res.or]
theorem wlen_all : ∀ (W : List UInt8), (∀ x ∈ W, wordN x.toNat = true) → wlen W = W.length
  | [], _ => rfl
  | x :: W, hW => by simp [wlen, hW x List.mem_cons_self, wlen_all W (fun y hy => hW y (List.mem_cons_of_mem _ hy))]
theorem wlen_stopped : ∀ (W t : List UInt8), (∀ x ∈ W, wordN x.toNat = true) → (∀ c r, t = c :: r → wordN c.toNat = false) → wlen (W ++ t) = W.length
  | [], [], _, _ => rfl
  | [], c :: r, _, ht => by simp [wlen, ht c r rfl]
  | x :: W, t, hW, ht => by
    have h1 := hW x List.mem_cons_self
    have h2 := wlen_stopped W t (fun y hy => hW y (List.mem_cons_of_mem _ hy)) ht
    simp [wlen, h1, h2]
/-- A word, then none of its signs. -/
theorem stepR_word (e : Bool) (W t : List UInt8) (hn : W ≠ []) (hW : ∀ x ∈ W, wordN x.toNat = true) (ht : ∀ c r, t = c :: r → wordN c.toNat = false) : stepR e (W ++ t) = .tok 1 (bs W) 0 W.length := by
  have hw := wlen_stopped W t hW ht
  match W, hn with
  | c :: r, _ =>
    rw [List.cons_append, stepR_wsign e c _ (hW c List.mem_cons_self), ← List.cons_append]
    unfold wordR
    rw [hw, if_neg (by simp)]
    congr 1
    rw [List.take_left' rfl]
/-- A name in its hooks. -/
theorem stepR_name (e : Bool) (W t : List UInt8) (hn : W ≠ []) (hW : ∀ x ∈ W, wordN x.toNat = true) (hs : scalarR W = none) : stepR e (60 :: (W ++ 62 :: t)) = .tok 5 (bs W) 0 (W.length + 2) := by
  have hw := wlen_stopped W (62 :: t) hW (fun c r h => by injection h with h; rw [← h]; decide)
  have h1 : blankR (60 :: (W ++ 62 :: t)) = .no := by simp [blankR]
  have h2 : endR e (60 :: (W ++ 62 :: t)) = .no := by simp [endR]
  have h3 : signR (60 :: (W ++ 62 :: t)) = .no := by simp [signR, hasPrefix, List.isPrefixOf]
  have h4 : quotedR (60 :: (W ++ 62 :: t)) = .no := by simp [quotedR]
  have hl : 0 < W.length := List.length_pos_iff.2 hn
  have h5 : nameR (60 :: (W ++ 62 :: t)) = .tok 5 (bs W) 0 (W.length + 2) := by
    simp only [nameR, hw]
    rw [if_pos trivial, if_pos ⟨by omega, by simp⟩, List.take_left' rfl, hs]
  simp only [stepR, h1, h2, h3, h4, h5, Res.or]
end Go.Proofs.YtipmmkelialgkaaGreatDoor.Lex
set_option linter.unusedVariables false
namespace Go.Proofs.YtipmmkelialgkaaGreatDoor.Pure
open Go.Proofs.YtipmmkelialgkaaGreatDoor.PLex
theorem known_true : redactorlaw06_known.f = some true := by
  kernel_rfl
end Go.Proofs.YtipmmkelialgkaaGreatDoor.Pure
set_option linter.unusedVariables false
set_option linter.unusedSimpArgs false
namespace Go.Proofs.YtipmmkelialgkaaGreatDoor.Pure
open Go.RowKit Go.Lib Go.Proofs.YtipmmkelialgkaaGreatDoor.PLex Go.Proofs.YtipmmkelialgkaaGreatDoorW.PrintWords Go.Proofs.YtipmmkelialgkaaGreatDoorW.PrintLast Go.Proofs.YtipmmkelialgkaaGreatDoor.Lex

/-- The texts to choose from. -/
def pieces : List (List UInt8) := [[99, 108, 97, 115, 115], [111, 114, 100, 101, 114], [120], [60, 85, 48, 48, 52, 49, 62], [60, 85, 48, 48, 101, 57, 62], [60, 85, 49, 70, 54, 48, 48, 62], [60, 99, 104, 62], [34, 97, 98, 34], [34, 34], [59], [44], [40], [41], [46, 46, 46], [10], [37, 32, 119, 111, 114, 100, 10], [32], [60, 85, 68, 56, 48, 48, 62], [34, 97, 10], [60, 62], [33], [60, 85, 52, 49, 62], [102, 114, 111, 109], [9], [97, 45, 98, 95, 57]]
def choice (v : Int) : Nat := if v > 230 then 16 + v.toNat % 9 else v.toNat % 16
theorem choice_lt (v : Int) : choice v < 25 := by
  unfold choice
  split <;> omega
def pieceAt (v : Int) : List UInt8 := pieces.getD (choice v) []
/-- The text of so many choices, from the i-th on. -/
def textI (x0 : List Int) : Nat → Nat → List UInt8
  | 0, _ => []
  | n + 1, i => if i < x0.length then pieceAt (x0.getD i 0) ++ 32 :: textI x0 n (i + 1) else []
theorem piece_len (v : Int) : (pieceAt v).length ≤ 8 := by
  have : ((List.range 25).all fun j => decide ((pieces.getD j []).length ≤ 8)) = true := by decide +kernel
  exact of_decide_eq_true (List.all_eq_true.1 this _ (List.mem_range.2 (choice_lt v)))
theorem textI_len (x0 : List Int) : ∀ n i, (textI x0 n i).length ≤ 9 * n
  | 0, _ => Nat.le_refl _
  | n + 1, i => by
    have h1 := textI_len x0 n (i + 1)
    have h2 := piece_len (x0.getD i 0)
    simp only [textI]
    split
    · simp only [List.length_append, List.length_cons]
      omega
    · simp
theorem text_f (k : Nat) (l0 : List Int) : redactorlaw06_Text.f k l0 = redactorlaw06_Text.l0 k l0 (pieces.map bs) (bs []) 0 := rfl
theorem rd_piece (j : Nat) (h : j < 25) : rdOf ByteArray.empty (pieces.map bs) (j : Int) = bs (pieces.getD j []) := by
  have hl : j < pieces.length := h
  simp [rdOf, List.getElem?_eq_getElem hl]
theorem bs_add (a b : List UInt8) : bs a ++ bs b = bs (a ++ b) := by
  rw [← bs_of (bs a ++ bs b)]
  simp [bs]
theorem u8_range (l : List Int) (h : ∀ x ∈ l, (Lit.int .u8 x).wf = true) : ∀ x ∈ l, 0 ≤ x ∧ x ≤ 255 := fun x hx => by
  have := h x hx
  simpa [Lit.wf, IntKind.min, IntKind.max, IntKind.signed, IntKind.bits] using this

theorem text_stop (x0 : List Int) (i : Nat) (T : ByteArray) (k : Nat) (h : ¬ (i < x0.length ∧ i < 40)) : redactorlaw06_Text.l0 (k + 2) x0 (pieces.map bs) T i = some T := by
  rw [redactorlaw06_Text.l0]
  by_cases h1 : (i : Int) < x0.length
  · rw [if_pos h1]
    have h2 : decide ((i : Int) < 40) = false := decide_eq_false (by omega)
    rw [h2, redactorlaw06_Text.j1, if_neg Bool.false_ne_true]
  · rw [if_neg h1, redactorlaw06_Text.j1, if_neg Bool.false_ne_true]
theorem text_step (x0 : List Int) (hx : ∀ x ∈ x0, 0 ≤ x ∧ x ≤ 255) (i : Nat) (T : List UInt8) (k : Nat) (hlt : i < x0.length) (hi : i < 40) (hT : T.length ≤ 9 * i) :
    redactorlaw06_Text.l0 (k + 2) x0 (pieces.map bs) (bs T) i = redactorlaw06_Text.l0 k x0 (pieces.map bs) (bs (T ++ (pieceAt (x0.getD i 0) ++ [32]))) ((i + 1 : Nat) : Int) := by
  have h1 : (i : Int) < x0.length := by omega
  have h2 : decide ((i : Int) < 40) = true := decide_eq_true (by omega)
  have hv : rd x0 (i : Int) = x0[i] := by simp [rd, List.getElem?_eq_getElem hlt]
  obtain ⟨v0, v1⟩ := hx x0[i] (List.getElem_mem hlt)
  have hg : x0.getD i 0 = x0[i] := by simp [List.getElem?_eq_getElem hlt]
  rw [redactorlaw06_Text.l0, if_pos h1, h2, redactorlaw06_Text.j1, if_pos rfl, if_pos (by omega), if_pos h1, hv, hg]
  generalize x0[i] = v at v0 v1 ⊢
  have hw : wrap64 v = v := IntWalk.wrap64_in _ (by omega)
  have hwi : wrap64 ((i : Int) + 1) = ((i + 1 : Nat) : Int) := by rw [IntWalk.wrap64_in _ (by omega)]; omega
  have hp := piece_len v
  have z : (⟨#[32]⟩ : ByteArray) = bs [32] := rfl
  have hl := choice_lt v
  have hpp : pieces.getD (choice v) [] = pieceAt v := rfl
  have hlen : ((pieces.map bs).length : Int) = 25 := rfl
  have hTi : (T.length : Nat) ≤ 360 := by omega
  have e3 : bs (T ++ pieceAt v ++ [32]) = bs (T ++ (pieceAt v ++ [32])) := by rw [List.append_assoc]
  rw [hw]
  by_cases h3 : v > 230
  · have hc : choice v = 16 + v.toNat % 9 := by unfold choice; rw [if_pos h3]
    have hm : wrap64 (16 + Int.tmod v 9) = ((choice v : Nat) : Int) := by
      rw [hc, Int.tmod_eq_emod_of_nonneg v0, IntWalk.wrap64_in _ (by omega)]
      omega
    rw [if_pos h3, hm, rd_piece _ hl, z, hwi, hpp, hlen, bs_add, bs_add, bs_size, bs_size, bs_size, e3]
    rw [if_pos (by omega), if_pos (by omega), if_pos (by omega), if_pos (by rw [List.length_append]; omega)]
  · have hc : choice v = v.toNat % 16 := by unfold choice; rw [if_neg h3]
    have hm : Int.tmod v 16 = ((choice v : Nat) : Int) := by
      rw [hc, Int.tmod_eq_emod_of_nonneg v0]
      omega
    rw [if_neg h3, hm, rd_piece _ hl, z, hwi, hpp, hlen, bs_add, bs_add, bs_size, bs_size, bs_size, e3]
    rw [if_pos (by omega), if_pos (by omega), if_pos (by omega), if_pos (by rw [List.length_append]; omega)]
theorem text_loop (x0 : List Int) (hx : ∀ x ∈ x0, 0 ≤ x ∧ x ≤ 255) (n : Nat) : ∀ (i : Nat) (T : List UInt8) (k : Nat), i + n = 40 → 2 * n + 2 ≤ k → T.length ≤ 9 * i → redactorlaw06_Text.l0 k x0 (pieces.map bs) (bs T) i = some (bs (T ++ textI x0 n i)) := by
  induction n with
  | zero =>
    intro i T k hi hk hT
    obtain ⟨k, rfl⟩ : ∃ k', k = k' + 2 := ⟨k - 2, by omega⟩
    rw [text_stop x0 i _ k (by omega)]
    simp only [textI, List.append_nil]
  | succ n ih =>
    intro i T k hi hk hT
    obtain ⟨k, rfl⟩ : ∃ k', k = k' + 2 := ⟨k - 2, by omega⟩
    by_cases hlt : i < x0.length
    · have hp := piece_len (x0.getD i 0)
      rw [text_step x0 hx i T k hlt (by omega) hT]
      rw [ih (i + 1) _ k (by omega) (by omega) (by simp only [List.length_append, List.length_singleton]; omega)]
      simp only [textI]
      rw [if_pos hlt]
      simp only [List.append_assoc, List.singleton_append]
    · rw [text_stop x0 i _ k (by omega)]
      simp only [textI]
      rw [if_neg hlt, List.append_nil]
theorem text_is (l0 : List Int) (hx : ∀ x ∈ l0, 0 ≤ x ∧ x ≤ 255) (k : Nat) (hk : 82 ≤ k) : redactorlaw06_Text.f k l0 = some (bs (textI l0 40 0)) := by
  rw [text_f]
  exact text_loop l0 hx 40 0 [] k rfl hk (Nat.zero_le _)
end Go.Proofs.YtipmmkelialgkaaGreatDoor.Pure
