/- Plain facts on the lexer's rounds: whole texts, piece by piece. · A line of an order from one scalar to another one, in plain words: its text, its tokens, its elements. · What locale.Parse defers: it takes what is wrong, and lays it into the results; of nothing wrong it does nothing. -/
import Derived.Test.YtipmmkelialgkaaGreatDoorGLlg3
import Derived.Test.YtipmmkelialgkaaGreatDoorGLlg2
import Derived.Test.YtipmmkelialgkaaGreatDoorGLlg17
import Derived.Test.YtipmmkelialgkaaGreatDoorGLlg18
set_option linter.unusedVariables false
set_option linter.unusedSimpArgs false
namespace Go.Proofs.YtipmmkelialgkaaGreatDoor.Lex
open Go.Lib

/-- The rounds over what is left, as many as it takes. -/
def lexN (r : List UInt8) (p : Int) (l : List Tok) : List Tok ⊕ Int := lexF r.length r p l
theorem lexN_nil (p : Int) (l : List Tok) : lexN [] p l = .inl l := rfl
theorem lexN_skip (A R : List UInt8) (p : Int) (l : List Tok) (hA : A ≠ []) (h : stepR (endedF l) (A ++ R) = .skip A.length) : lexN (A ++ R) p l = lexN R (p + A.length) l := by
  match A, hA with
  | c :: t, _ =>
    show lexF ((c :: t) ++ R).length ((c :: t) ++ R) p l = _
    simp only [List.cons_append, List.length_cons, lexF]
    rw [List.cons_append] at h
    rw [h]
    dsimp only
    have e : (c :: (t ++ R)).drop (c :: t).length = R := by
      rw [← List.cons_append]
      exact List.drop_left
    rw [e]
    exact lexF_any _ _ _ _ _ (by rw [List.length_append]; omega) (Nat.le_refl _)
theorem lexN_tok (A R : List UInt8) (p : Int) (l : List Tok) {t0 : Int} {t1 : ByteArray} {t2 : Int} (hA : A ≠ []) (h : stepR (endedF l) (A ++ R) = .tok t0 t1 t2 A.length) : lexN (A ++ R) p l = lexN R (p + A.length) (l ++ [(⟨t0, t1, t2, p⟩ : Tok)]) := by
  match A, hA with
  | c :: t, _ =>
    show lexF ((c :: t) ++ R).length ((c :: t) ++ R) p l = _
    simp only [List.cons_append, List.length_cons, lexF]
    rw [List.cons_append] at h
    rw [h]
    dsimp only
    have e : (c :: (t ++ R)).drop (c :: t).length = R := by
      rw [← List.cons_append]
      exact List.drop_left
    rw [e]
    exact lexF_any _ _ _ _ _ (by rw [List.length_append]; omega) (Nat.le_refl _)
theorem lexN_bad (r : List UInt8) (p : Int) (l : List Tok) (hr : r ≠ []) (h : stepR (endedF l) r = .bad) : lexN r p l = .inr p := by
  match r, hr with
  | c :: t, _ =>
    show lexF (c :: t).length (c :: t) p l = _
    simp only [List.length_cons, lexF]
    rw [h]
theorem tokensF_bs (L : List UInt8) (h : L.length ≤ 4000) : tokensF (bs L) = match lexN L 0 [] with
    | .inr p => ([], 20, p)
    | .inl l => if 1000 < (closeF l L.length).length then ([], 3, 0) else (closeF l L.length, 0, 0) := by
  have hz : (bs L).size = L.length := bs_size L
  have hs : ¬ 4000 < (bs L).size := by rw [hz]; omega
  simp only [tokensF, if_neg hs]
  rw [hz, bs_list]
  rfl

/-- A sign of a word is none of the others. -/
theorem stepR_wsign (e : Bool) (c : UInt8) (t : List UInt8) (h : wordN c.toNat = true) : stepR e (c :: t) = wordR (c :: t) := by
  have hne : ∀ d : UInt8, wordN d.toNat = false → c ≠ d := fun d hd e => by rw [e, hd] at h; exact nomatch h
  have n32 := hne 32 (by decide)
  have n9 := hne 9 (by decide)
  have n37 := hne 37 (by decide)
  have n10 := hne 10 (by decide)
  have n46 := hne 46 (by decide)
  have n59 := hne 59 (by decide)
  have n44 := hne 44 (by decide)
  have n40 := hne 40 (by decide)
  have n41 := hne 41 (by decide)
  have n34 := hne 34 (by decide)
  have n60 := hne 60 (by decide)
  have h1 : blankR (c :: t) = .no := by simp [blankR, n32, n9, n37]
  have h2 : endR e (c :: t) = .no := by simp [endR, n10]
  have h3 : signR (c :: t) = .no := by
    have hp : hasPrefix (c :: t) [46, 46, 46] = false := by
      simp [hasPrefix, List.isPrefixOf]
      intro e
      exact absurd e.symm n46
    simp [signR, hp, n59, n44, n40, n41]
  have h4 : quotedR (c :: t) = .no := by simp [quotedR, n34]
  have h5 : nameR (c :: t) = .no := by simp [nameR, n60]
  simp only [stepR, h1, h2, h3, h4, h5, Res.or]
theorem wlen_all : ∀ (W : List UInt8), (∀ x ∈ W, wordN x.toNat = true) → wlen W = W.length
  | [], _ => rfl
  | x :: W, hW => by simp [wlen, hW x List.mem_cons_self, wlen_all W (fun y hy => hW y (List.mem_cons_of_mem _ hy))]
theorem wlen_stopped : ∀ (W t : List UInt8), (∀ x ∈ W, wordN x.toNat = true) → (∀ c r, t = c :: r → wordN c.toNat = false) → wlen (W ++ t) = W.length
  | [], [], _, _ => rfl
  | [], c :: r, _, ht => by simp [wlen, ht c r rfl]
  | x :: W, t, hW, ht => by
    have h1 := hW x List.mem_cons_self
    have h2 := wlen_stopped W t (fun y hy => hW y (List.mem_cons_of_mem _ hy)) ht
    simp [wlen, h1, h2]
/-- A word, then none of its signs. -/
theorem stepR_word (e : Bool) (W t : List UInt8) (hn : W ≠ []) (hW : ∀ x ∈ W, wordN x.toNat = true) (ht : ∀ c r, t = c :: r → wordN c.toNat = false) : stepR e (W ++ t) = .tok 1 (bs W) 0 W.length := by
  have hw := wlen_stopped W t hW ht
  match W, hn with
  | c :: r, _ =>
    rw [List.cons_append, stepR_wsign e c _ (hW c List.mem_cons_self), ← List.cons_append]
    unfold wordR
    rw [hw, if_neg (by simp)]
    congr 1
    rw [List.take_left' rfl]
/-- A name in its hooks. -/
theorem stepR_name (e : Bool) (W t : List UInt8) (hn : W ≠ []) (hW : ∀ x ∈ W, wordN x.toNat = true) (hs : scalarR W = none) : stepR e (60 :: (W ++ 62 :: t)) = .tok 5 (bs W) 0 (W.length + 2) := by
  have hw := wlen_stopped W (62 :: t) hW (fun c r h => by injection h with h; rw [← h]; decide)
  have h1 : blankR (60 :: (W ++ 62 :: t)) = .no := by simp [blankR]
  have h2 : endR e (60 :: (W ++ 62 :: t)) = .no := by simp [endR]
  have h3 : signR (60 :: (W ++ 62 :: t)) = .no := by simp [signR, hasPrefix, List.isPrefixOf]
  have h4 : quotedR (60 :: (W ++ 62 :: t)) = .no := by simp [quotedR]
  have hl : 0 < W.length := List.length_pos_iff.2 hn
  have h5 : nameR (60 :: (W ++ 62 :: t)) = .tok 5 (bs W) 0 (W.length + 2) := by
    simp only [nameR, hw]
    rw [if_pos trivial, if_pos ⟨by omega, by simp⟩, List.take_left' rfl, hs]
  simp only [stepR, h1, h2, h3, h4, h5, Res.or]
end Go.Proofs.YtipmmkelialgkaaGreatDoor.Lex
set_option linter.unusedVariables false
set_option linter.unusedSimpArgs false
namespace Go.Proofs.YtipmmkelialgkaaGreatDoor.Loc
open Go.RowKit Go.Lib Go.Proofs.YtipmmkelialgkaaGreatDoorW.PrintWords Go.Proofs.YtipmmkelialgkaaGreatDoorW.PrintLast Go.Proofs.YtipmmkelialgkaaGreatDoorW.PrintMore Go.Proofs.YtipmmkelialgkaaGreatDoor.Lex

/-- A digit, great. -/
def nib (d : Nat) : UInt8 := upperB (hexC d)
def fourL (n : Nat) : List UInt8 := [nib (n / 4096 % 16), nib (n / 256 % 16), nib (n / 16 % 16), nib (n % 16)]
def digitsB : ByteArray := ⟨#[48, 49, 50, 51, 52, 53, 54, 55, 56, 57, 65, 66, 67, 68, 69, 70]⟩
theorem digit_tab : ((List.range 16).all fun d => decide (digitsB.extract d (d + 1) = bs [nib d])) = true := by decide +kernel
theorem digit_at (d : Nat) (h : d < 16) : digitsB.extract d (d + 1) = bs [nib d] := of_decide_eq_true (List.all_eq_true.1 digit_tab d (List.mem_range.2 h))
theorem bs_two (a b : List UInt8) : bs a ++ bs b = bs (a ++ b) := by
  rw [← bs_of (bs a ++ bs b)]
  simp [bs]
theorem four_step (k n : Nat) (s : List UInt8) (i : Int) (hn : n < 65536) (hi : 0 ≤ i) (hi4 : i < 4) (hs : s.length ≤ 4) :
    PLoc.redactorlaw07_four.l0 (k + 1) n (bs s) i = PLoc.redactorlaw07_four.l0 k ((n / 16 : Nat) : Int) (bs (nib (n % 16) :: s)) (i + 1) := by
  have e1 : Int.tmod (n : Int) 16 = ((n % 16 : Nat) : Int) := by rw [Int.tmod_eq_emod_of_nonneg (by omega)]; omega
  have e2 : wrap64 (((n % 16 : Nat) : Int) + 1) = ((n % 16 + 1 : Nat) : Int) := by rw [IntWalk.wrap64_in _ (by omega)]; omega
  have e3 : wrap64 (Int.tdiv (n : Int) 16) = ((n / 16 : Nat) : Int) := by
    rw [Int.tdiv_eq_ediv_of_nonneg (by omega), IntWalk.wrap64_in _ (by omega)]
    omega
  have e4 : wrap64 (i + 1) = i + 1 := IntWalk.wrap64_in _ (by omega)
  have hx := digit_at (n % 16) (Nat.mod_lt _ (by decide))
  rw [PLoc.redactorlaw07_four.l0, if_pos hi4, e1, if_pos (by omega), e2, if_pos (by omega), if_pos (by omega)]
  simp only [Int.toNat_natCast]
  change (if (digitsB.extract (n % 16) (n % 16 + 1)).size + (bs s).size ≤ 9223372036854775807 then PLoc.redactorlaw07_four.l0 k (wrap64 (Int.tdiv (n : Int) 16)) (digitsB.extract (n % 16) (n % 16 + 1) ++ bs s) (wrap64 (i + 1)) else none) = _
  rw [hx, bs_size, bs_size, if_pos (by simp; omega), e3, e4, bs_two]
  rfl
theorem four_is (n : Nat) (hn : n < 65536) : PLoc.redactorlaw07_four.f 5 n = some (bs (fourL n)) := by
  show PLoc.redactorlaw07_four.l0 5 n (bs []) 0 = _
  rw [four_step 4 n [] 0 hn (by decide) (by decide) (by simp), four_step 3 _ _ _ (by omega) (by decide) (by decide) (by simp), four_step 2 _ _ _ (by omega) (by decide) (by decide) (by simp), four_step 1 _ _ _ (by omega) (by decide) (by decide) (by simp)]
  rw [PLoc.redactorlaw07_four.l0, if_neg (by decide)]
  unfold fourL
  have a1 : n / 16 / 16 % 16 = n / 256 % 16 := by rw [Nat.div_div_eq_div_mul]
  have a2 : n / 16 / 16 / 16 % 16 = n / 4096 % 16 := by rw [Nat.div_div_eq_div_mul, Nat.div_div_eq_div_mul]
  rw [a1, a2]

theorem nib_num (d : Nat) : hexD (nib (d % 16)) = some (d % 16) := (up_at (d % 16) (Nat.mod_lt _ (by decide))).1
theorem nib_word (d : Nat) : wordN (nib (d % 16)).toNat = true := (up_at (d % 16) (Nat.mod_lt _ (by decide))).2
theorem fourL_num (n : Nat) (h : n < 65536) : hexNum (fourL n) 0 = some n := by
  unfold fourL
  simp only [hexNum, nib_num, Option.bind_some]
  congr 1
  omega
theorem fourL_word (n : Nat) : ∀ c ∈ fourL n, wordN c.toNat = true := by
  intro c hc
  simp only [fourL, List.mem_cons, List.not_mem_nil, or_false] at hc
  rcases hc with rfl | rfl | rfl | rfl <;> exact nib_word _
/-- A scalar of four digits in its hooks. -/
theorem stepR_four (e : Bool) (n : Nat) (h : n < 65536) (hr : rightN n = true) (t : List UInt8) : stepR e ((60 :: 85 :: (fourL n ++ [62])) ++ t) = .tok 3 (bs []) n 7 := by
  have e0 : (60 :: 85 :: (fourL n ++ [62])) ++ t = 60 :: (85 :: (fourL n ++ 62 :: t)) := by simp
  rw [e0, stepR_hook]
  have hw : wlen (85 :: (fourL n ++ 62 :: t)) = 5 := by
    have := wlen_app (85 :: fourL n) 62 t (fun x hx => by
      rcases List.mem_cons.1 hx with rfl | hx
      · decide
      · exact fourL_word n x hx) (by decide)
    simpa [fourL] using this
  have ht : (85 :: (fourL n ++ 62 :: t)).take 5 = 85 :: fourL n := by simp [fourL]
  have hg : (85 :: (fourL n ++ 62 :: t))[5]? = some 62 := by simp [fourL]
  have hs : scalarR (85 :: fourL n) = some n := by
    simp only [scalarR]
    rw [if_pos (by simp [fourL]), fourL_num n h]
  have h5 : nameR (60 :: (85 :: (fourL n ++ 62 :: t))) = .tok 3 (bs []) n 7 := by
    simp only [nameR, hw]
    rw [if_pos trivial, if_pos ⟨by omega, hg⟩, ht, hs]
    simp only [hr, if_true]
  rw [h5]
  rfl
/-- A line's text. -/
def rowText (a b : Nat) : List UInt8 := [111, 114, 100, 101, 114] ++ ([32] ++ ((60 :: 85 :: (fourL a ++ [62])) ++ ([32] ++ ([46, 46, 46] ++ ([32] ++ ((60 :: 85 :: (fourL b ++ [62])) ++ []))))))
def rowToks (a b : Nat) : List Tok := [⟨1, orderS, 0, 0⟩, ⟨3, bs [], a, 6⟩, ⟨2, dotsB, 0, 14⟩, ⟨3, bs [], b, 18⟩, ⟨6, bs [], 0, 25⟩]
theorem row_tokens (a b : Nat) (ha : a < 65536) (hb : b < 65536) (ra : rightN a = true) (rb : rightN b = true) : tokensF (bs (rowText a b)) = (rowToks a b, 0, 0) := by
  have hlen : (rowText a b).length = 25 := by simp [rowText, fourL]
  rw [tokensF_bs _ (by rw [hlen]; decide), hlen]
  have h : lexN (rowText a b) 0 [] = .inl [(⟨1, bs [111, 114, 100, 101, 114], 0, 0⟩ : Tok), ⟨3, bs [], a, 6⟩, ⟨2, bs [46, 46, 46], 0, 14⟩, ⟨3, bs [], b, 18⟩] := by
    unfold rowText
    rw [lexN_tok _ _ _ _ (by simp) (stepR_word _ [111, 114, 100, 101, 114] _ (by simp) (by decide) (fun c r h => by injection h with h; rw [← h]; decide))]
    rw [lexN_skip _ _ _ _ (by simp) (stepR_space _ _)]
    rw [lexN_tok _ _ _ _ (by simp) (t0 := 3) (t1 := bs []) (t2 := a) (by rw [stepR_four _ a ha ra]; simp [fourL])]
    rw [lexN_skip _ _ _ _ (by simp) (stepR_space _ _)]
    rw [lexN_tok _ _ _ _ (by simp) (t0 := 2) (t1 := bs [46, 46, 46]) (t2 := 0) (by simp [stepR, blankR, endR, signR, hasPrefix, List.isPrefixOf, Res.or])]
    rw [lexN_skip _ _ _ _ (by simp) (stepR_space _ _)]
    rw [lexN_tok _ _ _ _ (by simp) (t0 := 3) (t1 := bs []) (t2 := b) (by rw [stepR_four _ b hb rb]; simp [fourL])]
    rw [lexN_nil]
    simp [fourL]
  rw [h]
  simp [closeF, endedF, rowToks]
  exact ⟨rfl, rfl⟩

/-- Elements of one cell each, from a on. -/
def elsF (a k : Nat) : List Elm := (List.range k).map fun i => (⟨⟨#[]⟩, [((a + i : Nat) : Int)], (i : Int)⟩ : Elm)
theorem elsF_len (a k : Nat) : (elsF a k).length = k := by simp [elsF]
theorem elsF_succ (a k : Nat) : elsF a (k + 1) = elsF a k ++ [(⟨⟨#[]⟩, [((a + k : Nat) : Int)], (k : Int)⟩ : Elm)] := by simp [elsF, List.range_succ]
theorem elsF_any (a k c : Nat) (h : a + k ≤ c) : (elsF a k).any (fun y => decide (y.f1 = [(c : Int)])) = false := by
  rw [List.any_eq_false]
  intro x hx
  simp only [elsF, List.mem_map, List.mem_range] at hx
  obtain ⟨i, hi, rfl⟩ := hx
  simp
  omega
theorem putF_els (a k c : Nat) (h : a + k = c) : putF (elsF a k) ⟨#[]⟩ [(c : Int)] = if 500 ≤ k then .inl 3 else .inr (elsF a (k + 1)) := by
  unfold putF
  rw [elsF_any a k c (by omega), if_neg Bool.false_ne_true, elsF_len, elsF_succ, h]
theorem rowL_els (a : Nat) : ∀ (n k : Nat), k ≤ 500 → a + k + n ≤ 55296 → rowL n (a + k) (elsF a k) = if k + n ≤ 500 then .inr (elsF a (k + n)) else .inl 3
  | 0, k, hk, _ => by rw [rowL, if_pos (by omega)]; rfl
  | n + 1, k, hk, hb => by
    have hr : rightN (a + k) = true := by
      unfold rightN
      have h1 : a + k ≤ 1114111 := by omega
      have h2 : a + k < 55296 := by omega
      simp [h1, h2]
    rw [rowL, hr, if_pos rfl, putF_els a k (a + k) rfl]
    by_cases h : 500 ≤ k
    · rw [if_pos h, if_neg (by omega)]
    · rw [if_neg h]
      show rowL n (a + (k + 1)) (elsF a (k + 1)) = _
      rw [rowL_els a n (k + 1) (by omega) (by omega), show k + 1 + n = k + (n + 1) by omega]
theorem row_elems (a b : Nat) (hab : a ≤ b) (hb : b < 55296) : rowF (⟨3, bs [], a, 6⟩ : Tok) (⟨3, bs [], b, 18⟩ : Tok) [] = if b - a < 500 then .inr (elsF a (b - a + 1)) else .inl (3, 6) := by
  unfold rowF
  rw [if_neg (by simp), if_neg (by show ¬ (b : Int) < (a : Int); omega), if_neg (by simp)]
  have e : ((b : Int) - (a : Int) + 1).toNat = b - a + 1 := by omega
  show ((match rowL ((b : Int) - (a : Int) + 1).toNat ((a : Int).toNat) [] with | .inl e => .inl (e, (6 : Int)) | .inr od' => .inr od') : (Int × Int) ⊕ List Elm) = _
  rw [e, Int.toNat_natCast]
  have h := rowL_els a (b - a + 1) 0 (by omega) (by omega)
  rw [show a + 0 = a by rfl, show elsF a 0 = [] by rfl, Nat.zero_add] at h
  rw [h]
  by_cases hk : b - a < 500
  · rw [if_pos hk, if_pos (by omega)]
  · rw [if_neg hk, if_neg (by omega)]
end Go.Proofs.YtipmmkelialgkaaGreatDoor.Loc
set_option linter.unusedVariables false
set_option linter.unusedSimpArgs false
namespace Go.Proofs.YtipmmkelialgkaaGreatDoor.Loc
open Go.RowKit Go.Lib Go.Proofs.YtipmmkelialgkaaGreatDoorW.PrintWords Go.Proofs.YtipmmkelialgkaaGreatDoorW.PrintLast Go.Proofs.YtipmmkelialgkaaGreatDoorW.PrintMore Go.Proofs.YtipmmkelialgkaaGreatDoor.Lex

theorem shut_idle (a b c : Nat) (w : World) :
    CallsD Tryz.prog 26 #[.pointer (some ⟨a, 0, none⟩), .pointer (some ⟨b, 0, none⟩), .pointer (some ⟨c, 0, none⟩)] .returning w fun e u' w' => e = .returned (.tuple #[]) ∧ u' = .returning ∧ w' = w := by
  refine callsD_of_wpS Tryz.func26 rfl fun c₀ cs hu => ?_
  simp only [Tryz.ntmps26, List.size_toArray, List.length_cons, List.length_nil, Nat.reduceAdd, Nat.reduceSub, Array.replicate_succ, Array.replicate_zero, List.push_toArray, List.append_toArray, List.nil_append, List.cons_append]
  apply wpS_seq
  apply wpS_region
  simp [wpOpsS, go_sem, recoverD, hu, Exit.thenS]
  refine wpS_of_wp ?_
  go_wp2
  refine ⟨rfl, .returning, ?_, .tuple #[], by simp [results, Tryz.results26], rfl, rfl, rfl⟩
  rw [← hu]

theorem assert_wrongW (W : World) (v : Value) : (Instr.typeAssert (.iface 73 v) 20 73 true).run Tryz.prog W = .ok (.tuple #[v, .bool true]) W := by kernel_rfl

/-- Results, wrong: so they are laid. -/
structure Shut (N a b c : Nat) (e p : Int) (w w' : World) : Prop where
  c0 : w'.heap[a]? = some (.cells #[.slice none 0 0, .slice none 0 0, .slice none 0 0, .slice none 0 0] 32 (0, 0))
  c1 : w'.cell? ⟨b, 0, none⟩ = some (.int .u16 e)
  c2 : w'.cell? ⟨c, 0, none⟩ = some (.int .i64 p)
  below : Below N w w'

set_option maxRecDepth 100000 in
set_option maxHeartbeats 2000000 in
theorem shut_wrong (N a b c : Nat) (e p : Int) (w : World) (hab : a ≠ b) (hac : a ≠ c) (hbc : b ≠ c) (ha : N ≤ a) (hb : N ≤ b) (hc : N ≤ c) (v0 v1 v2 v3 vb vc : Value) (ca : w.heap[a]? = some (.cells #[v0, v1, v2, v3] 32 (0, 0))) (cb : w.cell? ⟨b, 0, none⟩ = some vb) (cc : w.cell? ⟨c, 0, none⟩ = some vc)
    (zb : w.frozen? ⟨b, 0, none⟩ = false) (zc : w.frozen? ⟨c, 0, none⟩ = false) :
    CallsD Tryz.prog 26 #[.pointer (some ⟨a, 0, none⟩), .pointer (some ⟨b, 0, none⟩), .pointer (some ⟨c, 0, none⟩)] (.panicking [wrongW e p]) w fun en u' w' => en = .returned (.tuple #[]) ∧ u' = .panicking [{ wrongW e p with recovered := true }] ∧ Shut N a b c e p w w' := by
  have hta := fun W v => assert_wrongW W v
  have ha' : a < w.heap.size := (Array.getElem?_eq_some_iff.1 ca).1
  have hb' : b < w.heap.size := Lib.lt_of_cell cb
  have hc' : c < w.heap.size := Lib.lt_of_cell cc
  obtain ⟨a0, a1, a2, a3, _⟩ := box4 ca
  have z0 : w.frozen? ⟨a, 0, none⟩ = false := by simp [World.frozen?, ca]
  have z1 : w.frozen? ⟨a, 1, none⟩ = false := by simp [World.frozen?, ca]
  have z2 : w.frozen? ⟨a, 2, none⟩ = false := by simp [World.frozen?, ca]
  have z3 : w.frozen? ⟨a, 3, none⟩ = false := by simp [World.frozen?, ca]
  have CA := Aside0.mk ca
  clear ca
  refine callsD_of_wpS Tryz.func26 rfl fun c₀ cs hu => ?_
  simp only [Tryz.ntmps26, List.size_toArray, List.length_cons, List.length_nil, Nat.reduceAdd, Nat.reduceSub, Array.replicate_succ, Array.replicate_zero, List.push_toArray, List.append_toArray, List.nil_append, List.cons_append]
  apply wpS_seq
  apply wpS_region
  simp [wpOpsS, go_sem, recoverD, hu, wrongW, Exit.thenS]
  refine wpS_of_wp ?_
  go_wp2
  go_region_held3 (fun w' => w'.cell? ⟨w.heap.size, 0, none⟩ = some (.int .u16 e) ∧ w'.cell? ⟨w.heap.size, 1, none⟩ = some (.int .i64 p)) (go_simp) (fail)
  refine ⟨rfl, _, rfl, .tuple #[], by simp [results, Tryz.results26], rfl, rfl, ?_⟩
  refine ⟨?_, ?_, ?_, ?_⟩
  · obtain ⟨s1, s2, s3⟩ := set4 w a (.slice none 0 0) (.slice none 0 0) (.slice none 0 0) (.slice none 0 0) v0 v1 v2 v3 _ CA.out
    refine Eq.trans (Below.heap_alloc _ _ a (by simp [World.setCell]; omega)) ?_
    exact (Below.heap_setCell _ _ _ _ hac).trans ((Below.heap_setCell _ _ _ _ hab).trans s3)
  · go_simp
  · go_simp
  · exact ((((((((Below.refl N w).setCell (p := ⟨a, 0, none⟩) ha _).setCell (p := ⟨a, 1, none⟩) ha _).setCell (p := ⟨a, 2, none⟩) ha _).setCell (p := ⟨a, 3, none⟩) ha _).setCell (p := ⟨b, 0, none⟩) hb _).setCell (p := ⟨c, 0, none⟩) hc _).alloc (by simp [World.setCell]; omega) _).drew
end Go.Proofs.YtipmmkelialgkaaGreatDoor.Loc
