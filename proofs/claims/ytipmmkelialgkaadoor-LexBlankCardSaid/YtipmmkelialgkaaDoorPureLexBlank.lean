/- LexBlank, in plain words: blanks and remarks at the ends of lines change nothing. -/
import Derived.Test.YtipmmkelialgkaaDoorPLexx3
import Derived.Test.YtipmmkelialgkaaDoorPureKnown
import Derived.Test.YtipmmkelialgkaaDoorPureText
set_option linter.unusedVariables false
set_option linter.unusedSimpArgs false
namespace Go.Proofs.YtipmmkelialgkaaDoor.Pure
open Go.RowKit Go.Lib Go.Proofs.YtipmmkelialgkaaDoor.PLex Go.Proofs.YtipmmkelialgkaaDoorW.PrintWords Go.Proofs.YtipmmkelialgkaaDoorW.PrintLast Go.Proofs.YtipmmkelialgkaaDoor.Lex

/-- A token but for its place. -/
def stripT (t : S25) : Int × List UInt8 × Int := (t.f0, t.f1.data.toList, t.f2)
def strip (l : List (S25)) : List (Int × List UInt8 × Int) := l.map stripT
def Sim : List (S25) ⊕ Int → List (S25) ⊕ Int → Prop
  | .inl x, .inl y => strip x = strip y
  | .inr _, .inr _ => True
  | _, _ => False
/-- Two texts that are told alike. -/
def SimT (R R' : List UInt8) : Prop := ∀ (m m' : List (S25)) (q q' : Int), strip m = strip m' → Sim (lexN R q m) (lexN R' q' m')
theorem ended_strip {m m' : List (S25)} (h : strip m = strip m') : endedF m = endedF m' := by
  have e : ∀ l : List (S25), endedF l = (strip l).getLast?.all fun x => x.1 == 6 := by
    intro l
    unfold endedF strip
    rw [List.getLast?_map]
    cases l.getLast? <;> rfl
  rw [e, e, h]
theorem strip_snoc {m m' : List (S25)} (h : strip m = strip m') (t0 : Int) (t1 : ByteArray) (t2 p p' : Int) : strip (m ++ [(⟨t0, t1, t2, p⟩ : S25)]) = strip (m' ++ [(⟨t0, t1, t2, p'⟩ : S25)]) := by
  unfold strip at h ⊢
  rw [List.map_append, List.map_append, h]
  rfl
theorem simT_tok (A R R' : List UInt8) (hA : A ≠ []) {t0 : Int} {t1 : ByteArray} {t2 : Int} (h : ∀ e, stepR e (A ++ R) = .tok t0 t1 t2 A.length) (h' : ∀ e, stepR e (A ++ R') = .tok t0 t1 t2 A.length) (hk : SimT R R') : SimT (A ++ R) (A ++ R') := by
  intro m m' q q' hm
  rw [lexN_tok A R q m hA (h _), lexN_tok A R' q' m' hA (h' _)]
  exact hk _ _ _ _ (strip_snoc hm _ _ _ _ _)
theorem simT_skip (A R R' : List UInt8) (hA : A ≠ []) (h : ∀ e, stepR e (A ++ R) = .skip A.length) (h' : ∀ e, stepR e (A ++ R') = .skip A.length) (hk : SimT R R') : SimT (A ++ R) (A ++ R') := by
  intro m m' q q' hm
  rw [lexN_skip A R q m hA (h _), lexN_skip A R' q' m' hA (h' _)]
  exact hk _ _ _ _ hm
theorem simT_right (A : List UInt8) (hA : A ≠ []) (R R' : List UInt8) (h' : ∀ e, stepR e (A ++ R') = .skip A.length) (hk : SimT R R') : SimT R (A ++ R') := by
  intro m m' q q' hm
  rw [lexN_skip A R' q' m' hA (h' _)]
  exact hk _ _ _ _ hm
theorem simT_bad (R R' : List UInt8) (hR : R ≠ []) (hR' : R' ≠ []) (h : ∀ e, stepR e R = .bad) (h' : ∀ e, stepR e R' = .bad) : SimT R R' := by
  intro m m' q q' hm
  rw [lexN_bad R q m hR (h _), lexN_bad R' q' m' hR' (h' _)]
  trivial
theorem simT_end (R R' : List UInt8) (hk : SimT R R') : SimT ([10] ++ R) ([10] ++ R') := by
  intro m m' q q' hm
  have he := ended_strip hm
  cases h : endedF m with
  | true =>
    rw [lexN_skip [10] R q m (by simp) (by rw [h]; rfl), lexN_skip [10] R' q' m' (by simp) (by rw [← he, h]; rfl)]
    exact hk _ _ _ _ hm
  | false =>
    rw [lexN_tok [10] R q m (by simp) (t0 := 6) (t1 := bs []) (t2 := 0) (by rw [h]; rfl), lexN_tok [10] R' q' m' (by simp) (t0 := 6) (t1 := bs []) (t2 := 0) (by rw [← he, h]; rfl)]
    exact hk _ _ _ _ (strip_snoc hm _ _ _ _ _)
theorem simT_nil : SimT [] [] := fun m m' q q' hm => hm
theorem stepR_space (e : Bool) (t : List UInt8) : stepR e ([32] ++ t) = .skip 1 := rfl
/-- Blanks and a remark ahead of each end of a line behind a blank. -/
def blankT : UInt8 → List UInt8 → List UInt8
  | _, [] => []
  | pr, c :: r => if c = 10 ∧ pr = 32 then 32 :: 9 :: 37 :: 32 :: 34 :: 60 :: 33 :: c :: blankT c r else c :: blankT c r
def piecesB : List (List UInt8) := [[99, 108, 97, 115, 115], [111, 114, 100, 101, 114], [120], [60, 85, 48, 48, 52, 49, 62], [60, 85, 48, 48, 101, 57, 62], [60, 85, 49, 70, 54, 48, 48, 62], [60, 99, 104, 62], [34, 97, 98, 34], [34, 34], [59], [44], [40], [41], [46, 46, 46], [32, 9, 37, 32, 34, 60, 33, 10], [37, 32, 119, 111, 114, 100, 10], [32], [60, 85, 68, 56, 48, 48, 62], [34, 97, 10], [60, 62], [33], [60, 85, 52, 49, 62], [102, 114, 111, 109], [9], [97, 45, 98, 95, 57]]
theorem blankT_piece (R : List UInt8) : ∀ j, j < 25 → blankT 32 (pieces.getD j [] ++ 32 :: R) = piecesB.getD j [] ++ 32 :: blankT 32 R
  | 0, _ => rfl
  | 1, _ => rfl
  | 2, _ => rfl
  | 3, _ => rfl
  | 4, _ => rfl
  | 5, _ => rfl
  | 6, _ => rfl
  | 7, _ => rfl
  | 8, _ => rfl
  | 9, _ => rfl
  | 10, _ => rfl
  | 11, _ => rfl
  | 12, _ => rfl
  | 13, _ => rfl
  | 14, _ => rfl
  | 15, _ => rfl
  | 16, _ => rfl
  | 17, _ => rfl
  | 18, _ => rfl
  | 19, _ => rfl
  | 20, _ => rfl
  | 21, _ => rfl
  | 22, _ => rfl
  | 23, _ => rfl
  | 24, _ => rfl
  | j + 25, hj => absurd hj (by omega)
theorem sim_0 {R R' : List UInt8} (h : SimT R R') : SimT ([99, 108, 97, 115, 115] ++ 32 :: R) ([99, 108, 97, 115, 115] ++ 32 :: R') := by
  exact (simT_tok [99, 108, 97, 115, 115] (32 :: R) (32 :: R') (by simp) (t0 := 1) (t1 := bs [99, 108, 97, 115, 115]) (t2 := 0) (fun _ => rfl) (fun _ => rfl) (simT_skip [32] R R' (by simp) (fun _ => stepR_space _ _) (fun _ => stepR_space _ _) h))
theorem sim_1 {R R' : List UInt8} (h : SimT R R') : SimT ([111, 114, 100, 101, 114] ++ 32 :: R) ([111, 114, 100, 101, 114] ++ 32 :: R') := by
  exact (simT_tok [111, 114, 100, 101, 114] (32 :: R) (32 :: R') (by simp) (t0 := 1) (t1 := bs [111, 114, 100, 101, 114]) (t2 := 0) (fun _ => rfl) (fun _ => rfl) (simT_skip [32] R R' (by simp) (fun _ => stepR_space _ _) (fun _ => stepR_space _ _) h))
theorem sim_2 {R R' : List UInt8} (h : SimT R R') : SimT ([120] ++ 32 :: R) ([120] ++ 32 :: R') := by
  exact (simT_tok [120] (32 :: R) (32 :: R') (by simp) (t0 := 1) (t1 := bs [120]) (t2 := 0) (fun _ => rfl) (fun _ => rfl) (simT_skip [32] R R' (by simp) (fun _ => stepR_space _ _) (fun _ => stepR_space _ _) h))
theorem sim_3 {R R' : List UInt8} (h : SimT R R') : SimT ([60, 85, 48, 48, 52, 49, 62] ++ 32 :: R) ([60, 85, 48, 48, 52, 49, 62] ++ 32 :: R') := by
  exact (simT_tok [60, 85, 48, 48, 52, 49, 62] (32 :: R) (32 :: R') (by simp) (t0 := 3) (t1 := bs []) (t2 := 65) (fun _ => rfl) (fun _ => rfl) (simT_skip [32] R R' (by simp) (fun _ => stepR_space _ _) (fun _ => stepR_space _ _) h))
theorem sim_4 {R R' : List UInt8} (h : SimT R R') : SimT ([60, 85, 48, 48, 101, 57, 62] ++ 32 :: R) ([60, 85, 48, 48, 101, 57, 62] ++ 32 :: R') := by
  exact (simT_tok [60, 85, 48, 48, 101, 57, 62] (32 :: R) (32 :: R') (by simp) (t0 := 3) (t1 := bs []) (t2 := 233) (fun _ => rfl) (fun _ => rfl) (simT_skip [32] R R' (by simp) (fun _ => stepR_space _ _) (fun _ => stepR_space _ _) h))
theorem sim_5 {R R' : List UInt8} (h : SimT R R') : SimT ([60, 85, 49, 70, 54, 48, 48, 62] ++ 32 :: R) ([60, 85, 49, 70, 54, 48, 48, 62] ++ 32 :: R') := by
  exact (simT_tok [60, 85, 49, 70, 54, 48, 48, 62] (32 :: R) (32 :: R') (by simp) (t0 := 3) (t1 := bs []) (t2 := 128512) (fun _ => rfl) (fun _ => rfl) (simT_skip [32] R R' (by simp) (fun _ => stepR_space _ _) (fun _ => stepR_space _ _) h))
theorem sim_6 {R R' : List UInt8} (h : SimT R R') : SimT ([60, 99, 104, 62] ++ 32 :: R) ([60, 99, 104, 62] ++ 32 :: R') := by
  exact (simT_tok [60, 99, 104, 62] (32 :: R) (32 :: R') (by simp) (t0 := 5) (t1 := bs [99, 104]) (t2 := 0) (fun _ => rfl) (fun _ => rfl) (simT_skip [32] R R' (by simp) (fun _ => stepR_space _ _) (fun _ => stepR_space _ _) h))
theorem sim_7 {R R' : List UInt8} (h : SimT R R') : SimT ([34, 97, 98, 34] ++ 32 :: R) ([34, 97, 98, 34] ++ 32 :: R') := by
  exact (simT_tok [34, 97, 98, 34] (32 :: R) (32 :: R') (by simp) (t0 := 4) (t1 := bs [97, 98]) (t2 := 0) (fun _ => rfl) (fun _ => rfl) (simT_skip [32] R R' (by simp) (fun _ => stepR_space _ _) (fun _ => stepR_space _ _) h))
theorem sim_8 {R R' : List UInt8} (h : SimT R R') : SimT ([34, 34] ++ 32 :: R) ([34, 34] ++ 32 :: R') := by
  exact (simT_tok [34, 34] (32 :: R) (32 :: R') (by simp) (t0 := 4) (t1 := bs []) (t2 := 0) (fun _ => rfl) (fun _ => rfl) (simT_skip [32] R R' (by simp) (fun _ => stepR_space _ _) (fun _ => stepR_space _ _) h))
theorem sim_9 {R R' : List UInt8} (h : SimT R R') : SimT ([59] ++ 32 :: R) ([59] ++ 32 :: R') := by
  exact (simT_tok [59] (32 :: R) (32 :: R') (by simp) (t0 := 2) (t1 := bs [59]) (t2 := 0) (fun _ => rfl) (fun _ => rfl) (simT_skip [32] R R' (by simp) (fun _ => stepR_space _ _) (fun _ => stepR_space _ _) h))
theorem sim_10 {R R' : List UInt8} (h : SimT R R') : SimT ([44] ++ 32 :: R) ([44] ++ 32 :: R') := by
  exact (simT_tok [44] (32 :: R) (32 :: R') (by simp) (t0 := 2) (t1 := bs [44]) (t2 := 0) (fun _ => rfl) (fun _ => rfl) (simT_skip [32] R R' (by simp) (fun _ => stepR_space _ _) (fun _ => stepR_space _ _) h))
theorem sim_11 {R R' : List UInt8} (h : SimT R R') : SimT ([40] ++ 32 :: R) ([40] ++ 32 :: R') := by
  exact (simT_tok [40] (32 :: R) (32 :: R') (by simp) (t0 := 2) (t1 := bs [40]) (t2 := 0) (fun _ => rfl) (fun _ => rfl) (simT_skip [32] R R' (by simp) (fun _ => stepR_space _ _) (fun _ => stepR_space _ _) h))
theorem sim_12 {R R' : List UInt8} (h : SimT R R') : SimT ([41] ++ 32 :: R) ([41] ++ 32 :: R') := by
  exact (simT_tok [41] (32 :: R) (32 :: R') (by simp) (t0 := 2) (t1 := bs [41]) (t2 := 0) (fun _ => rfl) (fun _ => rfl) (simT_skip [32] R R' (by simp) (fun _ => stepR_space _ _) (fun _ => stepR_space _ _) h))
theorem sim_13 {R R' : List UInt8} (h : SimT R R') : SimT ([46, 46, 46] ++ 32 :: R) ([46, 46, 46] ++ 32 :: R') := by
  exact (simT_tok [46, 46, 46] (32 :: R) (32 :: R') (by simp) (t0 := 2) (t1 := bs [46, 46, 46]) (t2 := 0) (fun _ => rfl) (fun _ => rfl) (simT_skip [32] R R' (by simp) (fun _ => stepR_space _ _) (fun _ => stepR_space _ _) h))
theorem sim_14 {R R' : List UInt8} (h : SimT R R') : SimT ([10] ++ 32 :: R) ([32, 9, 37, 32, 34, 60, 33, 10] ++ 32 :: R') := by
  exact simT_right [32] (by simp) (10 :: 32 :: R) ([9] ++ ([37, 32, 34, 60, 33] ++ 10 :: 32 :: R')) (fun _ => rfl) (simT_right [9] (by simp) (10 :: 32 :: R) ([37, 32, 34, 60, 33] ++ 10 :: 32 :: R') (fun _ => rfl) (simT_right [37, 32, 34, 60, 33] (by simp) (10 :: 32 :: R) (10 :: 32 :: R') (fun _ => rfl) (simT_end (32 :: R) (32 :: R') (simT_skip [32] R R' (by simp) (fun _ => stepR_space _ _) (fun _ => stepR_space _ _) h))))
theorem sim_15 {R R' : List UInt8} (h : SimT R R') : SimT ([37, 32, 119, 111, 114, 100, 10] ++ 32 :: R) ([37, 32, 119, 111, 114, 100, 10] ++ 32 :: R') := by
  exact (simT_skip [37, 32, 119, 111, 114, 100] ([10] ++ 32 :: R) ([10] ++ 32 :: R') (by simp) (fun _ => rfl) (fun _ => rfl) (simT_end (32 :: R) (32 :: R') (simT_skip [32] R R' (by simp) (fun _ => stepR_space _ _) (fun _ => stepR_space _ _) h)))
theorem sim_16 {R R' : List UInt8} (h : SimT R R') : SimT ([32] ++ 32 :: R) ([32] ++ 32 :: R') := by
  exact (simT_skip [32] (32 :: R) (32 :: R') (by simp) (fun _ => rfl) (fun _ => rfl) (simT_skip [32] R R' (by simp) (fun _ => stepR_space _ _) (fun _ => stepR_space _ _) h))
theorem sim_17 {R R' : List UInt8} (h : SimT R R') : SimT ([60, 85, 68, 56, 48, 48, 62] ++ 32 :: R) ([60, 85, 68, 56, 48, 48, 62] ++ 32 :: R') := by
  exact simT_bad _ _ (by simp) (by simp) (fun _ => rfl) (fun _ => rfl)
theorem sim_18 {R R' : List UInt8} (h : SimT R R') : SimT ([34, 97, 10] ++ 32 :: R) ([34, 97, 10] ++ 32 :: R') := by
  exact simT_bad _ _ (by simp) (by simp) (fun _ => rfl) (fun _ => rfl)
theorem sim_19 {R R' : List UInt8} (h : SimT R R') : SimT ([60, 62] ++ 32 :: R) ([60, 62] ++ 32 :: R') := by
  exact simT_bad _ _ (by simp) (by simp) (fun _ => rfl) (fun _ => rfl)
theorem sim_20 {R R' : List UInt8} (h : SimT R R') : SimT ([33] ++ 32 :: R) ([33] ++ 32 :: R') := by
  exact simT_bad _ _ (by simp) (by simp) (fun _ => rfl) (fun _ => rfl)
theorem sim_21 {R R' : List UInt8} (h : SimT R R') : SimT ([60, 85, 52, 49, 62] ++ 32 :: R) ([60, 85, 52, 49, 62] ++ 32 :: R') := by
  exact (simT_tok [60, 85, 52, 49, 62] (32 :: R) (32 :: R') (by simp) (t0 := 5) (t1 := bs [85, 52, 49]) (t2 := 0) (fun _ => rfl) (fun _ => rfl) (simT_skip [32] R R' (by simp) (fun _ => stepR_space _ _) (fun _ => stepR_space _ _) h))
theorem sim_22 {R R' : List UInt8} (h : SimT R R') : SimT ([102, 114, 111, 109] ++ 32 :: R) ([102, 114, 111, 109] ++ 32 :: R') := by
  exact (simT_tok [102, 114, 111, 109] (32 :: R) (32 :: R') (by simp) (t0 := 1) (t1 := bs [102, 114, 111, 109]) (t2 := 0) (fun _ => rfl) (fun _ => rfl) (simT_skip [32] R R' (by simp) (fun _ => stepR_space _ _) (fun _ => stepR_space _ _) h))
theorem sim_23 {R R' : List UInt8} (h : SimT R R') : SimT ([9] ++ 32 :: R) ([9] ++ 32 :: R') := by
  exact (simT_skip [9] (32 :: R) (32 :: R') (by simp) (fun _ => rfl) (fun _ => rfl) (simT_skip [32] R R' (by simp) (fun _ => stepR_space _ _) (fun _ => stepR_space _ _) h))
theorem sim_24 {R R' : List UInt8} (h : SimT R R') : SimT ([97, 45, 98, 95, 57] ++ 32 :: R) ([97, 45, 98, 95, 57] ++ 32 :: R') := by
  exact (simT_tok [97, 45, 98, 95, 57] (32 :: R) (32 :: R') (by simp) (t0 := 1) (t1 := bs [97, 45, 98, 95, 57]) (t2 := 0) (fun _ => rfl) (fun _ => rfl) (simT_skip [32] R R' (by simp) (fun _ => stepR_space _ _) (fun _ => stepR_space _ _) h))
theorem sim_piece {R R' : List UInt8} (h : SimT R R') : ∀ j, j < 25 → SimT (pieces.getD j [] ++ 32 :: R) (piecesB.getD j [] ++ 32 :: R')
  | 0, _ => sim_0 h
  | 1, _ => sim_1 h
  | 2, _ => sim_2 h
  | 3, _ => sim_3 h
  | 4, _ => sim_4 h
  | 5, _ => sim_5 h
  | 6, _ => sim_6 h
  | 7, _ => sim_7 h
  | 8, _ => sim_8 h
  | 9, _ => sim_9 h
  | 10, _ => sim_10 h
  | 11, _ => sim_11 h
  | 12, _ => sim_12 h
  | 13, _ => sim_13 h
  | 14, _ => sim_14 h
  | 15, _ => sim_15 h
  | 16, _ => sim_16 h
  | 17, _ => sim_17 h
  | 18, _ => sim_18 h
  | 19, _ => sim_19 h
  | 20, _ => sim_20 h
  | 21, _ => sim_21 h
  | 22, _ => sim_22 h
  | 23, _ => sim_23 h
  | 24, _ => sim_24 h
  | j + 25, hj => absurd hj (by omega)
theorem sim_text (x0 : List Int) (n : Nat) : ∀ i, SimT (textI x0 n i) (blankT 32 (textI x0 n i)) := by
  induction n with
  | zero => exact fun i => simT_nil
  | succ n ih =>
    intro i
    simp only [textI]
    split
    · have e : pieceAt (x0.getD i 0) = pieces.getD (choice (x0.getD i 0)) [] := rfl
      rw [e, blankT_piece _ _ (choice_lt _)]
      exact sim_piece (ih (i + 1)) _ (choice_lt _)
    · exact simT_nil
theorem blankT_len : ∀ (l : List UInt8) (c : UInt8), (blankT c l).length ≤ 8 * l.length
  | [], _ => Nat.le_refl _
  | d :: r, c => by
    have := blankT_len r d
    simp only [blankT]
    split <;> simp only [List.length_cons] <;> omega

theorem rd_at (l : List (S25)) (i : Nat) (h : i < l.length) : rd_T25 l (i : Int) = l[i] := by
  simp [rd_T25, List.getElem?_eq_getElem h]
theorem same_loop (a b : List (S25)) (h : strip a = strip b) (hl : a.length ≤ 100000) (n : Nat) : ∀ (i k : Nat), i + n = a.length → n + 1 ≤ k → redactorref06_Same.l0 k a b i = some true := by
  have hab : a.length = b.length := by
    have := congrArg List.length h
    simpa [strip] using this
  induction n with
  | zero =>
    intro i k hi hk
    obtain ⟨k, rfl⟩ : ∃ k', k = k' + 1 := ⟨k - 1, by omega⟩
    rw [redactorref06_Same.l0, if_neg (by omega)]
  | succ n ih =>
    intro i k hi hk
    obtain ⟨k, rfl⟩ : ∃ k', k = k' + 1 := ⟨k - 1, by omega⟩
    have hia : i < a.length := by omega
    have hib : i < b.length := by omega
    have e : stripT a[i] = stripT b[i] := by
      have h1 := congrArg (·[i]?) h
      simpa [strip, List.getElem?_eq_getElem hia, List.getElem?_eq_getElem hib] using h1
    have e0 : a[i].f0 = b[i].f0 := congrArg (·.1) e
    have e1 : a[i].f1.data.toList = b[i].f1.data.toList := congrArg (·.2.1) e
    have e2 : a[i].f2 = b[i].f2 := congrArg (·.2.2) e
    have e1' : a[i].f1 = b[i].f1 := by rw [← bs_of a[i].f1, ← bs_of b[i].f1, e1]
    have hw : wrap64 ((i : Int) + 1) = ((i + 1 : Nat) : Int) := by rw [IntWalk.wrap64_in _ (by omega)]; omega
    rw [redactorref06_Same.l0, if_pos (by omega), if_pos (by omega), if_pos (by omega), rd_at a i hia, rd_at b i hib, if_pos e0, e1', if_pos rfl, if_pos e2, hw]
    exact ih (i + 1) k (by omega) (by omega)
theorem same_f (a b : List (S25)) (h : strip a = strip b) (hl : a.length ≤ 100000) (k : Nat) (hk : a.length + 1 ≤ k) : redactorref06_Same.f k a b = some true := by
  have hab : a.length = b.length := by
    have := congrArg List.length h
    simpa [strip] using this
  unfold redactorref06_Same.f
  rw [if_pos (by omega)]
  exact same_loop a b h hl a.length 0 k (by omega) hk

theorem closeF_strip {m m' : List (S25)} (h : strip m = strip m') (p p' : Int) : strip (closeF m p) = strip (closeF m' p') := by
  unfold closeF
  rw [ended_strip h]
  split
  · exact h
  · exact strip_snoc h _ _ _ _ _
/-- Told alike: the same error; tokens alike. -/
theorem tokens_alike (L M : List UInt8) (hL : L.length ≤ 4000) (hM : M.length ≤ 4000) (h : Sim (lexN L 0 []) (lexN M 0 [])) : (tokensF (bs L)).2.1 = (tokensF (bs M)).2.1 ∧ strip (tokensF (bs L)).1 = strip (tokensF (bs M)).1 := by
  rw [tokensF_bs L hL, tokensF_bs M hM]
  revert h
  cases lexN L 0 [] <;> cases lexN M 0 [] <;> intro h
  · rename_i a b
    have hc := closeF_strip h L.length M.length
    have hlen : (closeF a L.length).length = (closeF b M.length).length := by
      have := congrArg List.length hc
      simpa [strip] using this
    dsimp only
    by_cases h1 : 1000 < (closeF a L.length).length
    · rw [if_pos h1, if_pos (by rw [← hlen]; exact h1)]
      exact ⟨rfl, rfl⟩
    · rw [if_neg h1, if_neg (by rw [← hlen]; exact h1)]
      exact ⟨rfl, hc⟩
  · exact h.elim
  · exact h.elim
  · exact ⟨rfl, rfl⟩
theorem tokens_count (L : List UInt8) (hL : L.length ≤ 4000) : (tokensF (bs L)).1.length ≤ 1000 := by
  rw [tokensF_bs L hL]
  cases lexN L 0 [] with
  | inr p => exact Nat.zero_le _
  | inl l =>
    dsimp only
    split
    · exact Nat.zero_le _
    · dsimp only
      omega

/-- What stands ahead of place i: a blank where nothing does. -/
def before (S : List UInt8) : Nat → UInt8
  | 0 => 32
  | i + 1 => S.getD i 0
def finB (k : Nat) (x3 x4 : ByteArray) : Option Bool := (lex_Tokens.f x3).bind fun bt162 => (if 3 + x4.size ≤ 9223372036854775807 then ((lex_Tokens.f ((⟨#[32, 32, 10]⟩ : ByteArray) ++ x4)).bind fun bt167 => ((redactorref06_Same.f k bt162.1 bt167.1).bind fun t172 => ((redactorlaw06_known.f).bind fun t173 => (if t173 = true then (if bt162.2.1 = bt167.2.1 then (some t172) else (some false)) else (some false))))) else (none))
theorem bt_bs (S : List UInt8) (i : Nat) (h : i < S.length) : bt (bs S) (i : Int) = (S[i].toNat : Int) := by
  have hz : i < (bs S).size := by rw [bs_size]; exact h
  unfold bt
  rw [Int.toNat_natCast, dif_pos hz]
  rfl
theorem cut_bs (S : List UInt8) (i : Nat) (h : i < S.length) : (bs S).extract i (i + 1) = bs [S[i]] := by
  rw [extract_bs, bs_list, Nat.add_sub_cancel_left, List.drop_eq_getElem_cons h]
  rfl
theorem blank_stop (S T : List UInt8) (k : Nat) : redactorlaw06_LexBlank.l0 (k + 1) (bs S) (bs T) S.length = finB k (bs S) (bs T) := by
  rw [redactorlaw06_LexBlank.l0, if_neg (by rw [bs_size]; omega)]
  rfl
theorem blank_step (S T : List UInt8) (i k : Nat) (h : i < S.length) (hS : S.length ≤ 100000) (hT : T.length ≤ 1000000) :
    redactorlaw06_LexBlank.l0 (k + 1) (bs S) (bs T) i = redactorlaw06_LexBlank.l0 k (bs S) (bs (T ++ (if S[i] = 10 ∧ before S i = 32 then [32, 9, 37, 32, 34, 60, 33, S[i]] else [S[i]]))) ((i + 1 : Nat) : Int) := by
  have hw : wrap64 ((i : Int) + 1) = ((i + 1 : Nat) : Int) := by rw [IntWalk.wrap64_in _ (by omega)]; omega
  have hw2 : wrap64 ((i : Int) - 1) = (i : Int) - 1 := by rw [IntWalk.wrap64_in _ (by omega)]
  have z : (⟨#[32, 9, 37, 32, 34, 60, 33]⟩ : ByteArray) = bs [32, 9, 37, 32, 34, 60, 33] := rfl
  rw [redactorlaw06_LexBlank.l0, if_pos (by rw [bs_size]; omega), if_pos (by omega), hw, hw2, bt_bs S i h, z]
  have hcut : (bs S).extract ((i : Int)).toNat (((i + 1 : Nat) : Int)).toNat = bs [S[i]] := by
    rw [Int.toNat_natCast, Int.toNat_natCast]
    exact cut_bs S i h
  rw [hcut]
  have h1 : (i : Int) ≤ ((i + 1 : Nat) : Int) := by omega
  have h2 : ((i + 1 : Nat) : Int) ≤ ((bs S).size : Int) := by rw [bs_size]; omega
  have h3 : (bs T).size + 7 ≤ 9223372036854775807 := by rw [bs_size]; omega
  have h4 : (bs T ++ bs [32, 9, 37, 32, 34, 60, 33]).size + (bs [S[i]]).size ≤ 9223372036854775807 := by
    rw [bs_add, bs_size, bs_size]
    simp only [List.length_append, List.length_cons, List.length_nil]
    omega
  have h5 : (bs T).size + (bs [S[i]]).size ≤ 9223372036854775807 := by
    rw [bs_size, bs_size]
    simp only [List.length_cons, List.length_nil]
    omega
  have e1 : bs T ++ bs [32, 9, 37, 32, 34, 60, 33] ++ bs [S[i]] = bs (T ++ [32, 9, 37, 32, 34, 60, 33, S[i]]) := by
    rw [bs_add, bs_add, List.append_assoc]
    rfl
  have e2 : bs T ++ bs [S[i]] = bs (T ++ [S[i]]) := bs_add _ _
  simp only [e1, e2, if_pos h3, if_pos h1, if_pos h2, if_pos h4, if_pos h5]
  by_cases c1 : S[i] = 10
  · have d1 : ((S[i].toNat : Nat) : Int) = 10 := by rw [c1]; rfl
    rw [if_pos d1]
    cases i with
    | zero =>
      rw [if_pos (show ((0 : Nat) : Int) = 0 from rfl), if_pos ⟨c1, rfl⟩]
    | succ j =>
      have hj : j < S.length := by omega
      have e3 : (((j + 1 : Nat) : Int) - 1) = (j : Int) := by omega
      have hb : before S (j + 1) = S[j] := by simp [before, List.getElem?_eq_getElem hj]
      rw [if_neg (by omega), e3, if_pos (by omega), if_pos (by rw [bs_size]; omega), bt_bs S j hj, hb]
      by_cases c2 : S[j] = 32
      · have d2 : ((S[j].toNat : Nat) : Int) = 32 := by rw [c2]; rfl
        rw [if_pos d2, if_pos ⟨c1, c2⟩]
      · have d2 : ¬ ((S[j].toNat : Nat) : Int) = 32 := fun e => c2 (UInt8.toNat_inj.1 (by rw [show (32 : UInt8).toNat = 32 from rfl]; omega))
        rw [if_neg d2, if_neg (fun c => c2 c.2)]
  · have d1 : ¬ ((S[i].toNat : Nat) : Int) = 10 := fun e => c1 (UInt8.toNat_inj.1 (by rw [show (10 : UInt8).toNat = 10 from rfl]; omega))
    rw [if_neg d1, if_neg (fun c => c1 c.1)]
theorem blank_loop (S : List UInt8) (hS : S.length ≤ 100000) (k n : Nat) : ∀ (i : Nat) (T : List UInt8), i + n = S.length → T.length ≤ 8 * i → redactorlaw06_LexBlank.l0 (n + (k + 1)) (bs S) (bs T) i = finB k (bs S) (bs (T ++ blankT (before S i) (S.drop i))) := by
  induction n with
  | zero =>
    intro i T hi hT
    have e : i = S.length := by omega
    subst e
    rw [Nat.zero_add, blank_stop, List.drop_length]
    simp only [blankT, List.append_nil]
  | succ n ih =>
    intro i T hi hT
    have h : i < S.length := by omega
    have en : n + 1 + (k + 1) = (n + (k + 1)) + 1 := by omega
    rw [en, blank_step S T i _ h hS (by omega)]
    have hlen : (T ++ (if S[i] = 10 ∧ before S i = 32 then [32, 9, 37, 32, 34, 60, 33, S[i]] else [S[i]])).length ≤ 8 * (i + 1) := by
      rw [List.length_append]
      split <;> simp <;> omega
    rw [ih (i + 1) _ (by omega) hlen]
    congr 2
    rw [List.append_assoc]
    congr 1
    rw [List.drop_eq_getElem_cons h]
    have hb : before S (i + 1) = S[i] := by simp [before, List.getElem?_eq_getElem h]
    rw [hb]
    simp only [blankT]
    split
    · rfl
    · rfl

theorem LexBlank : redactorlaw06_LexBlank.Pure := by
  intro l0 _ _ hw
  have hx := u8_range l0 hw
  obtain ⟨L, hL⟩ : ∃ L, L = textI l0 40 0 := ⟨_, rfl⟩
  have hlen : L.length ≤ 360 := by rw [hL]; exact textI_len l0 40 0
  refine ⟨L.length + (2000 + 1), ?_⟩
  have hsz : (bs L).size = L.length := bs_size L
  unfold redactorlaw06_LexBlank.f
  rw [text_is l0 hx _ (by omega), Option.bind_some, ← hL, if_neg (by rw [hsz]; omega)]
  rw [show (⟨#[]⟩ : ByteArray) = bs [] from rfl]
  have hl := blank_loop L (by omega) 2000 L.length 0 [] (by omega) (by simp)
  rw [show ((0 : Nat) : Int) = 0 from rfl] at hl
  rw [hl]
  have hsim : Sim (lexN L 0 []) (lexN ([32, 32, 10] ++ blankT 32 L) 0 []) := by
    have h1 : lexN ([32, 32, 10] ++ blankT 32 L) 0 [] = lexN (blankT 32 L) 3 [] := by
      rw [show [32, 32, 10] ++ blankT 32 L = [32] ++ ([32] ++ ([10] ++ blankT 32 L)) from rfl]
      rw [lexN_skip [32] _ 0 [] (by simp) rfl, lexN_skip [32] _ _ [] (by simp) rfl, lexN_skip [10] _ _ [] (by simp) rfl]
      rfl
    rw [h1]
    have := sim_text l0 40 0
    rw [← hL] at this
    exact this [] [] 0 3 rfl
  have hbl := blankT_len L 32
  have hM : ([32, 32, 10] ++ blankT 32 L).length ≤ 4000 := by
    simp only [List.length_append, List.length_cons, List.length_nil]
    omega
  obtain ⟨h1, h2⟩ := tokens_alike L _ (by omega) hM hsim
  have ht : ∀ x, lex_Tokens.f x = some (tokensF x) := fun _ => rfl
  unfold finB
  simp only [List.nil_append, List.drop_zero]
  rw [show before L 0 = 32 from rfl, ht, Option.bind_some, if_pos (by rw [bs_size]; omega)]
  rw [show (⟨#[32, 32, 10]⟩ : ByteArray) = bs [32, 32, 10] from rfl, bs_add, ht, Option.bind_some]
  rw [same_f _ _ h2 (Nat.le_trans (tokens_count L (by omega)) (by omega)) 2000 (by have := tokens_count L (by omega); omega)]
  rw [Option.bind_some, known_true, Option.bind_some, if_pos rfl, if_pos h1]
end Go.Proofs.YtipmmkelialgkaaDoor.Pure
