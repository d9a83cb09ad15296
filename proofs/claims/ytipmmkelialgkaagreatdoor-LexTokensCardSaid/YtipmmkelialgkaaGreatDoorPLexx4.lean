-- WRITTEN FOR THIS CLAIM by wip/tools/told.py (the kit's printer, with some functions told by hand).
import Derived.Test.YtipmmkelialgkaaGreatDoorPLexx0
import Derived.Test.YtipmmkelialgkaaGreatDoorPLexx1
import Derived.Test.YtipmmkelialgkaaGreatDoorPLexx3
namespace Go.Proofs.YtipmmkelialgkaaGreatDoor.PLex
open Go.RowKit Go.Proofs.YtipmmkelialgkaaGreatDoorW.PrintWords Go.Proofs.YtipmmkelialgkaaGreatDoorW.PrintLast Go.Proofs.YtipmmkelialgkaaGreatDoorW.PrintMore
attribute [local go_sem] max2_int min2_int max_two min_two max_three min_three max_four min_four   -- for this text's walks alone
set_option linter.unusedVariables false
set_option linter.unusedSimpArgs false

/-! ### redactorref06_Tokens: function 24 -/
mutual
def redactorref06_Tokens.l0 : Nat → ByteArray → List (S63) → Int → Option ((List (S63)) × Int × Int)
  | 0, _, _, _ => none
  | k + 1, x0, x5, x6 => if x6 < (x0.size : Int) then (if 0 ≤ x6 then (if x6 ≤ (x0.size : Int) then ((redactorref06_blank.f k (x0.extract (x6 : Int).toNat x0.size)).bind fun t132 => (if t132 > 0 then (redactorref06_Tokens.l0 k x0 x5 (wrap64 (x6 + t132))) else (if (x5.length : Int) = 0 then (redactorref06_Tokens.j1 k x0 x5 x6 true) else (if 0 ≤ (wrap64 ((x5.length : Int) - 1)) then (if (wrap64 ((x5.length : Int) - 1)) < (x5.length : Int) then (redactorref06_Tokens.j1 k x0 x5 x6 (((rd_T63 x5 (wrap64 ((x5.length : Int) - 1))).f0) == 6)) else (none)) else (none))))) else (none)) else (none)) else (if (x5.length : Int) > 0 then (if 0 ≤ (wrap64 ((x5.length : Int) - 1)) then (if (wrap64 ((x5.length : Int) - 1)) < (x5.length : Int) then (redactorref06_Tokens.j2 k x0 x5 (((rd_T63 x5 (wrap64 ((x5.length : Int) - 1))).f0) != 6)) else (none)) else (none)) else (redactorref06_Tokens.j2 k x0 x5 false))
def redactorref06_Tokens.j1 : Nat → ByteArray → List (S63) → Int → Bool → Option ((List (S63)) × Int × Int)
  | 0, _, _, _, _ => none
  | k + 1, x0, x5, x6, x8 => if 0 ≤ x6 then (if x6 < (x0.size : Int) then (if (bt x0 x6) = 10 then (if x8 = true then (redactorref06_Tokens.l0 k x0 x5 (wrap64 (x6 + 1))) else (if x5.length < 3518437208883 then (redactorref06_Tokens.l0 k x0 (x5 ++ [(⟨6, (⟨#[]⟩ : ByteArray), 0, x6⟩ : S63)]) (wrap64 (x6 + 1))) else (none))) else (if x6 ≤ (x0.size : Int) then ((redactorref06_one.f k (x0.extract (x6 : Int).toNat x0.size)).bind fun bt137 => (if bt137.2.2.2.2 = 0 then (some (([] : List (S63)), 20, x6)) else (if x5.length < 3518437208883 then (redactorref06_Tokens.l0 k x0 (x5 ++ [(⟨bt137.1, bt137.2.1, bt137.2.2.1, x6⟩ : S63)]) (wrap64 (x6 + bt137.2.2.2.2))) else (none)))) else (none))) else (none)) else (none)
def redactorref06_Tokens.j2 : Nat → ByteArray → List (S63) → Bool → Option ((List (S63)) × Int × Int)
  | 0, _, _, _ => none
  | k + 1, x0, x5, x84 => if x84 = true then (if x5.length < 3518437208883 then ((some (x5 ++ [(⟨6, (⟨#[]⟩ : ByteArray), 0, (x0.size : Int)⟩ : S63)] : List (S63))).bind fun y147 => (if (y147.length : Int) > 1000 then (some (([] : List (S63)), 3, 0)) else (some (y147, 0, 0)))) else (none)) else (if (x5.length : Int) > 1000 then (some (([] : List (S63)), 3, 0)) else (some (x5, 0, 0)))
end
def redactorref06_Tokens.f (k : Nat) (a0 : ByteArray) : Option ((List (S63)) × Int × Int) := if (a0.size : Int) > 4000 then (some (([] : List (S63)), 3, 0)) else (redactorref06_Tokens.l0 k a0 ([] : List (S63)) 0)
theorem redactorref06_Tokens.mono_l : ∀ k, (∀ y0 y1 y2, LeO (redactorref06_Tokens.l0 k y0 y1 y2) (redactorref06_Tokens.l0 (k + 1) y0 y1 y2)) ∧ (∀ y0 y1 y2 y3, LeO (redactorref06_Tokens.j1 k y0 y1 y2 y3) (redactorref06_Tokens.j1 (k + 1) y0 y1 y2 y3)) ∧ (∀ y0 y1 y2, LeO (redactorref06_Tokens.j2 k y0 y1 y2) (redactorref06_Tokens.j2 (k + 1) y0 y1 y2))
  | 0 => ⟨fun _ _ _ r h => by simp [redactorref06_Tokens.l0] at h, fun _ _ _ _ r h => by simp [redactorref06_Tokens.j1] at h, fun _ _ _ r h => by simp [redactorref06_Tokens.j2] at h⟩
  | k + 1 => by
    obtain ⟨ih0, ih1, ih2⟩ := redactorref06_Tokens.mono_l k
    refine ⟨?_, ?_, ?_⟩
    · intro y0 y1 y2
      unfold redactorref06_Tokens.l0
      repeat' first
      | (with_reducible exact ih0 _ _ _)
      | (with_reducible exact ih1 _ _ _ _)
      | (with_reducible exact ih2 _ _ _)
      | (with_reducible exact redactorref06_blank.mono _ _)
      | (with_reducible exact redactorref06_one.mono _ _)
      | (with_reducible exact LeO.refl _)
      | (with_reducible exact LeO.none _)
      | (with_reducible refine LeO.ite ?_ ?_)
      | (with_reducible refine LeO.bind ?_ (fun _ => ?_))
      | exact ih0 _ _ _
      | exact ih1 _ _ _ _
      | exact ih2 _ _ _
      | exact redactorref06_blank.mono _ _
      | exact redactorref06_one.mono _ _
      | exact LeO.none _
      | refine LeO.ite ?_ ?_
      | refine LeO.bind ?_ (fun _ => ?_)
    · intro y0 y1 y2 y3
      unfold redactorref06_Tokens.j1
      repeat' first
      | (with_reducible exact ih0 _ _ _)
      | (with_reducible exact ih1 _ _ _ _)
      | (with_reducible exact ih2 _ _ _)
      | (with_reducible exact redactorref06_blank.mono _ _)
      | (with_reducible exact redactorref06_one.mono _ _)
      | (with_reducible exact LeO.refl _)
      | (with_reducible exact LeO.none _)
      | (with_reducible refine LeO.ite ?_ ?_)
      | (with_reducible refine LeO.bind ?_ (fun _ => ?_))
      | exact ih0 _ _ _
      | exact ih1 _ _ _ _
      | exact ih2 _ _ _
      | exact redactorref06_blank.mono _ _
      | exact redactorref06_one.mono _ _
      | exact LeO.none _
      | refine LeO.ite ?_ ?_
      | refine LeO.bind ?_ (fun _ => ?_)
    · intro y0 y1 y2
      unfold redactorref06_Tokens.j2
      repeat' first
      | (with_reducible exact ih0 _ _ _)
      | (with_reducible exact ih1 _ _ _ _)
      | (with_reducible exact ih2 _ _ _)
      | (with_reducible exact redactorref06_blank.mono _ _)
      | (with_reducible exact redactorref06_one.mono _ _)
      | (with_reducible exact LeO.refl _)
      | (with_reducible exact LeO.none _)
      | (with_reducible refine LeO.ite ?_ ?_)
      | (with_reducible refine LeO.bind ?_ (fun _ => ?_))
      | exact ih0 _ _ _
      | exact ih1 _ _ _ _
      | exact ih2 _ _ _
      | exact redactorref06_blank.mono _ _
      | exact redactorref06_one.mono _ _
      | exact LeO.none _
      | refine LeO.ite ?_ ?_
      | refine LeO.bind ?_ (fun _ => ?_)
theorem redactorref06_Tokens.mono : ∀ a0 k, LeO (redactorref06_Tokens.f k a0) (redactorref06_Tokens.f (k + 1) a0) := by
  intro a0 k
  obtain ⟨ih0, ih1, ih2⟩ := redactorref06_Tokens.mono_l k
  unfold redactorref06_Tokens.f
  repeat' first
      | (with_reducible exact ih0 _ _ _)
      | (with_reducible exact ih1 _ _ _ _)
      | (with_reducible exact ih2 _ _ _)
      | (with_reducible exact redactorref06_blank.mono _ _)
      | (with_reducible exact redactorref06_one.mono _ _)
      | (with_reducible exact LeO.refl _)
      | (with_reducible exact LeO.none _)
      | (with_reducible refine LeO.ite ?_ ?_)
      | (with_reducible refine LeO.bind ?_ (fun _ => ?_))
      | exact ih0 _ _ _
      | exact ih1 _ _ _ _
      | exact ih2 _ _ _
      | exact redactorref06_blank.mono _ _
      | exact redactorref06_one.mono _ _
      | exact LeO.none _
      | refine LeO.ite ?_ ?_
      | refine LeO.bind ?_ (fun _ => ?_)
theorem load_box {W : World} {g : Nat} {x0 x1 x2 x3 : Value} {a : Act} {o : Oper} {p : Operand} (ho : o.op = .load 63 p) (hp : a.eval p = .pointer (some ⟨g, 0, none⟩)) (h : W.heap[g]? = some (.cells #[x0, x1, x2, x3] 63 (0, 0))) :
    (execOp a.eval o).run Tryz.prog W = .ok (.value (.agg #[x0, x1, x2, x3])) W := by
  have h0 : W.cell? ⟨g, 0, none⟩ = some x0 := by simp [World.cell?, h]
  have h1 : W.cell? ⟨g, 1, none⟩ = some x1 := by simp [World.cell?, h]
  have h2 : W.cell? ⟨g, 2, none⟩ = some x2 := by simp [World.cell?, h]
  have h3 : W.cell? ⟨g, 3, none⟩ = some x3 := by simp [World.cell?, h]
  have hu := Tryz.underlying63
  clear h
  unfold execOp
  rw [ho]
  generalize a.eval = ev at hp ⊢
  simp [hp, go_sem, h0, h1, h2, h3, hu]
set_option maxHeartbeats 8000000 in
set_option maxRecDepth 100000 in
theorem redactorref06_Tokens.calls (k : Nat) (a0 : ByteArray) (r1 : List (S63)) (r2 : Int) (r3 : Int) (w : World) (h : redactorref06_Tokens.f k a0 = some (r1, r2, r3)) :
    Calls Tryz.prog 24 #[.string a0] w fun e w' => ∃ v0_ : Value, e = .returned (.tuple #[v0_, .int .i64 r2, .int .i64 r3]) ∧ Kd.R k63 63 w' w.heap.size (fun _ => True) v0_ r1 ∧ Below w.heap.size w w' := by
  have hu63 := Tryz.underlying63
  have HB := Aside0.mk (Below.refl w.heap.size w)
  have H : (if (a0.size : Int) > 4000 then (some (([] : List (S63)), 3, 0)) else (redactorref06_Tokens.l0 k a0 ([] : List (S63)) 0)) = some (r1, r2, r3) := h
  clear h
  by_cases c2 : (a0.size : Int) > 4000
  · rw [if_pos c2] at H
    have c2b0 : decide (4000 < (a0.size : Int)) = true := decide_eq_true c2
    have c2b1 : decide (4000 < a0.size) = true := decide_eq_true (by omega)
    clear c2
    simp only [Option.some.injEq, Prod.mk.injEq] at H
    obtain ⟨rfl, rfl, rfl⟩ := H
    go_enter Tryz.func24, Tryz.ntmps24
    go_wp2
    go_ret3
    exact ⟨_, by first | rfl | (simp [errW_none, errW_some] <;> rfl) | (simp [*, errW_none, errW_some] <;> rfl), by first | exact Kd.R_nil _ _ _ _ _ | exact Kd.N_nil _ _ _ _ _ | exact Kd.V_nil _ _ _ _ _ | exact Kd.Q_nil _ _ _ _ _ | exact Kd.S_nil _ _ _ _ _, by repeat (first | (with_reducible first | exact HB.out | apply below_alloc | apply pw_below_drewN | apply below_drew1) | exact HB.out)⟩
  · rw [if_neg c2] at H
    have c2b0 : decide (4000 < (a0.size : Int)) = false := decide_eq_false c2
    have c2b1 : decide (4000 < a0.size) = false := decide_eq_false (by omega)
    clear c2
    have H' := Aside0.mk H
    clear H
    go_enter Tryz.func24, Tryz.ntmps24
    go_wp2
    go_loopg [5, 6] k (fun kq v5 v6 w' => ∃ (x5_1 : List (S63)) (x6_1 : Int), v6 = .int .i64 x6_1 ∧ Aside0 (redactorref06_Tokens.l0 kq a0 x5_1 x6_1 = some (r1, r2, r3)) ∧ Aside0 (kq ≤ k) ∧ Aside0 (Kd.R k63 63 w' w.heap.size (fun _ => True) v5 x5_1) ∧ Aside0 (Below w.heap.size w w'))
    case atStart => exact ⟨(([] : List (S63))), (0), (by first | rfl | (simp; done) | (simp [*]; done)), H', ⟨Nat.le_refl _⟩, ⟨by first | exact Kd.R_nil _ _ _ _ _ | exact Kd.N_nil _ _ _ _ _ | exact Kd.V_nil _ _ _ _ _ | exact Kd.Q_nil _ _ _ _ _ | exact Kd.S_nil _ _ _ _ _⟩, ⟨by repeat (first | (with_reducible first | exact HB.out | apply below_alloc | apply pw_below_drewN | apply below_drew1) | exact HB.out)⟩⟩
    case round =>
      clear H'
      try clear c2
      try clear c2b0
      try clear c2b1
      try clear p2
      obtain ⟨x5_1, x6_1, rfl, HA, HK1, HO_5, HB⟩ := hrel
      cases gk with
      | zero => exact absurd HA.out (by simp [redactorref06_Tokens.l0])
      | succ k1 =>
        have H := HA.out
        clear HA
        simp only [redactorref06_Tokens.l0] at H
        by_cases c3 : x6_1 < (a0.size : Int)
        · rw [if_pos c3] at H
          have c3b0 : decide (x6_1 < (a0.size : Int)) = true := decide_eq_true c3
          clear c3
          by_cases c4 : 0 ≤ x6_1
          · rw [if_pos c4] at H
            have c4b0 := eq_true c4
            have c4b1 : decide (0 ≤ x6_1) = true := decide_eq_true c4
            clear c4
            by_cases c5 : x6_1 ≤ (a0.size : Int)
            · rw [if_pos c5] at H
              have c5b0 := eq_true c5
              have c5b1 : decide (x6_1 ≤ (a0.size : Int)) = true := decide_eq_true c5
              clear c5
              replace H := Option.bind_eq_some_iff.mp H
              obtain ⟨t132, A60, H⟩ := H
              replace H : (if t132 > 0 then (redactorref06_Tokens.l0 k1 a0 x5_1 (wrap64 (x6_1 + t132))) else (if (x5_1.length : Int) = 0 then (redactorref06_Tokens.j1 k1 a0 x5_1 x6_1 true) else (if 0 ≤ (wrap64 ((x5_1.length : Int) - 1)) then (if (wrap64 ((x5_1.length : Int) - 1)) < (x5_1.length : Int) then (redactorref06_Tokens.j1 k1 a0 x5_1 x6_1 (((rd_T63 x5_1 (wrap64 ((x5_1.length : Int) - 1))).f0) == 6)) else (none)) else (none)))) = some (r1, r2, r3) := H
              have A6 := Aside0.mk A60
              clear A60
              by_cases c7 : t132 > 0
              · rw [if_pos c7] at H
                have c7b0 : decide (0 < t132) = true := decide_eq_true c7
                clear c7
                have H' := Aside0.mk H
                clear H
                go_wp2_with (first | ((with_reducible refine gate_callee (f := 66) rfl ?_); refine goesL_ (some 21) rfl rfl Tryz.func66 (by kernel_rfl) rfl #[.string (a0.extract (x6_1 : Int).toNat a0.size)] rfl (by (try simp only [List.map_toArray, List.map_cons, List.map_nil]); first | done | rfl | (simp only [List.length_drop, List.length_take]; rfl)) ?_; (with_reducible refine (redactorref06_blank.calls k1 (a0.extract (x6_1 : Int).toNat a0.size) t132 _ A6.out).mono ?_); rintro e w' ⟨rfl, ⟨nd, rfl⟩⟩; refine ⟨_, rfl, ?_⟩))
                go_roundg k1
                case measure => have := HK1.out; omega
                case rel => exact ⟨(x5_1), (wrap64 (x6_1 + t132)), (by first | rfl | (simp; done) | (simp [*]; done)), H', ⟨by have := HK1.out; omega⟩, ⟨by (with_reducible repeat (first | apply Kd.R_alloc | apply Kd.R_drewN | apply Kd.R_drew)); exact HO_5.out⟩, ⟨by repeat (first | (with_reducible first | exact HB.out | apply below_alloc | apply pw_below_drewN | apply below_drew1) | exact HB.out)⟩⟩
              · rw [if_neg c7] at H
                have c7b0 : decide (0 < t132) = false := decide_eq_false c7
                clear c7
                have HC8 := Aside0.mk H
                clear H
                go_upto_region 9 with (first | ((with_reducible refine gate_callee (f := 66) rfl ?_); refine goesL_ (some 21) rfl rfl Tryz.func66 (by kernel_rfl) rfl #[.string (a0.extract (x6_1 : Int).toNat a0.size)] rfl (by (try simp only [List.map_toArray, List.map_cons, List.map_nil]); first | done | rfl | (simp only [List.length_drop, List.length_take]; rfl)) ?_; (with_reducible refine (redactorref06_blank.calls k1 (a0.extract (x6_1 : Int).toNat a0.size) t132 _ A6.out).mono ?_); rintro e w' ⟨rfl, ⟨nd, rfl⟩⟩; refine ⟨_, rfl, ?_⟩))
                (try simp only [Act.put, List.setIfInBounds_toArray, List.set_cons_zero, List.set_cons_succ])
                go_cut [8] (fun v8 wc => ∃ (kq : Nat) (x8_7 : Bool), v8 = .bool x8_7 ∧ Aside0 (redactorref06_Tokens.j1 kq a0 x5_1 x6_1 x8_7 = some (r1, r2, r3)) ∧ Aside0 (kq ≤ k1) ∧ Aside0 (Kd.R k63 63 wc w.heap.size (fun _ => True) u5 x5_1) ∧ Aside0 (Below w.heap.size w wc))
                case first =>
                  have H := HC8.out
                  clear HC8
                  by_cases c9 : (x5_1.length : Int) = 0
                  · rw [if_pos c9] at H
                    have c9b0 : ((x5_1.length : Int) == 0) = true := beq_iff_eq.mpr c9
                    have c9b1 : ((x5_1.length : Int) != 0) = false := bne_eq_false_iff_eq.mpr c9
                    clear c9
                    (first | rw [c9b0] | (simp only [i64_w, i32_w]; rw [c9b0]) | skip)
                    have H' := Aside0.mk H
                    clear H
                    obtain ⟨Ao10, co10, eo10⟩ := Kd.R_slice HO_5.out
                    subst eo10
                    go_wp2
                    go_meet
                    case rel => exact ⟨_, (true), (by first | rfl | (simp; done) | (simp [*]; done)), H', ⟨by have := HK1.out; first | omega | exact Nat.le_refl _⟩, ⟨by (with_reducible repeat (first | apply Kd.R_alloc | apply Kd.R_drewN | apply Kd.R_drew)); exact HO_5.out⟩, ⟨by repeat (first | (with_reducible first | exact HB.out | apply below_alloc | apply pw_below_drewN | apply below_drew1) | exact HB.out)⟩⟩
                  · rw [if_neg c9] at H
                    have c9b0 : ((x5_1.length : Int) == 0) = false := beq_eq_false_iff_ne.mpr c9
                    have c9b1 : ((x5_1.length : Int) != 0) = true := bne_iff_ne.mpr c9
                    have c9b2 : ¬ (x5_1 = []) := fun h_ => c9 (by rw [h_]; rfl)
                    (first | rw [c9b0] | (simp only [i64_w, i32_w]; rw [c9b0]) | skip)
                    obtain ⟨ji11, hji11⟩ : ∃ j_ : Int, (wrap64 ((x5_1.length : Int) - 1)) = j_ := ⟨_, rfl⟩
                    replace H : (if 0 ≤ (ji11) then (if (ji11) < (x5_1.length : Int) then (redactorref06_Tokens.j1 k1 a0 x5_1 x6_1 (((rd_T63 x5_1 (ji11)).f0) == 6)) else (none)) else (none)) = some (r1, r2, r3) := by first | (rw [hji11] at H; exact H) | (simp only [hji11] at H ⊢; exact H)
                    have hji11w : (IntKind.i64.wrap ((x5_1.length : Int) - 1)) = ji11 := (i64_w _).trans hji11
                    by_cases c12 : 0 ≤ (ji11)
                    · rw [if_pos c12] at H
                      have c12b0 : decide (0 ≤ (ji11)) = true := decide_eq_true c12
                      clear c12
                      by_cases c13 : (ji11) < (x5_1.length : Int)
                      · rw [if_pos c13] at H
                        have c13b0 : decide ((ji11) < (x5_1.length : Int)) = true := decide_eq_true c13
                        clear c13
                        have H' := Aside0.mk H
                        clear H
                        obtain ⟨Ao14, co14, eo14⟩ := Kd.R_slice HO_5.out
                        subst eo14
                        have p133 : 0 ≤ ((ji11) : Int) := of_decide_eq_true (by first | (with_reducible assumption) | assumption)
                        have q133 : (ji11) < (x5_1.length : Int) := of_decide_eq_true (by first | (with_reducible assumption) | assumption)
                        obtain ⟨ad133, e133, hx133_0, hx133_1, hx133_2, hx133_3⟩ := at_T63 (Kd.R_reads' HO_5.out).2.2 (ji11) p133 q133
                        cases e133
                        replace p133 := eq_true p133
                        replace q133 := eq_true q133
                        go_wp2
                        go_meet
                        case rel => exact ⟨_, ((((rd_T63 x5_1 (ji11)).f0) == 6)), (by first | rfl | (simp; done) | (simp only [← hji11] <;> (first | rfl | simp)) | (simp [*]; done)), H', ⟨by have := HK1.out; first | omega | exact Nat.le_refl _⟩, ⟨by (with_reducible repeat (first | apply Kd.R_alloc | apply Kd.R_drewN | apply Kd.R_drew)); exact HO_5.out⟩, ⟨by repeat (first | (with_reducible first | exact HB.out | apply below_alloc | apply pw_below_drewN | apply below_drew1) | exact HB.out)⟩⟩
                      · rw [if_neg c13] at H
                        exact absurd H (by simp)
                    · rw [if_neg c12] at H
                      exact absurd H (by simp)
                case rest =>
                  clear HC8
                  try clear c1
                  try clear p1
                  try clear q1
                  try clear hx1
                  try clear c2
                  try clear c2b0
                  try clear c2b1
                  try clear p2
                  try clear c3
                  try clear c3b0
                  try clear c4
                  try clear c4b0
                  try clear c4b1
                  try clear c5
                  try clear c5b0
                  try clear c5b1
                  try clear c6
                  try clear p6
                  try clear c7
                  try clear c7b0
                  try clear c9
                  try clear c9b0
                  try clear c9b1
                  try clear c9b2
                  try clear c12
                  try clear c12b0
                  try clear c13
                  try clear c13b0
                  try clear p13
                  try clear q13
                  try clear hx13
                  try clear hx133_0
                  try clear hx133_1
                  try clear hx133_2
                  try clear hx133_3
                  try clear p133
                  try clear p2
                  try clear q133
                  obtain ⟨kq, x8_7, rfl, HA, HJ7, HO_5, HB⟩ := hcut
                  cases kq with
                  | zero => exact absurd HA.out (by simp [redactorref06_Tokens.j1])
                  | succ kj7 =>
                    have H := HA.out
                    clear HA
                    simp only [redactorref06_Tokens.j1] at H
                    by_cases c15 : 0 ≤ x6_1
                    · rw [if_pos c15] at H
                      have c15b0 : decide (0 ≤ x6_1) = true := decide_eq_true c15
                      clear c15
                      by_cases c16 : x6_1 < (a0.size : Int)
                      · rw [if_pos c16] at H
                        have c16b0 : decide (x6_1 < (a0.size : Int)) = true := decide_eq_true c16
                        clear c16
                        by_cases c18 : (bt a0 x6_1) = 10
                        · rw [if_pos c18] at H
                          have c18b0 : ((bt a0 x6_1) == 10) = true := beq_iff_eq.mpr c18
                          have c18b1 : ((bt a0 x6_1) != 10) = false := bne_eq_false_iff_eq.mpr c18
                          clear c18
                          by_cases c19 : x8_7 = true
                          · subst c19
                            have H1 : (redactorref06_Tokens.l0 kj7 a0 x5_1 (wrap64 (x6_1 + 1))) = some (r1, r2, r3) := by rw [if_pos rfl] at H; exact H
                            clear H
                            have H := H1
                            clear H1
                            have H' := Aside0.mk H
                            clear H
                            have p17 : 0 ≤ (x6_1 : Int) := of_decide_eq_true (by first | (with_reducible assumption) | assumption)
                            have q17 : x6_1 < (a0.size : Int) := of_decide_eq_true (by first | (with_reducible assumption) | assumption)
                            have hx17 := bt_at a0 x6_1
                            replace p17 := eq_true p17
                            replace q17 := eq_true q17
                            go_wp2
                            go_roundg kj7
                            case measure => have := HK1.out; have := HJ7.out; omega
                            case rel => exact ⟨(x5_1), (wrap64 (x6_1 + 1)), (by first | rfl | (simp; done) | (simp [*]; done)), H', ⟨by have := HK1.out; have := HJ7.out; omega⟩, ⟨by (with_reducible repeat (first | apply Kd.R_alloc | apply Kd.R_drewN | apply Kd.R_drew)); exact HO_5.out⟩, ⟨by repeat (first | (with_reducible first | exact HB.out | apply below_alloc | apply pw_below_drewN | apply below_drew1) | exact HB.out)⟩⟩
                          · replace c19 := Bool.eq_false_iff.mpr c19
                            subst c19
                            have H1 : (if x5_1.length < 3518437208883 then (redactorref06_Tokens.l0 kj7 a0 (x5_1 ++ [(⟨6, (⟨#[]⟩ : ByteArray), 0, x6_1⟩ : S63)]) (wrap64 (x6_1 + 1))) else (none)) = some (r1, r2, r3) := by rw [if_neg (show ¬ (false = true) by decide)] at H; exact H
                            clear H
                            have H := H1
                            clear H1
                            by_cases c20 : x5_1.length < 3518437208883
                            · rw [if_pos c20] at H
                              have LMc20 := Aside0.mk c20
                              clear c20
                              obtain ⟨y134, hy134⟩ : ∃ y_ : List (S63), y_ = (x5_1 ++ [(⟨6, (⟨#[]⟩ : ByteArray), 0, x6_1⟩ : S63)]) := ⟨_, rfl⟩
                              replace H : (redactorref06_Tokens.l0 kj7 a0 y134 (wrap64 (x6_1 + 1))) = some (r1, r2, r3) := by first | (rw [hy134]; with_reducible exact H) | (have H2_ := (Option.bind_some _ _).symm.trans H; rw [hy134]; with_reducible exact H2_) | (have H2_ := (Option.bind_some _ _).symm.trans H; with_reducible exact H2_) | with_reducible exact H | (rw [hy134]; exact H) | exact H
                              have Ny134 := Aside0.mk hy134
                              clear hy134
                              have H' := Aside0.mk H
                              clear H
                              have p17 : 0 ≤ (x6_1 : Int) := of_decide_eq_true (by first | (with_reducible assumption) | assumption)
                              have q17 : x6_1 < (a0.size : Int) := of_decide_eq_true (by first | (with_reducible assumption) | assumption)
                              have hx17 := bt_at a0 x6_1
                              replace p17 := eq_true p17
                              replace q17 := eq_true q17
                              go_wp2_with (first | ((with_reducible refine gate_builtin (b := .append) (xs := #[.tmp 46, .tmp 49]) rfl ?_); (try (refine gate_guard (by rfl) ?_; dsimp only)); at_builtin; refine Kd.R_append k63 (w0 := w) w.heap.size rfl (.tmp 46) (.tmp 49) 59 63 (.agg #[(.int .u8 0), (.string ⟨#[]⟩), (.int .i64 0), (.int .i64 0)]) 40 rfl Tryz.underlying59 info63 rfl (by decide) (by omega) u5 x5_1 (⟨6, (⟨#[]⟩ : ByteArray), 0, x6_1⟩ : S63) [.int .u8 6, .string (⟨#[]⟩ : ByteArray), .int .i64 0, .int .i64 x6_1] (fun _ => True) (fun _ => False) rfl rfl ?aP (fun _ hk => hk.elim) ?aF ?aO ?aB ?aS ?aL ?_; (case aP => exact k63_mkM _ _ _ (⟨6, (⟨#[]⟩ : ByteArray), 0, x6_1⟩ : S63)); (case aB => exact (by repeat (first | (with_reducible first | exact HB.out | apply below_alloc | apply pw_below_drewN | apply below_drew1) | exact HB.out))); (case aF => exact (fun _ _ => trivial)); (case aO => exact (by (with_reducible repeat (first | apply Kd.R_alloc | apply Kd.R_drewN | apply Kd.R_drew)); exact HO_5.out)); (case aS => exact (below_size (by repeat (first | (with_reducible first | exact HB.out | apply below_alloc | apply pw_below_drewN | apply below_drew1) | exact HB.out)))); (case aL => have := LMc20.out; omega); intro v135 w21 ho hb hg hat; rw [← Ny134.out] at ho; have n0_ := Aside0.mk (hb); have n1_ := Aside0.mk (ho); clear HB; clear HO_5; have HB := n0_; have HO136 := n1_; clear n0_ n1_; clear ho hb hg hat))
                              go_roundg kj7
                              case measure => have := HK1.out; have := HJ7.out; omega
                              case rel => exact ⟨(y134), (wrap64 (x6_1 + 1)), (by first | rfl | (simp; done) | (simp [*]; done)), H', ⟨by have := HK1.out; have := HJ7.out; omega⟩, ⟨by (with_reducible repeat (first | apply Kd.R_alloc | apply Kd.R_drewN | apply Kd.R_drew)); exact HO136.out⟩, ⟨by repeat (first | (with_reducible first | exact HB.out | apply below_alloc | apply pw_below_drewN | apply below_drew1) | exact HB.out)⟩⟩
                            · rw [if_neg c20] at H
                              exact absurd H (by simp)
                        · rw [if_neg c18] at H
                          have c18b0 : ((bt a0 x6_1) == 10) = false := beq_eq_false_iff_ne.mpr c18
                          have c18b1 : ((bt a0 x6_1) != 10) = true := bne_iff_ne.mpr c18
                          have c22b0 := eq_true (of_decide_eq_true (by first | (with_reducible assumption) | assumption) : 0 ≤ x6_1)
                          by_cases c23 : x6_1 ≤ (a0.size : Int)
                          · rw [if_pos c23] at H
                            have c23b0 := eq_true c23
                            have c23b1 : decide (x6_1 ≤ (a0.size : Int)) = true := decide_eq_true c23
                            clear c23
                            replace H := Option.bind_eq_some_iff.mp H
                            obtain ⟨⟨t137, t138, t139, t140, t141⟩, A240, H⟩ := H
                            replace H : (if t141 = 0 then (some (([] : List (S63)), 20, x6_1)) else (if x5_1.length < 3518437208883 then (redactorref06_Tokens.l0 kj7 a0 (x5_1 ++ [(⟨t137, t138, t139, x6_1⟩ : S63)]) (wrap64 (x6_1 + t141))) else (none))) = some (r1, r2, r3) := H
                            have A24 := Aside0.mk A240
                            clear A240
                            by_cases c25 : t141 = 0
                            · rw [if_pos c25] at H
                              have c25b0 : (t141 == 0) = true := beq_iff_eq.mpr c25
                              have c25b1 : (t141 != 0) = false := bne_eq_false_iff_eq.mpr c25
                              clear c25
                              simp only [Option.some.injEq, Prod.mk.injEq] at H
                              obtain ⟨rfl, rfl, rfl⟩ := H
                              have p17 : 0 ≤ (x6_1 : Int) := of_decide_eq_true (by first | (with_reducible assumption) | assumption)
                              have q17 : x6_1 < (a0.size : Int) := of_decide_eq_true (by first | (with_reducible assumption) | assumption)
                              have hx17 := bt_at a0 x6_1
                              replace p17 := eq_true p17
                              replace q17 := eq_true q17
                              go_wp2_with (first | ((with_reducible refine gate_callee (f := 67) rfl ?_); refine goesL_ (some 57) rfl rfl Tryz.func67 (by kernel_rfl) rfl #[.string (a0.extract (x6_1 : Int).toNat a0.size)] rfl (by (try simp only [List.map_toArray, List.map_cons, List.map_nil]); first | done | rfl | (simp only [List.length_drop, List.length_take]; rfl)) ?_; (with_reducible refine (redactorref06_one.calls kj7 (a0.extract (x6_1 : Int).toNat a0.size) t137 t138 t139 t140 t141 _ A24.out).mono ?_); rintro e w26 ⟨rfl, hb⟩; refine ⟨_, rfl, ?_⟩; have n0_ := Aside0.mk (Kd.R_below (by (with_reducible repeat (first | apply Kd.R_alloc | apply Kd.R_drewN | apply Kd.R_drew)); exact HO_5.out) hb); have n1_ := Aside0.mk (below_step (by repeat (first | (with_reducible first | exact HB.out | apply below_alloc | apply pw_below_drewN | apply below_drew1) | exact HB.out)) hb); clear HO_5; clear HB; have HO_5 := n0_; have HB := n1_; clear n0_ n1_; (try clear hb); (try clear hb2); (try clear hk); (try clear hi)) | ((with_reducible refine gate_dst (N := 9) rfl ?_); (try (refine gate_guard (by rfl) ?_; dsimp only)); refine box_event ?hg (N := 9) ?hd (cs := #[.int .u8 0, .string (⟨#[]⟩ : ByteArray), .int .i64 0, .int .i64 0]) (t := 63) ?hr ?_; (case hd => rfl); (case hg => rfl); (case hr => first | (go_simp; done) | (go_simp; rfl)); intro gb142 hg w27 hbox hb; have n0_ := Aside0.mk (Kd.R_below (Kd.R_elderB (by (with_reducible repeat (first | apply Kd.R_alloc | apply Kd.R_drewN | apply Kd.R_drew)); exact HO_5.out) gb142 (Nat.le_of_eq hg.symm)) hb); have n1_ := Aside0.mk (below_step (by repeat (first | (with_reducible first | exact HB.out | apply below_alloc | apply pw_below_drewN | apply below_drew1) | exact HB.out)) hb); have n2_ := Aside0.mk (hbox); have n3_ := Aside0.mk ((by rw [hg]; exact (below_size (by repeat (first | (with_reducible first | exact HB.out | apply below_alloc | apply pw_below_drewN | apply below_drew1) | exact HB.out))) : w.heap.size ≤ gb142)); have n4_ := Aside0.mk ((by rw [hg]; exact (below_size (by repeat (first | (with_reducible first | exact HB.out | apply below_alloc | apply pw_below_drewN | apply below_drew1) | exact HB.out))) : w.heap.size ≤ gb142)); clear HO_5; clear HB; have HO_5 := n0_; have HB := n1_; have BK142 := n2_; have GW142 := n3_; have GE142 := n4_; clear n0_ n1_ n2_ n3_ n4_; clear hb hbox hg; have hcz28_0 : w27.cell? ⟨gb142, 0, none⟩ = some (.int .u8 0) := (blk_cell BK142.out 0).trans rfl; have hcz28_1 : w27.cell? ⟨gb142, 1, none⟩ = some (.string (⟨#[]⟩ : ByteArray)) := (blk_cell BK142.out 1).trans rfl; have hcz28_2 : w27.cell? ⟨gb142, 2, none⟩ = some (.int .i64 0) := (blk_cell BK142.out 2).trans rfl; have hcz28_3 : w27.cell? ⟨gb142, 3, none⟩ = some (.int .i64 0) := (blk_cell BK142.out 3).trans rfl; have hfz28_0 := blk_frozen BK142.out 0; have hfz28_1 := blk_frozen BK142.out 1; have hfz28_2 := blk_frozen BK142.out 2; have hfz28_3 := blk_frozen BK142.out 3))
                              go_ret3
                              exact ⟨_, by first | rfl | (simp [errW_none, errW_some] <;> rfl) | (simp [*, errW_none, errW_some] <;> rfl), by first | exact Kd.R_nil _ _ _ _ _ | exact Kd.N_nil _ _ _ _ _ | exact Kd.V_nil _ _ _ _ _ | exact Kd.Q_nil _ _ _ _ _ | exact Kd.S_nil _ _ _ _ _, by repeat (first | (with_reducible first | exact HB.out | apply below_alloc | apply pw_below_drewN | apply below_drew1 | refine below_set ?_ GE142.out) | exact HB.out)⟩
                            · rw [if_neg c25] at H
                              have c25b0 : (t141 == 0) = false := beq_eq_false_iff_ne.mpr c25
                              have c25b1 : (t141 != 0) = true := bne_iff_ne.mpr c25
                              by_cases c29 : x5_1.length < 3518437208883
                              · rw [if_pos c29] at H
                                have LMc29 := Aside0.mk c29
                                clear c29
                                obtain ⟨y143, hy143⟩ : ∃ y_ : List (S63), y_ = (x5_1 ++ [(⟨t137, t138, t139, x6_1⟩ : S63)]) := ⟨_, rfl⟩
                                replace H : (redactorref06_Tokens.l0 kj7 a0 y143 (wrap64 (x6_1 + t141))) = some (r1, r2, r3) := by first | (rw [hy143]; with_reducible exact H) | (have H2_ := (Option.bind_some _ _).symm.trans H; rw [hy143]; with_reducible exact H2_) | (have H2_ := (Option.bind_some _ _).symm.trans H; with_reducible exact H2_) | with_reducible exact H | (rw [hy143]; exact H) | exact H
                                have Ny143 := Aside0.mk hy143
                                clear hy143
                                have H' := Aside0.mk H
                                clear H
                                have p17 : 0 ≤ (x6_1 : Int) := of_decide_eq_true (by first | (with_reducible assumption) | assumption)
                                have q17 : x6_1 < (a0.size : Int) := of_decide_eq_true (by first | (with_reducible assumption) | assumption)
                                have hx17 := bt_at a0 x6_1
                                replace p17 := eq_true p17
                                replace q17 := eq_true q17
                                go_wp2_with (first | ((with_reducible refine gate_callee (f := 67) rfl ?_); refine goesL_ (some 57) rfl rfl Tryz.func67 (by kernel_rfl) rfl #[.string (a0.extract (x6_1 : Int).toNat a0.size)] rfl (by (try simp only [List.map_toArray, List.map_cons, List.map_nil]); first | done | rfl | (simp only [List.length_drop, List.length_take]; rfl)) ?_; (with_reducible refine (redactorref06_one.calls kj7 (a0.extract (x6_1 : Int).toNat a0.size) t137 t138 t139 t140 t141 _ A24.out).mono ?_); rintro e w30 ⟨rfl, hb⟩; refine ⟨_, rfl, ?_⟩; have n0_ := Aside0.mk (Kd.R_below (by (with_reducible repeat (first | apply Kd.R_alloc | apply Kd.R_drewN | apply Kd.R_drew)); exact HO_5.out) hb); have n1_ := Aside0.mk (below_step (by repeat (first | (with_reducible first | exact HB.out | apply below_alloc | apply pw_below_drewN | apply below_drew1) | exact HB.out)) hb); clear HO_5; clear HB; have HO_5 := n0_; have HB := n1_; clear n0_ n1_; (try clear hb); (try clear hb2); (try clear hk); (try clear hi)) | ((with_reducible refine gate_dst (N := 9) rfl ?_); (try (refine gate_guard (by rfl) ?_; dsimp only)); refine box_event ?hg (N := 9) ?hd (cs := #[.int .u8 0, .string (⟨#[]⟩ : ByteArray), .int .i64 0, .int .i64 0]) (t := 63) ?hr ?_; (case hd => rfl); (case hg => rfl); (case hr => first | (go_simp; done) | (go_simp; rfl)); intro gb142 hg w31 hbox hb; have n0_ := Aside0.mk (Kd.R_below (Kd.R_elderB (by (with_reducible repeat (first | apply Kd.R_alloc | apply Kd.R_drewN | apply Kd.R_drew)); exact HO_5.out) gb142 (Nat.le_of_eq hg.symm)) hb); have n1_ := Aside0.mk (below_step (by repeat (first | (with_reducible first | exact HB.out | apply below_alloc | apply pw_below_drewN | apply below_drew1) | exact HB.out)) hb); have n2_ := Aside0.mk (hbox); have n3_ := Aside0.mk ((by rw [hg]; exact (below_size (by repeat (first | (with_reducible first | exact HB.out | apply below_alloc | apply pw_below_drewN | apply below_drew1) | exact HB.out))) : w.heap.size ≤ gb142)); have n4_ := Aside0.mk ((by rw [hg]; exact (below_size (by repeat (first | (with_reducible first | exact HB.out | apply below_alloc | apply pw_below_drewN | apply below_drew1) | exact HB.out))) : w.heap.size ≤ gb142)); clear HO_5; clear HB; have HO_5 := n0_; have HB := n1_; have BK142 := n2_; have GW142 := n3_; have GE142 := n4_; clear n0_ n1_ n2_ n3_ n4_; clear hb hbox hg; have hcz32_0 : w31.cell? ⟨gb142, 0, none⟩ = some (.int .u8 0) := (blk_cell BK142.out 0).trans rfl; have hcz32_1 : w31.cell? ⟨gb142, 1, none⟩ = some (.string (⟨#[]⟩ : ByteArray)) := (blk_cell BK142.out 1).trans rfl; have hcz32_2 : w31.cell? ⟨gb142, 2, none⟩ = some (.int .i64 0) := (blk_cell BK142.out 2).trans rfl; have hcz32_3 : w31.cell? ⟨gb142, 3, none⟩ = some (.int .i64 0) := (blk_cell BK142.out 3).trans rfl; have hfz32_0 := blk_frozen BK142.out 0; have hfz32_1 := blk_frozen BK142.out 1; have hfz32_2 := blk_frozen BK142.out 2; have hfz32_3 := blk_frozen BK142.out 3) | ((with_reducible refine gate_dst (N := 66) rfl ?_); refine Kd.event_run rfl (load_box rfl rfl (by (with_reducible repeat (first | refine blk_drewN ?_ _ | refine blk_drew ?_ | refine blk_alloc ?_ _)); refine blk_put (cs := #[.int .u8 t137, .string t138, .int .i64 t139, .int .i64 t140]) ?_ 3 _ rfl; (with_reducible repeat (first | refine blk_drewN ?_ _ | refine blk_drew ?_ | refine blk_alloc ?_ _)); refine blk_put (cs := #[.int .u8 t137, .string t138, .int .i64 t139, .int .i64 0]) ?_ 3 _ rfl; (with_reducible repeat (first | refine blk_drewN ?_ _ | refine blk_drew ?_ | refine blk_alloc ?_ _)); refine blk_put (cs := #[.int .u8 t137, .string t138, .int .i64 0, .int .i64 0]) ?_ 2 _ rfl; (with_reducible repeat (first | refine blk_drewN ?_ _ | refine blk_drew ?_ | refine blk_alloc ?_ _)); refine blk_put (cs := #[.int .u8 t137, .string (⟨#[]⟩ : ByteArray), .int .i64 0, .int .i64 0]) ?_ 1 _ rfl; (with_reducible repeat (first | refine blk_drewN ?_ _ | refine blk_drew ?_ | refine blk_alloc ?_ _)); refine blk_put (cs := #[.int .u8 0, .string (⟨#[]⟩ : ByteArray), .int .i64 0, .int .i64 0]) ?_ 0 _ rfl; (with_reducible repeat (first | refine blk_drewN ?_ _ | refine blk_drew ?_ | refine blk_alloc ?_ _)); exact BK142.out)) ?_) | ((with_reducible refine gate_builtin (b := .append) (xs := #[.tmp 65, .tmp 67]) rfl ?_); (try (refine gate_guard (by rfl) ?_; dsimp only)); at_builtin; refine Kd.R_append k63 (w0 := w) w.heap.size rfl (.tmp 65) (.tmp 67) 59 63 (.agg #[(.int .u8 0), (.string ⟨#[]⟩), (.int .i64 0), (.int .i64 0)]) 40 rfl Tryz.underlying59 info63 rfl (by decide) (by omega) u5 x5_1 (⟨t137, t138, t139, x6_1⟩ : S63) [.int .u8 t137, .string t138, .int .i64 t139, .int .i64 x6_1] (fun k_ => k_ ≠ gb142) (fun _ => False) rfl (by first | (go_simp; done) | (go_simp; rfl)) ?aP (fun _ hk => hk.elim) ?aF ?aO ?aB ?aS ?aL ?_; (case aP => exact k63_mkM _ _ _ (⟨t137, t138, t139, x6_1⟩ : S63)); (case aB => exact (by repeat (first | (with_reducible first | exact HB.out | apply below_alloc | apply pw_below_drewN | apply below_drew1 | refine below_set ?_ GE142.out) | exact HB.out))); (case aF => exact (fun k_ hk => Kd.freshB (g := gb142) (o := .cells #[.int .u8 t137, .string t138, .int .i64 t139, .int .i64 x6_1] 63 (0, 0)) (by (with_reducible repeat (first | refine blk_drewN ?_ _ | refine blk_drew ?_ | refine blk_alloc ?_ _)); refine blk_put (cs := #[.int .u8 t137, .string t138, .int .i64 t139, .int .i64 t140]) ?_ 3 _ rfl; (with_reducible repeat (first | refine blk_drewN ?_ _ | refine blk_drew ?_ | refine blk_alloc ?_ _)); refine blk_put (cs := #[.int .u8 t137, .string t138, .int .i64 t139, .int .i64 0]) ?_ 3 _ rfl; (with_reducible repeat (first | refine blk_drewN ?_ _ | refine blk_drew ?_ | refine blk_alloc ?_ _)); refine blk_put (cs := #[.int .u8 t137, .string t138, .int .i64 0, .int .i64 0]) ?_ 2 _ rfl; (with_reducible repeat (first | refine blk_drewN ?_ _ | refine blk_drew ?_ | refine blk_alloc ?_ _)); refine blk_put (cs := #[.int .u8 t137, .string (⟨#[]⟩ : ByteArray), .int .i64 0, .int .i64 0]) ?_ 1 _ rfl; (with_reducible repeat (first | refine blk_drewN ?_ _ | refine blk_drew ?_ | refine blk_alloc ?_ _)); refine blk_put (cs := #[.int .u8 0, .string (⟨#[]⟩ : ByteArray), .int .i64 0, .int .i64 0]) ?_ 0 _ rfl; (with_reducible repeat (first | refine blk_drewN ?_ _ | refine blk_drew ?_ | refine blk_alloc ?_ _)); exact BK142.out) k_ hk)); (case aO => exact (by (with_reducible repeat (first | apply Kd.R_alloc | apply Kd.R_drewN | apply Kd.R_drew)); exact Kd.R_mono (Kd.R_far (p := ⟨gb142, 3, none⟩) (Kd.R_far (p := ⟨gb142, 3, none⟩) (Kd.R_far (p := ⟨gb142, 2, none⟩) (Kd.R_far (p := ⟨gb142, 1, none⟩) (Kd.R_far (p := ⟨gb142, 0, none⟩) (Kd.R_mono HO_5.out (fun k_ hk => (⟨hk, hk.2⟩ : _ ∧ k_ ≠ gb142))) (fun _ hk => hk.2) (.int .u8 t137)) (fun _ hk => hk.2) (.string t138)) (fun _ hk => hk.2) (.int .i64 t139)) (fun _ hk => hk.2) (.int .i64 t140)) (fun _ hk => hk.2) (.int .i64 x6_1)) (fun _ hk => hk.1.2))); (case aS => exact (below_size (by repeat (first | (with_reducible first | exact HB.out | apply below_alloc | apply pw_below_drewN | apply below_drew1 | refine below_set ?_ GE142.out) | exact HB.out)))); (case aL => have := LMc29.out; omega); intro v144 w33 ho hb hg hat; rw [← Ny143.out] at ho; have n0_ := Aside0.mk (blk_grown (g := gb142) (o := .cells #[.int .u8 t137, .string t138, .int .i64 t139, .int .i64 x6_1] 63 (0, 0)) (by (with_reducible repeat (first | refine blk_drewN ?_ _ | refine blk_drew ?_ | refine blk_alloc ?_ _)); refine blk_put (cs := #[.int .u8 t137, .string t138, .int .i64 t139, .int .i64 t140]) ?_ 3 _ rfl; (with_reducible repeat (first | refine blk_drewN ?_ _ | refine blk_drew ?_ | refine blk_alloc ?_ _)); refine blk_put (cs := #[.int .u8 t137, .string t138, .int .i64 t139, .int .i64 0]) ?_ 3 _ rfl; (with_reducible repeat (first | refine blk_drewN ?_ _ | refine blk_drew ?_ | refine blk_alloc ?_ _)); refine blk_put (cs := #[.int .u8 t137, .string t138, .int .i64 0, .int .i64 0]) ?_ 2 _ rfl; (with_reducible repeat (first | refine blk_drewN ?_ _ | refine blk_drew ?_ | refine blk_alloc ?_ _)); refine blk_put (cs := #[.int .u8 t137, .string (⟨#[]⟩ : ByteArray), .int .i64 0, .int .i64 0]) ?_ 1 _ rfl; (with_reducible repeat (first | refine blk_drewN ?_ _ | refine blk_drew ?_ | refine blk_alloc ?_ _)); refine blk_put (cs := #[.int .u8 0, .string (⟨#[]⟩ : ByteArray), .int .i64 0, .int .i64 0]) ?_ 0 _ rfl; (with_reducible repeat (first | refine blk_drewN ?_ _ | refine blk_drew ?_ | refine blk_alloc ?_ _)); exact BK142.out) hg (Kd.R_away HO_5.out (fun _ hk => hk.2))); have n1_ := Aside0.mk (hb); have n2_ := Aside0.mk (ho); clear BK142; clear HB; clear HO_5; have BK142 := n0_; have HB := n1_; have HO145 := n2_; clear n0_ n1_ n2_; clear ho hb hg hat))
                                go_roundg kj7
                                case measure => have := HK1.out; have := HJ7.out; omega
                                case rel => exact ⟨(y143), (wrap64 (x6_1 + t141)), (by first | rfl | (simp; done) | (simp [*]; done)), H', ⟨by have := HK1.out; have := HJ7.out; omega⟩, ⟨by (with_reducible repeat (first | apply Kd.R_alloc | apply Kd.R_drewN | apply Kd.R_drew)); exact Kd.R_mono HO145.out (fun _ hk => trivial)⟩, ⟨by repeat (first | (with_reducible first | exact HB.out | apply below_alloc | apply pw_below_drewN | apply below_drew1 | refine below_set ?_ GE142.out) | exact HB.out)⟩⟩
                              · rw [if_neg c29] at H
                                exact absurd H (by simp)
                          · rw [if_neg c23] at H
                            exact absurd H (by simp)
                      · rw [if_neg c16] at H
                        exact absurd H (by simp)
                    · rw [if_neg c15] at H
                      exact absurd H (by simp)
            · rw [if_neg c5] at H
              exact absurd H (by simp)
          · rw [if_neg c4] at H
            exact absurd H (by simp)
        · rw [if_neg c3] at H
          have c3b0 : decide (x6_1 < (a0.size : Int)) = false := decide_eq_false c3
          clear c3
          have HC34 := Aside0.mk H
          clear H
          go_upto_region 20 with (fail)
          go_cut [84] (fun v84 wc => ∃ (kq : Nat) (x84_33 : Bool), v84 = .bool x84_33 ∧ Aside0 (redactorref06_Tokens.j2 kq a0 x5_1 x84_33 = some (r1, r2, r3)) ∧ Aside0 (kq ≤ k1) ∧ Aside0 (Kd.R k63 63 wc w.heap.size (fun _ => True) u5 x5_1) ∧ Aside0 (Below w.heap.size w wc))
          case first =>
            have H := HC34.out
            clear HC34
            by_cases c35 : (x5_1.length : Int) > 0
            · rw [if_pos c35] at H
              have c35b0 : decide (0 < (x5_1.length : Int)) = true := decide_eq_true c35
              have c35b1 : decide (0 < x5_1.length) = true := decide_eq_true (by omega)
              clear c35
              (first | rw [c35b0] | (simp only [i64_w, i32_w]; rw [c35b0]) | skip)
              obtain ⟨ji36, hji36⟩ : ∃ j_ : Int, (wrap64 ((x5_1.length : Int) - 1)) = j_ := ⟨_, rfl⟩
              replace H : (if 0 ≤ (ji36) then (if (ji36) < (x5_1.length : Int) then (redactorref06_Tokens.j2 k1 a0 x5_1 (((rd_T63 x5_1 (ji36)).f0) != 6)) else (none)) else (none)) = some (r1, r2, r3) := by first | (rw [hji36] at H; exact H) | (simp only [hji36] at H ⊢; exact H)
              have hji36w : (IntKind.i64.wrap ((x5_1.length : Int) - 1)) = ji36 := (i64_w _).trans hji36
              by_cases c37 : 0 ≤ (ji36)
              · rw [if_pos c37] at H
                have c37b0 : decide (0 ≤ (ji36)) = true := decide_eq_true c37
                clear c37
                by_cases c38 : (ji36) < (x5_1.length : Int)
                · rw [if_pos c38] at H
                  have c38b0 : decide ((ji36) < (x5_1.length : Int)) = true := decide_eq_true c38
                  clear c38
                  have H' := Aside0.mk H
                  clear H
                  obtain ⟨Ao39, co39, eo39⟩ := Kd.R_slice HO_5.out
                  subst eo39
                  have p146 : 0 ≤ ((ji36) : Int) := of_decide_eq_true (by first | (with_reducible assumption) | assumption)
                  have q146 : (ji36) < (x5_1.length : Int) := of_decide_eq_true (by first | (with_reducible assumption) | assumption)
                  obtain ⟨ad146, e146, hx146_0, hx146_1, hx146_2, hx146_3⟩ := at_T63 (Kd.R_reads' HO_5.out).2.2 (ji36) p146 q146
                  cases e146
                  replace p146 := eq_true p146
                  replace q146 := eq_true q146
                  go_wp2
                  go_meet
                  case rel => exact ⟨_, ((((rd_T63 x5_1 (ji36)).f0) != 6)), (by first | rfl | (simp; done) | (simp only [← hji36] <;> (first | rfl | simp)) | (simp [*]; done)), H', ⟨by have := HK1.out; first | omega | exact Nat.le_refl _⟩, ⟨by (with_reducible repeat (first | apply Kd.R_alloc | apply Kd.R_drewN | apply Kd.R_drew)); exact HO_5.out⟩, ⟨by repeat (first | (with_reducible first | exact HB.out | apply below_alloc | apply pw_below_drewN | apply below_drew1) | exact HB.out)⟩⟩
                · rw [if_neg c38] at H
                  exact absurd H (by simp)
              · rw [if_neg c37] at H
                exact absurd H (by simp)
            · rw [if_neg c35] at H
              have c35b0 : decide (0 < (x5_1.length : Int)) = false := decide_eq_false c35
              have c35b1 : decide (0 < x5_1.length) = false := decide_eq_false (by omega)
              clear c35
              (first | rw [c35b0] | (simp only [i64_w, i32_w]; rw [c35b0]) | skip)
              have H' := Aside0.mk H
              clear H
              obtain ⟨Ao40, co40, eo40⟩ := Kd.R_slice HO_5.out
              subst eo40
              go_wp2
              go_meet
              case rel => exact ⟨_, (false), (by first | rfl | (simp; done) | (simp [*]; done)), H', ⟨by have := HK1.out; first | omega | exact Nat.le_refl _⟩, ⟨by (with_reducible repeat (first | apply Kd.R_alloc | apply Kd.R_drewN | apply Kd.R_drew)); exact HO_5.out⟩, ⟨by repeat (first | (with_reducible first | exact HB.out | apply below_alloc | apply pw_below_drewN | apply below_drew1) | exact HB.out)⟩⟩
          case rest =>
            clear HC34
            try clear c1
            try clear p1
            try clear q1
            try clear hx1
            try clear c2
            try clear c2b0
            try clear c2b1
            try clear p2
            try clear c3
            try clear c3b0
            try clear c4
            try clear c4b0
            try clear c4b1
            try clear c5
            try clear c5b0
            try clear c5b1
            try clear c6
            try clear p6
            try clear c7
            try clear c7b0
            try clear c9
            try clear c9b0
            try clear c9b1
            try clear c9b2
            try clear c12
            try clear c12b0
            try clear c13
            try clear c13b0
            try clear p13
            try clear q13
            try clear hx13
            try clear p14
            try clear q14
            try clear hx14
            try clear c15
            try clear c15b0
            try clear c16
            try clear c16b0
            try clear p17
            try clear q17
            try clear hx17
            try clear c18
            try clear c18b0
            try clear c18b1
            try clear c19
            try clear c20
            try clear c22
            try clear c22b0
            try clear c23
            try clear c23b0
            try clear c23b1
            try clear c24
            try clear c25
            try clear c25b0
            try clear c25b1
            try clear c29
            try clear c35
            try clear c35b0
            try clear c35b1
            try clear c37
            try clear c37b0
            try clear c38
            try clear c38b0
            try clear hcz28_0
            try clear hcz28_1
            try clear hcz28_2
            try clear hcz28_3
            try clear hcz32_0
            try clear hcz32_1
            try clear hcz32_2
            try clear hcz32_3
            try clear hfz28_0
            try clear hfz28_1
            try clear hfz28_2
            try clear hfz28_3
            try clear hfz32_0
            try clear hfz32_1
            try clear hfz32_2
            try clear hfz32_3
            try clear hx133_0
            try clear hx133_1
            try clear hx133_2
            try clear hx133_3
            try clear hx146_0
            try clear hx146_1
            try clear hx146_2
            try clear hx146_3
            try clear p1
            try clear p13
            try clear p133
            try clear p146
            try clear p17
            try clear p2
            try clear p6
            try clear q1
            try clear q13
            try clear q133
            try clear q146
            try clear q17
            obtain ⟨kq, x84_33, rfl, HA, HJ33, HO_5, HB⟩ := hcut
            cases kq with
            | zero => exact absurd HA.out (by simp [redactorref06_Tokens.j2])
            | succ kj33 =>
              have H := HA.out
              clear HA
              simp only [redactorref06_Tokens.j2] at H
              by_cases c41 : x84_33 = true
              · subst c41
                have H1 : (if x5_1.length < 3518437208883 then ((some (x5_1 ++ [(⟨6, (⟨#[]⟩ : ByteArray), 0, (a0.size : Int)⟩ : S63)] : List (S63))).bind fun y147 => (if (y147.length : Int) > 1000 then (some (([] : List (S63)), 3, 0)) else (some (y147, 0, 0)))) else (none)) = some (r1, r2, r3) := by rw [if_pos rfl] at H; exact H
                clear H
                have H := H1
                clear H1
                by_cases c42 : x5_1.length < 3518437208883
                · rw [if_pos c42] at H
                  have LMc42 := Aside0.mk c42
                  clear c42
                  obtain ⟨y147, hy147⟩ : ∃ y_ : List (S63), y_ = (x5_1 ++ [(⟨6, (⟨#[]⟩ : ByteArray), 0, (a0.size : Int)⟩ : S63)]) := ⟨_, rfl⟩
                  replace H : (if (y147.length : Int) > 1000 then (some (([] : List (S63)), 3, 0)) else (some (y147, 0, 0))) = some (r1, r2, r3) := by first | (rw [hy147]; with_reducible exact H) | (have H2_ := (Option.bind_some _ _).symm.trans H; rw [hy147]; with_reducible exact H2_) | (have H2_ := (Option.bind_some _ _).symm.trans H; with_reducible exact H2_) | with_reducible exact H | (rw [hy147]; exact H) | exact H
                  have Ny147 := Aside0.mk hy147
                  clear hy147
                  by_cases c43 : (y147.length : Int) > 1000
                  · rw [if_pos c43] at H
                    have c43b0 : decide (1000 < (y147.length : Int)) = true := decide_eq_true c43
                    have c43b1 : decide (1000 < y147.length) = true := decide_eq_true (by omega)
                    clear c43
                    simp only [Option.some.injEq, Prod.mk.injEq] at H
                    obtain ⟨rfl, rfl, rfl⟩ := H
                    go_wp2_with (first | ((with_reducible refine gate_builtin (b := .append) (xs := #[.tmp 85, .tmp 89]) rfl ?_); (try (refine gate_guard (by rfl) ?_; dsimp only)); at_builtin; refine Kd.R_append k63 (w0 := w) w.heap.size rfl (.tmp 85) (.tmp 89) 59 63 (.agg #[(.int .u8 0), (.string ⟨#[]⟩), (.int .i64 0), (.int .i64 0)]) 40 rfl Tryz.underlying59 info63 rfl (by decide) (by omega) u5 x5_1 (⟨6, (⟨#[]⟩ : ByteArray), 0, (a0.size : Int)⟩ : S63) [.int .u8 6, .string (⟨#[]⟩ : ByteArray), .int .i64 0, .int .i64 (a0.size : Int)] (fun _ => True) (fun _ => False) rfl rfl ?aP (fun _ hk => hk.elim) ?aF ?aO ?aB ?aS ?aL ?_; (case aP => exact k63_mkM _ _ _ (⟨6, (⟨#[]⟩ : ByteArray), 0, (a0.size : Int)⟩ : S63)); (case aB => exact (by repeat (first | (with_reducible first | exact HB.out | apply below_alloc | apply pw_below_drewN | apply below_drew1) | exact HB.out))); (case aF => exact (fun _ _ => trivial)); (case aO => exact (by (with_reducible repeat (first | apply Kd.R_alloc | apply Kd.R_drewN | apply Kd.R_drew)); exact HO_5.out)); (case aS => exact (below_size (by repeat (first | (with_reducible first | exact HB.out | apply below_alloc | apply pw_below_drewN | apply below_drew1) | exact HB.out)))); (case aL => have := LMc42.out; omega); intro v148 w44 ho hb hg hat; rw [← Ny147.out] at ho; have n0_ := Aside0.mk (hb); have n1_ := Aside0.mk (ho); clear HB; clear HO_5; have HB := n0_; have HO149 := n1_; clear n0_ n1_; clear ho hb hg hat; obtain ⟨Ao45, co45, eo45⟩ := Kd.R_slice HO149.out; subst eo45))
                    go_ret3
                    exact ⟨_, by first | rfl | (simp [errW_none, errW_some] <;> rfl) | (simp [*, errW_none, errW_some] <;> rfl), by first | exact Kd.R_nil _ _ _ _ _ | exact Kd.N_nil _ _ _ _ _ | exact Kd.V_nil _ _ _ _ _ | exact Kd.Q_nil _ _ _ _ _ | exact Kd.S_nil _ _ _ _ _, by repeat (first | (with_reducible first | exact HB.out | apply below_alloc | apply pw_below_drewN | apply below_drew1) | exact HB.out)⟩
                  · rw [if_neg c43] at H
                    have c43b0 : decide (1000 < (y147.length : Int)) = false := decide_eq_false c43
                    have c43b1 : decide (1000 < y147.length) = false := decide_eq_false (by omega)
                    clear c43
                    simp only [Option.some.injEq, Prod.mk.injEq] at H
                    obtain ⟨rfl, rfl, rfl⟩ := H
                    go_wp2_with (first | ((with_reducible refine gate_builtin (b := .append) (xs := #[.tmp 85, .tmp 89]) rfl ?_); (try (refine gate_guard (by rfl) ?_; dsimp only)); at_builtin; refine Kd.R_append k63 (w0 := w) w.heap.size rfl (.tmp 85) (.tmp 89) 59 63 (.agg #[(.int .u8 0), (.string ⟨#[]⟩), (.int .i64 0), (.int .i64 0)]) 40 rfl Tryz.underlying59 info63 rfl (by decide) (by omega) u5 x5_1 (⟨6, (⟨#[]⟩ : ByteArray), 0, (a0.size : Int)⟩ : S63) [.int .u8 6, .string (⟨#[]⟩ : ByteArray), .int .i64 0, .int .i64 (a0.size : Int)] (fun _ => True) (fun _ => False) rfl rfl ?aP (fun _ hk => hk.elim) ?aF ?aO ?aB ?aS ?aL ?_; (case aP => exact k63_mkM _ _ _ (⟨6, (⟨#[]⟩ : ByteArray), 0, (a0.size : Int)⟩ : S63)); (case aB => exact (by repeat (first | (with_reducible first | exact HB.out | apply below_alloc | apply pw_below_drewN | apply below_drew1) | exact HB.out))); (case aF => exact (fun _ _ => trivial)); (case aO => exact (by (with_reducible repeat (first | apply Kd.R_alloc | apply Kd.R_drewN | apply Kd.R_drew)); exact HO_5.out)); (case aS => exact (below_size (by repeat (first | (with_reducible first | exact HB.out | apply below_alloc | apply pw_below_drewN | apply below_drew1) | exact HB.out)))); (case aL => have := LMc42.out; omega); intro v148 w46 ho hb hg hat; rw [← Ny147.out] at ho; have n0_ := Aside0.mk (hb); have n1_ := Aside0.mk (ho); clear HB; clear HO_5; have HB := n0_; have HO149 := n1_; clear n0_ n1_; clear ho hb hg hat; obtain ⟨Ao47, co47, eo47⟩ := Kd.R_slice HO149.out; subst eo47))
                    go_ret3
                    exact ⟨_, by first | rfl | (simp [errW_none, errW_some] <;> rfl) | (simp [*, errW_none, errW_some] <;> rfl), by (with_reducible repeat (first | apply Kd.R_alloc | apply Kd.R_drewN | apply Kd.R_drew)); exact HO149.out, by repeat (first | (with_reducible first | exact HB.out | apply below_alloc | apply pw_below_drewN | apply below_drew1) | exact HB.out)⟩
                · rw [if_neg c42] at H
                  exact absurd H (by simp)
              · replace c41 := Bool.eq_false_iff.mpr c41
                subst c41
                have H1 : (if (x5_1.length : Int) > 1000 then (some (([] : List (S63)), 3, 0)) else (some (x5_1, 0, 0))) = some (r1, r2, r3) := by rw [if_neg (show ¬ (false = true) by decide)] at H; exact H
                clear H
                have H := H1
                clear H1
                by_cases c48 : (x5_1.length : Int) > 1000
                · rw [if_pos c48] at H
                  have c48b0 : decide (1000 < (x5_1.length : Int)) = true := decide_eq_true c48
                  have c48b1 : decide (1000 < x5_1.length) = true := decide_eq_true (by omega)
                  clear c48
                  simp only [Option.some.injEq, Prod.mk.injEq] at H
                  obtain ⟨rfl, rfl, rfl⟩ := H
                  obtain ⟨Ao49, co49, eo49⟩ := Kd.R_slice HO_5.out
                  subst eo49
                  go_wp2
                  go_ret3
                  exact ⟨_, by first | rfl | (simp [errW_none, errW_some] <;> rfl) | (simp [*, errW_none, errW_some] <;> rfl), by first | exact Kd.R_nil _ _ _ _ _ | exact Kd.N_nil _ _ _ _ _ | exact Kd.V_nil _ _ _ _ _ | exact Kd.Q_nil _ _ _ _ _ | exact Kd.S_nil _ _ _ _ _, by repeat (first | (with_reducible first | exact HB.out | apply below_alloc | apply pw_below_drewN | apply below_drew1) | exact HB.out)⟩
                · rw [if_neg c48] at H
                  have c48b0 : decide (1000 < (x5_1.length : Int)) = false := decide_eq_false c48
                  have c48b1 : decide (1000 < x5_1.length) = false := decide_eq_false (by omega)
                  clear c48
                  simp only [Option.some.injEq, Prod.mk.injEq] at H
                  obtain ⟨rfl, rfl, rfl⟩ := H
                  obtain ⟨Ao50, co50, eo50⟩ := Kd.R_slice HO_5.out
                  subst eo50
                  go_wp2
                  go_ret3
                  exact ⟨_, by first | rfl | (simp [errW_none, errW_some] <;> rfl) | (simp [*, errW_none, errW_some] <;> rfl), by (with_reducible repeat (first | apply Kd.R_alloc | apply Kd.R_drewN | apply Kd.R_drew)); exact HO_5.out, by repeat (first | (with_reducible first | exact HB.out | apply below_alloc | apply pw_below_drewN | apply below_drew1) | exact HB.out)⟩

/-! ### redactorref06_Same: function 68 -/
def redactorref06_Same.l0 : Nat → List (S63) → List (S63) → Int → Option (Bool)
  | 0, _, _, _ => none
  | k + 1, x0, x1, x5 => if x5 < (x0.length : Int) then (if 0 ≤ x5 then (if x5 < (x1.length : Int) then (if ((rd_T63 x0 x5).f0) = ((rd_T63 x1 x5).f0) then (if ((rd_T63 x0 x5).f1).toList = ((rd_T63 x1 x5).f1).toList then (if ((rd_T63 x0 x5).f2) = ((rd_T63 x1 x5).f2) then (redactorref06_Same.l0 k x0 x1 (wrap64 (x5 + 1))) else (some false)) else (some false)) else (some false)) else (none)) else (none)) else (some true)
def redactorref06_Same.f (k : Nat) (l0 : List (S63)) (l1 : List (S63)) : Option (Bool) := if (l0.length : Int) = (l1.length : Int) then (redactorref06_Same.l0 k l0 l1 0) else (some false)
theorem redactorref06_Same.mono_l : ∀ k, (∀ y0 y1 y2, LeO (redactorref06_Same.l0 k y0 y1 y2) (redactorref06_Same.l0 (k + 1) y0 y1 y2))
  | 0 => fun _ _ _ r h => by simp [redactorref06_Same.l0] at h
  | k + 1 => by
    have ih0 := redactorref06_Same.mono_l k
    · intro y0 y1 y2
      unfold redactorref06_Same.l0
      repeat' first
      | (with_reducible exact ih0 _ _ _)
      | (with_reducible exact LeO.refl _)
      | (with_reducible exact LeO.none _)
      | (with_reducible refine LeO.ite ?_ ?_)
      | (with_reducible refine LeO.bind ?_ (fun _ => ?_))
      | exact ih0 _ _ _
      | exact LeO.none _
      | refine LeO.ite ?_ ?_
      | refine LeO.bind ?_ (fun _ => ?_)
theorem redactorref06_Same.mono : ∀ a0 a1 k, LeO (redactorref06_Same.f k a0 a1) (redactorref06_Same.f (k + 1) a0 a1) := by
  intro a0 a1 k
  have ih0 := redactorref06_Same.mono_l k
  unfold redactorref06_Same.f
  repeat' first
      | (with_reducible exact ih0 _ _ _)
      | (with_reducible exact LeO.refl _)
      | (with_reducible exact LeO.none _)
      | (with_reducible refine LeO.ite ?_ ?_)
      | (with_reducible refine LeO.bind ?_ (fun _ => ?_))
      | exact ih0 _ _ _
      | exact LeO.none _
      | refine LeO.ite ?_ ?_
      | refine LeO.bind ?_ (fun _ => ?_)
set_option maxHeartbeats 8000000 in
set_option maxRecDepth 100000 in
theorem redactorref06_Same.calls (k : Nat) (A0 : Option Addr) (c0 : Nat) (l0 : List (S63)) (A1 : Option Addr) (c1 : Nat) (l1 : List (S63)) (r : Bool) (w : World) (hr0 : Kd.C k63 w A0 l0.length l0) (hc0 : l0.length ≤ c0) (hr1 : Kd.C k63 w A1 l1.length l1) (hc1 : l1.length ≤ c1) (h : redactorref06_Same.f k l0 l1 = some r) :
    Calls Tryz.prog 68 #[.slice A0 l0.length c0, .slice A1 l1.length c1] w fun e w' => e = .returned (.bool r) ∧ Drawn0 w w' := by
  have HR0 := Aside0.mk hr0
  have HC0 := Aside0.mk hc0
  clear hr0 hc0
  have HR1 := Aside0.mk hr1
  have HC1 := Aside0.mk hc1
  clear hr1 hc1
  have H : (if (l0.length : Int) = (l1.length : Int) then (redactorref06_Same.l0 k l0 l1 0) else (some false)) = some r := h
  clear h
  by_cases c3 : (l0.length : Int) = (l1.length : Int)
  · rw [if_pos c3] at H
    have c3b0 : ((l0.length : Int) == (l1.length : Int)) = true := beq_iff_eq.mpr c3
    have c3b1 : ((l0.length : Int) != (l1.length : Int)) = false := bne_eq_false_iff_eq.mpr c3
    have c3b2 : (l0.length == l1.length) = true := by first | simpa using c3 | (simp at c3 ⊢; omega)
    clear c3
    have H' := Aside0.mk H
    clear H
    go_enter Tryz.func68, Tryz.ntmps68
    go_wp2
    repeat (go_quiet (fail); try go_wp2)
    go_loopg [5] k (fun kq v5 w' => ∃ (x5_1 : Int), v5 = .int .i64 x5_1 ∧ Aside0 (redactorref06_Same.l0 kq l0 l1 x5_1 = some r) ∧ Aside0 (kq ≤ k) ∧ Drawn0 w w')
    case atStart => exact ⟨(0), (by first | rfl | (simp; done) | (simp [*]; done)), H', ⟨Nat.le_refl _⟩, by repeat (first | exact Drawn0.refl _ | apply Drawn0.step)⟩
    case round =>
      clear H'
      try clear c1
      try clear p2
      try clear c3
      try clear c3b0
      try clear c3b1
      try clear c3b2
      obtain ⟨x5_1, rfl, HA, HK1, ⟨m1, rfl⟩⟩ := hrel
      cases gk with
      | zero => exact absurd HA.out (by simp [redactorref06_Same.l0])
      | succ k1 =>
        have H := HA.out
        clear HA
        simp only [redactorref06_Same.l0] at H
        by_cases c4 : x5_1 < (l0.length : Int)
        · rw [if_pos c4] at H
          have c4b0 : decide (x5_1 < (l0.length : Int)) = true := decide_eq_true c4
          clear c4
          by_cases c5 : 0 ≤ x5_1
          · rw [if_pos c5] at H
            have c5b0 : decide (0 ≤ x5_1) = true := decide_eq_true c5
            clear c5
            by_cases c6 : x5_1 < (l1.length : Int)
            · rw [if_pos c6] at H
              have c6b0 : decide (x5_1 < (l1.length : Int)) = true := decide_eq_true c6
              clear c6
              by_cases c7 : ((rd_T63 l0 x5_1).f0) = ((rd_T63 l1 x5_1).f0)
              · rw [if_pos c7] at H
                have c7b0 : (((rd_T63 l0 x5_1).f0) == ((rd_T63 l1 x5_1).f0)) = true := beq_iff_eq.mpr c7
                have c7b1 : (((rd_T63 l0 x5_1).f0) != ((rd_T63 l1 x5_1).f0)) = false := bne_eq_false_iff_eq.mpr c7
                clear c7
                by_cases c8 : ((rd_T63 l0 x5_1).f1).toList = ((rd_T63 l1 x5_1).f1).toList
                · rw [if_pos c8] at H
                  have c8b0 : (((rd_T63 l0 x5_1).f1).toList == ((rd_T63 l1 x5_1).f1).toList) = true := beq_iff_eq.mpr c8
                  have c8b1 : (((rd_T63 l0 x5_1).f1).toList != ((rd_T63 l1 x5_1).f1).toList) = false := bne_eq_false_iff_eq.mpr c8
                  clear c8
                  by_cases c9 : ((rd_T63 l0 x5_1).f2) = ((rd_T63 l1 x5_1).f2)
                  · rw [if_pos c9] at H
                    have c9b0 : (((rd_T63 l0 x5_1).f2) == ((rd_T63 l1 x5_1).f2)) = true := beq_iff_eq.mpr c9
                    have c9b1 : (((rd_T63 l0 x5_1).f2) != ((rd_T63 l1 x5_1).f2)) = false := bne_eq_false_iff_eq.mpr c9
                    clear c9
                    have H' := Aside0.mk H
                    clear H
                    have p150 : 0 ≤ (x5_1 : Int) := of_decide_eq_true (by first | (with_reducible assumption) | assumption)
                    have q150 : x5_1 < (l0.length : Int) := of_decide_eq_true (by first | (with_reducible assumption) | assumption)
                    obtain ⟨ad150, e150, hx150_0, hx150_1, hx150_2, hx150_3⟩ := at_T63 HR0.out x5_1 p150 q150
                    cases e150
                    replace p150 := eq_true p150
                    replace q150 := eq_true q150
                    have p151 : 0 ≤ (x5_1 : Int) := of_decide_eq_true (by first | (with_reducible assumption) | assumption)
                    have q151 : x5_1 < (l1.length : Int) := of_decide_eq_true (by first | (with_reducible assumption) | assumption)
                    obtain ⟨ad151, e151, hx151_0, hx151_1, hx151_2, hx151_3⟩ := at_T63 HR1.out x5_1 p151 q151
                    cases e151
                    replace p151 := eq_true p151
                    replace q151 := eq_true q151
                    have p152 : 0 ≤ (x5_1 : Int) := of_decide_eq_true (by first | (with_reducible assumption) | assumption)
                    have q152 : x5_1 < (l0.length : Int) := of_decide_eq_true (by first | (with_reducible assumption) | assumption)
                    obtain ⟨ad152, e152, hx152_0, hx152_1, hx152_2, hx152_3⟩ := at_T63 HR0.out x5_1 p152 q152
                    obtain rfl : ad150 = ad152 := (by injection e152)
                    replace p152 := eq_true p152
                    replace q152 := eq_true q152
                    have p153 : 0 ≤ (x5_1 : Int) := of_decide_eq_true (by first | (with_reducible assumption) | assumption)
                    have q153 : x5_1 < (l1.length : Int) := of_decide_eq_true (by first | (with_reducible assumption) | assumption)
                    obtain ⟨ad153, e153, hx153_0, hx153_1, hx153_2, hx153_3⟩ := at_T63 HR1.out x5_1 p153 q153
                    obtain rfl : ad151 = ad153 := (by injection e153)
                    replace p153 := eq_true p153
                    replace q153 := eq_true q153
                    have p154 : 0 ≤ (x5_1 : Int) := of_decide_eq_true (by first | (with_reducible assumption) | assumption)
                    have q154 : x5_1 < (l0.length : Int) := of_decide_eq_true (by first | (with_reducible assumption) | assumption)
                    obtain ⟨ad154, e154, hx154_0, hx154_1, hx154_2, hx154_3⟩ := at_T63 HR0.out x5_1 p154 q154
                    obtain rfl : ad150 = ad154 := (by injection e154)
                    replace p154 := eq_true p154
                    replace q154 := eq_true q154
                    have p155 : 0 ≤ (x5_1 : Int) := of_decide_eq_true (by first | (with_reducible assumption) | assumption)
                    have q155 : x5_1 < (l1.length : Int) := of_decide_eq_true (by first | (with_reducible assumption) | assumption)
                    obtain ⟨ad155, e155, hx155_0, hx155_1, hx155_2, hx155_3⟩ := at_T63 HR1.out x5_1 p155 q155
                    obtain rfl : ad151 = ad155 := (by injection e155)
                    replace p155 := eq_true p155
                    replace q155 := eq_true q155
                    go_wp2
                    repeat (go_quiet (fail); try go_wp2)
                    go_roundg k1
                    case measure => have := HK1.out; omega
                    case rel => exact ⟨(wrap64 (x5_1 + 1)), (by first | rfl | (simp; done) | (simp [*]; done)), H', ⟨by have := HK1.out; omega⟩, by repeat (first | exact Drawn0.refl _ | apply Drawn0.step)⟩
                  · rw [if_neg c9] at H
                    have c9b0 : (((rd_T63 l0 x5_1).f2) == ((rd_T63 l1 x5_1).f2)) = false := beq_eq_false_iff_ne.mpr c9
                    have c9b1 : (((rd_T63 l0 x5_1).f2) != ((rd_T63 l1 x5_1).f2)) = true := bne_iff_ne.mpr c9
                    obtain rfl := Option.some.inj H
                    have p150 : 0 ≤ (x5_1 : Int) := of_decide_eq_true (by first | (with_reducible assumption) | assumption)
                    have q150 : x5_1 < (l0.length : Int) := of_decide_eq_true (by first | (with_reducible assumption) | assumption)
                    obtain ⟨ad150, e150, hx150_0, hx150_1, hx150_2, hx150_3⟩ := at_T63 HR0.out x5_1 p150 q150
                    cases e150
                    replace p150 := eq_true p150
                    replace q150 := eq_true q150
                    have p151 : 0 ≤ (x5_1 : Int) := of_decide_eq_true (by first | (with_reducible assumption) | assumption)
                    have q151 : x5_1 < (l1.length : Int) := of_decide_eq_true (by first | (with_reducible assumption) | assumption)
                    obtain ⟨ad151, e151, hx151_0, hx151_1, hx151_2, hx151_3⟩ := at_T63 HR1.out x5_1 p151 q151
                    cases e151
                    replace p151 := eq_true p151
                    replace q151 := eq_true q151
                    have p152 : 0 ≤ (x5_1 : Int) := of_decide_eq_true (by first | (with_reducible assumption) | assumption)
                    have q152 : x5_1 < (l0.length : Int) := of_decide_eq_true (by first | (with_reducible assumption) | assumption)
                    obtain ⟨ad152, e152, hx152_0, hx152_1, hx152_2, hx152_3⟩ := at_T63 HR0.out x5_1 p152 q152
                    obtain rfl : ad150 = ad152 := (by injection e152)
                    replace p152 := eq_true p152
                    replace q152 := eq_true q152
                    have p153 : 0 ≤ (x5_1 : Int) := of_decide_eq_true (by first | (with_reducible assumption) | assumption)
                    have q153 : x5_1 < (l1.length : Int) := of_decide_eq_true (by first | (with_reducible assumption) | assumption)
                    obtain ⟨ad153, e153, hx153_0, hx153_1, hx153_2, hx153_3⟩ := at_T63 HR1.out x5_1 p153 q153
                    obtain rfl : ad151 = ad153 := (by injection e153)
                    replace p153 := eq_true p153
                    replace q153 := eq_true q153
                    have p154 : 0 ≤ (x5_1 : Int) := of_decide_eq_true (by first | (with_reducible assumption) | assumption)
                    have q154 : x5_1 < (l0.length : Int) := of_decide_eq_true (by first | (with_reducible assumption) | assumption)
                    obtain ⟨ad154, e154, hx154_0, hx154_1, hx154_2, hx154_3⟩ := at_T63 HR0.out x5_1 p154 q154
                    obtain rfl : ad150 = ad154 := (by injection e154)
                    replace p154 := eq_true p154
                    replace q154 := eq_true q154
                    have p155 : 0 ≤ (x5_1 : Int) := of_decide_eq_true (by first | (with_reducible assumption) | assumption)
                    have q155 : x5_1 < (l1.length : Int) := of_decide_eq_true (by first | (with_reducible assumption) | assumption)
                    obtain ⟨ad155, e155, hx155_0, hx155_1, hx155_2, hx155_3⟩ := at_T63 HR1.out x5_1 p155 q155
                    obtain rfl : ad151 = ad155 := (by injection e155)
                    replace p155 := eq_true p155
                    replace q155 := eq_true q155
                    go_wp2
                    repeat (go_quiet (fail); try go_wp2)
                    go_ret
                    exact ⟨by first | rfl | (simp; done) | (simp [*]; done), by repeat (first | exact Drawn0.refl _ | apply Drawn0.step)⟩
                · rw [if_neg c8] at H
                  have c8b0 : (((rd_T63 l0 x5_1).f1).toList == ((rd_T63 l1 x5_1).f1).toList) = false := beq_eq_false_iff_ne.mpr c8
                  have c8b1 : (((rd_T63 l0 x5_1).f1).toList != ((rd_T63 l1 x5_1).f1).toList) = true := bne_iff_ne.mpr c8
                  obtain rfl := Option.some.inj H
                  have p150 : 0 ≤ (x5_1 : Int) := of_decide_eq_true (by first | (with_reducible assumption) | assumption)
                  have q150 : x5_1 < (l0.length : Int) := of_decide_eq_true (by first | (with_reducible assumption) | assumption)
                  obtain ⟨ad150, e150, hx150_0, hx150_1, hx150_2, hx150_3⟩ := at_T63 HR0.out x5_1 p150 q150
                  cases e150
                  replace p150 := eq_true p150
                  replace q150 := eq_true q150
                  have p151 : 0 ≤ (x5_1 : Int) := of_decide_eq_true (by first | (with_reducible assumption) | assumption)
                  have q151 : x5_1 < (l1.length : Int) := of_decide_eq_true (by first | (with_reducible assumption) | assumption)
                  obtain ⟨ad151, e151, hx151_0, hx151_1, hx151_2, hx151_3⟩ := at_T63 HR1.out x5_1 p151 q151
                  cases e151
                  replace p151 := eq_true p151
                  replace q151 := eq_true q151
                  have p152 : 0 ≤ (x5_1 : Int) := of_decide_eq_true (by first | (with_reducible assumption) | assumption)
                  have q152 : x5_1 < (l0.length : Int) := of_decide_eq_true (by first | (with_reducible assumption) | assumption)
                  obtain ⟨ad152, e152, hx152_0, hx152_1, hx152_2, hx152_3⟩ := at_T63 HR0.out x5_1 p152 q152
                  obtain rfl : ad150 = ad152 := (by injection e152)
                  replace p152 := eq_true p152
                  replace q152 := eq_true q152
                  have p153 : 0 ≤ (x5_1 : Int) := of_decide_eq_true (by first | (with_reducible assumption) | assumption)
                  have q153 : x5_1 < (l1.length : Int) := of_decide_eq_true (by first | (with_reducible assumption) | assumption)
                  obtain ⟨ad153, e153, hx153_0, hx153_1, hx153_2, hx153_3⟩ := at_T63 HR1.out x5_1 p153 q153
                  obtain rfl : ad151 = ad153 := (by injection e153)
                  replace p153 := eq_true p153
                  replace q153 := eq_true q153
                  go_wp2
                  repeat (go_quiet (fail); try go_wp2)
                  go_ret
                  exact ⟨by first | rfl | (simp; done) | (simp [*]; done), by repeat (first | exact Drawn0.refl _ | apply Drawn0.step)⟩
              · rw [if_neg c7] at H
                have c7b0 : (((rd_T63 l0 x5_1).f0) == ((rd_T63 l1 x5_1).f0)) = false := beq_eq_false_iff_ne.mpr c7
                have c7b1 : (((rd_T63 l0 x5_1).f0) != ((rd_T63 l1 x5_1).f0)) = true := bne_iff_ne.mpr c7
                obtain rfl := Option.some.inj H
                have p150 : 0 ≤ (x5_1 : Int) := of_decide_eq_true (by first | (with_reducible assumption) | assumption)
                have q150 : x5_1 < (l0.length : Int) := of_decide_eq_true (by first | (with_reducible assumption) | assumption)
                obtain ⟨ad150, e150, hx150_0, hx150_1, hx150_2, hx150_3⟩ := at_T63 HR0.out x5_1 p150 q150
                cases e150
                replace p150 := eq_true p150
                replace q150 := eq_true q150
                have p151 : 0 ≤ (x5_1 : Int) := of_decide_eq_true (by first | (with_reducible assumption) | assumption)
                have q151 : x5_1 < (l1.length : Int) := of_decide_eq_true (by first | (with_reducible assumption) | assumption)
                obtain ⟨ad151, e151, hx151_0, hx151_1, hx151_2, hx151_3⟩ := at_T63 HR1.out x5_1 p151 q151
                cases e151
                replace p151 := eq_true p151
                replace q151 := eq_true q151
                go_wp2
                repeat (go_quiet (fail); try go_wp2)
                go_ret
                exact ⟨by first | rfl | (simp; done) | (simp [*]; done), by repeat (first | exact Drawn0.refl _ | apply Drawn0.step)⟩
            · rw [if_neg c6] at H
              exact absurd H (by simp)
          · rw [if_neg c5] at H
            exact absurd H (by simp)
        · rw [if_neg c4] at H
          have c4b0 : decide (x5_1 < (l0.length : Int)) = false := decide_eq_false c4
          clear c4
          obtain rfl := Option.some.inj H
          go_wp2
          repeat (go_quiet (fail); try go_wp2)
          go_ret
          exact ⟨by first | rfl | (simp; done) | (simp [*]; done), by repeat (first | exact Drawn0.refl _ | apply Drawn0.step)⟩
  · rw [if_neg c3] at H
    have c3b0 : ((l0.length : Int) == (l1.length : Int)) = false := beq_eq_false_iff_ne.mpr c3
    have c3b1 : ((l0.length : Int) != (l1.length : Int)) = true := bne_iff_ne.mpr c3
    have c3b2 : (l0.length == l1.length) = false := by first | simpa using c3 | (simp at c3 ⊢; omega)
    obtain rfl := Option.some.inj H
    go_enter Tryz.func68, Tryz.ntmps68
    go_wp2
    repeat (go_quiet (fail); try go_wp2)
    go_ret
    exact ⟨by first | rfl | (simp; done) | (simp [*]; done), by repeat (first | exact Drawn0.refl _ | apply Drawn0.step)⟩

end Go.Proofs.YtipmmkelialgkaaGreatDoor.PLex
